/- Operations on maps, and what is ranged over: whatever they answer over the abstract heap, the model's operations answer. -/
import Derived.Test.YtlbaphapjclkdaaGreatDoorEv10
namespace Go.Proofs.YtlbaphapjclkdaaGreatDoor.Ev
set_option linter.unusedVariables false
set_option linter.unusedSimpArgs false

section
variable {B0 : Nat} {P : Program} {m : M} {h h' : H} {w : World}

/-! ### entries -/
theorem ERels.len {es : List (AV × AV × Nat)} {ES : List MapEntry} (q : ERels m es ES) : ES.length = es.length := by
  induction q with
  | nil => rfl
  | cons _ _ _ _ ih => simp [ih]
structure EnRel (m : M) (e : AV × AV × Nat) (E : MapEntry) : Prop where
  key : VRel m e.1 E.key
  val : VRel m e.2.1 E.val
  born : E.born = e.2.2
theorem ERels.get {es : List (AV × AV × Nat)} {ES : List MapEntry} (q : ERels m es ES) : ∀ (i : Nat) (e : AV × AV × Nat), es[i]? = some e → ∃ E, ES[i]? = some E ∧ EnRel m e E := by
  induction q with
  | nil => intro i e h; simp at h
  | @cons k v n l e' l' hk hv hn t ih =>
    intro i e h
    cases i with
    | zero => simp at h; subst h; exact ⟨e', by simp, hk, hv, hn⟩
    | succ i => simpa using ih i e (by simpa using h)
theorem ERels.get' {es : List (AV × AV × Nat)} {ES : List MapEntry} (q : ERels m es ES) : ∀ (i : Nat) (E : MapEntry), ES[i]? = some E → ∃ e, es[i]? = some e ∧ EnRel m e E := by
  intro i E h
  have hi : i < ES.length := (List.getElem?_eq_some_iff.1 h).1
  have hi' : i < es.length := by rw [← q.len]; exact hi
  obtain ⟨E', h1, h2⟩ := q.get i es[i] (by simp [hi'])
  rw [h] at h1; cases h1
  exact ⟨_, by simp [hi'], h2⟩
theorem ERels.push {es : List (AV × AV × Nat)} {ES : List MapEntry} (q : ERels m es ES) {k v : AV} {k' v' : Value} (hk : VRel m k k') (hv : VRel m v v') (c : Nat) : ERels m (es ++ [(k, v, c)]) (ES ++ [{ key := k', val := v', born := c }]) := by
  induction q with
  | nil => exact .cons hk hv rfl .nil
  | cons a b c _ ih => exact .cons a b c ih
theorem ERels.set {es : List (AV × AV × Nat)} {ES : List MapEntry} (q : ERels m es ES) : ∀ (i : Nat) {e : AV × AV × Nat} {E : MapEntry}, EnRel m e E → ERels m (es.set i e) (ES.set i E) := by
  induction q with
  | nil => intro i e E h; exact .nil
  | cons a b c t ih =>
    intro i e E h
    cases i with
    | zero => exact .cons h.key h.val h.born t
    | succ i => exact .cons a b c (ih i h)
theorem ERels.erase {es : List (AV × AV × Nat)} {ES : List MapEntry} (q : ERels m es ES) : ∀ (i : Nat), ERels m (es.eraseIdx i) (ES.eraseIdx i) := by
  induction q with
  | nil => intro i; exact .nil
  | cons a b c t ih =>
    intro i
    cases i with
    | zero => exact t
    | succ i => exact .cons a b c (ih i)
theorem idxM_spec {kk : KTy} {k : AV} : ∀ {es : List (AV × AV × Nat)} {i : Nat}, idxM kk k es = some (some i) → ∃ e, es[i]? = some e ∧ keyEq kk k e.1 = some true
  | [], i, h => by cases h
  | e :: r, i, h => by
    simp only [idxM] at h
    split at h
    · rename_i hc; cases h; exact ⟨e, rfl, hc⟩
    · obtain ⟨q, h1, h2⟩ := Option.map_eq_some_iff.1 h
      obtain ⟨j, rfl, rfl⟩ := Option.map_eq_some_iff.1 h2
      obtain ⟨e', h3, h4⟩ := idxM_spec h1
      exact ⟨e', by simpa using h3, h4⟩
    · cases h
theorem sameBits_flat (n : Nat) : ∀ {ks : List FK} {x y : List AV} {xs ys : List Value}, VRels m x xs → VRels m y ys → flatEqK ks x y = some true → (xs.length == ys.length && (xs.zip ys).all fun p => Instr.sameBits n p.1 p.2) = true
  | [], x, y, xs, ys, vx, vy, h => by
    cases vx <;> cases vy <;> first | rfl | cases h
  | k :: ks, x, y, xs, ys, vx, vy, h => by
    cases vx with
    | nil => cases k <;> cases y <;> simp [flatEqK] at h
    | @cons a va x xs ra vx =>
    cases vy with
    | nil => cases k <;> cases a <;> simp [flatEqK] at h
    | @cons c vc y ys rc vy =>
    have main : ∀ {r : Bool}, flatEqK ks x y = some r → r = true → Instr.sameBits n va vc = true → ((va :: xs).length == (vc :: ys).length && ((va :: xs).zip (vc :: ys)).all fun p => Instr.sameBits n p.1 p.2) = true := by
      intro r hr hb hs
      subst hb
      have := sameBits_flat n vx vy hr
      simp only [Bool.and_eq_true, beq_iff_eq] at this
      simp only [List.length_cons, List.zip_cons_cons, List.all_cons, hs, Bool.true_and, Bool.and_eq_true, beq_iff_eq]
      exact ⟨by rw [this.1], this.2⟩
    cases k <;> cases a <;> cases c <;> simp only [flatEqK] at h <;> (try (cases h; done))
    · split at h
      case isFalse => cases h
      rename_i ek; subst ek
      obtain ⟨r, hr, hb⟩ := Option.map_eq_some_iff.1 h
      simp only [Bool.and_eq_true, beq_iff_eq] at hb
      cases ra; cases rc
      exact main hr hb.2 (by cases n <;> simp [Instr.sameBits, hb.1])
    · obtain ⟨r, hr, hb⟩ := Option.map_eq_some_iff.1 h
      simp only [Bool.and_eq_true, beq_iff_eq] at hb
      cases ra; cases rc
      exact main hr hb.2 (by rw [hb.1]; cases n <;> simp [Instr.sameBits, bytes_beq])
    · obtain ⟨r, hr, hb⟩ := Option.map_eq_some_iff.1 h
      simp only [Bool.and_eq_true, beq_iff_eq] at hb
      cases ra; cases rc
      exact main hr hb.2 (by cases n <;> simp [Instr.sameBits, hb.1])
theorem flatEqK_sym : ∀ {ks : List FK} {x y : List AV}, flatEqK ks x y = some true → flatEqK ks y x = some true
  | [], x, y, h => by cases x <;> cases y <;> first | rfl | cases h
  | k :: ks, x, y, h => by
    cases x with
    | nil => cases k <;> cases y <;> simp [flatEqK] at h
    | cons a x =>
    cases y with
    | nil => cases k <;> cases a <;> simp [flatEqK] at h
    | cons c y =>
    cases k <;> cases a <;> cases c <;> simp only [flatEqK] at h ⊢ <;> (try (cases h; done))
    · split at h
      case isFalse => cases h
      rename_i ek; subst ek
      obtain ⟨r, hr, hb⟩ := Option.map_eq_some_iff.1 h
      simp only [Bool.and_eq_true, beq_iff_eq] at hb
      rw [hb.2] at hr
      rw [if_pos rfl, flatEqK_sym hr, hb.1]; simp
    · obtain ⟨r, hr, hb⟩ := Option.map_eq_some_iff.1 h
      simp only [Bool.and_eq_true, beq_iff_eq] at hb
      rw [hb.2] at hr
      rw [flatEqK_sym hr, hb.1]; simp
    · obtain ⟨r, hr, hb⟩ := Option.map_eq_some_iff.1 h
      simp only [Bool.and_eq_true, beq_iff_eq] at hb
      rw [hb.2] at hr
      rw [flatEqK_sym hr, hb.1]; simp
theorem same_bits {kk : KTy} {k kx : AV} {k' q : Value} (hk : VRel m k k') (hkx : VRel m kx q) (h : keyEq kk k kx = some true) : Instr.sameBits 10000 q k' = true := by
  cases kk with
  | int =>
    cases hk <;> cases hkx <;> simp only [keyEq] at h <;> (try (cases h; done))
    split at h
    case isFalse => cases h
    rename_i ek; subst ek
    simp only [Option.some.injEq, beq_iff_eq] at h
    simp [Instr.sameBits, h]
  | str =>
    cases hk <;> cases hkx <;> simp only [keyEq] at h <;> (try (cases h; done))
    simp only [Option.some.injEq, beq_iff_eq] at h
    subst h
    simp [Instr.sameBits, bytes_beq]
  | flat ks =>
    obtain ⟨x, xs, y, ys, rfl, rfl, rfl, rfl, vx, vy, hf⟩ := flat_of hk hkx h
    have := sameBits_flat 9999 vy vx (flatEqK_sym hf)
    simp only [Bool.and_eq_true, beq_iff_eq, List.all_eq_true] at this
    simp only [Instr.sameBits, List.size_toArray, Bool.and_eq_true, beq_iff_eq, List.all_eq_true]
    exact ⟨this.1, fun p hp => this.2 p hp⟩
theorem run_keyThatStays {kk : KTy} {k kx : AV} {k' q : Value} (hk : VRel m k k') (hkx : VRel m kx q) (h : keyEq kk k kx = some true) : (Instr.keyThatStays q k').run P w = .ok k' w := by
  simp [Instr.keyThatStays, same_bits hk hkx h]

/-! ### the operations -/
theorem zeroV_eq {t : TypeId} {z : AV} (h : zeroV P t = some z) : ∃ (i : TypeInfo) (v : Value), P.info? t = some i ∧ i.zero = some v ∧ ∀ m : M, VRel m z v := by
  unfold zeroV at h
  obtain ⟨v, h1, h2⟩ := Option.bind_eq_some_iff.1 h
  obtain ⟨i, h3, h4⟩ := Option.bind_eq_some_iff.1 h1
  exact ⟨i, v, h3, h4, fun m => trVal_rel h2⟩
theorem sound_mapGet (r : Rel P B0 m h w) {t kt e : TypeId} {kk : KTy} {z : AV} (hu : P.underlying t = some (.map kt e)) (hkt : keyTy P kt = some kk) (hz : zeroV P e = some z) (ok : Bool) {x k v : AV} {x' k' : Value} (hx : VRel m x x') (hk : VRel m k k')
    (he : mapGetA h kk ok z k x = some v) : SemOK P B0 m h w v h ((Instr.lookup t x' k' ok).run P w) := by
  obtain ⟨i, zv, hi, hzv, hzr⟩ := zeroV_eq hz
  cases hx <;> simp only [mapGetA] at he <;> (try (cases he; done))
  · split at he
    case isFalse => cases he
    rename_i hkk
    have hck := run_checkKey_kk (P := P) (w := w) hkt hk hkk true
    obtain ⟨res', hf, hres⟩ := run_findKey (P := P) (w := w) hkt hk (ERels.nil (m := m)) (res := none) rfl
    cases res' with
    | some p => exact hres.elim
    | none =>
      cases ok
      · cases he
        refine .same r (hzr m) ?_
        simp [Instr.lookup, run_underlying hu, hck, hf, run_zero hi hzv]
      · cases he
        refine .same r (v' := .tuple #[zv, .bool false]) (.tup (.cons (hzr m) (.cons (.bool _) .nil))) ?_
        simp [Instr.lookup, run_underlying hu, hck, hf, run_zero hi hzv]
  · rename_i o b hm
    split at he
    case h_2 => cases he
    rename_i es c hg
    split at he
    case isFalse => cases he
    rename_i hkk
    obtain ⟨hB, _, rec, hb, q⟩ := r.mm hg hm
    cases q with
    | map _ hes =>
    rename_i ES
    have hgo := run_getObj' (P := P) (m := m) (X := .map es c) (.map c hes) hb
    have hck := fun em => run_checkKey_kk (P := P) (w := w) hkt hk hkk em
    split at he
    case h_3 => cases he
    · rename_i hidx
      obtain ⟨res', hf, hres⟩ := run_findKey (P := P) (w := w) hkt hk hes hidx
      cases res' with
      | some p => exact hres.elim
      | none =>
        cases ok
        · cases he
          refine .same r (hzr m) ?_
          simp [Instr.lookup, run_underlying hu, hgo, hck, hf, run_zero hi hzv]
        · cases he
          refine .same r (v' := .tuple #[zv, .bool false]) (.tup (.cons (hzr m) (.cons (.bool _) .nil))) ?_
          simp [Instr.lookup, run_underlying hu, hgo, hck, hf, run_zero hi hzv]
    · rename_i j hidx
      obtain ⟨res', hf, hres⟩ := run_findKey (P := P) (w := w) hkt hk hes hidx
      split at he
      case h_2 => cases he
      rename_i en hen
      cases res' with
      | none => exact hres.elim
      | some p =>
        obtain ⟨rfl, E, hE, hv⟩ := hres
        obtain ⟨E', hE', hrel⟩ := hes.get _ _ hen
        rw [hE] at hE'; cases hE'
        cases ok
        · cases he
          refine .same r (v' := E.val) hrel.val ?_
          simp [Instr.lookup, run_underlying hu, hgo, hck, hf, hv]
        · cases he
          refine .same r (v' := .tuple #[E.val, .bool true]) (.tup (.cons hrel.val (.cons (.bool _) .nil))) ?_
          simp [Instr.lookup, run_underlying hu, hgo, hck, hf, hv]
theorem modify_eq {α : Type} (l : List α) (i : Nat) (f : α → α) {e : α} (h : l[i]? = some e) : (⟨l⟩ : Array α).modify i f = ⟨l.set i (f e)⟩ := by
  apply Array.ext'
  rw [Array.toList_modify]
  show l.modify i f = l.set i (f e)
  induction l generalizing i with
  | nil => simp at h
  | cons x l ih =>
    cases i with
    | zero => simp at h; subst h; rfl
    | succ i => simp only [List.modify_succ_cons, List.set_cons_succ]; rw [ih i (by simpa using h)]
theorem sound_mapPut (r : Rel P B0 m h w) {t kt e : TypeId} {kk : KTy} (hu : P.underlying t = some (.map kt e)) (hkt : keyTy P kt = some kk) {x k v : AV} {x' k' v' : Value} (hx : VRel m x x') (hk : VRel m k k') (hv : VRel m v v')
    (he : mapPutA h kk k v x = some h') : ∃ m' w', (Instr.mapUpdate t x' k' v').run P w = .ok () w' ∧ Rel P B0 m' h' w' ∧ Fr B0 m m' h h' w w' := by
  cases hx <;> simp only [mapPutA] at he <;> (try (cases he; done))
  rename_i o b hm
  split at he
  case h_2 => cases he
  rename_i es c hg
  split at he
  case isFalse => cases he
  rename_i hkk
  obtain ⟨hB, _, rec, hb, q⟩ := r.mm hg hm
  cases q with
  | map _ hes =>
  rename_i ES
  have hq0 : MRel m (.map es c) (.map ⟨ES⟩ c) := .map c hes
  have hgo := run_getObj' (P := P) hq0 hb
  have hso := fun x => run_setObj' (P := P) hq0 x hb
  have hck := run_checkKey_kk (P := P) (w := w) hkt hk hkk false
  split at he
  case h_3 => cases he
  · rename_i hidx
    cases he
    obtain ⟨res', hf, hres⟩ := run_findKey (P := P) (w := w) hkt hk hes hidx
    cases res' with
    | some p => exact hres.elim
    | none =>
      obtain ⟨r', f'⟩ := r.setMem hg hm (X' := .map (es ++ [(k, v, c)]) (c + 1)) (r' := .map ⟨ES ++ [{ key := k', val := v', born := c }]⟩ (c + 1)) (.map _ (hes.push hk hv c))
      refine ⟨_, _, ?_, r', f'⟩
      simp [Instr.mapUpdate, run_underlying hu, hgo, hck, hf, hso]
  · rename_i j hidx
    obtain ⟨res', hf, hres⟩ := run_findKey (P := P) (w := w) hkt hk hes hidx
    split at he
    case h_2 => cases he
    rename_i en hen
    cases he
    cases res' with
    | none => exact hres.elim
    | some p =>
      obtain ⟨rfl, E, hE, hv2⟩ := hres
      obtain ⟨E', hE', hrel⟩ := hes.get _ _ hen
      rw [hE] at hE'; cases hE'
      obtain ⟨e2, h2, hkeq⟩ := idxM_spec hidx
      rw [hen] at h2; cases h2
      have hks := run_keyThatStays (P := P) (w := w) hk hrel.key hkeq
      have hkey : VRel m en.1 k' := by
        -- the keys are the same
        have hsame : en.1 = k := by
          cases kk with
          | int =>
            generalize en.1 = ek at hkeq
            cases k <;> cases ek <;> simp only [keyEq] at hkeq <;> (try (cases hkeq; done))
            split at hkeq
            case isFalse => cases hkeq
            rename_i hh; simp only [Option.some.injEq, beq_iff_eq] at hkeq; rw [hh, hkeq]
          | str =>
            generalize en.1 = ek at hkeq
            cases k <;> cases ek <;> simp only [keyEq] at hkeq <;> (try (cases hkeq; done))
            simp only [Option.some.injEq, beq_iff_eq] at hkeq; rw [hkeq]
          | flat ks =>
            generalize en.1 = ek at hkeq
            cases k <;> cases ek <;> simp only [keyEq] at hkeq <;> (try (cases hkeq; done))
            rename_i x y
            have : ∀ {ks : List FK} {x y : List AV}, flatEqK ks x y = some true → y = x := by
              intro ks
              induction ks with
              | nil => intro x y h; cases x <;> cases y <;> first | rfl | cases h
              | cons k ks ih =>
                intro x y h
                cases x with
                | nil => cases k <;> cases y <;> simp [flatEqK] at h
                | cons a x =>
                cases y with
                | nil => cases k <;> cases a <;> simp [flatEqK] at h
                | cons c y =>
                cases k <;> cases a <;> cases c <;> simp only [flatEqK] at h <;> (try (cases h; done))
                · split at h
                  case isFalse => cases h
                  rename_i ek; subst ek
                  obtain ⟨r, hr, hb⟩ := Option.map_eq_some_iff.1 h
                  simp only [Bool.and_eq_true, beq_iff_eq] at hb
                  rw [hb.2] at hr
                  rw [ih hr, hb.1]
                · obtain ⟨r, hr, hb⟩ := Option.map_eq_some_iff.1 h
                  simp only [Bool.and_eq_true, beq_iff_eq] at hb
                  rw [hb.2] at hr
                  rw [ih hr, hb.1]
                · obtain ⟨r, hr, hb⟩ := Option.map_eq_some_iff.1 h
                  simp only [Bool.and_eq_true, beq_iff_eq] at hb
                  rw [hb.2] at hr
                  rw [ih hr, hb.1]
            rw [this hkeq]
        rw [hsame]; exact hk
      obtain ⟨r', f'⟩ := r.setMem hg hm (X' := .map (es.set p.1 (en.1, v, en.2.2)) c) (r' := .map ⟨ES.set p.1 { E with key := k', val := v' }⟩ c)
        (.map _ (hes.set p.1 (e := (en.1, v, en.2.2)) (E := { E with key := k', val := v' }) ⟨hkey, hv, hrel.born⟩))
      refine ⟨_, _, ?_, r', f'⟩
      have hmod := modify_eq ES p.1 (fun e => { e with key := k', val := v' }) hE
      simp only [Instr.mapUpdate, Sem.run_bind, run_underlying hu, Result.andThen_ok, hgo, hck, hf]
      have hgk : ((((⟨ES⟩ : Array MapEntry)[p.1]?).map (·.key)).getD k') = E.key := by
        have : (⟨ES⟩ : Array MapEntry)[p.1]? = some E := by simpa using hE
        rw [this]; rfl
      rw [hgk, hks]
      simp only [Result.andThen_ok, hmod, hso]
theorem sound_mapDel (r : Rel P B0 m h w) {t kt e ty : TypeId} {ts : Array TypeId} {kk : KTy} (hts : ts[0]? = some t) (hu : P.underlying t = some (.map kt e)) (hkt : keyTy P kt = some kk) {x k : AV} {x' k' : Value} (hx : VRel m x x') (hk : VRel m k k')
    (he : mapDelA h kk k x = some h') : SemOK P B0 m h w (.tup []) h' ((Builtin.delete_ ts ty #[x', k']).run P w) := by
  cases hx <;> simp only [mapDelA] at he <;> (try (cases he; done))
  · split at he
    case isFalse => cases he
    rename_i hkk
    cases he
    have hck := run_checkKey_kk (P := P) (w := w) hkt hk hkk true
    exact .same r (.tup .nil) (by simp [Builtin.delete_, hts, run_underlying hu, hck])
  · rename_i o b hm
    split at he
    case h_2 => cases he
    rename_i es c hg
    split at he
    case isFalse => cases he
    rename_i hkk
    obtain ⟨hB, _, rec, hb, q⟩ := r.mm hg hm
    cases q with
    | map _ hes =>
    rename_i ES
    have hq0 : MRel m (.map es c) (.map ⟨ES⟩ c) := .map c hes
    have hgo := run_getObj' (P := P) hq0 hb
    have hso := fun x => run_setObj' (P := P) hq0 x hb
    have hck := fun em => run_checkKey_kk (P := P) (w := w) hkt hk hkk em
    split at he
    case h_3 => cases he
    · rename_i hidx
      cases he
      obtain ⟨res', hf, hres⟩ := run_findKey (P := P) (w := w) hkt hk hes hidx
      cases res' with
      | some p => exact hres.elim
      | none =>
        obtain ⟨r', f'⟩ := r.setMem hg hm (X' := .map es c) (r' := .map ⟨ES⟩ c) hq0
        refine ⟨_, _, .tuple #[], ?_, r', f', .tup .nil⟩
        simp [Builtin.delete_, hts, run_underlying hu, hgo, hck, hf, hso]
    · rename_i j hidx
      obtain ⟨res', hf, hres⟩ := run_findKey (P := P) (w := w) hkt hk hes hidx
      cases he
      cases res' with
      | none => exact hres.elim
      | some p =>
        obtain ⟨rfl, E, hE, hv2⟩ := hres
        obtain ⟨r', f'⟩ := r.setMem hg hm (X' := .map (es.eraseIdx p.1) c) (r' := .map ⟨ES.eraseIdx p.1⟩ c) (.map _ (hes.erase p.1))
        refine ⟨_, _, .tuple #[], ?_, r', f', .tup .nil⟩
        have hi : p.1 < ES.length := (List.getElem?_eq_some_iff.1 hE).1
        have : (⟨ES⟩ : Array MapEntry).eraseIdxIfInBounds p.1 = ⟨ES.eraseIdx p.1⟩ := by
          unfold Array.eraseIdxIfInBounds
          rw [dif_pos (by simpa using hi)]
          apply Array.ext'; simp
        simp [Builtin.delete_, hts, run_underlying hu, hgo, hck, hf, hso, this]
theorem sound_rangeM (r : Rel P B0 m h w) {t k e : TypeId} (hu : P.underlying t = some (.map k e)) {x v : AV} {x' : Value} (hx : VRel m x x') (he : rangeMA h x = some (v, h')) : SemOK P B0 m h w v h' ((Instr.range t x').run P w) := by
  cases hx <;> simp only [rangeMA] at he <;> (try (cases he; done))
  · cases he
    obtain ⟨r', f'⟩ := r.pushMem (X := .miter none 0 [] 0) (r' := .mapIter none 0 #[] 0) (.miter0 0 [] 0)
    refine ⟨_, _, .pointer (some ⟨w.heap.size, 0 + 0, none⟩), ?_, r', f', .ptr 0 (by unfold M.set; rw [if_pos rfl])⟩
    simp [Instr.range, run_underlying hu]
  · rename_i o b hm
    split at he
    case h_2 => cases he
    rename_i es c hg
    cases he
    obtain ⟨hB, _, rec, hb, q⟩ := r.mm hg hm
    cases q with
    | map _ hes =>
    rename_i ES
    have hgo := run_getObj' (P := P) (m := m) (X := .map es c) (.map c hes) hb
    obtain ⟨r', f'⟩ := r.pushMem (X := .miter (some o) c [] c) (r' := .mapIter (some b) c #[] c) (.miter hm c [] c)
    refine ⟨_, _, .pointer (some ⟨w.heap.size, 0 + 0, none⟩), ?_, r', f', .ptr 0 (by unfold M.set; rw [if_pos rfl])⟩
    simp [Instr.range, run_underlying hu, hgo]
theorem find_rel {stamp : Nat} {es : List (AV × AV × Nat)} {ES : List MapEntry} (hes : ERels m es ES) : ∀ {e : AV × AV × Nat}, es.find? (·.2.2 == stamp) = some e → ∃ E, ES.find? (·.born == stamp) = some E ∧ EnRel m e E := by
  induction hes with
  | nil => intro e h; cases h
  | @cons k v n l e' l' hk hv hn t ih =>
    intro e h
    simp only [List.find?_cons] at h ⊢
    rw [hn]
    cases hc : (n == stamp) with
    | true => rw [hc] at h; cases h; exact ⟨e', rfl, hk, hv, hn⟩
    | false => rw [hc] at h; exact ih h
theorem sound_entryM (r : Rel P B0 m h w) {x v : AV} {x' : Value} (hx : VRel m x x') (he : entryMA h x = some v) : SemOK P B0 m h w v h ((Instr.entry x').run P w) := by
  cases hx <;> simp only [entryMA] at he <;> (try (cases he; done))
  rename_i o b base sz i hm
  split at he
  case h_2 => cases he
  rename_i heq
  cases heq
  split at he
  case h_2 => cases he
  rename_i mo since seen stepped hg
  split at he
  case h_2 => cases he
  rename_i es c stamp hg2 hlast
  split at he
  case isFalse => cases he
  rename_i hc
  subst hc
  obtain ⟨e, hfind, rfl⟩ := Option.map_eq_some_iff.1 he
  obtain ⟨hB, rfl, rec, hb, q⟩ := r.mm hg hm
  cases q with
  | miter hmo =>
  rename_i b2
  obtain ⟨_, _, rec2, hb2, q2⟩ := r.mm hg2 hmo
  cases q2 with
  | map _ hes =>
  rename_i ES
  have hgo := run_getObj' (P := P) (m := m) (X := .miter (some mo) since seen c) (.miter hmo _ _ _) hb
  have hgo2 := run_getObj' (P := P) (m := m) (X := .map es c) (.map c hes) hb2
  obtain ⟨E, hE, hrel⟩ := find_rel hes hfind
  refine .same r (v' := .tuple #[E.key, E.val]) (.tup (.cons hrel.key (.cons hrel.val .nil))) ?_
  have hbk : (⟨seen⟩ : Array Nat).back? = some stamp := by rw [← hlast]; simp [Array.back?_eq_getElem?, List.getLast?_eq_getElem?]
  have hfd : (⟨ES⟩ : Array MapEntry).find? (·.born == stamp) = some E := by rw [← hE]; simp
  simp only [Instr.entry, Sem.run_bind, Nat.add_zero, hgo, Result.andThen_ok, hbk, hgo2, bne_self_eq_false, Bool.false_eq_true, if_false, hfd, Sem.run_pure]
theorem sound_assert (r : Rel P B0 m h w) {xt t : TypeId} {d : TypeDesc} (hu : P.underlying t = some d) (hd : ∀ a, d ≠ .interface a) {z : AV} (hz : zeroV P t = some z) (ok : Bool) {x v : AV} {x' : Value} (hx : VRel m x x')
    (he : assertA t z ok x = some v) : SemOK P B0 m h w v h ((Instr.typeAssert x' xt t ok).run P w) := by
  obtain ⟨i, zv, hi, hzv, hzr⟩ := zeroV_eq hz
  cases hx <;> simp only [assertA] at he <;> (try (cases he; done))
  · split at he
    case isFalse => cases he
    rename_i hok; cases he; subst hok
    refine .same r (v' := .tuple #[zv, .bool false]) (.tup (.cons (hzr m) (.cons (.bool _) .nil))) ?_
    cases d <;> first | exact absurd rfl (hd _) | simp [Instr.typeAssert, run_underlying hu, run_zero hi hzv]
  · rename_i u a a' ha
    split at he
    · rename_i hut; subst hut
      cases ok
      · cases he
        refine .same r ha ?_
        cases d <;> first | exact absurd rfl (hd _) | simp [Instr.typeAssert, run_underlying hu]
      · cases he
        refine .same r (v' := .tuple #[a', .bool true]) (.tup (.cons ha (.cons (.bool _) .nil))) ?_
        cases d <;> first | exact absurd rfl (hd _) | simp [Instr.typeAssert, run_underlying hu]
    · rename_i hut
      split at he
      case isFalse => cases he
      rename_i hok; cases he; subst hok
      refine .same r (v' := .tuple #[zv, .bool false]) (.tup (.cons (hzr m) (.cons (.bool _) .nil))) ?_
      cases d <;> first | exact absurd rfl (hd _) | simp [Instr.typeAssert, run_underlying hu, hut, run_zero hi hzv]
theorem sound_clear (r : Rel P B0 m h w) {t e ty : TypeId} {es : Nat} {z : List AV} (hu : P.underlying t = some (.slice e)) (hn : sizeP P e = some es) (hz : zeroP P e = some z) {x : AV} {x' : Value} (hx : VRel m x x')
    (he : clearA h es z x = some h') : SemOK P B0 m h w (.tup []) h' ((Builtin.clear_ #[t] ty #[x']).run P w) := by
  obtain ⟨i, zv, hi, hzv, hzr⟩ := zeroP_eq hz
  cases hx <;> simp only [clearA] at he <;> (try (cases he; done))
  · cases he
    exact .same r (.tup .nil) (by simp [Builtin.clear_, run_underlying hu])
  · rename_i o b base sz j len es' cap hm hl hs
    split at he
    case isFalse => cases he
    rename_i hes; subst hes
    split at he
    · rename_i h0; subst h0
      cases he
      exact .same r (.tup .nil) (by simp [Builtin.clear_, run_underlying hu])
    · rename_i h0
      split at he
      case isFalse => cases he
      rename_i hc
      have hzl := (hzr m).len
      have v1 : VRels m (zeros z (len * es')) ((Builtin.zeroCells zv.cells len).toList) := by
        have := zeros_rel (hzr m) (len * es') (by
          by_cases hz0 : z.length = 0
          · left; rw [← hc.1, hz0]; simp
          · exact .inr hz0)
        have e1 : zv.cells.size = es' := by rw [← hc.1, hzl]; simp
        unfold Builtin.zeroCells
        rw [e1]
        rw [e1] at this
        exact this
      have hall : (zeros z (len * es')).all AV.one = true := by
        rw [List.all_eq_true]
        intro a ha
        unfold zeros at ha
        obtain ⟨q, hq, rfl⟩ := List.mem_map.1 ha
        have hq' := List.mem_range.1 hq
        have hz0 : 0 < z.length := by
          rcases Nat.eq_zero_or_pos z.length with h | h
          · rw [hc.1] at h; subst h; simp at hq'
          · exact h
        have hlt : q % z.length < z.length := Nat.mod_lt _ hz0
        have := List.all_eq_true.1 hc.2 z[q % z.length] (List.getElem_mem hlt)
        simpa [List.getD, hlt] using this
      obtain ⟨r', f', hci, hcf⟩ := r.put he hm v1
      have hst := run_storeCells_cells (P := P) b (base + j) (Builtin.zeroCells zv.cells len).toList 0 w (by simpa using hci) (by simpa using hcf) (v1.all_one hall)
      refine ⟨_, _, .tuple #[], ?_, r', f', .tup .nil⟩
      cases len with
      | zero => exact absurd rfl h0
      | succ len =>
        simp only [Builtin.clear_]
        simp only [List.getElem?_toArray, List.length_cons, List.length_nil, Nat.zero_add, Nat.lt_one_iff, List.getElem?_cons_zero, Sem.run_bind, run_underlying hu, Result.andThen_ok, run_zero hi hzv]
        rw [hst]
        rfl
  · rename_i o j es' a q hm
    split at he
    case isFalse => cases he
    rename_i hes; subst hes
    rw [if_pos trivial] at he
    cases he
    exact .same r (.tup .nil) (by simp [Builtin.clear_, run_underlying hu])

/-- the next entry of a map, whichever is drawn -/
theorem sound_nextM (r : Rel P B0 m h w) {ty : TypeId} {x : AV} {x' : Value} (hx : VRel m x x') {K : AV → H → Prop} (he : nextP h K x) : ∃ v h', K v h' ∧ SemOK P B0 m h w v h' ((Instr.next x' false ty).run P w) := by
  cases hx <;> simp only [nextP] at he <;> (try exact he.elim)
  rename_i o b base sz i hm
  split at he
  case h_2 => exact he.elim
  rename_i heq
  cases heq
  split at he
  case h_3 => exact he.elim
  · rename_i a1 a2 a3 hg
    obtain ⟨hB, rfl, rec, hb, q⟩ := r.mm hg hm
    cases q
    have hgo := run_getObj' (P := P) (m := m) (X := .miter none a1 a2 a3) (.miter0 _ _ _) hb
    refine ⟨_, _, he, .same r (.tup (.cons (.bool _) .nil)) ?_⟩
    simp only [Instr.next, Sem.run_bind, Nat.add_zero, hgo, Result.andThen_ok, Sem.run_pure]
  · rename_i mo since seen last hg
    split at he
    case h_2 => exact he.elim
    rename_i es c hg2
    obtain ⟨hguard, hover, hnext⟩ := he
    obtain ⟨hB, rfl, rec, hb, q⟩ := r.mm hg hm
    cases q with
    | miter hmo =>
    rename_i b2
    obtain ⟨_, _, rec2, hb2, q2⟩ := r.mm hg2 hmo
    cases q2 with
    | map _ hes =>
    rename_i ES
    have hq0 : MRel m (.miter (some mo) since seen last) (.mapIter (some b2) since ⟨seen⟩ last) := .miter hmo _ _ _
    have hgo := run_getObj' (P := P) hq0 hb
    have hgo2 := run_getObj' (P := P) (m := m) (X := .map es c) (.map c hes) hb2
    have hso := fun x => run_setObj' (P := P) hq0 x hb
    have hg1 : (!(⟨seen⟩ : Array Nat).isEmpty && !(⟨ES⟩ : Array MapEntry).isEmpty && (⟨ES⟩ : Array MapEntry).all (·.born ≥ last)) = false := by
      rcases hguard with h | h | ⟨e, he1, he2⟩
      · subst h; simp
      · subst h; cases hes; simp
      · obtain ⟨j, hj⟩ := List.getElem?_of_mem he1
        obtain ⟨E, hE, hrel⟩ := hes.get _ _ hj
        have hnot : (⟨ES⟩ : Array MapEntry).all (·.born ≥ last) = false := by
          rw [← Bool.not_eq_true, Array.all_eq_true']
          intro hall
          have := hall E (by simpa using List.mem_of_getElem? hE)
          simp only [ge_iff_le, decide_eq_true_eq] at this
          rw [hrel.born] at this; omega
        rw [hnot]; simp
    generalize hL : (⟨ES⟩ : Array MapEntry).filter (fun e => !(⟨seen⟩ : Array Nat).contains e.born) = left
    generalize hO : left.filter (·.born < since) = old
    generalize hN : left.filter (·.born ≥ since) = new
    have hmemL : ∀ {E : MapEntry}, E ∈ left → E ∈ ES ∧ seen.contains E.born = false := by
      intro E hE
      rw [← hL, Array.mem_filter] at hE
      exact ⟨by simpa using hE.1, by simpa using hE.2⟩
    generalize hC : ((if old.isEmpty then #[none] else #[]) ++ (old ++ new).map some : Array (Option MapEntry)) = cands
    -- at least one candidate
    have hne : cands.size ≠ 0 := by
      rw [← hC]
      cases h : old.isEmpty with
      | true => simp
      | false =>
        simp only [Bool.false_eq_true, if_false]
        have h2 : old.size ≠ 0 := by
          intro h0
          rw [Array.isEmpty] at h
          simp [h0] at h
        simp only [Array.size_append, Array.size_map]
        omega
    obtain ⟨d, wd, hd, hwd, hch⟩ : ∃ (d : Nat) (wd : World), d < cands.size ∧ (wd = w ∨ wd = w.drew) ∧ (choose (.mapNext cands.size)).run P w = .ok d wd := by
      by_cases hf : cands.size ≤ 1
      · exact ⟨0, w, by omega, .inl rfl, by simp [choose, Sem.run, Question.forced, hf]⟩
      · exact ⟨_, w.drew, Nat.mod_lt _ (by omega), .inr rfl, by
          simp only [choose, Sem.run, Question.forced, decide_eq_true_eq, hf, if_false, Question.cut]
          rfl⟩
    have hrd : Rel P B0 m h wd := by rcases hwd with rfl | rfl <;> first | exact r | exact r.drew
    have hfd : Fr B0 m m h h w wd := by rcases hwd with rfl | rfl <;> first | exact Fr.refl _ _ _ _ | exact Fr.drew m h w
    have hbd : wd.heap[b]? = some (.mapIter (some b2) since ⟨seen⟩ last) := by rcases hwd with rfl | rfl <;> exact hb
    have hget : ∃ cd, cands[d]? = some cd := ⟨cands[d], by simp [hd]⟩
    obtain ⟨cd, hcd⟩ := hget
    have hrun : ∀ {R : Result Value}, (match cd with
        | some e => (do setObj b (.mapIter (some b2) since ((⟨seen⟩ : Array Nat).push e.born) c); Pure.pure (.tuple #[.bool true, e.key, e.val]) : Sem Value)
        | none => Pure.pure (.tuple #[.bool false])).run P wd = R → (Instr.next (.pointer (some ⟨b, 0 + 0, none⟩)) false ty).run P w = R := by
      intro R hR
      simp only [Instr.next, Sem.run_bind, Nat.add_zero, hgo, Result.andThen_ok, hgo2, hg1, Bool.false_eq_true, if_false, hL, hO, hN, hC, hch, hcd]
      cases cd <;> exact hR
    cases cd with
    | none =>
      have hol : old.isEmpty = true := by
        cases h : old.isEmpty with
        | true => rfl
        | false =>
          rw [← hC, h] at hcd
          simp only [Bool.false_eq_true, if_false] at hcd
          have := Array.mem_of_getElem? hcd
          simp at this
      refine ⟨_, _, hover ?_, m, wd, .tuple #[.bool false], hrun rfl, hrd, hfd, .tup (.cons (.bool _) .nil)⟩
      intro e he1 he2
      obtain ⟨j, hj⟩ := List.getElem?_of_mem he1
      obtain ⟨E, hE, hrel⟩ := hes.get _ _ hj
      refine Nat.le_of_not_lt fun hlt => ?_
      have hin : E ∈ old := by
        rw [← hO, Array.mem_filter]
        refine ⟨?_, by simp only [decide_eq_true_eq]; rw [hrel.born]; exact hlt⟩
        rw [← hL, Array.mem_filter]
        exact ⟨by simpa using List.mem_of_getElem? hE, by rw [hrel.born]; simpa using he2⟩
      have : old = #[] := by simpa using hol
      rw [this] at hin
      simp at hin
    | some E =>
      have hin : E ∈ left := by
        have h1 := Array.mem_of_getElem? hcd
        rw [← hC] at h1
        have h2 : E ∈ old ∨ E ∈ new := by
          rcases Array.mem_append.1 h1 with h | h
          · split at h <;> simp at h
          · rw [Array.mem_map] at h
            obtain ⟨x, hx, hxe⟩ := h
            cases hxe
            exact Array.mem_append.1 hx
        rcases h2 with h | h
        · rw [← hO, Array.mem_filter] at h; exact h.1
        · rw [← hN, Array.mem_filter] at h; exact h.1
      obtain ⟨hE1, hE2⟩ := hmemL hin
      obtain ⟨j, hj⟩ := List.getElem?_of_mem hE1
      obtain ⟨e, he1, hrel⟩ := hes.get' _ _ hj
      have hem : e ∈ es := List.mem_of_getElem? he1
      have hK := hnext e hem (by rw [← hrel.born]; exact hE2)
      obtain ⟨r', f'⟩ := hrd.setMem hg hm (X' := .miter (some mo) since (seen ++ [e.2.2]) c) (r' := .mapIter (some b2) since ((⟨seen⟩ : Array Nat).push E.born) c) (by
        have : (⟨seen⟩ : Array Nat).push E.born = ⟨seen ++ [e.2.2]⟩ := by rw [hrel.born]; simp
        rw [this]; exact .miter hmo _ _ _)
      refine ⟨_, _, hK, _, _, .tuple #[.bool true, E.key, E.val], hrun ?_, r', hfd.trans f', .tup (.cons (.bool _) (.cons hrel.key (.cons hrel.val .nil)))⟩
      have hso' := run_setObj' (P := P) (w := wd) hq0 (.mapIter (some b2) since ((⟨seen⟩ : Array Nat).push E.born) c) hbd
      simp only [Sem.run_bind, hso', Result.andThen_ok, Sem.run_pure]
end
end Go.Proofs.YtlbaphapjclkdaaGreatDoor.Ev
