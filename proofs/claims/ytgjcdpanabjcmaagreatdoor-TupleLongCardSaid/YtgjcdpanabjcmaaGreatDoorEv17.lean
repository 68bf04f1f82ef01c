/- Slices over the abstract heap: what they hold, what a step leaves as it was. -/
import Derived.Test.YtgjcdpanabjcmaaGreatDoorEv16
namespace Go.Proofs.YtgjcdpanabjcmaaGreatDoor.Ev
set_option linter.unusedVariables false
set_option linter.unusedSimpArgs false

/-- rows that are as they were -/
structure Keep (K : Nat → Prop) (h h' : H) : Prop where
  wf : h.Wf → h'.Wf
  n : h.n ≤ h'.n
  get : ∀ o, K o → h'.get o = h.get o
  tip : ∀ g, K g → h'.tip g = h.tip g
  kill : ∀ g, K g → h'.kill g = h.kill g
theorem Keep.refl (K : Nat → Prop) (h : H) : Keep K h h := ⟨id, Nat.le_refl _, fun _ _ => rfl, fun _ _ => rfl, fun _ _ => rfl⟩
theorem Keep.trans {K : Nat → Prop} {h h1 h2 : H} (a : Keep K h h1) (b : Keep K h1 h2) : Keep K h h2 :=
  ⟨fun w => b.wf (a.wf w), Nat.le_trans a.n b.n, fun o k => (b.get o k).trans (a.get o k), fun o k => (b.tip o k).trans (a.tip o k), fun o k => (b.kill o k).trans (a.kill o k)⟩
theorem Keep.weaken {K K' : Nat → Prop} {h h' : H} (a : Keep K h h') (hk : ∀ o, K' o → K o) : Keep K' h h' :=
  ⟨a.wf, a.n, fun o k => a.get o (hk o k), fun o k => a.tip o (hk o k), fun o k => a.kill o (hk o k)⟩
/-- all that was there -/
abbrev Old (N : Nat) : Nat → Prop := fun o => o < N
theorem Keep.less {N N' : Nat} {h h' : H} (a : Keep (Old N) h h') (hn : N' ≤ N) : Keep (Old N') h h' := a.weaken fun o ho => Nat.lt_of_lt_of_le ho hn
/-- two steps, the second with all that was there ahead of it -/
theorem Keep.then {h h1 h2 : H} {N : Nat} (a : Keep (Old N) h h1) (hN : N ≤ h.n) (b : Keep (Old h1.n) h1 h2) : Keep (Old N) h h2 := a.trans (b.less (Nat.le_trans hN a.n))

/-- the row of a value stands among these -/
def Slot (K : Nat → Prop) (h : H) : AV → Prop
  | .slice o _ _ _ | .ptr o _ => K o ∧ ∀ cs g, h.get o = some (.cells cs (some g)) → K g
  | _ => True
theorem Slot.mono {K K' : Nat → Prop} {h : H} {v : AV} (s : Slot K h v) (hk : ∀ o, K o → K' o) : Slot K' h v := by
  cases v <;> first | trivial | exact ⟨hk _ s.1, fun cs g e => hk _ (s.2 cs g e)⟩
theorem Slot.keep {K K' : Nat → Prop} {h h' : H} {v : AV} (s : Slot K h v) (k : Keep K h h') (hk : ∀ o, K o → K' o) : Slot K' h' v := by
  cases v <;> first | trivial | exact ⟨hk _ s.1, fun cs g e => hk _ (s.2 cs g (by rw [← k.get _ s.1]; exact e))⟩
theorem row_keep {K : Nat → Prop} {h h' : H} (k : Keep K h h') {o : Nat} (ho : K o) (hg : ∀ cs g, h.get o = some (.cells cs (some g)) → K g) : h'.row o = h.row o := by
  unfold H.row
  rw [k.get o ho]
  cases hx : h.get o with
  | none => rfl
  | some x =>
    cases x with
    | other => rfl
    | loop L => rfl
    | mem X => rfl
    | glob g v => rfl
    | cells cs g =>
      cases g with
      | none => rfl
      | some g => simp only; rw [k.kill g (hg cs g hx)]
theorem firstCells_keep {K : Nat → Prop} {h h' : H} (k : Keep K h h') {v : AV} (s : Slot K h v) (es n : Nat) : h'.firstCells es n v = h.firstCells es n v := by
  cases v <;> first | rfl | skip
  simp only [H.firstCells]
  rw [row_keep k s.1 s.2]

/-- a slice of n elements, its cells -/
structure Sl (h : H) (es : Nat) (v : AV) (n : Nat) (cs : List AV) : Prop where
  len : lenSA v = some n
  cells : h.firstCells es n v = some cs
theorem Sl.keep {K : Nat → Prop} {h h' : H} {es n : Nat} {v : AV} {cs : List AV} (a : Sl h es v n cs) (k : Keep K h h') (s : Slot K h v) : Sl h' es v n cs :=
  ⟨a.len, by rw [firstCells_keep k s]; exact a.cells⟩
theorem Sl.lenA {h : H} {es n : Nat} {v : AV} {cs : List AV} (a : Sl h es v n cs) : lenA v = some n := by
  have := a.len
  cases v <;> simp only [lenSA] at this <;> first | (cases this; done) | exact this
theorem Sl.size {h : H} {es n : Nat} {v : AV} {cs : List AV} (a : Sl h es v n cs) : cs.length = n * es := by
  obtain ⟨h1, h2⟩ := a
  cases v <;> simp only [lenSA] at h1 <;> (try (cases h1; done))
  case nils => cases h1; simp [H.firstCells] at h2; subst h2; simp
  case slice o i len es' =>
    cases h1
    simp only [H.firstCells] at h2
    split at h2
    · split at h2
      · split at h2
        · cases h2; simp; omega
        · cases h2
      · split at h2
        · rename_i h3; cases h2; simp only [List.length_nil]; omega
        · cases h2
    · cases h2
theorem Sl.nil (h : H) (es : Nat) : Sl h es .nils 0 [] := ⟨rfl, rfl⟩

/-- may be appended to, with no other slice seeing it: made behind the first N rows -/
def Own (N : Nat) (h : H) : AV → Prop
  | .nils => True
  | .slice o i len es => ∃ cs g, h.get o = some (.cells cs (some g)) ∧ h.tip g = o ∧ h.kill g ≤ o ∧ N ≤ g ∧ N ≤ o ∧ i + len * es ≤ cs.length ∧ ∃ cs', h.get g = some (.cells cs' (some g))
  | _ => False
theorem Own.less {N N' : Nat} {h : H} {v : AV} (a : Own N h v) (hn : N' ≤ N) : Own N' h v := by
  cases v <;> first | exact a | skip
  obtain ⟨cs, g, h1, h2, h3, h4, h5, h6⟩ := a
  exact ⟨cs, g, h1, h2, h3, Nat.le_trans hn h4, Nat.le_trans hn h5, h6⟩
theorem Own.keep {N : Nat} {K : Nat → Prop} {h h' : H} {v : AV} (a : Own N h v) (s : Slot K h v) (k : Keep K h h') : Own N h' v := by
  cases v <;> first | exact a | skip
  obtain ⟨cs, g, h1, h2, h3, h4, h5, h6⟩ := a
  have kg := s.2 cs g h1
  exact ⟨cs, g, by rw [k.get _ s.1]; exact h1, by rw [k.tip _ kg]; exact h2, by rw [k.kill _ kg]; exact h3, h4, h5, h6.1, by rw [k.get _ kg]; exact h6.2⟩
theorem Own.slot {N : Nat} {h : H} (wf : h.Wf) {v : AV} (a : Own N h v) : Slot (Old h.n) h v := by
  cases v <;> first | trivial | skip
  obtain ⟨cs, g, h1, h2, h3, h4, h5, h6⟩ := a
  exact ⟨wf.ob _ _ h1, fun cs' g' e => Nat.lt_of_le_of_lt (wf.mem _ _ _ e).1 (wf.ob _ _ h1)⟩

theorem Keep.new {N : Nat} {h : H} (hN : N ≤ h.n) (vs : List AV) : Keep (Old N) h (h.new vs) where
  wf := fun w => w.new vs
  n := Nat.le_succ _
  get := fun o ho => by rw [show (h.new vs).get o = _ from H.get_push _ _ _, if_neg]; exact Nat.ne_of_lt (Nat.lt_of_lt_of_le ho hN)
  tip := fun _ _ => rfl
  kill := fun _ _ => rfl
theorem get_new (h : H) (vs : List AV) : (h.new vs).get h.n = some (.cells vs (some h.n)) := by
  rw [show (h.new vs).get h.n = _ from H.get_push _ _ _, if_pos rfl]
theorem row_new {h : H} (wf : h.Wf) (vs : List AV) : (h.new vs).row h.n = some vs := by
  unfold H.row
  rw [get_new]
  simp only
  rw [show (h.new vs).kill h.n = h.kill h.n from rfl, wf.kill_new, if_pos (Nat.zero_le _)]
theorem Sl.new {h : H} (wf : h.Wf) {vs : List AV} {n es : Nat} (hl : n * es ≤ vs.length) : Sl (h.new vs) es (.slice h.n 0 n es) n (vs.take (n * es)) := by
  refine ⟨rfl, ?_⟩
  simp only [H.firstCells, row_new wf]
  rw [if_pos ⟨trivial, Nat.le_refl _⟩, if_pos (by omega)]
  simp
theorem Own.new {N : Nat} {h : H} (wf : h.Wf) (hN : N ≤ h.n) {vs : List AV} {n es : Nat} (hl : n * es ≤ vs.length) : Own N (h.new vs) (.slice h.n 0 n es) :=
  ⟨vs, h.n, get_new h vs, by rw [show (h.new vs).tip h.n = h.tip h.n from rfl, wf.tip_new], by rw [show (h.new vs).kill h.n = h.kill h.n from rfl, wf.kill_new]; exact Nat.zero_le _, hN, hN, by omega, _, get_new h vs⟩

/-- an append behind a slice of one's own -/
theorem app_own {N : Nat} {h : H} (wf : h.Wf) (hN : N ≤ h.n) {v : AV} {es n k : Nat} {cs new : List AV} (a : Sl h es v n cs) (o : Own N h v) (hl : new.length = k * es) (hone : new.all AV.one = true) (hbig : n + k < 4294967296) :
    ∃ v' h', h.app v es k new = some (v', h') ∧ Sl h' es v' (n + k) (cs ++ new) ∧ Own N h' v' ∧ Keep (Old N) h h' := by
  by_cases hk : k = 0
  · subst hk
    have : new = [] := by cases new <;> simp at hl ⊢
    subst this
    refine ⟨v, h, ?_, by simpa using a, o, Keep.refl _ _⟩
    obtain ⟨h1, h2⟩ := a
    cases v <;> simp only [lenSA] at h1 <;> (try (cases h1; done))
    case nils => simp [H.app]
    case slice o i len es' =>
      cases h1
      simp only [H.firstCells] at h2
      split at h2
      · rename_i hc; simp [H.app, hc.1]
      · cases h2
  · cases v <;> simp only [Own] at o <;> (try exact o.elim)
    case nils =>
      obtain ⟨h1, h2⟩ := a
      cases h1
      simp [H.firstCells] at h2; subst h2
      refine ⟨.slice h.n 0 k es, h.new new, by simp [H.app, hk]; omega, ?_, Own.new wf hN (by omega), Keep.new hN _⟩
      have := Sl.new (es := es) (n := k) wf (vs := new) (by omega)
      rw [← hl, List.take_length] at this
      simpa using this
    case slice o' i len es' =>
      obtain ⟨row, g, h1, h2, h3, h4, h5, h6, rt, hrt⟩ := o
      obtain ⟨a1, a2⟩ := a
      cases a1
      have hrow : h.row o' = some row := by unfold H.row; rw [h1]; simp only; rw [if_pos h3]
      simp only [H.firstCells] at a2
      split at a2
      case isFalse => cases a2
      rename_i hc
      obtain ⟨rfl, _⟩ := hc
      rw [hrow] at a2
      simp only at a2
      rw [if_pos h6] at a2
      cases a2
      have hon := wf.ob _ _ h1
      have C := H.child_to ((row.drop i).take (n * es') ++ new) h1 h2 h3 h6 hon
      have hlive : (h.child o' g (i + n * es') row ((row.drop i).take (n * es') ++ new)).kill g ≤ h.n := by
        rcases C.killg with ⟨_, e⟩ | e
        · rw [e]; omega
        · rw [e]; omega
      have hget : (h.child o' g (i + n * es') row ((row.drop i).take (n * es') ++ new)).get h.n = some (.cells ((row.drop i).take (n * es') ++ new) (some g)) := by rw [C.get, if_pos rfl]
      have hroot : ∃ cs', (h.child o' g (i + n * es') row ((row.drop i).take (n * es') ++ new)).get g = some (.cells cs' (some g)) := by
        rw [C.get, if_neg (Nat.ne_of_lt (wf.ob _ _ hrt))]
        split
        · exact ⟨_, rfl⟩
        · exact ⟨_, hrt⟩
      have hlen : ((row.drop i).take (n * es') ++ new).length = (n + k) * es' := by
        rw [List.length_append, hl, Nat.add_mul]; simp; omega
      refine ⟨.slice h.n 0 (n + k) es', _, ?_, ⟨rfl, ?_⟩, ⟨_, g, hget, C.tipg, hlive, h4, hN, by omega, hroot⟩, ⟨C.wf, by rw [C.n]; omega, ?_, ?_, ?_⟩⟩
      · simp only [H.app, if_neg hk, h1]
        rw [if_pos ⟨h2, trivial, h6, hbig, h3, hone⟩]
      · simp only [H.firstCells]
        rw [if_pos ⟨trivial, Nat.le_refl _⟩]
        have : (h.child o' g (i + n * es') row ((row.drop i).take (n * es') ++ new)).row h.n = some ((row.drop i).take (n * es') ++ new) := by
          unfold H.row; rw [hget]; simp only; rw [if_pos hlive]
        rw [this]
        simp only [Nat.zero_add, List.drop_zero]
        rw [if_pos (by omega), ← hlen, List.take_length]
      · intro j hj
        rw [C.get, if_neg (by omega), if_neg (by omega)]
      · intro j hj; exact C.tipo j (by omega)
      · intro j hj; exact C.kill j (by omega)

theorem append_own {N : Nat} {h : H} (wf : h.Wf) (hN : N ≤ h.n) {v y : AV} {es n k : Nat} {cs new : List AV} (a : Sl h es v n cs) (o : Own N h v) (b : Sl h es y k new) (hone : new.all AV.one = true) (hbig : n + k < 4294967296) :
    ∃ v' h', appendA h es v y = some (v', h') ∧ Sl h' es v' (n + k) (cs ++ new) ∧ Own N h' v' ∧ Keep (Old N) h h' := by
  unfold appendA
  rw [b.lenA]
  simp only [b.cells]
  exact app_own wf hN a o b.size hone hbig
theorem append_str {N : Nat} {h : H} (wf : h.Wf) (hN : N ≤ h.n) {v : AV} {n : Nat} {cs : List AV} {t : List UInt8} (a : Sl h 1 v n cs) (o : Own N h v) (hbig : n + t.length < 4294967296) :
    ∃ v' h', appendA h 1 v (.str t) = some (v', h') ∧ Sl h' 1 v' (n + t.length) (cs ++ byteCells t) ∧ Own N h' v' ∧ Keep (Old N) h h' := by
  unfold appendA
  simp only [lenA, H.firstCells, Nat.le_refl, and_self, if_true, List.take_length]
  exact app_own wf hN a o (by simp [byteCells]) (by rw [List.all_eq_true]; intro x hx; obtain ⟨c, _, rfl⟩ := List.mem_map.1 hx; rfl) hbig
/-! ### bytes -/
theorem bytesOf_cells : ∀ (s : List UInt8), bytesOf (byteCells s) = some s
  | [] => rfl
  | c :: s => by
    have := bytesOf_cells s
    simp only [byteCells, List.map_cons, bytesOf] at this ⊢
    rw [this]
    simp
theorem byteCells_length (s : List UInt8) : (byteCells s).length = s.length := by simp [byteCells]
theorem byteCells_append (s t : List UInt8) : byteCells (s ++ t) = byteCells s ++ byteCells t := by simp [byteCells]
theorem byteCells_one (s : List UInt8) : (byteCells s).all AV.one = true := by
  rw [List.all_eq_true]; intro x hx; obtain ⟨c, _, rfl⟩ := List.mem_map.1 hx; rfl
/-- a slice of bytes -/
abbrev Bytes (h : H) (v : AV) (s : List UInt8) : Prop := Sl h 1 v s.length (byteCells s)
theorem Bytes.str {h : H} {v : AV} {s : List UInt8} (b : Bytes h v s) : cvB2SA h v = some (.str s) := by
  obtain ⟨h1, h2⟩ := b
  cases v <;> simp only [lenSA] at h1 <;> (try (cases h1; done))
  case nils => cases s <;> simp at h1; rfl
  case slice o i len es =>
    have hlen : len = s.length := by simpa using h1
    subst hlen
    have hes : es = 1 := by
      simp only [H.firstCells] at h2
      split at h2
      · rename_i hc; exact hc.1
      · cases h2
    subst hes
    simp only [cvB2SA, if_true, h2, Option.bind_some, bytesOf_cells, Option.map_some]
/-- an element's address, and what stands there -/
theorem Sl.at {h : H} {v : AV} {n : Nat} {cs : List AV} (a : Sl h 1 v n cs) {i : Nat} (hi : i < n) (k : IntKind) : ∃ p, indexAddrA 1 v (.int k (i : Int)) = some p ∧ loadA h false 1 p = cs[i]? := by
  obtain ⟨h1, h2⟩ := a
  cases v <;> simp only [lenSA] at h1 <;> (try (cases h1; done))
  case nils => cases h1; omega
  case slice o j len es =>
    cases h1
    simp only [H.firstCells] at h2
    split at h2
    case isFalse => cases h2
    rename_i hc
    obtain ⟨rfl, _⟩ := hc
    refine ⟨.ptr o (j + i), ?_, ?_⟩
    · simp only [indexAddrA]
      rw [if_pos ⟨trivial, by omega, by omega⟩]
      simp
    · split at h2
      · rename_i row hrow
        split at h2
        · cases h2
          simp only [loadA, hrow, Bool.false_eq_true, if_false]
          rw [List.getElem?_take, if_pos (by omega), List.getElem?_drop]
        · cases h2
      · split at h2
        · omega
        · cases h2
theorem Sl.cut {h : H} {v : AV} {es n : Nat} {cs : List AV} (a : Sl h es v n cs) {lo hi : Nat} (h1 : lo ≤ hi) (h2 : hi ≤ n) (hlo hhi : Option AV) (hb : bounds n hlo hhi = some (lo, hi)) :
    ∃ v', sliceSA es hlo hhi v = some v' ∧ Sl h es v' (hi - lo) ((cs.drop (lo * es)).take ((hi - lo) * es)) ∧ (∀ K, Slot K h v → Slot K h v') := by
  obtain ⟨a1, a2⟩ := a
  cases v <;> simp only [lenSA] at a1 <;> (try (cases a1; done))
  case nils =>
    cases a1
    have e1 : hi = 0 := by omega
    have e2 : lo = 0 := by omega
    subst e1; subst e2
    refine ⟨.nils, by simp [sliceSA, hb], ⟨rfl, by simp [H.firstCells]⟩, fun K s => s⟩
  case slice o i len es' =>
    cases a1
    simp only [H.firstCells] at a2
    split at a2
    case isFalse => cases a2
    rename_i hc
    obtain ⟨rfl, _⟩ := hc
    refine ⟨.slice o (i + lo * es') (hi - lo) es', by simp [sliceSA, hb], ⟨rfl, ?_⟩, fun K s => s⟩
    simp only [H.firstCells]
    rw [if_pos ⟨trivial, Nat.le_refl _⟩]
    have hm : (hi - lo) * es' + lo * es' = hi * es' := by rw [← Nat.add_mul]; congr 1; omega
    have hm2 : hi * es' ≤ n * es' := Nat.mul_le_mul_right _ h2
    split at a2
    · rename_i row hrow
      split at a2
      case isFalse => cases a2
      rename_i hle
      cases a2
      rw [if_pos (by omega)]
      congr 1
      rw [List.drop_take, List.take_take, List.drop_drop]
      congr 1
      omega
    · rename_i hrow
      split at a2
      case isFalse => cases a2
      rename_i h0
      cases a2
      have : (hi - lo) * es' = 0 := by omega
      rw [if_pos this, this]
      simp
end Go.Proofs.YtgjcdpanabjcmaaGreatDoor.Ev
