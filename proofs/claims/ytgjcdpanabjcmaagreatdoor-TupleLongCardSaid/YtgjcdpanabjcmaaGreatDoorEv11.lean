/- Whatever one operation answers over the abstract heap, the model's operation answers. -/
import Derived.Test.YtgjcdpanabjcmaaGreatDoorEvM2
namespace Go.Proofs.YtgjcdpanabjcmaaGreatDoor.Ev
set_option linter.unusedVariables false
set_option linter.unusedSimpArgs false

section
variable {B0 : Nat} {P : Program} {m : M} {h h' : H} {w : World}

theorem orel {nt : Nat} {s : S} {a : Act} (hA : ARel m nt s a) {x : Option Operand} {y : Option AOpd} (h : trOpt x = some y) : ORel m (y.map (·.ev s)) (x.map a.eval) := by
  cases x with
  | none => cases h; exact .none
  | some x => obtain ⟨z, h1, rfl⟩ := Option.map_eq_some_iff.1 h; exact .some (hA.ev h1)

theorem sound_lenT (r : Rel P B0 m h w) {t ty : TypeId} (hu : P.underlying t = some .string) {x : AV} {x' : Value} (hx : VRel m x x') {n : Nat} (he : lenTA x = some n) : SemOK P B0 m h w (.int .i64 n) h ((Builtin.len_ #[t] ty #[x']).run P w) := by
  cases hx <;> simp only [lenTA] at he <;> (try (cases he; done)) <;> cases he
  exact .same r (.int _ _) (by simp [Builtin.len_, run_underlying hu, goInt, str_size])
theorem sound_lenS (r : Rel P B0 m h w) {t ty e : TypeId} (hu : P.underlying t = some (.slice e)) {x : AV} {x' : Value} (hx : VRel m x x') {n : Nat} (he : lenSA x = some n) : SemOK P B0 m h w (.int .i64 n) h ((Builtin.len_ #[t] ty #[x']).run P w) := by
  cases hx <;> simp only [lenSA] at he <;> (try (cases he; done)) <;> cases he <;>
  exact .same r (.int _ _) (by simp [Builtin.len_, run_underlying hu, goInt])
theorem sound_lenC (r : Rel P B0 m h w) {t ty e : TypeId} {n : Nat} (hu : P.underlying t = some (.array n e)) {x' : Value} : SemOK P B0 m h w (.int .i64 n) h ((Builtin.len_ #[t] ty #[x']).run P w) :=
  .same r (.int _ _) (by cases x' <;> simp [Builtin.len_, run_underlying hu, goInt])
theorem sound_min (r : Rel P B0 m h w) {ts : Array TypeId} {ty : TypeId} {x y v : AV} {x' y' : Value} (hx : VRel m x x') (hy : VRel m y y') (he : minA x y = some v) : SemOK P B0 m h w v h ((Builtin.min_ ts ty #[x', y']).run P w) := by
  cases hx <;> simp only [minA] at he <;> (try (cases he; done))
  cases hy <;> simp only [minA] at he <;> (try (cases he; done))
  cases he
  exact .same r (.int _ _) (by simp [Builtin.min_, Builtin.min2, List.foldlM])
theorem sound_max (r : Rel P B0 m h w) {ts : Array TypeId} {ty : TypeId} {x y v : AV} {x' y' : Value} (hx : VRel m x x') (hy : VRel m y y') (he : maxA x y = some v) : SemOK P B0 m h w v h ((Builtin.max_ ts ty #[x', y']).run P w) := by
  cases hx <;> simp only [maxA] at he <;> (try (cases he; done))
  cases hy <;> simp only [maxA] at he <;> (try (cases he; done))
  cases he
  exact .same r (.int _ _) (by simp [Builtin.max_, Builtin.max2, List.foldlM])

theorem sound_builtin (r : Rel P B0 m h w) {nt : Nat} {s : S} {a : Act} (hA : ARel m nt s a) {b : Builtin} {xs : List Operand} {ts : List TypeId} {ty : TypeId} {cs : Array Bool} {ao : AOp} (ht : trBuiltin P b xs ts = some ao) {v : AV}
    (he : exec ao s h = some (v, h')) : ao.plain = true ∧ OpOK P B0 m h w v h' ((builtin b ⟨ts⟩ ty cs ⟨xs.map a.eval⟩).run P w) := by
  unfold trBuiltin at ht
  split at ht
  · rename_i x t
    split at ht
    · rename_i x' hu hx; cases ht
      obtain ⟨n, h1, h2⟩ := Option.map_eq_some_iff.1 he; cases h2
      exact ⟨rfl, OpOK.of_sem (sound_lenT r hu (hA.ev hx) h1)⟩
    · rename_i x' hu hx; cases ht
      obtain ⟨n, h1, h2⟩ := Option.map_eq_some_iff.1 he; cases h2
      exact ⟨rfl, OpOK.of_sem (sound_lenS r hu (hA.ev hx) h1)⟩
    · rename_i hu hx; cases ht
      cases he
      exact ⟨rfl, OpOK.of_sem (sound_lenC r hu)⟩
    · rename_i x' hu hx; cases ht
      obtain ⟨n, h1, h2⟩ := Option.map_eq_some_iff.1 he; cases h2
      exact ⟨rfl, OpOK.of_sem (sound_lenM r hu (hA.ev hx) h1)⟩
    · cases ht
  · rename_i x y t u
    split at ht
    case h_2 => cases ht
    rename_i e hu
    split at ht
    · rename_i i d x' y' hi hd hx hy
      split at ht
      case isFalse => cases ht
      rename_i hc; cases ht
      exact ⟨rfl, OpOK.of_sem (sound_append r hu hi hc.1 hc.2.1 hc.2.2 hd (by intro k; simp) (hA.ev hx) (hA.ev hy) he)⟩
    · rename_i i x' y' hi hd hx hy
      split at ht
      case isFalse => cases ht
      rename_i hc; cases ht
      exact ⟨rfl, OpOK.of_sem (sound_append r hu hi (by omega) hc.2.1 hc.2.2 hd (by intro k; simp) (hA.ev hx) (hA.ev hy) he)⟩
    · cases ht
  · rename_i x y t l
    split at ht
    case h_2 => cases ht
    rename_i e hu
    split at ht
    · rename_i i x' y' hi hx hy
      split at ht
      case isFalse => cases ht
      rename_i hc; cases ht
      exact ⟨rfl, OpOK.of_sem (sound_copy r (by simp) hu hi (hA.ev hx) (hA.ev hy) he)⟩
    · cases ht
  · rename_i x t
    split at ht
    case h_2 => cases ht
    rename_i e hu
    split at ht
    case h_2 => cases ht
    rename_i n z x' hn hz hx
    cases ht
    obtain ⟨h2, h1, h3⟩ := Option.map_eq_some_iff.1 he; cases h3
    exact ⟨rfl, OpOK.of_sem (sound_clear r hu (isSize_eq hn).1 hz (hA.ev hx) h1)⟩
  · rename_i x y t u
    split at ht
    case h_2 => cases ht
    rename_i kt e x' y' hu hx hy
    obtain ⟨kk, hkk, rfl⟩ := Option.map_eq_some_iff.1 ht
    obtain ⟨h2, h1, h3⟩ := Option.map_eq_some_iff.1 he; cases h3
    exact ⟨rfl, OpOK.of_sem (sound_mapDel r rfl hu hkk (hA.ev hx) (hA.ev hy) h1)⟩
  · rename_i x y
    split at ht
    · rename_i x' y' hx hy
      cases ht
      obtain ⟨n, h1, h2⟩ := Option.map_eq_some_iff.1 he; cases h2
      exact ⟨rfl, OpOK.of_sem (sound_min r (hA.ev hx) (hA.ev hy) h1)⟩
    · cases ht
  · rename_i x y
    split at ht
    · rename_i x' y' hx hy
      cases ht
      obtain ⟨n, h1, h2⟩ := Option.map_eq_some_iff.1 he; cases h2
      exact ⟨rfl, OpOK.of_sem (sound_max r (hA.ev hx) (hA.ev hy) h1)⟩
    · cases ht
  · cases ht

/-- **one operation** -/
theorem sound_exec (r : Rel P B0 m h w) {nt : Nat} {s : S} {a : Act} (hA : ARel m nt s a) {o : Oper} {ao : AOp} (ht : trOp P o.op = some ao) {v : AV} (he : exec ao s h = some (v, h')) :
    ao.plain = true ∧ OpOK P B0 m h w v h' ((execOp a.eval o).run P w) := by
  have hsame : ∀ {x : Option AV} {f : Sem Value}, x.map (·, h) = some (v, h') → (∀ u, x = some u → SemOK P B0 m h w u h (f.run P w)) → OpOK P B0 m h w v h' ((do let q ← f; Pure.pure (Next.value q) : Sem Next).run P w) := by
    intro x f h1 h2
    obtain ⟨u, h3, h4⟩ := Option.map_eq_some_iff.1 h1
    cases h4
    exact OpOK.of_sem (h2 _ h3)
  cases hop : o.op <;> rw [hop] at ht <;> simp only [trOp] at ht <;> (try (cases ht; done))
  case move x =>
    obtain ⟨y, hy, rfl⟩ := Option.map_eq_some_iff.1 ht
    cases he
    exact ⟨rfl, .same r (hA.ev hy) (by simp [execOp, hop])⟩
  case assign x =>
    obtain ⟨y, hy, rfl⟩ := Option.map_eq_some_iff.1 ht
    cases he
    exact ⟨rfl, .same r (hA.ev hy) (by simp [execOp, hop])⟩
  case pick c x y =>
    split at ht
    · rename_i c' x' y' hc hx hy
      cases ht
      obtain ⟨u, h3, h4⟩ := Option.map_eq_some_iff.1 he
      cases h4
      have hcr := hA.ev hc
      have hxr := hA.ev hx
      have hyr := hA.ev hy
      refine ⟨rfl, ?_⟩
      generalize c'.ev s = q at h3 hcr
      generalize hq : a.eval c = q' at hcr
      cases hcr <;> simp only [pickA] at h3 <;> (try (cases h3; done))
      case bool b =>
      cases h3
      cases b
      · exact .same r hyr (by simp [execOp, hop, hq, asBool])
      · exact .same r hxr (by simp [execOp, hop, hq, asBool])
    · cases ht
  case alloc e =>
    obtain ⟨z, hz, rfl⟩ := Option.map_eq_some_iff.1 ht
    cases he
    obtain ⟨i, zv, hi, hzv, hzr⟩ := zeroP_eq hz
    obtain ⟨m', w', v', h1, h2⟩ := SemOK.of_make r (make_new (P := P) m w e (hzr m) (fun n => .ptr n 0) (fun b => .pointer (some ⟨b, 0, none⟩)) (fun o => VRel.new_ptr _ _ _ 0 _))
    refine ⟨rfl, m', w', v', .inl ?_, h2⟩
    simp only [execOp, hop, Instr.alloc, Sem.run_bind, run_zero hi hzv, Result.andThen_ok, newVar]
    simp only [Sem.run_bind, newRow, run_newObj, Result.andThen_ok, Sem.run_pure, Result.ok.injEq] at h1 ⊢
    simp [h1]
  case box e x =>
    obtain ⟨y, hy, rfl⟩ := Option.map_eq_some_iff.1 ht
    cases he
    obtain ⟨m', w', v', h1, h2⟩ := SemOK.of_make r (make_new (P := P) m w e (hA.ev hy).cells (fun n => .ptr n 0) (fun b => .pointer (some ⟨b, 0, none⟩)) (fun o => VRel.new_ptr _ _ _ 0 _))
    refine ⟨rfl, m', w', v', .inl ?_, h2⟩
    simp only [execOp, hop, Instr.box, Sem.run_bind, newVar]
    simp only [Sem.run_bind, newRow, run_newObj, Result.andThen_ok, Sem.run_pure, Result.ok.injEq] at h1 ⊢
    simp [h1]
  case build t ps =>
    split at ht
    · cases ht
    · rename_i z hz
      split at ht
      · rename_i fs hu
        obtain ⟨q, hq, h5⟩ := Option.bind_eq_some_iff.1 ht
        split at h5
        case isFalse => cases h5
        rename_i hall; cases h5
        obtain ⟨cs, h3, h4⟩ := Option.map_eq_some_iff.1 he
        cases h4
        refine ⟨rfl, ?_⟩
        have := OpOK.of_sem (sound_buildS r hA hz hu hall hq h3)
        simp only [execOp, hop]; exact this
      · rename_i k e hu
        obtain ⟨n, hn, h5⟩ := Option.bind_eq_some_iff.1 ht
        obtain ⟨q, hq, rfl⟩ := Option.map_eq_some_iff.1 h5
        obtain ⟨cs, h3, h4⟩ := Option.map_eq_some_iff.1 he
        cases h4
        refine ⟨rfl, ?_⟩
        have := OpOK.of_sem (sound_buildA r hA hz hu hn hq h3)
        simp only [execOp, hop]; exact this
      · cases ht
  case buildSlice t len ps =>
    split at ht
    case h_2 => cases ht
    rename_i e hu
    split at ht
    · rename_i n z hn hz
      split at ht
      case isFalse => cases ht
      rename_i hc
      obtain ⟨q, hq, rfl⟩ := Option.map_eq_some_iff.1 ht
      obtain ⟨cs, h3, h4⟩ := Option.map_eq_some_iff.1 he
      cases h4
      obtain ⟨hn1, hn2⟩ := isSize_eq hn
      refine ⟨rfl, ?_⟩
      have := OpOK.of_sem (SemOK.of_make r (make_buildSlice m w hA hu hn1 hn2 hz hc.2 hc.1 hq h3))
      simp only [execOp, hop]; exact this
    · cases ht
  case load t x =>
    split at ht
    · rename_i b n x' h1 h2 h3
      cases ht
      refine ⟨rfl, ?_⟩
      simp only [execOp, hop]
      exact hsame he (fun u hu => (sound_load r h1 h2 (hA.ev h3) hu).1)
    · cases ht
  case store t x y =>
    split at ht
    · rename_i n x' y' h1 h2 h3
      cases ht
      obtain ⟨h2', h4, h5⟩ := Option.map_eq_some_iff.1 he
      cases h5
      refine ⟨rfl, ?_⟩
      simp only [execOp, hop]
      exact sound_store r h1 (hA.ev h2) (hA.ev h3) h4
    · cases ht
  case nilCheck x =>
    obtain ⟨y, hy, rfl⟩ := Option.map_eq_some_iff.1 ht
    obtain ⟨u, h3, h4⟩ := Option.map_eq_some_iff.1 he
    cases h4
    have hv := hA.ev hy
    refine ⟨rfl, ?_⟩
    generalize y.ev s = q at h3 hv
    generalize hq : a.eval x = q' at hv
    cases hv <;> simp only [nilCheckA] at h3 <;> (try (cases h3; done))
    case ptr i h0 => cases h3; exact .same r (.ptr i h0) (by simp [execOp, hop, hq])
    case func f h0 => cases h3; exact .same r (.func _ h0) (by simp [execOp, hop, hq])
  case binOp op t x y t2 =>
    split at ht
    case h_2 => cases ht
    rename_i x' y' hx hy
    have hxr := hA.ev hx
    have hyr := hA.ev hy
    have plainBin : (AOp.bin op x' y') = ao → ao.plain = true ∧ OpOK P B0 m h w v h' ((execOp a.eval o).run P w) := by
      intro e; subst e
      refine ⟨rfl, ?_⟩
      simp only [execOp, hop]
      refine hsame he (fun u hu => ?_)
      obtain ⟨v', h1, h2, h3⟩ := sound_bin (t := t) (P := P) (w := w) hxr hyr hu
      exact .same r h1 (by simp only [Sem.run_bind, h3, Result.andThen_ok, h2])
    have eqBin : ∀ (k : AEq), (op = .eql ∨ op = .neq) → AOp.eq k (op == .neq) x' y' = ao → EqTy P t k → (k = .nilI → (isConst x || isConst y) = true) → ao.plain = true ∧ OpOK P B0 m h w v h' ((execOp a.eval o).run P w) := by
      intro k hor e hk hcc; subst e
      refine ⟨rfl, ?_⟩
      obtain ⟨b, h1, h2⟩ := Option.map_eq_some_iff.1 he
      cases h2
      obtain ⟨e1, e2⟩ := sound_eq (w := w) hxr hyr h1 hk op (neg := (op == .neq)) (by rcases hor with rfl | rfl; exact .inl ⟨rfl, rfl⟩; exact .inr ⟨rfl, rfl⟩)
      simp only [execOp, hop]
      have e2' := e2 x y hcc
      exact OpOK.of_sem (.same r (.bool _) (by simp only [Sem.run_bind, e2', Result.andThen_ok, e1]))
    split at ht
    · rename_i hor
      split at ht
      · cases ht; exact plainBin rfl
      · cases ht; exact plainBin rfl
      · rename_i hu; cases ht; exact eqBin .bool hor rfl hu (fun h => by cases h)
      · rename_i e hu; cases ht; exact eqBin .ptr hor rfl ⟨_, hu⟩ (fun h => by cases h)
      · rename_i e hu; cases ht; exact eqBin .slice hor rfl ⟨_, hu⟩ (fun h => by cases h)
      · rename_i e hu; cases ht; exact eqBin .map hor rfl ⟨_, _, hu⟩ (fun h => by cases h)
      · rename_i e hu; cases ht; exact eqBin .func hor rfl ⟨_, _, _, hu⟩ (fun h => by cases h)
      · rename_i e hu
        split at ht
        · rename_i hcc; cases ht; exact eqBin .nilI hor rfl ⟨_, hu⟩ (fun _ => hcc)
        · cases ht; exact eqBin .iface hor rfl ⟨_, hu⟩ (fun h => by cases h)
      · rename_i fs hu
        split at ht
        · rename_i hfl; cases ht; exact eqBin (.flat fs.size) hor rfl ⟨_, hu, hfl, rfl⟩ (fun h => by cases h)
        · obtain ⟨ks, hks, hq⟩ := Option.map_eq_some_iff.1 ht
          exact eqBin (.flatK ks) hor hq ⟨by unfold aggOf; rw [hu], hks⟩ (fun h => by cases h)
      · rename_i n e hu
        obtain ⟨ks, hks, hq⟩ := Option.map_eq_some_iff.1 ht
        exact eqBin (.flatK ks) hor hq ⟨by unfold aggOf; rw [hu], hks⟩ (fun h => by cases h)
      · cases ht
    · cases ht; exact plainBin rfl
  case unOp op t x =>
    split at ht
    · rename_i x' hx
      cases ht
      refine ⟨rfl, ?_⟩
      simp only [execOp, hop]
      refine hsame he (fun u hu => ?_)
      have hv := hA.ev hx
      generalize x'.ev s = q at hu hv
      generalize a.eval x = q' at hv
      cases hv <;> simp only [notA] at hu <;> (try (cases hu; done)) <;> cases hu
      exact .same r (.bool _) (by simp [Op.unary])
    · rename_i x' hx
      cases ht
      refine ⟨rfl, ?_⟩
      simp only [execOp, hop]
      refine hsame he (fun u hu => ?_)
      have hv := hA.ev hx
      generalize x'.ev s = q at hu hv
      generalize a.eval x = q' at hv
      cases hv <;> simp only [negA] at hu <;> (try (cases hu; done)) <;> cases hu
      exact .same r (.int _ _) (by simp [Op.unary, Op.intArith])
    · cases ht
  case convert t d x =>
    split at ht
    · rename_i k0 k x' hs hd hx
      cases ht
      refine ⟨rfl, ?_⟩
      simp only [execOp, hop]
      refine hsame he (fun u hu => ?_)
      have hv := hA.ev hx
      generalize x'.ev s = q at hu hv
      generalize a.eval x = q' at hv
      cases hv <;> simp only [cvIntA] at hu <;> (try (cases hu; done)) <;> cases hu
      exact .same r (.int _ _) (by simp [convert, run_underlying hs, run_underlying hd, Conv.intToInt])
    · rename_i x' hs hd hx
      cases ht
      refine ⟨rfl, ?_⟩
      simp only [execOp, hop]
      refine hsame he (fun u hu => ?_)
      have hv := hA.ev hx
      generalize x'.ev s = q at hu hv
      generalize a.eval x = q' at hv
      cases hv <;> simp only [cvSameA] at hu <;> (try (cases hu; done)) <;> cases hu
      exact .same r (.str _) (by simp [convert, run_underlying hs, run_underlying hd])
    · rename_i k0 x' hs hd hx
      cases ht
      refine ⟨rfl, ?_⟩
      simp only [execOp, hop]
      exact hsame he (fun u hu => sound_cvR2S r hs hd (hA.ev hx) hu)
    · rename_i e x' hs hd hx
      split at ht
      case isFalse => cases ht
      rename_i hu8; cases ht
      refine ⟨rfl, ?_⟩
      simp only [execOp, hop]
      exact OpOK.of_sem (sound_S2B r hs hd hu8 (hA.ev hx) he)
    · rename_i e x' hs hd hx
      split at ht
      case isFalse => cases ht
      rename_i hu8; cases ht
      refine ⟨rfl, ?_⟩
      simp only [execOp, hop]
      exact hsame he (fun u hu => sound_B2S r hs hd hu8 (hA.ev hx) hu)
    · rename_i e0 e x' hs hd hx
      split at ht
      case isFalse => cases ht
      rename_i hu8; cases ht
      simp only [Bool.and_eq_true, beq_iff_eq] at hu8
      obtain ⟨rfl, hu8⟩ := hu8
      refine ⟨rfl, ?_⟩
      simp only [execOp, hop]
      obtain ⟨u, h4, h5⟩ := Option.map_eq_some_iff.1 he
      cases h5
      exact OpOK.of_sem (sound_B2B r hd hu8 (hA.ev hx) h4)
    · cases ht
  case slice t x lo hi mx =>
    split at ht
    · rename_i mx0 e x' lo' hi' hu hx hl hh
      split at ht
      case h_2 => cases ht
      rename_i n mx1 hn hm
      cases ht
      cases hi with
      | none => simp [trOpt] at hh
      | some hi0 =>
      obtain ⟨hi1, hh1, hh2⟩ := Option.map_eq_some_iff.1 hh
      cases hh2
      refine ⟨rfl, ?_⟩
      simp only [execOp, hop]
      exact hsame he (fun u hu2 => sound_slice3 r hu (isSize_eq hn).1 (orel hA hl) (hA.ev hh1) (hA.ev hm) (hA.ev hx) hu2)
    · rename_i x' lo' hi' hu hx hl hh
      cases ht
      refine ⟨rfl, ?_⟩
      simp only [execOp, hop]
      exact hsame he (fun u hu2 => sound_sliceT r hu (orel hA hl) (orel hA hh) (hA.ev hx) hu2)
    · rename_i e x' lo' hi' hu hx hl hh
      obtain ⟨n, hn, rfl⟩ := Option.map_eq_some_iff.1 ht
      refine ⟨rfl, ?_⟩
      simp only [execOp, hop]
      exact hsame he (fun u hu2 => sound_sliceS r hu (isSize_eq hn).1 (orel hA hl) (orel hA hh) (hA.ev hx) hu2)
    · rename_i k e x' lo' hi' hu hx hl hh
      obtain ⟨n, hn, rfl⟩ := Option.map_eq_some_iff.1 ht
      refine ⟨rfl, ?_⟩
      simp only [execOp, hop]
      exact hsame he (fun u hu2 => sound_sliceA r (.inl hu) (isSize_eq hn).1 (orel hA hl) (orel hA hh) (hA.ev hx) hu2)
    · rename_i q x' lo' hi' hu hx hl hh
      split at ht
      case h_2 => cases ht
      rename_i k e hq
      obtain ⟨n, hn, rfl⟩ := Option.map_eq_some_iff.1 ht
      refine ⟨rfl, ?_⟩
      simp only [execOp, hop]
      exact hsame he (fun u hu2 => sound_sliceA r (.inr ⟨q, hu, hq⟩) (isSize_eq hn).1 (orel hA hl) (orel hA hh) (hA.ev hx) hu2)
    · cases ht
  case fieldAddr t x i =>
    split at ht
    case h_2 => cases ht
    rename_i fs x' hu hx
    obtain ⟨f, hf, h5⟩ := Option.bind_eq_some_iff.1 ht
    obtain ⟨n, hn, rfl⟩ := Option.map_eq_some_iff.1 h5
    refine ⟨rfl, ?_⟩
    simp only [execOp, hop]
    exact hsame he (fun u hu2 => sound_fieldAddr r hu hf (isSize_eq hn).1 (isSize_eq hn).2 (hA.ev hx) hu2)
  case field t x i =>
    split at ht
    case h_2 => cases ht
    rename_i fs x' hu hx
    obtain ⟨f, hf, h5⟩ := Option.bind_eq_some_iff.1 ht
    split at h5
    case h_2 => cases h5
    rename_i b n hb hn
    cases h5
    refine ⟨rfl, ?_⟩
    simp only [execOp, hop]
    exact hsame he (fun u hu2 => sound_field r hu hf hb hn (hA.ev hx) hu2)
  case indexAddr t x i =>
    split at ht
    · rename_i e x' i' hu hx hi
      obtain ⟨n, hn, rfl⟩ := Option.map_eq_some_iff.1 ht
      refine ⟨rfl, ?_⟩
      simp only [execOp, hop]
      exact hsame he (fun u hu2 => sound_indexAddr r hu hn (hA.ev hx) (hA.ev hi) hu2)
    · rename_i k e x' i' hu hx hi
      obtain ⟨n, hn, rfl⟩ := Option.map_eq_some_iff.1 ht
      refine ⟨rfl, ?_⟩
      simp only [execOp, hop]
      exact hsame he (fun u hu2 => sound_indexArr r hu hn (hA.ev hx) (hA.ev hi) hu2)
    · cases ht
  case index t x i =>
    split at ht
    · rename_i x' i' hu hx hi
      cases ht
      refine ⟨rfl, ?_⟩
      simp only [execOp, hop]
      exact hsame he (fun u hu2 => sound_indexStr r hu (hA.ev hx) (hA.ev hi) hu2)
    · rename_i k e x' i' hu hx hi
      split at ht
      case h_2 => cases ht
      rename_i b n hb hn
      cases ht
      refine ⟨rfl, ?_⟩
      simp only [execOp, hop]
      exact hsame he (fun u hu2 => sound_indexAgg r hu hb hn (hA.ev hx) (hA.ev hi) hu2)
    · cases ht
  case extract x i =>
    obtain ⟨y, hy, rfl⟩ := Option.map_eq_some_iff.1 ht
    refine ⟨rfl, ?_⟩
    simp only [execOp, hop]
    refine hsame he (fun u hu => ?_)
    have hv := hA.ev hy
    generalize y.ev s = q at hu hv
    generalize a.eval x = q' at hv
    cases hv <;> simp only [extractA] at hu <;> (try (cases hu; done))
    case tup cs cs' hcs =>
    obtain ⟨c, h1, h2⟩ := hcs.get _ _ hu
    refine .same r h2 ?_
    have : (⟨cs'⟩ : Array Value)[i]? = some c := by simpa using h1
    simp [Instr.extract, this]
  case makeFunc fn first cs =>
    cases fn <;> simp only [trOp] at ht <;> (try (cases ht; done))
    case func f =>
      split at ht
      case isFalse =>
        split at ht
        case h_2 => cases ht
        rename_i x hx hcs
        obtain ⟨y, hy, rfl⟩ := Option.map_eq_some_iff.1 ht
        cases he
        refine ⟨rfl, ?_⟩
        simp only [execOp, hop]
        have h1 : first.map a.eval = #[a.eval x] := by
          apply Array.ext'; simp [hx]
        have h2 : cs.map a.eval = #[] := by apply Array.ext'; simp [hcs]
        refine OpOK.of_sem (.same r (.meth f (hA.ev hy)) ?_)
        simp only [Instr.makeFunc, Sem.run_pure, h1, h2]
      rename_i h0
      obtain ⟨ys, hys, rfl⟩ := Option.map_eq_some_iff.1 ht
      cases he
      refine ⟨rfl, ?_⟩
      simp only [execOp, hop]
      have h1 : first.map a.eval = #[] := by
        apply Array.ext' ; simp at h0; simp [h0]
      have h2 : cs.map a.eval = ⟨cs.toList.map a.eval⟩ := by apply Array.ext'; simp
      refine OpOK.of_sem (.same r (.func f (hA.evs hys)) ?_)
      simp only [Instr.makeFunc, Sem.run_pure, h1, h2]
  case makeMap t rs =>
    cases rs with
    | some x => cases ht
    | none =>
      cases ht
      cases he
      refine ⟨rfl, ?_⟩
      simp only [execOp, hop]
      exact OpOK.of_sem (sound_makeMap r t)
  case insert t x k y =>
    split at ht
    case h_2 => cases ht
    rename_i kt e x' k' y' hu hx hk hy
    obtain ⟨kk, hkk, rfl⟩ := Option.map_eq_some_iff.1 ht
    obtain ⟨h2, h1, h3⟩ := Option.map_eq_some_iff.1 he; cases h3
    refine ⟨rfl, ?_⟩
    obtain ⟨m', w', hrun, r', f'⟩ := sound_mapPut r hu hkk (hA.ev hx) (hA.ev hk) (hA.ev hy) h1
    exact ⟨m', w', undef, .inr ⟨by simp [execOp, hop, hrun], rfl⟩, r', f', undef_rel⟩
  case mapUpdate t x k y =>
    split at ht
    case h_2 => cases ht
    rename_i kt e x' k' y' hu hx hk hy
    obtain ⟨kk, hkk, rfl⟩ := Option.map_eq_some_iff.1 ht
    obtain ⟨h2, h1, h3⟩ := Option.map_eq_some_iff.1 he; cases h3
    refine ⟨rfl, ?_⟩
    obtain ⟨m', w', hrun, r', f'⟩ := sound_mapPut r hu hkk (hA.ev hx) (hA.ev hk) (hA.ev hy) h1
    exact ⟨m', w', undef, .inr ⟨by simp [execOp, hop, hrun], rfl⟩, r', f', undef_rel⟩
  case lookup t x k ok =>
    split at ht
    case h_2 => cases ht
    rename_i kt e x' k' hu hx hk
    split at ht
    case h_2 => cases ht
    rename_i kk z hkk hz
    cases ht
    refine ⟨rfl, ?_⟩
    simp only [execOp, hop]
    exact hsame he (fun u hu2 => sound_mapGet r hu hkk hz ok (hA.ev hx) (hA.ev hk) hu2)
  case range t x =>
    split at ht
    · rename_i x' hu hx
      cases ht
      refine ⟨rfl, ?_⟩
      simp only [execOp, hop]
      exact OpOK.of_sem (sound_rangeT r hu (hA.ev hx) he)
    · rename_i kt e x' hu hx
      cases ht
      refine ⟨rfl, ?_⟩
      simp only [execOp, hop]
      exact OpOK.of_sem (sound_rangeM r hu (hA.ev hx) he)
    · cases ht
  case next x isS =>
    cases isS with
    | true =>
      obtain ⟨y, hy, rfl⟩ := Option.map_eq_some_iff.1 ht
      refine ⟨rfl, ?_⟩
      simp only [execOp, hop]
      exact OpOK.of_sem (sound_nextT r (hA.ev hy) he)
    | false =>
      obtain ⟨y, hy, rfl⟩ := Option.map_eq_some_iff.1 ht
      cases he
  case entry x =>
    obtain ⟨y, hy, rfl⟩ := Option.map_eq_some_iff.1 ht
    refine ⟨rfl, ?_⟩
    simp only [execOp, hop]
    exact hsame he (fun u hu2 => sound_entryM r (hA.ev hy) hu2)
  case typeAssert x xt t ok =>
    split at ht
    · cases ht
    · rename_i d z x' hd hu hz hx
      cases ht
      refine ⟨rfl, ?_⟩
      simp only [execOp, hop]
      exact hsame he (fun u hu2 => sound_assert r hu (fun a e => hd a (by rw [e])) hz ok (hA.ev hx) hu2)
    · cases ht
  case makeSlice t l c =>
    split at ht
    case h_2 => cases ht
    rename_i e hu
    split at ht
    · rename_i i z l' c' hi hz hl hc
      split at ht
      case isFalse => cases ht
      rename_i h0; cases ht
      refine ⟨rfl, ?_⟩
      simp only [execOp, hop]
      exact OpOK.of_sem (sound_makeSlice r hu hi h0.1 hz h0.2 (hA.ev hl) (hA.ev hc) he)
    · cases ht
  case makeInterface t x =>
    split at ht
    · cases ht
    · rename_i d x' hnd hd hx
      cases ht
      cases he
      refine ⟨rfl, ?_⟩
      simp only [execOp, hop]
      refine OpOK.of_sem (.same r (.iface t (hA.ev hx)) ?_)
      cases d <;> first | (exact (hnd _ rfl).elim) | (simp [Instr.makeInterface, run_underlying hd])
    · cases ht
  case call c =>
    split at ht
    · split at ht
      · cases ht; cases he
      · cases ht
    · rename_i b hb
      obtain ⟨h1, h2⟩ := sound_builtin r hA (ty := o.type) (cs := c.args.map fun | .const _ => true | _ => false) ht he
      refine ⟨h1, ?_⟩
      simp only [execOp, hop, resolve, hb, Sem.run_bind, Sem.run_pure, Result.andThen_ok, invoke]
      have e1 : c.args.map a.eval = ⟨c.args.toList.map a.eval⟩ := by apply Array.ext'; simp
      rw [e1]; exact h2
    · cases ht
  case panic x =>
    obtain ⟨y, hy, rfl⟩ := Option.map_eq_some_iff.1 ht
    cases he
end
end Go.Proofs.YtgjcdpanabjcmaaGreatDoor.Ev
