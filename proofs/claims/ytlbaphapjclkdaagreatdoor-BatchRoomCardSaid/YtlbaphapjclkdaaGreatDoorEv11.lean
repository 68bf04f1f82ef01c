/- Whatever one operation answers over the abstract heap, the model's operation answers. -/
import Derived.Test.YtlbaphapjclkdaaGreatDoorEvM2
namespace Go.Proofs.YtlbaphapjclkdaaGreatDoor.Ev
set_option linter.unusedVariables false
set_option linter.unusedSimpArgs false

section
variable {B0 : Nat} {P : Program} {m : M} {h h' : H} {w : World}

theorem orel {nt : Nat} {s : S} {a : Act} (hA : ARel m nt s a) {x : Option Operand} {y : Option AOpd} (h : trOpt x = some y) : ORel m (y.map (·.ev s)) (x.map a.eval) := by
  cases x with
  | none => cases h; exact .none
  | some x => obtain ⟨z, h1, rfl⟩ := Option.map_eq_some_iff.1 h; exact .some (hA.ev h1)

theorem sound_lenT (r : Rel P B0 m h w) {t ty : TypeId} (hu : P.underlying t = some .string) {x : AV} {x' : Value} (hx : VRel m x x') {n : Nat} (he : lenTA x = some n) : SemOK P B0 m h w (.int .i64 n) h ((Builtin.len_ #[t] ty #[x']).run P w) := by
  cases hx <;> simp only [lenTA] at he <;> (try (cases he; done)) <;> cases he
  exact .same r (.int _ _) (by simp [Builtin.len_, run_underlying hu, goInt, str_size])
theorem sound_lenS (r : Rel P B0 m h w) {t ty e : TypeId} (hu : P.underlying t = some (.slice e)) {x : AV} {x' : Value} (hx : VRel m x x') {n : Nat} (he : lenSA x = some n) : SemOK P B0 m h w (.int .i64 n) h ((Builtin.len_ #[t] ty #[x']).run P w) := by
  cases hx <;> simp only [lenSA] at he <;> (try (cases he; done)) <;> cases he <;>
  exact .same r (.int _ _) (by simp [Builtin.len_, run_underlying hu, goInt])
theorem sound_lenC (r : Rel P B0 m h w) {t ty e : TypeId} {n : Nat} (hu : P.underlying t = some (.array n e)) {x' : Value} : SemOK P B0 m h w (.int .i64 n) h ((Builtin.len_ #[t] ty #[x']).run P w) :=
  .same r (.int _ _) (by cases x' <;> simp [Builtin.len_, run_underlying hu, goInt])
theorem sound_min (r : Rel P B0 m h w) {ts : Array TypeId} {ty : TypeId} {x y v : AV} {x' y' : Value} (hx : VRel m x x') (hy : VRel m y y') (he : minA x y = some v) : SemOK P B0 m h w v h ((Builtin.min_ ts ty #[x', y']).run P w) := by
  cases hx <;> simp only [minA] at he <;> (try (cases he; done))
  cases hy <;> simp only [minA] at he <;> (try (cases he; done))
  cases he
  exact .same r (.int _ _) (by simp [Builtin.min_, Builtin.min2, List.foldlM])
theorem sound_max (r : Rel P B0 m h w) {ts : Array TypeId} {ty : TypeId} {x y v : AV} {x' y' : Value} (hx : VRel m x x') (hy : VRel m y y') (he : maxA x y = some v) : SemOK P B0 m h w v h ((Builtin.max_ ts ty #[x', y']).run P w) := by
  cases hx <;> simp only [maxA] at he <;> (try (cases he; done))
  cases hy <;> simp only [maxA] at he <;> (try (cases he; done))
  cases he
  exact .same r (.int _ _) (by simp [Builtin.max_, Builtin.max2, List.foldlM])

theorem sound_builtin (r : Rel P B0 m h w) {nt : Nat} {s : S} {a : Act} (hA : ARel m nt s a) {b : Builtin} {xs : List Operand} {ts : List TypeId} {ty : TypeId} {cs : Array Bool} {ao : AOp} (ht : trBuiltin P b xs ts = some ao) {v : AV}
    (he : exec ao s h = some (v, h')) : ao.plain = true ∧ OpOK P B0 m h w v h' ((builtin b ⟨ts⟩ ty cs ⟨xs.map a.eval⟩).run P w) := by
  unfold trBuiltin at ht
  split at ht
  · rename_i x t
    split at ht
    · rename_i x' hu hx; cases ht
      obtain ⟨n, h1, h2⟩ := Option.map_eq_some_iff.1 he; cases h2
      exact ⟨rfl, OpOK.of_sem (sound_lenT r hu (hA.ev hx) h1)⟩
    · rename_i x' hu hx; cases ht
      obtain ⟨n, h1, h2⟩ := Option.map_eq_some_iff.1 he; cases h2
      exact ⟨rfl, OpOK.of_sem (sound_lenS r hu (hA.ev hx) h1)⟩
    · rename_i hu hx; cases ht
      cases he
      exact ⟨rfl, OpOK.of_sem (sound_lenC r hu)⟩
    · rename_i x' hu hx; cases ht
      obtain ⟨n, h1, h2⟩ := Option.map_eq_some_iff.1 he; cases h2
      exact ⟨rfl, OpOK.of_sem (sound_lenM r hu (hA.ev hx) h1)⟩
    · cases ht
  · cases ht; cases he
  · rename_i x y t u
    split at ht
    case h_2 => cases ht
    rename_i e hu
    split at ht
    · rename_i i d x' y' hi hd hx hy
      split at ht
      case isFalse => cases ht
      rename_i hc; cases ht
      exact ⟨rfl, OpOK.of_sem (sound_append r hu hi hc.1 hc.2.1 hc.2.2 hd (by intro k; simp) (hA.ev hx) (hA.ev hy) he)⟩
    · rename_i i x' y' hi hd hx hy
      split at ht
      case isFalse => cases ht
      rename_i hc; cases ht
      exact ⟨rfl, OpOK.of_sem (sound_append r hu hi (by omega) hc.2.1 hc.2.2 hd (by intro k; simp) (hA.ev hx) (hA.ev hy) he)⟩
    · cases ht
  · rename_i x y t l
    split at ht
    case h_2 => cases ht
    rename_i e hu
    split at ht
    · rename_i i x' y' hi hx hy
      split at ht
      case isFalse => cases ht
      rename_i hc; cases ht
      exact ⟨rfl, OpOK.of_sem (sound_copy r (by simp) hu hi (hA.ev hx) (hA.ev hy) he)⟩
    · cases ht
  · rename_i x t
    split at ht
    case h_2 => cases ht
    rename_i e hu
    split at ht
    case h_2 => cases ht
    rename_i n z x' hn hz hx
    cases ht
    obtain ⟨h2, h1, h3⟩ := Option.map_eq_some_iff.1 he; cases h3
    exact ⟨rfl, OpOK.of_sem (sound_clear r hu (isSize_eq hn).1 hz (hA.ev hx) h1)⟩
  · rename_i x y t u
    split at ht
    case h_2 => cases ht
    rename_i kt e x' y' hu hx hy
    obtain ⟨kk, hkk, rfl⟩ := Option.map_eq_some_iff.1 ht
    obtain ⟨h2, h1, h3⟩ := Option.map_eq_some_iff.1 he; cases h3
    exact ⟨rfl, OpOK.of_sem (sound_mapDel r rfl hu hkk (hA.ev hx) (hA.ev hy) h1)⟩
  · rename_i x y
    split at ht
    · rename_i x' y' hx hy
      cases ht
      obtain ⟨n, h1, h2⟩ := Option.map_eq_some_iff.1 he; cases h2
      exact ⟨rfl, OpOK.of_sem (sound_min r (hA.ev hx) (hA.ev hy) h1)⟩
    · cases ht
  · rename_i x y
    split at ht
    · rename_i x' y' hx hy
      cases ht
      obtain ⟨n, h1, h2⟩ := Option.map_eq_some_iff.1 he; cases h2
      exact ⟨rfl, OpOK.of_sem (sound_max r (hA.ev hx) (hA.ev hy) h1)⟩
    · cases ht
  · cases ht

/-- **one operation** -/
theorem sound_exec (r : Rel P B0 m h w) {nt : Nat} {s : S} {a : Act} (hA : ARel m nt s a) {o : Oper} {ao : AOp} (ht : trOp P o.op = some ao) {v : AV} (he : exec ao s h = some (v, h')) :
    ao.plain = true ∧ OpOK P B0 m h w v h' ((execOp a.eval o).run P w) := by
  have hsame : ∀ {x : Option AV} {f : Sem Value}, x.map (·, h) = some (v, h') → (∀ u, x = some u → SemOK P B0 m h w u h (f.run P w)) → OpOK P B0 m h w v h' ((do let q ← f; Pure.pure (Next.value q) : Sem Next).run P w) := by
    intro x f h1 h2
    obtain ⟨u, h3, h4⟩ := Option.map_eq_some_iff.1 h1
    cases h4
    exact OpOK.of_sem (h2 _ h3)
  cases hop : o.op <;> rw [hop] at ht <;> simp only [trOp] at ht <;> (try (cases ht; done))
  case move x =>
    obtain ⟨y, hy, rfl⟩ := Option.map_eq_some_iff.1 ht
    cases he
    exact ⟨rfl, .same r (hA.ev hy) (by simp [execOp, hop])⟩
  case assign x =>
    obtain ⟨y, hy, rfl⟩ := Option.map_eq_some_iff.1 ht
    cases he
    exact ⟨rfl, .same r (hA.ev hy) (by simp [execOp, hop])⟩
  case pick c x y =>
    split at ht
    · rename_i c' x' y' hc hx hy
      cases ht
      obtain ⟨u, h3, h4⟩ := Option.map_eq_some_iff.1 he
      cases h4
      have hcr := hA.ev hc
      have hxr := hA.ev hx
      have hyr := hA.ev hy
      refine ⟨rfl, ?_⟩
      generalize c'.ev s = q at h3 hcr
      generalize hq : a.eval c = q' at hcr
      cases hcr <;> simp only [pickA] at h3 <;> (try (cases h3; done))
      case bool b =>
      cases h3
      cases b
      · exact .same r hyr (by simp [execOp, hop, hq, asBool])
      · exact .same r hxr (by simp [execOp, hop, hq, asBool])
    · cases ht
  case alloc e =>
    obtain ⟨z, hz, rfl⟩ := Option.map_eq_some_iff.1 ht
    cases he
    obtain ⟨i, zv, hi, hzv, hzr⟩ := zeroP_eq hz
    obtain ⟨m', w', v', h1, h2⟩ := SemOK.of_make r (make_new (P := P) m w e (hzr m) (fun n => .ptr n 0) (fun b => .pointer (some ⟨b, 0, none⟩)) (fun o => VRel.new_ptr _ _ _ 0 _))
    refine ⟨rfl, m', w', v', .inl ?_, h2⟩
    simp only [execOp, hop, Instr.alloc, Sem.run_bind, run_zero hi hzv, Result.andThen_ok, newVar]
    simp only [Sem.run_bind, newRow, run_newObj, Result.andThen_ok, Sem.run_pure, Result.ok.injEq] at h1 ⊢
    simp [h1]
  case box e x =>
    obtain ⟨y, hy, rfl⟩ := Option.map_eq_some_iff.1 ht
    cases he
    obtain ⟨m', w', v', h1, h2⟩ := SemOK.of_make r (make_new (P := P) m w e (hA.ev hy).cells (fun n => .ptr n 0) (fun b => .pointer (some ⟨b, 0, none⟩)) (fun o => VRel.new_ptr _ _ _ 0 _))
    refine ⟨rfl, m', w', v', .inl ?_, h2⟩
    simp only [execOp, hop, Instr.box, Sem.run_bind, newVar]
    simp only [Sem.run_bind, newRow, run_newObj, Result.andThen_ok, Sem.run_pure, Result.ok.injEq] at h1 ⊢
    simp [h1]
  case build t ps =>
    split at ht
    · cases ht
    · rename_i z hz
      split at ht
      · rename_i fs hu
        obtain ⟨q, hq, h5⟩ := Option.bind_eq_some_iff.1 ht
        split at h5
        case isFalse => cases h5
        rename_i hall; cases h5
        obtain ⟨cs, h3, h4⟩ := Option.map_eq_some_iff.1 he
        cases h4
        refine ⟨rfl, ?_⟩
        have := OpOK.of_sem (sound_buildS r hA hz hu hall hq h3)
        simp only [execOp, hop]; exact this
      · rename_i k e hu
        obtain ⟨n, hn, h5⟩ := Option.bind_eq_some_iff.1 ht
        obtain ⟨q, hq, rfl⟩ := Option.map_eq_some_iff.1 h5
        obtain ⟨cs, h3, h4⟩ := Option.map_eq_some_iff.1 he
        cases h4
        refine ⟨rfl, ?_⟩
        have := OpOK.of_sem (sound_buildA r hA hz hu hn hq h3)
        simp only [execOp, hop]; exact this
      · cases ht
  case buildSlice t len ps =>
    split at ht
    case h_2 => cases ht
    rename_i e hu
    split at ht
    · rename_i n z hn hz
      split at ht
      case isFalse => cases ht
      rename_i hc
      obtain ⟨q, hq, rfl⟩ := Option.map_eq_some_iff.1 ht
      obtain ⟨cs, h3, h4⟩ := Option.map_eq_some_iff.1 he
      cases h4
      obtain ⟨hn1, hn2⟩ := isSize_eq hn
      refine ⟨rfl, ?_⟩
      have := OpOK.of_sem (SemOK.of_make r (make_buildSlice m w hA hu hn1 hn2 hz hc.2 hc.1 hq h3))
      simp only [execOp, hop]; exact this
    · cases ht
  case load t x =>
    split at ht
    · rename_i b n x' h1 h2 h3
      cases ht
      refine ⟨rfl, ?_⟩
      simp only [execOp, hop]
      exact hsame he (fun u hu => (sound_load r h1 h2 (hA.ev h3) hu).1)
    · cases ht
  case store t x y =>
    split at ht
    · rename_i n x' y' h1 h2 h3
      cases ht
      obtain ⟨h2', h4, h5⟩ := Option.map_eq_some_iff.1 he
      cases h5
      refine ⟨rfl, ?_⟩
      simp only [execOp, hop]
      exact sound_store r h1 (hA.ev h2) (hA.ev h3) h4
    · cases ht
  case nilCheck x =>
    obtain ⟨y, hy, rfl⟩ := Option.map_eq_some_iff.1 ht
    obtain ⟨u, h3, h4⟩ := Option.map_eq_some_iff.1 he
    cases h4
    have hv := hA.ev hy
    refine ⟨rfl, ?_⟩
    generalize y.ev s = q at h3 hv
    generalize hq : a.eval x = q' at hv
    cases hv <;> simp only [nilCheckA] at h3 <;> (try (cases h3; done))
    case ptr i h0 => cases h3; exact .same r (.ptr i h0) (by simp [execOp, hop, hq])
    case func f h0 => cases h3; exact .same r (.func _ h0) (by simp [execOp, hop, hq])
  case binOp op t x y t2 =>
    split at ht
    case h_2 => cases ht
    rename_i x' y' hx hy
    have hxr := hA.ev hx
    have hyr := hA.ev hy
    have plainBin : (AOp.bin op x' y') = ao → ao.plain = true ∧ OpOK P B0 m h w v h' ((execOp a.eval o).run P w) := by
      intro e; subst e
      refine ⟨rfl, ?_⟩
      simp only [execOp, hop]
      refine hsame he (fun u hu => ?_)
      obtain ⟨v', h1, h2, h3⟩ := sound_bin (t := t) (P := P) (w := w) hxr hyr hu
      exact .same r h1 (by simp only [Sem.run_bind, h3, Result.andThen_ok, h2])
    have eqBin : ∀ (k : AEq), (op = .eql ∨ op = .neq) → AOp.eq k (op == .neq) x' y' = ao → EqTy P t k → (k = .nilI → (isConst x || isConst y) = true) → ao.plain = true ∧ OpOK P B0 m h w v h' ((execOp a.eval o).run P w) := by
      intro k hor e hk hcc; subst e
      refine ⟨rfl, ?_⟩
      obtain ⟨b, h1, h2⟩ := Option.map_eq_some_iff.1 he
      cases h2
      obtain ⟨e1, e2⟩ := sound_eq (w := w) hxr hyr h1 hk op (neg := (op == .neq)) (by rcases hor with rfl | rfl; exact .inl ⟨rfl, rfl⟩; exact .inr ⟨rfl, rfl⟩)
      simp only [execOp, hop]
      have e2' := e2 x y hcc
      exact OpOK.of_sem (.same r (.bool _) (by simp only [Sem.run_bind, e2', Result.andThen_ok, e1]))
    split at ht
    · rename_i hor
      split at ht
      · cases ht; exact plainBin rfl
      · cases ht; exact plainBin rfl
      · rename_i hu; cases ht; exact eqBin .bool hor rfl hu (fun h => by cases h)
      · rename_i e hu; cases ht; exact eqBin .ptr hor rfl ⟨_, hu⟩ (fun h => by cases h)
      · rename_i e hu; cases ht; exact eqBin .slice hor rfl ⟨_, hu⟩ (fun h => by cases h)
      · rename_i e hu; cases ht; exact eqBin .map hor rfl ⟨_, _, hu⟩ (fun h => by cases h)
      · rename_i e hu; cases ht; exact eqBin .func hor rfl ⟨_, _, _, hu⟩ (fun h => by cases h)
      · rename_i e hu
        split at ht
        · rename_i hcc; cases ht; exact eqBin .nilI hor rfl ⟨_, hu⟩ (fun _ => hcc)
        · cases ht; exact eqBin .iface hor rfl ⟨_, hu⟩ (fun h => by cases h)
      · rename_i fs hu
        split at ht
        · rename_i hfl; cases ht; exact eqBin (.flat fs.size) hor rfl ⟨_, hu, hfl, rfl⟩ (fun h => by cases h)
        · obtain ⟨ks, hks, hq⟩ := Option.map_eq_some_iff.1 ht
          exact eqBin (.flatK ks) hor hq ⟨by unfold aggOf; rw [hu], hks⟩ (fun h => by cases h)
      · rename_i n e hu
        obtain ⟨ks, hks, hq⟩ := Option.map_eq_some_iff.1 ht
        exact eqBin (.flatK ks) hor hq ⟨by unfold aggOf; rw [hu], hks⟩ (fun h => by cases h)
      · cases ht
    · cases ht; exact plainBin rfl
  case unOp op t x =>
    split at ht
    · rename_i x' hx
      cases ht
      refine ⟨rfl, ?_⟩
      simp only [execOp, hop]
      refine hsame he (fun u hu => ?_)
      have hv := hA.ev hx
      generalize x'.ev s = q at hu hv
      generalize a.eval x = q' at hv
      cases hv <;> simp only [notA] at hu <;> (try (cases hu; done)) <;> cases hu
      exact .same r (.bool _) (by simp [Op.unary])
    · rename_i x' hx
      cases ht
      refine ⟨rfl, ?_⟩
      simp only [execOp, hop]
      refine hsame he (fun u hu => ?_)
      have hv := hA.ev hx
      generalize x'.ev s = q at hu hv
      generalize a.eval x = q' at hv
      cases hv <;> simp only [negA] at hu <;> (try (cases hu; done)) <;> cases hu
      exact .same r (.int _ _) (by simp [Op.unary, Op.intArith])
    · cases ht
  case convert t d x =>
    split at ht
    · rename_i k0 k x' hs hd hx
      cases ht
      refine ⟨rfl, ?_⟩
      simp only [execOp, hop]
      refine hsame he (fun u hu => ?_)
      have hv := hA.ev hx
      generalize x'.ev s = q at hu hv
      generalize a.eval x = q' at hv
      cases hv <;> simp only [cvIntA] at hu <;> (try (cases hu; done)) <;> cases hu
      exact .same r (.int _ _) (by simp [convert, run_underlying hs, run_underlying hd, Conv.intToInt])
    · rename_i x' hs hd hx
      cases ht
      refine ⟨rfl, ?_⟩
      simp only [execOp, hop]
      refine hsame he (fun u hu => ?_)
      have hv := hA.ev hx
      generalize x'.ev s = q at hu hv
      generalize a.eval x = q' at hv
      cases hv <;> simp only [cvSameA] at hu <;> (try (cases hu; done)) <;> cases hu
      exact .same r (.str _) (by simp [convert, run_underlying hs, run_underlying hd])
    · rename_i k0 x' hs hd hx
      cases ht
      refine ⟨rfl, ?_⟩
      simp only [execOp, hop]
      exact hsame he (fun u hu => sound_cvR2S r hs hd (hA.ev hx) hu)
    · rename_i e x' hs hd hx
      split at ht
      case isFalse => cases ht
      rename_i hu8; cases ht
      refine ⟨rfl, ?_⟩
      simp only [execOp, hop]
      exact OpOK.of_sem (sound_S2B r hs hd hu8 (hA.ev hx) he)
    · rename_i e x' hs hd hx
      split at ht
      case isFalse => cases ht
      rename_i hu8; cases ht
      refine ⟨rfl, ?_⟩
      simp only [execOp, hop]
      exact hsame he (fun u hu => sound_B2S r hs hd hu8 (hA.ev hx) hu)
    · rename_i e0 e x' hs hd hx
      split at ht
      case isFalse => cases ht
      rename_i hu8; cases ht
      simp only [Bool.and_eq_true, beq_iff_eq] at hu8
      obtain ⟨rfl, hu8⟩ := hu8
      refine ⟨rfl, ?_⟩
      simp only [execOp, hop]
      obtain ⟨u, h4, h5⟩ := Option.map_eq_some_iff.1 he
      cases h5
      exact OpOK.of_sem (sound_B2B r hd hu8 (hA.ev hx) h4)
    · cases ht
  case slice t x lo hi mx =>
    split at ht
    · rename_i mx0 e x' lo' hi' hu hx hl hh
      split at ht
      case h_2 => cases ht
      rename_i n mx1 hn hm
      cases ht
      cases hi with
      | none => simp [trOpt] at hh
      | some hi0 =>
      obtain ⟨hi1, hh1, hh2⟩ := Option.map_eq_some_iff.1 hh
      cases hh2
      refine ⟨rfl, ?_⟩
      simp only [execOp, hop]
      exact hsame he (fun u hu2 => sound_slice3 r hu (isSize_eq hn).1 (orel hA hl) (hA.ev hh1) (hA.ev hm) (hA.ev hx) hu2)
    · rename_i x' lo' hi' hu hx hl hh
      cases ht
      refine ⟨rfl, ?_⟩
      simp only [execOp, hop]
      exact hsame he (fun u hu2 => sound_sliceT r hu (orel hA hl) (orel hA hh) (hA.ev hx) hu2)
    · rename_i e x' lo' hi' hu hx hl hh
      obtain ⟨n, hn, rfl⟩ := Option.map_eq_some_iff.1 ht
      refine ⟨rfl, ?_⟩
      simp only [execOp, hop]
      exact hsame he (fun u hu2 => sound_sliceS r hu (isSize_eq hn).1 (orel hA hl) (orel hA hh) (hA.ev hx) hu2)
    · rename_i k e x' lo' hi' hu hx hl hh
      obtain ⟨n, hn, rfl⟩ := Option.map_eq_some_iff.1 ht
      refine ⟨rfl, ?_⟩
      simp only [execOp, hop]
      exact hsame he (fun u hu2 => sound_sliceA r (.inl hu) (isSize_eq hn).1 (orel hA hl) (orel hA hh) (hA.ev hx) hu2)
    · rename_i q x' lo' hi' hu hx hl hh
      split at ht
      case h_2 => cases ht
      rename_i k e hq
      obtain ⟨n, hn, rfl⟩ := Option.map_eq_some_iff.1 ht
      refine ⟨rfl, ?_⟩
      simp only [execOp, hop]
      exact hsame he (fun u hu2 => sound_sliceA r (.inr ⟨q, hu, hq⟩) (isSize_eq hn).1 (orel hA hl) (orel hA hh) (hA.ev hx) hu2)
    · cases ht
  case fieldAddr t x i =>
    split at ht
    case h_2 => cases ht
    rename_i fs x' hu hx
    obtain ⟨f, hf, h5⟩ := Option.bind_eq_some_iff.1 ht
    obtain ⟨n, hn, rfl⟩ := Option.map_eq_some_iff.1 h5
    refine ⟨rfl, ?_⟩
    simp only [execOp, hop]
    exact hsame he (fun u hu2 => sound_fieldAddr r hu hf (isSize_eq hn).1 (isSize_eq hn).2 (hA.ev hx) hu2)
  case field t x i =>
    split at ht
    case h_2 => cases ht
    rename_i fs x' hu hx
    obtain ⟨f, hf, h5⟩ := Option.bind_eq_some_iff.1 ht
    split at h5
    case h_2 => cases h5
    rename_i b n hb hn
    cases h5
    refine ⟨rfl, ?_⟩
    simp only [execOp, hop]
    exact hsame he (fun u hu2 => sound_field r hu hf hb hn (hA.ev hx) hu2)
  case indexAddr t x i =>
    split at ht
    · rename_i e x' i' hu hx hi
      obtain ⟨n, hn, rfl⟩ := Option.map_eq_some_iff.1 ht
      refine ⟨rfl, ?_⟩
      simp only [execOp, hop]
      exact hsame he (fun u hu2 => sound_indexAddr r hu hn (hA.ev hx) (hA.ev hi) hu2)
    · rename_i k e x' i' hu hx hi
      obtain ⟨n, hn, rfl⟩ := Option.map_eq_some_iff.1 ht
      refine ⟨rfl, ?_⟩
      simp only [execOp, hop]
      exact hsame he (fun u hu2 => sound_indexArr r hu hn (hA.ev hx) (hA.ev hi) hu2)
    · cases ht
  case index t x i =>
    split at ht
    · rename_i x' i' hu hx hi
      cases ht
      refine ⟨rfl, ?_⟩
      simp only [execOp, hop]
      exact hsame he (fun u hu2 => sound_indexStr r hu (hA.ev hx) (hA.ev hi) hu2)
    · rename_i k e x' i' hu hx hi
      split at ht
      case h_2 => cases ht
      rename_i b n hb hn
      cases ht
      refine ⟨rfl, ?_⟩
      simp only [execOp, hop]
      exact hsame he (fun u hu2 => sound_indexAgg r hu hb hn (hA.ev hx) (hA.ev hi) hu2)
    · cases ht
  case extract x i =>
    obtain ⟨y, hy, rfl⟩ := Option.map_eq_some_iff.1 ht
    refine ⟨rfl, ?_⟩
    simp only [execOp, hop]
    refine hsame he (fun u hu => ?_)
    have hv := hA.ev hy
    generalize y.ev s = q at hu hv
    generalize a.eval x = q' at hv
    cases hv <;> simp only [extractA] at hu <;> (try (cases hu; done))
    case tup cs cs' hcs =>
    obtain ⟨c, h1, h2⟩ := hcs.get _ _ hu
    refine .same r h2 ?_
    have : (⟨cs'⟩ : Array Value)[i]? = some c := by simpa using h1
    simp [Instr.extract, this]
  case makeFunc fn first cs =>
    cases fn <;> simp only [trOp] at ht <;> (try (cases ht; done))
    case func f =>
      split at ht
      case isFalse =>
        split at ht
        case h_2 => cases ht
        rename_i x hx hcs
        obtain ⟨y, hy, rfl⟩ := Option.map_eq_some_iff.1 ht
        cases he
        refine ⟨rfl, ?_⟩
        simp only [execOp, hop]
        have h1 : first.map a.eval = #[a.eval x] := by
          apply Array.ext'; simp [hx]
        have h2 : cs.map a.eval = #[] := by apply Array.ext'; simp [hcs]
        refine OpOK.of_sem (.same r (.meth f (hA.ev hy)) ?_)
        simp only [Instr.makeFunc, Sem.run_pure, h1, h2]
      rename_i h0
      obtain ⟨ys, hys, rfl⟩ := Option.map_eq_some_iff.1 ht
      cases he
      refine ⟨rfl, ?_⟩
      simp only [execOp, hop]
      have h1 : first.map a.eval = #[] := by
        apply Array.ext' ; simp at h0; simp [h0]
      have h2 : cs.map a.eval = ⟨cs.toList.map a.eval⟩ := by apply Array.ext'; simp
      refine OpOK.of_sem (.same r (.func f (hA.evs hys)) ?_)
      simp only [Instr.makeFunc, Sem.run_pure, h1, h2]
  case makeMap t rs =>
    cases rs with
    | some x => cases ht
    | none =>
      cases ht
      cases he
      refine ⟨rfl, ?_⟩
      simp only [execOp, hop]
      exact OpOK.of_sem (sound_makeMap r t)
  case insert t x k y =>
    split at ht
    case h_2 => cases ht
    rename_i kt e x' k' y' hu hx hk hy
    obtain ⟨kk, hkk, rfl⟩ := Option.map_eq_some_iff.1 ht
    obtain ⟨h2, h1, h3⟩ := Option.map_eq_some_iff.1 he; cases h3
    refine ⟨rfl, ?_⟩
    obtain ⟨m', w', hrun, r', f'⟩ := sound_mapPut r hu hkk (hA.ev hx) (hA.ev hk) (hA.ev hy) h1
    exact ⟨m', w', undef, .inr ⟨by simp [execOp, hop, hrun], rfl⟩, r', f', undef_rel⟩
  case mapUpdate t x k y =>
    split at ht
    case h_2 => cases ht
    rename_i kt e x' k' y' hu hx hk hy
    obtain ⟨kk, hkk, rfl⟩ := Option.map_eq_some_iff.1 ht
    obtain ⟨h2, h1, h3⟩ := Option.map_eq_some_iff.1 he; cases h3
    refine ⟨rfl, ?_⟩
    obtain ⟨m', w', hrun, r', f'⟩ := sound_mapPut r hu hkk (hA.ev hx) (hA.ev hk) (hA.ev hy) h1
    exact ⟨m', w', undef, .inr ⟨by simp [execOp, hop, hrun], rfl⟩, r', f', undef_rel⟩
  case lookup t x k ok =>
    split at ht
    case h_2 => cases ht
    rename_i kt e x' k' hu hx hk
    split at ht
    case h_2 => cases ht
    rename_i kk z hkk hz
    cases ht
    refine ⟨rfl, ?_⟩
    simp only [execOp, hop]
    exact hsame he (fun u hu2 => sound_mapGet r hu hkk hz ok (hA.ev hx) (hA.ev hk) hu2)
  case range t x =>
    split at ht
    · rename_i x' hu hx
      cases ht
      refine ⟨rfl, ?_⟩
      simp only [execOp, hop]
      exact OpOK.of_sem (sound_rangeT r hu (hA.ev hx) he)
    · rename_i kt e x' hu hx
      cases ht
      refine ⟨rfl, ?_⟩
      simp only [execOp, hop]
      exact OpOK.of_sem (sound_rangeM r hu (hA.ev hx) he)
    · cases ht
  case next x isS =>
    cases isS with
    | true =>
      obtain ⟨y, hy, rfl⟩ := Option.map_eq_some_iff.1 ht
      refine ⟨rfl, ?_⟩
      simp only [execOp, hop]
      exact OpOK.of_sem (sound_nextT r (hA.ev hy) he)
    | false =>
      obtain ⟨y, hy, rfl⟩ := Option.map_eq_some_iff.1 ht
      cases he
  case entry x =>
    obtain ⟨y, hy, rfl⟩ := Option.map_eq_some_iff.1 ht
    refine ⟨rfl, ?_⟩
    simp only [execOp, hop]
    exact hsame he (fun u hu2 => sound_entryM r (hA.ev hy) hu2)
  case typeAssert x xt t ok =>
    split at ht
    · cases ht
    · rename_i d z x' hd hu hz hx
      cases ht
      refine ⟨rfl, ?_⟩
      simp only [execOp, hop]
      exact hsame he (fun u hu2 => sound_assert r hu (fun a e => hd a (by rw [e])) hz ok (hA.ev hx) hu2)
    · cases ht
  case makeSlice t l c =>
    split at ht
    case h_2 => cases ht
    rename_i e hu
    split at ht
    · rename_i i z l' c' hi hz hl hc
      split at ht
      case isFalse => cases ht
      rename_i h0; cases ht
      refine ⟨rfl, ?_⟩
      simp only [execOp, hop]
      exact OpOK.of_sem (sound_makeSlice r hu hi h0.1 hz h0.2 (hA.ev hl) (hA.ev hc) he)
    · cases ht
  case makeInterface t x =>
    split at ht
    · cases ht
    · rename_i d x' hnd hd hx
      cases ht
      cases he
      refine ⟨rfl, ?_⟩
      simp only [execOp, hop]
      refine OpOK.of_sem (.same r (.iface t (hA.ev hx)) ?_)
      cases d <;> first | (exact (hnd _ rfl).elim) | (simp [Instr.makeInterface, run_underlying hd])
    · cases ht
  case call c =>
    split at ht
    · split at ht
      · cases ht; cases he
      · cases ht
    · rename_i b hb
      obtain ⟨h1, h2⟩ := sound_builtin r hA (ty := o.type) (cs := c.args.map fun | .const _ => true | _ => false) ht he
      refine ⟨h1, ?_⟩
      simp only [execOp, hop, resolve, hb, Sem.run_bind, Sem.run_pure, Result.andThen_ok, invoke]
      have e1 : c.args.map a.eval = ⟨c.args.toList.map a.eval⟩ := by apply Array.ext'; simp
      rw [e1]; exact h2
    · cases ht
  case panic x =>
    obtain ⟨y, hy, rfl⟩ := Option.map_eq_some_iff.1 ht
    cases he
end
end Go.Proofs.YtlbaphapjclkdaaGreatDoor.Ev

/- What code and calls come to over the abstract heap, whatever is drawn: a predicate, without fuel. -/
namespace Go.Proofs.YtlbaphapjclkdaaGreatDoor.Ev
set_option linter.unusedVariables false
set_option linter.unusedSimpArgs false

abbrev Post := AEx → S → H → Prop
/-- what calls come to -/
abbrev CallP := Fn → List AV → H → (AOut → H → Prop) → Prop

/-- what an answer makes of what is next -/
def WX (x : Option (AV × H)) (K : AV → H → Prop) : Prop := match x with | some (v, h) => K v h | none => False
@[go_sem] theorem WX_some (v : AV) (h : H) (K : AV → H → Prop) : WX (some (v, h)) K = K v h := id rfl
@[go_sem] theorem WX_none (K : AV → H → Prop) : WX none K = False := id rfl
@[go_sem] theorem WX_map (x : Option AV) (h : H) (K : AV → H → Prop) : WX (x.map (·, h)) K = WX (x.map (·, h)) K := id rfl
theorem WX.imp {x : Option (AV × H)} {K K' : AV → H → Prop} (w : WX x K) (hk : ∀ v h, K v h → K' v h) : WX x K' := by
  unfold WX at w ⊢
  split at w
  · exact hk _ _ w
  · exact w
theorem WX.get {x : Option (AV × H)} {K : AV → H → Prop} (w : WX x K) : ∃ v h, x = some (v, h) ∧ K v h := by
  unfold WX at w
  split at w
  · exact ⟨_, _, rfl, w⟩
  · exact w.elim

/-- a call of a value -/
def WFunG (C : CallP) (f : AV) (args : List AV) (h : H) (R : AOut → H → Prop) : Prop :=
  match f with
  | .func g cs => C (.fn g) (args ++ cs) h R
  | .yield o => C (.yld o) args h R
  | .meth g v => C (.fn g) (v :: args) h R
  | _ => False
/-- what a call's answer makes of what is next -/
def onOut (K Pn : AV → H → Prop) : AOut → H → Prop := fun r h => match r with | .val v => K v h | .panic v => Pn v h
/-- a call, or another operation -/
def WOpG (C : CallP) (op : AOp) (s : S) (h : H) (K Pn : AV → H → Prop) : Prop :=
  match op with
  | .call f args => WFunG C (f.ev s) (args.map (·.ev s)) h (onOut K Pn)
  | .panic x => match x.ev s with | .iface t v => Pn (.iface t v) h | _ => False
  | .nextM x => nextP h K (x.ev s)
  | op => WX (exec op s h) K
def WOpsG (C : CallP) : List AStep → Post → S → H → Prop
  | [], Q, s, h => Q .normal s h
  | st :: r, Q, s, h =>
    if wanted st.guard s = true then WOpG C st.op s h (fun v h => WOpsG C r Q (upd s st.dst v) h) (fun v h => Q (.panic v) s h)
    else WOpsG C r Q (upd s st.dst undefA) h
/-- a region that draws its order; Pn: what a panic within it comes to -/
def WDrawG (C : CallP) (Pn : AV → H → Prop) : List DStep → List Pend → (S → H → Prop) → S → H → Prop
  | [], pd, Q, s, h => recheck h pd = true ∧ Q s h
  | d :: r, pd, Q, s, h =>
    if d.st.op.kind = .eff then
      recheck h pd = true ∧
      if wanted d.st.guard s = true then WOpG C d.st.op s h (fun v h => WDrawG C Pn r (pd.filter fun p => !d.bef.testBit p.i) Q (upd s d.st.dst v) h) Pn
      else WDrawG C Pn r (pd.filter fun p => !d.bef.testBit p.i) Q (upd s d.st.dst undefA) h
    else if wanted d.st.guard s = true then
      WX (exec d.st.op s h) fun v h' => WDrawG C Pn r (if d.st.op.kind = .read then ⟨d.i, d.st.op, s, v⟩ :: pd else pd) Q (upd s d.st.dst v) h'
    else WDrawG C Pn r pd Q (upd s d.st.dst undefA) h
/-- no operation of a region writes to a temporary -/
def noDst (l : List DStep) (t : Nat) : Prop := ∀ d ∈ l, d.st.dst ≠ some t
/-- a panic within a region that draws its order: of what the region writes nothing is known -/
def panD (l : List DStep) (s : S) (Q : Post) : AV → H → Prop := fun v h => ∀ s', (∀ t, noDst l t → s' t = s t) → Q (.panic v) s' h

/-- what stands behind code -/
def andThen (K : S → H → Prop) (Q : Post) : Post := fun ex s h => match ex with | .normal => K s h | ex => Q ex s h
def atExit (id : Nat) (Q : Post) : Post := fun ex s h => match ex with | .exit id' => Q (if id' = id then .normal else .exit id') s h | ex => Q ex s h
/-- a loop's end -/
def loopEnd (Q : Post) (s : S) (o : Nat) : AOut → H → Prop := fun r h => match r with
  | .val _ => ∃ L, h.get o = some (.loop L) ∧ L.st ≠ 1 ∧ (match L.pend with
    | none => Q .normal s (h.setLoop o { L with st := 3 })
    | some none => Q .ret s (h.setLoop o { L with st := 3 })
    | some (some id) => Q (.exit id) s (h.setLoop o { L with st := 3 }))
  | .panic _ => False
/-- a round's end -/
def roundEnd (R : AOut → H → Prop) (o : Nat) : Post := fun ex s h => ∃ L, h.get o = some (.loop L) ∧ (match ex with
  | .normal => R (.val (.bool true)) (h.setLoop o { L with st := 0, pend := none })
  | .ret => R (.val (.bool false)) (h.setLoop o { L with st := 2, pend := some none })
  | .exit id => R (.val (.bool false)) (h.setLoop o { L with st := 2, pend := some (some id) })
  | .panic _ => False)
/-- what a body leaves behind -/
def atEnd (rs : List ARes) (R : AOut → H → Prop) : Post := fun ex s h => match ex with
  | .normal | .ret => WX ((resultsA rs s h).map (·, h)) fun v h => R (.val v) h
  | .panic v => R (.panic v) h
  | .exit _ => False
/-- the panic behind which a deferred call is made; none: there is none -/
def panOf : AEx → Option (Option AV)
  | .normal => some none
  | .ret => some none
  | .panic v => some (some v)
  | .exit _ => none
/-- behind all: the results -/
def atLast (rs : List ARes) (s : S) (R : AOut → H → Prop) : H → Prop := fun h => WX ((resultsA rs s h).map (·, h)) fun v h => R (.val v) h

inductive Job where
  | code (c : ACode) (s : S) (h : H) (Q : Post)
  | call (f : Fn) (args : List AV) (h : H) (R : AOut → H → Prop)
  | dcode (d : DCode) (rs : List ARes) (s : S) (h : H) (R : AOut → H → Prop)
  | rcv (f : AV) (u : Option AV) (h : H) (R : H → Prop)

inductive Holds (E : Env) : Job → Prop
  | skip {s : S} {h : H} {Q : Post} (w : Q .normal s h) : Holds E (.code .skip s h Q)
  | exit {id : Nat} {s : S} {h : H} {Q : Post} (w : Q (.exit id) s h) : Holds E (.code (.exit id) s h Q)
  | ret {s : S} {h : H} {Q : Post} (w : Q .ret s h) : Holds E (.code .ret s h Q)
  | ops {l : List AStep} {s : S} {h : H} {Q : Post} (C : CallP) (hC : ∀ f a h R, C f a h R → Holds E (.call f a h R)) (w : WOpsG C l Q s h) : Holds E (.code (.ops l) s h Q)
  | draw {l : List DStep} {s : S} {h : H} {Q : Post} (C : CallP) (hC : ∀ f a h R, C f a h R → Holds E (.call f a h R)) (w : WDrawG C (panD l s Q) l [] (Q .normal) s h) : Holds E (.code (.draw l) s h Q)
  | seq {a b : ACode} {s : S} {h : H} {Q : Post} (M : S → H → Prop) (w : Holds E (.code a s h (andThen M Q))) (k : ∀ s h, M s h → Holds E (.code b s h Q)) : Holds E (.code (.seq a b) s h Q)
  | cond {c : AOpd} {t : Bool} {a b : ACode} {s : S} {h : H} {Q : Post} (hc : c.ev s = .bool t) (w : Holds E (.code (if t then a else b) s h Q)) : Holds E (.code (.cond c a b) s h Q)
  | block {id : Nat} {c : ACode} {s : S} {h : H} {Q : Post} (w : Holds E (.code c s h (atExit id Q))) : Holds E (.code (.block id c) s h Q)
  | scope {c : ACode} {s : S} {h : H} {Q : Post} (w : Holds E (.code c s h Q)) : Holds E (.code (.scope c) s h Q)
  | loop {c : ACode} {s : S} {h : H} {Q : Post} (M : S → H → Prop) (w : Holds E (.code c s h (andThen M Q))) (k : ∀ s h, M s h → Holds E (.code (.loop c) s h Q)) : Holds E (.code (.loop c) s h Q)
  | range {nt : Nat} {f : AOpd} {ps : List Nat} {assign body : ACode} {s : S} {h : H} {Q : Post} {g : Nat} {cs : List AV} (hf : f.ev s = .func g cs) (hg : (E.T g).isSome = true)
      (w : Holds E (.call (.fn g) (.yield h.n :: cs) (h.push (.loop ⟨0, none, nt, s, ps, assign, body⟩)) (loopEnd Q s h.n))) : Holds E (.code (.range nt f ps assign body) s h Q)
  | mono {c : ACode} {s : S} {h : H} {Q Q' : Post} (w : Holds E (.code c s h Q)) (hq : ∀ ex s h, Q ex s h → Q' ex s h) : Holds E (.code c s h Q')
  | ov {f : Nat} {g : List AV → H → Option (AOut × H)} {args : List AV} {h h' : H} {r : AOut} {R : AOut → H → Prop} (ho : E.ov f = some g) (hg : g args h = some (r, h')) (hr : R r h') : Holds E (.call (.fn f) args h R)
  | fn {f : Nat} {fn : AFunc} {args : List AV} {h : H} {R : AOut → H → Prop} (ho : E.ov f = none) (hT : E.T f = some fn) (hl : args.length ≤ fn.ntmps) (w : Holds E (.code fn.body (enterS args) h (atEnd fn.results R))) :
      Holds E (.call (.fn f) args h R)
  | fnD {f : Nat} {fn : ADef} {args : List AV} {h : H} {R : AOut → H → Prop} (ho : E.ov f = none) (hT : E.D f = some fn) (hl : args.length ≤ fn.ntmps) (w : Holds E (.dcode fn.body fn.results (enterS args) h R)) :
      Holds E (.call (.fn f) args h R)
  | yld {o : Nat} {args : List AV} {h : H} {R : AOut → H → Prop} {L : LoopRec} (hL : h.get o = some (.loop L)) (hl : args.length = L.ps.length) (M : S → H → Prop) (L1 : S → H → LoopRec)
      (w : Holds E (.code L.assign (setPs L.s L.ps args) h (fun ex s h => ex = .normal ∧ M s h)))
      (hL1 : ∀ s h, M s h → h.get o = some (.loop (L1 s h))) (hst : ∀ s h, M s h → (L1 s h).st = 0)
      (k : ∀ s h, M s h → Holds E (.code L.body s (h.setLoop o { L1 s h with st := 1 }) (roundEnd R o))) : Holds E (.call (.yld o) args h R)
  | monoC {f : Fn} {args : List AV} {h : H} {R R' : AOut → H → Prop} (w : Holds E (.call f args h R)) (hr : ∀ r h, R r h → R' r h) : Holds E (.call f args h R')
  | dseq {a : ACode} {d : DCode} {rs : List ARes} {s : S} {h : H} {R : AOut → H → Prop} (M : S → H → Prop) (w : Holds E (.code a s h (andThen M (atEnd rs R)))) (k : ∀ s h, M s h → Holds E (.dcode d rs s h R)) :
      Holds E (.dcode (.seq a d) rs s h R)
  | dfr {l : List AStep} {f : AOpd} {post : ACode} {rs : List ARes} {s : S} {h : H} {R : AOut → H → Prop} (C : CallP) (hC : ∀ f a h R, C f a h R → Holds E (.call f a h R)) (M : S → H → Prop)
      (w : WOpsG C l (fun ex s h => ex = .normal ∧ M s h) s h) (hf : ∀ s h, M s h → ∃ g cs, f.ev s = .func g cs) (M2 : S → H → Post) (k : ∀ s h, M s h → Holds E (.code post s h (M2 s h)))
      (hx : ∀ s h, M s h → ∀ ex s2 h2, M2 s h ex s2 h2 → (panOf ex).isSome = true)
      (k2 : ∀ s h, M s h → ∀ ex s2 h2 u, M2 s h ex s2 h2 → panOf ex = some u → Holds E (.rcv (f.ev s) u h2 (atLast rs s2 R))) : Holds E (.dcode (.dfr l f post) rs s h R)
  | recv {g : Nat} {cs : List AV} {fn : ARec} {u : Option AV} {h : H} {R : H → Prop} (hR : E.R g = some fn) (hl : cs.length ≤ fn.ntmps) (M : S → H → Prop)
      (w : WOpsG (fun _ _ _ _ => False) fn.ops (fun ex s h => ex = .normal ∧ M s h) (upd (enterS cs) (some fn.dst) (u.getD .nili)) h)
      (k : ∀ s h, M s h → Holds E (.code fn.body s h (fun ex _ h => (ex = .normal ∨ ex = .ret) ∧ R h))) : Holds E (.rcv (.func g cs) u h R)

/-! ### more is known of calls, less is asked -/
theorem nextP.imp {h : H} {K K' : AV → H → Prop} {x : AV} (w : nextP h K x) (hk : ∀ v h, K v h → K' v h) : nextP h K' x := by
  unfold nextP at w ⊢
  split at w
  · split at w
    · exact hk _ _ w
    · split at w
      · exact ⟨w.1, fun q => hk _ _ (w.2.1 q), fun e he hs => hk _ _ (w.2.2 e he hs)⟩
      · exact w.elim
    · exact w.elim
  · exact w.elim
section
variable {C C' : CallP}
theorem WFunG.imp (hC : ∀ f a h R, C f a h R → C' f a h R) {f : AV} {args : List AV} {h : H} {R : AOut → H → Prop} (w : WFunG C f args h R) : WFunG C' f args h R := by
  unfold WFunG at w ⊢
  split at w <;> first | exact hC _ _ _ _ w | exact w
theorem onOut.imp {K K' Pn Pn' : AV → H → Prop} (hk : ∀ v h, K v h → K' v h) (hp : ∀ v h, Pn v h → Pn' v h) : ∀ r h, onOut K Pn r h → onOut K' Pn' r h := by
  intro r h w
  cases r
  · exact hk _ _ w
  · exact hp _ _ w
theorem WOpG.imp (hC : ∀ f a h R R', (∀ r h, R r h → R' r h) → C f a h R → C' f a h R') {op : AOp} {s : S} {h : H} {K K' Pn Pn' : AV → H → Prop} (hk : ∀ v h, K v h → K' v h) (hp : ∀ v h, Pn v h → Pn' v h) (w : WOpG C op s h K Pn) : WOpG C' op s h K' Pn' := by
  cases op
  case call f args =>
    simp only [WOpG] at w ⊢
    unfold WFunG at w ⊢
    split at w <;> first | exact hC _ _ _ _ _ (onOut.imp hk hp) w | exact w
  case panic x =>
    simp only [WOpG] at w ⊢
    split at w <;> first | exact hp _ _ w | exact w
  case nextM x => exact nextP.imp w hk
  all_goals first | exact hk _ _ w | exact WX.imp (K := K) w hk
theorem WOpsG.imp (hC : ∀ f a h R R', (∀ r h, R r h → R' r h) → C f a h R → C' f a h R') : ∀ {l : List AStep} {Q Q' : Post} {s : S} {h : H}, (∀ ex s h, Q ex s h → Q' ex s h) → WOpsG C l Q s h → WOpsG C' l Q' s h
  | [], Q, Q', s, h, hq, w => hq _ _ _ w
  | st :: r, Q, Q', s, h, hq, w => by
    simp only [WOpsG] at w ⊢
    split at w
    · rename_i hw
      rw [if_pos hw]
      exact WOpG.imp hC (fun v h w => WOpsG.imp hC hq w) (fun v h w => hq _ _ _ w) w
    · rename_i hw
      rw [if_neg hw]
      exact WOpsG.imp hC hq w
theorem WDrawG.imp (hC : ∀ f a h R R', (∀ r h, R r h → R' r h) → C f a h R → C' f a h R') {Pn Pn' : AV → H → Prop} (hp : ∀ v h, Pn v h → Pn' v h) : ∀ {l : List DStep} {pd : List Pend} {Q Q' : S → H → Prop} {s : S} {h : H}, (∀ s h, Q s h → Q' s h) → WDrawG C Pn l pd Q s h → WDrawG C' Pn' l pd Q' s h
  | [], pd, Q, Q', s, h, hq, w => ⟨w.1, hq _ _ w.2⟩
  | d :: r, pd, Q, Q', s, h, hq, w => by
    simp only [WDrawG] at w ⊢
    split at w
    · rename_i hk
      rw [if_pos hk]
      refine ⟨w.1, ?_⟩
      have w := w.2
      split at w
      · rename_i hw
        rw [if_pos hw]
        exact WOpG.imp hC (fun v h w => WDrawG.imp hC hp hq w) hp w
      · rename_i hw
        rw [if_neg hw]
        exact WDrawG.imp hC hp hq w
    · rename_i hk
      rw [if_neg hk]
      split at w
      · rename_i hw
        rw [if_pos hw]
        exact WX.imp w (fun v h w => WDrawG.imp hC hp hq w)
      · rename_i hw
        rw [if_neg hw]
        exact WDrawG.imp hC hp hq w
end
theorem WOpG_plain {C : CallP} {op : AOp} (hp : op.plain = true) (s : S) (h : H) (K Pn : AV → H → Prop) : WOpG C op s h K Pn = WX (exec op s h) K := by
  cases op <;> first | rfl | cases hp
end Go.Proofs.YtlbaphapjclkdaaGreatDoor.Ev
