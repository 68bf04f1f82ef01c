/- What one operation answers over the abstract heap, the model's operation answers: cuts, indexes, parts, literals, append, copy. -/
import Derived.Test.YtlbaphapjclkdaaGreatDoorEv7
namespace Go.Proofs.YtlbaphapjclkdaaGreatDoor.Ev
set_option linter.unusedVariables false
set_option linter.unusedSimpArgs false

section
variable {B0 : Nat} {P : Program} {m : M} {h h' : H} {w : World}

inductive ORel (m : M) : Option AV → Option Value → Prop
  | none : ORel m none none
  | some {a : AV} {v : Value} (h : VRel m a v) : ORel m (some a) (some v)

/-- the bounds of a cut, as the model has them, of a thing of which more may lie behind -/
theorem sound_bounds {isS : Bool} {len cap : Nat} (hc : len ≤ cap) {lo hi : Option AV} {lo' hi' : Option Value} (hl : ORel m lo lo') (hh : ORel m hi hi') {p : Nat × Nat} (he : bounds len lo hi = some p) (w : World) :
    (Instr.sliceBounds isS len cap lo' hi' none).run P w = .ok (p.1, p.2, cap) w ∧ p.1 ≤ p.2 ∧ p.2 ≤ len := by
  unfold bounds at he
  have sb : ∀ (n : Int) (k : IntKind) (y : Nat) (c : BoundsCode), 0 ≤ n → n ≤ (y : Int) → (Instr.sliceBound (.int k n) y c).run P w = .ok n.toNat w := by
    intro n k y c h0 h1
    simp [Instr.sliceBound, asIntOf, h0, h1]
  have lower : ∀ (u : Nat), (match (match lo with | none => some 0 | some (.int _ n) => if 0 ≤ n ∧ n ≤ (u : Int) then some n.toNat else none | _ => none) with | none => none | some l => some (l, u)) = some p → u ≤ len →
      ((match lo' with | some v => Instr.sliceBound v u .sliceB | none => (Pure.pure 0 : Sem Nat))).run P w = .ok p.1 w ∧ p.1 ≤ p.2 ∧ p.2 = u := by
    intro u hu hul
    cases hl with
    | none => simp only [Option.some.injEq] at hu; subst hu; exact ⟨rfl, Nat.zero_le _, rfl⟩
    | some hv =>
      cases hv <;> simp only at hu <;> try (cases hu; done)
      case int k n =>
        split at hu
        · cases hu
        · rename_i l hl
          split at hl
          · rename_i hn
            cases hl; cases hu
            exact ⟨sb _ _ _ _ hn.1 hn.2, by simp only; omega, rfl⟩
          · cases hl
  cases hh with
  | none =>
    simp only at he
    obtain ⟨h1, h2, h3⟩ := lower len he (Nat.le_refl _)
    refine ⟨?_, h2, by omega⟩
    simp only [Instr.sliceBounds, Sem.run_bind, Sem.run_pure, Result.andThen_ok]
    rw [show (Option.isSome (none : Option Value)) = false from rfl]
    simp only [Bool.false_eq_true, if_false]
    cases lo' with
    | none => simp only at h1 ⊢; rw [Sem.run_bind, h1]; simp [h3]
    | some v => simp only at h1 ⊢; rw [Sem.run_bind, h1]; simp [h3]
  | some hv =>
    cases hv <;> simp only at he <;> try (cases he; done)
    case int k n =>
      split at he
      · cases he
      · rename_i u hu
        split at hu
        · rename_i hn
          cases hu
          obtain ⟨h1, h2, h3⟩ := lower n.toNat he (by omega)
          refine ⟨?_, h2, by omega⟩
          simp only [Instr.sliceBounds, Sem.run_bind, Sem.run_pure, Result.andThen_ok, sb n k cap _ hn.1 (by omega)]
          rw [show (Option.isSome (none : Option Value)) = false from rfl]
          simp only [Bool.false_eq_true, if_false]
          cases lo' with
          | none => simp only at h1 ⊢; rw [Sem.run_bind, h1]; simp [h3]
          | some v => simp only at h1 ⊢; rw [Sem.run_bind, h1]; simp [h3]
        · cases hu

theorem sound_sliceS (r : Rel P B0 m h w) {t e : TypeId} {es : Nat} (hu : P.underlying t = some (.slice e)) (hn : sizeP P e = some es) {lo hi : Option AV} {lo' hi' : Option Value} (hl : ORel m lo lo') (hh : ORel m hi hi')
    {x v : AV} {x' : Value} (hx : VRel m x x') (he : sliceSA es lo hi x = some v) : SemOK P B0 m h w v h ((Instr.sliceAt t x' lo' hi' none).run P w) := by
  cases hx <;> try (simp [sliceSA] at he; done)
  case nils =>
    simp only [sliceSA] at he
    obtain ⟨p, h1, rfl⟩ := Option.map_eq_some_iff.1 he
    obtain ⟨h2, h3, h4⟩ := sound_bounds (P := P) (isS := true) (Nat.le_refl 0) hl hh h1 w
    refine .same r .nils ?_
    have e1 : p.1 = 0 := by omega
    have e2 : p.2 = 0 := by omega
    simp only [Instr.sliceAt, Sem.run_bind, run_underlying hu, Result.andThen_ok, Instr.slice, h2, run_size hn, Sem.run_pure, e1, e2]
    simp
  case slice o b base sz i len es' cap hm hlc hs =>
    simp only [sliceSA] at he
    split at he
    · rename_i hes; subst hes
      obtain ⟨p, h1, rfl⟩ := Option.map_eq_some_iff.1 he
      obtain ⟨h2, h3, h4⟩ := sound_bounds (P := P) (isS := true) hlc hl hh h1 w
      have hrun : (Instr.sliceAt t (.slice (some ⟨b, base + i, none⟩) len cap) lo' hi' none).run P w = .ok (.slice (if cap = p.1 then some ⟨b, base + i, none⟩ else some ⟨b, base + i + p.1 * es', none⟩) (p.2 - p.1) (cap - p.1)) w := by
        simp only [Instr.sliceAt, Sem.run_bind, run_underlying hu, Result.andThen_ok, Instr.slice, h2, run_size hn, Sem.run_pure, Option.map_some, addr_add]
      by_cases hcp : cap = p.1
      · rw [if_pos hcp, show p.2 - p.1 = 0 from by omega, show cap - p.1 = 0 from by omega] at hrun
        rw [show p.2 - p.1 = 0 from by omega]
        exact .same r (.slice0 _ _ _ _ hm) hrun
      · rw [if_neg hcp] at hrun
        have hmul : (cap - p.1) * es' + p.1 * es' = cap * es' := by rw [← Nat.add_mul]; congr 1; omega
        have := VRel.slice (m := m) (i + p.1 * es') (p.2 - p.1) es' (cap - p.1) hm (by omega) (by omega)
        rw [show base + (i + p.1 * es') = base + i + p.1 * es' from by omega] at this
        exact .same r this hrun
    · cases he
  case slice0 o i es' a x hm =>
    simp only [sliceSA] at he
    split at he
    · rename_i hes; subst hes
      obtain ⟨p, h1, rfl⟩ := Option.map_eq_some_iff.1 he
      obtain ⟨h2, h3, h4⟩ := sound_bounds (P := P) (isS := true) (Nat.le_refl 0) hl hh h1 w
      have e1 : p.1 = 0 := by omega
      have e2 : p.2 = 0 := by omega
      rw [show p.2 - p.1 = 0 from by omega]
      refine .same r (v' := .slice (some a) 0 0) (.slice0 _ _ _ _ hm) ?_
      simp only [Instr.sliceAt, Sem.run_bind, run_underlying hu, Result.andThen_ok, Instr.slice, h2, run_size hn, Sem.run_pure, e1, e2]
      simp
    · cases he
theorem sound_bounds3 {len cap : Nat} (hc : len ≤ cap) {lo : Option AV} {lo' : Option Value} (hl : ORel m lo lo') {k k' : IntKind} {a c : Int} (hac : a ≤ c) (hcl : c ≤ (len : Int)) {p : Nat × Nat} (he : bounds len lo (some (.int k a)) = some p) (w : World) :
    (Instr.sliceBounds true len cap lo' (some (.int k a)) (some (.int k' c))).run P w = .ok (p.1, p.2, c.toNat) w ∧ p.1 ≤ p.2 ∧ p.2 ≤ c.toNat ∧ c.toNat ≤ cap ∧ 0 ≤ a := by
  have sb : ∀ (n : Int) (k : IntKind) (y : Nat) (c : BoundsCode), 0 ≤ n → n ≤ (y : Int) → (Instr.sliceBound (.int k n) y c).run P w = .ok n.toNat w := by
    intro n k y c h0 h1
    simp [Instr.sliceBound, asIntOf, h0, h1]
  unfold bounds at he
  simp only at he
  split at he
  · cases he
  · rename_i u hu
    split at hu
    case isFalse => cases hu
    rename_i hn
    cases hu
    have main : (match lo' with | some v => Instr.sliceBound v a.toNat .slice3C | none => (Pure.pure 0 : Sem Nat)).run P w = .ok p.1 w ∧ p.1 ≤ p.2 ∧ p.2 = a.toNat := by
      cases hl with
      | none => simp only [Option.some.injEq] at he; subst he; exact ⟨rfl, Nat.zero_le _, rfl⟩
      | some hv =>
        cases hv <;> simp only at he <;> try (cases he; done)
        case int k n =>
          split at he
          · cases he
          · rename_i l hl
            split at hl
            · rename_i hn
              cases hl; cases he
              exact ⟨sb _ _ _ _ hn.1 hn.2, by simp only; omega, rfl⟩
            · cases hl
    obtain ⟨h1, h2, h3⟩ := main
    refine ⟨?_, h2, by omega, by omega, hn.1⟩
    simp only [Instr.sliceBounds, Sem.run_bind, Sem.run_pure, Result.andThen_ok, sb c k' cap _ (by omega) (by omega), sb a k c.toNat _ hn.1 (by omega)]
    rw [show (Option.isSome (some (Value.int k' c))) = true from rfl]
    simp only [if_true]
    cases lo' with
    | none => simp only at h1 ⊢; rw [Sem.run_bind, h1]; simp [h3]
    | some v => simp only at h1 ⊢; rw [Sem.run_bind, h1]; simp [h3]
theorem sound_slice3 (r : Rel P B0 m h w) {t e : TypeId} {es : Nat} (hu : P.underlying t = some (.slice e)) (hn : sizeP P e = some es) {lo : Option AV} {lo' : Option Value} (hl : ORel m lo lo') {hi mx : AV} {hi' mx' : Value} (hh : VRel m hi hi') (hm : VRel m mx mx')
    {x v : AV} {x' : Value} (hx : VRel m x x') (he : slice3A es lo hi mx x = some v) : SemOK P B0 m h w v h ((Instr.sliceAt t x' lo' (some hi') (some mx')).run P w) := by
  unfold slice3A at he
  split at he
  case h_2 => cases he
  rename_i k a k' c n hln
  split at he
  case isFalse => cases he
  rename_i hac
  cases hh
  cases hm
  cases hx <;> try (simp [sliceSA] at he; done)
  case nils =>
    cases hln
    simp only [sliceSA] at he
    obtain ⟨p, h1, rfl⟩ := Option.map_eq_some_iff.1 he
    obtain ⟨h2, h3, h4, h5, h6⟩ := sound_bounds3 (P := P) (k' := k') (Nat.le_refl 0) hl hac.1 hac.2 h1 w
    refine .same r .nils ?_
    have e1 : p.1 = 0 := by omega
    have e2 : p.2 = 0 := by omega
    have e3 : c.toNat = 0 := by omega
    simp only [Instr.sliceAt, Sem.run_bind, run_underlying hu, Result.andThen_ok, Instr.slice, h2, run_size hn, Sem.run_pure, e1, e2, e3]
    simp
  case slice o b base sz i len es' cap hm hlc hs =>
    cases hln
    simp only [sliceSA] at he
    split at he
    · rename_i hes; subst hes
      obtain ⟨p, h1, rfl⟩ := Option.map_eq_some_iff.1 he
      obtain ⟨h2, h3, h4, h5, h6⟩ := sound_bounds3 (P := P) (k' := k') hlc hl hac.1 hac.2 h1 w
      have hrun : (Instr.sliceAt t (.slice (some ⟨b, base + i, none⟩) n cap) lo' (some (.int k a)) (some (.int k' c))).run P w = .ok (.slice (if c.toNat = p.1 then some ⟨b, base + i, none⟩ else some ⟨b, base + i + p.1 * es', none⟩) (p.2 - p.1) (c.toNat - p.1)) w := by
        simp only [Instr.sliceAt, Sem.run_bind, run_underlying hu, Result.andThen_ok, Instr.slice, h2, run_size hn, Sem.run_pure, Option.map_some, addr_add]
      by_cases hcp : c.toNat = p.1
      · rw [if_pos hcp, show p.2 - p.1 = 0 from by omega, show c.toNat - p.1 = 0 from by omega] at hrun
        rw [show p.2 - p.1 = 0 from by omega]
        exact .same r (.slice0 _ _ _ _ hm) hrun
      · rw [if_neg hcp] at hrun
        have hmul : (c.toNat - p.1) * es' + p.1 * es' = c.toNat * es' := by rw [← Nat.add_mul]; congr 1; omega
        have hmul2 : c.toNat * es' ≤ cap * es' := Nat.mul_le_mul_right _ h5
        have := VRel.slice (m := m) (i + p.1 * es') (p.2 - p.1) es' (c.toNat - p.1) hm (by omega) (by omega)
        rw [show base + (i + p.1 * es') = base + i + p.1 * es' from by omega] at this
        exact .same r this hrun
    · cases he
  case slice0 o i es' a' x hm =>
    cases hln
    simp only [sliceSA] at he
    split at he
    · rename_i hes; subst hes
      obtain ⟨p, h1, rfl⟩ := Option.map_eq_some_iff.1 he
      obtain ⟨h2, h3, h4, h5, h6⟩ := sound_bounds3 (P := P) (k' := k') (Nat.le_refl 0) hl hac.1 hac.2 h1 w
      have e1 : p.1 = 0 := by omega
      have e2 : p.2 = 0 := by omega
      have e3 : c.toNat = 0 := by omega
      rw [show p.2 - p.1 = 0 from by omega]
      refine .same r (v' := .slice (some a') 0 0) (.slice0 _ _ _ _ hm) ?_
      simp only [Instr.sliceAt, Sem.run_bind, run_underlying hu, Result.andThen_ok, Instr.slice, h2, run_size hn, Sem.run_pure, e1, e2, e3]
      simp
    · cases he
theorem sound_sliceT (r : Rel P B0 m h w) {t : TypeId} (hu : P.underlying t = some .string) {lo hi : Option AV} {lo' hi' : Option Value} (hl : ORel m lo lo') (hh : ORel m hi hi')
    {x v : AV} {x' : Value} (hx : VRel m x x') (he : sliceTA lo hi x = some v) : SemOK P B0 m h w v h ((Instr.sliceAt t x' lo' hi' none).run P w) := by
  cases hx <;> try (simp [sliceTA] at he; done)
  case str s =>
    simp only [sliceTA] at he
    obtain ⟨p, h1, rfl⟩ := Option.map_eq_some_iff.1 he
    obtain ⟨h2, h3, h4⟩ := sound_bounds (P := P) (isS := false) (Nat.le_refl s.length) hl hh h1 w
    refine .same r (v' := .string ⟨⟨(s.drop p.1).take (p.2 - p.1)⟩⟩) (.str _) ?_
    have hx : (⟨⟨s⟩⟩ : ByteArray).extract p.1 p.2 = ⟨⟨(s.drop p.1).take (p.2 - p.1)⟩⟩ := by
      apply ByteArray.ext
      simp [ByteArray.data_extract]
    simp only [Instr.sliceAt, Sem.run_bind, run_underlying hu, Result.andThen_ok, Instr.slice, str_size, h2, Sem.run_pure, Option.isSome_none, Bool.false_eq_true, if_false, Sem.run_ite, hx]
theorem sound_sliceA (r : Rel P B0 m h w) {t e : TypeId} {es n : Nat} (hu : P.underlying t = some (.array n e) ∨ ∃ q, P.underlying t = some (.pointer q) ∧ P.underlying q = some (.array n e)) (hn : sizeP P e = some es) {lo hi : Option AV} {lo' hi' : Option Value} (hl : ORel m lo lo') (hh : ORel m hi hi')
    {x v : AV} {x' : Value} (hx : VRel m x x') (he : sliceAA h es n lo hi x = some v) : SemOK P B0 m h w v h ((Instr.sliceAt t x' lo' hi' none).run P w) := by
  cases hx <;> try (simp [sliceAA] at he; done)
  case ptr o b base sz i hm =>
    simp only [sliceAA] at he
    split at he
    case h_2 => cases he
    rename_i cs g hg
    split at he
    · rename_i hfit
      obtain ⟨p, h1, rfl⟩ := Option.map_eq_some_iff.1 he
      obtain ⟨h2, h3, h4⟩ := sound_bounds (P := P) (isS := false) (Nat.le_refl n) hl hh h1 w
      obtain ⟨hrow, _⟩ := r.row hg hm
      have hrun : (Instr.sliceAt t (.pointer (some ⟨b, base + i, none⟩)) lo' hi' none).run P w = .ok (.slice (some (if n = p.1 then ⟨b, base + i, none⟩ else ⟨b, base + i + p.1 * es, none⟩)) (p.2 - p.1) (n - p.1)) w := by
        rcases hu with hu | ⟨q, hu, hq⟩
        · simp only [Instr.sliceAt, Sem.run_bind, run_underlying hu, Result.andThen_ok, Instr.sureAddr, h2, run_size hn, Sem.run_pure, addr_add]
        · simp only [Instr.sliceAt, Sem.run_bind, run_underlying hu, run_underlying hq, Result.andThen_ok, Instr.slice, asAddr, h2, run_size hn, Sem.run_pure, addr_add]
      by_cases hcp : n = p.1
      · rw [if_pos hcp, show p.2 - p.1 = 0 from by omega, show n - p.1 = 0 from by omega] at hrun
        rw [show p.2 - p.1 = 0 from by omega]
        exact .same r (.slice0 _ _ _ _ hm) hrun
      · rw [if_neg hcp] at hrun
        have hmul : (n - p.1) * es + p.1 * es = n * es := by rw [← Nat.add_mul]; congr 1; omega
        have := VRel.slice (m := m) (i + p.1 * es) (p.2 - p.1) es (n - p.1) hm (by omega) (by omega)
        rw [show base + (i + p.1 * es) = base + i + p.1 * es from by omega] at this
        exact .same r this hrun
    · cases he

theorem sound_part {t : TypeId} {agg : Bool} {off n : Nat} (ha : aggOf P t = some agg) (hn : sizeP P t = some n) {cs : List AV} {cs' : List Value} (hv : VRels m cs cs') {v : AV} (he : partA agg off n cs = some v) (w : World) :
    ∃ v', VRel m v v' ∧ (part t ⟨cs'⟩ off).run P w = .ok v' w := by
  unfold partA at he
  cases agg with
  | true =>
    simp only [if_true] at he
    split at he
    · cases he
      refine ⟨_, .agg ((hv.drop off).take n), ?_⟩
      have : (⟨cs'⟩ : Array Value).extract off (off + n) = ⟨(cs'.drop off).take n⟩ := by apply Array.ext'; simp
      simp [part, run_isAgg ha, run_size hn, this]
    · cases he
  | false =>
    simp only [Bool.false_eq_true, if_false] at he
    obtain ⟨u, h1, h2⟩ := hv.get _ _ he
    refine ⟨u, h2, ?_⟩
    have : (⟨cs'⟩ : Array Value)[off]? = some u := by simpa using h1
    simp [part, run_isAgg ha, this]

theorem sound_indexAddr (r : Rel P B0 m h w) {t e : TypeId} {es : Nat} (hu : P.underlying t = some (.slice e)) (hn : sizeP P e = some es) {x y v : AV} {x' y' : Value} (hx : VRel m x x') (hy : VRel m y y') (he : indexAddrA es x y = some v) :
    SemOK P B0 m h w v h ((Instr.indexAt t x' y').run P w) := by
  cases hx <;> try (simp [indexAddrA] at he; done)
  case slice o b base sz i len es' cap hm hlc hs =>
    cases hy <;> try (simp [indexAddrA] at he; done)
    case int k n =>
      simp only [indexAddrA] at he
      split at he
      · rename_i hc
        cases he
        obtain ⟨rfl, h0, h1⟩ := hc
        have := VRel.ptr (m := m) (i + n.toNat * es') hm
        rw [show base + (i + n.toNat * es') = base + i + n.toNat * es' from by omega] at this
        refine .same r this ?_
        simp [Instr.indexAt, asIntOf, run_underlying hu, h0, h1, run_size hn, addr_add]
      · cases he
  case slice0 o i es' a q hm =>
    cases hy <;> try (simp [indexAddrA] at he; done)
    case int k n =>
      simp only [indexAddrA] at he
      split at he
      · omega
      · cases he
theorem sound_indexArr (r : Rel P B0 m h w) {t e : TypeId} {es k : Nat} (hu : P.underlying t = some (.array k e)) (hn : sizeP P e = some es) {x y v : AV} {x' y' : Value} (hx : VRel m x x') (hy : VRel m y y') (he : indexArrA es k x y = some v) :
    SemOK P B0 m h w v h ((Instr.indexAt t x' y').run P w) := by
  cases hx <;> try (simp [indexArrA] at he; done)
  case ptr o b base sz i hm =>
    cases hy <;> try (simp [indexArrA] at he; done)
    case int q n =>
      simp only [indexArrA] at he
      split at he
      · rename_i hc
        cases he
        obtain ⟨h0, h1⟩ := hc
        have := VRel.ptr (m := m) (i + n.toNat * es) hm
        rw [show base + (i + n.toNat * es) = base + i + n.toNat * es from by omega] at this
        refine .same r this ?_
        simp [Instr.indexAt, asIntOf, run_underlying hu, h0, h1, run_size hn, addr_add, Instr.sureAddr]
      · cases he
theorem sound_indexStr (r : Rel P B0 m h w) {t : TypeId} (hu : P.underlying t = some .string) {x y v : AV} {x' y' : Value} (hx : VRel m x x') (hy : VRel m y y') (he : indexStrA x y = some v) :
    SemOK P B0 m h w v h ((Instr.index t x' y').run P w) := by
  cases hx <;> try (simp [indexStrA] at he; done)
  case str s =>
    cases hy <;> try (simp [indexStrA] at he; done)
    case int q n =>
      simp only [indexStrA] at he
      split at he
      · rename_i h0
        obtain ⟨c, h1, rfl⟩ := Option.map_eq_some_iff.1 he
        refine .same r (.int _ _) ?_
        have : (⟨⟨s⟩⟩ : ByteArray)[n.toNat]? = some c := by
          have hlt := (List.getElem?_eq_some_iff.1 h1)
          obtain ⟨hl, hg⟩ := hlt
          rw [getElem?_pos (⟨⟨s⟩⟩ : ByteArray) n.toNat hl]
          exact congrArg some hg
        simp [Instr.index, asIntOf, run_underlying hu, h0, this]
      · cases he
theorem sound_indexAgg (r : Rel P B0 m h w) {t e : TypeId} {agg : Bool} {es k : Nat} (hu : P.underlying t = some (.array k e)) (ha : aggOf P e = some agg) (hn : sizeP P e = some es) {x y v : AV} {x' y' : Value} (hx : VRel m x x') (hy : VRel m y y') (he : indexAggA agg es k x y = some v) :
    SemOK P B0 m h w v h ((Instr.index t x' y').run P w) := by
  cases hx <;> try (simp [indexAggA] at he; done)
  case agg cs cs' hv =>
    cases hy <;> try (simp [indexAggA] at he; done)
    case int q n =>
      simp only [indexAggA] at he
      split at he
      · rename_i hc
        obtain ⟨u, h1, h2⟩ := sound_part ha hn hv he w
        refine .same r h1 ?_
        simp [Instr.index, asIntOf, run_underlying hu, hc.1, hc.2, run_size hn, h2]
      · cases he
theorem sound_fieldAddr (r : Rel P B0 m h w) {t : TypeId} {fs : Array Field} {i : Nat} {f : Field} {n : Nat} (hu : P.underlying t = some (.struct fs)) (hf : fs[i]? = some f) (hn : sizeP P f.type = some n) (h0 : n ≠ 0) {x v : AV} {x' : Value} (hx : VRel m x x') (he : fieldAddrA f.offset x = some v) :
    SemOK P B0 m h w v h ((Instr.fieldAt t x' i).run P w) := by
  cases hx <;> try (simp [fieldAddrA] at he; done)
  case ptr o b base sz j hm =>
    simp only [fieldAddrA, Option.some.injEq] at he
    subst he
    have := VRel.ptr (m := m) (j + f.offset) hm
    rw [show base + (j + f.offset) = base + j + f.offset from by omega] at this
    refine .same r this ?_
    simp [Instr.fieldAt, run_underlying hu, hf, Instr.sureAddr, fieldPlace, run_size hn, h0, addr_add]
theorem sound_field (r : Rel P B0 m h w) {t : TypeId} {fs : Array Field} {i : Nat} {f : Field} {agg : Bool} {n : Nat} (hu : P.underlying t = some (.struct fs)) (hf : fs[i]? = some f) (ha : aggOf P f.type = some agg) (hn : sizeP P f.type = some n) {x v : AV} {x' : Value} (hx : VRel m x x') (he : fieldA agg f.offset n x = some v) :
    SemOK P B0 m h w v h ((Instr.field t x' i).run P w) := by
  cases hx <;> try (simp [fieldA] at he; done)
  case agg cs cs' hv =>
    obtain ⟨u, h1, h2⟩ := sound_part ha hn hv he w
    refine .same r h1 ?_
    simp [Instr.field, run_underlying hu, hf, asAgg, h2]

/-! ### literals -/
theorem foldl_get (vs : List Value) : ∀ (off : Nat) (cs : Array Value) (j : Nat), off + j + vs.length ≤ cs.size →
    ((vs.zipIdx j).foldl (fun cs (p : Value × Nat) => cs.setIfInBounds (off + p.2) p.1) cs).size = cs.size ∧
    ∀ q, ((vs.zipIdx j).foldl (fun cs (p : Value × Nat) => cs.setIfInBounds (off + p.2) p.1) cs)[q]? = if q < off + j then cs[q]? else if q < off + j + vs.length then vs[q - (off + j)]? else cs[q]? := by
  induction vs with
  | nil => intro off cs j h; refine ⟨by simp, fun q => ?_⟩; simp only [List.zipIdx_nil, List.foldl_nil, List.length_nil, Nat.add_zero]; split <;> simp_all
  | cons v vs ih =>
    intro off cs j h
    simp only [List.zipIdx_cons, List.foldl_cons]
    simp only [List.length_cons] at h
    obtain ⟨h1, h2⟩ := ih off (cs.setIfInBounds (off + j) v) (j + 1) (by simp; omega)
    refine ⟨by rw [h1]; simp, fun q => ?_⟩
    rw [h2]
    simp only [List.length_cons, Array.getElem?_setIfInBounds]
    by_cases c1 : q < off + j
    · rw [if_pos (by omega), if_pos c1, if_neg (by omega)]
    · rw [if_neg c1]
      by_cases c2 : off + j = q
      · subst c2
        rw [if_pos (by omega), if_pos rfl, if_pos (by omega), if_pos (by omega)]
        simp
      · by_cases c3 : q < off + (j + 1) + vs.length
        · rw [if_neg (by omega), if_pos c3, if_pos (by omega), show q - (off + j) = (q - (off + (j + 1))) + 1 from by omega, List.getElem?_cons_succ]
        · rw [if_neg (by omega), if_neg c3, if_neg c2, if_neg (by omega)]
theorem gsplice_get {α : Type} {cs vs : List α} {i : Nat} (h : i + vs.length ≤ cs.length) (j : Nat) : (cs.take i ++ vs ++ cs.drop (i + vs.length))[j]? = if j < i then cs[j]? else if j < i + vs.length then vs[j - i]? else cs[j]? := by
  by_cases h1 : j < i
  · rw [if_pos h1, List.append_assoc, List.getElem?_append_left (by simp; omega), List.getElem?_take, if_pos h1]
  · rw [if_neg h1]
    by_cases h2 : j < i + vs.length
    · rw [if_pos h2, List.getElem?_append_left (by simp; omega), List.getElem?_append_right (by simp; omega)]
      simp; congr 1; omega
    · rw [if_neg h2, List.getElem?_append_right (by simp; omega), List.getElem?_drop]
      simp; congr 1; omega
theorem foldl_splice (vs : List Value) (off : Nat) (cs : Array Value) (h : off + vs.length ≤ cs.size) :
    vs.zipIdx.foldl (fun cs (p : Value × Nat) => cs.setIfInBounds (off + p.2) p.1) cs = ⟨cs.toList.take off ++ vs ++ cs.toList.drop (off + vs.length)⟩ := by
  obtain ⟨h1, h2⟩ := foldl_get vs off cs 0 (by simpa using h)
  apply Array.ext_getElem?
  intro q
  rw [h2]
  have := gsplice_get (cs := cs.toList) (vs := vs) (i := off) (by simpa using h) q
  rw [show (⟨cs.toList.take off ++ vs ++ cs.toList.drop (off + vs.length)⟩ : Array Value)[q]? = (cs.toList.take off ++ vs ++ cs.toList.drop (off + vs.length))[q]? from by rw [← Array.getElem?_toList], this]
  simp
theorem sound_fill (place : Nat → Option (Nat × Nat)) {nt : Nat} {s : S} {a : Act} (hA : ARel m nt s a) : ∀ {ps : List (Nat × Operand)} {q : List (Nat × Nat × AOpd)} {cs : List AV} {cs' : List Value} {out : List AV}, trParts place ps = some q → VRels m cs cs' →
    afill cs (parts s q) = some out → ∃ out', Instr.fill place ⟨cs'⟩ (ps.map fun p => (p.1, a.eval p.2)) = some ⟨out'⟩ ∧ VRels m out out'
  | [], q, cs, cs', out, hq, hv, he => by
    cases hq; simp only [parts, List.map_nil, afill, Option.some.injEq] at he; subst he
    exact ⟨cs', rfl, hv⟩
  | (i, x) :: ps, q, cs, cs', out, hq, hv, he => by
    simp only [trParts] at hq
    split at hq
    · rename_i off n y r' hp hy hr
      cases hq
      simp only [parts, List.map_cons, afill] at he
      split at he
      · rename_i hc
        have hx := (hA.ev hy).cells
        have hlen := hx.len
        have hsp := hv.splice off hx
        obtain ⟨out', h1, h2⟩ := sound_fill place hA hr hsp he
        refine ⟨out', ?_, h2⟩
        simp only [List.map_cons, Instr.fill, hp]
        have hl2 := hv.len
        have hls : (a.eval x).cells.size = n := by rw [← hc.1, hlen]; simp
        rw [if_neg (by simp [hls]; omega)]
        have hll : (a.eval x).cells.toList.length = n := by simpa using hls
        have hf := foldl_splice (a.eval x).cells.toList off ⟨cs'⟩ (by simp; omega)
        have hz : (a.eval x).cells.zipIdx.foldl (fun (cs : Array Value) (x : Value × Nat) => match x with | (c, j) => cs.setIfInBounds (off + j) c) ⟨cs'⟩ = ⟨cs'.take off ++ (a.eval x).cells.toList ++ cs'.drop (off + (a.eval x).cells.toList.length)⟩ := by
          rw [← Array.foldl_toList, Array.toList_zipIdx]; exact hf
        rw [hz]
        exact h1
      · cases he
    · cases hq
theorem zeros_rel {z : List AV} {zv : Array Value} (hv : VRels m z zv.toList) (n : Nat) (h0 : n = 0 ∨ z.length ≠ 0) : VRels m (zeros z n) ((Array.range n).map (zv[· % zv.size]!)).toList := by
  have hlen := hv.len
  have e : ((Array.range n).map (zv[· % zv.size]!)).toList = (List.range n).map fun j => zv[j % zv.size]! := by simp
  rw [e]
  unfold zeros
  refine VRels.of_get (by simp) fun i a ha => ?_
  simp only [List.getElem?_map] at ha ⊢
  cases hr : (List.range n)[i]? with
  | none => rw [hr] at ha; cases ha
  | some j =>
    rw [hr] at ha
    simp only [Option.map_some, Option.some.injEq] at ha ⊢
    subst ha
    have hz : z.length ≠ 0 := by
      rcases h0 with rfl | h0
      · simp at hr
      · exact h0
    have hlt : j % z.length < z.length := Nat.mod_lt _ (by omega)
    obtain ⟨v, h1, h2⟩ := hv.get (j % z.length) z[j % z.length] (List.getElem?_eq_getElem hlt)
    have hsz : zv.size = z.length := by rw [hlen]; simp
    refine ⟨_, rfl, ?_⟩
    have h3 : zv[j % zv.size]! = v := by
      rw [hsz, getElem!_def]
      have : zv[j % z.length]? = some v := by rw [← Array.getElem?_toList]; exact h1
      rw [this]
    rw [h3]
    have h4 : z.getD (j % z.length) (.tup []) = z[j % z.length] := by rw [List.getD_eq_getElem?_getD, List.getElem?_eq_getElem hlt]; rfl
    rw [h4]; exact h2
end
end Go.Proofs.YtlbaphapjclkdaaGreatDoor.Ev

/- append and copy. -/
namespace Go.Proofs.YtlbaphapjclkdaaGreatDoor.Ev
set_option linter.unusedVariables false
set_option linter.unusedSimpArgs false

section
variable {B0 : Nat} {P : Program} {m : M} {h h' : H} {w : World}

theorem zeroCells_size (z : Array Value) (n : Nat) : (Builtin.zeroCells z n).size = n * z.size := by simp [Builtin.zeroCells]
theorem run_append_in {t u e ty : TypeId} {i : TypeInfo} {d : TypeDesc} (hu : P.underlying t = some (.slice e)) (hi : P.info? e = some i) (hd : P.underlying u = some d) (hdi : ∀ k, d ≠ .int k)
    {base : Option Addr} {sLen sCap k : Nat} {y' : Value} {vs : List Value} (hk : (Builtin.lenOf y').run P w = .ok k w) (hf : (Builtin.firstCells i.size k y').run P w = .ok ⟨vs⟩ w) (hle : sLen + k ≤ sCap) {w' : World}
    (hst : (match base with | some a => (storeCells (a.add (sLen * i.size)) vs : Sem Unit) | none => Pure.pure ()).run P w = .ok () w') :
    (Builtin.append_ #[t, u] ty #[.slice base sLen sCap, y']).run P w = .ok (.slice base (sLen + k) sCap) w' := by
  have hz : (match d with | .int _ => true | _ => false) = false := by cases d <;> first | rfl | exact absurd rfl (hdi _)
  have hs : (sizeOf e).run P w = .ok i.size w := run_size (by simp [sizeP, hi]) w
  cases base with
  | none =>
    simp only at hst
    simp [Builtin.append_, run_underlying hu, run_underlying hd, hs, hz, hk, hf, hle]
    simpa using hst
  | some a =>
    simp only at hst
    simp [Builtin.append_, run_underlying hu, run_underlying hd, hs, hz, hk, hf, hle, hst]
theorem run_append_new {t u e ty : TypeId} {i : TypeInfo} {d : TypeDesc} {z : Value} (hu : P.underlying t = some (.slice e)) (hi : P.info? e = some i) (hzv : i.zero = some z) (hb : i.bytes ≤ 16384) (hd : P.underlying u = some d) (hdi : ∀ k, d ≠ .int k)
    {base : Option Addr} {sLen sCap k : Nat} {y' : Value} {olds vs : List Value} (hk : ∀ w, (Builtin.lenOf y').run P w = .ok k w) (hf : (Builtin.firstCells i.size k y').run P w.drew = .ok ⟨vs⟩ w.drew)
    (ho : (Builtin.firstCells i.size sLen (.slice base sLen sCap)).run P w.drew = .ok ⟨olds⟩ w.drew) (hlt : sCap < sLen + k) (hbig : sLen + k < 4294967296) :
    ∃ cap, sLen + k ≤ cap ∧ (Builtin.append_ #[t, u] ty #[.slice base sLen sCap, y']).run P w =
      .ok (.slice (some ⟨w.heap.size, 0, none⟩) (sLen + k) cap) (w.drew.alloc (.cells (⟨olds⟩ ++ ⟨vs⟩ ++ Builtin.zeroCells z.cells (cap - (sLen + k))) e)) := by
  have hz : (match d with | .int _ => true | _ => false) = false := by cases d <;> first | rfl | exact absurd rfl (hdi _)
  have hs : ∀ w, (sizeOf e).run P w = .ok i.size w := run_size (by simp [sizeP, hi])
  have h1 : ¬ (sLen + k ≤ sCap) := by omega
  have h2 : ¬ ((9223372036854775807 : Int) < ((sLen : Int) + (k : Int))) := by omega
  have h3 : Builtin.nextslicecap (sLen + k) sCap ≤ 2 * (sLen + k) := nextslicecap_le hlt
  have h4 : Builtin.nextslicecap (sLen + k) sCap * i.bytes ≤ 281474976710656 := by
    have : Builtin.nextslicecap (sLen + k) sCap * i.bytes ≤ 8589934592 * 16384 := Nat.mul_le_mul (by omega) hb
    omega
  have h5 : ¬ (281474976710656 < Builtin.nextslicecap (sLen + k) sCap * i.bytes) := by omega
  refine ⟨(Question.appendCap (sLen + k) sCap e).cut (w.tape w.drawn (.appendCap (sLen + k) sCap e)), Nat.le_add_right _ _, ?_⟩
  simp [Builtin.append_, run_underlying hu, run_underlying hd, hs, hz, hk, hf, ho, h1, h2, h5, typeInfo, hi, zeroValue, hzv, Question.forced, newRow]
  congr 2; apply Array.ext'; simp

theorem sound_append (r : Rel P B0 m h w) {t u e ty : TypeId} {i : TypeInfo} {d : TypeDesc} (hu : P.underlying t = some (.slice e)) (hi : P.info? e = some i) (h0 : i.size ≠ 0) (hb : i.bytes ≤ 16384) (hzl : (zeroP P e).map List.length = some i.size) (hd : P.underlying u = some d) (hdi : ∀ k, d ≠ .int k)
    {x y v : AV} {x' y' : Value} (hx : VRel m x x') (hy : VRel m y y') (he : appendA h i.size x y = some (v, h')) : SemOK P B0 m h w v h' ((Builtin.append_ #[t, u] ty #[x', y']).run P w) := by
  obtain ⟨z0, hz1, hz2⟩ := Option.map_eq_some_iff.1 hzl
  obtain ⟨i2, zv, hi2, hzv, hzr⟩ := zeroP_eq hz1
  rw [hi] at hi2; cases hi2
  have hzs : zv.cells.size = i.size := by have := (hzr m).len; rw [hz2] at this; simpa using this.symm
  unfold appendA at he
  split at he
  case h_2 => cases he
  rename_i k hk
  split at he
  case h_2 => cases he
  rename_i new hnew
  have hkl : ∀ w, (Builtin.lenOf y').run P w = .ok k w := fun w => sound_lenOf hy hk
  obtain ⟨vs, v1, v2, v3⟩ := sound_first (P := P) r hy hnew
  obtain ⟨vsd, d1, d2, d3⟩ := sound_first (P := P) r.drew hy hnew
  have hvl := v1.len
  unfold H.app at he
  by_cases hk0 : k = 0
  · rw [if_pos hk0] at he
    subst hk0
    have hnil : vs = [] := by
      have : vs.length = 0 := by rw [← hvl, v3]; simp
      exact List.length_eq_zero_iff.1 this
    subst hnil
    cases hx <;> simp only at he <;> try (cases he; done)
    case nils =>
      cases he
      exact .same r .nils (run_append_in hu hi hd hdi (hkl w) v2 (Nat.le_refl 0) rfl)
    case slice o b base sz j len es cap hm hl hs =>
      split at he
      · cases he
        exact .same r (.slice j len es cap hm hl hs) (run_append_in hu hi hd hdi (hkl w) v2 (by omega) rfl)
      · cases he
    case slice0 o j es a q hm =>
      split at he
      · cases he
        exact .same r (.slice0 j es a q hm) (run_append_in hu hi hd hdi (hkl w) v2 (Nat.le_refl 0) rfl)
      · cases he
  · rw [if_neg hk0] at he
    cases hx <;> simp only at he <;> try (cases he; done)
    case nils =>
      split at he
      · rename_i hbig
        cases he
        obtain ⟨cap, hc, hrun⟩ := run_append_new (ty := ty) (sLen := 0) (sCap := 0) (base := none) (olds := []) hu hi hzv hb hd hdi hkl d2 rfl (by omega) (by omega)
        have dl := d1.len
        let CS : Array Value := (⟨[]⟩ : Array Value) ++ ⟨vsd⟩ ++ Builtin.zeroCells zv.cells (cap - (0 + k))
        have hsz : CS.size = cap * i.size := by
          simp [CS, zeroCells_size, hzs]
          rw [← dl, d3, ← Nat.add_mul]; congr 1; omega
        obtain ⟨r', f'⟩ := r.drew.new new CS e (0, 0) (fun q a hq => by
          obtain ⟨c, h1, h2⟩ := d1.get q a hq
          refine ⟨c, ?_, h2⟩
          have hlt := (List.getElem?_eq_some_iff.1 h1).1
          rw [← Array.getElem?_toList]
          simp only [CS, Array.toList_append]
          rw [List.append_assoc, List.nil_append, List.getElem?_append_left hlt]; exact h1) (by rw [hsz, d3]; exact Nat.mul_le_mul_right _ (by omega)) (by simp)
        refine ⟨_, _, _, hrun, r', (Fr.drew m h w).trans f', ?_⟩
        have := VRel.new_slice m h.n w.heap.size CS.size (0 + k) i.size cap (by omega) (by omega)
        rw [Nat.zero_add] at this ⊢; exact this
      · cases he
    case slice o b base sz j len es cap hm hl hs =>
      split at he
      case h_2 => cases he
      rename_i cs g hg
      split at he
      case isFalse => cases he
      rename_i hc
      obtain ⟨ht, rfl, hfit, hbig, hlv, hall⟩ := hc
      cases he
      have hon := r.wf.ob _ _ hg
      have C := H.child_to ((cs.drop j).take (len * i.size) ++ new) hg ht hlv hfit hon
      have hrow : h.row o = some cs := by unfold H.row; rw [hg]; simp only; rw [if_pos hlv]
      by_cases hin : len + k ≤ cap
      · have hmul : (len + k) * i.size ≤ cap * i.size := Nat.mul_le_mul_right _ hin
        rw [Nat.add_mul] at hmul
        obtain ⟨r', f', hci, hcf⟩ := r.childIn C hm v1 (by rw [v3]; omega)
        have hst : (storeCells ((⟨b, base + j, none⟩ : Addr).add (len * i.size)) vs : Sem Unit).run P w = .ok () (w.setCells b (base + j + len * i.size) vs) := by
          rw [addr_add]
          have hone : ∀ q ∈ vs, q.oneCell' = true := v1.all_one hall
          exact run_storeCells_cells b (base + j + len * i.size) vs 0 w (by simpa using hci) (by simpa using hcf) hone
        refine ⟨_, _, _, run_append_in hu hi hd hdi (hkl w) v2 hin hst, r', f', ?_⟩
        have := VRel.slice (m := m.set h.n (b, base + j, sz)) (o := h.n) (b := b) (base := base + j) (sz := sz) 0 (len + k) i.size cap (by unfold M.set; rw [if_pos rfl]) hin (by omega)
        simpa using this
      · obtain ⟨olds, o1, o2, o3⟩ := sound_first (P := P) (k := len) (es := i.size) r.drew (.slice j len i.size cap hm hl hs) (new := (cs.drop j).take (len * i.size)) (by simp only [H.firstCells]; rw [if_pos ⟨trivial, Nat.le_refl _⟩, hrow]; simp only; rw [if_pos hfit])
        obtain ⟨ncap, hcap, hrun⟩ := run_append_new (ty := ty) hu hi hzv hb hd hdi hkl d2 o2 (by omega) hbig
        have dl := d1.len
        have ol := o1.len
        let CS : Array Value := (⟨olds⟩ : Array Value) ++ ⟨vsd⟩ ++ Builtin.zeroCells zv.cells (ncap - (len + k))
        have hsz : CS.size = ncap * i.size := by
          simp [CS, zeroCells_size, hzs]
          rw [← dl, d3, ← ol, o3, ← Nat.add_mul, ← Nat.add_mul]; congr 1; omega
        have hnl : ((cs.drop j).take (len * i.size) ++ new).length = (len + k) * i.size := by rw [List.length_append, o3, d3, Nat.add_mul]
        obtain ⟨r', f'⟩ := r.drew.childNew C (by rw [hm]; simp) CS e (0, 0) (fun q a hq => by
          obtain ⟨c, h1, h2⟩ := (o1.append d1).get q a hq
          refine ⟨c, ?_, h2⟩
          have hlt := (List.getElem?_eq_some_iff.1 h1).1
          rw [← Array.getElem?_toList]
          simp only [CS, Array.toList_append]
          rw [List.getElem?_append_left hlt]; exact h1) (by rw [hsz, hnl]; exact Nat.mul_le_mul_right _ hcap) (by simp)
        refine ⟨_, _, _, hrun, r', (Fr.drew m h w).trans f', ?_⟩
        exact VRel.new_slice m h.n w.heap.size CS.size (len + k) i.size ncap hcap (by omega)
    case slice0 o j es a q hm =>
      split at he
      case h_2 => cases he
      rename_i cs g hg
      split at he
      case isFalse => cases he
      rename_i hc
      obtain ⟨ht, rfl, hfit, hbig, hlv, hall⟩ := hc
      cases he
      have hon := r.wf.ob _ _ hg
      have C := H.child_to ((cs.drop j).take (0 * i.size) ++ new) hg ht hlv hfit hon
      have h00 : (Builtin.firstCells i.size 0 (.slice (some a) 0 0)).run P w.drew = .ok ⟨[]⟩ w.drew := by
        have := run_cells (P := P) w.drew a [] 0 rfl (by simp)
        simp [Builtin.firstCells, this]
      obtain ⟨ncap, hcap, hrun⟩ := run_append_new (ty := ty) hu hi hzv hb hd hdi hkl d2 h00 (by omega) hbig
      have dl := d1.len
      let CS : Array Value := (⟨[]⟩ : Array Value) ++ ⟨vsd⟩ ++ Builtin.zeroCells zv.cells (ncap - (0 + k))
      have hsz : CS.size = ncap * i.size := by
        simp [CS, zeroCells_size, hzs]
        rw [← dl, d3, ← Nat.add_mul]; congr 1; omega
      have hnl : ((cs.drop j).take (0 * i.size) ++ new) = new := by simp
      obtain ⟨r', f'⟩ := r.drew.childNew C (by rw [hm]; simp) CS e (0, 0) (fun q a hq => by
        rw [hnl] at hq
        obtain ⟨c, h1, h2⟩ := d1.get q a hq
        refine ⟨c, ?_, h2⟩
        have hlt := (List.getElem?_eq_some_iff.1 h1).1
        rw [← Array.getElem?_toList]
        simp only [CS, Array.toList_append]
        rw [List.append_assoc, List.nil_append, List.getElem?_append_left hlt]; exact h1) (by rw [hsz, hnl, d3]; exact Nat.mul_le_mul_right _ (by omega)) (by simp)
      refine ⟨_, _, _, hrun, r', (Fr.drew m h w).trans f', ?_⟩
      have := VRel.new_slice m h.n w.heap.size CS.size (0 + k) i.size ncap (by omega) (by omega)
      exact this
end
end Go.Proofs.YtlbaphapjclkdaaGreatDoor.Ev
