/- Whatever one operation answers over the abstract heap, the model's operation answers. -/
import Derived.Test.YtgjcdpanabjcmaaGreatDoorEv9
namespace Go.Proofs.YtgjcdpanabjcmaaGreatDoor.Ev
set_option linter.unusedVariables false
set_option linter.unusedSimpArgs false

section
variable {B0 : Nat} {P : Program} {m : M} {h h' : H} {w : World}

theorem run_copy {t e ty : TypeId} {ts : Array TypeId} {i : TypeInfo} (hts : ts[0]? = some t) (hu : P.underlying t = some (.slice e)) (hi : P.info? e = some i) {base : Option Addr} {dLen dCap k : Nat} {vs : List Value} {y' : Value} {w' : World}
    (hk : (Builtin.lenOf y').run P w = .ok k w) (hf : (Builtin.firstCells i.size (Nat.min k dLen) y').run P w = .ok ⟨vs⟩ w)
    (hst : (match base with | some a => (storeCells a vs : Sem Unit) | none => Pure.pure ()).run P w = .ok () w') : (Builtin.copy_ ts ty #[.slice base dLen dCap, y']).run P w = .ok (goInt (Nat.min k dLen : Nat)) w' := by
  have hs : ∀ w, (sizeOf e).run P w = .ok i.size w := run_size (by simp [sizeP, hi])
  cases base with
  | none => simp only at hst; simp [Builtin.copy_, hts, run_underlying hu, hk, hs, hf]; simpa using hst
  | some a => simp only at hst; simp [Builtin.copy_, hts, run_underlying hu, hk, hs, hf, hst]
/-- nothing is read of nothing -/
theorem run_first0 {es : Nat} {y : AV} {y' : Value} (hy : VRel m y y') {k : Nat} (hk : lenA y = some k) : (Builtin.firstCells es 0 y').run P w = .ok ⟨[]⟩ w := by
  have h0 : ∀ a : Addr, (loadCells a 0).run P w = .ok ⟨[]⟩ w := fun a => run_cells w a [] 0 rfl (by simp)
  cases hy <;> simp [lenA] at hk <;> simp [Builtin.firstCells, h0]
  all_goals (try (simp at h0; simp [h0]))
theorem sound_copy (r : Rel P B0 m h w) {t e ty : TypeId} {ts : Array TypeId} {i : TypeInfo} (hts : ts[0]? = some t) (hu : P.underlying t = some (.slice e)) (hi : P.info? e = some i)
    {x y v : AV} {x' y' : Value} (hx : VRel m x x') (hy : VRel m y y') (he : copyA h i.size x y = some (v, h')) : SemOK P B0 m h w v h' ((Builtin.copy_ ts ty #[x', y']).run P w) := by
  unfold copyA at he
  cases hk : lenA y with
  | none => rw [hk] at he; cases x <;> simp at he
  | some k =>
    rw [hk] at he
    have hkl := sound_lenOf (P := P) (w := w) hy hk
    cases hx <;> simp only at he <;> try (cases he; done)
    case nils =>
      cases he
      have h0 := run_first0 (P := P) (w := w) (es := i.size) hy hk
      have := run_copy (ty := ty) (base := none) (dLen := 0) (dCap := 0) hts hu hi hkl (by rw [show Nat.min k 0 = 0 from Nat.min_zero k]; exact h0) rfl
      rw [show Nat.min k 0 = 0 from Nat.min_zero k] at this
      exact .same r (.int _ _) this
    case slice o b base sz j len es cap hm hl hs =>
      split at he
      case isFalse => cases he
      rename_i hes; subst hes
      split at he
      · rename_i h0
        cases he
        have hf0 := run_first0 (P := P) (w := w) (es := i.size) hy hk
        have := run_copy (ty := ty) (base := some (⟨b, base + j, none⟩ : Addr)) (dLen := len) (dCap := cap) hts hu hi hkl (by rw [h0]; exact hf0) rfl
        rw [h0] at this
        exact .same r (.int _ _) this
      · rename_i h0
        split at he
        case h_2 => cases he
        rename_i new hnew
        split at he
        case isFalse => cases he
        rename_i hall
        obtain ⟨h2, hp, e2⟩ := Option.map_eq_some_iff.1 he
        cases e2
        obtain ⟨vs, v1, v2, v3⟩ := sound_first (P := P) r hy hnew
        obtain ⟨r', f', hci, hcf⟩ := r.put hp hm v1
        have hst := run_storeCells_cells (P := P) b (base + j) vs 0 w (by simpa using hci) (by simpa using hcf) (v1.all_one hall)
        have := run_copy (ty := ty) (base := some (⟨b, base + j, none⟩ : Addr)) (dLen := len) (dCap := cap) hts hu hi hkl v2 hst
        exact ⟨_, _, _, this, r', f', .int _ _⟩
    case slice0 o j es a q hm =>
      split at he
      case isFalse => cases he
      rename_i hes; subst hes
      have hz : Nat.min k 0 = 0 := Nat.min_zero k
      rw [if_pos hz] at he
      cases he
      have hf0 := run_first0 (P := P) (w := w) (es := i.size) hy hk
      have := run_copy (ty := ty) (base := some a) (dLen := 0) (dCap := 0) hts hu hi hkl (by rw [hz]; exact hf0) rfl
      rw [hz] at this
      exact .same r (.int _ _) this

theorem wrap_small {l : Int} (h1 : 0 ≤ l) (h2 : l < 4294967296) : IntKind.i64.wrap l = l := by
  have h3 : l % 2 ^ 64 = l := Int.emod_eq_of_lt h1 (by omega)
  have h4 : ¬ (l ≥ 2 ^ 63) := by omega
  simp [IntKind.wrap, IntKind.bits, IntKind.signed, h3]
  omega
theorem make_makeSlice (m : M) (w : World) {t e : TypeId} {i : TypeInfo} {z : List AV} (hu : P.underlying t = some (.slice e)) (hi : P.info? e = some i) (h0 : i.size ≠ 0) (hz : zeroP P e = some z) (hzl : z.length ≠ 0)
    (k k' : IntKind) (l c : Int) (hc : 0 ≤ l ∧ l ≤ c ∧ c < 4294967296 ∧ c * i.bytes ≤ 281474976710656) :
    MakeOK m w (fun o => .slice o 0 l.toNat i.size) (zeros z (c.toNat * i.size)) (fun v' w' => (Instr.makeSlice t (.int k l) (.int k' c)).run P w = .ok v' w') := by
  obtain ⟨i2, zv, hi2, hzv, hzr⟩ := zeroP_eq hz
  rw [hi] at hi2; cases hi2
  obtain ⟨h1, h2, h3, h4⟩ := hc
  have wl : IntKind.i64.wrap l = l := wrap_small h1 (by omega)
  have wc : IntKind.i64.wrap c = c := wrap_small (by omega) h3
  have hs : ∀ w, (sizeOf e).run P w = .ok i.size w := run_size (by simp [sizeP, hi])
  have t1 : ¬ (c < 0) := by omega
  have t2 : ¬ ((281474976710656 : Int) < (i.bytes : Int) * c) := by rw [Int.mul_comm]; omega
  have t3 : ¬ (l < 0) := by omega
  have t4 : ¬ (c < l) := by omega
  let CS : Array Value := (Array.range (c.toNat * i.size)).map (zv.cells[· % zv.cells.size]!)
  have hzc : VRels m (zeros z (c.toNat * i.size)) CS.toList := zeros_rel (hzr m) _ (.inr hzl)
  have hrun : (Instr.makeSlice t (.int k l) (.int k' c)).run P w = .ok (.slice (some ⟨w.heap.size, 0, none⟩) l.toNat c.toNat) (w.alloc (.cells CS e)) := by
    by_cases hn : c.toNat * i.size = 0
    · have hCS : CS = #[] := by simp [CS, hn]
      simp [Instr.makeSlice, run_underlying hu, asInt, asIntOf, typeInfo, hi, wl, wc, t1, t2, t3, t4, hs, hn, newRow, hCS]
      congr 2; simp
    · simp [Instr.makeSlice, run_underlying hu, asInt, asIntOf, typeInfo, hi, wl, wc, t1, t2, t3, t4, hs, hn, newRow, zeroValue, hzv]
      rfl
  have hlen := hzc.len
  have hsz : CS.size = c.toNat * i.size := by simp [CS]
  exact ⟨w, CS, e, (0, 0), _, .inl rfl, hrun, (fun q a hq => by obtain ⟨u, h1, h2⟩ := hzc.get q a hq; exact ⟨u, by simpa using h1, h2⟩), (by simp at hlen; omega), (by simp), fun o => VRel.new_slice m o w.heap.size CS.size l.toNat i.size c.toNat (by omega) (by omega)⟩
theorem sound_makeSlice (r : Rel P B0 m h w) {t e : TypeId} {i : TypeInfo} {z : List AV} (hu : P.underlying t = some (.slice e)) (hi : P.info? e = some i) (h0 : i.size ≠ 0) (hz : zeroP P e = some z) (hzl : z.length ≠ 0)
    {x y v : AV} {x' y' : Value} (hx : VRel m x x') (hy : VRel m y y') (he : makeSliceA h i.size i.bytes z x y = some (v, h')) : SemOK P B0 m h w v h' ((Instr.makeSlice t x' y').run P w) := by
  cases hx <;> try (simp [makeSliceA] at he; done)
  case int k l =>
    cases hy <;> try (simp [makeSliceA] at he; done)
    case int k' c =>
      simp only [makeSliceA] at he
      split at he
      case isFalse => cases he
      rename_i hc
      cases he
      exact SemOK.of_make (k := fun o => .slice o 0 l.toNat i.size) r (make_makeSlice m w hu hi h0 hz hzl k k' l c hc)

theorem make_buildSlice (m : M) (w : World) {nt : Nat} {s : S} {a : Act} (hA : ARel m nt s a) {t e : TypeId} {n len : Nat} {z : List AV} (hu : P.underlying t = some (.slice e)) (hn : sizeP P e = some n) (h0 : n ≠ 0) (hz : zeroP P e = some z) (hzl : z.length ≠ 0) (hbig : len * n ≤ 16777216)
    {ps : Array (Nat × Operand)} {q : List (Nat × Nat × AOpd)} (hq : trParts (fun i => some (i * n, n)) ps.toList = some q) {cs : List AV} (he : afill (zeros z (len * n)) (parts s q) = some cs) :
    MakeOK m w (fun o => .slice o 0 len n) cs (fun v' w' => (Instr.buildSlice t len (ps.map fun (i, x) => (i, a.eval x))).run P w = .ok v' w') := by
  obtain ⟨i, zv, hi, hzv, hzr⟩ := zeroP_eq hz
  let C0 : Array Value := (Array.range (len * n)).map (zv.cells[· % zv.cells.size]!)
  have hzc : VRels m (zeros z (len * n)) C0.toList := zeros_rel (hzr m) _ (.inr hzl)
  obtain ⟨out, h1, h2⟩ := sound_fill (fun i => some (i * n, n)) hA hq hzc he
  have hC0 : (⟨C0.toList⟩ : Array Value) = C0 := rfl
  rw [hC0] at h1
  have hfl : ∀ (ps : List (Nat × Operand)) (q : List (Nat × Nat × AOpd)) (c o : List AV), afill c (parts s q) = some o → o.length = c.length := by
    intro ps q
    induction q with
    | nil => intro c o h; simp [parts, afill] at h; rw [h]
    | cons p q ih =>
      intro c o h
      simp only [parts, List.map_cons, afill] at h
      split at h
      · rename_i hc; have := ih _ _ h; rw [this, splice_length (by omega)]
      · cases h
  have hlen : cs.length = len * n := by rw [hfl ps.toList q _ _ he]; simp [zeros]
  have hol : out.length = len * n := by rw [← h2.len, hlen]
  have hb : ¬ (16777216 < len * n) := by omega
  have hmap : (ps.map fun (i, x) => (i, a.eval x)).toList = ps.toList.map fun p => (p.1, a.eval p.2) := by simp
  have hrun : (Instr.buildSlice t len (ps.map fun (i, x) => (i, a.eval x))).run P w = .ok (.slice (some ⟨w.heap.size, 0, none⟩) len len) (w.alloc (.cells ⟨out⟩ e)) := by
    by_cases hz0 : len * n = 0
    · have hC : C0 = #[] := by simp [C0, hz0]
      rw [hC] at h1
      have hz0' : len = 0 ∨ n = 0 := by
        rcases Nat.mul_eq_zero.1 hz0 with h | h <;> simp [h]
      have h1' : Instr.fill (fun i => some (i * n, n)) (Array.map (fun x => (#[] : Array Value)[x % (#[] : Array Value).size]!) (Array.range 0)) (ps.toList.map fun p => (p.1, a.eval p.2)) = some ⟨out⟩ := by
        rw [show Array.map (fun x => (#[] : Array Value)[x % (#[] : Array Value).size]!) (Array.range 0) = #[] from by simp]; exact h1
      simp only [Instr.buildSlice, Sem.run_bind, run_underlying hu, Result.andThen_ok, run_size hn, Sem.run_ite, gt_iff_lt, hb, if_false, hz0, if_true, Sem.run_pure, hmap, h1', newRow, run_newObj]
      rfl
    · have hz0' : ¬ (len = 0 ∨ n = 0) := fun h => hz0 (Nat.mul_eq_zero.2 h)
      have h1' : Instr.fill (fun i => some (i * n, n)) (Array.map (fun x => zv.cells[x % zv.cells.size]!) (Array.range (len * n))) (ps.toList.map fun p => (p.1, a.eval p.2)) = some ⟨out⟩ := h1
      simp only [Instr.buildSlice, Sem.run_bind, run_underlying hu, Result.andThen_ok, run_size hn, Sem.run_ite, gt_iff_lt, hb, if_false, hz0, run_zero hi hzv, Sem.run_pure, hmap, h1', newRow, run_newObj]
      rfl
  exact ⟨w, ⟨out⟩, e, (0, 0), _, .inl rfl, hrun, (fun q a hq => by obtain ⟨u, h3, h4⟩ := h2.get q a hq; exact ⟨u, by simpa using h3, h4⟩), (by simp; omega), (by simp), fun o => VRel.new_slice m o w.heap.size _ len n len (Nat.le_refl _) (by simp [hol])⟩

theorem sound_buildS (r : Rel P B0 m h w) {nt : Nat} {s : S} {a : Act} (hA : ARel m nt s a) {t : TypeId} {z : List AV} (hz : zeroP P t = some z) {fs : Array Field} (hu : P.underlying t = some (.struct fs)) (hall : (fs.toList.all fun f => (P.info? f.type).isSome) = true)
    {ps : Array (Nat × Operand)} {q : List (Nat × Nat × AOpd)} (hq : trParts (fun i => (fs[i]?).bind fun f => (sizeP P f.type).map fun n => (f.offset, n)) ps.toList = some q) {cs : List AV} (he : afill z (parts s q) = some cs) :
    SemOK P B0 m h w (.agg cs) h ((Instr.build t (ps.map fun (i, x) => (i, a.eval x))).run P w) := by
  obtain ⟨i, zv, hi, hzv, hzr⟩ := zeroP_eq hz
  obtain ⟨out, h1, h2⟩ := sound_fill _ hA hq (hzr m) he
  have hmap : (ps.map fun (i, x) => (i, a.eval x)).toList = ps.toList.map fun p => (p.1, a.eval p.2) := by simp
  have hpl : ∀ (l : List Field), (l.all fun (f : Field) => (P.info? f.type).isSome) = true → ∃ g : List (Nat × Nat), (l.mapM fun (f : Field) => (do pure (f.offset, ← sizeOf f.type) : Sem (Nat × Nat))).run P w = .ok g w ∧ ∀ j : Nat, g[j]? = (l[j]?).bind fun (f : Field) => (sizeP P f.type).map fun n => (f.offset, n) := by
    intro l
    induction l with
    | nil => intro _; exact ⟨[], rfl, fun j => rfl⟩
    | cons f l ih =>
      intro ha
      simp only [List.all_cons, Bool.and_eq_true] at ha
      obtain ⟨g, g1, g2⟩ := ih ha.2
      obtain ⟨n, hn⟩ : ∃ n, sizeP P f.type = some n := by
        obtain ⟨x, hx⟩ := Option.isSome_iff_exists.1 ha.1
        exact ⟨x.size, by simp [sizeP, hx]⟩
      refine ⟨(f.offset, n) :: g, ?_, ?_⟩
      · rw [List.mapM_cons]
        simp only [Sem.run_bind, run_size hn, Result.andThen_ok, Sem.run_pure, g1]
      · intro j
        cases j with
        | zero => simp [hn]
        | succ j => simpa using g2 j
  obtain ⟨g, g1, g2⟩ := hpl fs.toList hall
  have harr : (fs.mapM fun (f : Field) => (do pure (f.offset, ← sizeOf f.type) : Sem (Nat × Nat))).run P w = .ok ⟨g⟩ w := by
    rw [Array.mapM_eq_mapM_toList]
    simp only [Sem.run_map, g1, Result.andThen_ok]
  have hplace : (fun i : Nat => (⟨g⟩ : Array (Nat × Nat))[i]?) = fun i => (fs[i]?).bind fun (f : Field) => (sizeP P f.type).map fun n => (f.offset, n) := by
    funext j
    have := g2 j
    simpa using this
  refine .same r (.agg h2) ?_
  have h1' : Instr.fill (fun x => (⟨g⟩ : Array (Nat × Nat))[x]?) zv.cells (ps.toList.map fun p => (p.1, a.eval p.2)) = some ⟨out⟩ := by rw [hplace]; exact h1
  simp only [Instr.build, Sem.run_bind, run_zero hi hzv, Result.andThen_ok, run_underlying hu, harr, hmap, h1']
  rfl
theorem sound_buildA (r : Rel P B0 m h w) {nt : Nat} {s : S} {a : Act} (hA : ARel m nt s a) {t e : TypeId} {k n : Nat} {z : List AV} (hz : zeroP P t = some z) (hu : P.underlying t = some (.array k e)) (hn : sizeP P e = some n)
    {ps : Array (Nat × Operand)} {q : List (Nat × Nat × AOpd)} (hq : trParts (fun i => some (i * n, n)) ps.toList = some q) {cs : List AV} (he : afill z (parts s q) = some cs) :
    SemOK P B0 m h w (.agg cs) h ((Instr.build t (ps.map fun (i, x) => (i, a.eval x))).run P w) := by
  obtain ⟨i, zv, hi, hzv, hzr⟩ := zeroP_eq hz
  obtain ⟨out, h1, h2⟩ := sound_fill _ hA hq (hzr m) he
  have hmap : (ps.map fun (i, x) => (i, a.eval x)).toList = ps.toList.map fun p => (p.1, a.eval p.2) := by simp
  refine .same r (.agg h2) ?_
  have h1' : Instr.fill (fun i => some (i * n, n)) zv.cells (ps.toList.map fun p => (p.1, a.eval p.2)) = some ⟨out⟩ := h1
  simp only [Instr.build, Sem.run_bind, run_zero hi hzv, Result.andThen_ok, run_underlying hu, run_size hn, hmap, h1']
  rfl
end
end Go.Proofs.YtgjcdpanabjcmaaGreatDoor.Ev
