/- Whatever one operation answers over the abstract heap, the model's operation answers. -/
import Derived.Test.YtlbaphapjclkdaaGreatDoorEv8
import Derived.RangeFuncRecord
namespace Go.Proofs.YtlbaphapjclkdaaGreatDoor.Ev
set_option linter.unusedVariables false
set_option linter.unusedSimpArgs false

section
variable {B0 : Nat} {P : Program} {m : M} {h h' : H} {w : World}

theorem run_copy {t e ty : TypeId} {ts : Array TypeId} {i : TypeInfo} (hts : ts[0]? = some t) (hu : P.underlying t = some (.slice e)) (hi : P.info? e = some i) {base : Option Addr} {dLen dCap k : Nat} {vs : List Value} {y' : Value} {w' : World}
    (hk : (Builtin.lenOf y').run P w = .ok k w) (hf : (Builtin.firstCells i.size (Nat.min k dLen) y').run P w = .ok ⟨vs⟩ w)
    (hst : (match base with | some a => (storeCells a vs : Sem Unit) | none => Pure.pure ()).run P w = .ok () w') : (Builtin.copy_ ts ty #[.slice base dLen dCap, y']).run P w = .ok (goInt (Nat.min k dLen : Nat)) w' := by
  have hs : ∀ w, (sizeOf e).run P w = .ok i.size w := run_size (by simp [sizeP, hi])
  cases base with
  | none => simp only at hst; simp [Builtin.copy_, hts, run_underlying hu, hk, hs, hf]; simpa using hst
  | some a => simp only at hst; simp [Builtin.copy_, hts, run_underlying hu, hk, hs, hf, hst]
/-- nothing is read of nothing -/
theorem run_first0 {es : Nat} {y : AV} {y' : Value} (hy : VRel m y y') {k : Nat} (hk : lenA y = some k) : (Builtin.firstCells es 0 y').run P w = .ok ⟨[]⟩ w := by
  have h0 : ∀ a : Addr, (loadCells a 0).run P w = .ok ⟨[]⟩ w := fun a => run_cells w a [] 0 rfl (by simp)
  cases hy <;> simp [lenA] at hk <;> simp [Builtin.firstCells, h0]
  all_goals (try (simp at h0; simp [h0]))
theorem sound_copy (r : Rel P B0 m h w) {t e ty : TypeId} {ts : Array TypeId} {i : TypeInfo} (hts : ts[0]? = some t) (hu : P.underlying t = some (.slice e)) (hi : P.info? e = some i)
    {x y v : AV} {x' y' : Value} (hx : VRel m x x') (hy : VRel m y y') (he : copyA h i.size x y = some (v, h')) : SemOK P B0 m h w v h' ((Builtin.copy_ ts ty #[x', y']).run P w) := by
  unfold copyA at he
  cases hk : lenA y with
  | none => rw [hk] at he; cases x <;> simp at he
  | some k =>
    rw [hk] at he
    have hkl := sound_lenOf (P := P) (w := w) hy hk
    cases hx <;> simp only at he <;> try (cases he; done)
    case nils =>
      cases he
      have h0 := run_first0 (P := P) (w := w) (es := i.size) hy hk
      have := run_copy (ty := ty) (base := none) (dLen := 0) (dCap := 0) hts hu hi hkl (by rw [show Nat.min k 0 = 0 from Nat.min_zero k]; exact h0) rfl
      rw [show Nat.min k 0 = 0 from Nat.min_zero k] at this
      exact .same r (.int _ _) this
    case slice o b base sz j len es cap hm hl hs =>
      split at he
      case isFalse => cases he
      rename_i hes; subst hes
      split at he
      · rename_i h0
        cases he
        have hf0 := run_first0 (P := P) (w := w) (es := i.size) hy hk
        have := run_copy (ty := ty) (base := some (⟨b, base + j, none⟩ : Addr)) (dLen := len) (dCap := cap) hts hu hi hkl (by rw [h0]; exact hf0) rfl
        rw [h0] at this
        exact .same r (.int _ _) this
      · rename_i h0
        split at he
        case h_2 => cases he
        rename_i new hnew
        split at he
        case isFalse => cases he
        rename_i hall
        obtain ⟨h2, hp, e2⟩ := Option.map_eq_some_iff.1 he
        cases e2
        obtain ⟨vs, v1, v2, v3⟩ := sound_first (P := P) r hy hnew
        obtain ⟨r', f', hci, hcf⟩ := r.put hp hm v1
        have hst := run_storeCells_cells (P := P) b (base + j) vs 0 w (by simpa using hci) (by simpa using hcf) (v1.all_one hall)
        have := run_copy (ty := ty) (base := some (⟨b, base + j, none⟩ : Addr)) (dLen := len) (dCap := cap) hts hu hi hkl v2 hst
        exact ⟨_, _, _, this, r', f', .int _ _⟩
    case slice0 o j es a q hm =>
      split at he
      case isFalse => cases he
      rename_i hes; subst hes
      have hz : Nat.min k 0 = 0 := Nat.min_zero k
      rw [if_pos hz] at he
      cases he
      have hf0 := run_first0 (P := P) (w := w) (es := i.size) hy hk
      have := run_copy (ty := ty) (base := some a) (dLen := 0) (dCap := 0) hts hu hi hkl (by rw [hz]; exact hf0) rfl
      rw [hz] at this
      exact .same r (.int _ _) this

theorem wrap_small {l : Int} (h1 : 0 ≤ l) (h2 : l < 4294967296) : IntKind.i64.wrap l = l := by
  have h3 : l % 2 ^ 64 = l := Int.emod_eq_of_lt h1 (by omega)
  have h4 : ¬ (l ≥ 2 ^ 63) := by omega
  simp [IntKind.wrap, IntKind.bits, IntKind.signed, h3]
  omega
theorem make_makeSlice (m : M) (w : World) {t e : TypeId} {i : TypeInfo} {z : List AV} (hu : P.underlying t = some (.slice e)) (hi : P.info? e = some i) (h0 : i.size ≠ 0) (hz : zeroP P e = some z) (hzl : z.length ≠ 0)
    (k k' : IntKind) (l c : Int) (hc : 0 ≤ l ∧ l ≤ c ∧ c < 4294967296 ∧ c * i.bytes ≤ 281474976710656) :
    MakeOK m w (fun o => .slice o 0 l.toNat i.size) (zeros z (c.toNat * i.size)) (fun v' w' => (Instr.makeSlice t (.int k l) (.int k' c)).run P w = .ok v' w') := by
  obtain ⟨i2, zv, hi2, hzv, hzr⟩ := zeroP_eq hz
  rw [hi] at hi2; cases hi2
  obtain ⟨h1, h2, h3, h4⟩ := hc
  have wl : IntKind.i64.wrap l = l := wrap_small h1 (by omega)
  have wc : IntKind.i64.wrap c = c := wrap_small (by omega) h3
  have hs : ∀ w, (sizeOf e).run P w = .ok i.size w := run_size (by simp [sizeP, hi])
  have t1 : ¬ (c < 0) := by omega
  have t2 : ¬ ((281474976710656 : Int) < (i.bytes : Int) * c) := by rw [Int.mul_comm]; omega
  have t3 : ¬ (l < 0) := by omega
  have t4 : ¬ (c < l) := by omega
  let CS : Array Value := (Array.range (c.toNat * i.size)).map (zv.cells[· % zv.cells.size]!)
  have hzc : VRels m (zeros z (c.toNat * i.size)) CS.toList := zeros_rel (hzr m) _ (.inr hzl)
  have hrun : (Instr.makeSlice t (.int k l) (.int k' c)).run P w = .ok (.slice (some ⟨w.heap.size, 0, none⟩) l.toNat c.toNat) (w.alloc (.cells CS e)) := by
    by_cases hn : c.toNat * i.size = 0
    · have hCS : CS = #[] := by simp [CS, hn]
      simp [Instr.makeSlice, run_underlying hu, asInt, asIntOf, typeInfo, hi, wl, wc, t1, t2, t3, t4, hs, hn, newRow, hCS]
      congr 2; simp
    · simp [Instr.makeSlice, run_underlying hu, asInt, asIntOf, typeInfo, hi, wl, wc, t1, t2, t3, t4, hs, hn, newRow, zeroValue, hzv]
      rfl
  have hlen := hzc.len
  have hsz : CS.size = c.toNat * i.size := by simp [CS]
  exact ⟨w, CS, e, (0, 0), _, .inl rfl, hrun, (fun q a hq => by obtain ⟨u, h1, h2⟩ := hzc.get q a hq; exact ⟨u, by simpa using h1, h2⟩), (by simp at hlen; omega), (by simp), fun o => VRel.new_slice m o w.heap.size CS.size l.toNat i.size c.toNat (by omega) (by omega)⟩
theorem sound_makeSlice (r : Rel P B0 m h w) {t e : TypeId} {i : TypeInfo} {z : List AV} (hu : P.underlying t = some (.slice e)) (hi : P.info? e = some i) (h0 : i.size ≠ 0) (hz : zeroP P e = some z) (hzl : z.length ≠ 0)
    {x y v : AV} {x' y' : Value} (hx : VRel m x x') (hy : VRel m y y') (he : makeSliceA h i.size i.bytes z x y = some (v, h')) : SemOK P B0 m h w v h' ((Instr.makeSlice t x' y').run P w) := by
  cases hx <;> try (simp [makeSliceA] at he; done)
  case int k l =>
    cases hy <;> try (simp [makeSliceA] at he; done)
    case int k' c =>
      simp only [makeSliceA] at he
      split at he
      case isFalse => cases he
      rename_i hc
      cases he
      exact SemOK.of_make (k := fun o => .slice o 0 l.toNat i.size) r (make_makeSlice m w hu hi h0 hz hzl k k' l c hc)

theorem make_buildSlice (m : M) (w : World) {nt : Nat} {s : S} {a : Act} (hA : ARel m nt s a) {t e : TypeId} {n len : Nat} {z : List AV} (hu : P.underlying t = some (.slice e)) (hn : sizeP P e = some n) (h0 : n ≠ 0) (hz : zeroP P e = some z) (hzl : z.length ≠ 0) (hbig : len * n ≤ 16777216)
    {ps : Array (Nat × Operand)} {q : List (Nat × Nat × AOpd)} (hq : trParts (fun i => some (i * n, n)) ps.toList = some q) {cs : List AV} (he : afill (zeros z (len * n)) (parts s q) = some cs) :
    MakeOK m w (fun o => .slice o 0 len n) cs (fun v' w' => (Instr.buildSlice t len (ps.map fun (i, x) => (i, a.eval x))).run P w = .ok v' w') := by
  obtain ⟨i, zv, hi, hzv, hzr⟩ := zeroP_eq hz
  let C0 : Array Value := (Array.range (len * n)).map (zv.cells[· % zv.cells.size]!)
  have hzc : VRels m (zeros z (len * n)) C0.toList := zeros_rel (hzr m) _ (.inr hzl)
  obtain ⟨out, h1, h2⟩ := sound_fill (fun i => some (i * n, n)) hA hq hzc he
  have hC0 : (⟨C0.toList⟩ : Array Value) = C0 := rfl
  rw [hC0] at h1
  have hfl : ∀ (ps : List (Nat × Operand)) (q : List (Nat × Nat × AOpd)) (c o : List AV), afill c (parts s q) = some o → o.length = c.length := by
    intro ps q
    induction q with
    | nil => intro c o h; simp [parts, afill] at h; rw [h]
    | cons p q ih =>
      intro c o h
      simp only [parts, List.map_cons, afill] at h
      split at h
      · rename_i hc; have := ih _ _ h; rw [this, splice_length (by omega)]
      · cases h
  have hlen : cs.length = len * n := by rw [hfl ps.toList q _ _ he]; simp [zeros]
  have hol : out.length = len * n := by rw [← h2.len, hlen]
  have hb : ¬ (16777216 < len * n) := by omega
  have hmap : (ps.map fun (i, x) => (i, a.eval x)).toList = ps.toList.map fun p => (p.1, a.eval p.2) := by simp
  have hrun : (Instr.buildSlice t len (ps.map fun (i, x) => (i, a.eval x))).run P w = .ok (.slice (some ⟨w.heap.size, 0, none⟩) len len) (w.alloc (.cells ⟨out⟩ e)) := by
    by_cases hz0 : len * n = 0
    · have hC : C0 = #[] := by simp [C0, hz0]
      rw [hC] at h1
      have hz0' : len = 0 ∨ n = 0 := by
        rcases Nat.mul_eq_zero.1 hz0 with h | h <;> simp [h]
      have h1' : Instr.fill (fun i => some (i * n, n)) (Array.map (fun x => (#[] : Array Value)[x % (#[] : Array Value).size]!) (Array.range 0)) (ps.toList.map fun p => (p.1, a.eval p.2)) = some ⟨out⟩ := by
        rw [show Array.map (fun x => (#[] : Array Value)[x % (#[] : Array Value).size]!) (Array.range 0) = #[] from by simp]; exact h1
      simp only [Instr.buildSlice, Sem.run_bind, run_underlying hu, Result.andThen_ok, run_size hn, Sem.run_ite, gt_iff_lt, hb, if_false, hz0, if_true, Sem.run_pure, hmap, h1', newRow, run_newObj]
      rfl
    · have hz0' : ¬ (len = 0 ∨ n = 0) := fun h => hz0 (Nat.mul_eq_zero.2 h)
      have h1' : Instr.fill (fun i => some (i * n, n)) (Array.map (fun x => zv.cells[x % zv.cells.size]!) (Array.range (len * n))) (ps.toList.map fun p => (p.1, a.eval p.2)) = some ⟨out⟩ := h1
      simp only [Instr.buildSlice, Sem.run_bind, run_underlying hu, Result.andThen_ok, run_size hn, Sem.run_ite, gt_iff_lt, hb, if_false, hz0, run_zero hi hzv, Sem.run_pure, hmap, h1', newRow, run_newObj]
      rfl
  exact ⟨w, ⟨out⟩, e, (0, 0), _, .inl rfl, hrun, (fun q a hq => by obtain ⟨u, h3, h4⟩ := h2.get q a hq; exact ⟨u, by simpa using h3, h4⟩), (by simp; omega), (by simp), fun o => VRel.new_slice m o w.heap.size _ len n len (Nat.le_refl _) (by simp [hol])⟩

theorem sound_buildS (r : Rel P B0 m h w) {nt : Nat} {s : S} {a : Act} (hA : ARel m nt s a) {t : TypeId} {z : List AV} (hz : zeroP P t = some z) {fs : Array Field} (hu : P.underlying t = some (.struct fs)) (hall : (fs.toList.all fun f => (P.info? f.type).isSome) = true)
    {ps : Array (Nat × Operand)} {q : List (Nat × Nat × AOpd)} (hq : trParts (fun i => (fs[i]?).bind fun f => (sizeP P f.type).map fun n => (f.offset, n)) ps.toList = some q) {cs : List AV} (he : afill z (parts s q) = some cs) :
    SemOK P B0 m h w (.agg cs) h ((Instr.build t (ps.map fun (i, x) => (i, a.eval x))).run P w) := by
  obtain ⟨i, zv, hi, hzv, hzr⟩ := zeroP_eq hz
  obtain ⟨out, h1, h2⟩ := sound_fill _ hA hq (hzr m) he
  have hmap : (ps.map fun (i, x) => (i, a.eval x)).toList = ps.toList.map fun p => (p.1, a.eval p.2) := by simp
  have hpl : ∀ (l : List Field), (l.all fun (f : Field) => (P.info? f.type).isSome) = true → ∃ g : List (Nat × Nat), (l.mapM fun (f : Field) => (do pure (f.offset, ← sizeOf f.type) : Sem (Nat × Nat))).run P w = .ok g w ∧ ∀ j : Nat, g[j]? = (l[j]?).bind fun (f : Field) => (sizeP P f.type).map fun n => (f.offset, n) := by
    intro l
    induction l with
    | nil => intro _; exact ⟨[], rfl, fun j => rfl⟩
    | cons f l ih =>
      intro ha
      simp only [List.all_cons, Bool.and_eq_true] at ha
      obtain ⟨g, g1, g2⟩ := ih ha.2
      obtain ⟨n, hn⟩ : ∃ n, sizeP P f.type = some n := by
        obtain ⟨x, hx⟩ := Option.isSome_iff_exists.1 ha.1
        exact ⟨x.size, by simp [sizeP, hx]⟩
      refine ⟨(f.offset, n) :: g, ?_, ?_⟩
      · rw [List.mapM_cons]
        simp only [Sem.run_bind, run_size hn, Result.andThen_ok, Sem.run_pure, g1]
      · intro j
        cases j with
        | zero => simp [hn]
        | succ j => simpa using g2 j
  obtain ⟨g, g1, g2⟩ := hpl fs.toList hall
  have harr : (fs.mapM fun (f : Field) => (do pure (f.offset, ← sizeOf f.type) : Sem (Nat × Nat))).run P w = .ok ⟨g⟩ w := by
    rw [Array.mapM_eq_mapM_toList]
    simp only [Sem.run_map, g1, Result.andThen_ok]
  have hplace : (fun i : Nat => (⟨g⟩ : Array (Nat × Nat))[i]?) = fun i => (fs[i]?).bind fun (f : Field) => (sizeP P f.type).map fun n => (f.offset, n) := by
    funext j
    have := g2 j
    simpa using this
  refine .same r (.agg h2) ?_
  have h1' : Instr.fill (fun x => (⟨g⟩ : Array (Nat × Nat))[x]?) zv.cells (ps.toList.map fun p => (p.1, a.eval p.2)) = some ⟨out⟩ := by rw [hplace]; exact h1
  simp only [Instr.build, Sem.run_bind, run_zero hi hzv, Result.andThen_ok, run_underlying hu, harr, hmap, h1']
  rfl
theorem sound_buildA (r : Rel P B0 m h w) {nt : Nat} {s : S} {a : Act} (hA : ARel m nt s a) {t e : TypeId} {k n : Nat} {z : List AV} (hz : zeroP P t = some z) (hu : P.underlying t = some (.array k e)) (hn : sizeP P e = some n)
    {ps : Array (Nat × Operand)} {q : List (Nat × Nat × AOpd)} (hq : trParts (fun i => some (i * n, n)) ps.toList = some q) {cs : List AV} (he : afill z (parts s q) = some cs) :
    SemOK P B0 m h w (.agg cs) h ((Instr.build t (ps.map fun (i, x) => (i, a.eval x))).run P w) := by
  obtain ⟨i, zv, hi, hzv, hzr⟩ := zeroP_eq hz
  obtain ⟨out, h1, h2⟩ := sound_fill _ hA hq (hzr m) he
  have hmap : (ps.map fun (i, x) => (i, a.eval x)).toList = ps.toList.map fun p => (p.1, a.eval p.2) := by simp
  refine .same r (.agg h2) ?_
  have h1' : Instr.fill (fun i => some (i * n, n)) zv.cells (ps.toList.map fun p => (p.1, a.eval p.2)) = some ⟨out⟩ := h1
  simp only [Instr.build, Sem.run_bind, run_zero hi hzv, Result.andThen_ok, run_underlying hu, run_size hn, hmap, h1']
  rfl
end
end Go.Proofs.YtlbaphapjclkdaaGreatDoor.Ev

/- Objects in memory that are no rows: maps, and texts that are ranged over. -/
namespace Go.Proofs.YtlbaphapjclkdaaGreatDoor.Ev
set_option linter.unusedVariables false
set_option linter.unusedSimpArgs false

section
variable {B0 : Nat} {P : Program}
theorem cell?_putObj {w : World} {b : Nat} {ob : Obj} {k i : Nat} (h : k ≠ b) : (w.putObj b ob).cell? ⟨k, i, none⟩ = w.cell? ⟨k, i, none⟩ := by
  unfold World.cell?
  simp only [World.putObj_heap_other h]
/-- an object that is no row is written -/
theorem Rel.setMem {m : M} {h : H} {w : World} (r : Rel P B0 m h w) {o b base sz : Nat} {X X' : MObj} {r' : Obj} (hg : h.get o = some (.mem X)) (hm : m o = some (b, base, sz)) (q : MRel m X' r') :
    Rel P B0 m (h.setMem o X') (w.putObj b r') ∧ Fr B0 m m h (h.setMem o X') w (w.putObj b r') := by
  have hget : ∀ j, (h.setMem o X').get j = if j = o then some (.mem X') else h.get j := fun j => Tr.get_set _ _ _ _
  obtain ⟨hB, hb0, rec, hb, _⟩ := r.mm hg hm
  have hbs : b < w.heap.size := r.blk hm
  have hne : ∀ {j x base' sz'}, j ≠ o → m j = some (x, base', sz') → x ≠ b := by
    intro j x base' sz' hj hmj e
    subst e
    obtain ⟨g, cs, cs', e1, e2⟩ := r.sep hm hmj (fun e => hj e.symm) hB
    rw [hg] at e1; cases e1
  have hrow : ∀ {j cs}, (h.setMem o X').row j = some cs → j ≠ o ∧ h.row j = some cs := by
    intro j cs hr
    unfold H.row at hr
    rw [hget] at hr
    by_cases hj : j = o
    · rw [if_pos hj] at hr; cases hr
    · rw [if_neg hj] at hr; exact ⟨hj, hr⟩
  refine ⟨⟨?_, r.lt, ?_, ?_, ?_, ?_, ?_, ?_, ?_, ?_, ?_, ?_, ?_, ?_⟩, ⟨M.le_refl m, rfl, rfl, rfl, by rw [World.putObj_size]; exact Nat.le_refl _, ?_, Nat.le_refl _, ?_, fun o b base sz hs hn => (by rw [hn] at hs; cases hs), fun _ => Nat.le_refl _⟩⟩
  · rw [World.putObj_size]; exact r.base
  · intro j cs g x base' sz' hj hmj
    rw [hget] at hj
    by_cases e : j = o
    · rw [if_pos e] at hj; cases hj
    · rw [if_neg e] at hj
      obtain ⟨h1, CS, e', fr, h2, h3⟩ := r.row hj hmj
      exact ⟨h1, CS, e', fr, by rw [World.putObj_heap_other (hne e hmj)]; exact h2, h3⟩
  · intro j cs x base' sz' hj hmj i a hi
    obtain ⟨e, hj⟩ := hrow hj
    rw [cell?_putObj (hne e hmj)]; exact r.val hj hmj i a hi
  · intro j cs g x base' sz' hj hmj
    rw [hget] at hj
    by_cases e : j = o
    · rw [if_pos e] at hj; cases hj
    · rw [if_neg e] at hj
      obtain ⟨h1, h2⟩ := r.own hj hmj
      exact ⟨h1, fun i hi => unf_same (World.putObj_heap_other (hne e hmj)) (h2 i hi)⟩
  · intro j cs x base' sz' hj hmj
    rw [hget] at hj
    by_cases e : j = o
    · rw [if_pos e] at hj; cases hj
    · rw [if_neg e] at hj; exact r.ro hj hmj
  · intro j j' x base' sz' base2 sz2 h1 h2 hjj hx
    obtain ⟨g, cs, cs', e1, e2⟩ := r.sep h1 h2 hjj hx
    refine ⟨g, cs, cs', ?_, ?_⟩
    · rw [hget, if_neg (fun e => by subst e; rw [hg] at e1; cases e1)]; exact e1
    · rw [hget, if_neg (fun e => by subst e; rw [hg] at e2; cases e2)]; exact e2
  · intro j j' g cs cs' x base' sz' base2 sz2 hlt h1 h2 hk h3 h4
    rw [hget] at h1 h2
    by_cases e : j = o
    · rw [if_pos e] at h1; cases h1
    · by_cases e' : j' = o
      · rw [if_pos e'] at h2; cases h2
      · rw [if_neg e] at h1; rw [if_neg e'] at h2
        exact r.ord hlt h1 h2 hk h3 h4
  · intro j x base' sz' hmj
    rw [World.putObj_size]; exact r.blk hmj
  · intro j x hmj
    obtain ⟨ob, hob⟩ := r.any hmj
    rw [hget]
    by_cases e : j = o
    · exact ⟨_, by rw [if_pos e]⟩
    · exact ⟨ob, by rw [if_neg e]; exact hob⟩
  · intro j L2 x base' sz' hj hmj
    rw [hget] at hj
    by_cases e : j = o
    · rw [if_pos e] at hj; cases hj
    · rw [if_neg e] at hj
      obtain ⟨q1, rec2, q2, q3⟩ := r.lp hj hmj
      exact ⟨q1, rec2, by rw [World.putObj_heap_other (hne e hmj)]; exact q2, q3⟩
  · intro j X2 x base' sz' hj hmj
    rw [hget] at hj
    by_cases e : j = o
    · rw [if_pos e] at hj
      cases hj
      subst e
      rw [hm] at hmj; cases hmj
      exact ⟨hB, hb0, r', World.putObj_heap_same hbs, q⟩
    · rw [if_neg e] at hj
      obtain ⟨q1, q0, rec2, q2, q3⟩ := r.mm hj hmj
      exact ⟨q1, q0, rec2, by rw [World.putObj_heap_other (hne e hmj)]; exact q2, q3⟩
  · intro j g v hj
    rw [hget] at hj
    by_cases e : j = o
    · rw [if_pos e] at hj; cases hj
    · rw [if_neg e] at hj
      obtain ⟨q1, v', q2, q3⟩ := r.gb hj
      exact ⟨q1, v', by rw [cell?_putObj (by omega)]; exact q2, q3⟩
  · refine ⟨r.wf.gr, fun j cs g hj => ?_, fun j x hj => ?_, r.wf.kt, r.wf.tl⟩
    · rw [hget] at hj
      by_cases e : j = o
      · rw [if_pos e] at hj; cases hj
      · rw [if_neg e] at hj; exact r.wf.mem j cs g hj
    · rw [hget] at hj
      by_cases e : j = o
      · subst e; exact r.wf.ob _ _ hg
      · rw [if_neg e] at hj; exact r.wf.ob j x hj
  · intro x hx hc
    rw [World.putObj_heap_other]
    rintro rfl
    rcases hc with hc | hc
    · omega
    · exact hc _ _ _ hm
  · intro j hj hmj
    refine ⟨?_, hmj⟩
    rw [hget, if_neg]
    rintro rfl
    rw [hm] at hmj; cases hmj
/-- an object that is no row is laid -/
theorem Rel.pushMem {m : M} {h : H} {w : World} (r : Rel P B0 m h w) {X : MObj} {r' : Obj} (q : MRel m X r') :
    Rel P B0 (m.set h.n (w.heap.size, 0, 0)) (h.push (.mem X)) (w.alloc r') ∧
    Fr B0 m (m.set h.n (w.heap.size, 0, 0)) h (h.push (.mem X)) w (w.alloc r') := by
  have hle : M.le m (m.set h.n (w.heap.size, 0, 0)) := M.set_le _ r.fresh
  have hheap : ∀ b, b < w.heap.size → (w.alloc r').heap[b]? = w.heap[b]? := by
    intro b hb
    rw [heap_alloc_eq, if_neg (by omega)]
  have hnew : ∀ o b base sz, (m.set h.n (w.heap.size, 0, 0)) o = some (b, base, sz) → (o = h.n ∧ b = w.heap.size ∧ base = 0 ∧ sz = 0) ∨ (o ≠ h.n ∧ m o = some (b, base, sz) ∧ b < w.heap.size) := by
    intro o b base sz ho
    unfold M.set at ho
    split at ho
    · rename_i e; cases ho; exact .inl ⟨e, rfl, rfl, rfl⟩
    · rename_i e; exact .inr ⟨e, ho, r.blk ho⟩
  have hget : ∀ o, (h.push (.mem X)).get o = if o = h.n then some (.mem X) else h.get o := fun o => H.get_push _ _ _
  have hcell : ∀ b i, b < w.heap.size → (w.alloc r').cell? ⟨b, i, none⟩ = w.cell? ⟨b, i, none⟩ := by
    intro b i hb
    rw [cell?_alloc_of_lt _ _ _ hb]
  refine ⟨⟨?_, ?_, ?_, ?_, ?_, ?_, ?_, ?_, ?_, ?_, ?_, ?_, ?_, ?_⟩, ⟨hle, rfl, rfl, rfl, by simp, fun b hb _ => hheap b hb, Nat.le_succ _, ?_, ?_, fun _ => Nat.le_refl _⟩⟩
  · have := r.base; simp; omega
  · intro o x hx
    obtain ⟨b, base, sz⟩ := x
    rcases hnew o b base sz hx with ⟨rfl, _⟩ | ⟨_, hm, _⟩
    · exact Nat.lt_succ_self _
    · exact Nat.lt_succ_of_lt (r.lt _ _ hm)
  · intro o cs g b base sz hg hx
    rw [hget] at hg
    rcases hnew o b base sz hx with ⟨rfl, _⟩ | ⟨hne, hm, hb⟩
    · simp at hg
    · rw [if_neg hne] at hg
      obtain ⟨h1, CS', e', fr', h2, h3⟩ := r.row hg hm
      exact ⟨h1, CS', e', fr', by rw [hheap _ hb]; exact h2, h3⟩
  · intro o cs b base sz hg hx i a hi
    rcases hnew o b base sz hx with ⟨rfl, _⟩ | ⟨hne, hm, hb⟩
    · unfold H.row at hg
      rw [hget, if_pos rfl] at hg; cases hg
    · have hr : h.row o = some cs := by
        have : (h.push (.mem X)).row o = h.row o := by unfold H.row; rw [hget, if_neg hne]; rfl
        rw [← this]; exact hg
      obtain ⟨v, h1, h2⟩ := r.val hr hm i a hi
      exact ⟨v, by rw [hcell _ _ hb]; exact h1, h2.mono hle⟩
  · intro o cs g b base sz hg hx
    rw [hget] at hg
    rcases hnew o b base sz hx with ⟨rfl, _⟩ | ⟨hne, hm, hb⟩
    · simp at hg
    · rw [if_neg hne] at hg
      obtain ⟨h1, h2⟩ := r.own hg hm
      exact ⟨h1, fun i hi => unf_same (hheap _ hb) (h2 i hi)⟩
  · intro o cs b base sz hg hx
    rw [hget] at hg
    rcases hnew o b base sz hx with ⟨rfl, _⟩ | ⟨hne, hm, hb⟩
    · simp at hg
    · rw [if_neg hne] at hg; exact r.ro hg hm
  · intro o o' b base sz base' sz' hx hx' hne hb
    rcases hnew o b base sz hx with ⟨rfl, rfl, _⟩ | ⟨h1, hm, hb1⟩
    · rcases hnew o' _ base' sz' hx' with ⟨rfl, _⟩ | ⟨_, _, hb2⟩
      · exact absurd rfl hne
      · omega
    · rcases hnew o' _ base' sz' hx' with ⟨_, rfl, _⟩ | ⟨h2, hm', _⟩
      · omega
      · obtain ⟨g, cs, cs', e1, e2⟩ := r.sep hm hm' hne hb
        exact ⟨g, cs, cs', by rw [hget, if_neg h1]; exact e1, by rw [hget, if_neg h2]; exact e2⟩
  · intro o o' g cs cs' b base sz base' sz' hlt hg hg' hk hx hx'
    rw [hget] at hg hg'
    rcases hnew o b base sz hx with ⟨rfl, _⟩ | ⟨h1, hm, hb1⟩
    · simp at hg
    · rcases hnew o' _ base' sz' hx' with ⟨rfl, _⟩ | ⟨h2, hm', _⟩
      · simp at hg'
      · rw [if_neg h1] at hg; rw [if_neg h2] at hg'
        exact r.ord hlt hg hg' hk hm hm'
  · intro o b base sz hx
    rcases hnew o b base sz hx with ⟨rfl, rfl, _⟩ | ⟨h1, hm, hb1⟩
    · simp
    · simp; omega
  · intro o x hx
    obtain ⟨b, base, sz⟩ := x
    rcases hnew o b base sz hx with ⟨rfl, _⟩ | ⟨h1, hm, _⟩
    · exact ⟨_, by rw [hget, if_pos rfl]⟩
    · obtain ⟨ob, hob⟩ := r.any hm
      exact ⟨ob, by rw [hget, if_neg h1]; exact hob⟩
  · intro o L2 b base sz hg hx
    rw [hget] at hg
    rcases hnew o b base sz hx with ⟨rfl, rfl, _⟩ | ⟨h1, hm, hb1⟩
    · simp at hg
    · rw [if_neg h1] at hg
      obtain ⟨q1, rec, q2, q3⟩ := r.lp hg hm
      exact ⟨q1, rec, by rw [hheap _ hb1]; exact q2, q3.mono hle⟩
  · intro o X2 b base sz hg hx
    rw [hget] at hg
    rcases hnew o b base sz hx with ⟨rfl, rfl, rfl, _⟩ | ⟨h1, hm, hb1⟩
    · simp only [if_true] at hg
      cases hg
      exact ⟨r.base, rfl, r', by rw [heap_alloc_eq, if_pos rfl], q.mono hle⟩
    · rw [if_neg h1] at hg
      obtain ⟨q1, q0, rec, q2, q3⟩ := r.mm hg hm
      exact ⟨q1, q0, rec, by rw [hheap _ hb1]; exact q2, q3.mono hle⟩
  · intro o g v hg
    rw [hget] at hg
    split at hg
    · cases hg
    · obtain ⟨q1, v', q2, q3⟩ := r.gb hg
      exact ⟨q1, v', by rw [hcell _ _ (by have := r.base; omega)]; exact q2, q3.mono hle⟩
  · refine ⟨fun g p hg => Nat.lt_succ_of_lt (r.wf.gr g p hg), fun o cs g hg => ?_, fun o x hg => ?_, r.wf.kt, r.wf.tl_push _⟩
    · rw [hget] at hg
      split at hg
      · cases hg
      · exact r.wf.mem o cs g hg
    · rw [hget] at hg
      split at hg
      · rename_i e; subst e; exact Nat.lt_succ_self _
      · exact Nat.lt_succ_of_lt (r.wf.ob o x hg)
  · intro o ho hm
    refine ⟨by rw [hget, if_neg (Nat.ne_of_lt ho)], ?_⟩
    unfold M.set; rw [if_neg (Nat.ne_of_lt ho)]; exact hm
  · intro o b base sz hx hn
    rcases hnew o b base sz hx with ⟨rfl, rfl, rfl, rfl⟩ | ⟨h1, hm, _⟩
    · exact .inl (by omega)
    · rw [hn] at hm; cases hm

theorem run_getObj' {m : M} {X : MObj} {w : World} {r : Nat} {o : Obj} (q : MRel m X o) (h : w.heap[r]? = some o) : (getObj r).run P w = .ok o w := by cases q <;> simp [getObj, Sem.run, h]
theorem run_setObj' {m : M} {X : MObj} {w : World} {r : Nat} {o : Obj} (q : MRel m X o) (x : Obj) (h : w.heap[r]? = some o) : (setObj r x).run P w = .ok () (w.putObj r x) := by cases q <;> simp [setObj, Sem.run, h, World.putObj]

/-! ### the operations -/
variable {m : M} {h h' : H} {w : World}
theorem sound_makeMap (r : Rel P B0 m h w) (t : TypeId) : SemOK P B0 m h w (.map h.n) (h.push (.mem (.map [] 0))) ((Instr.makeMap t none).run P w) := by
  obtain ⟨r', f'⟩ := r.pushMem (X := .map [] 0) (r' := .map #[] 0) (.map 0 .nil)
  refine ⟨_, _, .map (some w.heap.size), ?_, r', f', .map (by unfold M.set; rw [if_pos rfl])⟩
  simp [Instr.makeMap]
theorem sound_rangeT (r : Rel P B0 m h w) {t : TypeId} (hu : P.underlying t = some .string) {x v : AV} {x' : Value} (hx : VRel m x x') (he : rangeTA h x = some (v, h')) : SemOK P B0 m h w v h' ((Instr.range t x').run P w) := by
  cases hx <;> simp only [rangeTA] at he <;> (try (cases he; done))
  rename_i s
  cases he
  obtain ⟨r', f'⟩ := r.pushMem (X := .siter s 0) (r' := .stringIter ⟨⟨s⟩⟩ 0) (.siter s 0)
  refine ⟨_, _, .pointer (some ⟨w.heap.size, 0 + 0, none⟩), ?_, r', f', .ptr 0 (by unfold M.set; rw [if_pos rfl])⟩
  simp [Instr.range, run_underlying hu]
theorem sound_nextT (r : Rel P B0 m h w) {ty : TypeId} {x v : AV} {x' : Value} (hx : VRel m x x') (he : nextTA h x = some (v, h')) : SemOK P B0 m h w v h' ((Instr.next x' true ty).run P w) := by
  cases hx <;> simp only [nextTA] at he <;> (try (cases he; done))
  rename_i o b base sz i hm
  split at he
  case h_2 => cases he
  rename_i heq
  cases heq
  split at he
  case h_2 => cases he
  rename_i s p hg
  obtain ⟨hB, rfl, rec, hb, q⟩ := r.mm hg hm
  cases q
  have hgo := run_getObj' (P := P) (m := m) (X := .siter s p) (.siter s p) hb
  have hsz : (⟨⟨s⟩⟩ : ByteArray).size = s.length := str_size s
  split at he
  · rename_i hp
    cases he
    obtain ⟨r', f'⟩ := r.setMem hg hm (X' := .siter s (p + (Utf8.decode ⟨⟨s⟩⟩ p).2)) (r' := .stringIter ⟨⟨s⟩⟩ (p + (Utf8.decode ⟨⟨s⟩⟩ p).2)) (.siter _ _)
    refine ⟨_, _, .tuple #[.bool true, .int .i64 p, .int .i32 (Utf8.decode ⟨⟨s⟩⟩ p).1], ?_, r', f', .tup (.cons (.bool _) (.cons (.int _ _) (.cons (.int _ _) .nil)))⟩
    have hso := run_setObj' (P := P) (m := m) (X := .siter s p) (.siter s p) (.stringIter ⟨⟨s⟩⟩ (p + (Utf8.decode ⟨⟨s⟩⟩ p).2)) hb
    simp only [Instr.next, Sem.run_bind, Nat.add_zero, hgo, Result.andThen_ok, hsz, if_pos hp, hso]
    rfl
  · rename_i hp
    cases he
    refine .same r (.tup (.cons (.bool _) .nil)) ?_
    simp only [Instr.next, Sem.run_bind, Nat.add_zero, hgo, Result.andThen_ok, hsz, if_neg hp]
    rfl
theorem sound_lenM (r : Rel P B0 m h w) {t ty k e : TypeId} (hu : P.underlying t = some (.map k e)) {x : AV} {x' : Value} (hx : VRel m x x') {n : Nat} (he : lenMA h x = some n) : SemOK P B0 m h w (.int .i64 n) h ((Builtin.len_ #[t] ty #[x']).run P w) := by
  cases hx <;> simp only [lenMA] at he <;> (try (cases he; done))
  · cases he
    exact .same r (.int _ _) (by simp [Builtin.len_, run_underlying hu, goInt])
  · rename_i o b hm
    split at he
    case h_2 => cases he
    rename_i es c hg
    cases he
    obtain ⟨hB, _, rec, hb, q⟩ := r.mm hg hm
    cases q with
    | map _ hes =>
    rename_i ES
    have hgo := run_getObj' (P := P) (m := m) (X := .map es c) (.map c hes) hb
    have hl : ∀ {es : List (AV × AV × Nat)} {ES : List MapEntry}, ERels m es ES → ES.length = es.length := by
      intro es ES hq
      induction hq with
      | nil => rfl
      | cons _ _ _ _ ih => simp [ih]
    exact .same r (.int _ _) (by simp [Builtin.len_, run_underlying hu, goInt, hgo, hl hes])
theorem sound_cvR2S (r : Rel P B0 m h w) {s d : TypeId} {k : IntKind} (hs : P.underlying s = some (.int k)) (hd : P.underlying d = some .string) {x v : AV} {x' : Value} (hx : VRel m x x') (he : cvR2SA x = some v) : SemOK P B0 m h w v h ((convert s d x').run P w) := by
  cases hx <;> simp only [cvR2SA] at he <;> (try (cases he; done))
  rename_i k' n
  cases he
  refine .same r (v' := .string (Utf8.encode n)) (.str (Utf8.encode n).data.toList) ?_
  simp only [convert, Sem.run_bind, run_underlying hs, run_underlying hd, Result.andThen_ok]
  rfl
/-! ### keys -/
theorem run_checkKey_kk {kt : TypeId} {kk : KTy} (hkt : keyTy P kt = some kk) {a c : AV} {v : Value} (ha : VRel m a v) (hk : (keyEq kk a c).isSome = true) (em : Bool) : (Instr.checkKey em 10000 kt v).run P w = .ok () w := by
  unfold keyTy at hkt
  split at hkt
  · rename_i ki hu
    cases hkt
    cases ha <;> cases c <;> (try (simp [keyEq] at hk; done))
    unfold Instr.checkKey
    simp [run_underlying hu]
  · rename_i hu
    cases hkt
    cases ha <;> cases c <;> (try (simp [keyEq] at hk; done))
    unfold Instr.checkKey
    simp [run_underlying hu]
  · rename_i fs hu
    obtain ⟨ks, hfl, rfl⟩ := Option.map_eq_some_iff.1 hkt
    obtain ⟨h1, _⟩ := flatKTy_of hfl
    cases ha <;> cases c <;> (try (simp [keyEq] at hk; done))
    rename_i x xs vx y
    simp only [keyEq] at hk
    obtain ⟨b, hb⟩ := Option.isSome_iff_exists.1 hk
    exact checkKey_deep em 64 kt ks h1 10000 (by decide) m w x y xs b _ vx hb (.inl ⟨by unfold aggOf; rw [hu], rfl⟩)
  · rename_i n e hu
    obtain ⟨ks, hfl, rfl⟩ := Option.map_eq_some_iff.1 hkt
    obtain ⟨h1, _⟩ := flatKTy_of hfl
    cases ha <;> cases c <;> (try (simp [keyEq] at hk; done))
    rename_i x xs vx y
    simp only [keyEq] at hk
    obtain ⟨b, hb⟩ := Option.isSome_iff_exists.1 hk
    exact checkKey_deep em 64 kt ks h1 10000 (by decide) m w x y xs b _ vx hb (.inl ⟨by unfold aggOf; rw [hu], rfl⟩)
  · cases hkt
/-- two keys held against each other -/
theorem run_equal_flat {kt : TypeId} {ks : List FK} (hag : aggOf P kt = some true) (hfl : flatKTy P kt = some ks) {x y : List AV} {xs ys : List Value} (vx : VRels m x xs) (vy : VRels m y ys) {b : Bool} (he : flatEqK ks x y = some b) :
    (Op.equal kt (.agg ⟨xs⟩) (.agg ⟨ys⟩)).run P w = .ok b w := by
  obtain ⟨h1, _⟩ := flatKTy_of hfl
  exact equalIn_deep 64 kt ks h1 10000 (by decide) m w x y xs ys b _ _ vx vy he (.inl ⟨hag, rfl⟩) (.inl ⟨hag, rfl⟩)
theorem flat_of {ks : List FK} {k kx : AV} {k' q : Value} (hk : VRel m k k') (hkx : VRel m kx q) {b : Bool} (h : keyEq (.flat ks) k kx = some b) :
    ∃ x xs y ys, k = .agg x ∧ k' = .agg ⟨xs⟩ ∧ kx = .agg y ∧ q = .agg ⟨ys⟩ ∧ VRels m x xs ∧ VRels m y ys ∧ flatEqK ks x y = some b := by
  cases hk <;> cases hkx <;> simp only [keyEq] at h <;> (try (cases h; done))
  exact ⟨_, _, _, _, rfl, rfl, rfl, rfl, by assumption, by assumption, h⟩
/-- the place that a look-up comes to -/
def IRes (ES : List MapEntry) : Option Nat → Option (Nat × Value) → Prop
  | none, none => True
  | some i, some (j, v') => j = i ∧ ∃ e, ES[i]? = some e ∧ v' = e.val
  | _, _ => False
theorem ires_step {e : MapEntry} {l : List MapEntry} {k : Nat} {r : Option Nat} {r' : Option (Nat × Value)} (h : IRes l r (r'.map fun p => (p.1 - (k + 1), p.2))) (hk : ∀ p, r' = some p → k + 1 ≤ p.1) :
    IRes (e :: l) (r.map (· + 1)) (r'.map fun p => (p.1 - k, p.2)) := by
  cases r with
  | none => cases r' with
    | none => trivial
    | some p => exact h
  | some i => cases r' with
    | none => exact h
    | some p =>
      obtain ⟨h1, x, h2, h3⟩ := h
      have := hk p rfl
      exact ⟨by simp only at h1 ⊢; omega, x, by simpa using h2, h3⟩
theorem run_findKey {kt : TypeId} {kk : KTy} (hkt : keyTy P kt = some kk) {k : AV} {k' : Value} (hk : VRel m k k') {es : List (AV × AV × Nat)} {ES : List MapEntry} (hes : ERels m es ES) {res : Option Nat} (hf : idxM kk k es = some res) :
    ∃ res' : Option (Nat × Value), (Instr.findKey kt k' ES).run P w = .ok res' w ∧ IRes ES res res' := by
  have fin : ∀ {r : Option Nat} {r' : Option (Nat × Value)}, IRes ES r (r'.map fun p => (p.1 - 0, p.2)) → IRes ES r r' := by
    intro r r' h
    cases r' with
    | none => exact h
    | some p => simpa using h
  unfold keyTy at hkt
  split at hkt
  · rename_i ki hu
    cases hkt
    have main : ∀ {es : List (AV × AV × Nat)} {ES : List MapEntry}, ERels m es ES → ∀ (i : Nat) (res : Option Nat), idxM .int k es = some res → ∃ res' : Option (Nat × Value), Instr.findNow (.int ki) k' ES i = some res' ∧ (∀ p, res' = some p → i ≤ p.1) ∧ IRes ES res (res'.map fun p => (p.1 - i, p.2)) := by
      intro es ES hes
      induction hes with
      | nil => intro i res hf; cases hf; exact ⟨none, rfl, fun _ h => (by cases h), trivial⟩
      | @cons kx v n l e l' hkx hv hn t ih =>
        intro i res hf
        simp only [idxM] at hf
        unfold Instr.findNow
        generalize hq : e.key = q at hkx
        cases hk <;> cases hkx <;> simp only [keyEq] at hf <;> (try (cases hf; done))
        split at hf
        · rename_i hc
          split at hc
          · rename_i ek; subst ek
            cases hf
            simp only [Option.some.injEq] at hc
            simp only [Instr.sameNow, if_true, hc]
            exact ⟨_, rfl, fun p h => (by cases h; exact Nat.le_refl _), by simp, e, rfl, rfl⟩
          · cases hc
        · rename_i hc
          split at hc
          · rename_i ek; subst ek
            simp only [Option.some.injEq] at hc
            simp only [Instr.sameNow, if_true, hc]
            obtain ⟨r, hr, rfl⟩ := Option.map_eq_some_iff.1 hf
            obtain ⟨res', h1, h2, h3⟩ := ih (i + 1) r hr
            exact ⟨res', h1, fun p hp => (by have := h2 p hp; omega), ires_step h3 h2⟩
          · cases hc
        · cases hf
    obtain ⟨res', h1, _, h2⟩ := main hes 0 res hf
    refine ⟨res', ?_, fin h2⟩
    simp only [Instr.findKey, Sem.run_bind, run_underlying hu, Result.andThen_ok, h1]
    rfl
  · rename_i hu
    cases hkt
    have main : ∀ {es : List (AV × AV × Nat)} {ES : List MapEntry}, ERels m es ES → ∀ (i : Nat) (res : Option Nat), idxM .str k es = some res → ∃ res' : Option (Nat × Value), Instr.findNow .string k' ES i = some res' ∧ (∀ p, res' = some p → i ≤ p.1) ∧ IRes ES res (res'.map fun p => (p.1 - i, p.2)) := by
      intro es ES hes
      induction hes with
      | nil => intro i res hf; cases hf; exact ⟨none, rfl, fun _ h => (by cases h), trivial⟩
      | @cons kx v n l e l' hkx hv hn t ih =>
        intro i res hf
        simp only [idxM] at hf
        unfold Instr.findNow
        generalize hq : e.key = q at hkx
        cases hk <;> cases hkx <;> simp only [keyEq] at hf <;> (try (cases hf; done))
        split at hf
        · rename_i hc
          cases hf
          simp only [Option.some.injEq] at hc
          simp only [Instr.sameNow, bytes_beq, hc]
          exact ⟨_, rfl, fun p h => (by cases h; exact Nat.le_refl _), by simp, e, rfl, rfl⟩
        · rename_i hc
          simp only [Option.some.injEq] at hc
          simp only [Instr.sameNow, bytes_beq, hc]
          obtain ⟨r, hr, rfl⟩ := Option.map_eq_some_iff.1 hf
          obtain ⟨res', h1, h2, h3⟩ := ih (i + 1) r hr
          exact ⟨res', h1, fun p hp => (by have := h2 p hp; omega), ires_step h3 h2⟩
        · cases hf
    obtain ⟨res', h1, _, h2⟩ := main hes 0 res hf
    refine ⟨res', ?_, fin h2⟩
    simp only [Instr.findKey, Sem.run_bind, run_underlying hu, Result.andThen_ok, h1]
    rfl
  · rename_i fs hu
    obtain ⟨ks, hfl, rfl⟩ := Option.map_eq_some_iff.1 hkt
    have main : ∀ {es : List (AV × AV × Nat)} {ES : List MapEntry}, ERels m es ES → ∀ (i : Nat) (res : Option Nat), idxM (.flat ks) k es = some res → ∃ res' : Option (Nat × Value), (Instr.findAsking kt k' ES i).run P w = .ok res' w ∧ (∀ p, res' = some p → i ≤ p.1) ∧ IRes ES res (res'.map fun p => (p.1 - i, p.2)) := by
      intro es ES hes
      induction hes with
      | nil => intro i res hf; cases hf; exact ⟨none, by simp [Instr.findAsking], fun _ h => (by cases h), trivial⟩
      | @cons kx v n l e l' hkx hv hn t ih =>
        intro i res hf
        simp only [idxM] at hf
        generalize hq : e.key = q at hkx
        split at hf
        · rename_i hc
          cases hf
          obtain ⟨x, xs, y, ys, rfl, rfl, rfl, hq', vx, vy, hfe⟩ := flat_of hk hkx hc
          have he := run_equal_flat (P := P) (w := w) (by unfold aggOf; rw [hu]) hfl vx vy hfe
          rw [← hq', ← hq] at he
          exact ⟨some (i, e.val), by simp [Instr.findAsking, he], fun p h => (by cases h; exact Nat.le_refl _), by simp, e, rfl, rfl⟩
        · rename_i hc
          obtain ⟨x, xs, y, ys, rfl, rfl, rfl, hq', vx, vy, hfe⟩ := flat_of hk hkx hc
          have he := run_equal_flat (P := P) (w := w) (by unfold aggOf; rw [hu]) hfl vx vy hfe
          rw [← hq', ← hq] at he
          obtain ⟨r, hr, rfl⟩ := Option.map_eq_some_iff.1 hf
          obtain ⟨res', h1, h2, h3⟩ := ih (i + 1) r hr
          exact ⟨res', by simp [Instr.findAsking, he, h1], fun p hp => (by have := h2 p hp; omega), ires_step h3 h2⟩
        · cases hf
    obtain ⟨res', h1, _, h2⟩ := main hes 0 res hf
    cases hes with
    | nil =>
      cases hf
      refine ⟨none, ?_, trivial⟩
      simp [Instr.findKey, run_underlying hu, Instr.findNow]
    | @cons kx v n l e l' hkx hv hn t =>
      refine ⟨res', ?_, fin h2⟩
      have hno : Instr.findNow (.struct fs) k' (e :: l') 0 = none := by
        unfold Instr.findNow Instr.sameNow
        rfl
      simp only [Instr.findKey, Sem.run_bind, run_underlying hu, Result.andThen_ok, hno, h1]
  · rename_i nn ee hu
    obtain ⟨ks, hfl, rfl⟩ := Option.map_eq_some_iff.1 hkt
    have main : ∀ {es : List (AV × AV × Nat)} {ES : List MapEntry}, ERels m es ES → ∀ (i : Nat) (res : Option Nat), idxM (.flat ks) k es = some res → ∃ res' : Option (Nat × Value), (Instr.findAsking kt k' ES i).run P w = .ok res' w ∧ (∀ p, res' = some p → i ≤ p.1) ∧ IRes ES res (res'.map fun p => (p.1 - i, p.2)) := by
      intro es ES hes
      induction hes with
      | nil => intro i res hf; cases hf; exact ⟨none, by simp [Instr.findAsking], fun _ h => (by cases h), trivial⟩
      | @cons kx v n l e l' hkx hv hn t ih =>
        intro i res hf
        simp only [idxM] at hf
        generalize hq : e.key = q at hkx
        split at hf
        · rename_i hc
          cases hf
          obtain ⟨x, xs, y, ys, rfl, rfl, rfl, hq', vx, vy, hfe⟩ := flat_of hk hkx hc
          have he := run_equal_flat (P := P) (w := w) (by unfold aggOf; rw [hu]) hfl vx vy hfe
          rw [← hq', ← hq] at he
          exact ⟨some (i, e.val), by simp [Instr.findAsking, he], fun p h => (by cases h; exact Nat.le_refl _), by simp, e, rfl, rfl⟩
        · rename_i hc
          obtain ⟨x, xs, y, ys, rfl, rfl, rfl, hq', vx, vy, hfe⟩ := flat_of hk hkx hc
          have he := run_equal_flat (P := P) (w := w) (by unfold aggOf; rw [hu]) hfl vx vy hfe
          rw [← hq', ← hq] at he
          obtain ⟨r, hr, rfl⟩ := Option.map_eq_some_iff.1 hf
          obtain ⟨res', h1, h2, h3⟩ := ih (i + 1) r hr
          exact ⟨res', by simp [Instr.findAsking, he, h1], fun p hp => (by have := h2 p hp; omega), ires_step h3 h2⟩
        · cases hf
    obtain ⟨res', h1, _, h2⟩ := main hes 0 res hf
    cases hes with
    | nil =>
      cases hf
      refine ⟨none, ?_, trivial⟩
      simp [Instr.findKey, run_underlying hu, Instr.findNow]
    | @cons kx v n l e l' hkx hv hn t =>
      refine ⟨res', ?_, fin h2⟩
      have hno : Instr.findNow (.array nn ee) k' (e :: l') 0 = none := by
        unfold Instr.findNow Instr.sameNow
        rfl
      simp only [Instr.findKey, Sem.run_bind, run_underlying hu, Result.andThen_ok, hno, h1]
  · cases hkt
end
end Go.Proofs.YtlbaphapjclkdaaGreatDoor.Ev
