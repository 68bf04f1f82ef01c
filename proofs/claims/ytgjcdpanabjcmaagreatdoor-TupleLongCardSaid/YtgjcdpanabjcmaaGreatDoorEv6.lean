/- What one operation answers over the abstract heap, the model's operation answers: values, loads and stores, new rows. -/
import Derived.Test.YtgjcdpanabjcmaaGreatDoorEv4
namespace Go.Proofs.YtgjcdpanabjcmaaGreatDoor.Ev
set_option linter.unusedVariables false
set_option linter.unusedSimpArgs false

/-! ### constants, operands -/
theorem trCell_rel {m : M} : ∀ {v : Value} {a : AV}, trCell v = some a → VRel m a v
  | .bool b, a, h => by cases h; exact .bool b
  | .int k n, a, h => by cases h; exact .int k n
  | .string ⟨⟨s⟩⟩, a, h => by cases h; exact .str s
  | .pointer none, a, h => by cases h; exact .nilp
  | .slice none 0 0, a, h => by cases h; exact .nils
  | .map none, a, h => by cases h; exact .nilm
  | .nilFunc, a, h => by cases h; exact .nilf
  | .nilIface, a, h => by cases h; exact .nili
  | .pointer (some _), a, h => by cases h
  | .slice (some _) _ _, a, h => by simp [trCell] at h
  | .slice none (_ + 1) _, a, h => by simp [trCell] at h
  | .slice none 0 (_ + 1), a, h => by simp [trCell] at h
  | .map (some _), a, h => by cases h
  | .float _ _, a, h => by cases h
  | .complex _ _ _, a, h => by cases h
  | .chan _, a, h => by cases h
  | .func _ _ _, a, h => by cases h
  | .iface _ _, a, h => by cases h
  | .agg _, a, h => by cases h
  | .tuple _, a, h => by cases h
theorem trCells_rel {m : M} : ∀ {l : List Value} {k : List AV}, trCells l = some k → VRels m k l
  | [], k, h => by cases h; exact .nil
  | v :: l, k, h => by
    simp only [trCells] at h
    split at h
    · rename_i h1 h2; cases h; exact .cons (trCell_rel h1) (trCells_rel h2)
    · cases h
theorem trVal_rel {m : M} {v : Value} {a : AV} (h : trVal v = some a) : VRel m a v := by
  unfold trVal at h
  split at h
  · rename_i cs
    obtain ⟨k, h1, rfl⟩ := Option.map_eq_some_iff.1 h
    obtain ⟨l⟩ := cs; exact .agg (trCells_rel h1)
  · rename_i cs
    obtain ⟨k, h1, rfl⟩ := Option.map_eq_some_iff.1 h
    obtain ⟨l⟩ := cs; exact .tup (trCells_rel h1)
  · obtain ⟨k, h1, rfl⟩ := Option.map_eq_some_iff.1 h
    exact .iface _ (trCell_rel h1)
  · exact trCell_rel h

/-- what abstract temporaries say of the model's -/
structure ARel (m : M) (nt : Nat) (s : S) (a : Act) : Prop where
  size : a.tmps.size = nt
  tmp : ∀ j, VRel m (s j) (a.tmps.getD j undef)
theorem ARel.mono {m m' : M} {nt : Nat} {s : S} {a : Act} (hm : M.le m m') (h : ARel m nt s a) : ARel m' nt s a := ⟨h.size, fun j => (h.tmp j).mono hm⟩
theorem undef_rel {m : M} : VRel m undefA undef := .tup .nil
theorem ARel.put {m : M} {nt : Nat} {s : S} {a : Act} (h : ARel m nt s a) (d : Option Nat) (hd : ∀ x, d = some x → x < nt) {v : AV} {v' : Value} (hv : VRel m v v') :
    ARel m nt (upd s d v) (a.put d v') := by
  cases d with
  | none => exact h
  | some x =>
    have hx := hd x rfl
    refine ⟨by simp [Act.put, h.size], fun j => ?_⟩
    simp only [upd, Act.put]
    by_cases e : j = x
    · subst e
      rw [if_pos rfl]
      simp only [Array.getD_eq_getD_getElem?, Array.getElem?_setIfInBounds, if_true]
      rw [if_pos (by rw [h.size]; exact hx)]
      exact hv
    · rw [if_neg e]
      have := h.tmp j
      simp only [Array.getD_eq_getD_getElem?] at this ⊢
      rw [Array.getElem?_setIfInBounds_ne (fun x => e x.symm)]
      exact this
theorem ARel.ev {m : M} {nt : Nat} {s : S} {a : Act} (h : ARel m nt s a) {x : Operand} {y : AOpd} (hx : trOpd x = some y) : VRel m (y.ev s) (a.eval x) := by
  cases x with
  | tmp t => cases hx; exact h.tmp t
  | const v => obtain ⟨k, h1, rfl⟩ := Option.map_eq_some_iff.1 hx; exact trVal_rel h1
  | global g => cases hx; exact .gptr g
  | func f => cases hx; exact .func f .nil
theorem ARel.evs {m : M} {nt : Nat} {s : S} {a : Act} (h : ARel m nt s a) : ∀ {l : List Operand} {k : List AOpd}, trOpds l = some k → VRels m (k.map (·.ev s)) (l.map a.eval)
  | [], k, e => by cases e; exact .nil
  | x :: l, k, e => by
    simp only [trOpds] at e
    split at e
    · rename_i h1 h2; cases e; exact .cons (h.ev h1) (h.evs h2)
    · cases e

/-! ### what is shown of an operation -/
structure Done (P : Program) (B0 : Nat) (m : M) (h : H) (w : World) (v : AV) (h' : H) (m' : M) (w' : World) (v' : Value) : Prop where
  rel : Rel P B0 m' h' w'
  fr : Fr B0 m m' h h' w w'
  val : VRel m' v v'
def OpOK (P : Program) (B0 : Nat) (m : M) (h : H) (w : World) (v : AV) (h' : H) (n : Result Next) : Prop :=
  ∃ m' w' v', (n = .ok (.value v') w' ∨ (n = .ok .skip w' ∧ v' = undef)) ∧ Done P B0 m h w v h' m' w' v'
def SemOK (P : Program) (B0 : Nat) (m : M) (h : H) (w : World) (v : AV) (h' : H) (n : Result Value) : Prop :=
  ∃ m' w' v', n = .ok v' w' ∧ Done P B0 m h w v h' m' w' v'
theorem Done.same {P : Program} {B0 : Nat} {m : M} {h : H} {w : World} (r : Rel P B0 m h w) {v : AV} {v' : Value} (hv : VRel m v v') : Done P B0 m h w v h m w v' := ⟨r, Fr.refl _ _ _ _, hv⟩
theorem SemOK.same {P : Program} {B0 : Nat} {m : M} {h : H} {w : World} (r : Rel P B0 m h w) {v : AV} {v' : Value} (hv : VRel m v v') {n : Result Value} (e : n = .ok v' w) : SemOK P B0 m h w v h n := ⟨m, w, v', e, .same r hv⟩
theorem OpOK.same {P : Program} {B0 : Nat} {m : M} {h : H} {w : World} (r : Rel P B0 m h w) {v : AV} {v' : Value} (hv : VRel m v v') {n : Result Next} (e : n = .ok (.value v') w) : OpOK P B0 m h w v h n := ⟨m, w, v', .inl e, .same r hv⟩
theorem OpOK.of_sem {B0 : Nat} {P : Program} {m : M} {h h' : H} {w : World} {v : AV} {x : Sem Value} (k : SemOK P B0 m h w v h' (x.run P w)) :
    OpOK P B0 m h w v h' ((do let r ← x; Pure.pure (Next.value r) : Sem Next).run P w) := by
  obtain ⟨m', w', v', e, d⟩ := k
  exact ⟨m', w', v', .inl (by simp [e]), d⟩

section
variable {B0 : Nat} {P : Program} {m : M} {h h' : H} {w : World}

theorem run_isAgg {t : TypeId} {b : Bool} (h : aggOf P t = some b) (w : World) : (isAgg t).run P w = .ok b w := by
  unfold aggOf at h
  unfold isAgg
  cases hu : P.underlying t with
  | none => rw [hu] at h; cases h
  | some d =>
    rw [hu] at h
    simp only [Sem.run_bind, run_underlying hu, Result.andThen_ok]
    cases d <;> simp at h <;> subst h <;> rfl
theorem run_size {t : TypeId} {n : Nat} (h : sizeP P t = some n) (w : World) : (sizeOf t).run P w = .ok n w := by
  unfold sizeP at h
  obtain ⟨i, h1, rfl⟩ := Option.map_eq_some_iff.1 h
  simp [sizeOf, typeInfo, h1]
theorem isSize_eq {x : Option Nat} {n : Nat} (h : isSize x = some n) : x = some n ∧ n ≠ 0 := by
  unfold isSize at h
  split at h
  · cases h
  · rename_i hx; subst h; refine ⟨rfl, fun e => by subst e; exact hx rfl⟩
theorem zeroP_eq {t : TypeId} {z : List AV} (h : zeroP P t = some z) : ∃ (i : TypeInfo) (v : Value), P.info? t = some i ∧ i.zero = some v ∧ (∀ m : M, VRels m z v.cells.toList) := by
  unfold zeroP at h
  obtain ⟨v, h1, h2⟩ := Option.bind_eq_some_iff.1 h
  obtain ⟨i, h3, h4⟩ := Option.bind_eq_some_iff.1 h1
  obtain ⟨a, h5, rfl⟩ := Option.map_eq_some_iff.1 h2
  exact ⟨i, v, h3, h4, fun m => (trVal_rel h5).cells⟩
theorem run_zero {t : TypeId} {i : TypeInfo} {v : Value} (h1 : P.info? t = some i) (h2 : i.zero = some v) (w : World) : (zeroValue t).run P w = .ok v w := by
  simp [zeroValue, typeInfo, h1, h2]

theorem addr_add (b off n : Nat) : (⟨b, off, none⟩ : Addr).add n = ⟨b, off + n, none⟩ := by unfold Addr.add; split <;> simp_all
/-- the cells of a row from one on -/
theorem Rel.cells (r : Rel P B0 m h w) {o b base sz : Nat} {cs : List AV} (hr : h.row o = some cs) (hm : m o = some (b, base, sz)) (i n : Nat) (hl : i + n ≤ cs.length) :
    ∃ vs, VRels m ((cs.drop i).take n) vs ∧ vs.length = n ∧ ∀ j v, vs[j]? = some v → w.cell? ((⟨b, base + i, none⟩ : Addr).add j) = some v := by
  have hx : ∀ j, j < n → ∃ v, w.cell? ⟨b, base + i + j, none⟩ = some v ∧ ∀ a, ((cs.drop i).take n)[j]? = some a → VRel m a v := by
    intro j hj
    have hlt : i + j < cs.length := by omega
    obtain ⟨v, h1, h2⟩ := r.val hr hm (i + j) cs[i + j] (List.getElem?_eq_getElem hlt)
    refine ⟨v, by rw [show base + i + j = base + (i + j) from by omega]; exact h1, fun a ha => ?_⟩
    rw [List.getElem?_take, if_pos hj, List.getElem?_drop, List.getElem?_eq_getElem hlt] at ha
    cases ha; exact h2
  refine ⟨(List.range n).map fun j => (w.cell? ⟨b, base + i + j, none⟩).getD undef, ?_, by simp, ?_⟩
  · refine VRels.of_get (by simp; omega) fun j a ha => ?_
    have hj : j < n := by
      rcases Nat.lt_or_ge j n with hx | hx
      · exact hx
      · rw [List.getElem?_take, if_neg (by omega)] at ha; cases ha
    obtain ⟨v, h1, h2⟩ := hx j hj
    exact ⟨v, by simp [hj, h1], h2 a ha⟩
  · intro j v hv
    have hj : j < n := by
      rcases Nat.lt_or_ge j n with hx | hx
      · exact hx
      · rw [List.getElem?_eq_none (by simp; omega)] at hv; cases hv
    obtain ⟨u, h1, _⟩ := hx j hj
    simp [hj, h1] at hv
    rw [addr_add, h1, hv]
theorem run_cells (w : World) (a : Addr) (vs : List Value) (n : Nat) (hn : vs.length = n) (hc : ∀ j v, vs[j]? = some v → w.cell? (a.add j) = some v) : (loadCells a n).run P w = .ok ⟨vs⟩ w := by
  subst hn; exact run_loadCells_list w a vs hc

theorem sound_load (r : Rel P B0 m h w) {t : TypeId} {agg : Bool} {n : Nat} (ha : aggOf P t = some agg) (hn : sizeP P t = some n) {x : AV} {x' : Value} (hx : VRel m x x') {v : AV}
    (he : loadA h agg n x = some v) : SemOK P B0 m h w v h ((Instr.loadAt t x').run P w) ∧ ∃ a : Addr, x' = .pointer (some a) ∧ ∃ v', (loadVar t a).run P w = .ok v' w ∧ VRel m v v' := by
  cases hx with
  | @ptr o b base sz i hm =>
    simp only [loadA] at he
    cases hr : h.row o with
    | none => rw [hr] at he; cases he
    | some cs =>
      rw [hr] at he
      simp only at he
      cases agg with
      | true =>
        simp only [if_true] at he
        split at he
        · rename_i hl
          cases he
          obtain ⟨vs, h1, h2, h3⟩ := r.cells hr hm i n hl
          have hk : (loadVar t ⟨b, base + i, none⟩).run P w = .ok (.agg ⟨vs⟩) w := by simp [loadVar, run_isAgg ha, run_size hn, run_cells w _ vs n h2 h3]
          exact ⟨.same r (.agg h1) (by simp [Instr.loadAt, Instr.sureAddr, hk]), _, rfl, _, hk, .agg h1⟩
        · cases he
      | false =>
        simp only [Bool.false_eq_true, if_false] at he
        obtain ⟨u, h3, h4⟩ := r.val hr hm i v he
        have hk : (loadVar t ⟨b, base + i, none⟩).run P w = .ok u w := by simp [loadVar, run_isAgg ha, h3]
        exact ⟨.same r h4 (by simp [Instr.loadAt, Instr.sureAddr, hk]), _, rfl, _, hk, h4⟩
  | gptr g =>
    simp only [loadA] at he
    split at he
    case h_2 => cases he
    rename_i g' v0 hg
    split at he
    case isFalse => cases he
    rename_i hc
    obtain ⟨rfl, rfl⟩ := hc
    cases he
    obtain ⟨_, u, h3, h4⟩ := r.gb hg
    have hk : (loadVar t ⟨g', 0, none⟩).run P w = .ok u w := by simp [loadVar, run_isAgg ha, h3]
    exact ⟨.same r h4 (by simp [Instr.loadAt, Instr.sureAddr, hk]), _, rfl, _, hk, h4⟩
  | _ => cases he

theorem sound_store (r : Rel P B0 m h w) {t : TypeId} {n : Nat} (hn : sizeP P t = some n) {x v : AV} {x' v' : Value} (hx : VRel m x x') (hv : VRel m v v')
    (he : storeA h n x v = some h') :
    OpOK P B0 m h w undefA h' ((do Instr.storeAt t x' v'; Pure.pure Next.skip : Sem Next).run P w) := by
  cases hx with
  | @ptr o b base sz i hm =>
    simp only [storeA] at he
    split at he
    · rename_i hc
      have hcv := hv.cells
      obtain ⟨r', f', hi, hf⟩ := r.put he hm hcv
      have hlen := hcv.len
      have hst := run_storeCells_cells (P := P) b (base + i) v'.cells.toList 0 w (by simpa using hi) (by simpa using hf) (hcv.all_one hc.2)
      refine ⟨m, _, undef, .inr ⟨?_, rfl⟩, r', f', undef_rel⟩
      have hsz : v'.cells.size = n := by rw [← hc.1, hlen]; simp
      simp [Instr.storeAt, Instr.sureAddr, storeVar, run_size hn, hsz, hst]
    · cases he
  | _ => cases he

/-- what an operation that makes a new row does, whatever else is in memory -/
def MakeOK (m : M) (w : World) (k : Nat → AV) (vs : List AV) (fin : Value → World → Prop) : Prop :=
  ∃ (w0 : World) (CS : Array Value) (e : TypeId) (fr : Nat × Nat) (v' : Value), (w0 = w ∨ w0 = w.drew) ∧ fin v' (w0.alloc (.cells CS e fr)) ∧ (∀ (i : Nat) (a : AV), vs[i]? = some a → ∃ u, CS[i]? = some u ∧ VRel m a u) ∧
    vs.length ≤ CS.size ∧ (∀ i, i < CS.size → fr.1 = fr.2 ∨ i < fr.1) ∧ ∀ o, VRel (m.set o (w.heap.size, 0, CS.size)) (k o) v'
theorem MakeOK.mono {m : M} {w : World} {k : Nat → AV} {vs : List AV} {f g : Value → World → Prop} (q : MakeOK m w k vs f) (hfg : ∀ v w, f v w → g v w) : MakeOK m w k vs g := by
  obtain ⟨w0, CS, e, fr, v', h1, h2, h3⟩ := q
  exact ⟨w0, CS, e, fr, v', h1, hfg _ _ h2, h3⟩
theorem SemOK.of_make (r : Rel P B0 m h w) {k : Nat → AV} {vs : List AV} {n : Result Value} (q : MakeOK m w k vs (fun v' w' => n = .ok v' w')) : SemOK P B0 m h w (k h.n) (h.new vs) n := by
  obtain ⟨w0, CS, e, fr, v', h1, h2, h3, h4, h5, h6⟩ := q
  rcases h1 with rfl | rfl
  · obtain ⟨r', f'⟩ := r.new vs CS e fr h3 h4 h5
    exact ⟨_, _, _, h2, r', f', h6 h.n⟩
  · obtain ⟨r', f'⟩ := r.drew.new vs CS e fr h3 h4 h5
    exact ⟨_, _, _, h2, r', (Fr.drew m h w).trans f', h6 h.n⟩
theorem make_new (m : M) (w : World) (e : TypeId) {vs : List AV} {cs : Array Value} (hv : VRels m vs cs.toList) (k : Nat → AV) (kv : Nat → Value)
    (hk : ∀ o, VRel (m.set o (w.heap.size, 0, cs.size)) (k o) (kv w.heap.size)) : MakeOK m w k vs (fun v' w' => (do let a ← newRow e cs; Pure.pure (kv a.block) : Sem Value).run P w = .ok v' w') := by
  have hl := hv.len
  refine ⟨w, cs, e, (0, 0), _, .inl rfl, ?_, fun i a hi => by obtain ⟨v, h1, h2⟩ := hv.get i a hi; exact ⟨v, by simpa using h1, h2⟩, by simp at hl; omega, fun _ _ => .inl rfl, hk⟩
  simp [newRow]
theorem VRel.new_ptr (m : M) (o : Nat) (b base sz : Nat) : VRel (m.set o (b, 0, sz)) (.ptr o 0) (.pointer (some ⟨b, 0, none⟩)) := by
  have := VRel.ptr (m := m.set o (b, 0, sz)) (o := o) (b := b) (base := 0) (sz := sz) 0 (by unfold M.set; rw [if_pos rfl])
  simpa using this
theorem VRel.new_slice (m : M) (o : Nat) (b sz len es cap : Nat) (h1 : len ≤ cap) (h2 : cap * es ≤ sz) : VRel (m.set o (b, 0, sz)) (.slice o 0 len es) (.slice (some ⟨b, 0, none⟩) len cap) := by
  have := VRel.slice (m := m.set o (b, 0, sz)) (o := o) (b := b) (base := 0) (sz := sz) 0 len es cap (by unfold M.set; rw [if_pos rfl]) h1 (by simpa using h2)
  simpa using this
end
end Go.Proofs.YtgjcdpanabjcmaaGreatDoor.Ev
