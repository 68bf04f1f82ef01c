/- What one operation answers over the abstract heap, the model's operation answers: values, loads and stores, new rows. -/
import Derived.Test.YtlbaphapjclkdaaGreatDoorEv3
import Derived.Laws.BytesString
import Derived.Laws.BytesArg
import Derived.Laws.Concat
import Derived.Laws.Append
import Derived.Laws.StructEq
import Derived.ChangeKeysEq
namespace Go.Proofs.YtlbaphapjclkdaaGreatDoor.Ev
set_option linter.unusedVariables false
set_option linter.unusedSimpArgs false

/-! ### constants, operands -/
theorem trCell_rel {m : M} : ∀ {v : Value} {a : AV}, trCell v = some a → VRel m a v
  | .bool b, a, h => by cases h; exact .bool b
  | .int k n, a, h => by cases h; exact .int k n
  | .string ⟨⟨s⟩⟩, a, h => by cases h; exact .str s
  | .pointer none, a, h => by cases h; exact .nilp
  | .slice none 0 0, a, h => by cases h; exact .nils
  | .map none, a, h => by cases h; exact .nilm
  | .nilFunc, a, h => by cases h; exact .nilf
  | .nilIface, a, h => by cases h; exact .nili
  | .pointer (some _), a, h => by cases h
  | .slice (some _) _ _, a, h => by simp [trCell] at h
  | .slice none (_ + 1) _, a, h => by simp [trCell] at h
  | .slice none 0 (_ + 1), a, h => by simp [trCell] at h
  | .map (some _), a, h => by cases h
  | .float _ _, a, h => by cases h
  | .complex _ _ _, a, h => by cases h
  | .chan _, a, h => by cases h
  | .func _ _ _, a, h => by cases h
  | .iface _ _, a, h => by cases h
  | .agg _, a, h => by cases h
  | .tuple _, a, h => by cases h
theorem trCells_rel {m : M} : ∀ {l : List Value} {k : List AV}, trCells l = some k → VRels m k l
  | [], k, h => by cases h; exact .nil
  | v :: l, k, h => by
    simp only [trCells] at h
    split at h
    · rename_i h1 h2; cases h; exact .cons (trCell_rel h1) (trCells_rel h2)
    · cases h
theorem trVal_rel {m : M} {v : Value} {a : AV} (h : trVal v = some a) : VRel m a v := by
  unfold trVal at h
  split at h
  · rename_i cs
    obtain ⟨k, h1, rfl⟩ := Option.map_eq_some_iff.1 h
    obtain ⟨l⟩ := cs; exact .agg (trCells_rel h1)
  · rename_i cs
    obtain ⟨k, h1, rfl⟩ := Option.map_eq_some_iff.1 h
    obtain ⟨l⟩ := cs; exact .tup (trCells_rel h1)
  · obtain ⟨k, h1, rfl⟩ := Option.map_eq_some_iff.1 h
    exact .iface _ (trCell_rel h1)
  · exact trCell_rel h

/-- what abstract temporaries say of the model's -/
structure ARel (m : M) (nt : Nat) (s : S) (a : Act) : Prop where
  size : a.tmps.size = nt
  tmp : ∀ j, VRel m (s j) (a.tmps.getD j undef)
theorem ARel.mono {m m' : M} {nt : Nat} {s : S} {a : Act} (hm : M.le m m') (h : ARel m nt s a) : ARel m' nt s a := ⟨h.size, fun j => (h.tmp j).mono hm⟩
theorem undef_rel {m : M} : VRel m undefA undef := .tup .nil
theorem ARel.put {m : M} {nt : Nat} {s : S} {a : Act} (h : ARel m nt s a) (d : Option Nat) (hd : ∀ x, d = some x → x < nt) {v : AV} {v' : Value} (hv : VRel m v v') :
    ARel m nt (upd s d v) (a.put d v') := by
  cases d with
  | none => exact h
  | some x =>
    have hx := hd x rfl
    refine ⟨by simp [Act.put, h.size], fun j => ?_⟩
    simp only [upd, Act.put]
    by_cases e : j = x
    · subst e
      rw [if_pos rfl]
      simp only [Array.getD_eq_getD_getElem?, Array.getElem?_setIfInBounds, if_true]
      rw [if_pos (by rw [h.size]; exact hx)]
      exact hv
    · rw [if_neg e]
      have := h.tmp j
      simp only [Array.getD_eq_getD_getElem?] at this ⊢
      rw [Array.getElem?_setIfInBounds_ne (fun x => e x.symm)]
      exact this
theorem ARel.ev {m : M} {nt : Nat} {s : S} {a : Act} (h : ARel m nt s a) {x : Operand} {y : AOpd} (hx : trOpd x = some y) : VRel m (y.ev s) (a.eval x) := by
  cases x with
  | tmp t => cases hx; exact h.tmp t
  | const v => obtain ⟨k, h1, rfl⟩ := Option.map_eq_some_iff.1 hx; exact trVal_rel h1
  | global g => cases hx; exact .gptr g
  | func f => cases hx; exact .func f .nil
theorem ARel.evs {m : M} {nt : Nat} {s : S} {a : Act} (h : ARel m nt s a) : ∀ {l : List Operand} {k : List AOpd}, trOpds l = some k → VRels m (k.map (·.ev s)) (l.map a.eval)
  | [], k, e => by cases e; exact .nil
  | x :: l, k, e => by
    simp only [trOpds] at e
    split at e
    · rename_i h1 h2; cases e; exact .cons (h.ev h1) (h.evs h2)
    · cases e

/-! ### what is shown of an operation -/
structure Done (P : Program) (B0 : Nat) (m : M) (h : H) (w : World) (v : AV) (h' : H) (m' : M) (w' : World) (v' : Value) : Prop where
  rel : Rel P B0 m' h' w'
  fr : Fr B0 m m' h h' w w'
  val : VRel m' v v'
def OpOK (P : Program) (B0 : Nat) (m : M) (h : H) (w : World) (v : AV) (h' : H) (n : Result Next) : Prop :=
  ∃ m' w' v', (n = .ok (.value v') w' ∨ (n = .ok .skip w' ∧ v' = undef)) ∧ Done P B0 m h w v h' m' w' v'
def SemOK (P : Program) (B0 : Nat) (m : M) (h : H) (w : World) (v : AV) (h' : H) (n : Result Value) : Prop :=
  ∃ m' w' v', n = .ok v' w' ∧ Done P B0 m h w v h' m' w' v'
theorem Done.same {P : Program} {B0 : Nat} {m : M} {h : H} {w : World} (r : Rel P B0 m h w) {v : AV} {v' : Value} (hv : VRel m v v') : Done P B0 m h w v h m w v' := ⟨r, Fr.refl _ _ _ _, hv⟩
theorem SemOK.same {P : Program} {B0 : Nat} {m : M} {h : H} {w : World} (r : Rel P B0 m h w) {v : AV} {v' : Value} (hv : VRel m v v') {n : Result Value} (e : n = .ok v' w) : SemOK P B0 m h w v h n := ⟨m, w, v', e, .same r hv⟩
theorem OpOK.same {P : Program} {B0 : Nat} {m : M} {h : H} {w : World} (r : Rel P B0 m h w) {v : AV} {v' : Value} (hv : VRel m v v') {n : Result Next} (e : n = .ok (.value v') w) : OpOK P B0 m h w v h n := ⟨m, w, v', .inl e, .same r hv⟩
theorem OpOK.of_sem {B0 : Nat} {P : Program} {m : M} {h h' : H} {w : World} {v : AV} {x : Sem Value} (k : SemOK P B0 m h w v h' (x.run P w)) :
    OpOK P B0 m h w v h' ((do let r ← x; Pure.pure (Next.value r) : Sem Next).run P w) := by
  obtain ⟨m', w', v', e, d⟩ := k
  exact ⟨m', w', v', .inl (by simp [e]), d⟩

section
variable {B0 : Nat} {P : Program} {m : M} {h h' : H} {w : World}

theorem run_isAgg {t : TypeId} {b : Bool} (h : aggOf P t = some b) (w : World) : (isAgg t).run P w = .ok b w := by
  unfold aggOf at h
  unfold isAgg
  cases hu : P.underlying t with
  | none => rw [hu] at h; cases h
  | some d =>
    rw [hu] at h
    simp only [Sem.run_bind, run_underlying hu, Result.andThen_ok]
    cases d <;> simp at h <;> subst h <;> rfl
theorem run_size {t : TypeId} {n : Nat} (h : sizeP P t = some n) (w : World) : (sizeOf t).run P w = .ok n w := by
  unfold sizeP at h
  obtain ⟨i, h1, rfl⟩ := Option.map_eq_some_iff.1 h
  simp [sizeOf, typeInfo, h1]
theorem isSize_eq {x : Option Nat} {n : Nat} (h : isSize x = some n) : x = some n ∧ n ≠ 0 := by
  unfold isSize at h
  split at h
  · cases h
  · rename_i hx; subst h; refine ⟨rfl, fun e => by subst e; exact hx rfl⟩
theorem zeroP_eq {t : TypeId} {z : List AV} (h : zeroP P t = some z) : ∃ (i : TypeInfo) (v : Value), P.info? t = some i ∧ i.zero = some v ∧ (∀ m : M, VRels m z v.cells.toList) := by
  unfold zeroP at h
  obtain ⟨v, h1, h2⟩ := Option.bind_eq_some_iff.1 h
  obtain ⟨i, h3, h4⟩ := Option.bind_eq_some_iff.1 h1
  obtain ⟨a, h5, rfl⟩ := Option.map_eq_some_iff.1 h2
  exact ⟨i, v, h3, h4, fun m => (trVal_rel h5).cells⟩
theorem run_zero {t : TypeId} {i : TypeInfo} {v : Value} (h1 : P.info? t = some i) (h2 : i.zero = some v) (w : World) : (zeroValue t).run P w = .ok v w := by
  simp [zeroValue, typeInfo, h1, h2]

theorem addr_add (b off n : Nat) : (⟨b, off, none⟩ : Addr).add n = ⟨b, off + n, none⟩ := by unfold Addr.add; split <;> simp_all
/-- the cells of a row from one on -/
theorem Rel.cells (r : Rel P B0 m h w) {o b base sz : Nat} {cs : List AV} (hr : h.row o = some cs) (hm : m o = some (b, base, sz)) (i n : Nat) (hl : i + n ≤ cs.length) :
    ∃ vs, VRels m ((cs.drop i).take n) vs ∧ vs.length = n ∧ ∀ j v, vs[j]? = some v → w.cell? ((⟨b, base + i, none⟩ : Addr).add j) = some v := by
  have hx : ∀ j, j < n → ∃ v, w.cell? ⟨b, base + i + j, none⟩ = some v ∧ ∀ a, ((cs.drop i).take n)[j]? = some a → VRel m a v := by
    intro j hj
    have hlt : i + j < cs.length := by omega
    obtain ⟨v, h1, h2⟩ := r.val hr hm (i + j) cs[i + j] (List.getElem?_eq_getElem hlt)
    refine ⟨v, by rw [show base + i + j = base + (i + j) from by omega]; exact h1, fun a ha => ?_⟩
    rw [List.getElem?_take, if_pos hj, List.getElem?_drop, List.getElem?_eq_getElem hlt] at ha
    cases ha; exact h2
  refine ⟨(List.range n).map fun j => (w.cell? ⟨b, base + i + j, none⟩).getD undef, ?_, by simp, ?_⟩
  · refine VRels.of_get (by simp; omega) fun j a ha => ?_
    have hj : j < n := by
      rcases Nat.lt_or_ge j n with hx | hx
      · exact hx
      · rw [List.getElem?_take, if_neg (by omega)] at ha; cases ha
    obtain ⟨v, h1, h2⟩ := hx j hj
    exact ⟨v, by simp [hj, h1], h2 a ha⟩
  · intro j v hv
    have hj : j < n := by
      rcases Nat.lt_or_ge j n with hx | hx
      · exact hx
      · rw [List.getElem?_eq_none (by simp; omega)] at hv; cases hv
    obtain ⟨u, h1, _⟩ := hx j hj
    simp [hj, h1] at hv
    rw [addr_add, h1, hv]
theorem run_cells (w : World) (a : Addr) (vs : List Value) (n : Nat) (hn : vs.length = n) (hc : ∀ j v, vs[j]? = some v → w.cell? (a.add j) = some v) : (loadCells a n).run P w = .ok ⟨vs⟩ w := by
  subst hn; exact run_loadCells_list w a vs hc

theorem sound_load (r : Rel P B0 m h w) {t : TypeId} {agg : Bool} {n : Nat} (ha : aggOf P t = some agg) (hn : sizeP P t = some n) {x : AV} {x' : Value} (hx : VRel m x x') {v : AV}
    (he : loadA h agg n x = some v) : SemOK P B0 m h w v h ((Instr.loadAt t x').run P w) ∧ ∃ a : Addr, x' = .pointer (some a) ∧ ∃ v', (loadVar t a).run P w = .ok v' w ∧ VRel m v v' := by
  cases hx with
  | @ptr o b base sz i hm =>
    simp only [loadA] at he
    cases hr : h.row o with
    | none => rw [hr] at he; cases he
    | some cs =>
      rw [hr] at he
      simp only at he
      cases agg with
      | true =>
        simp only [if_true] at he
        split at he
        · rename_i hl
          cases he
          obtain ⟨vs, h1, h2, h3⟩ := r.cells hr hm i n hl
          have hk : (loadVar t ⟨b, base + i, none⟩).run P w = .ok (.agg ⟨vs⟩) w := by simp [loadVar, run_isAgg ha, run_size hn, run_cells w _ vs n h2 h3]
          exact ⟨.same r (.agg h1) (by simp [Instr.loadAt, Instr.sureAddr, hk]), _, rfl, _, hk, .agg h1⟩
        · cases he
      | false =>
        simp only [Bool.false_eq_true, if_false] at he
        obtain ⟨u, h3, h4⟩ := r.val hr hm i v he
        have hk : (loadVar t ⟨b, base + i, none⟩).run P w = .ok u w := by simp [loadVar, run_isAgg ha, h3]
        exact ⟨.same r h4 (by simp [Instr.loadAt, Instr.sureAddr, hk]), _, rfl, _, hk, h4⟩
  | gptr g =>
    simp only [loadA] at he
    split at he
    case h_2 => cases he
    rename_i g' v0 hg
    split at he
    case isFalse => cases he
    rename_i hc
    obtain ⟨rfl, rfl⟩ := hc
    cases he
    obtain ⟨_, u, h3, h4⟩ := r.gb hg
    have hk : (loadVar t ⟨g', 0, none⟩).run P w = .ok u w := by simp [loadVar, run_isAgg ha, h3]
    exact ⟨.same r h4 (by simp [Instr.loadAt, Instr.sureAddr, hk]), _, rfl, _, hk, h4⟩
  | _ => cases he

theorem sound_store (r : Rel P B0 m h w) {t : TypeId} {n : Nat} (hn : sizeP P t = some n) {x v : AV} {x' v' : Value} (hx : VRel m x x') (hv : VRel m v v')
    (he : storeA h n x v = some h') :
    OpOK P B0 m h w undefA h' ((do Instr.storeAt t x' v'; Pure.pure Next.skip : Sem Next).run P w) := by
  cases hx with
  | @ptr o b base sz i hm =>
    simp only [storeA] at he
    split at he
    · rename_i hc
      have hcv := hv.cells
      obtain ⟨r', f', hi, hf⟩ := r.put he hm hcv
      have hlen := hcv.len
      have hst := run_storeCells_cells (P := P) b (base + i) v'.cells.toList 0 w (by simpa using hi) (by simpa using hf) (hcv.all_one hc.2)
      refine ⟨m, _, undef, .inr ⟨?_, rfl⟩, r', f', undef_rel⟩
      have hsz : v'.cells.size = n := by rw [← hc.1, hlen]; simp
      simp [Instr.storeAt, Instr.sureAddr, storeVar, run_size hn, hsz, hst]
    · cases he
  | _ => cases he

/-- what an operation that makes a new row does, whatever else is in memory -/
def MakeOK (m : M) (w : World) (k : Nat → AV) (vs : List AV) (fin : Value → World → Prop) : Prop :=
  ∃ (w0 : World) (CS : Array Value) (e : TypeId) (fr : Nat × Nat) (v' : Value), (w0 = w ∨ w0 = w.drew) ∧ fin v' (w0.alloc (.cells CS e fr)) ∧ (∀ (i : Nat) (a : AV), vs[i]? = some a → ∃ u, CS[i]? = some u ∧ VRel m a u) ∧
    vs.length ≤ CS.size ∧ (∀ i, i < CS.size → fr.1 = fr.2 ∨ i < fr.1) ∧ ∀ o, VRel (m.set o (w.heap.size, 0, CS.size)) (k o) v'
theorem MakeOK.mono {m : M} {w : World} {k : Nat → AV} {vs : List AV} {f g : Value → World → Prop} (q : MakeOK m w k vs f) (hfg : ∀ v w, f v w → g v w) : MakeOK m w k vs g := by
  obtain ⟨w0, CS, e, fr, v', h1, h2, h3⟩ := q
  exact ⟨w0, CS, e, fr, v', h1, hfg _ _ h2, h3⟩
theorem SemOK.of_make (r : Rel P B0 m h w) {k : Nat → AV} {vs : List AV} {n : Result Value} (q : MakeOK m w k vs (fun v' w' => n = .ok v' w')) : SemOK P B0 m h w (k h.n) (h.new vs) n := by
  obtain ⟨w0, CS, e, fr, v', h1, h2, h3, h4, h5, h6⟩ := q
  rcases h1 with rfl | rfl
  · obtain ⟨r', f'⟩ := r.new vs CS e fr h3 h4 h5
    exact ⟨_, _, _, h2, r', f', h6 h.n⟩
  · obtain ⟨r', f'⟩ := r.drew.new vs CS e fr h3 h4 h5
    exact ⟨_, _, _, h2, r', (Fr.drew m h w).trans f', h6 h.n⟩
theorem make_new (m : M) (w : World) (e : TypeId) {vs : List AV} {cs : Array Value} (hv : VRels m vs cs.toList) (k : Nat → AV) (kv : Nat → Value)
    (hk : ∀ o, VRel (m.set o (w.heap.size, 0, cs.size)) (k o) (kv w.heap.size)) : MakeOK m w k vs (fun v' w' => (do let a ← newRow e cs; Pure.pure (kv a.block) : Sem Value).run P w = .ok v' w') := by
  have hl := hv.len
  refine ⟨w, cs, e, (0, 0), _, .inl rfl, ?_, fun i a hi => by obtain ⟨v, h1, h2⟩ := hv.get i a hi; exact ⟨v, by simpa using h1, h2⟩, by simp at hl; omega, fun _ _ => .inl rfl, hk⟩
  simp [newRow]
theorem VRel.new_ptr (m : M) (o : Nat) (b base sz : Nat) : VRel (m.set o (b, 0, sz)) (.ptr o 0) (.pointer (some ⟨b, 0, none⟩)) := by
  have := VRel.ptr (m := m.set o (b, 0, sz)) (o := o) (b := b) (base := 0) (sz := sz) 0 (by unfold M.set; rw [if_pos rfl])
  simpa using this
theorem VRel.new_slice (m : M) (o : Nat) (b sz len es cap : Nat) (h1 : len ≤ cap) (h2 : cap * es ≤ sz) : VRel (m.set o (b, 0, sz)) (.slice o 0 len es) (.slice (some ⟨b, 0, none⟩) len cap) := by
  have := VRel.slice (m := m.set o (b, 0, sz)) (o := o) (b := b) (base := 0) (sz := sz) 0 len es cap (by unfold M.set; rw [if_pos rfl]) h1 (by simpa using h2)
  simpa using this
end
end Go.Proofs.YtlbaphapjclkdaaGreatDoor.Ev

/- Cells of whole numbers, texts and bools, in structs and arrays to whatever depth: held against each other. -/
namespace Go.Proofs.YtlbaphapjclkdaaGreatDoor.Ev
set_option linter.unusedVariables false
set_option linter.unusedSimpArgs false
section
variable {P : Program}
theorem run_equalIn_str (w : World) (d : Nat) (t : TypeId) (p q : ByteArray) (h : P.underlying t = some .string) : (Op.equalIn (d + 1) t (.string p) (.string q)).run P w = .ok (p == q) w := by
  unfold Op.equalIn; simp only [Sem.run_bind, run_underlying h, Result.andThen_ok]; rfl
theorem run_equalIn_bool (w : World) (d : Nat) (t : TypeId) (p q : Bool) (h : P.underlying t = some .bool) : (Op.equalIn (d + 1) t (.bool p) (.bool q)).run P w = .ok (p == q) w := by
  unfold Op.equalIn; simp only [Sem.run_bind, run_underlying h, Result.andThen_ok]; rfl
theorem bytes_beq (a b : List UInt8) : ((⟨⟨a⟩⟩ : ByteArray) == ⟨⟨b⟩⟩) = (a == b) := by
  show ((⟨a⟩ : Array UInt8) == ⟨b⟩) = _
  simp
end
section
variable {P : Program} {m : M} {w : World}
theorem flatKTy_of {t : TypeId} {ks : List FK} (h : flatKTy P t = some ks) : fksD P 64 t = some ks ∧ P.eqGuardType P.depth t = false := by
  unfold flatKTy at h
  split at h
  case isFalse => cases h
  rename_i hc
  exact ⟨h, by simpa using hc⟩
theorem flatEqK_split : ∀ {k1 k2 : List FK} {x y : List AV} {b : Bool}, flatEqK (k1 ++ k2) x y = some b → ∃ b1 b2, flatEqK k1 (x.take k1.length) (y.take k1.length) = some b1 ∧ flatEqK k2 (x.drop k1.length) (y.drop k1.length) = some b2 ∧ b = (b1 && b2)
  | [], k2, x, y, b, h => ⟨true, b, by simp [flatEqK], by simpa using h, by simp⟩
  | k :: k1, k2, [], y, b, h => by cases k <;> cases y <;> simp [flatEqK] at h
  | k :: k1, k2, a :: x, [], b, h => by cases k <;> cases a <;> simp [flatEqK] at h
  | k :: k1, k2, a :: x, c :: y, b, h => by
    simp only [List.cons_append] at h
    cases k <;> cases a <;> cases c <;> simp only [flatEqK] at h <;> (try (cases h; done))
    · split at h
      case isFalse => cases h
      rename_i e
      obtain ⟨r, hr, hb⟩ := Option.map_eq_some_iff.1 h
      obtain ⟨b1, b2, h1, h2, rfl⟩ := flatEqK_split hr
      exact ⟨_, b2, (by simp only [List.length_cons, List.take_succ_cons, flatEqK, if_pos e, h1, Option.map_some]; rfl), by simpa using h2, by rw [← hb, Bool.and_assoc]⟩
    · obtain ⟨r, hr, hb⟩ := Option.map_eq_some_iff.1 h
      obtain ⟨b1, b2, h1, h2, rfl⟩ := flatEqK_split hr
      exact ⟨_, b2, (by simp only [List.length_cons, List.take_succ_cons, flatEqK, h1, Option.map_some]; rfl), by simpa using h2, by rw [← hb, Bool.and_assoc]⟩
    · obtain ⟨r, hr, hb⟩ := Option.map_eq_some_iff.1 h
      obtain ⟨b1, b2, h1, h2, rfl⟩ := flatEqK_split hr
      exact ⟨_, b2, (by simp only [List.length_cons, List.take_succ_cons, flatEqK, h1, Option.map_some]; rfl), by simpa using h2, by rw [← hb, Bool.and_assoc]⟩
theorem flatEqK_len : ∀ {ks : List FK} {x y : List AV} {b : Bool}, flatEqK ks x y = some b → x.length = ks.length ∧ y.length = ks.length
  | [], [], [], _, _ => ⟨rfl, rfl⟩
  | [], a :: x, y, b, h => by cases y <;> simp [flatEqK] at h
  | [], [], c :: y, b, h => by simp [flatEqK] at h
  | k :: ks, [], y, b, h => by cases k <;> cases y <;> simp [flatEqK] at h
  | k :: ks, a :: x, [], b, h => by cases k <;> cases a <;> simp [flatEqK] at h
  | k :: ks, a :: x, c :: y, b, h => by
    have : ∃ r, flatEqK ks x y = some r := by
      cases k <;> cases a <;> cases c <;> simp only [flatEqK] at h <;> (try (cases h; done))
      · split at h
        case isFalse => cases h
        obtain ⟨r, hr, _⟩ := Option.map_eq_some_iff.1 h; exact ⟨r, hr⟩
      · obtain ⟨r, hr, _⟩ := Option.map_eq_some_iff.1 h; exact ⟨r, hr⟩
      · obtain ⟨r, hr, _⟩ := Option.map_eq_some_iff.1 h; exact ⟨r, hr⟩
    obtain ⟨r, hr⟩ := this
    have := flatEqK_len hr
    simp [this.1, this.2]
theorem VRels.takeN : ∀ {x : List AV} {X : List Value} (n : Nat), VRels m x X → VRels m (x.take n) (X.take n)
  | _, _, 0, _ => .nil
  | _, _, n + 1, .nil => .nil
  | _, _, n + 1, .cons h t => .cons h (VRels.takeN n t)
theorem VRels.dropN : ∀ {x : List AV} {X : List Value} (n : Nat), VRels m x X → VRels m (x.drop n) (X.drop n)
  | _, _, 0, h => h
  | _, _, n + 1, .nil => .nil
  | _, _, n + 1, .cons h t => VRels.dropN n t
/-- a value of a type, and its cells -/
def CellsV (P : Program) (t : TypeId) (v : Value) (L : List Value) : Prop := (aggOf P t = some true ∧ v = .agg ⟨L⟩) ∨ (aggOf P t = some false ∧ L = [v])
theorem fksD_agg {d : Nat} {t : TypeId} {ks : List FK} (h : fksD P d t = some ks) : (aggOf P t = some true) ∨ (aggOf P t = some false ∧ ks.length = 1) := by
  cases d with
  | zero => cases h
  | succ d =>
    simp only [fksD] at h
    unfold aggOf
    split at h
    · rename_i hu; cases h; right; rw [hu]; exact ⟨rfl, rfl⟩
    · rename_i hu; cases h; right; rw [hu]; exact ⟨rfl, rfl⟩
    · rename_i hu; cases h; right; rw [hu]; exact ⟨rfl, rfl⟩
    · rename_i hu; left; rw [hu]
    · rename_i hu; left; rw [hu]
    · cases h
theorem run_part_cells {d : Nat} {t : TypeId} {ks : List FK} (h : fksD P d t = some ks) (hs : sizeP P t = some ks.length) {X : List Value} {off : Nat} (hl : off + ks.length ≤ X.length) :
    ∃ v, (part t ⟨X⟩ off).run P w = .ok v w ∧ CellsV P t v ((X.drop off).take ks.length) := by
  obtain ⟨i, hi, his⟩ := Option.map_eq_some_iff.1 hs
  rcases fksD_agg h with ha | ⟨ha, h1⟩
  · refine ⟨.agg ((⟨X⟩ : Array Value).extract off (off + ks.length)), ?_, .inl ⟨ha, ?_⟩⟩
    · have hc : P.cellsOf t = ks.length := by unfold Program.cellsOf; rw [hi]; exact his
      simp [part, run_isAgg ha, run_sizeOf w hi, hc]
    · congr 1
      apply Array.ext'
      simp [Array.toList_extract, List.extract]
  · rw [h1] at hl ⊢
    have hx : (X.drop off).take 1 = [X[off]'(by omega)] := by rw [List.drop_eq_getElem_cons (by omega)]; rfl
    refine ⟨X[off]'(by omega), ?_, .inr ⟨ha, hx⟩⟩
    have : (⟨X⟩ : Array Value)[off]? = some (X[off]'(by omega)) := by simp
    simp [part, run_isAgg ha, this]
/-- two values whose cells are held against each other -/
def EqOK (P : Program) (D : Nat) (t : TypeId) (ks : List FK) : Prop :=
  ∀ (m : M) (w : World) (x y : List AV) (X Y : List Value) (b : Bool) (v u : Value), VRels m x X → VRels m y Y → flatEqK ks x y = some b → CellsV P t v X → CellsV P t u Y → (Op.equalIn D t v u).run P w = .ok b w
theorem VRels.lenN {x : List AV} {X : List Value} (h : VRels m x X) : X.length = x.length := (VRels.len h).symm
theorem eqFields_deep {d D : Nat} (IH : ∀ t ks, fksD P d t = some ks → EqOK P D t ks) {X Y : List Value} : ∀ (fs : List Field) (off : Nat) (ks : List FK) (x y : List AV) (b : Bool), VRels m x (X.drop off) → VRels m y (Y.drop off) → flatEqK ks x y = some b →
    fsD (fksD P d) P off fs = some ks → (Op.eqFields D ⟨X⟩ ⟨Y⟩ fs).run P w = .ok b w
  | [], off, ks, x, y, b, _, _, he, hf => by
    cases hf
    cases x <;> cases y <;> simp only [flatEqK] at he <;> (cases he)
    rfl
  | f :: fs, off, ks, x, y, b, vx, vy, he, hf => by
    simp only [fsD] at hf
    split at hf
    case isFalse => cases hf
    rename_i hc
    simp only [Bool.and_eq_true, bne_iff_ne, ne_eq, beq_iff_eq] at hc
    obtain ⟨hn, ho⟩ := hc
    split at hf
    case h_2 => cases hf
    rename_i k1 hk1
    split at hf
    case isFalse => cases hf
    rename_i hs
    obtain ⟨k2, hk2, rfl⟩ := Option.map_eq_some_iff.1 hf
    obtain ⟨lx, ly⟩ := flatEqK_len he
    obtain ⟨b1, b2, h1, h2, rfl⟩ := flatEqK_split he
    have hX := VRels.lenN vx
    have hY := VRels.lenN vy
    simp only [List.length_drop, List.length_append] at hX hY lx ly
    obtain ⟨hs, hz⟩ := hs
    obtain ⟨v, p1, c1⟩ := run_part_cells (w := w) hk1 hs (X := X) (off := off) (by omega)
    obtain ⟨u, p2, c2⟩ := run_part_cells (w := w) hk1 hs (X := Y) (off := off) (by omega)
    have e1 := IH f.type k1 hk1 m w _ _ _ _ b1 v u (VRels.takeN k1.length vx) (VRels.takeN k1.length vy) h1 c1 c2
    have ih := eqFields_deep IH fs (off + k1.length) k2 _ _ b2 (by have := VRels.dropN k1.length vx; rwa [List.drop_drop] at this) (by have := VRels.dropN k1.length vy; rwa [List.drop_drop] at this) h2 hk2
    unfold Op.eqFields
    rw [if_pos hn]
    rw [← ho] at p1 p2
    simp only [Sem.run_bind, p1, p2, Result.andThen_ok, e1]
    cases b1 with
    | true => simpa using ih
    | false => rfl
theorem eqItems_deep {D : Nat} {e : TypeId} {k1 : List FK} {d : Nat} (hk1 : fksD P d e = some k1) (hs : sizeP P e = some k1.length) (hz : k1.length ≠ 0) (IH : EqOK P D e k1) {X Y : List Value} : ∀ (k i : Nat) (x y : List AV) (b : Bool), VRels m x (X.drop (i * k1.length)) → VRels m y (Y.drop (i * k1.length)) →
    flatEqK (List.replicate k k1).flatten x y = some b → (Op.eqItems D e k1.length ⟨X⟩ ⟨Y⟩ (List.range' i k)).run P w = .ok b w
  | 0, i, x, y, b, vx, vy, he => by
    cases x <;> cases y <;> simp [flatEqK] at he
    subst he; rfl
  | k + 1, i, x, y, b, vx, vy, he => by
    simp only [List.replicate_succ, List.flatten_cons] at he
    obtain ⟨lx, ly⟩ := flatEqK_len he
    obtain ⟨b1, b2, h1, h2, rfl⟩ := flatEqK_split he
    have hX := VRels.lenN vx
    have hY := VRels.lenN vy
    simp only [List.length_drop, List.length_append] at hX hY lx ly
    obtain ⟨v, p1, c1⟩ := run_part_cells (w := w) hk1 hs (X := X) (off := i * k1.length) (by omega)
    obtain ⟨u, p2, c2⟩ := run_part_cells (w := w) hk1 hs (X := Y) (off := i * k1.length) (by omega)
    have e1 := IH m w _ _ _ _ b1 v u (VRels.takeN k1.length vx) (VRels.takeN k1.length vy) h1 c1 c2
    have hi : i * k1.length + k1.length = (i + 1) * k1.length := by rw [Nat.add_mul, Nat.one_mul]
    have ih := eqItems_deep hk1 hs hz IH (X := X) (Y := Y) k (i + 1) _ _ b2 (by have := VRels.dropN k1.length vx; rwa [List.drop_drop, hi] at this) (by have := VRels.dropN k1.length vy; rwa [List.drop_drop, hi] at this) h2
    simp only [List.range'_succ, Op.eqItems, Sem.run_bind, p1, p2, Result.andThen_ok, e1]
    cases b1 with
    | true => simpa using ih
    | false => rfl
theorem equalIn_deep : ∀ (d : Nat) (t : TypeId) (ks : List FK), fksD P d t = some ks → ∀ D, d ≤ D → EqOK P D t ks
  | 0, t, ks, h, _, _ => by cases h
  | d + 1, t, ks, h, D, hD => by
    intro m w x y X Y b v u vx vy he cv cu
    obtain ⟨D, rfl⟩ : ∃ D', D = D' + 1 := ⟨D - 1, by omega⟩
    have hD' : d ≤ D := by omega
    simp only [fksD] at h
    have one : ∀ {fk : FK}, ks = [fk] → aggOf P t = some false → ∃ a c, x = [a] ∧ y = [c] ∧ VRel m a v ∧ VRel m c u ∧ flatEqK [fk] [a] [c] = some b := by
      intro fk hks hag
      subst hks
      rcases cv with ⟨h1, _⟩ | ⟨_, rfl⟩
      · rw [hag] at h1; cases h1
      rcases cu with ⟨h1, _⟩ | ⟨_, rfl⟩
      · rw [hag] at h1; cases h1
      cases vx with
      | cons ra ta => cases ta; cases vy with
        | cons rc tc => cases tc; exact ⟨_, _, rfl, rfl, ra, rc, he⟩
    have agg : aggOf P t = some true → v = .agg ⟨X⟩ ∧ u = .agg ⟨Y⟩ := by
      intro hag
      rcases cv with ⟨_, rfl⟩ | ⟨h1, _⟩
      · rcases cu with ⟨_, rfl⟩ | ⟨h1, _⟩
        · exact ⟨rfl, rfl⟩
        · rw [hag] at h1; cases h1
      · rw [hag] at h1; cases h1
    split at h
    · rename_i ki hu
      cases h
      obtain ⟨a, c, rfl, rfl, ra, rc, hq⟩ := one rfl (by unfold aggOf; rw [hu])
      cases a <;> cases c <;> simp only [flatEqK] at hq <;> (try (cases hq; done))
      split at hq
      case isFalse => cases hq
      rename_i ek; subst ek
      cases ra; cases rc
      rw [run_equalIn_int w D t _ ki _ _ hu]
      simp only [Option.map_some, Bool.and_true, Option.some.injEq] at hq
      rw [hq]
    · rename_i hu
      cases h
      obtain ⟨a, c, rfl, rfl, ra, rc, hq⟩ := one rfl (by unfold aggOf; rw [hu])
      cases a <;> cases c <;> simp only [flatEqK] at hq <;> (try (cases hq; done))
      cases ra; cases rc
      rw [run_equalIn_str w D t _ _ hu, bytes_beq]
      simpa using hq
    · rename_i hu
      cases h
      obtain ⟨a, c, rfl, rfl, ra, rc, hq⟩ := one rfl (by unfold aggOf; rw [hu])
      cases a <;> cases c <;> simp only [flatEqK] at hq <;> (try (cases hq; done))
      cases ra; cases rc
      rw [run_equalIn_bool w D t _ _ hu]
      simpa using hq
    · rename_i fs hu
      split at h
      case isTrue => cases h
      rename_i hp
      obtain ⟨rfl, rfl⟩ := agg (by unfold aggOf; rw [hu])
      have hfo : P.fieldsOf t = fs := by unfold Program.fieldsOf; rw [hu]
      rw [run_equalIn_struct w D t _ _ (by rw [hfo]; exact hu) (by simpa using hp), hfo]
      exact eqFields_deep (fun t ks h => equalIn_deep d t ks h D hD') fs.toList 0 ks x y b vx vy he h
    · rename_i n e hu
      split at h
      case h_2 => cases h
      rename_i k1 hk1
      split at h
      case isFalse => cases h
      rename_i hs
      cases h
      obtain ⟨rfl, rfl⟩ := agg (by unfold aggOf; rw [hu])
      obtain ⟨i, hi, his⟩ := Option.map_eq_some_iff.1 hs.1
      have hc : P.cellsOf e = k1.length := by unfold Program.cellsOf; rw [hi]; exact his
      rw [run_equalIn_array w D ⟨X⟩ ⟨Y⟩ hu hi, hc, List.range_eq_range']
      exact eqItems_deep hk1 hs.1 hs.2 (equalIn_deep d e k1 hk1 D hD') n 0 x y b (by simpa using vx) (by simpa using vy) he
    · cases h
theorem run_checkKey_fk' {t : TypeId} {ki : IntKind} (hu : P.underlying t = some (.int ki)) {a c : AV} {v : Value} {b : Bool} (ha : VRel m a v) (hk : flatEqK [.i] [a] [c] = some b) (em : Bool) (n : Nat) : (Instr.checkKey em (n + 1) t v).run P w = .ok () w := by
  cases a <;> cases c <;> simp only [flatEqK] at hk <;> (try (cases hk; done))
  cases ha
  unfold Instr.checkKey
  simp [run_underlying hu]
/-- values whose cells may be held against others: they may be keys -/
def CkOK (P : Program) (em : Bool) (D : Nat) (t : TypeId) (ks : List FK) : Prop :=
  ∀ (m : M) (w : World) (x y : List AV) (X : List Value) (b : Bool) (v : Value), VRels m x X → flatEqK ks x y = some b → CellsV P t v X → (Instr.checkKey em D t v).run P w = .ok () w
theorem checkKey_deep (em : Bool) : ∀ (d : Nat) (t : TypeId) (ks : List FK), fksD P d t = some ks → ∀ D, d ≤ D → CkOK P em D t ks
  | 0, t, ks, h, _, _ => by cases h
  | d + 1, t, ks, h, D, hD => by
    intro m w x y X b v vx he cv
    obtain ⟨D, rfl⟩ : ∃ D', D = D' + 1 := ⟨D - 1, by omega⟩
    have hD' : d ≤ D := by omega
    simp only [fksD] at h
    have agg : aggOf P t = some true → v = .agg ⟨X⟩ := by
      intro hag
      rcases cv with ⟨_, rfl⟩ | ⟨h1, _⟩
      · rfl
      · rw [hag] at h1; cases h1
    have one : ∀ {fk : FK}, ks = [fk] → aggOf P t = some false → ∃ a c, VRel m a v ∧ flatEqK [fk] [a] [c] = some b := by
      intro fk hks hag
      subst hks
      rcases cv with ⟨h1, _⟩ | ⟨_, rfl⟩
      · rw [hag] at h1; cases h1
      obtain ⟨lx, ly⟩ := flatEqK_len he
      cases vx with
      | cons ra ta =>
        cases ta
        cases y with
        | nil => simp at ly
        | cons c y => cases y with
          | nil => exact ⟨_, _, ra, he⟩
          | cons _ _ => simp at ly
    split at h
    · rename_i ki hu
      cases h
      obtain ⟨a, c, ra, hq⟩ := one rfl (by unfold aggOf; rw [hu])
      exact run_checkKey_fk' hu ra hq em D
    · rename_i hu
      cases h
      obtain ⟨a, c, ra, hq⟩ := one rfl (by unfold aggOf; rw [hu])
      cases a <;> cases c <;> simp only [flatEqK] at hq <;> (try (cases hq; done))
      cases ra
      unfold Instr.checkKey
      simp [run_underlying hu]
    · rename_i hu
      cases h
      obtain ⟨a, c, ra, hq⟩ := one rfl (by unfold aggOf; rw [hu])
      cases a <;> cases c <;> simp only [flatEqK] at hq <;> (try (cases hq; done))
      cases ra
      unfold Instr.checkKey
      simp [run_underlying hu]
    · rename_i fs hu
      split at h
      case isTrue => cases h
      obtain rfl := agg (by unfold aggOf; rw [hu])
      unfold Instr.checkKey
      simp only [Sem.run_bind, run_underlying hu, Result.andThen_ok]
      rw [← Array.forIn_toList]
      have vx0 : VRels m x (X.drop 0) := vx
      clear vx agg one cv
      generalize fs.toList = L at h
      generalize 0 = off at h vx0
      induction L generalizing off ks x y b with
      | nil => rfl
      | cons f L ih =>
        simp only [fsD] at h
        split at h
        case isFalse => cases h
        rename_i hc
        simp only [Bool.and_eq_true, bne_iff_ne, ne_eq, beq_iff_eq] at hc
        obtain ⟨hn, ho⟩ := hc
        split at h
        case h_2 => cases h
        rename_i k1 hk1
        split at h
        case isFalse => cases h
        rename_i hs
        obtain ⟨k2, hk2, rfl⟩ := Option.map_eq_some_iff.1 h
        obtain ⟨lx, ly⟩ := flatEqK_len he
        obtain ⟨b1, b2, h1, h2, rfl⟩ := flatEqK_split he
        have hX := VRels.lenN vx0
        simp only [List.length_drop, List.length_append] at hX lx ly
        obtain ⟨hs, hz⟩ := hs
        obtain ⟨v, p1, c1⟩ := run_part_cells (w := w) hk1 hs (X := X) (off := off) (by omega)
        have p2 := checkKey_deep em d f.type k1 hk1 D hD' m w _ _ _ b1 v (VRels.takeN k1.length vx0) h1 c1
        rw [← ho] at p1
        simp only [List.forIn_cons, Sem.run_bind, hn, ne_eq, not_false_eq_true, if_true, Result.andThen_ok, p1, p2, Sem.run_pure]
        exact ih k2 _ _ b2 h2 (off + k1.length) hk2 (by have := VRels.dropN k1.length vx0; rwa [List.drop_drop] at this)
    · rename_i n e hu
      split at h
      case h_2 => cases h
      rename_i k1 hk1
      split at h
      case isFalse => cases h
      rename_i hs
      cases h
      obtain rfl := agg (by unfold aggOf; rw [hu])
      obtain ⟨hs, hz⟩ := hs
      obtain ⟨inf, hi, his⟩ := Option.map_eq_some_iff.1 hs
      have hc : P.cellsOf e = k1.length := by unfold Program.cellsOf; rw [hi]; exact his
      unfold Instr.checkKey
      simp only [Sem.run_bind, run_underlying hu, Result.andThen_ok]
      simp only [Std.Legacy.Range.forIn_eq_forIn_range', Std.Legacy.Range.size, Nat.sub_zero, Nat.add_one_sub_one, Nat.div_one]
      have vx0 : VRels m x (X.drop (0 * k1.length)) := by simpa using vx
      clear vx agg one cv hu
      generalize 0 = i at vx0
      induction n generalizing i x y b with
      | zero => rfl
      | succ n ih =>
        simp only [List.replicate_succ, List.flatten_cons] at he
        obtain ⟨lx, ly⟩ := flatEqK_len he
        obtain ⟨b1, b2, h1, h2, rfl⟩ := flatEqK_split he
        have hX := VRels.lenN vx0
        simp only [List.length_drop, List.length_append] at hX lx ly
        obtain ⟨v, p1, c1⟩ := run_part_cells (w := w) hk1 hs (X := X) (off := i * k1.length) (by omega)
        have p2 := checkKey_deep em d e k1 hk1 D hD' m w _ _ _ b1 v (VRels.takeN k1.length vx0) h1 c1
        rw [← hc] at p1
        have hii : i * k1.length + k1.length = (i + 1) * k1.length := by rw [Nat.add_mul, Nat.one_mul]
        simp only [List.range'_succ, List.forIn_cons, Sem.run_bind, run_sizeOf w hi, Result.andThen_ok, p1, p2, Sem.run_pure]
        exact ih _ _ b2 h2 (i + 1) (by have := VRels.dropN k1.length vx0; rwa [List.drop_drop, hii] at this)
    · cases h
end
end Go.Proofs.YtlbaphapjclkdaaGreatDoor.Ev
