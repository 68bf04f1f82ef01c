/- Levels of edges, in plain words. -/
import Derived.Test.YtaahagjaldgmoaaDoorTBase
namespace Go.Proofs.YtaahagjaldgmoaaDoor.Ev.C
set_option linter.unusedVariables false
/-- an edge: from, to, with a Not? -/
abbrev Ed := Int × Int × Bool
def wt (b : Bool) : Nat := if b then 1 else 0
/-- an edge leads out of the places -/
def off (n : Int) (e : Ed) : Bool := decide (e.1 < 0) || decide (n ≤ e.1) || decide (e.2.1 < 0) || decide (n ≤ e.2.1)
def Bad (n : Int) (l : List Ed) : Prop := ∃ e ∈ l, off n e = true
/-- levels that are as edges ask -/
def Sol (l : List Ed) (g : Nat → Nat) : Prop := ∀ e ∈ l, g e.2.1.toNat + wt e.2.2 ≤ g e.1.toNat
def lv (f : List Nat) (i : Nat) : Nat := f.getD i 0
structure Least (k : Nat) (l : List Ed) (f : List Nat) : Prop where
  len : f.length = k
  sol : Sol l (lv f)
  least : ∀ g, Sol l g → ∀ i, lv f i ≤ g i
  le : ∀ i, lv f i ≤ k
/-- no levels so low -/
def NoSol (k : Nat) (l : List Ed) : Prop := ∀ g, Sol l g → ∃ i, k < g i
theorem off_in {n : Nat} {e : Ed} (h : off (n : Int) e = false) : ∃ (a b : Nat) (w : Bool), e = ((a : Int), (b : Int), w) ∧ a < n ∧ b < n := by
  obtain ⟨a, b, w⟩ := e
  simp only [off, Bool.or_eq_false_iff, decide_eq_false_iff_not] at h
  refine ⟨a.toNat, b.toNat, w, ?_, by omega, by omega⟩
  simp only [Prod.mk.injEq, and_true]
  exact ⟨by omega, by omega⟩
theorem not_bad {n : Int} {l : List Ed} (h : ¬ Bad n l) : ∀ e ∈ l, off n e = false := by
  intro e he
  cases ho : off n e
  · rfl
  · exact absurd ⟨e, he, ho⟩ h
theorem lv_set {f : List Nat} {i v j : Nat} (hi : i < f.length) : lv (f.set i v) j = if j = i then v else lv f j := by
  unfold lv
  by_cases h : j = i
  · subst h
    rw [if_pos rfl, List.getD_eq_getElem?_getD, List.getElem?_set_self hi]; rfl
  · rw [if_neg h, List.getD_eq_getElem?_getD, List.getElem?_set_ne (by omega), List.getD_eq_getElem?_getD]
theorem lv_get {f : List Nat} {i : Nat} (hi : i < f.length) : f[i] = lv f i := by
  unfold lv; rw [List.getD_eq_getElem?_getD, List.getElem?_eq_getElem hi]; rfl
theorem sum_set : ∀ {f : List Nat} {i v : Nat} (hi : i < f.length), (f.set i v).sum + f[i] = f.sum + v
  | a :: r, 0, v, _ => by simp; omega
  | a :: r, i + 1, v, hi => by
    have := sum_set (f := r) (i := i) (v := v) (by simpa using hi)
    simp; omega
theorem sum_le : ∀ {f : List Nat} {k : Nat}, (∀ i, lv f i ≤ k) → f.sum ≤ f.length * k
  | [], k, _ => by simp
  | a :: r, k, h => by
    have h0 : a ≤ k := h 0
    have h1 := sum_le (f := r) (k := k) fun i => h (i + 1)
    simp only [List.sum_cons, List.length_cons, Nat.add_mul, Nat.one_mul]
    omega
end Go.Proofs.YtaahagjaldgmoaaDoor.Ev.C

/- Edges in memory; an edge that leads out. -/
namespace Go.Proofs.YtaahagjaldgmoaaDoor.Ev.C
open Go Go.Proofs.YtaahagjaldgmoaaDoor.Ev
set_option linter.unusedSimpArgs false
set_option linter.unusedVariables false
def edC (e : Ed) : List AV := [intC e.1, intC e.2.1, .bool e.2.2]
abbrev Eds (h : H) (v : AV) (l : List Ed) : Prop := Sl h 3 v l.length (l.flatMap edC)
theorem Eds.at {h : H} {v : AV} {l : List Ed} (b : Eds h v l) {i : Nat} (hi : i < l.length) :
    ∃ o j, indexAddrA 3 v (.int .i64 (i : Int)) = some (.ptr o j) ∧ loadA h false 1 (.ptr o (j + 0)) = some (intC l[i].1) ∧ loadA h false 1 (.ptr o (j + 1)) = some (intC l[i].2.1) ∧ loadA h false 1 (.ptr o (j + 2)) = some (.bool l[i].2.2) ∧
      loadA h true 3 (.ptr o j) = some (.agg (edC l[i])) := by
  obtain ⟨o, j, e, h1, h2⟩ := Sl.elem b (fun x _ => rfl) hi (by decide) .i64
  exact ⟨o, j, e, h1 0 (by decide), h1 1 (by decide), h1 2 (by decide), h2⟩
theorem off_spec {E : Env} (he : Std E) {e : Ed} {n : Int} {o i : Nat} {h : H} (hn : loadA h false 1 (.ptr o i) = some (intC n)) (wf : h.Wf) (ho : Slot (Old h.n) h (.ptr o i)) :
    WCall E n_strata_Levels_1 [.agg (edC e), .ptr o i] h fun r h' => Keep (Old h.n) h h' ∧ r = .val (.bool (off n e)) := by
  have hb := Box.new wf (edC e)
  have hk : Keep (Old h.n) h (h.new (edC e)) := Keep.new (Nat.le_refl _) _
  have hn' : loadA (h.new (edC e)) false 1 (.ptr o i) = some (intC n) := by
    have := row_keep hk ho.1 ho.2
    simp only [loadA, this] at hn ⊢
    exact hn
  have l0 : loadA (h.new (edC e)) false 1 (.ptr h.n 0) = some (intC e.1) := hb.load 1 0
  have l1 : loadA (h.new (edC e)) false 1 (.ptr h.n 1) = some (intC e.2.1) := hb.load 1 1
  refine WCall_ws (he.ov _ rfl) (he.tT T_strata_Levels_1) (by simp [strata_Levels_1_a]) ?_
  refine WS_of_seq (WS_of_ops ?_)
  simp only [strata_Levels_1_r0, go_sem, ↓reduceIte, Nat.reduceEqDiff, enterS, List.getD_cons_zero, List.getD_cons_succ, AV.cells]
  refine WS_of_seq (WS_of_ops ?_)
  simp only [strata_Levels_1_r1, go_sem, ↓reduceIte, Nat.reduceEqDiff, enterS, List.getD_cons_zero, List.getD_cons_succ, l0, l1, hn', wanted, beq_self_eq_true, fieldAddrA, Nat.zero_add]
  by_cases h1 : e.1 < 0
  · simp only [h1, decide_true, go_sem, ↓reduceIte, Nat.reduceEqDiff, beq_self_eq_true, wanted, show (true == false) = false from rfl, Bool.false_eq_true, pickA]
    refine WS_of_ret ?_
    simp only [go_sem, strata_Levels_1_a, ↓reduceIte, Nat.reduceEqDiff]
    exact ⟨hk, by simp [off, h1]⟩
  simp only [h1, decide_false, go_sem, ↓reduceIte, Nat.reduceEqDiff, beq_self_eq_true, wanted, pickA, l0, hn']
  by_cases h2 : n ≤ e.1
  · simp only [h2, decide_true, go_sem, ↓reduceIte, Nat.reduceEqDiff, beq_self_eq_true, wanted, show (true == false) = false from rfl, Bool.false_eq_true, pickA]
    refine WS_of_ret ?_
    simp only [go_sem, strata_Levels_1_a, ↓reduceIte, Nat.reduceEqDiff]
    exact ⟨hk, by simp [off, h2]⟩
  simp only [h2, decide_false, go_sem, ↓reduceIte, Nat.reduceEqDiff, beq_self_eq_true, wanted, pickA, l1, fieldAddrA, Nat.zero_add, Bool.false_eq_true]
  by_cases h3 : e.2.1 < 0
  · simp only [h3, decide_true, go_sem, ↓reduceIte, Nat.reduceEqDiff, beq_self_eq_true, wanted, show (true == false) = false from rfl, Bool.false_eq_true, pickA]
    refine WS_of_ret ?_
    simp only [go_sem, strata_Levels_1_a, ↓reduceIte, Nat.reduceEqDiff]
    exact ⟨hk, by simp [off, h3]⟩
  simp only [h3, decide_false, go_sem, ↓reduceIte, Nat.reduceEqDiff, beq_self_eq_true, wanted, pickA, l1, hn', fieldAddrA, Nat.zero_add, Bool.false_eq_true]
  refine WS_of_ret ?_
  simp only [go_sem, strata_Levels_1_a, ↓reduceIte, Nat.reduceEqDiff]
  exact ⟨hk, by simp [off, h1, h2, h3]⟩
theorem index_off_spec {E : Env} (he : Std E) {v : AV} {l : List Ed} {n : Int} {o i : Nat} {h : H} (b : Eds h v l) (bs : Slot (Old h.n) h v) (hl : l.length < 4611686018427387904) (hn : loadA h false 1 (.ptr o i) = some (intC n)) (wf : h.Wf) (ho : Slot (Old h.n) h (.ptr o i)) :
    WCall E n_slices_IndexFunc_strata_Edge_strata_Edge [v, .func n_strata_Levels_1 [.ptr o i]] h fun r h' => Keep (Old h.n) h h' ∧ ∃ z : Int, r = .val (.int .i64 z) ∧ (0 ≤ z ↔ Bad n l) := by
  refine WCall_ws (he.ov _ rfl) (he.tT T_slices_IndexFunc_strata_Edge_strata_Edge) (by simp [slices_IndexFunc_strata_Edge_strata_Edge_a]) ?_
  refine WS_of_seq (WS_of_ops ?_)
  simp only [slices_IndexFunc_strata_Edge_strata_Edge_r0, go_sem, ↓reduceIte, Nat.reduceEqDiff]
  refine WS_of_seq (WS_of_seq (WS_of_ops ?_))
  simp only [slices_IndexFunc_strata_Edge_strata_Edge_r1, go_sem, ↓reduceIte, Nat.reduceEqDiff, enterS, List.getD_cons_zero, b.len]
  refine WS_of_block (WS_of_loop (fun m z g => Keep (Old h.n) h g ∧ ∃ j, m = l.length - j ∧ j ≤ l.length ∧ (∀ e ∈ l.take j, off n e = false) ∧ z 0 = v ∧ z 1 = .func n_strata_Levels_1 [.ptr o i] ∧ z 7 = .int .i64 (l.length : Int) ∧ z 8 = .int .i64 (j : Int)) ?_ l.length ?_)
  · rintro m z g ⟨kg, j, rfl, hj, hno, z0, z1, z7, z8⟩
    have wg := kg.wf wf
    show WS E slices_IndexFunc_strata_Edge_strata_Edge_l7 _ _ _ _
    refine WS_of_seq (WS_of_ops ?_)
    simp only [slices_IndexFunc_strata_Edge_strata_Edge_r2, go_sem, ↓reduceIte, Nat.reduceEqDiff, z7, z8]
    refine WS_of_seq (WS_of_cond ?_)
    simp only [go_sem, ↓reduceIte]
    by_cases hil : j < l.length
    case neg =>
      have hie : j = l.length := by omega
      subst hie
      simp only [Int.lt_irrefl, decide_false, Bool.false_eq_true, ↓reduceIte]
      refine WS_of_exit ?_
      simp only [go_sem, ↓reduceIte]
      refine WS_of_seq (WS_of_ops ?_)
      simp only [slices_IndexFunc_strata_Edge_strata_Edge_r8, go_sem, ↓reduceIte, Nat.reduceEqDiff]
      refine WS_of_ret ?_
      simp only [go_sem, slices_IndexFunc_strata_Edge_strata_Edge_a, ↓reduceIte, Nat.reduceEqDiff]
      rw [List.take_length] at hno
      refine ⟨kg, -1, rfl, ⟨fun h => absurd h (by decide), ?_⟩⟩
      rintro ⟨e, he', ho'⟩
      rw [hno e he'] at ho'; cases ho'
    have hil' : (j : Int) < (l.length : Int) := by omega
    simp only [hil', decide_true, ↓reduceIte]
    refine WS_of_skip ?_
    simp only [go_sem]
    refine WS_of_seq (WS_of_block (WS_of_seq (WS_of_ops ?_)))
    simp only [slices_IndexFunc_strata_Edge_strata_Edge_r3, go_sem, ↓reduceIte, Nat.reduceEqDiff, z8]
    refine WS_of_seq (WS_of_ops ?_)
    have bg : Eds g v l := Sl.keep b kg bs
    obtain ⟨po, pj, e1, _, _, _, e2⟩ := bg.at hil
    simp only [slices_IndexFunc_strata_Edge_strata_Edge_r4, go_sem, ↓reduceIte, Nat.reduceEqDiff, z0, z1, e1, e2, List.cons_append, List.nil_append]
    have hsg : Slot (Old g.n) g (.ptr o i) := ho.keep kg fun _ hh => Nat.lt_of_lt_of_le hh kg.n
    have hng : loadA g false 1 (.ptr o i) = some (intC n) := by
      have := row_keep kg ho.1 ho.2
      simp only [loadA, this] at hn ⊢
      exact hn
    refine (off_spec he hng wg hsg).mono ?_
    rintro r g' ⟨kg', rfl⟩
    simp only [go_sem, ↓reduceIte, Nat.reduceEqDiff]
    refine WS_of_cond ?_
    simp only [go_sem, ↓reduceIte]
    have kk : Keep (Old h.n) h g' := kg.then (Nat.le_refl _) kg'
    cases hs : off n l[j]
    · simp only [Bool.false_eq_true, ↓reduceIte]
      refine WS_of_skip ?_
      simp only [go_sem]
      refine WS_of_ops ?_
      simp only [slices_IndexFunc_strata_Edge_strata_Edge_r6, go_sem, ↓reduceIte, Nat.reduceEqDiff, z8]
      refine ⟨l.length - (j + 1), by omega, kk, j + 1, rfl, by omega, ?_, z0, z1, z7, ?_⟩
      · intro e he'
        rw [List.take_add_one, List.mem_append] at he'
        rcases he' with he' | he'
        · exact hno e he'
        · simp only [List.getElem?_eq_getElem hil, Option.toList_some, List.mem_singleton] at he'
          subst he'; exact hs
      · have : IntKind.i64.wrap ((j : Int) + 1) = ((j + 1 : Nat) : Int) := by rw [show ((j : Int) + 1) = ((j + 1 : Nat) : Int) from rfl]; exact wrapI (by omega)
        rw [this]
    · simp only [↓reduceIte]
      refine WS_of_seq (WS_of_ops ?_)
      simp only [slices_IndexFunc_strata_Edge_strata_Edge_r5, go_sem, ↓reduceIte, Nat.reduceEqDiff]
      refine WS_of_ret ?_
      simp only [go_sem, slices_IndexFunc_strata_Edge_strata_Edge_a, ↓reduceIte, Nat.reduceEqDiff]
      refine ⟨kk, j, rfl, ⟨fun _ => ⟨l[j], List.getElem_mem hil, hs⟩, fun _ => by omega⟩⟩
  · exact ⟨Keep.refl _ _, 0, by simp, by omega, by simp, rfl, rfl, rfl, rfl⟩
theorem contains_off_spec {E : Env} (he : Std E) {v : AV} {l : List Ed} {n : Int} {o i : Nat} {h : H} (b : Eds h v l) (bs : Slot (Old h.n) h v) (hl : l.length < 4611686018427387904) (hn : loadA h false 1 (.ptr o i) = some (intC n)) (wf : h.Wf) (ho : Slot (Old h.n) h (.ptr o i)) :
    WCall E n_slices_ContainsFunc_strata_Edge_strata_Edge [v, .func n_strata_Levels_1 [.ptr o i]] h fun r h' => Keep (Old h.n) h h' ∧ ∃ t : Bool, r = .val (.bool t) ∧ (t = true ↔ Bad n l) := by
  refine WCall_ws (he.ov _ rfl) (he.tT T_slices_ContainsFunc_strata_Edge_strata_Edge) (by simp [slices_ContainsFunc_strata_Edge_strata_Edge_a]) ?_
  refine WS_of_seq (WS_of_ops ?_)
  simp only [slices_ContainsFunc_strata_Edge_strata_Edge_r0, go_sem, ↓reduceIte, Nat.reduceEqDiff]
  refine WS_of_seq (WS_of_ops ?_)
  simp only [slices_ContainsFunc_strata_Edge_strata_Edge_r1, go_sem, ↓reduceIte, Nat.reduceEqDiff, enterS, List.getD_cons_zero, List.getD_cons_succ]
  refine (index_off_spec he b bs hl hn wf ho).mono ?_
  rintro r h' ⟨k, z, rfl, hz⟩
  simp only [go_sem, ↓reduceIte, Nat.reduceEqDiff]
  refine WS_of_ret ?_
  simp only [go_sem, slices_ContainsFunc_strata_Edge_strata_Edge_a, ↓reduceIte, Nat.reduceEqDiff]
  exact ⟨k, _, rfl, by rw [decide_eq_true_eq]; exact hz⟩
end Go.Proofs.YtaahagjaldgmoaaDoor.Ev.C

/- strata.Levels: the least levels. -/
namespace Go.Proofs.YtaahagjaldgmoaaDoor.Ev.C
open Go Go.Proofs.YtaahagjaldgmoaaDoor.Ev
set_option linter.unusedSimpArgs false
set_option linter.unusedVariables false

/-- so many rounds at most -/
def lvM (k : Nat) (f : List Nat) (again : Bool) : Nat := 2 * (k * k - f.sum) + (if again then 1 else 0)
/-- levels that may still rise -/
structure LvI (k : Nat) (l : List Ed) (f : List Nat) : Prop where
  len : f.length = k
  least : ∀ g, Sol l g → ∀ i, lv f i ≤ g i
  le : ∀ i, lv f i ≤ k
theorem LvI.sum {k : Nat} {l : List Ed} {f : List Nat} (I : LvI k l f) : f.sum ≤ k * k := by
  have := sum_le I.le; rw [I.len] at this; exact this
theorem LvI.zero (k : Nat) (l : List Ed) : LvI k l (List.replicate k 0) := by
  have h : ∀ i, lv (List.replicate k 0) i = 0 := by
    intro i; unfold lv
    rw [List.getD_eq_getElem?_getD, List.getElem?_replicate]
    split <;> rfl
  exact ⟨by simp, fun g _ i => by rw [h]; exact Nat.zero_le _, fun i => by rw [h]; exact Nat.zero_le _⟩
/-- what strata.Levels comes to -/
def LvPost (n : Int) (l : List Ed) (h : H) (r : AOut) (h' : H) : Prop :=
  Keep (Old h.n) h h' ∧
  (((n < 0 ∨ 4096 < n ∨ Bad n l) ∧ r = .val (.tup [.nils, intC 1])) ∨
   (¬ (n < 0 ∨ 4096 < n ∨ Bad n l) ∧ ((NoSol n.toNat l ∧ r = .val (.tup [.nils, intC 33])) ∨
    ∃ r0 f, h.n ≤ r0 ∧ CBox natC r0 f h' ∧ Least n.toNat l f ∧ r = .val (.tup [.slice r0 0 n.toNat 1, intC 0]))))
theorem levels_spec {E : Env} (he : Std E) {v : AV} {l : List Ed} {n : Int} {h : H} (b : Eds h v l) (bs : Slot (Old h.n) h v) (hl : l.length < 4611686018427387904) (wf : h.Wf) :
    WCall E n_strata_Levels [intC n, v] h (LvPost n l h) := by
  refine WCall_ws (he.ov _ rfl) (he.tT T_strata_Levels) (by simp [strata_Levels_a]) ?_
  refine WS_of_seq (WS_of_ops ?_)
  simp only [strata_Levels_r0, go_sem, ↓reduceIte, Nat.reduceEqDiff, enterS, List.getD_cons_zero, List.getD_cons_succ, AV.cells]
  have b0 := Box.new wf [intC n]
  have k0 : Keep (Old h.n) h (h.new [intC n]) := Keep.new (Nat.le_refl _) _
  have wf0 := k0.wf wf
  have n0 : (h.new [intC n]).n = h.n + 1 := rfl
  generalize hg0 : h.new [intC n] = g0 at b0 k0 wf0 n0
  have ln0 : loadA g0 false 1 (.ptr h.n 0) = some (intC n) := b0.load 1 0
  refine WS_of_seq (WS_of_ops ?_)
  simp only [strata_Levels_r1, go_sem, ↓reduceIte, Nat.reduceEqDiff]
  refine WS_of_seq (WS_of_seq (WS_of_ops ?_))
  simp only [strata_Levels_r2, go_sem, ↓reduceIte, Nat.reduceEqDiff, wanted, beq_self_eq_true, enterS, List.getD_cons_zero, List.getD_cons_succ, ln0]
  by_cases h1 : n < 0
  · simp only [h1, decide_true, go_sem, ↓reduceIte, Nat.reduceEqDiff, beq_self_eq_true, wanted, show (true == false) = false from rfl, Bool.false_eq_true, pickA]
    refine WS_of_cond ?_
    simp only [go_sem, ↓reduceIte]
    refine WS_of_seq (WS_of_ops ?_)
    simp only [strata_Levels_r3, go_sem, ↓reduceIte, Nat.reduceEqDiff]
    refine WS_of_ret ?_
    simp only [go_sem, strata_Levels_a, ↓reduceIte, Nat.reduceEqDiff]
    exact ⟨k0, .inl ⟨.inl h1, rfl⟩⟩
  simp only [h1, decide_false, go_sem, ↓reduceIte, Nat.reduceEqDiff, beq_self_eq_true, wanted, pickA, ln0]
  by_cases h2 : 4096 < n
  · simp only [h2, decide_true, go_sem, ↓reduceIte, Nat.reduceEqDiff, beq_self_eq_true, wanted, show (true == false) = false from rfl, Bool.false_eq_true, pickA]
    refine WS_of_cond ?_
    simp only [go_sem, ↓reduceIte]
    refine WS_of_seq (WS_of_ops ?_)
    simp only [strata_Levels_r3, go_sem, ↓reduceIte, Nat.reduceEqDiff]
    refine WS_of_ret ?_
    simp only [go_sem, strata_Levels_a, ↓reduceIte, Nat.reduceEqDiff]
    exact ⟨k0, .inl ⟨.inr (.inl h2), rfl⟩⟩
  simp only [h2, decide_false, go_sem, ↓reduceIte, Nat.reduceEqDiff, beq_self_eq_true, wanted, pickA, ln0, Bool.false_eq_true, List.map_cons, List.map_nil, List.cons_append, List.nil_append]
  have bs0 : Slot (Old g0.n) g0 v := bs.keep k0 fun _ hh => Nat.lt_of_lt_of_le hh k0.n
  refine (contains_off_spec he (Sl.keep b k0 bs) bs0 hl ln0 wf0 ⟨b0.lt wf0, fun cs g e => by rw [b0.get] at e; cases e; exact b0.lt wf0⟩).mono ?_
  rintro r g1 ⟨k1, t, rfl, ht⟩
  have k01 : Keep (Old h.n) h g1 := k0.then (Nat.le_refl _) k1
  have wf1 := k1.wf wf0
  have b1 : Box h.n [intC n] g1 := b0.keep k1 (b0.lt wf0)
  have ln1 : loadA g1 false 1 (.ptr h.n 0) = some (intC n) := b1.load 1 0
  simp only [go_sem, ↓reduceIte, Nat.reduceEqDiff, pickA]
  refine WS_of_cond ?_
  simp only [go_sem, ↓reduceIte]
  cases t
  case true =>
    refine WS_of_seq (WS_of_ops ?_)
    simp only [strata_Levels_r3, go_sem, ↓reduceIte, Nat.reduceEqDiff]
    refine WS_of_ret ?_
    simp only [go_sem, strata_Levels_a, ↓reduceIte, Nat.reduceEqDiff]
    exact ⟨k01, .inl ⟨.inr (.inr (ht.1 rfl)), rfl⟩⟩
  have hbad : ¬ Bad n l := fun hb => by have := ht.2 hb; cases this
  have hnb := not_bad hbad
  simp only [Bool.false_eq_true, ↓reduceIte]
  refine WS_of_skip ?_
  simp only [go_sem]
  obtain ⟨k, rfl⟩ : ∃ k : Nat, n = (k : Int) := ⟨n.toNat, by omega⟩
  have hk : k ≤ 4096 := by omega
  have hin : ∀ e ∈ l, ∃ (a b : Nat) (w : Bool), e = ((a : Int), (b : Int), w) ∧ a < k ∧ b < k := fun e hmem => off_in (hnb e hmem)
  refine WS_of_seq (WS_of_ops ?_)
  simp only [strata_Levels_r4, go_sem, ↓reduceIte, Nat.reduceEqDiff, ln1]
  have hmk := CBox.make (mk := natC) (h := g1) wf1 (n := k) (bytes := 8) (z := 0) (by omega) (by decide)
  rw [show ([AV.int IntKind.i64 0] : List AV) = [natC 0] from rfl, hmk]
  simp only [go_sem, ↓reduceIte, Nat.reduceEqDiff]
  have f2 : CBox natC g1.n (List.replicate k 0) (g1.new ((List.replicate k 0).map natC)) := Box.new wf1 _
  have k2 : Keep (Old g1.n) g1 (g1.new ((List.replicate k 0).map natC)) := Keep.new (Nat.le_refl _) _
  have k02 := k01.then (Nat.le_refl _) k2
  have wf2 := k2.wf wf1
  have b2 : Box h.n [intC k] (g1.new ((List.replicate k 0).map natC)) := b1.keep k2 (b1.lt wf1)
  generalize g1.new ((List.replicate k 0).map natC) = g2 at f2 k2 k02 wf2 b2
  have hr0 : h.n < g1.n := b1.lt wf1
  generalize hr1 : g1.n = r0 at f2 hr0
  refine WS_of_seq (WS_of_seq (WS_of_ops ?_))
  simp only [strata_Levels_r5, go_sem, ↓reduceIte, Nat.reduceEqDiff]
  refine WS_of_block (WS_of_loop (fun m z g => Keep (Old h.n) h g ∧ Box h.n [intC k] g ∧ ∃ f again, m = lvM k f again ∧ CBox natC r0 f g ∧ LvI k l f ∧ (again = false → Sol l (lv f)) ∧ z 1 = v ∧ z 2 = .ptr h.n 0 ∧ z 7 = .slice r0 0 k 1 ∧ z 8 = .bool again) ?_ (lvM k (List.replicate k 0) true) ?_)
  case refine_2 => exact ⟨k02, b2, _, true, rfl, f2, LvI.zero k l, fun hh => (by cases hh), rfl, rfl, rfl, rfl⟩
  rintro m z g ⟨kg, bg, f, again, rfl, fg, I, hsol, z1, z2, z7, z8⟩
  have wg := kg.wf wf
  show WS E strata_Levels_l21 _ _ _ _
  refine WS_of_seq (WS_of_seq (WS_of_ops ?_))
  simp only [strata_Levels_r6, go_sem, ↓reduceIte, Nat.reduceEqDiff, z8]
  refine WS_of_cond ?_
  simp only [go_sem, ↓reduceIte]
  cases again
  case false =>
    simp only [Bool.false_eq_true, ↓reduceIte]
    refine WS_of_exit ?_
    simp only [go_sem, ↓reduceIte]
    refine WS_of_seq (WS_of_ops ?_)
    simp only [strata_Levels_r22, go_sem, ↓reduceIte, Nat.reduceEqDiff, z7]
    refine WS_of_ret ?_
    simp only [go_sem, strata_Levels_a, ↓reduceIte, Nat.reduceEqDiff]
    refine ⟨kg, .inr ⟨by rintro (hh | hh | hh) <;> first | omega | exact hbad hh, .inr ⟨r0, f, by omega, fg, ⟨I.len, hsol rfl, I.least, I.le⟩, by simp⟩⟩⟩
  simp only [↓reduceIte]
  refine WS_of_skip ?_
  simp only [go_sem]
  refine WS_of_block (WS_of_seq (WS_of_ops ?_))
  simp only [strata_Levels_r7, go_sem, ↓reduceIte, Nat.reduceEqDiff]
  refine WS_of_seq (WS_of_ops ?_)
  simp only [strata_Levels_r8, go_sem, ↓reduceIte, Nat.reduceEqDiff, z1, b.len]
  -- a round over the edges
  refine WS_of_block (WS_of_loop (fun m z g' => Keep (Old h.n) h g' ∧ Box h.n [intC k] g' ∧ ∃ j f' again, m = l.length - j ∧ j ≤ l.length ∧ CBox natC r0 f' g' ∧ LvI k l f' ∧ (again = false → f' = f ∧ ∀ e ∈ l.take j, lv f e.2.1.toNat + wt e.2.2 ≤ lv f e.1.toNat) ∧ (again = true → f.sum < f'.sum) ∧
    z 1 = v ∧ z 2 = .ptr h.n 0 ∧ z 7 = .slice r0 0 k 1 ∧ z 8 = .bool again ∧ z 27 = v ∧ z 28 = .int .i64 (l.length : Int) ∧ z 29 = .int .i64 (j : Int)) ?_ l.length ?_)
  case refine_2 => exact ⟨kg, bg, 0, f, false, by simp, by omega, fg, I, fun _ => ⟨rfl, by simp⟩, fun hh => (by cases hh), z1, z2, z7, rfl, rfl, rfl, rfl⟩
  rintro m z g' ⟨kg', bg', j, f', again, rfl, hj, fg', I', hno, hyes, z1, z2, z7, z8, z27, z28, z29⟩
  have wg' := kg'.wf wf
  show WS E strata_Levels_l20 _ _ _ _
  refine WS_of_seq (WS_of_ops ?_)
  simp only [strata_Levels_r9, go_sem, ↓reduceIte, Nat.reduceEqDiff, z28, z29]
  refine WS_of_seq (WS_of_cond ?_)
  simp only [go_sem, ↓reduceIte]
  by_cases hil : j < l.length
  case neg =>
    have hie : j = l.length := by omega
    subst hie
    simp only [Int.lt_irrefl, decide_false, Bool.false_eq_true, ↓reduceIte]
    refine WS_of_exit ?_
    simp only [go_sem, ↓reduceIte]
    refine ⟨lvM k f' again, ?_, kg', bg', f', again, rfl, fg', I', ?_, z1, z2, z7, z8⟩
    · cases again
      · obtain ⟨rfl, _⟩ := hno rfl
        simp [lvM]
      · have h3 := hyes rfl
        have h4 := I'.sum
        simp only [lvM, if_true]
        omega
    · intro hh
      obtain ⟨rfl, hh⟩ := hno hh
      rw [List.take_length] at hh
      exact hh
  have hil' : (j : Int) < (l.length : Int) := by omega
  simp only [hil', decide_true, ↓reduceIte]
  refine WS_of_skip ?_
  simp only [go_sem]
  refine WS_of_seq (WS_of_block (WS_of_seq (WS_of_ops ?_)))
  obtain ⟨po, pj, e1, _, _, _, e2⟩ := Eds.at (Sl.keep b kg' bs) hil
  obtain ⟨a, c, w, hle, ha, hc⟩ := hin l[j] (List.getElem_mem hil)
  rw [hle] at e2
  simp only [edC] at e2
  obtain ⟨g3, e3, b3, k3'⟩ := Box.putAll (wg'.new _) (Box.new wg' [AV.int .i64 0, .int .i64 0, .bool false]) (vs := edC ((a : Int), (c : Int), w)) (n := 3) rfl rfl rfl
  simp only [edC] at e3
  simp only [strata_Levels_r10, go_sem, ↓reduceIte, Nat.reduceEqDiff, z27, z29, e1, e2, e3]
  have k3 : Keep (Old g'.n) g' g3 := (Keep.new (Nat.le_refl _) _).trans (k3'.newbox (N := g'.n) (wg'.new _) (Nat.le_succ _) (Nat.le_refl _))
  have kg3 := kg'.then (Nat.le_refl _) k3
  have wg3 := k3.wf wg'
  have bg3 : Box h.n [intC k] g3 := bg'.keep k3 (bg'.lt wg')
  have fg3 : CBox natC r0 f' g3 := fg'.keep k3 (fg'.lt wg')
  have hx : g'.n ≠ r0 := by have := fg'.lt wg'; omega
  have c0 : loadA g3 false 1 (.ptr g'.n (0 + 0)) = some (intC a) := b3.load 1 0
  have c1 : loadA g3 false 1 (.ptr g'.n (0 + 1)) = some (intC c) := b3.load 1 1
  have c2 : loadA g3 false 1 (.ptr g'.n (0 + 2)) = some (.bool w) := b3.load 1 2
  generalize g'.n = xb at b3 c0 c1 c2 hx
  have hfc := fg3.at (i := c) (by rw [I'.len]; exact hc) I'.len.symm .i64
  have hfa := fg3.at (i := a) (by rw [I'.len]; exact ha) I'.len.symm .i64
  refine WS_of_seq (WS_of_ops ?_)
  simp only [strata_Levels_r11, go_sem, ↓reduceIte, Nat.reduceEqDiff, z7, c1, hfc.1, hfc.2, fieldAddrA]
  have hlc := lv_get (f := f') (i := c) (by rw [I'.len]; exact hc)
  have hla := lv_get (f := f') (i := a) (by rw [I'.len]; exact ha)
  rw [hlc]
  refine WS_mid (fun z' g4 => g4 = g3 ∧ z' 1 = v ∧ z' 2 = .ptr h.n 0 ∧ z' 7 = .slice r0 0 k 1 ∧ z' 8 = .bool again ∧ z' 27 = v ∧ z' 28 = .int .i64 (l.length : Int) ∧ z' 29 = .int .i64 (j : Int) ∧ z' 10 = .ptr xb 0 ∧ z' 11 = natC (lv f' c + wt w)) ?_ ?_
  · refine WS_of_seq (WS_of_ops ?_)
    simp only [strata_Levels_r12, go_sem, ↓reduceIte, Nat.reduceEqDiff, c2, fieldAddrA]
    refine WS_of_cond ?_
    cases w
    · simp only [go_sem, ↓reduceIte, Bool.false_eq_true]
      refine WS_of_skip ?_
      simp only [go_sem]
      exact ⟨trivial, trivial, z1, z2, z7, z8, z27, z28, z29, rfl, rfl⟩
    · simp only [go_sem, ↓reduceIte]
      refine WS_of_ops ?_
      simp only [strata_Levels_r13, go_sem, ↓reduceIte, Nat.reduceEqDiff]
      refine ⟨trivial, trivial, z1, z2, z7, z8, z27, z28, z29, trivial, ?_⟩
      have := I'.le c
      rw [show ((lv f' c : Int) + 1) = ((lv f' c + 1 : Nat) : Int) from rfl, wrapI (by omega)]
      rfl
  clear z1 z2 z7 z8 z27 z28 z29
  rintro z' g4 ⟨rfl, z1, z2, z7, z8, z27, z28, z29, z10, z11⟩
  generalize hw : wt w = wn at z11
  have hmem := List.getElem_mem hil
  rw [hle] at hmem
  have hask : ∀ g, Sol l g → g c + wn ≤ g a := by
    intro g hs
    have := hs _ hmem
    simp only [Int.toNat_natCast, hw] at this
    exact this
  refine WS_mid (fun z' g5 => Keep (Old h.n) h g5 ∧ Box h.n [intC k] g5 ∧ ∃ f2 again2, CBox natC r0 f2 g5 ∧ f2.length = k ∧ (∀ g, Sol l g → ∀ i, lv f2 i ≤ g i) ∧ (lv f' c + wn ≤ k → ∀ i, lv f2 i ≤ k) ∧ (again2 = false → f2 = f ∧ again = false ∧ lv f c + wn ≤ lv f a) ∧ (again2 = true → f.sum < f2.sum) ∧
    z' 1 = v ∧ z' 2 = .ptr h.n 0 ∧ z' 7 = .slice r0 0 k 1 ∧ z' 8 = .bool again2 ∧ z' 27 = v ∧ z' 28 = .int .i64 (l.length : Int) ∧ z' 29 = .int .i64 (j : Int) ∧ z' 11 = natC (lv f' c + wn)) ?_ ?_
  · refine WS_of_seq (WS_of_ops ?_)
    simp only [strata_Levels_r14, go_sem, ↓reduceIte, Nat.reduceEqDiff, z7, z10, z11, c0, fieldAddrA, hfa.1, hfa.2]
    refine WS_of_cond ?_
    simp only [go_sem, ↓reduceIte]
    rw [hla]
    by_cases hlt : lv f' a < lv f' c + wn
    case neg =>
      have hlt' : ¬ ((lv f' a : Int) < ((lv f' c + wn : Nat) : Int)) := by omega
      simp only [hlt', decide_false, Bool.false_eq_true, ↓reduceIte]
      refine WS_of_skip ?_
      simp only [go_sem]
      refine ⟨trivial, kg3, bg3, f', again, fg3, I'.len, I'.least, fun _ => I'.le, ?_, hyes, z1, z2, z7, z8, z27, z28, z29, z11⟩
      intro hag
      obtain ⟨rfl, _⟩ := hno hag
      exact ⟨rfl, hag, by omega⟩
    have hlt' : ((lv f' a : Int) < ((lv f' c + wn : Nat) : Int)) := by omega
    simp only [hlt', decide_true, ↓reduceIte]
    refine WS_of_seq (WS_of_ops ?_)
    obtain ⟨g5, e5, f5, k5⟩ := fg3.put nat1 wg3 (i := a) (by rw [I'.len]; exact ha) (lv f' c + wn)
    simp only [natC] at e5
    simp only [strata_Levels_r15, go_sem, ↓reduceIte, Nat.reduceEqDiff, z7, z10, z11, c0, fieldAddrA, hfa.1, e5]
    refine WS_of_ops ?_
    simp only [strata_Levels_r16, go_sem, ↓reduceIte, Nat.reduceEqDiff]
    have ha' : a < f'.length := by rw [I'.len]; exact ha
    have hk5 : Keep (Old h.n) h g5 := kg3.trans (k5.old wg3 (N := h.n) kg3.n (by simp; omega))
    have hs := sum_set (f := f') (i := a) (v := lv f' c + wn) ha'
    rw [hla] at hs
    refine ⟨trivial, hk5, bg3.keepA wg3 k5 (by simp; omega), _, true, f5, by rw [List.length_set]; exact I'.len, ?_, ?_, fun hh => (by cases hh), fun _ => ?_, z1, z2, z7, rfl, z27, z28, z29, z11⟩
    · intro g hs i
      rw [lv_set ha']
      by_cases hia : i = a
      · rw [if_pos hia, hia]
        have h5 := hask g hs
        have h6 := I'.least g hs c
        omega
      · rw [if_neg hia]; exact I'.least g hs i
    · intro hle i
      rw [lv_set ha']
      by_cases hia : i = a
      · rw [if_pos hia]; exact hle
      · rw [if_neg hia]; exact I'.le i
    · cases again
      · obtain ⟨rfl, _⟩ := hno rfl
        omega
      · have := hyes rfl; omega
  clear z1 z2 z7 z8 z27 z28 z29 z10 z11
  rintro z' g5 ⟨kg5, bg5, f2, again2, fg5, len2, least2, le2, hno2, hyes2, z1, z2, z7, z8, z27, z28, z29, z11⟩
  have ln5 : loadA g5 false 1 (.ptr h.n 0) = some (intC k) := bg5.load 1 0
  refine WS_of_seq (WS_of_ops ?_)
  simp only [strata_Levels_r17, go_sem, ↓reduceIte, Nat.reduceEqDiff, z2, z11, ln5]
  refine WS_of_cond ?_
  simp only [go_sem, ↓reduceIte]
  by_cases hover : k < lv f' c + wn
  · have hover' : (k : Int) < ((lv f' c + wn : Nat) : Int) := by omega
    simp only [hover', decide_true, ↓reduceIte]
    refine WS_of_seq (WS_of_ops ?_)
    simp only [strata_Levels_r18, go_sem, ↓reduceIte, Nat.reduceEqDiff]
    refine WS_of_ret ?_
    simp only [go_sem, strata_Levels_a, ↓reduceIte, Nat.reduceEqDiff]
    refine ⟨kg5, .inr ⟨by rintro (hh | hh | hh) <;> first | omega | exact hbad hh, .inl ⟨?_, rfl⟩⟩⟩
    intro g hs
    refine ⟨a, ?_⟩
    have h5 := hask g hs
    have h6 := I'.least g hs c
    rw [Int.toNat_natCast]
    omega
  · have hover' : ¬ (k : Int) < ((lv f' c + wn : Nat) : Int) := by omega
    simp only [hover', decide_false, Bool.false_eq_true, ↓reduceIte]
    refine WS_of_skip ?_
    simp only [go_sem]
    refine WS_of_ops ?_
    simp only [strata_Levels_r19, go_sem, ↓reduceIte, Nat.reduceEqDiff, z29]
    refine ⟨l.length - (j + 1), by omega, kg5, bg5, j + 1, f2, again2, rfl, by omega, fg5, ⟨len2, least2, le2 (by omega)⟩, ?_, hyes2, z1, z2, z7, z8, z27, z28, ?_⟩
    · intro hh
      obtain ⟨rfl, hag, hsat⟩ := hno2 hh
      refine ⟨rfl, ?_⟩
      intro e he'
      rw [List.take_add_one, List.mem_append] at he'
      rcases he' with he' | he'
      · exact (hno hag).2 e he'
      · simp only [List.getElem?_eq_getElem hil, Option.toList_some, List.mem_singleton] at he'
        subst he'
        rw [hle]
        simp only [Int.toNat_natCast, hw]
        exact hsat
    · rw [show ((j : Int) + 1) = ((j + 1 : Nat) : Int) from rfl, wrapI (by omega)]

/-- levels of a few places -/
def LvRes (k : Nat) (l : List Ed) (N : Nat) (h' : H) (a : AV) (e : Int) : Prop :=
  (Bad k l ∧ a = .nils ∧ e = 1) ∨ (¬ Bad k l ∧ NoSol k l ∧ a = .nils ∧ e = 33) ∨ (¬ Bad k l ∧ ∃ r0 f, N ≤ r0 ∧ CBox natC r0 f h' ∧ Least k l f ∧ a = .slice r0 0 k 1 ∧ e = 0)
theorem levels_at {E : Env} (he : Std E) {v : AV} {l : List Ed} {k : Nat} {h : H} (hk : k ≤ 4096) (b : Eds h v l) (bs : Slot (Old h.n) h v) (hl : l.length < 4611686018427387904) (wf : h.Wf) :
    WCall E n_strata_Levels [intC (k : Int), v] h fun r h' => Keep (Old h.n) h h' ∧ ∃ a e, r = .val (.tup [a, intC e]) ∧ LvRes k l h.n h' a e := by
  refine (levels_spec he b bs hl wf).mono ?_
  rintro r h' ⟨kk, ⟨hb, rfl⟩ | ⟨hb, ⟨hn, rfl⟩ | ⟨r0, f, h1, h2, h3, rfl⟩⟩⟩
  · refine ⟨kk, _, _, rfl, .inl ⟨?_, rfl, rfl⟩⟩
    rcases hb with hb | hb | hb <;> first | omega | exact hb
  · exact ⟨kk, _, _, rfl, .inr (.inl ⟨fun hh => hb (.inr (.inr hh)), hn, rfl, rfl⟩)⟩
  · exact ⟨kk, _, _, rfl, .inr (.inr ⟨fun hh => hb (.inr (.inr hh)), r0, f, h1, h2, h3, rfl, rfl⟩)⟩
theorem LvRes.keep {k : Nat} {l : List Ed} {N : Nat} {h h' : H} {a : AV} {e : Int} (r : LvRes k l N h a e) (wf : h.Wf) (kk : Keep (Old h.n) h h') : LvRes k l N h' a e := by
  rcases r with r | r | ⟨hb, r0, f, h1, h2, h3, h4, h5⟩
  · exact .inl r
  · exact .inr (.inl r)
  · exact .inr (.inr ⟨hb, r0, f, h1, h2.keep kk (h2.lt wf), h3, h4, h5⟩)
theorem Eds.push {N : Nat} {h : H} (wf : h.Wf) (hN : N ≤ h.n) {v : AV} {l : List Ed} (a : Eds h v l) (o : Own N h v) (x : Ed) (hbig : l.length + 1 < 4294967296) :
    ∃ v' h', appendA (h.new (edC x)) 3 v (.slice h.n 0 1 3) = some (v', h') ∧ Eds h' v' (l ++ [x]) ∧ Own N h' v' ∧ Keep (Old N) h h' := by
  have sl := o.slot wf
  have kn : Keep (Old h.n) h (h.new (edC x)) := Keep.new (Nat.le_refl _) _
  have wn := wf.new (edC x)
  have sb : Sl (h.new (edC x)) 3 (.slice h.n 0 1 3) 1 (edC x) := by
    have := Sl.new (n := 1) (es := 3) wf (vs := edC x) (by simp [edC])
    simpa [edC] using this
  obtain ⟨v', h', e, s', o', k'⟩ := append_own (N := N) wn (Nat.le_trans hN kn.n) (Sl.keep a kn sl) (o.keep sl kn) sb (by simp [edC, AV.one]) (by omega)
  refine ⟨v', h', e, ?_, o', (kn.less hN).trans k'⟩
  have e2 : (l ++ [x]).flatMap edC = l.flatMap edC ++ edC x := by simp
  show Sl h' 3 v' (l ++ [x]).length _
  rw [e2, List.length_append]
  exact s'
theorem afill_ed (x : Ed) : afill (zeros [AV.int .i64 0, .int .i64 0, .bool false] (1 * 3)) [(0, 3, .agg (edC x))] = some (edC x) := rfl
theorem rem_small {n m : Nat} (hn : n < 256) (hm : m < 256) (h0 : 0 < m) : Int.tmod (IntKind.i64.wrap (n : Int)) (m : Int) = ((n % m : Nat) : Int) := by
  rw [wrapI (by omega)]
  exact (Int.ofNat_tmod n m).symm
theorem NoSol.congr {k : Nat} {l m : List Ed} (hm : ∀ e, e ∈ m ↔ e ∈ l) (n : NoSol k l) : NoSol k m := fun g hs => n g fun e he => hs e ((hm e).2 he)
theorem Bad.congr {k : Int} {l m : List Ed} (hm : ∀ e, e ∈ m ↔ e ∈ l) (n : Bad k l) : Bad k m := by
  obtain ⟨e, he, ho⟩ := n
  exact ⟨e, (hm e).2 he, ho⟩
theorem Least.congr {k : Nat} {l m : List Ed} (hm : ∀ e, e ∈ m ↔ e ∈ l) {f : List Nat} (n : Least k l f) : Least k m f :=
  ⟨n.len, fun e he => n.sol e ((hm e).1 he), fun g hs => n.least g fun e he => hs e ((hm e).2 he), n.le⟩
theorem Least.unique {k : Nat} {l : List Ed} {f f' : List Nat} (a : Least k l f) (b : Least k l f') : ∀ i, lv f i = lv f' i := by
  intro i
  have h1 := a.least _ b.sol i
  have h2 := b.least _ a.sol i
  omega
theorem Least.noSol {k : Nat} {l : List Ed} {f : List Nat} (a : Least k l f) (n : NoSol k l) : False := by
  obtain ⟨i, hi⟩ := n _ a.sol
  have := a.le i
  omega
end Go.Proofs.YtaahagjaldgmoaaDoor.Ev.C
