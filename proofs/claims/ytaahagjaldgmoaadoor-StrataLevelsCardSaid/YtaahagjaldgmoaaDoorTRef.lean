/- Ways of edges, and the most Nots of a way, in plain words. -/
import Derived.Test.YtaahagjaldgmoaaDoorTLevels
import Derived.Test.YtaahagjaldgmoaaDoorEv31
import Derived.Test.YtaahagjaldgmoaaDoorTBase
namespace Go.Proofs.YtaahagjaldgmoaaDoor.Ev.C
open Go Go.Proofs.YtaahagjaldgmoaaDoor.Ev
set_option linter.unusedVariables false
/-! ### what can be come to -/
def Edge1 (l : List Ed) (i j : Nat) : Prop := ∃ e ∈ l, e.1.toNat = i ∧ e.2.1.toNat = j
inductive Reach (l : List Ed) : Nat → Nat → Prop
  | one {i j : Nat} (h : Edge1 l i j) : Reach l i j
  | step {i j k : Nat} (h : Edge1 l i j) (r : Reach l j k) : Reach l i k
theorem Reach.trans {l : List Ed} {i j k : Nat} (a : Reach l i j) (b : Reach l j k) : Reach l i k := by
  induction a with
  | one h => exact .step h b
  | step h _ ih => exact .step h (ih b)
/-- by ways whose inner places are below K -/
def PK (l : List Ed) : Nat → Nat → Nat → Prop
  | 0, i, j => Edge1 l i j
  | K + 1, i, j => PK l K i j ∨ (PK l K i K ∧ PK l K K j)
theorem PK.mono {l : List Ed} : ∀ {K i j : Nat} (d : Nat), PK l K i j → PK l (K + d) i j
  | K, i, j, 0, h => h
  | K, i, j, d + 1, h => .inl (PK.mono d h)
theorem PK.reach {l : List Ed} : ∀ {K i j : Nat}, PK l K i j → Reach l i j
  | 0, i, j, h => .one h
  | K + 1, i, j, .inl h => PK.reach h
  | K + 1, i, j, .inr h => (PK.reach h.1).trans (PK.reach h.2)
theorem PK.trans {l : List Ed} : ∀ {K i m j : Nat}, m < K → PK l K i m → PK l K m j → PK l K i j
  | 0, i, m, j, h, _, _ => by omega
  | K + 1, i, m, j, h, a, b => by
    by_cases hm : m = K
    · subst hm
      have a' : PK l m i m := by rcases a with a | a <;> first | exact a | exact a.1
      have b' : PK l m m j := by rcases b with b | b <;> first | exact b | exact b.2
      exact .inr ⟨a', b'⟩
    · have hmK : m < K := by omega
      rcases a with a | ⟨a1, a2⟩
      · rcases b with b | ⟨b1, b2⟩
        · exact .inl (PK.trans hmK a b)
        · exact .inr ⟨PK.trans hmK a b1, b2⟩
      · rcases b with b | ⟨b1, b2⟩
        · exact .inr ⟨a1, PK.trans hmK a2 b⟩
        · exact .inr ⟨a1, b2⟩
theorem reach_pk {l : List Ed} {n : Nat} (hin : ∀ e ∈ l, off n e = false) {i j : Nat} (r : Reach l i j) : PK l n i j := by
  induction r with
  | one h => have := PK.mono (K := 0) n h; rwa [Nat.zero_add] at this
  | step h r ih =>
    have h1 := PK.mono (K := 0) n h
    rw [Nat.zero_add] at h1
    obtain ⟨e, he, _, rfl⟩ := h
    obtain ⟨a, c, w, hx, ha, hc⟩ := off_in (hin e he)
    rw [hx] at h1 ih
    exact PK.trans (by simpa using hc) h1 ih
theorem Reach.sol {l : List Ed} {g : Nat → Nat} (s : Sol l g) {i j : Nat} (r : Reach l i j) : g j ≤ g i := by
  have h1 : ∀ {i j}, Edge1 l i j → g j ≤ g i := by
    rintro i j ⟨e, he, rfl, rfl⟩
    have := s e he; omega
  induction r with
  | one h => exact h1 h
  | step h _ ih => have := h1 h; omega
/-- a way that has a Not leads back -/
def NotCycle (l : List Ed) : Prop := ∃ e ∈ l, e.2.2 = true ∧ (e.1.toNat = e.2.1.toNat ∨ Reach l e.2.1.toNat e.1.toNat)
theorem NotCycle.noSol {l : List Ed} (c : NotCycle l) {g : Nat → Nat} (s : Sol l g) : False := by
  obtain ⟨e, he, hn, h⟩ := c
  have h1 := s e he
  rw [hn] at h1
  simp only [wt, if_true] at h1
  rcases h with h | h
  · rw [h] at h1; omega
  · have := h.sol s; omega
/-! ### the most Nots of a way of so many edges -/
def jacStep (f : Nat → Nat) (i : Nat) (m : Nat) (e : Ed) : Nat := if e.1.toNat = i then max m (f e.2.1.toNat + wt e.2.2) else m
def jac (l : List Ed) (f : Nat → Nat) (i : Nat) : Nat := l.foldl (jacStep f i) (f i)
theorem jac_fold (f : Nat → Nat) (i : Nat) : ∀ (l : List Ed) (m : Nat), m ≤ l.foldl (jacStep f i) m ∧ (∀ e ∈ l, e.1.toNat = i → f e.2.1.toNat + wt e.2.2 ≤ l.foldl (jacStep f i) m) ∧
    (l.foldl (jacStep f i) m = m ∨ ∃ e ∈ l, e.1.toNat = i ∧ l.foldl (jacStep f i) m = f e.2.1.toNat + wt e.2.2)
  | [], m => ⟨Nat.le_refl _, fun e he => (by cases he), .inl rfl⟩
  | x :: l, m => by
    obtain ⟨h1, h2, h3⟩ := jac_fold f i l (jacStep f i m x)
    simp only [List.foldl_cons]
    have hs : m ≤ jacStep f i m x := by unfold jacStep; split <;> omega
    refine ⟨Nat.le_trans hs h1, ?_, ?_⟩
    · intro e he hi
      rcases List.mem_cons.1 he with rfl | he
      · have : f e.2.1.toNat + wt e.2.2 ≤ jacStep f i m e := by unfold jacStep; rw [if_pos hi]; omega
        omega
      · exact h2 e he hi
    · rcases h3 with h3 | ⟨e, he, hi, h3⟩
      · rw [h3]
        unfold jacStep
        by_cases hx : x.1.toNat = i
        · rw [if_pos hx]
          by_cases hm : f x.2.1.toNat + wt x.2.2 ≤ m
          · left; omega
          · right; exact ⟨x, List.mem_cons_self, hx, by omega⟩
        · rw [if_neg hx]; exact .inl rfl
      · exact .inr ⟨e, List.mem_cons_of_mem _ he, hi, h3⟩
theorem jac_ge (l : List Ed) (f : Nat → Nat) (i : Nat) : f i ≤ jac l f i := (jac_fold f i l (f i)).1
theorem jac_edge {l : List Ed} (f : Nat → Nat) {e : Ed} (he : e ∈ l) : f e.2.1.toNat + wt e.2.2 ≤ jac l f e.1.toNat := (jac_fold f _ l (f _)).2.1 e he rfl
theorem jac_from (l : List Ed) (f : Nat → Nat) (i : Nat) : jac l f i = f i ∨ ∃ e ∈ l, e.1.toNat = i ∧ jac l f i = f e.2.1.toNat + wt e.2.2 := (jac_fold f i l (f i)).2.2
def jacN (l : List Ed) : Nat → Nat → Nat
  | 0 => fun _ => 0
  | k + 1 => jac l (jacN l k)
theorem jacN_mono (l : List Ed) (i : Nat) : ∀ {a b : Nat}, a ≤ b → jacN l a i ≤ jacN l b i := by
  intro a b h
  induction h with
  | refl => exact Nat.le_refl _
  | step _ ih => exact Nat.le_trans ih (jac_ge l _ i)
theorem jacN_sol {l : List Ed} {g : Nat → Nat} (s : Sol l g) : ∀ (k i : Nat), jacN l k i ≤ g i
  | 0, i => Nat.zero_le _
  | k + 1, i => by
    rcases jac_from l (jacN l k) i with h | ⟨e, he, rfl, h⟩
    · show jac l (jacN l k) i ≤ _
      rw [h]; exact jacN_sol s k i
    · show jac l (jacN l k) _ ≤ _
      rw [h]
      have h1 := s e he
      have h2 := jacN_sol s k e.2.1.toNat
      omega
theorem jacN_le (l : List Ed) : ∀ (k i : Nat), jacN l k i ≤ k
  | 0, i => Nat.le_refl _
  | k + 1, i => by
    rcases jac_from l (jacN l k) i with h | ⟨e, he, rfl, h⟩
    · show jac l (jacN l k) i ≤ _
      rw [h]; have := jacN_le l k i; omega
    · show jac l (jacN l k) _ ≤ _
      rw [h]
      have h2 := jacN_le l k e.2.1.toNat
      have : wt e.2.2 ≤ 1 := by unfold wt; split <;> omega
      omega
/-- a way of so many Nots -/
inductive Way (l : List Ed) : Nat → Nat → Nat → Prop
  | nil (i : Nat) : Way l i i 0
  | cons {e : Ed} {j s : Nat} (he : e ∈ l) (w : Way l e.2.1.toNat j s) : Way l e.1.toNat j (wt e.2.2 + s)
theorem Way.reach {l : List Ed} {i j s : Nat} (w : Way l i j s) : i = j ∨ Reach l i j := by
  induction w with
  | nil => exact .inl rfl
  | cons he w ih =>
    rcases ih with ih | ih
    · exact .inr (.one ⟨_, he, rfl, ih⟩)
    · exact .inr (.step ⟨_, he, rfl, rfl⟩ ih)
/-- a way that has a Not: it stands on it -/
theorem Way.not {l : List Ed} {i j s : Nat} (w : Way l i j s) (hs : 0 < s) : ∃ e ∈ l, e.2.2 = true ∧ (i = e.1.toNat ∨ Reach l i e.1.toNat) ∧ (e.2.1.toNat = j ∨ Reach l e.2.1.toNat j) := by
  induction w with
  | nil => omega
  | @cons e j s he w ih =>
    by_cases h0 : 0 < s
    · obtain ⟨e', he', hn, h1, h2⟩ := ih h0
      refine ⟨e', he', hn, .inr ?_, h2⟩
      rcases h1 with h1 | h1
      · exact .one ⟨e, he, rfl, h1⟩
      · exact .step ⟨e, he, rfl, rfl⟩ h1
    · have hw : e.2.2 = true := by
        cases hx : e.2.2
        · rw [hx] at hs; simp [wt] at hs; omega
        · rfl
      exact ⟨e, he, hw, .inl rfl, w.reach⟩
theorem Way.cycle {l : List Ed} {i s : Nat} (w : Way l i i s) (hs : 0 < s) : NotCycle l := by
  obtain ⟨e, he, hn, h1, h2⟩ := w.not hs
  refine ⟨e, he, hn, ?_⟩
  rcases h2 with h2 | h2
  · rcases h1 with h1 | h1
    · exact .inl (h1.symm.trans h2.symm)
    · right; rw [h2]; exact h1
  · right
    rcases h1 with h1 | h1
    · rw [← h1]; exact h2
    · exact h2.trans h1
/-- levels that still rise come from as many places -/
theorem jac_chain {l : List Ed} {n : Nat} (hin : ∀ e ∈ l, off n e = false) (hc : ¬ NotCycle l) : ∀ (k : Nat) {i : Nat}, i < n → jacN l k i < jacN l (k + 1) i →
    ∃ L : List Nat, L.Nodup ∧ L.length = k + 1 ∧ (∀ x ∈ L, x < n) ∧ ∀ x ∈ L, ∃ s m, m ≤ k + 1 ∧ Way l i x s ∧ jacN l (k + 1) i = jacN l m x + s
  | 0, i, hi, h => ⟨[i], by simp, rfl, by simpa using hi, fun x hx => by
      rw [List.mem_singleton.1 hx]
      exact ⟨0, 1, by omega, .nil i, rfl⟩⟩
  | k + 1, i, hi, h => by
    rcases jac_from l (jacN l (k + 1)) i with h1 | ⟨e, he, rfl, h1⟩
    · have : jacN l (k + 1 + 1) i = jacN l (k + 1) i := h1
      omega
    · have h2 : jacN l (k + 1 + 1) e.1.toNat = jacN l (k + 1) e.2.1.toNat + wt e.2.2 := h1
      have h3 : jacN l k e.2.1.toNat + wt e.2.2 ≤ jacN l (k + 1) e.1.toNat := jac_edge (jacN l k) he
      obtain ⟨a, c, w, hx, ha, hcn⟩ := off_in (hin e he)
      have hto : e.2.1.toNat < n := by rw [hx]; simpa using hcn
      obtain ⟨L, nd, hl, hb, hw⟩ := jac_chain hin hc k hto (by omega)
      refine ⟨e.1.toNat :: L, ?_, by simp [hl], ?_, ?_⟩
      · rw [List.nodup_cons]
        refine ⟨fun hm => ?_, nd⟩
        obtain ⟨s, m, hm1, hway, heq⟩ := hw _ hm
        have h4 := jacN_mono l e.1.toNat hm1
        exact hc ((Way.cons he hway).cycle (by omega))
      · intro x hx
        rcases List.mem_cons.1 hx with rfl | hx
        · exact hi
        · exact hb x hx
      · intro x hx
        rcases List.mem_cons.1 hx with rfl | hx
        · exact ⟨0, k + 1 + 1, Nat.le_refl _, .nil _, rfl⟩
        · obtain ⟨s, m, hm1, hway, heq⟩ := hw _ hx
          exact ⟨_, m, by omega, .cons he hway, by rw [h2, heq]; omega⟩
theorem jac_fix {l : List Ed} {n : Nat} (hin : ∀ e ∈ l, off n e = false) (hc : ¬ NotCycle l) (i : Nat) (hi : i < n) : jacN l (n + 1) i = jacN l n i := by
  have h1 := jacN_mono l i (Nat.le_succ n)
  refine Nat.le_antisymm ?_ h1
  refine Nat.not_lt.1 fun hlt => ?_
  obtain ⟨L, nd, hl, hb, _⟩ := jac_chain hin hc n hi hlt
  have := nodup_sub_len (m := List.range n) nd fun x hx => List.mem_range.2 (hb x hx)
  simp at this; omega
theorem jac_sol {l : List Ed} {n : Nat} (hin : ∀ e ∈ l, off n e = false) (hc : ¬ NotCycle l) : Sol l (jacN l n) := by
  intro e he
  obtain ⟨a, c, w, hx, ha, hcn⟩ := off_in (hin e he)
  have h1 : jacN l n e.2.1.toNat + wt e.2.2 ≤ jacN l (n + 1) e.1.toNat := jac_edge (jacN l n) he
  rw [jac_fix hin hc _ (by rw [hx]; simpa using ha)] at h1
  exact h1
/-- the least levels are the most Nots of a way -/
theorem Least.jac {n : Nat} {l : List Ed} {f : List Nat} (hin : ∀ e ∈ l, off n e = false) (hc : ¬ NotCycle l) (L : Least n l f) (i : Nat) (hi : i < n) : lv f i = jacN l (n + 1) i := by
  have h1 := L.least _ (jac_sol hin hc) i
  have h2 := jacN_sol L.sol n i
  rw [jac_fix hin hc i hi]
  omega
theorem NoSol.jac {n : Nat} {l : List Ed} (hin : ∀ e ∈ l, off n e = false) (hc : ¬ NotCycle l) (s : NoSol n l) : False := by
  obtain ⟨i, hi⟩ := s _ (jac_sol hin hc)
  have := jacN_le l n i
  omega
end Go.Proofs.YtaahagjaldgmoaaDoor.Ev.C

/- The reference's edges, ways, and levels. -/
namespace Go.Proofs.YtaahagjaldgmoaaDoor.Ev.C
open Go Go.Proofs.YtaahagjaldgmoaaDoor.Ev
set_option linter.unusedSimpArgs false
set_option linter.unusedVariables false
/-- an edge's place and cells, in any heap that keeps the row -/
theorem Eds.atK {h : H} {v : AV} {l : List Ed} (b : Eds h v l) (bs : Slot (Old h.n) h v) {i : Nat} (hi : i < l.length) :
    ∃ o j, indexAddrA 3 v (.int .i64 (i : Int)) = some (.ptr o j) ∧ ∀ h', Keep (Old h.n) h h' → loadA h' false 1 (.ptr o (j + 0)) = some (intC l[i].1) ∧ loadA h' false 1 (.ptr o (j + 1)) = some (intC l[i].2.1) ∧ loadA h' false 1 (.ptr o (j + 2)) = some (.bool l[i].2.2) := by
  obtain ⟨o, j, e, _⟩ := b.at hi
  refine ⟨o, j, e, fun h' k => ?_⟩
  obtain ⟨o', j', e', h1, h2, h3, _⟩ := Eds.at (Sl.keep b k bs) hi
  rw [e] at e'
  cases e'
  exact ⟨h1, h2, h3⟩
theorem afill_ed3 (a b : Int) (c : Bool) : afill [AV.int .i64 0, .int .i64 0, .bool false] [(0, 1, .int .i64 a), (1, 1, .int .i64 b), (2, 1, .bool c)] = some (edC (a, b, c)) := rfl
theorem edges_spec {E : Env} (he : Std E) {v : AV} {l : List Ed} {h : H} (b : Eds h v l) (bs : Slot (Old h.n) h v) (hl : l.length < 1000000) (wf : h.Wf) :
    WCall E n_doormanlaw10_edges [v] h fun r h' => Keep (Old h.n) h h' ∧ ∃ v', r = .val v' ∧ Eds h' v' l ∧ Slot (Old h'.n) h' v' := by
  refine WCall_ws (he.ov _ rfl) (he.tT T_doormanlaw10_edges) (by simp [doormanlaw10_edges_a]) ?_
  refine WS_of_seq (WS_of_ops ?_)
  simp only [doormanlaw10_edges_r0, go_sem, ↓reduceIte, Nat.reduceEqDiff]
  refine WS_of_seq (WS_of_ops ?_)
  simp only [doormanlaw10_edges_r1, go_sem, ↓reduceIte, Nat.reduceEqDiff]
  refine WS_of_seq (WS_of_seq (WS_of_ops ?_))
  simp only [doormanlaw10_edges_r2, go_sem, ↓reduceIte, Nat.reduceEqDiff]
  refine WS_of_block (WS_of_loop (fun c z g => Keep (Old h.n) h g ∧ ∃ i vm, c = l.length - i ∧ i ≤ l.length ∧ Eds g vm (l.take i) ∧ Own h.n g vm ∧ z 0 = v ∧ z 3 = vm ∧ z 4 = .int .i64 (i : Int)) ?_ l.length ?_)
  case refine_2 => exact ⟨Keep.refl _ _, 0, .nils, by simp, by omega, Sl.nil h 3, trivial, rfl, rfl, rfl⟩
  rintro c z g ⟨kg, i, vm, rfl, hi, sm, om, z0, z3, z4⟩
  have wg := kg.wf wf
  show WS E doormanlaw10_edges_l6 _ _ _ _
  refine WS_of_seq (WS_of_seq (WS_of_ops ?_))
  simp only [doormanlaw10_edges_r3, go_sem, ↓reduceIte, Nat.reduceEqDiff, z0, z4, b.len]
  refine WS_of_cond ?_
  simp only [go_sem, ↓reduceIte]
  by_cases hil : i < l.length
  case neg =>
    have hie : i = l.length := by omega
    subst hie
    simp only [Int.lt_irrefl, decide_false, Bool.false_eq_true, ↓reduceIte]
    refine WS_of_exit ?_
    simp only [go_sem, ↓reduceIte]
    refine WS_of_seq (WS_of_ops ?_)
    simp only [doormanlaw10_edges_r7, go_sem, ↓reduceIte, Nat.reduceEqDiff, z3]
    refine WS_of_ret ?_
    simp only [go_sem, doormanlaw10_edges_a, ↓reduceIte, Nat.reduceEqDiff]
    rw [List.take_length] at sm
    exact ⟨kg, vm, rfl, sm, om.slot wg⟩
  have hil' : ((i : Int) < (l.length : Int)) := by omega
  simp only [hil', decide_true, ↓reduceIte]
  refine WS_of_skip ?_
  simp only [go_sem]
  refine WS_of_seq (WS_of_block (WS_of_draw ?_))
  obtain ⟨po, pj, e1, hk⟩ := b.atK bs hil
  obtain ⟨c0, c1, c2⟩ := hk g kg
  obtain ⟨d0, d1, d2⟩ := hk (g.new (edC (l[i].1, l[i].2.1, l[i].2.2))) (kg.trans (Keep.new kg.n _))
  have hti : (l.take i).length = i := by simp; omega
  obtain ⟨v2, g2, e3, s2, o2, k2⟩ := Eds.push (N := h.n) wg kg.n sm om (l[i].1, l[i].2.1, l[i].2.2) (by omega)
  simp only [doormanlaw10_edges_r4, go_sem, ↓reduceIte, Nat.reduceEqDiff, wanted, z0, z3, z4, e1, fieldAddrA, c0, c1, c2, parts, List.map_cons, List.map_nil, afill_ed3, afill_ed, d0, d1, d2, e3, and_self, true_and, List.filter_cons, List.filter_nil, Nat.testBit, Nat.reduceShiftRight, Nat.reduceAnd, Nat.reduceBNe, Bool.not_false, Bool.not_true, Bool.false_eq_true, bne_self_eq_false]
  refine WS_of_ops ?_
  simp only [doormanlaw10_edges_r5, go_sem, ↓reduceIte, Nat.reduceEqDiff, z4]
  have htk : l.take (i + 1) = l.take i ++ [(l[i].1, l[i].2.1, l[i].2.2)] := by rw [List.take_add_one, List.getElem?_eq_getElem hil]; rfl
  refine ⟨l.length - (i + 1), by omega, kg.trans k2, i + 1, v2, rfl, by omega, by rw [htk]; exact s2, o2, z0, rfl, ?_⟩
  rw [show ((i : Int) + 1) = ((i + 1 : Nat) : Int) from rfl, wrapI (by omega)]

/-! ### levels, round by round -/
theorem reflevels_spec {E : Env} (he : Std E) {v : AV} {l : List Ed} {n : Nat} {h : H} (b : Eds h v l) (bs : Slot (Old h.n) h v) (hl : l.length < 1000000) (hn : n ≤ 4096) (hin : ∀ e ∈ l, off n e = false) (wf : h.Wf) :
    WCall E n_doormanref10_Levels [.int .i64 (n : Int), v] h fun r h' => Keep (Old h.n) h h' ∧ ∃ r0 f, r = .val (.slice r0 0 n 1) ∧ CBox natC r0 f h' ∧ f.length = n ∧ h.n ≤ r0 ∧ ∀ i, i < n → lv f i = jacN l (n + 1) i := by
  refine WCall_ws (he.ov _ rfl) (he.tT T_doormanref10_Levels) (by simp [doormanref10_Levels_a]) ?_
  refine WS_of_seq (WS_of_ops ?_)
  simp only [doormanref10_Levels_r0, go_sem, ↓reduceIte, Nat.reduceEqDiff, enterS, List.getD_cons_zero, List.getD_cons_succ]
  refine WS_of_seq (WS_of_ops ?_)
  have hmk := fun (g : H) (wg : g.Wf) => CBox.make (mk := natC) (h := g) wg (n := n) (bytes := 8) (z := 0) (by omega) (by decide)
  simp only [natC, show ((0 : Nat) : Int) = 0 from rfl] at hmk
  simp only [doormanref10_Levels_r1, go_sem, ↓reduceIte, Nat.reduceEqDiff, enterS, List.getD_cons_zero, List.getD_cons_succ, hmk h wf]
  have hrep : ∀ i, i < n → lv (List.replicate n 0) i = jacN l 0 i := by
    intro i hi
    unfold lv
    rw [List.getD_eq_getElem?_getD, List.getElem?_replicate]
    split <;> rfl
  have f1 : CBox natC h.n (List.replicate n 0) (h.new ((List.replicate n 0).map natC)) := Box.new wf _
  have k1 : Keep (Old h.n) h (h.new ((List.replicate n 0).map natC)) := Keep.new (Nat.le_refl _) _
  refine WS_of_seq (WS_of_seq (WS_of_ops ?_))
  simp only [doormanref10_Levels_r2, go_sem, ↓reduceIte, Nat.reduceEqDiff]
  refine WS_of_block (WS_of_loop (fun c z g => Keep (Old h.n) h g ∧ ∃ k r0 f, c = n + 1 - k ∧ k ≤ n + 1 ∧ CBox natC r0 f g ∧ f.length = n ∧ h.n ≤ r0 ∧ (∀ i, i < n → lv f i = jacN l k i) ∧ z 0 = .int .i64 (n : Int) ∧ z 1 = v ∧ z 5 = .slice r0 0 n 1 ∧ z 6 = .int .i64 (k : Int)) ?_ (n + 1) ?_)
  case refine_2 => exact ⟨k1, 0, h.n, _, by simp, by omega, f1, by simp, Nat.le_refl _, hrep, rfl, rfl, rfl, rfl⟩
  rintro c z g ⟨kg, k, r0, f, rfl, hk, fg, fl, hr0, hf, z0, z1, z5, z6⟩
  have wg := kg.wf wf
  show WS E doormanref10_Levels_l21 _ _ _ _
  refine WS_of_seq (WS_of_seq (WS_of_ops ?_))
  simp only [doormanref10_Levels_r3, go_sem, ↓reduceIte, Nat.reduceEqDiff, z0, z6]
  refine WS_of_cond ?_
  simp only [go_sem, ↓reduceIte]
  by_cases hkn : k ≤ n
  case neg =>
    have hke : k = n + 1 := by omega
    subst hke
    have : ¬ (((n + 1 : Nat) : Int) ≤ (n : Int)) := by omega
    simp only [this, decide_false, Bool.false_eq_true, ↓reduceIte]
    refine WS_of_exit ?_
    simp only [go_sem, ↓reduceIte]
    refine WS_of_seq (WS_of_ops ?_)
    simp only [doormanref10_Levels_r22, go_sem, ↓reduceIte, Nat.reduceEqDiff, z5]
    refine WS_of_ret ?_
    simp only [go_sem, doormanref10_Levels_a, ↓reduceIte, Nat.reduceEqDiff]
    exact ⟨kg, r0, f, rfl, fg, fl, hr0, hf⟩
  have hkn' : ((k : Int) ≤ (n : Int)) := by omega
  simp only [hkn', decide_true, ↓reduceIte]
  refine WS_of_skip ?_
  simp only [go_sem]
  refine WS_of_seq (WS_of_block (WS_of_seq (WS_of_ops ?_)))
  simp only [doormanref10_Levels_r4, go_sem, ↓reduceIte, Nat.reduceEqDiff, z0, hmk g wg]
  have f2 : CBox natC g.n (List.replicate n 0) (g.new ((List.replicate n 0).map natC)) := Box.new wg _
  have k2 : Keep (Old g.n) g (g.new ((List.replicate n 0).map natC)) := Keep.new (Nat.le_refl _) _
  have hr0g := fg.lt wg
  generalize hg2 : g.new ((List.replicate n 0).map natC) = g2 at f2 k2
  have hng : h.n ≤ g.n := kg.n
  generalize hr1 : g.n = r1 at f2
  -- the copy
  refine WS_mid (fun z g' => Keep (Old g.n) g g' ∧ ∃ f', CBox natC r1 f' g' ∧ f'.length = n ∧ (∀ i, i < n → lv f' i = lv f i) ∧ z 0 = .int .i64 (n : Int) ∧ z 1 = v ∧ z 5 = .slice r0 0 n 1 ∧ z 6 = .int .i64 (k : Int) ∧ z 7 = .slice r1 0 n 1) ?_ ?_
  · refine WS_of_seq (WS_of_ops ?_)
    simp only [doormanref10_Levels_r5, go_sem, ↓reduceIte, Nat.reduceEqDiff]
    refine WS_of_block (WS_of_loop (fun c z g' => Keep (Old g.n) g g' ∧ ∃ i f', c = n - i ∧ i ≤ n ∧ CBox natC r1 f' g' ∧ f'.length = n ∧ (∀ j, j < i → lv f' j = lv f j) ∧ z 0 = .int .i64 (n : Int) ∧ z 1 = v ∧ z 5 = .slice r0 0 n 1 ∧ z 6 = .int .i64 (k : Int) ∧ z 7 = .slice r1 0 n 1 ∧ z 8 = .int .i64 (i : Int)) ?_ n ?_)
    case refine_2 => exact ⟨k2, 0, _, by simp, by omega, f2, by simp, fun j hj => by omega, z0, z1, z5, z6, rfl, rfl⟩
    clear z0 z1 z5 z6
    rintro c z g' ⟨kg', i, f', rfl, hi, fg', fl', hf', z0, z1, z5, z6, z7, z8⟩
    have wg' := kg'.wf wg
    have fgg : CBox natC r0 f g' := fg.keep kg' hr0g
    show WS E doormanref10_Levels_l9 _ _ _ _
    refine WS_of_seq (WS_of_seq (WS_of_ops ?_))
    simp only [doormanref10_Levels_r6, go_sem, ↓reduceIte, Nat.reduceEqDiff, z0, z8]
    refine WS_of_cond ?_
    simp only [go_sem, ↓reduceIte]
    by_cases hin' : i < n
    case neg =>
      have hie : i = n := by omega
      subst hie
      simp only [Int.lt_irrefl, decide_false, Bool.false_eq_true, ↓reduceIte]
      refine WS_of_exit ?_
      simp only [go_sem, ↓reduceIte]
      exact ⟨trivial, kg', f', fg', fl', hf', z0, z1, z5, z6, z7⟩
    have hii : ((i : Int) < (n : Int)) := by omega
    simp only [hii, decide_true, ↓reduceIte]
    refine WS_of_skip ?_
    simp only [go_sem]
    refine WS_of_seq (WS_of_block (WS_of_ops ?_))
    have ia := fgg.at (i := i) (n := n) (by omega) fl.symm .i64
    rw [lv_get (by omega)] at ia
    have ja := fg'.at (i := i) (n := n) (by omega) fl'.symm .i64
    obtain ⟨g5, e5, f5, k5⟩ := fg'.put nat1 wg' (i := i) (by omega) (lv f i)
    simp only [natC] at e5
    simp only [doormanref10_Levels_r7, go_sem, ↓reduceIte, Nat.reduceEqDiff, z5, z7, z8, ia.1, ia.2, ja.1, e5]
    refine WS_of_ops ?_
    simp only [doormanref10_Levels_r8, go_sem, ↓reduceIte, Nat.reduceEqDiff, z8]
    refine ⟨n - (i + 1), by omega, kg'.trans (k5.old wg' (N := g.n) kg'.n (by simp; omega)), i + 1, _, rfl, by omega, f5, by simp [fl'], ?_, z0, z1, z5, z6, z7, ?_⟩
    · intro j hj
      rw [lv_set (by omega)]
      by_cases hji : j = i
      · rw [if_pos hji, hji]
      · rw [if_neg hji]; exact hf' j (by omega)
    · rw [show ((i : Int) + 1) = ((i + 1 : Nat) : Int) from rfl, wrapI (by omega)]
  clear z0 z1 z5 z6
  rintro z g3 ⟨kg3, f3, fg3, fl3, hf3, z0, z1, z5, z6, z7⟩
  -- the edges
  refine WS_mid (fun z g' => Keep (Old g.n) g g' ∧ ∃ f', CBox natC r1 f' g' ∧ f'.length = n ∧ (∀ i, i < n → lv f' i = jacN l (k + 1) i) ∧ z 0 = .int .i64 (n : Int) ∧ z 1 = v ∧ z 6 = .int .i64 (k : Int) ∧ z 7 = .slice r1 0 n 1) ?_ ?_
  · refine WS_of_seq (WS_of_ops ?_)
    simp only [doormanref10_Levels_r10, go_sem, ↓reduceIte, Nat.reduceEqDiff]
    refine WS_of_block (WS_of_loop (fun c z g' => Keep (Old g.n) g g' ∧ ∃ i f', c = l.length - i ∧ i ≤ l.length ∧ CBox natC r1 f' g' ∧ f'.length = n ∧ (∀ j, j < n → lv f' j = (l.take i).foldl (jacStep (jacN l k) j) (jacN l k j)) ∧ z 0 = .int .i64 (n : Int) ∧ z 1 = v ∧ z 5 = .slice r0 0 n 1 ∧ z 6 = .int .i64 (k : Int) ∧ z 7 = .slice r1 0 n 1 ∧ z 9 = .int .i64 (i : Int)) ?_ l.length ?_)
    case refine_2 => exact ⟨kg3, 0, f3, by simp, by omega, fg3, fl3, fun j hj => by rw [hf3 j hj, hf j hj]; rfl, z0, z1, z5, z6, z7, rfl⟩
    clear z0 z1 z5 z6 z7
    rintro c z g' ⟨kg', i, f', rfl, hi, fg', fl', hf', z0, z1, z5, z6, z7, z9⟩
    have wg' := kg'.wf wg
    have fgg : CBox natC r0 f g' := fg.keep kg' hr0g
    show WS E doormanref10_Levels_l18 _ _ _ _
    refine WS_of_seq (WS_of_seq (WS_of_ops ?_))
    simp only [doormanref10_Levels_r11, go_sem, ↓reduceIte, Nat.reduceEqDiff, z1, z9, b.len]
    refine WS_of_cond ?_
    simp only [go_sem, ↓reduceIte]
    by_cases hil : i < l.length
    case neg =>
      have hie : i = l.length := by omega
      subst hie
      simp only [Int.lt_irrefl, decide_false, Bool.false_eq_true, ↓reduceIte]
      refine WS_of_exit ?_
      simp only [go_sem, ↓reduceIte]
      rw [List.take_length] at hf'
      exact ⟨trivial, kg', f', fg', fl', hf', z0, z1, z6, z7⟩
    have hii : ((i : Int) < (l.length : Int)) := by omega
    simp only [hii, decide_true, ↓reduceIte]
    refine WS_of_skip ?_
    simp only [go_sem]
    obtain ⟨po, pj, e1, hkk⟩ := b.atK bs hil
    obtain ⟨c0, c1, c2⟩ := hkk g' (kg.then (Nat.le_refl _) kg')
    have hmemi := List.getElem_mem hil
    have htk : l.take (i + 1) = l.take i ++ [l[i]] := by rw [List.take_add_one, List.getElem?_eq_getElem hil]; rfl
    obtain ⟨xa, xc, xw, hx, ha, hc⟩ := off_in (hin _ hmemi)
    rw [hx] at c0 c1 c2 htk
    have ic := fgg.at (i := xc) (n := n) (by omega) fl.symm .i64
    rw [lv_get (by omega), hf xc hc] at ic
    have ja := fg'.at (i := xa) (n := n) (by omega) fl'.symm .i64
    rw [lv_get (by omega)] at ja
    have hle := jacN_le l k xc
    have hstep : ∀ j, (l.take (i + 1)).foldl (jacStep (jacN l k) j) (jacN l k j) = if xa = j then max ((l.take i).foldl (jacStep (jacN l k) j) (jacN l k j)) (jacN l k xc + wt xw) else (l.take i).foldl (jacStep (jacN l k) j) (jacN l k j) := by
      intro j
      rw [htk, List.foldl_append]
      simp only [List.foldl_cons, List.foldl_nil, jacStep, Int.toNat_natCast]
    refine WS_of_seq (WS_of_block (WS_of_seq (WS_of_ops ?_)))
    simp only [doormanref10_Levels_r12, go_sem, ↓reduceIte, Nat.reduceEqDiff, z1, z5, z9, e1, fieldAddrA, c1, ic.1, ic.2]
    refine WS_mid (fun z' g4 => g4 = g' ∧ z' 0 = .int .i64 (n : Int) ∧ z' 1 = v ∧ z' 5 = .slice r0 0 n 1 ∧ z' 6 = .int .i64 (k : Int) ∧ z' 7 = .slice r1 0 n 1 ∧ z' 9 = .int .i64 (i : Int) ∧ z' 10 = natC (jacN l k xc + wt xw)) ?_ ?_
    · refine WS_of_seq (WS_of_ops ?_)
      simp only [doormanref10_Levels_r13, go_sem, ↓reduceIte, Nat.reduceEqDiff, z1, z9, e1, fieldAddrA, c2]
      refine WS_of_cond ?_
      cases xw
      · simp only [go_sem, ↓reduceIte, Bool.false_eq_true]
        refine WS_of_skip ?_
        simp only [go_sem]
        exact ⟨trivial, trivial, z0, z1, z5, z6, z7, z9, rfl⟩
      · simp only [go_sem, ↓reduceIte]
        refine WS_of_ops ?_
        simp only [doormanref10_Levels_r14, go_sem, ↓reduceIte, Nat.reduceEqDiff]
        refine ⟨trivial, trivial, z0, z1, z5, z6, z7, z9, ?_⟩
        rw [show ((jacN l k xc : Int) + 1) = ((jacN l k xc + 1 : Nat) : Int) from rfl, wrapI (by omega)]
        rfl
    clear z0 z1 z5 z6 z7 z9
    rintro z' g4 ⟨rfl, z0, z1, z5, z6, z7, z9, z10⟩
    refine WS_of_seq (WS_of_ops ?_)
    simp only [doormanref10_Levels_r15, go_sem, ↓reduceIte, Nat.reduceEqDiff, z1, z7, z9, z10, e1, fieldAddrA, c0, ja.1, ja.2]
    refine WS_of_cond ?_
    simp only [go_sem, ↓reduceIte]
    have hwrap : IntKind.i64.wrap ((i : Int) + 1) = ((i + 1 : Nat) : Int) := by rw [show ((i : Int) + 1) = ((i + 1 : Nat) : Int) from rfl, wrapI (by omega)]
    by_cases hgt : lv f' xa < jacN l k xc + wt xw
    · have hgt' : ((lv f' xa : Int) < ((jacN l k xc + wt xw : Nat) : Int)) := by omega
      simp only [hgt', decide_true, ↓reduceIte]
      refine WS_of_ops ?_
      obtain ⟨g5, e5, f5, k5⟩ := fg'.put nat1 wg' (i := xa) (by omega) (jacN l k xc + wt xw)
      simp only [doormanref10_Levels_r16, go_sem, ↓reduceIte, Nat.reduceEqDiff, z1, z7, z9, z10, e1, fieldAddrA, c0, ja.1, e5]
      refine WS_of_ops ?_
      simp only [doormanref10_Levels_r17, go_sem, ↓reduceIte, Nat.reduceEqDiff, z9]
      refine ⟨l.length - (i + 1), by omega, kg'.trans (k5.old wg' (N := g.n) kg'.n (by simp; omega)), i + 1, _, rfl, by omega, f5, by simp [fl'], ?_, z0, z1, z5, z6, z7, by rw [hwrap]⟩
      intro j hj
      rw [lv_set (by omega), hstep]
      have hj' := hf' j hj
      by_cases hja : j = xa
      · subst hja; rw [if_pos rfl, if_pos rfl]; omega
      · rw [if_neg hja, if_neg (by omega)]; exact hj'
    · have hgt' : ¬ ((lv f' xa : Int) < ((jacN l k xc + wt xw : Nat) : Int)) := by omega
      simp only [hgt', decide_false, Bool.false_eq_true, ↓reduceIte]
      refine WS_of_skip ?_
      simp only [go_sem]
      refine WS_of_ops ?_
      simp only [doormanref10_Levels_r17, go_sem, ↓reduceIte, Nat.reduceEqDiff, z9]
      refine ⟨l.length - (i + 1), by omega, kg', i + 1, f', rfl, by omega, fg', fl', ?_, z0, z1, z5, z6, z7, by rw [hwrap]⟩
      intro j hj
      rw [hstep]
      have hj' := hf' j hj
      by_cases hja : xa = j
      · subst hja; rw [if_pos rfl]; omega
      · rw [if_neg hja]; exact hj'
  clear z0 z1 z5 z6 z7
  rintro z g4 ⟨kg4, f4, fg4, fl4, hf4, z0, z1, z6, z7⟩
  refine WS_of_ops ?_
  simp only [doormanref10_Levels_r19, go_sem, ↓reduceIte, Nat.reduceEqDiff, z7]
  refine WS_of_ops ?_
  simp only [doormanref10_Levels_r20, go_sem, ↓reduceIte, Nat.reduceEqDiff, z6]
  refine ⟨n + 1 - (k + 1), by omega, kg.then (Nat.le_refl _) kg4, k + 1, r1, f4, rfl, by omega, fg4, fl4, by omega, hf4, z0, z1, rfl, ?_⟩
  rw [show ((k : Int) + 1) = ((k + 1 : Nat) : Int) from rfl, wrapI (by omega)]
end Go.Proofs.YtaahagjaldgmoaaDoor.Ev.C

/- A table of truth values: rows of one's own, and a row of them. -/
namespace Go.Proofs.YtaahagjaldgmoaaDoor.Ev
set_option linter.unusedSimpArgs false
set_option linter.unusedVariables false
def rowC (n : Nat) (r : Nat) : AV := .slice r 0 n 1
def at2 (B : List (List Bool)) (i j : Nat) : Bool := (B.getD i []).getD j false
/-- m rows of n cells -/
structure Mat (N : Nat) (h : H) (v : AV) (m n : Nat) (rs : List Nat) (B : List (List Bool)) : Prop where
  rl : rs.length = m
  bl : B.length = m
  sl : Sl h 1 v m (rs.map (rowC n))
  grp : (rs = [] ∧ v = .nils) ∨ ∃ g, N ≤ g ∧ Grp g h v ∧ g ∉ rs
  nd : rs.Nodup
  ge : ∀ r ∈ rs, N ≤ r
  box : ∀ (i r : Nat) (f : List Bool), rs[i]? = some r → B[i]? = some f → CBox AV.bool r f h ∧ f.length = n
theorem nodup_at : ∀ {l : List Nat} {i j x : Nat}, l.Nodup → l[i]? = some x → l[j]? = some x → i = j
  | [], i, j, x, _, h, _ => by simp at h
  | a :: r, 0, 0, x, _, _, _ => rfl
  | a :: r, 0, j + 1, x, nd, h1, h2 => by
    simp only [List.getElem?_cons_zero, Option.some.injEq, List.getElem?_cons_succ] at h1 h2
    subst h1
    exact absurd (List.mem_of_getElem? h2) (List.nodup_cons.1 nd).1
  | a :: r, i + 1, 0, x, nd, h1, h2 => by
    simp only [List.getElem?_cons_zero, Option.some.injEq, List.getElem?_cons_succ] at h1 h2
    subst h2
    exact absurd (List.mem_of_getElem? h1) (List.nodup_cons.1 nd).1
  | a :: r, i + 1, j + 1, x, nd, h1, h2 => by
    simp only [List.getElem?_cons_succ] at h1 h2
    rw [nodup_at (List.nodup_cons.1 nd).2 h1 h2]
theorem at2_set {B : List (List Bool)} {i j : Nat} {f : List Bool} {b : Bool} (hf : B[i]? = some f) (hj : j < f.length) (i' j' : Nat) :
    at2 (B.set i (f.set j b)) i' j' = if i' = i ∧ j' = j then b else at2 B i' j' := by
  have hi := (List.getElem?_eq_some_iff.1 hf).1
  unfold at2
  simp only [List.getD_eq_getElem?_getD, List.getElem?_set]
  by_cases h1 : i = i'
  · subst h1
    rw [if_pos rfl, if_pos hi, hf]
    simp only [Option.getD_some, List.getElem?_set]
    by_cases h2 : j = j'
    · subst h2; simp [hj]
    · rw [if_neg h2, if_neg (by omega)]
  · rw [if_neg h1, if_neg (by omega)]
theorem at2_false {B : List (List Bool)} {n : Nat} (h : ∀ i j, at2 B i j = false) (i j : Nat) : at2 (B ++ [List.replicate n false]) i j = false := by
  unfold at2
  simp only [List.getD_eq_getElem?_getD]
  by_cases h1 : i < B.length
  · rw [List.getElem?_append_left h1]
    simpa [at2, List.getD_eq_getElem?_getD] using h i j
  · have h1' : B.length ≤ i := by omega
    rw [List.getElem?_append_right h1']
    by_cases h2 : i - B.length = 0
    · rw [h2]
      simp only [List.getElem?_cons_zero, Option.getD_some, List.getElem?_replicate]
      split <;> rfl
    · have h3 : [List.replicate n false][i - B.length]? = none := List.getElem?_eq_none (by simp only [List.length_singleton]; omega)
      rw [h3]; rfl
theorem at2_row {B : List (List Bool)} {i j : Nat} {f : List Bool} (hf : B[i]? = some f) (hj : j < f.length) : f[j] = at2 B i j := by
  unfold at2
  simp only [List.getD_eq_getElem?_getD, hf, Option.getD_some, List.getElem?_eq_getElem hj]
section
variable {N m n : Nat} {h : H} {v : AV} {rs : List Nat} {B : List (List Bool)}
theorem Mat.nil (N : Nat) (h : H) (n : Nat) : Mat N h .nils 0 n [] [] := ⟨rfl, rfl, Sl.nil h 1, .inl ⟨rfl, rfl⟩, List.nodup_nil, by simp, fun i r f h1 => by simp at h1⟩
/-- a row -/
theorem Mat.row (M : Mat N h v m n rs B) {i : Nat} (hi : i < m) : ∃ p r f, indexAddrA 1 v (.int .i64 (i : Int)) = some p ∧ loadA h false 1 p = some (.slice r 0 n 1) ∧ rs[i]? = some r ∧ B[i]? = some f ∧ CBox AV.bool r f h ∧ f.length = n := by
  obtain ⟨o, j, row, rfl, e, hrow, hle, hcs⟩ := M.sl.addr hi (by decide) .i64
  have hr : rs[i]? = some (rs[i]'(by rw [M.rl]; exact hi)) := List.getElem?_eq_getElem _
  have hb : B[i]? = some (B[i]'(by rw [M.bl]; exact hi)) := List.getElem?_eq_getElem _
  obtain ⟨b1, b2⟩ := M.box i _ _ hr hb
  refine ⟨_, _, _, e, ?_, hr, hb, b1, b2⟩
  simp only [loadA, hrow, Bool.false_eq_true, if_false]
  have h1 : (rs.map (rowC n))[i]? = some (rowC n (rs[i]'(by rw [M.rl]; exact hi))) := by rw [List.getElem?_map, hr]; rfl
  rw [hcs, List.getElem?_take, if_pos (by omega), List.getElem?_drop] at h1
  rw [Nat.mul_one]
  exact h1
/-- a cell -/
theorem Mat.cell (M : Mat N h v m n rs B) {i j : Nat} (hi : i < m) (hj : j < n) : ∃ p r, indexAddrA 1 v (.int .i64 (i : Int)) = some p ∧ loadA h false 1 p = some (.slice r 0 n 1) ∧ rs[i]? = some r ∧ indexAddrA 1 (.slice r 0 n 1) (.int .i64 (j : Int)) = some (.ptr r j) ∧ loadA h false 1 (.ptr r j) = some (.bool (at2 B i j)) := by
  obtain ⟨p, r, f, e1, e2, hr, hb, b1, b2⟩ := M.row hi
  have := b1.at (i := j) (n := n) (by omega) b2.symm .i64
  rw [at2_row hb (by omega)] at this
  exact ⟨p, r, e1, e2, hr, this.1, this.2⟩
/-- a row and its cells -/
theorem Mat.cells (M : Mat N h v m n rs B) {i : Nat} (hi : i < m) : ∃ p r, indexAddrA 1 v (.int .i64 (i : Int)) = some p ∧ loadA h false 1 p = some (.slice r 0 n 1) ∧ rs[i]? = some r ∧
    ∀ j, j < n → indexAddrA 1 (.slice r 0 n 1) (.int .i64 (j : Int)) = some (.ptr r j) ∧ loadA h false 1 (.ptr r j) = some (.bool (at2 B i j)) := by
  obtain ⟨p, r, f, e1, e2, hr, hb, b1, b2⟩ := M.row hi
  refine ⟨p, r, e1, e2, hr, fun j hj => ?_⟩
  have := b1.at (i := j) (n := n) (by omega) b2.symm .i64
  rw [at2_row hb (by omega)] at this
  exact this
/-- a cell is written -/
theorem Mat.put (wf : h.Wf) (M : Mat N h v m n rs B) {i j r : Nat} (hr : rs[i]? = some r) (hj : j < n) (b : Bool) :
    ∃ h' B', storeA h 1 (.ptr r j) (.bool b) = some h' ∧ Mat N h' v m n rs B' ∧ KeepA [r] h h' ∧ ∀ i' j', at2 B' i' j' = if i' = i ∧ j' = j then b else at2 B i' j' := by
  have hi : i < m := by have := (List.getElem?_eq_some_iff.1 hr).1; rw [M.rl] at this; exact this
  have hb : B[i]? = some (B[i]'(by rw [M.bl]; exact hi)) := List.getElem?_eq_getElem _
  obtain ⟨b1, b2⟩ := M.box i _ _ hr hb
  generalize B[i]'(by rw [M.bl]; exact hi) = f at hb b1 b2
  obtain ⟨h', e, f', k⟩ := b1.put bool1 wf (i := j) (by omega) b
  have hrm : r ∈ rs := List.mem_of_getElem? hr
  refine ⟨h', B.set i (f.set j b), e, ⟨M.rl, by simp [M.bl], ?_, ?_, M.nd, M.ge, ?_⟩, k, at2_set hb (by omega)⟩
  · rcases M.grp with ⟨rfl, _⟩ | ⟨g, _, gg, hg⟩
    · cases hrm
    · refine Sl.keep M.sl k (gg.away wf (by simp; intro e; subst e; exact hg hrm) ?_)
      intro x hx; rw [List.mem_singleton.1 hx]; exact b1.root
  · rcases M.grp with hn | ⟨g, hN, gg, hg⟩
    · exact .inl hn
    · refine .inr ⟨g, hN, gg.keep (gg.away wf (by simp; intro e; subst e; exact hg hrm) ?_) k, hg⟩
      intro x hx; rw [List.mem_singleton.1 hx]; exact b1.root
  · intro i' r' f0 h1 h2
    by_cases hii : i' = i
    · subst hii
      rw [hr] at h1; cases h1
      rw [List.getElem?_set_self (by rw [M.bl]; exact hi)] at h2; cases h2
      exact ⟨f', by simp [b2]⟩
    · rw [List.getElem?_set_ne (by omega)] at h2
      obtain ⟨c1, c2⟩ := M.box i' r' f0 h1 h2
      refine ⟨Box.keepA c1 wf k ?_, c2⟩
      simp only [List.mem_singleton]
      intro e; subst e
      have h3 := (List.getElem?_eq_some_iff.1 hr)
      have h4 := (List.getElem?_eq_some_iff.1 h1)
      exact hii (nodup_at M.nd h1 hr)
theorem Mat.keep (wf : h.Wf) (M : Mat N h v m n rs B) {h' : H} (k : Keep (Old h.n) h h') : Mat N h' v m n rs B := by
  refine ⟨M.rl, M.bl, ?_, ?_, M.nd, M.ge, fun i r f h1 h2 => ?_⟩
  · rcases M.grp with ⟨_, rfl⟩ | ⟨g, _, gg, hg⟩
    · exact Sl.keep M.sl k trivial
    · exact Sl.keep M.sl k ((gg.own wf (Nat.le_refl g)).slot wf)
  · rcases M.grp with hn | ⟨g, hN, gg, hg⟩
    · exact .inl hn
    · exact .inr ⟨g, hN, gg.keep ((gg.own wf (Nat.le_refl g)).slot wf) k, hg⟩
  · obtain ⟨c1, c2⟩ := M.box i r f h1 h2
    exact ⟨Box.keep c1 k (Box.lt wf c1), c2⟩
/-- one row more -/
theorem Mat.push (wf : h.Wf) (hN : N ≤ h.n) (M : Mat N h v m n rs B) (hm : m + 1 < 4294967296) :
    ∃ v' h3, appendA ((h.new ((List.replicate n false).map AV.bool)).new [AV.slice h.n 0 n 1]) 1 v (.slice (h.n + 1) 0 1 1) = some (v', h3) ∧ Mat N h3 v' (m + 1) n (rs ++ [h.n]) (B ++ [List.replicate n false]) ∧ Keep (Old N) h h3 := by
  have k1 : Keep (Old h.n) h (h.new ((List.replicate n false).map AV.bool)) := Keep.new (Nat.le_refl _) _
  have b1 : CBox AV.bool h.n (List.replicate n false) (h.new ((List.replicate n false).map AV.bool)) := Box.new wf _
  have wf1 := k1.wf wf
  have hn1 : (h.new ((List.replicate n false).map AV.bool)).n = h.n + 1 := rfl
  generalize h.new ((List.replicate n false).map AV.bool) = h1 at k1 b1 wf1 hn1 ⊢
  have k2 : Keep (Old h1.n) h1 (h1.new [AV.slice h.n 0 n 1]) := Keep.new (Nat.le_refl _) _
  have wf2 := k2.wf wf1
  have b2 : CBox AV.bool h.n (List.replicate n false) (h1.new [AV.slice h.n 0 n 1]) := Box.keep b1 k2 (Box.lt wf1 b1)
  have s2 : Sl (h1.new [AV.slice h.n 0 n 1]) 1 (.slice (h.n + 1) 0 1 1) 1 [rowC n h.n] := by
    have := Sl.new (n := 1) (es := 1) wf1 (vs := [AV.slice h.n 0 n 1]) (by simp)
    rw [hn1] at this
    simpa [rowC] using this
  have hn2 : (h1.new [AV.slice h.n 0 n 1]).n = h.n + 2 := by show h1.n + 1 = _; omega
  have k12 : Keep (Old h.n) h (h1.new [AV.slice h.n 0 n 1]) := k1.then (Nat.le_refl _) k2
  have M2 := M.keep wf k12
  generalize h1.new [AV.slice h.n 0 n 1] = h2 at k2 wf2 b2 s2 hn2 k12 M2 ⊢
  have hlt : ∀ (i r : Nat) (f : List Bool), rs[i]? = some r → B[i]? = some f → r < h.n := fun i r f h1 h2 => Box.lt wf (M.box i r f h1 h2).1
  have hltr : ∀ r ∈ rs, r < h.n := by
    intro r hr
    obtain ⟨i, hi⟩ := List.getElem?_of_mem hr
    have hb : B[i]? = some (B[i]'(by have := (List.getElem?_eq_some_iff.1 hi).1; rw [M.bl, ← M.rl]; exact this)) := List.getElem?_eq_getElem _
    exact hlt i r _ hi hb
  -- what is left to be shown of the heap behind the append
  have fin : ∀ (v' : AV) (h3 : H), Sl h3 1 v' (m + 1) ((rs.map (rowC n)) ++ [rowC n h.n]) → (∃ g, N ≤ g ∧ Grp g h3 v' ∧ g ∉ rs ++ [h.n]) → (∀ (r : Nat) (f : List Bool), r ∈ rs ++ [h.n] → CBox AV.bool r f h2 → CBox AV.bool r f h3) →
      Mat N h3 v' (m + 1) n (rs ++ [h.n]) (B ++ [List.replicate n false]) := by
    intro v' h3 s3 gg hb
    refine ⟨by simp [M.rl], by simp [M.bl], by simpa using s3, .inr gg, ?_, ?_, ?_⟩
    · rw [List.nodup_append]
      refine ⟨M.nd, by simp, ?_⟩
      intro a ha b hb'; rw [List.mem_singleton.1 hb']
      have := hltr a ha; omega
    · intro r hr
      rcases List.mem_append.1 hr with hr | hr
      · exact M.ge r hr
      · rw [List.mem_singleton.1 hr]; exact hN
    · intro i r f h1' h2'
      by_cases hi : i < m
      · rw [List.getElem?_append_left (by rw [M.rl]; exact hi)] at h1'
        rw [List.getElem?_append_left (by rw [M.bl]; exact hi)] at h2'
        obtain ⟨c1, c2⟩ := M2.box i r f h1' h2'
        exact ⟨hb r f (List.mem_append_left _ (List.mem_of_getElem? h1')) c1, c2⟩
      · have him : i = m := by
          have := (List.getElem?_eq_some_iff.1 h1').1
          simp [M.rl] at this; omega
        subst him
        rw [List.getElem?_append_right (by rw [M.rl]; exact Nat.le_refl _), M.rl, Nat.sub_self] at h1'
        rw [List.getElem?_append_right (by rw [M.bl]; exact Nat.le_refl _), M.bl, Nat.sub_self] at h2'
        simp only [List.getElem?_cons_zero, Option.some.injEq] at h1' h2'
        subst h1' h2'
        exact ⟨hb _ _ (by simp) b2, by simp⟩
  rcases M.grp with ⟨rfl, rfl⟩ | ⟨g, hg, gg0, hgr⟩
  · have hm0 : m = 0 := by have := M.rl; simpa using this.symm
    subst hm0
    obtain ⟨v', h3, e, s3, o3, k3⟩ := append_own (N := h2.n) wf2 (Nat.le_refl _) M2.sl trivial s2 (by simp [rowC, AV.one]) (by omega)
    refine ⟨v', h3, e, fin v' h3 (by simpa using s3) ?_ ?_, (k12.less hN).trans (k3.less (by omega))⟩
    · rcases o3.grp with rfl | ⟨g, hg, gg⟩
      · have := s3.len; simp [lenSA] at this
      · exact ⟨g, by omega, gg, by simp; omega⟩
    · intro r f hr hb
      exact Box.keep hb k3 (Box.lt wf2 hb)
  · have hgl : g < h.n := gg0.lt wf
    have gg : Grp g h2 v := gg0.keep ((gg0.own wf (Nat.le_refl g)).slot wf) k12
    obtain ⟨v', h3, e, s3, g3, k3⟩ := append_grp wf2 M2.sl gg s2 (by simp [rowC, AV.one]) (by omega)
    have hgn : g ∉ rs ++ [h.n] := by simp; exact ⟨hgr, by omega⟩
    refine ⟨v', h3, e, fin v' h3 s3 ⟨g, hg, g3, hgn⟩ ?_, (k12.less hN).trans (k3.old wf2 (N := N) (by omega) (by simpa using hg))⟩
    intro r f hr hb
    exact Box.keepA hb wf2 k3 (by simp; intro e; subst e; exact hgn hr)
end
end Go.Proofs.YtaahagjaldgmoaaDoor.Ev

/- The reference's ways, and whether one that has a Not leads back. -/
namespace Go.Proofs.YtaahagjaldgmoaaDoor.Ev.C
open Go Go.Proofs.YtaahagjaldgmoaaDoor.Ev
set_option linter.unusedSimpArgs false
set_option linter.unusedVariables false
/-- what is known of the table within a round -/
structure FW (l : List Ed) (n K i j : Nat) (B : List (List Bool)) : Prop where
  sound : ∀ i' j', i' < n → j' < n → at2 B i' j' = true → Reach l i' j'
  old : ∀ i' j', i' < n → j' < n → PK l K i' j' → at2 B i' j' = true
  new : ∀ i' j', i' < n → j' < n → (i' < i ∨ (i' = i ∧ j' < j)) → PK l (K + 1) i' j' → at2 B i' j' = true
theorem FW.step {l : List Ed} {n K i j : Nat} {B B' : List (List Bool)} (w : FW l n K i j B) (hK : K < n) (hi : i < n) (hj : j < n)
    (hB : ∀ i' j', at2 B' i' j' = if i' = i ∧ j' = j then (at2 B i j || (at2 B i K && at2 B K j)) else at2 B i' j') : FW l n K i (j + 1) B' := by
  have mono : ∀ i' j', at2 B i' j' = true → at2 B' i' j' = true := by
    intro i' j' h
    rw [hB]
    split
    · rename_i he; rw [he.1, he.2] at h; rw [h]; rfl
    · exact h
  refine ⟨fun i' j' h1 h2 h3 => ?_, fun i' j' h1 h2 h3 => mono _ _ (w.old i' j' h1 h2 h3), fun i' j' h1 h2 h3 h4 => ?_⟩
  · rw [hB] at h3
    split at h3
    · rename_i he
      rw [he.1, he.2]
      simp only [Bool.or_eq_true, Bool.and_eq_true] at h3
      rcases h3 with h3 | ⟨h3, h5⟩
      · exact w.sound i j hi hj h3
      · exact (w.sound i K hi hK h3).trans (w.sound K j hK hj h5)
    · exact w.sound i' j' h1 h2 h3
  · by_cases he : i' = i ∧ j' = j
    · obtain ⟨rfl, rfl⟩ := he
      rcases h4 with h4 | ⟨h4, h5⟩
      · exact mono _ _ (w.old i' j' h1 h2 h4)
      · rw [hB, if_pos ⟨rfl, rfl⟩, w.old i' K h1 hK h4, w.old K j' hK h2 h5]; simp
    · exact mono _ _ (w.new i' j' h1 h2 (by omega) h4)
theorem FW.row {l : List Ed} {n K i : Nat} {B : List (List Bool)} (w : FW l n K i n B) : FW l n K (i + 1) 0 B :=
  ⟨w.sound, w.old, fun i' j' h1 h2 h3 h4 => w.new i' j' h1 h2 (by omega) h4⟩
theorem FW.round {l : List Ed} {n K j : Nat} {B : List (List Bool)} (w : FW l n K n j B) : FW l n (K + 1) 0 0 B :=
  ⟨w.sound, fun i' j' h1 h2 h3 => w.new i' j' h1 h2 (by omega) h3, fun i' j' h1 h2 h3 => by omega⟩
theorem ways_spec {E : Env} (he : Std E) {v : AV} {l : List Ed} {n : Nat} {h : H} (b : Eds h v l) (bs : Slot (Old h.n) h v) (hl : l.length < 1000000) (hn : n ≤ 4096) (hin : ∀ e ∈ l, off n e = false) (wf : h.Wf) :
    WCall E n_doormanref10_ways [.int .i64 (n : Int), v] h fun r h' => Keep (Old h.n) h h' ∧ ∃ vm rs B, r = .val vm ∧ Mat h.n h' vm n n rs B ∧ ∀ i j, i < n → j < n → (at2 B i j = true ↔ Reach l i j) := by
  refine WCall_ws (he.ov _ rfl) (he.tT T_doormanref10_ways) (by simp [doormanref10_ways_a]) ?_
  refine WS_of_seq (WS_of_ops ?_)
  simp only [doormanref10_ways_r0, go_sem, ↓reduceIte, Nat.reduceEqDiff]
  refine WS_of_seq (WS_of_ops ?_)
  simp only [doormanref10_ways_r1, go_sem, ↓reduceIte, Nat.reduceEqDiff]
  have hwrap : ∀ i : Nat, i < 5000000 → IntKind.i64.wrap ((i : Int) + 1) = ((i + 1 : Nat) : Int) := fun i hi => by rw [show ((i : Int) + 1) = ((i + 1 : Nat) : Int) from rfl, wrapI (by omega)]
  -- the table is made
  refine WS_mid (fun z g => Keep (Old h.n) h g ∧ ∃ vm rs B, Mat h.n g vm n n rs B ∧ (∀ i j, at2 B i j = false) ∧ z 0 = .int .i64 (n : Int) ∧ z 1 = v ∧ z 5 = vm) ?_ ?_
  · refine WS_of_seq (WS_of_ops ?_)
    simp only [doormanref10_ways_r2, go_sem, ↓reduceIte, Nat.reduceEqDiff]
    refine WS_of_block (WS_of_loop (fun c z g => Keep (Old h.n) h g ∧ ∃ i vm rs B, c = n - i ∧ i ≤ n ∧ Mat h.n g vm i n rs B ∧ (∀ i j, at2 B i j = false) ∧ z 0 = .int .i64 (n : Int) ∧ z 1 = v ∧ z 5 = vm ∧ z 6 = .int .i64 (i : Int)) ?_ n ?_)
    case refine_2 => exact ⟨Keep.refl _ _, 0, _, _, _, by simp, by omega, Mat.nil h.n h n, fun i j => rfl, rfl, rfl, rfl, rfl⟩
    rintro c z g ⟨kg, i, vm, rs, B, rfl, hi, M, hB, z0, z1, z5, z6⟩
    have wg := kg.wf wf
    show WS E doormanref10_ways_l6 _ _ _ _
    refine WS_of_seq (WS_of_seq (WS_of_ops ?_))
    simp only [doormanref10_ways_r3, go_sem, ↓reduceIte, Nat.reduceEqDiff, z0, z6]
    refine WS_of_cond ?_
    simp only [go_sem, ↓reduceIte]
    by_cases hil : i < n
    case neg =>
      have hie : i = n := by omega
      subst hie
      simp only [Int.lt_irrefl, decide_false, Bool.false_eq_true, ↓reduceIte]
      refine WS_of_exit ?_
      simp only [go_sem, ↓reduceIte]
      exact ⟨trivial, kg, vm, rs, B, M, hB, z0, z1, z5⟩
    have hii : ((i : Int) < (n : Int)) := by omega
    simp only [hii, decide_true, ↓reduceIte]
    refine WS_of_skip ?_
    simp only [go_sem]
    have hmk := CBox.make (mk := AV.bool) (h := g) wg (n := n) (bytes := 1) (z := false) (by omega) (by decide)
    obtain ⟨v2, g2, e2, M2, k2⟩ := M.push wg kg.n (by omega)
    have ha : afill (zeros [AV.nils] (1 * 1)) [(0, 1, AV.slice g.n 0 n 1)] = some [AV.slice g.n 0 n 1] := rfl
    have hnn : (g.new ((List.replicate n false).map AV.bool)).n = g.n + 1 := rfl
    refine WS_of_seq (WS_of_block (WS_of_ops ?_))
    simp only [doormanref10_ways_r4, go_sem, ↓reduceIte, Nat.reduceEqDiff, z0, z5, hmk, parts, List.map_cons, List.map_nil, ha, hnn, e2]
    refine WS_of_ops ?_
    simp only [doormanref10_ways_r5, go_sem, ↓reduceIte, Nat.reduceEqDiff, z6]
    exact ⟨n - (i + 1), by omega, kg.trans k2, i + 1, v2, _, _, rfl, by omega, M2, at2_false hB, z0, z1, rfl, by rw [hwrap i (by omega)]⟩
  rintro z g1 ⟨kg1, vm, rs, B1, M1, hB1, z0, z1, z5⟩
  -- the edges
  refine WS_mid (fun z g => Keep (Old h.n) h g ∧ ∃ B, Mat h.n g vm n n rs B ∧ (∀ i j, i < n → j < n → (at2 B i j = true ↔ Edge1 l i j)) ∧ z 0 = .int .i64 (n : Int) ∧ z 5 = vm) ?_ ?_
  · refine WS_of_seq (WS_of_ops ?_)
    simp only [doormanref10_ways_r7, go_sem, ↓reduceIte, Nat.reduceEqDiff]
    refine WS_of_block (WS_of_loop (fun c z g => Keep (Old h.n) h g ∧ ∃ i B, c = l.length - i ∧ i ≤ l.length ∧ Mat h.n g vm n n rs B ∧ (∀ i' j', at2 B i' j' = true ↔ Edge1 (l.take i) i' j') ∧ z 0 = .int .i64 (n : Int) ∧ z 1 = v ∧ z 5 = vm ∧ z 7 = .int .i64 (i : Int)) ?_ l.length ?_)
    case refine_2 => exact ⟨kg1, 0, _, by simp, by omega, M1, fun i j => by rw [hB1]; simp [Edge1], z0, z1, z5, rfl⟩
    clear z0 z1 z5
    rintro c z g ⟨kg, i, B, rfl, hi, M, hB, z0, z1, z5, z7⟩
    have wg := kg.wf wf
    show WS E doormanref10_ways_l11 _ _ _ _
    refine WS_of_seq (WS_of_seq (WS_of_ops ?_))
    simp only [doormanref10_ways_r8, go_sem, ↓reduceIte, Nat.reduceEqDiff, z1, z7, b.len]
    refine WS_of_cond ?_
    simp only [go_sem, ↓reduceIte]
    by_cases hil : i < l.length
    case neg =>
      have hie : i = l.length := by omega
      subst hie
      simp only [Int.lt_irrefl, decide_false, Bool.false_eq_true, ↓reduceIte]
      refine WS_of_exit ?_
      simp only [go_sem, ↓reduceIte]
      rw [List.take_length] at hB
      exact ⟨trivial, kg, B, M, fun i j _ _ => hB i j, z0, z5⟩
    have hii : ((i : Int) < (l.length : Int)) := by omega
    simp only [hii, decide_true, ↓reduceIte]
    refine WS_of_skip ?_
    simp only [go_sem]
    obtain ⟨po, pj, e1, hkk⟩ := b.atK bs hil
    obtain ⟨c0, c1, c2⟩ := hkk g kg
    have hmemi := List.getElem_mem hil
    have htk : l.take (i + 1) = l.take i ++ [l[i]] := by rw [List.take_add_one, List.getElem?_eq_getElem hil]; rfl
    obtain ⟨xa, xc, xw, hx, ha, hc⟩ := off_in (hin _ hmemi)
    rw [hx] at c0 c1 c2 htk
    obtain ⟨q, r, r1, r2, r3, r4⟩ := M.cells ha
    obtain ⟨r5, r6⟩ := r4 xc hc
    obtain ⟨g5, B5, e5, M5, k5, hB5⟩ := M.put wg r3 hc true
    refine WS_of_seq (WS_of_block (WS_of_draw ?_))
    simp only [doormanref10_ways_r9, go_sem, ↓reduceIte, Nat.reduceEqDiff, wanted, z1, z5, z7, e1, fieldAddrA, c0, c1, r1, r2, r5, e5, and_self, true_and, List.filter_cons, List.filter_nil, Nat.testBit, Nat.reduceShiftRight, Nat.reduceAnd, Nat.reduceBNe, Bool.not_false, Bool.not_true, Bool.false_eq_true, bne_self_eq_false]
    refine WS_of_ops ?_
    simp only [doormanref10_ways_r10, go_sem, ↓reduceIte, Nat.reduceEqDiff, z7]
    have hrm := M.ge r (List.mem_of_getElem? r3)
    refine ⟨l.length - (i + 1), by omega, kg.trans (k5.old wg (N := h.n) kg.n (by simpa using hrm)), i + 1, B5, rfl, by omega, M5, ?_, z0, z1, z5, by rw [hwrap i (by omega)]⟩
    intro i' j'
    rw [hB5, htk]
    unfold Edge1
    constructor
    · intro hh
      split at hh
      · rename_i hq
        exact ⟨((xa : Int), (xc : Int), xw), List.mem_append_right _ (List.mem_singleton.2 rfl), by simp [hq.1], by simp [hq.2]⟩
      · obtain ⟨e, he', h1, h2⟩ := (hB i' j').1 hh
        exact ⟨e, List.mem_append_left _ he', h1, h2⟩
    · rintro ⟨e, he', h1, h2⟩
      split
      · rfl
      · rename_i hq
        rcases List.mem_append.1 he' with he' | he'
        · exact (hB i' j').2 ⟨e, he', h1, h2⟩
        · rw [List.mem_singleton.1 he'] at h1 h2
          simp only [Int.toNat_natCast] at h1 h2
          exact absurd ⟨h1.symm, h2.symm⟩ hq
  clear z0 z1 z5
  rintro z g2 ⟨kg2, B2, M2, hB2, z0, z5⟩
  refine WS_mid (fun z g => Keep (Old h.n) h g ∧ ∃ B, Mat h.n g vm n n rs B ∧ (∀ i j, i < n → j < n → (at2 B i j = true ↔ Reach l i j)) ∧ z 5 = vm) ?_ ?_
  · refine WS_of_seq (WS_of_ops ?_)
    simp only [doormanref10_ways_r12, go_sem, ↓reduceIte, Nat.reduceEqDiff]
    refine WS_of_block (WS_of_loop (fun c z g => Keep (Old h.n) h g ∧ ∃ K B, c = n - K ∧ K ≤ n ∧ Mat h.n g vm n n rs B ∧ FW l n K 0 0 B ∧ z 0 = .int .i64 (n : Int) ∧ z 5 = vm ∧ z 8 = .int .i64 (K : Int)) ?_ n ?_)
    case refine_2 => exact ⟨kg2, 0, B2, by simp, by omega, M2, ⟨fun i j h1 h2 h3 => .one ((hB2 i j h1 h2).1 h3), fun i j h1 h2 h3 => (hB2 i j h1 h2).2 h3, fun i j h1 h2 h3 => by omega⟩, z0, z5, rfl⟩
    clear z0 z5
    rintro c z g ⟨kg, K, B, rfl, hK, M, W, z0, z5, z8⟩
    show WS E doormanref10_ways_l24 _ _ _ _
    refine WS_of_seq (WS_of_seq (WS_of_ops ?_))
    simp only [doormanref10_ways_r13, go_sem, ↓reduceIte, Nat.reduceEqDiff, z0, z8]
    refine WS_of_cond ?_
    simp only [go_sem, ↓reduceIte]
    by_cases hKn : K < n
    case neg =>
      have hie : K = n := by omega
      subst hie
      simp only [Int.lt_irrefl, decide_false, Bool.false_eq_true, ↓reduceIte]
      refine WS_of_exit ?_
      simp only [go_sem, ↓reduceIte]
      exact ⟨trivial, kg, B, M, fun i j h1 h2 => ⟨W.sound i j h1 h2, fun r => W.old i j h1 h2 (reach_pk hin r)⟩, z5⟩
    have hKK : ((K : Int) < (n : Int)) := by omega
    simp only [hKK, decide_true, ↓reduceIte]
    refine WS_of_skip ?_
    simp only [go_sem]
    refine WS_of_seq (WS_of_block ?_)
    refine WS_midK (fun z g => Keep (Old h.n) h g ∧ ∃ B, Mat h.n g vm n n rs B ∧ FW l n (K + 1) 0 0 B ∧ z 0 = .int .i64 (n : Int) ∧ z 5 = vm ∧ z 8 = .int .i64 (K : Int)) ?_ ?_
    · refine WS_of_seq (WS_of_ops ?_)
      simp only [doormanref10_ways_r14, go_sem, ↓reduceIte, Nat.reduceEqDiff]
      refine WS_of_block (WS_of_loop (fun c z g => Keep (Old h.n) h g ∧ ∃ i B, c = n - i ∧ i ≤ n ∧ Mat h.n g vm n n rs B ∧ FW l n K i 0 B ∧ z 0 = .int .i64 (n : Int) ∧ z 5 = vm ∧ z 8 = .int .i64 (K : Int) ∧ z 9 = .int .i64 (i : Int)) ?_ n ?_)
      case refine_2 => exact ⟨kg, 0, B, by simp, by omega, M, W, z0, z5, z8, rfl⟩
      clear z0 z5 z8
      rintro c z g ⟨kg, i, B, rfl, hi, M, W, z0, z5, z8, z9⟩
      show WS E doormanref10_ways_l22 _ _ _ _
      refine WS_of_seq (WS_of_seq (WS_of_ops ?_))
      simp only [doormanref10_ways_r15, go_sem, ↓reduceIte, Nat.reduceEqDiff, z0, z9]
      refine WS_of_cond ?_
      simp only [go_sem, ↓reduceIte]
      by_cases hin' : i < n
      case neg =>
        have hie : i = n := by omega
        subst hie
        simp only [Int.lt_irrefl, decide_false, Bool.false_eq_true, ↓reduceIte]
        refine WS_of_exit ?_
        simp only [go_sem, ↓reduceIte]
        exact ⟨trivial, kg, B, M, W.round, z0, z5, z8⟩
      have hii : ((i : Int) < (n : Int)) := by omega
      simp only [hii, decide_true, ↓reduceIte]
      refine WS_of_skip ?_
      simp only [go_sem]
      refine WS_of_seq (WS_of_block ?_)
      refine WS_midK (fun z g => Keep (Old h.n) h g ∧ ∃ B, Mat h.n g vm n n rs B ∧ FW l n K (i + 1) 0 B ∧ z 0 = .int .i64 (n : Int) ∧ z 5 = vm ∧ z 8 = .int .i64 (K : Int) ∧ z 9 = .int .i64 (i : Int)) ?_ ?_
      · refine WS_of_seq (WS_of_ops ?_)
        simp only [doormanref10_ways_r16, go_sem, ↓reduceIte, Nat.reduceEqDiff]
        refine WS_of_block (WS_of_loop (fun c z g => Keep (Old h.n) h g ∧ ∃ j B, c = n - j ∧ j ≤ n ∧ Mat h.n g vm n n rs B ∧ FW l n K i j B ∧ z 0 = .int .i64 (n : Int) ∧ z 5 = vm ∧ z 8 = .int .i64 (K : Int) ∧ z 9 = .int .i64 (i : Int) ∧ z 10 = .int .i64 (j : Int)) ?_ n ?_)
        case refine_2 => exact ⟨kg, 0, B, by simp, by omega, M, W, z0, z5, z8, z9, rfl⟩
        clear z0 z5 z8 z9
        rintro c z g ⟨kg, j, B, rfl, hj, M, W, z0, z5, z8, z9, z10⟩
        have wg := kg.wf wf
        show WS E doormanref10_ways_l20 _ _ _ _
        refine WS_of_seq (WS_of_seq (WS_of_ops ?_))
        simp only [doormanref10_ways_r17, go_sem, ↓reduceIte, Nat.reduceEqDiff, z0, z10]
        refine WS_of_cond ?_
        simp only [go_sem, ↓reduceIte]
        by_cases hjn : j < n
        case neg =>
          have hie : j = n := by omega
          subst hie
          simp only [Int.lt_irrefl, decide_false, Bool.false_eq_true, ↓reduceIte]
          refine WS_of_exit ?_
          simp only [go_sem, ↓reduceIte]
          exact ⟨trivial, kg, B, M, W.row, z0, z5, z8, z9⟩
        have hjj : ((j : Int) < (n : Int)) := by omega
        simp only [hjj, decide_true, ↓reduceIte]
        refine WS_of_skip ?_
        simp only [go_sem]
        obtain ⟨p, r, r1, r2, r3, r4⟩ := M.cells hin'
        obtain ⟨q, s, s1, s2, s3, s4⟩ := M.cells hKn
        obtain ⟨a1, a2⟩ := r4 j hjn
        obtain ⟨b1, b2⟩ := r4 K hKn
        obtain ⟨d1, d2⟩ := s4 j hjn
        obtain ⟨g5, B5, e5, M5, k5, hB5⟩ := M.put wg r3 hjn (at2 B i j || (at2 B i K && at2 B K j))
        have W5 := W.step hKn hin' hjn hB5
        have hrm := M.ge r (List.mem_of_getElem? r3)
        have hk5 := kg.trans (k5.old wg (N := h.n) kg.n (by simpa using hrm))
        refine WS_of_seq (WS_of_block (WS_midK (fun z g => g = g5 ∧ z 0 = .int .i64 (n : Int) ∧ z 5 = vm ∧ z 8 = .int .i64 (K : Int) ∧ z 9 = .int .i64 (i : Int) ∧ z 10 = .int .i64 (j : Int)) (WS_of_draw ?_) ?_))
        · generalize at2 B i j = va at a2 e5
          generalize at2 B i K = vb at b2 e5
          generalize at2 B K j = vc at d2 e5
          cases va <;> cases vb <;> simp only [Bool.true_or, Bool.false_or, Bool.true_and, Bool.false_and] at e5 <;>
            simp only [doormanref10_ways_r18, go_sem, ↓reduceIte, Nat.reduceEqDiff, wanted, beq_self_eq_true, z5, z8, z9, z10, r1, r2, s1, s2, a1, a2, b1, b2, d1, d2, e5, pickA, undefA, and_self, true_and, show (true == false) = false from rfl, show (false == true) = false from rfl, List.filter_cons, List.filter_nil, Nat.testBit, Nat.reduceShiftRight, Nat.reduceAnd, Nat.reduceBNe, Bool.not_false, Bool.not_true, Bool.false_eq_true, bne_self_eq_false] <;>
            exact ⟨z0, trivial⟩
        · clear z0 z5 z8 z9 z10
          rintro z g6 ⟨rfl, z0, z5, z8, z9, z10⟩
          simp only [go_sem]
          refine WS_of_ops ?_
          simp only [doormanref10_ways_r19, go_sem, ↓reduceIte, Nat.reduceEqDiff, z10]
          exact ⟨n - (j + 1), by omega, hk5, j + 1, B5, rfl, by omega, M5, W5, z0, z5, z8, z9, by rw [hwrap j (by omega)]⟩
      · clear z0 z5 z8 z9
        rintro z g6 ⟨kg6, B6, M6, W6, z0, z5, z8, z9⟩
        simp only [go_sem]
        refine WS_of_ops ?_
        simp only [doormanref10_ways_r21, go_sem, ↓reduceIte, Nat.reduceEqDiff, z9]
        exact ⟨n - (i + 1), by omega, kg6, i + 1, B6, rfl, by omega, M6, W6, z0, z5, z8, by rw [hwrap i (by omega)]⟩
    · clear z0 z5 z8
      rintro z g6 ⟨kg6, B6, M6, W6, z0, z5, z8⟩
      simp only [go_sem]
      refine WS_of_ops ?_
      simp only [doormanref10_ways_r23, go_sem, ↓reduceIte, Nat.reduceEqDiff, z8]
      exact ⟨n - (K + 1), by omega, kg6, K + 1, B6, rfl, by omega, M6, W6, z0, z5, by rw [hwrap K (by omega)]⟩
  clear z0 z5
  rintro z g3 ⟨kg3, B3, M3, hB3, z5⟩
  refine WS_of_seq (WS_of_ops ?_)
  simp only [doormanref10_ways_r25, go_sem, ↓reduceIte, Nat.reduceEqDiff, z5]
  refine WS_of_ret ?_
  simp only [go_sem, doormanref10_ways_a, ↓reduceIte, Nat.reduceEqDiff]
  exact ⟨kg3, vm, rs, B3, rfl, M3, hB3⟩
end Go.Proofs.YtaahagjaldgmoaaDoor.Ev.C

/- Does a way that has a Not lead back? -/
namespace Go.Proofs.YtaahagjaldgmoaaDoor.Ev.C
open Go Go.Proofs.YtaahagjaldgmoaaDoor.Ev
set_option linter.unusedSimpArgs false
set_option linter.unusedVariables false
theorem cycle_spec {E : Env} (he : Std E) {v : AV} {l : List Ed} {n : Nat} {h : H} (b : Eds h v l) (bs : Slot (Old h.n) h v) (hl : l.length < 1000000) (hn : n ≤ 4096) (hin : ∀ e ∈ l, off n e = false) (wf : h.Wf) :
    WCall E n_doormanref10_Cycle [.int .i64 (n : Int), v] h fun r h' => Keep (Old h.n) h h' ∧ ∃ t : Bool, r = .val (.bool t) ∧ (t = true ↔ NotCycle l) := by
  refine WCall_ws (he.ov _ rfl) (he.tT T_doormanref10_Cycle) (by simp [doormanref10_Cycle_a]) ?_
  refine WS_of_seq (WS_of_ops ?_)
  simp only [doormanref10_Cycle_r0, go_sem, ↓reduceIte, Nat.reduceEqDiff]
  refine WS_of_seq (WS_of_ops ?_)
  simp only [doormanref10_Cycle_r1, go_sem, ↓reduceIte, Nat.reduceEqDiff, enterS, List.getD_cons_zero, List.getD_cons_succ]
  refine (ways_spec he b bs hl hn hin wf).mono ?_
  rintro _ g ⟨kg, vm, rs, B, rfl, M, hB⟩
  have wg := kg.wf wf
  simp only [go_sem, ↓reduceIte, Nat.reduceEqDiff]
  refine WS_of_seq (WS_of_seq (WS_of_ops ?_))
  simp only [doormanref10_Cycle_r2, go_sem, ↓reduceIte, Nat.reduceEqDiff]
  refine WS_of_block (WS_of_loop (fun c z g' => g' = g ∧ ∃ i, c = l.length - i ∧ i ≤ l.length ∧ (∀ e ∈ l.take i, ¬ (e.2.2 = true ∧ (e.1.toNat = e.2.1.toNat ∨ Reach l e.2.1.toNat e.1.toNat))) ∧ z 1 = v ∧ z 5 = vm ∧ z 6 = .int .i64 (i : Int)) ?_ l.length ?_)
  case refine_2 => exact ⟨rfl, 0, by simp, by omega, by simp, rfl, rfl, rfl⟩
  rintro c z g' ⟨rfl, i, rfl, hi, hno, z1, z5, z6⟩
  show WS E doormanref10_Cycle_l7 _ _ _ _
  refine WS_of_seq (WS_of_seq (WS_of_ops ?_))
  simp only [doormanref10_Cycle_r3, go_sem, ↓reduceIte, Nat.reduceEqDiff, z1, z6, b.len]
  refine WS_of_cond ?_
  simp only [go_sem, ↓reduceIte]
  by_cases hil : i < l.length
  case neg =>
    have hie : i = l.length := by omega
    subst hie
    simp only [Int.lt_irrefl, decide_false, Bool.false_eq_true, ↓reduceIte]
    refine WS_of_exit ?_
    simp only [go_sem, ↓reduceIte]
    refine WS_of_seq (WS_of_ops ?_)
    simp only [doormanref10_Cycle_r8, go_sem, ↓reduceIte, Nat.reduceEqDiff]
    refine WS_of_ret ?_
    simp only [go_sem, doormanref10_Cycle_a, ↓reduceIte, Nat.reduceEqDiff]
    rw [List.take_length] at hno
    refine ⟨kg, false, rfl, ⟨fun hh => (by cases hh), ?_⟩⟩
    rintro ⟨e, he', h1⟩
    exact absurd h1 (hno e he')
  have hii : ((i : Int) < (l.length : Int)) := by omega
  simp only [hii, decide_true, ↓reduceIte]
  refine WS_of_skip ?_
  simp only [go_sem]
  obtain ⟨po, pj, e1, hkk⟩ := b.atK bs hil
  obtain ⟨c0, c1, c2⟩ := hkk g' kg
  have hmemi := List.getElem_mem hil
  have htk : l.take (i + 1) = l.take i ++ [l[i]] := by rw [List.take_add_one, List.getElem?_eq_getElem hil]; rfl
  obtain ⟨xa, xc, xw, hx, ha, hc⟩ := off_in (hin _ hmemi)
  rw [hx] at c0 c1 c2 htk hmemi
  obtain ⟨q, r, r1, r2, r3, r4⟩ := M.cells hc
  obtain ⟨r5, r6⟩ := r4 xa ha
  have hBx := hB xc xa hc ha
  let t : Bool := xw && (decide (xa = xc) || at2 B xc xa)
  have ht : t = true ↔ (xw = true ∧ (xa = xc ∨ Reach l xc xa)) := by simp [t, hBx]
  refine WS_of_seq (WS_of_block (WS_mid (fun z' g => g = g' ∧ z' 1 = v ∧ z' 5 = vm ∧ z' 6 = .int .i64 (i : Int) ∧ z' 50 = .bool t) (WS_of_draw ?_) ?_))
  · cases xw
    · simp only [doormanref10_Cycle_r4, go_sem, ↓reduceIte, Nat.reduceEqDiff, wanted, beq_self_eq_true, z1, z5, z6, e1, fieldAddrA, c0, c1, c2, r1, r2, r5, r6, pickA, undefA, and_self, true_and, show (true == false) = false from rfl, show (false == true) = false from rfl, Bool.false_eq_true]
      exact rfl
    · by_cases hac : xa = xc
      · have hac' : (xa : Int) = (xc : Int) := by omega
        simp only [doormanref10_Cycle_r4, go_sem, ↓reduceIte, Nat.reduceEqDiff, wanted, beq_self_eq_true, z1, z5, z6, e1, fieldAddrA, c0, c1, c2, r1, r2, r5, r6, hac', decide_true, pickA, undefA, and_self, true_and, show (true == false) = false from rfl, show (false == true) = false from rfl, Bool.false_eq_true]
        simp [t, hac]
      · have hac' : ¬ (xa : Int) = (xc : Int) := by omega
        simp only [doormanref10_Cycle_r4, go_sem, ↓reduceIte, Nat.reduceEqDiff, wanted, beq_self_eq_true, z1, z5, z6, e1, fieldAddrA, c0, c1, c2, r1, r2, r5, r6, hac', decide_false, pickA, undefA, and_self, true_and, show (true == false) = false from rfl, show (false == true) = false from rfl, Bool.false_eq_true]
        simp [t, hac]
  clear_value t
  clear z1 z5 z6
  rintro z' g4 ⟨rfl, z1, z5, z6, z50⟩
  refine WS_of_cond ?_
  simp only [go_sem, z50]
  cases t
  · simp only [go_sem, ↓reduceIte, Bool.false_eq_true]
    refine WS_of_skip ?_
    simp only [go_sem]
    refine WS_of_ops ?_
    simp only [doormanref10_Cycle_r6, go_sem, ↓reduceIte, Nat.reduceEqDiff, z6]
    refine ⟨l.length - (i + 1), by omega, trivial, i + 1, rfl, by omega, ?_, z1, z5, ?_⟩
    · intro e he'
      rw [htk] at he'
      rcases List.mem_append.1 he' with he' | he'
      · exact hno e he'
      · rw [List.mem_singleton.1 he']
        simp only [Int.toNat_natCast]
        intro hh
        have := ht.2 hh
        cases this
    · rw [show ((i : Int) + 1) = ((i + 1 : Nat) : Int) from rfl, wrapI (by omega)]
  · simp only [go_sem, ↓reduceIte]
    refine WS_of_seq (WS_of_ops ?_)
    simp only [doormanref10_Cycle_r5, go_sem, ↓reduceIte, Nat.reduceEqDiff]
    refine WS_of_ret ?_
    simp only [go_sem, doormanref10_Cycle_a, ↓reduceIte, Nat.reduceEqDiff]
    refine ⟨kg, true, rfl, ⟨fun _ => ⟨_, hmemi, ?_⟩, fun _ => rfl⟩⟩
    simp only [Int.toNat_natCast]
    exact ht.1 rfl
end Go.Proofs.YtaahagjaldgmoaaDoor.Ev.C
