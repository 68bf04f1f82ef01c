/- Acts in memory; few of them. -/
import Derived.Test.YtmfbememiffkjaaTDevC
import Derived.Test.YtmfbememiffkjaaEv30
namespace Go.Proofs.Ytmfbememiffkjaa.Ev.C
open Go Go.Proofs.Ytmfbememiffkjaa.Ev
set_option linter.unusedSimpArgs false
set_option linter.unusedVariables false
theorem bytesR_get {h : H} {u : AV} {bs : List UInt8} (r : BytesR h [u] bs) : Bytes h u bs ∧ Slot (Old h.n) h u := by
  obtain ⟨v, e, b, sl, _⟩ := r
  cases e
  exact ⟨b, sl⟩
theorem boolsR_get {h : H} {u : AV} {bs : List Bool} (r : BoolsR h [u] bs) : Bools h u bs ∧ Slot (Old h.n) h u := by
  obtain ⟨v, e, b, sl, _⟩ := r
  cases e
  exact ⟨b, sl⟩
structure Act where
  kind : Nat
  at' : Int
  b : List UInt8
  keep : List Bool
def ActR (h : H) (us : List AV) (a : Act) : Prop :=
  ∃ ub uk, us = [.int .u8 (a.kind : Int), .int .i64 a.at', ub, uk] ∧ BytesR h [ub] a.b ∧ BoolsR h [uk] a.keep ∧ a.kind < 256 ∧ -9223372036854775808 ≤ a.at' ∧ a.at' < 9223372036854775808
theorem ActR.stab (h h' : H) (us : List AV) (a : Act) (r : ActR h us a) (k : Keep (Old h.n) h h') : ActR h' us a := by
  obtain ⟨ub, uk, e, rb, rk, w⟩ := r
  exact ⟨ub, uk, e, BytesR.stab _ _ _ _ rb k, BoolsR.stab _ _ _ _ rk k, w⟩
theorem ActR.conv (h : H) (us : List AV) (a : Int × Int × List UInt8 × List Bool × Unit)
    (r : ∃ u1 u2, us = u1 ++ u2 ∧ u1.length = 1 ∧ (u1 = [.int .u8 a.1] ∧ (Lit.int .u8 a.1).wf = true) ∧ ∃ u3 u4, u2 = u3 ++ u4 ∧ u3.length = 1 ∧ (u3 = [.int .i64 a.2.1] ∧ (Lit.int .i64 a.2.1).wf = true) ∧
      ∃ u5 u6, u4 = u5 ++ u6 ∧ u5.length = 1 ∧ BytesR h u5 a.2.2.1 ∧ ∃ u7 u8, u6 = u7 ++ u8 ∧ u7.length = 1 ∧ BoolsR h u7 a.2.2.2.1 ∧ u8 = []) : ∃ b, ActR h us b := by
  obtain ⟨u1, u2, rfl, -, ⟨rfl, w1⟩, u3, u4, rfl, -, ⟨rfl, w2⟩, u5, u6, rfl, h5, r5, u7, u8, rfl, h7, r7, rfl⟩ := r
  obtain ⟨k, hk1, hk2⟩ : ∃ k : Nat, a.1 = k ∧ k < 256 := by
    obtain ⟨x, y⟩ := u8_arg w1
    exact ⟨a.1.toNat, by omega, by omega⟩
  obtain ⟨x, y⟩ := i64_arg w2
  match u5, h5 with
  | [ub], _ =>
    match u7, h7 with
    | [uk], _ => exact ⟨⟨k, a.2.1, a.2.2.1, a.2.2.2.1⟩, ub, uk, by rw [hk1]; rfl, r5, r7, hk2, x, y⟩
def fewA (a : Act) : Bool := decide (a.b.length ≤ 80) && decide (a.keep.length ≤ 60)
def few (al : List Act) : Bool := al.all fewA && decide (al.length ≤ 60)
theorem few_of {al : List Act} (h : few al = true) : al.length ≤ 60 ∧ ∀ a ∈ al, a.b.length ≤ 80 ∧ a.keep.length ≤ 60 := by
  simpa [few, fewA, and_comm] using h
/-- an act's cells -/
theorem acts_get {h : H} {v : AV} {al : List Act} (s : SliceR 4 ActR h [v] al) {i : Nat} (hi : i < al.length) :
    ∃ o q ub uk, indexAddrA 4 v (.int .i64 (i : Int)) = some (.ptr o q) ∧ (Bytes h ub al[i].b ∧ Slot (Old h.n) h ub) ∧ (Bools h uk al[i].keep ∧ Slot (Old h.n) h uk) ∧
      (al[i].kind < 256 ∧ -9223372036854775808 ≤ al[i].at' ∧ al[i].at' < 9223372036854775808) ∧
      ∀ h', Keep (Old h.n) h h' → loadA h' false 1 (.ptr o (q + 0)) = some (.int .u8 (al[i].kind : Int)) ∧ loadA h' false 1 (.ptr o (q + 1)) = some (.int .i64 al[i].at') ∧ loadA h' false 1 (.ptr o (q + 2)) = some ub ∧ loadA h' false 1 (.ptr o (q + 3)) = some uk := by
  obtain ⟨o, q, us, e, hl, ⟨ub, uk, rfl, rb, rk, w⟩, ld⟩ := s.get (by decide) hi .i64
  exact ⟨o, q, ub, uk, e, bytesR_get rb, boolsR_get rk, w, fun h' k => ⟨ld h' k 0 _ rfl, ld h' k 1 _ rfl, ld h' k 2 _ rfl, ld h' k 3 _ rfl⟩⟩
theorem few_spec {h : H} {v : AV} {al : List Act} (s : SliceR 4 ActR h [v] al) : WCall E0 14 [v] h fun r h' => h' = h ∧ r = .val (.bool (few al)) := by
  refine WCall_ws (ovn 14) U14 (by simp [f14_a]) ?_
  show WS E0 f14_c [] _ _ _
  have hlen := s.len
  have hmax : al.length < 9223372036854775808 := by have := hlen.2; unfold maxLen at this; omega
  refine WS_of_seq (WS_of_ops ?_)
  simp only [f14_r0, go_sem, ↓reduceIte]
  refine WS_of_seq (WS_of_seq (WS_of_ops ?_))
  simp only [f14_r1, go_sem, ↓reduceIte, Nat.reduceEqDiff]
  refine WS_of_block (WS_of_loop (fun m s h' => ∃ j, j + m = al.length ∧ s 3 = .int .i64 (j : Int) ∧ s 0 = v ∧ h' = h ∧ (al.take j).all fewA = true) ?_ al.length ?_)
  · rintro m s' h' ⟨j, hjm, s3, s0, rfl, hall⟩
    show WS E0 f14_l6 [] _ _ _
    refine WS_of_seq (WS_of_seq (WS_of_ops ?_))
    by_cases c : j < al.length
    · have c' : (j : Int) < (al.length : Int) := by omega
      simp only [f14_r2, go_sem, ↓reduceIte, Nat.reduceEqDiff, s3, s0, hlen.1, c', decide_true]
      refine WS_of_cond ?_
      simp only [go_sem, ↓reduceIte]
      refine WS_of_skip ?_
      simp only [go_sem]
      obtain ⟨o, q, ub, uk, e, ⟨bb, _⟩, ⟨bk, _⟩, w, ld⟩ := acts_get s c
      obtain ⟨ld0, ld1, ld2, ld3⟩ := ld h' (Keep.refl _ _)
      refine WS_of_seq (WS_of_block (WS_of_seq (WS_of_ops ?_)))
      have bad : fewA al[j] = false → ∀ {s : S}, WS E0 (.seq (.ops f14_r4) .ret) [] (atEnd f14_a.results fun r x => x = h' ∧ r = .val (.bool (few al))) s h' := by
        intro hb s
        have hf : few al = false := by
          unfold few
          rw [Bool.and_eq_false_iff]
          refine .inl ?_
          rw [List.all_eq_false]
          exact ⟨_, List.getElem_mem c, by simp [hb]⟩
        refine WS_of_seq (WS_of_ops ?_)
        simp only [f14_r4, go_sem, ↓reduceIte, Nat.reduceEqDiff]
        refine WS_of_ret ?_
        simp only [f14_a, go_sem, ↓reduceIte, Nat.reduceEqDiff]
        exact ⟨trivial, by rw [hf]⟩
      by_cases c1 : 80 < al[j].b.length
      · have c1' : (80 : Int) < (al[j].b.length : Int) := by omega
        simp only [f14_r3, go_sem, ↓reduceIte, Nat.reduceEqDiff, s3, s0, e, ld2, bb.len, c1', decide_true, Bool.true_eq_false]
        refine WS_of_cond ?_
        simp only [go_sem, ↓reduceIte]
        have hf : few al = false := by
          unfold few
          rw [Bool.and_eq_false_iff]
          refine .inl ?_
          rw [List.all_eq_false]
          exact ⟨_, List.getElem_mem c, by simp [fewA, c1]; omega⟩
        refine WS_of_seq (WS_of_ops ?_)
        simp only [f14_r4, go_sem, ↓reduceIte, Nat.reduceEqDiff]
        refine WS_of_ret ?_
        simp only [f14_a, go_sem, ↓reduceIte, Nat.reduceEqDiff, hf]
        exact ⟨trivial, trivial⟩
      · have c1' : ¬ (80 : Int) < (al[j].b.length : Int) := by omega
        by_cases c2 : 60 < al[j].keep.length
        · have c2' : (60 : Int) < (al[j].keep.length : Int) := by omega
          simp only [f14_r3, go_sem, ↓reduceIte, Nat.reduceEqDiff, s3, s0, e, ld2, ld3, bb.len, bk.len, c1', c2', decide_true, decide_false, Bool.false_eq_true]
          refine WS_of_cond ?_
          simp only [go_sem, ↓reduceIte]
          have hf : few al = false := by
            unfold few
            rw [Bool.and_eq_false_iff]
            refine .inl ?_
            rw [List.all_eq_false]
            exact ⟨_, List.getElem_mem c, by simp [fewA, c2]⟩
          refine WS_of_seq (WS_of_ops ?_)
          simp only [f14_r4, go_sem, ↓reduceIte, Nat.reduceEqDiff]
          refine WS_of_ret ?_
          simp only [f14_a, go_sem, ↓reduceIte, Nat.reduceEqDiff, hf]
          exact ⟨trivial, trivial⟩
        · have c2' : ¬ (60 : Int) < (al[j].keep.length : Int) := by omega
          simp only [f14_r3, go_sem, ↓reduceIte, Nat.reduceEqDiff, s3, s0, e, ld2, ld3, bb.len, bk.len, c1', c2', decide_false, Bool.false_eq_true]
          refine WS_of_cond ?_
          simp only [go_sem, ↓reduceIte, Bool.false_eq_true]
          refine WS_of_skip ?_
          simp only [go_sem]
          refine WS_of_ops ?_
          have hw : IntKind.i64.wrap ((j : Int) + 1) = ((j + 1 : Nat) : Int) := by rw [wrap_i64 (by omega) (by omega)]; omega
          simp only [f14_r5, go_sem, ↓reduceIte, Nat.reduceEqDiff, s3, hw]
          refine ⟨m - 1, by omega, j + 1, by omega, rfl, s0, trivial, ?_⟩
          rw [← List.take_append_getElem c, List.all_append, hall]
          simp [fewA]
          omega
    · have c' : ¬ (j : Int) < (al.length : Int) := by omega
      simp only [f14_r2, go_sem, ↓reduceIte, Nat.reduceEqDiff, s3, s0, hlen.1, c', decide_false]
      refine WS_of_cond ?_
      simp only [go_sem, ↓reduceIte, Bool.false_eq_true]
      refine WS_of_exit ?_
      simp only [go_sem, ↓reduceIte]
      refine WS_of_seq (WS_of_ops ?_)
      simp only [f14_r7, go_sem, ↓reduceIte, Nat.reduceEqDiff, s0, hlen.1]
      refine WS_of_ret ?_
      simp only [f14_a, go_sem, ↓reduceIte, Nat.reduceEqDiff]
      obtain rfl : j = al.length := by omega
      rw [List.take_length] at hall
      refine ⟨trivial, ?_⟩
      unfold few
      rw [hall]
      simp
      omega
  · exact ⟨0, by omega, rfl, rfl, rfl, by simp⟩
end Go.Proofs.Ytmfbememiffkjaa.Ev.C
