/- Answers as bytes: the reference's Put, walked. -/
import Derived.Test.YthhibhhpcjggnabTRep2
namespace Go.Proofs.Ythhibhhpcjggnab.Ev.C
open Go Go.Proofs.Ythhibhhpcjggnab.Ev
set_option linter.unusedSimpArgs false
set_option linter.unusedVariables false
theorem mayR_false {r : Rep} (h : mayR r = false) : putR r = [] := by simp [putR, h]
theorem refPut_spec {h : H} {r : Rep} {vl : AV} {M : Nat} (wf : h.Wf) (hs : Strs h vl r.list) (sl : Slot (Old h.n) h vl) (hM : M ≤ 100000) (hf : FewR M r) :
    WCall E0 35 [.agg (repL r vl (.str r.more))] h fun x h' => x = .val (.str (putR r)) ∧ Keep (Old h.n) h h' := by
  have o1 : vl.one = true := (AV.one_of_len hs.len).1
  refine WCall_ws rfl T35 (by simp [f35_a]) ?_
  show WS E0 f35_c [] _ _ _
  refine WS_of_seq (WS_of_ops ?_)
  simp only [f35_r0, go_sem, ↓reduceIte, Nat.reduceEqDiff, AV.cells]
  have b1 := Box.new wf (repL r vl (.str r.more))
  have k1 : Keep (Old h.n) h (h.new (repL r vl (.str r.more))) := Keep.new (Nat.le_refl _) _
  generalize h.new (repL r vl (.str r.more)) = h1 at b1 k1 ⊢
  have wf1 := k1.wf wf
  have s1 := hs.keep k1 sl
  have sl1 := sl.keep k1 (K' := Old h1.n) fun o ho => Nat.lt_of_lt_of_le ho k1.n
  have hlt := b1.lt wf1
  refine WS_of_seq (WS_of_ops ?_)
  simp only [f35_r1, go_sem, ↓reduceIte, Nat.reduceEqDiff, Nat.zero_add, b1.load, List.getElem?_cons_succ, List.getElem?_cons_zero]
  refine in44.mono ?_
  rintro x h' ⟨rfl, rfl⟩
  simp only [go_sem, ↓reduceIte, Nat.reduceEqDiff]
  refine WS_of_seq (WS_of_ops ?_)
  simp only [f35_r2, go_sem, ↓reduceIte, Nat.reduceEqDiff, Nat.zero_add, b1.load, List.getElem?_cons_succ, List.getElem?_cons_zero]
  refine in44.mono ?_
  rintro x h' ⟨rfl, rfl⟩
  simp only [go_sem, ↓reduceIte, Nat.reduceEqDiff]
  refine WS_of_seq (WS_of_ops ?_)
  simp only [f35_r3, go_sem, ↓reduceIte, Nat.reduceEqDiff, Nat.zero_add, b1.load, List.getElem?_cons_succ, List.getElem?_cons_zero]
  refine in44.mono ?_
  rintro x h' ⟨rfl, rfl⟩
  simp only [go_sem, ↓reduceIte, Nat.reduceEqDiff]
  have no : mayR r = false → ∀ (z : S) k, WS E0 (.seq (.ops f35_r5) .ret) k (atEnd f35_a.results fun x h2 => x = .val (.str (putR r)) ∧ Keep (Old h.n) h h2) z h' := by
    intro hmay z k
    refine WS_of_seq (WS_of_ops ?_)
    simp only [f35_r5, go_sem, ↓reduceIte]
    refine WS_of_ret ?_
    simp only [go_sem, f35_a, ↓reduceIte, Nat.reduceEqDiff, mayR_false hmay, true_and]
    exact k1
  have go : mayR r = true → ∀ (z : S), z 1 = .ptr h.n 0 → WS E0 (.seq (.ops f35_r6) (.seq (.seq (.ops f35_r7) (.cond (.tmp 58) (.ops f35_r8) .skip)) (.seq (.draw f35_r9) .ret))) [] (atEnd f35_a.results fun x h2 => x = .val (.str (putR r)) ∧ Keep (Old h.n) h h2) z h' := by
    intro hmay z z1
    obtain ⟨⟨a1', a2'⟩, ⟨b1', b2'⟩, ⟨c1', c2'⟩, d1', d2'⟩ := mayR_iff.1 hmay
    have w1 : IntKind.u64.wrap r.code = (r.code.toNat : Int) := by rw [wrap_u64 (by omega) (by omega)]; omega
    have w2 : IntKind.u64.wrap r.rev = (r.rev.toNat : Int) := by rw [wrap_u64 (by omega) (by omega)]; omega
    have w3 : IntKind.u64.wrap r.steps = (r.steps.toNat : Int) := by rw [wrap_u64 (by omega) (by omega)]; omega
    have hi : isN r.is < 18446744073709551616 := by unfold isN; split <;> decide
    have nl1 := num_len9 (x := r.code.toNat) (by omega)
    have nl2 := num_len9 (x := r.rev.toNat) (by omega)
    have nl3 := num_len9 (x := r.steps.toNat) (by omega)
    have nl4 := num_len9 hi
    have nl5 := num_len9 (x := r.list.length) (by omega)
    have tl := txts_len (l := r.list) (by omega) hf.1
    have tl2 : (M + 9) * r.list.length ≤ 100009 * 64 := Nat.mul_le_mul (by omega : M + 9 ≤ 100009) d1'
    have ll : (lst r.list).length ≤ 7000000 := by simp only [lst, List.length_append]; omega
    have hf2 := hf.2
    have tm := txt_len (t := r.more) (by omega)
    have fin : ∀ (z : S), z 1 = .ptr h.n 0 → z 6 = .int .u64 (isN r.is : Int) → WS E0 (.seq (.draw f35_r9) .ret) [] (atEnd f35_a.results fun x h2 => x = .val (.str (putR r)) ∧ Keep (Old h.n) h h2) z h' := by
      intro z z1 z6
      have B : ∀ {g : H}, Keep (Old h'.n) h' g → Box h.n (repL r vl (.str r.more)) g := fun k => b1.keep k hlt
      refine WS_of_seq (WS_of_draw ?_)
      simp only [f35_r9, go_sem, ↓reduceIte, Nat.reduceEqDiff, Nat.zero_add, z1, z6, b1.load, List.getElem?_cons_succ, List.getElem?_cons_zero, w1, w2, w3, and_self, true_and, List.filter_cons, List.filter_nil, Nat.testBit, Nat.reduceShiftRight, Nat.reduceAnd, Nat.reduceBNe, Bool.not_false, Bool.not_true, Bool.false_eq_true, bne_self_eq_false]
      refine (refNum_spec wf1 (by omega)).mono ?_
      rintro x g2 ⟨rfl, q2⟩
      have q12 := q2
      have wg2 := q2.wf wf1
      simp only [go_sem, ↓reduceIte, Nat.reduceEqDiff, Nat.zero_add, z1, z6, (B q12).load, List.getElem?_cons_succ, List.getElem?_cons_zero, w1, w2, w3, and_self, true_and, List.filter_cons, List.filter_nil, Nat.testBit, Nat.reduceShiftRight, Nat.reduceAnd, Nat.reduceBNe, Bool.not_false, Bool.not_true, Bool.false_eq_true, bne_self_eq_false]
      refine (refNum_spec wg2 (by omega)).mono ?_
      rintro x g3 ⟨rfl, q3⟩
      have q13 := q12.then (Nat.le_refl _) q3
      have wg3 := q3.wf wg2
      have eb1 : ((num r.code.toNat).length + (num r.rev.toNat).length ≤ big) = True := by simp only [big, eq_iff_iff, iff_true]; omega
      simp only [go_sem, ↓reduceIte, Nat.reduceEqDiff, Nat.zero_add, z1, z6, (B q13).load, List.getElem?_cons_succ, List.getElem?_cons_zero, w1, w2, w3, eb1, and_self, true_and, List.filter_cons, List.filter_nil, Nat.testBit, Nat.reduceShiftRight, Nat.reduceAnd, Nat.reduceBNe, Bool.not_false, Bool.not_true, Bool.false_eq_true, bne_self_eq_false]
      refine (refNum_spec wg3 (by omega)).mono ?_
      rintro x g4 ⟨rfl, q4⟩
      have q14 := q13.then (Nat.le_refl _) q4
      have wg4 := q4.wf wg3
      have eb2 : ((num r.code.toNat ++ num r.rev.toNat).length + (num r.steps.toNat).length ≤ big) = True := by simp only [List.length_append, big, eq_iff_iff, iff_true]; omega
      simp only [go_sem, ↓reduceIte, Nat.reduceEqDiff, Nat.zero_add, z1, z6, (B q14).load, List.getElem?_cons_succ, List.getElem?_cons_zero, w1, w2, w3, eb2, and_self, true_and, List.filter_cons, List.filter_nil, Nat.testBit, Nat.reduceShiftRight, Nat.reduceAnd, Nat.reduceBNe, Bool.not_false, Bool.not_true, Bool.false_eq_true, bne_self_eq_false]
      refine (refNum_spec wg4 hi).mono ?_
      rintro x g5 ⟨rfl, q5⟩
      have q15 := q14.then (Nat.le_refl _) q5
      have wg5 := q5.wf wg4
      have eb3 : ((num r.code.toNat ++ num r.rev.toNat ++ num r.steps.toNat).length + (num (isN r.is)).length ≤ big) = True := by simp only [List.length_append, big, eq_iff_iff, iff_true]; omega
      simp only [go_sem, ↓reduceIte, Nat.reduceEqDiff, Nat.zero_add, z1, z6, (B q15).load, List.getElem?_cons_succ, List.getElem?_cons_zero, w1, w2, w3, eb3, and_self, true_and, List.filter_cons, List.filter_nil, Nat.testBit, Nat.reduceShiftRight, Nat.reduceAnd, Nat.reduceBNe, Bool.not_false, Bool.not_true, Bool.false_eq_true, bne_self_eq_false]
      refine (refList_spec wg5 (s1.keep q15 sl1) (sl1.keep q15 fun o ho => Nat.lt_of_lt_of_le ho q15.n) (by omega) hf.1 (by omega)).mono ?_
      rintro x g6 ⟨rfl, q6⟩
      have q16 := q15.then (Nat.le_refl _) q6
      have wg6 := q6.wf wg5
      have eb4 : ((num r.code.toNat ++ num r.rev.toNat ++ num r.steps.toNat ++ num (isN r.is)).length + (lst r.list).length ≤ big) = True := by simp only [List.length_append, big, eq_iff_iff, iff_true]; omega
      simp only [go_sem, ↓reduceIte, Nat.reduceEqDiff, Nat.zero_add, z1, z6, (B q16).load, List.getElem?_cons_succ, List.getElem?_cons_zero, w1, w2, w3, eb4, and_self, true_and, List.filter_cons, List.filter_nil, Nat.testBit, Nat.reduceShiftRight, Nat.reduceAnd, Nat.reduceBNe, Bool.not_false, Bool.not_true, Bool.false_eq_true, bne_self_eq_false]
      refine (refText_spec wg6 (by omega)).mono ?_
      rintro x g7 ⟨rfl, q7⟩
      have q17 := q16.then (Nat.le_refl _) q7
      have eb5 : ((num r.code.toNat ++ num r.rev.toNat ++ num r.steps.toNat ++ num (isN r.is) ++ lst r.list).length + (txt r.more).length ≤ big) = True := by simp only [List.length_append, big, eq_iff_iff, iff_true]; omega
      simp only [go_sem, ↓reduceIte, Nat.reduceEqDiff, Nat.zero_add, z1, z6, (B q17).load, List.getElem?_cons_succ, List.getElem?_cons_zero, w1, w2, w3, eb5, and_self, true_and, List.filter_cons, List.filter_nil, Nat.testBit, Nat.reduceShiftRight, Nat.reduceAnd, Nat.reduceBNe, Bool.not_false, Bool.not_true, Bool.false_eq_true, bne_self_eq_false]
      refine WS_of_ret ?_
      have ep : putR r = num r.code.toNat ++ num r.rev.toNat ++ num r.steps.toNat ++ num (isN r.is) ++ lst r.list ++ txt r.more := by
        simp only [putR, hmay, if_true, body, List.append_assoc]
      simp only [go_sem, f35_a, ↓reduceIte, Nat.reduceEqDiff, ep, true_and]
      exact k1.then (Nat.le_refl _) q17
    refine WS_of_seq (WS_of_ops ?_)
    simp only [f35_r6, go_sem, ↓reduceIte]
    refine WS_of_seq (WS_of_seq (WS_of_ops ?_))
    cases his : r.is
    · simp only [f35_r7, go_sem, ↓reduceIte, Nat.reduceEqDiff, Nat.zero_add, z1, b1.load, List.getElem?_cons_succ, List.getElem?_cons_zero, his]
      refine WS_of_cond ?_
      simp only [go_sem, ↓reduceIte, Bool.false_eq_true]
      refine WS_of_skip ?_
      simp only [go_sem]
      refine fin _ ?_ ?_
      · simp only [go_sem, ↓reduceIte, Nat.reduceEqDiff, z1]
      · simp only [go_sem, ↓reduceIte, Nat.reduceEqDiff, his]; rfl
    · simp only [f35_r7, go_sem, ↓reduceIte, Nat.reduceEqDiff, Nat.zero_add, z1, b1.load, List.getElem?_cons_succ, List.getElem?_cons_zero, his]
      refine WS_of_cond ?_
      simp only [go_sem, ↓reduceIte]
      refine WS_of_ops ?_
      simp only [f35_r8, go_sem, ↓reduceIte, Nat.reduceEqDiff]
      refine fin _ ?_ ?_
      · simp only [go_sem, ↓reduceIte, Nat.reduceEqDiff, z1]
      · simp only [go_sem, ↓reduceIte, Nat.reduceEqDiff, his]; rfl
  refine WS_of_seq (WS_of_seq (WS_of_ops ?_))
  cases c1 : inB r.code
  · simp only [f35_r4, go_sem, ↓reduceIte, Nat.reduceEqDiff, c1, Bool.not_false, Bool.true_eq_false]
    refine WS_of_cond ?_
    simp only [go_sem, ↓reduceIte]
    exact no (by simp [mayR, c1]) _ _
  cases c2 : inB r.rev
  · simp only [f35_r4, go_sem, ↓reduceIte, Nat.reduceEqDiff, c1, c2, Bool.not_false, Bool.not_true, Bool.true_eq_false, Bool.false_eq_true]
    refine WS_of_cond ?_
    simp only [go_sem, ↓reduceIte]
    exact no (by simp [mayR, c2]) _ _
  cases c3 : inB r.steps
  · simp only [f35_r4, go_sem, ↓reduceIte, Nat.reduceEqDiff, c1, c2, c3, Bool.not_false, Bool.not_true, Bool.true_eq_false, Bool.false_eq_true]
    refine WS_of_cond ?_
    simp only [go_sem, ↓reduceIte]
    exact no (by simp [mayR, c3]) _ _
  by_cases c4 : r.list.length ≤ 64
  case neg =>
    have c4' : (64 : Int) < (r.list.length : Int) := by omega
    simp only [f35_r4, go_sem, ↓reduceIte, Nat.reduceEqDiff, Nat.zero_add, b1.load, List.getElem?_cons_succ, List.getElem?_cons_zero, s1.len, c1, c2, c3, c4', decide_true, Bool.not_false, Bool.not_true, Bool.true_eq_false, Bool.false_eq_true]
    refine WS_of_cond ?_
    simp only [go_sem, ↓reduceIte]
    exact no (by simp [mayR, c4]) _ _
  have c4' : ¬ (64 : Int) < (r.list.length : Int) := by omega
  have hc1 := inB_iff.1 c1
  have hc2 := inB_iff.1 c2
  by_cases c5 : 0 < r.code
  case neg =>
    have c5' : r.code = 0 := by omega
    simp only [f35_r4, go_sem, ↓reduceIte, Nat.reduceEqDiff, Nat.zero_add, b1.load, List.getElem?_cons_succ, List.getElem?_cons_zero, s1.len, c1, c2, c3, c4', c5, decide_true, decide_false, Bool.not_false, Bool.not_true, Bool.true_eq_false, Bool.false_eq_true]
    refine WS_of_cond ?_
    simp only [go_sem, ↓reduceIte, Bool.false_eq_true]
    refine WS_of_skip ?_
    simp only [go_sem]
    refine go ?_ _ rfl
    exact mayR_iff.2 ⟨hc1, hc2, inB_iff.1 c3, c4, .inl c5'⟩
  have c5' : ¬ r.code = 0 := by omega
  by_cases d1 : 0 < r.rev
  · simp only [f35_r4, go_sem, ↓reduceIte, Nat.reduceEqDiff, Nat.zero_add, b1.load, List.getElem?_cons_succ, List.getElem?_cons_zero, s1.len, c1, c2, c3, c4', c5, d1, decide_true, decide_false, Bool.not_false, Bool.not_true, Bool.true_eq_false, Bool.false_eq_true]
    refine WS_of_cond ?_
    simp only [go_sem, ↓reduceIte]
    have d1' : ¬ r.rev = 0 := by omega
    exact no (by simp [mayR, c5', emptyR, d1']) _ _
  have d1' : r.rev = 0 := by omega
  cases d2 : r.is
  case true =>
    simp only [f35_r4, go_sem, ↓reduceIte, Nat.reduceEqDiff, Nat.zero_add, b1.load, List.getElem?_cons_succ, List.getElem?_cons_zero, s1.len, c1, c2, c3, c4', c5, d1, d2, decide_true, decide_false, Bool.not_false, Bool.not_true, Bool.true_eq_false, Bool.false_eq_true]
    refine WS_of_cond ?_
    simp only [go_sem, ↓reduceIte]
    exact no (by simp [mayR, c5', emptyR, d2]) _ _
  by_cases d3 : 0 < r.list.length
  · have d3' : (0 : Int) < (r.list.length : Int) := by omega
    simp only [f35_r4, go_sem, ↓reduceIte, Nat.reduceEqDiff, Nat.zero_add, b1.load, List.getElem?_cons_succ, List.getElem?_cons_zero, s1.len, c1, c2, c3, c4', c5, d1, d2, d3', decide_true, decide_false, Bool.not_false, Bool.not_true, Bool.true_eq_false, Bool.false_eq_true]
    refine WS_of_cond ?_
    simp only [go_sem, ↓reduceIte]
    have d3'' : ¬ r.list.length = 0 := by omega
    exact no (by simp [mayR, c5', emptyR]; intro _ _ _ _ _ _ h; rw [h] at d3; simp at d3) _ _
  have d3' : ¬ (0 : Int) < (r.list.length : Int) := by omega
  by_cases d4 : r.more = []
  · have d4' : (r.more = []) = True := by simp [d4]
    simp only [f35_r4, go_sem, ↓reduceIte, Nat.reduceEqDiff, Nat.zero_add, b1.load, List.getElem?_cons_succ, List.getElem?_cons_zero, s1.len, c1, c2, c3, c4', c5, d1, d2, d3', d4', decide_true, decide_false, Bool.not_false, Bool.not_true, Bool.true_eq_false, Bool.false_eq_true]
    refine WS_of_cond ?_
    simp only [go_sem, ↓reduceIte, Bool.false_eq_true]
    refine WS_of_skip ?_
    simp only [go_sem]
    refine go ?_ _ rfl
    refine mayR_iff.2 ⟨hc1, hc2, inB_iff.1 c3, c4, .inr ?_⟩
    have d3'' : r.list.length = 0 := by omega
    simp [emptyR, d1', d2, d3'', d4]
  · have d4' : (r.more = []) = False := by simp [d4]
    simp only [f35_r4, go_sem, ↓reduceIte, Nat.reduceEqDiff, Nat.zero_add, b1.load, List.getElem?_cons_succ, List.getElem?_cons_zero, s1.len, c1, c2, c3, c4', c5, d1, d2, d3', d4', decide_true, decide_false, Bool.not_false, Bool.not_true, Bool.true_eq_false, Bool.false_eq_true]
    refine WS_of_cond ?_
    simp only [go_sem, ↓reduceIte]
    exact no (by simp [mayR, c5', emptyR, d4]) _ _
end Go.Proofs.Ythhibhhpcjggnab.Ev.C
