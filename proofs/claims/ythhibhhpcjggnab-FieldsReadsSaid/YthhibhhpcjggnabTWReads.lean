/- The walk of FieldsReads. -/
import Derived.Test.YthhibhhpcjggnabTRefs3
namespace Go.Proofs.Ythhibhhpcjggnab.Ev.C
open Go Go.Proofs.Ythhibhhpcjggnab.Ev
set_option linter.unusedSimpArgs false
set_option linter.unusedVariables false
/-! ### a reader that is none -/
theorem err_nil {h : H} : WCall E0 29 [.nilp] h fun x h' => h' = h ∧ x = .val (.int .i64 10) := by
  refine WCall_ws rfl T29 (by simp [f29_a]) ?_
  show WS E0 f29_c [] _ _ _
  refine WS_of_seq (WS_of_ops ?_)
  simp only [f29_r0, go_sem, ↓reduceIte]
  refine WS_of_seq (WS_of_seq (WS_of_ops ?_))
  simp only [f29_r1, go_sem, ↓reduceIte, Nat.reduceEqDiff, Bool.false_eq_true]
  refine WS_of_cond ?_
  simp only [go_sem, ↓reduceIte]
  refine WS_of_seq (WS_of_ops ?_)
  simp only [f29_r2, go_sem, ↓reduceIte, Nat.reduceEqDiff]
  refine WS_of_ret ?_
  simp only [go_sem, f29_a, ↓reduceIte, Nat.reduceEqDiff, true_and]
theorem left_nil {h : H} : WCall E0 28 [.nilp] h fun x h' => h' = h ∧ x = .val (.int .i64 0) := by
  refine WCall_ws rfl T28 (by simp [f28_a]) ?_
  show WS E0 f28_c [] _ _ _
  refine WS_of_seq (WS_of_ops ?_)
  simp only [f28_r0, go_sem, ↓reduceIte]
  refine WS_of_seq (WS_of_seq (WS_of_ops ?_))
  simp only [f28_r1, go_sem, ↓reduceIte, Nat.reduceEqDiff, Bool.false_eq_true]
  refine WS_of_cond ?_
  simp only [go_sem, ↓reduceIte]
  refine WS_of_seq (WS_of_ops ?_)
  simp only [f28_r2, go_sem, ↓reduceIte, Nat.reduceEqDiff]
  refine WS_of_ret ?_
  simp only [go_sem, f28_a, ↓reduceIte, Nat.reduceEqDiff, true_and]
theorem num_nil {h : H} : WCall E0 22 [.nilp] h fun x h' => h' = h ∧ x = .val (.int .u64 0) := by
  have e10 : ((10 : Int) = 0) = False := by simp
  refine WCall_ws rfl T22 (by simp [f22_a]) ?_
  show WS E0 f22_c [] _ _ _
  refine WS_of_seq (WS_of_ops ?_)
  simp only [f22_r0, go_sem, ↓reduceIte]
  refine WS_of_seq (WS_of_seq (WS_of_ops ?_))
  simp only [f22_r1, go_sem, ↓reduceIte, Nat.reduceEqDiff]
  refine err_nil.mono ?_
  rintro x h' ⟨rfl, rfl⟩
  simp only [go_sem, ↓reduceIte, Nat.reduceEqDiff, e10, decide_false, Bool.not_false]
  refine WS_of_cond ?_
  simp only [go_sem, ↓reduceIte, Nat.reduceEqDiff]
  refine WS_of_seq (WS_of_ops ?_)
  simp only [f22_r2, go_sem, ↓reduceIte, Nat.reduceEqDiff]
  refine WS_of_ret ?_
  simp only [go_sem, f22_a, ↓reduceIte, Nat.reduceEqDiff, true_and]
theorem text_nil {h : H} : WCall E0 24 [.nilp] h fun x h' => h' = h ∧ x = .val (.str []) := by
  have e10 : ((10 : Int) = 0) = False := by simp
  refine WCall_ws rfl T24 (by simp [f24_a]) ?_
  show WS E0 f24_c [] _ _ _
  refine WS_of_seq (WS_of_ops ?_)
  simp only [f24_r0, go_sem, ↓reduceIte]
  refine WS_of_seq (WS_of_ops ?_)
  simp only [f24_r1, go_sem, ↓reduceIte, Nat.reduceEqDiff]
  refine num_nil.mono ?_
  rintro x h' ⟨rfl, rfl⟩
  simp only [go_sem, ↓reduceIte, Nat.reduceEqDiff]
  refine WS_of_seq (WS_of_seq (WS_of_ops ?_))
  simp only [f24_r2, go_sem, ↓reduceIte, Nat.reduceEqDiff]
  refine err_nil.mono ?_
  rintro x h' ⟨rfl, rfl⟩
  simp only [go_sem, ↓reduceIte, Nat.reduceEqDiff, e10, decide_false, Bool.not_false, Bool.true_eq_false]
  refine WS_of_cond ?_
  simp only [go_sem, ↓reduceIte, Nat.reduceEqDiff]
  refine WS_of_seq (WS_of_ops ?_)
  simp only [f24_r3, go_sem, ↓reduceIte, Nat.reduceEqDiff]
  refine WS_of_ret ?_
  simp only [go_sem, f24_a, ↓reduceIte, Nat.reduceEqDiff, true_and]
theorem list_nil {h : H} {n : Int} : WCall E0 26 [.nilp, .int .i64 n] h fun x h' => h' = h ∧ x = .val .nils := by
  have e10 : ((10 : Int) = 0) = False := by simp
  refine WCall_ws rfl T26 (by simp [f26_a]) ?_
  show WS E0 f26_c [] _ _ _
  refine WS_of_seq (WS_of_ops ?_)
  simp only [f26_r0, go_sem, ↓reduceIte]
  refine WS_of_seq (WS_of_ops ?_)
  simp only [f26_r1, go_sem, ↓reduceIte, Nat.reduceEqDiff]
  refine num_nil.mono ?_
  rintro x h' ⟨rfl, rfl⟩
  simp only [go_sem, ↓reduceIte, Nat.reduceEqDiff]
  refine WS_of_seq (WS_of_seq (WS_of_ops ?_))
  simp only [f26_r2, go_sem, ↓reduceIte, Nat.reduceEqDiff]
  refine err_nil.mono ?_
  rintro x h' ⟨rfl, rfl⟩
  simp only [go_sem, ↓reduceIte, Nat.reduceEqDiff, e10, decide_false, Bool.not_false, Bool.true_eq_false]
  refine WS_of_cond ?_
  simp only [go_sem, ↓reduceIte, Nat.reduceEqDiff]
  refine WS_of_seq (WS_of_ops ?_)
  simp only [f26_r3, go_sem, ↓reduceIte, Nat.reduceEqDiff]
  refine WS_of_ret ?_
  simp only [go_sem, f26_a, ↓reduceIte, Nat.reduceEqDiff, true_and]
theorem end_nil {h : H} : WCall E0 30 [.nilp] h fun x h' => h' = h ∧ x = .val (.int .i64 10) := by
  have e10 : ((10 : Int) = 0) = False := by simp
  refine WCall_ws rfl T30 (by simp [f30_a]) ?_
  show WS E0 f30_c [] _ _ _
  refine WS_of_seq (WS_of_ops ?_)
  simp only [f30_r0, go_sem, ↓reduceIte]
  refine WS_of_seq (WS_of_seq (WS_of_ops ?_))
  simp only [f30_r1, go_sem, ↓reduceIte, Nat.reduceEqDiff]
  refine err_nil.mono ?_
  rintro x h' ⟨rfl, rfl⟩
  simp only [go_sem, ↓reduceIte, Nat.reduceEqDiff]
  refine WS_of_seq (WS_of_ops ?_)
  simp only [f30_r2, go_sem, ↓reduceIte, Nat.reduceEqDiff, e10, decide_false, Bool.not_false, Bool.true_eq_false]
  refine WS_of_cond ?_
  simp only [go_sem, ↓reduceIte, Nat.reduceEqDiff]
  refine WS_of_seq (WS_of_ops ?_)
  simp only [f30_r3, go_sem, ↓reduceIte, Nat.reduceEqDiff]
  refine WS_of_ret ?_
  simp only [go_sem, f30_a, ↓reduceIte, Nat.reduceEqDiff, true_and]
theorem rTexts_len : ∀ (n : Nat) (acc : List (List UInt8)) (s : RS), (rTexts n acc s).2.1.length ≤ s.1.length
  | 0, acc, s => Nat.le_refl _
  | n + 1, acc, s => by
    have := rText_len s
    simp only [rTexts]
    split
    · exact this
    · exact Nat.le_trans (rTexts_len n _ _) this
theorem rList_len (most : Int) (s : RS) : (rList most s).2.1.length ≤ s.1.length := by
  have := rNum_len s
  unfold rList
  split
  · exact this
  · split
    · exact this
    · exact Nat.le_trans (rTexts_len _ _ _) this
/-- what is looked at behind each reading -/
theorem reads_check {h : H} {r w : Nat} {st : RS} {k : List Fr1} {Q : Post} {q : S} (a : Rd h r st) (b : Box w [.str st.1, .int .i64 (st.2 : Int)] h) (q6 : q 6 = .ptr r 0) (q7 : q 7 = .ptr w 0)
    (next : ∀ q', (∀ i, i ≤ 8 → q' i = q i) → WNext E0 k Q q' h) :
    WS E0 ((ACode.ops f4_r33).seq (((ACode.ops f4_r34).seq (.cond (.tmp 125) (.ops f4_r35) .skip)).seq ((ACode.draw f4_r36).seq (.cond (.tmp 144) ((ACode.ops f4_r37).seq .ret) .skip)))) k Q q h := by
  have fin : ∀ q' : S, (∀ i, i ≤ 8 → q' i = q i) → q' 19 = .int .i64 (rEnd st : Int) → WS E0 ((ACode.draw f4_r36).seq (.cond (.tmp 144) ((ACode.ops f4_r37).seq .ret) .skip)) k Q q' h := by
    intro q' hq h19
    have p6 : q' 6 = .ptr r 0 := by rw [hq 6 (by omega), q6]
    have p7 : q' 7 = .ptr w 0 := by rw [hq 7 (by omega), q7]
    refine WS_of_seq (WS_of_draw ?_)
    simp only [f4_r36, go_sem, ↓reduceIte, Nat.reduceEqDiff, p6, p7, h19, Nat.zero_add, b.load, and_self, true_and, List.filter_cons, List.filter_nil, Nat.testBit, Nat.reduceShiftRight, Nat.reduceAnd, Nat.reduceBNe, Bool.not_false, Bool.not_true, Bool.false_eq_true, bne_self_eq_false]
    refine (left_spec a).mono ?_
    rintro x h' ⟨rfl, rfl⟩
    simp only [go_sem, ↓reduceIte, Nat.reduceEqDiff, p6, p7, h19, Nat.zero_add, b.load, decide_true, and_self, true_and, List.filter_cons, List.filter_nil, Nat.testBit, Nat.reduceShiftRight, Nat.reduceAnd, Nat.reduceBNe, Bool.not_false, Bool.not_true, Bool.false_eq_true, bne_self_eq_false]
    refine (err_spec a).mono ?_
    rintro x h' ⟨rfl, rfl⟩
    simp only [go_sem, ↓reduceIte, Nat.reduceEqDiff, p6, p7, h19, Nat.zero_add, b.load, decide_true, and_self, true_and, List.filter_cons, List.filter_nil, Nat.testBit, Nat.reduceShiftRight, Nat.reduceAnd, Nat.reduceBNe, Bool.not_false, Bool.not_true, Bool.false_eq_true, bne_self_eq_false]
    refine (end_spec a).mono ?_
    rintro x h' ⟨rfl, rfl⟩
    simp only [go_sem, ↓reduceIte, Nat.reduceEqDiff, p6, p7, h19, Nat.zero_add, b.load, decide_true, and_self, true_and, List.filter_cons, List.filter_nil, Nat.testBit, Nat.reduceShiftRight, Nat.reduceAnd, Nat.reduceBNe, Bool.not_false, Bool.not_true, Bool.false_eq_true, bne_self_eq_false]
    refine WS_of_cond ?_
    simp only [go_sem, ↓reduceIte, Bool.false_eq_true]
    refine WS_of_skip ?_
    refine next _ fun i hi => ?_
    rw [← hq i hi]
    simp only [go_sem]
    repeat rw [if_neg (by omega)]
  refine WS_of_seq (WS_of_ops ?_)
  simp only [f4_r33, go_sem, ↓reduceIte, Nat.reduceEqDiff, q7, Nat.zero_add, b.load]
  refine WS_of_seq (WS_of_seq (WS_of_ops ?_))
  by_cases c1 : st.2 = 0
  · have c1' : ((st.2 : Nat) : Int) = 0 := by omega
    by_cases c2 : st.1 = []
    · have c2' : (st.1 = []) = True := by simp [c2]
      simp only [f4_r34, go_sem, ↓reduceIte, Nat.reduceEqDiff, q7, Nat.zero_add, b.load, c1', decide_true, c2', Bool.not_true]
      refine WS_of_cond ?_
      simp only [go_sem, ↓reduceIte, Bool.false_eq_true]
      refine WS_of_skip ?_
      simp only [go_sem]
      refine fin _ (fun i hi => ?_) ?_
      · simp only [go_sem]
        repeat rw [if_neg (by omega)]
      · simp only [go_sem, ↓reduceIte, Nat.reduceEqDiff, rEnd, c1, c2]; rfl
    · have c2' : (st.1 = []) = False := by simp [c2]
      have c3 : ¬ st.1.length = 0 := by
        intro e; exact c2 (List.length_eq_zero_iff.1 e)
      simp only [f4_r34, go_sem, ↓reduceIte, Nat.reduceEqDiff, q7, Nat.zero_add, b.load, c1', decide_true, c2', decide_false, Bool.not_false]
      refine WS_of_cond ?_
      simp only [go_sem, ↓reduceIte]
      refine WS_of_ops ?_
      simp only [f4_r35, go_sem, ↓reduceIte]
      refine fin _ (fun i hi => ?_) ?_
      · simp only [go_sem]
        repeat rw [if_neg (by omega)]
      · simp only [go_sem, ↓reduceIte, Nat.reduceEqDiff, rEnd, c1, c3]; rfl
  · have c1' : ¬ ((st.2 : Nat) : Int) = 0 := by omega
    simp only [f4_r34, go_sem, ↓reduceIte, Nat.reduceEqDiff, c1', decide_false, Bool.false_eq_true]
    refine WS_of_cond ?_
    simp only [go_sem, ↓reduceIte, Bool.false_eq_true]
    refine WS_of_skip ?_
    simp only [go_sem]
    have : rEnd st = st.2 := by simp [rEnd, c1]
    refine fin _ (fun i hi => ?_) ?_
    · simp only [go_sem]
      repeat rw [if_neg (by omega)]
    · simp only [go_sem, ↓reduceIte, Nat.reduceEqDiff, this]
end Go.Proofs.Ythhibhhpcjggnab.Ev.C
