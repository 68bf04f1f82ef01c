/- A reader of bytes: numbers, texts and lists of it, walked. -/
import Derived.Test.YthhibhhpcjggnabTReader
namespace Go.Proofs.Ythhibhhpcjggnab.Ev.C
open Go Go.Proofs.Ythhibhhpcjggnab.Ev
set_option linter.unusedSimpArgs false
set_option linter.unusedVariables false

theorem KeepA.box {h h' : H} {r : Nat} (k : KeepA [r] h h') (wf : h.Wf) (hr : r ≤ h.n) : Keep (Old r) h h' := k.old wf hr (by simp)
/-- fails -/
theorem fails_spec {h : H} {r : Nat} {s : RS} (wf : h.Wf) (a : Rd h r s) (is : Bool) (e : Nat) (he : is = true → e ≠ 0) :
    WCall E0 42 [.ptr r 0, .bool is, .int .i64 (e : Int)] h fun x h' => x = .val (.bool (decide (s.2 ≠ 0 ∨ is = true))) ∧ Rd h' r (s.1, if s.2 = 0 ∧ is = true then e else s.2) ∧ KeepA [r] h h' := by
  obtain ⟨v, b, c, d⟩ := a
  refine WCall_ws rfl T42 (by simp [f42_a]) ?_
  show WS E0 f42_c [] _ _ _
  refine WS_of_seq (WS_of_ops ?_)
  simp only [f42_r0, go_sem, ↓reduceIte]
  refine WS_of_seq (WS_of_seq (WS_of_ops ?_))
  cases is with
  | false =>
    simp only [f42_r1, go_sem, ↓reduceIte, Nat.reduceEqDiff, Bool.false_eq_true]
    refine WS_of_cond ?_
    simp only [go_sem, ↓reduceIte, Bool.false_eq_true]
    refine WS_of_skip ?_
    simp only [go_sem]
    refine WS_of_seq (WS_of_ops ?_)
    simp only [f42_r3, go_sem, ↓reduceIte, Nat.reduceEqDiff, Nat.zero_add, b.load]
    refine WS_of_ret ?_
    simp only [go_sem, f42_a, ↓reduceIte, Nat.reduceEqDiff, Bool.false_eq_true, or_false, and_false]
    refine ⟨?_, ⟨v, b, c, d⟩, KeepA.refl _ _⟩
    by_cases c1 : s.2 = 0
    · simp [c1]
    · have c1' : ¬ ((s.2 : Nat) : Int) = 0 := by omega
      simp [c1]
  | true =>
    by_cases c1 : s.2 = 0
    · have c1' : ((s.2 : Nat) : Int) = 0 := by omega
      simp only [f42_r1, go_sem, ↓reduceIte, Nat.reduceEqDiff, Nat.zero_add, b.load, c1', decide_true]
      refine WS_of_cond ?_
      simp only [go_sem, ↓reduceIte]
      refine WS_of_ops ?_
      obtain ⟨h1, e1, b1, k1⟩ := b.put wf (i := 1) (n := 1) (v := .int .i64 (e : Int)) rfl rfl (by simp)
      simp only [f42_r2, go_sem, ↓reduceIte, Nat.reduceEqDiff, Nat.zero_add, e1]
      have b1' : Box r [v, .int .i64 (e : Int)] h1 := b1
      refine WS_of_seq (WS_of_ops ?_)
      simp only [f42_r3, go_sem, ↓reduceIte, Nat.reduceEqDiff, Nat.zero_add, b1'.load]
      refine WS_of_ret ?_
      have hn := he rfl
      have hn' : ¬ (e : Int) = 0 := by omega
      simp only [go_sem, f42_a, ↓reduceIte, Nat.reduceEqDiff, c1, hn', decide_false, Bool.not_false, or_true, decide_true, true_and, and_self]
      have ko := KeepA.box k1 wf (Nat.le_of_lt (b.lt wf))
      exact ⟨⟨v, b1', c.keep ko d, d.keep ko fun o ho => ho⟩, k1⟩
    · have c1' : ¬ ((s.2 : Nat) : Int) = 0 := by omega
      simp only [f42_r1, go_sem, ↓reduceIte, Nat.reduceEqDiff, Nat.zero_add, b.load, c1', decide_false, Bool.false_eq_true]
      refine WS_of_cond ?_
      simp only [go_sem, ↓reduceIte, Bool.false_eq_true]
      refine WS_of_skip ?_
      simp only [go_sem]
      refine WS_of_seq (WS_of_ops ?_)
      simp only [f42_r3, go_sem, ↓reduceIte, Nat.reduceEqDiff, Nat.zero_add, b.load]
      refine WS_of_ret ?_
      simp only [go_sem, f42_a, ↓reduceIte, Nat.reduceEqDiff, c1, c1', decide_false, Bool.not_false, or_true, decide_true, true_and, false_and]
      exact ⟨⟨v, b, c, d⟩, KeepA.refl _ _⟩

/-- Num -/
theorem num_spec {h : H} {r : Nat} {s : RS} (wf : h.Wf) (a : Rd h r s) (hl : s.1.length < 4294967296) :
    WCall E0 22 [.ptr r 0] h fun x h' => x = .val (.int .u64 ((rNum s).1 : Int)) ∧ Rd h' r (rNum s).2 ∧ KeepA [r] h h' := by
  refine WCall_ws rfl T22 (by simp [f22_a]) ?_
  show WS E0 f22_c [] _ _ _
  refine WS_of_seq (WS_of_ops ?_)
  simp only [f22_r0, go_sem, ↓reduceIte]
  refine WS_of_seq (WS_of_seq (WS_of_ops ?_))
  simp only [f22_r1, go_sem, ↓reduceIte, Nat.reduceEqDiff]
  refine (err_spec a).mono ?_
  rintro x h' ⟨rfl, rfl⟩
  simp only [go_sem, ↓reduceIte, Nat.reduceEqDiff]
  refine WS_of_cond ?_
  simp only [go_sem, ↓reduceIte, Nat.reduceEqDiff]
  by_cases c1 : s.2 = 0
  case neg =>
    have c1' : ¬ ((s.2 : Nat) : Int) = 0 := by omega
    simp only [c1', decide_false, Bool.not_false, ↓reduceIte]
    refine WS_of_seq (WS_of_ops ?_)
    simp only [f22_r2, go_sem, ↓reduceIte, Nat.reduceEqDiff]
    refine WS_of_ret ?_
    have e : rNum s = (0, s) := by simp [rNum, c1]
    simp only [go_sem, f22_a, ↓reduceIte, Nat.reduceEqDiff, e]
    exact ⟨rfl, a, KeepA.refl _ _⟩
  have c1' : ((s.2 : Nat) : Int) = 0 := by omega
  simp only [c1', decide_true, Bool.not_true, Bool.false_eq_true, ↓reduceIte]
  refine WS_of_skip ?_
  simp only [go_sem]
  refine WS_of_seq (WS_of_ops ?_)
  have a0 := a
  obtain ⟨v, b, c, d⟩ := a0
  simp only [f22_r3, go_sem, ↓reduceIte, Nat.reduceEqDiff, Nat.zero_add, b.load]
  refine (take_spec c (by omega)).mono ?_
  rintro x h1 ⟨rfl, rfl⟩
  simp only [go_sem, ↓reduceIte, Nat.reduceEqDiff]
  refine WS_of_seq (WS_of_seq (WS_of_ops ?_))
  have ed : (!decide (((takeB s.1).2.2 : Int) = 0)) = decide ((takeB s.1).2.2 ≠ 0) := by
    by_cases q : (takeB s.1).2.2 = 0
    · simp [q]
    · have : ¬ ((takeB s.1).2.2 : Int) = 0 := by omega
      simp [q]
  simp only [f22_r4, go_sem, ↓reduceIte, Nat.reduceEqDiff, ed]
  refine (fails_spec wf a (decide ((takeB s.1).2.2 ≠ 0)) (takeB s.1).2.2 (by simp)).mono ?_
  rintro x h2 ⟨rfl, r2, k2⟩
  simp only [go_sem, ↓reduceIte, Nat.reduceEqDiff]
  refine WS_of_cond ?_
  simp only [go_sem, ↓reduceIte, Nat.reduceEqDiff]
  by_cases c2 : (takeB s.1).2.2 = 0
  case neg =>
    simp only [c1, c2, ne_eq, not_true_eq_false, not_false_eq_true, decide_true, or_true, ↓reduceIte, true_and] at r2 ⊢
    refine WS_of_seq (WS_of_ops ?_)
    simp only [f22_r5, go_sem, ↓reduceIte, Nat.reduceEqDiff]
    refine WS_of_ret ?_
    have e : rNum s = (0, (s.1, (takeB s.1).2.2)) := by simp [rNum, c1, c2]
    simp only [go_sem, f22_a, ↓reduceIte, Nat.reduceEqDiff, e]
    exact ⟨rfl, r2, k2⟩
  simp only [c1, c2, ne_eq, not_true_eq_false, decide_false, Bool.false_eq_true, or_false, and_false, ↓reduceIte] at r2 ⊢
  refine WS_of_skip ?_
  simp only [go_sem]
  refine WS_of_seq (WS_of_ops ?_)
  have wf2 := k2.wf wf
  obtain ⟨v', b', c', d'⟩ := r2
  obtain ⟨q1, q2, q3, q4⟩ := takeB_ok s.1 c2
  obtain ⟨w, ew, bw, sw⟩ := Bytes.drop c' q3 .i64
  have w1 : w.one = true := by
    have := bw.len
    cases w <;> first | rfl | cases this
  have wc : w.cells = [w] := by cases w <;> first | rfl | cases w1
  obtain ⟨h3, e3, b3, k3⟩ := b'.put wf2 (i := 0) (n := 1) (v := w) (by rw [wc]; rfl) (by rw [wc]; simp [w1]) (by simp)
  simp only [f22_r6, go_sem, ↓reduceIte, Nat.reduceEqDiff, Nat.zero_add, b'.load, ew, e3]
  refine WS_of_seq (WS_of_ops ?_)
  simp only [f22_r7, go_sem, ↓reduceIte, Nat.reduceEqDiff]
  refine WS_of_ret ?_
  have e : rNum s = ((takeB s.1).1, (s.1.drop (takeB s.1).2.1, 0)) := by simp [rNum, c1, c2]
  simp only [go_sem, f22_a, ↓reduceIte, Nat.reduceEqDiff, e, true_and]
  rw [wc] at b3
  have ko := KeepA.box k3 wf2 (Nat.le_of_lt (b'.lt wf2))
  refine ⟨⟨w, b3, bw.keep ko (sw _ d'), (sw _ d').keep ko fun o ho => ho⟩, ?_⟩
  exact KeepA.then wf k2 k3 fun g hg => .inl hg
end Go.Proofs.Ythhibhhpcjggnab.Ev.C
