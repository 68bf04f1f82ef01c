/- A reader of bytes: its functions, walked. -/
import Derived.Test.YthhibhhpcjggnabTOne
namespace Go.Proofs.Ythhibhhpcjggnab.Ev.C
open Go Go.Proofs.Ythhibhhpcjggnab.Ev
set_option linter.unusedSimpArgs false
set_option linter.unusedVariables false
/-! ### by plain definition -/
abbrev RS := List UInt8 × Nat
def rNum (s : RS) : Nat × RS := if s.2 ≠ 0 then (0, s) else if (takeB s.1).2.2 ≠ 0 then (0, (s.1, (takeB s.1).2.2)) else ((takeB s.1).1, (s.1.drop (takeB s.1).2.1, 0))
def rText (s : RS) : List UInt8 × RS :=
  if (rNum s).2.2 ≠ 0 then ([], (rNum s).2) else if (rNum s).2.1.length < (rNum s).1 then ([], ((rNum s).2.1, 10)) else ((rNum s).2.1.take (rNum s).1, ((rNum s).2.1.drop (rNum s).1, 0))
def rTexts : Nat → List (List UInt8) → RS → List (List UInt8) × RS
  | 0, acc, s => (acc, s)
  | n + 1, acc, s => if (rText s).2.2 ≠ 0 then ([], (rText s).2) else rTexts n (acc ++ [(rText s).1]) (rText s).2
def rList (most : Int) (s : RS) : List (List UInt8) × RS :=
  if (rNum s).2.2 ≠ 0 then ([], (rNum s).2) else if max most 0 < ((rNum s).1 : Int) then ([], ((rNum s).2.1, 13)) else rTexts (rNum s).1 [] (rNum s).2
def rEnd (s : RS) : Nat := if s.2 ≠ 0 then s.2 else if s.1.length = 0 then 0 else 12

theorem takeB_code (bs : List UInt8) : (takeB bs).2.2 ≤ 11 := by
  cases bs with
  | nil => decide
  | cons c r =>
    simp only [takeB]
    split
    · decide
    · split
      · decide
      · split <;> simp

/-- a reader stands at r: what is left, and its error -/
def Rd (h : H) (r : Nat) (s : RS) : Prop := ∃ v, Box r [v, .int .i64 (s.2 : Int)] h ∧ Bytes h v s.1 ∧ Slot (Old r) h v
theorem Rd.keep {h h' : H} {r : Nat} {s : RS} (a : Rd h r s) (k : Keep (Old (r + 1)) h h') : Rd h' r s := by
  obtain ⟨v, b, c, d⟩ := a
  have hr : Old (r + 1) r := Nat.lt_succ_self r
  have d' : Slot (Old (r + 1)) h v := d.mono fun o ho => Nat.lt_succ_of_lt ho
  exact ⟨v, b.keep k hr, c.keep k d', d.keep (k.less (Nat.le_succ r)) fun o ho => ho⟩

/-- slices.Clone of bytes -/
theorem clone_spec {h : H} {v : AV} {bs : List UInt8} (wf : h.Wf) (b : Bytes h v bs) (sl : Slot (Old h.n) h v) (hl : bs.length < 4294967296) :
    WCall E0 41 [v] h fun r h' => ∃ v', r = .val v' ∧ Bytes h' v' bs ∧ Own h.n h' v' ∧ Keep (Old h.n) h h' := by
  refine WCall_ws rfl T41 (by simp [f41_a]) ?_
  show WS E0 f41_c [] _ _ _
  refine WS_of_seq (WS_of_ops ?_)
  simp only [f41_r0, go_sem, ↓reduceIte]
  refine WS_of_seq (WS_of_seq (WS_of_ops ?_))
  have hlen := b.len
  cases v <;> simp only [lenSA] at hlen <;> (try (cases hlen; done))
  case nils =>
    simp only [f41_r1, go_sem, ↓reduceIte, Nat.reduceEqDiff]
    refine WS_of_cond ?_
    simp only [go_sem, ↓reduceIte, Bool.false_eq_true]
    refine WS_of_seq (WS_of_ops ?_)
    simp only [f41_r2, go_sem, ↓reduceIte]
    refine WS_of_ret ?_
    simp only [go_sem, f41_a, ↓reduceIte, Nat.reduceEqDiff]
    exact ⟨_, rfl, b, trivial, Keep.refl _ _⟩
  case slice o i len es =>
    simp only [f41_r1, go_sem, ↓reduceIte, Nat.reduceEqDiff]
    refine WS_of_cond ?_
    simp only [go_sem, ↓reduceIte, Bool.false_eq_true]
    refine WS_of_skip ?_
    simp only [go_sem]
    refine WS_of_seq (WS_of_ops ?_)
    have ea : afill (zeros [AV.int .u8 0] (0 * 1)) [] = some [] := rfl
    have kn : Keep (Old h.n) h (h.new []) := Keep.new (Nat.le_refl _) _
    have b0 : Bytes (h.new []) (.slice h.n 0 0 1) [] := Sl.new (n := 0) (es := 1) wf (vs := []) (by simp)
    have o0 : Own h.n (h.new []) (.slice h.n 0 0 1) := Own.new wf (Nat.le_refl _) (by simp)
    obtain ⟨v2, h2, a2, b2, o2, k2⟩ := b0.app (kn.wf wf) kn.n o0 (b.keep kn sl) (by simpa using hl)
    simp only [f41_r3, go_sem, ↓reduceIte, Nat.reduceEqDiff, ea, a2]
    refine WS_of_ret ?_
    simp only [go_sem, f41_a, ↓reduceIte, Nat.reduceEqDiff]
    exact ⟨_, rfl, b2, o2, kn.trans k2⟩

/-- fields.Open -/
theorem open_spec {h : H} {v : AV} {bs : List UInt8} (wf : h.Wf) (b : Bytes h v bs) (sl : Slot (Old h.n) h v) (hl : bs.length < 4294967296) :
    WCall E0 21 [v] h fun r h' => ∃ o, r = .val (.ptr o 0) ∧ Rd h' o (bs, 0) ∧ h.n ≤ o ∧ Keep (Old h.n) h h' := by
  refine WCall_ws rfl T21 (by simp [f21_a]) ?_
  show WS E0 f21_c [] _ _ _
  refine WS_of_seq (WS_of_ops ?_)
  simp only [f21_r0, go_sem, ↓reduceIte]
  refine WS_of_seq (WS_of_ops ?_)
  simp only [f21_r1, go_sem, ↓reduceIte, Nat.reduceEqDiff]
  refine (clone_spec wf b sl hl).mono ?_
  rintro r h1 ⟨v1, rfl, b1, o1, k1⟩
  have ea : v1.one = true → afill [AV.nils, AV.int .i64 0] [(0, 1, v1)] = some [v1, .int .i64 0] := by
    intro e
    cases v1 <;> first | rfl | cases e
  have e1 : v1.one = true := by
    cases v1 <;> first | rfl | exact o1.elim
  simp only [go_sem, ↓reduceIte, Nat.reduceEqDiff, ea e1, AV.cells]
  refine WS_of_ret ?_
  simp only [go_sem, f21_a, ↓reduceIte, Nat.reduceEqDiff]
  have wf1 := k1.wf wf
  have kn : Keep (Old h1.n) h1 (h1.new [v1, .int .i64 0]) := Keep.new (Nat.le_refl _) _
  exact ⟨_, rfl, ⟨v1, Box.new wf1 _, b1.keep kn (o1.slot wf1), (o1.slot wf1).keep kn fun o ho => ho⟩, k1.n, k1.then (Nat.le_refl _) kn⟩

/-- Err -/
theorem err_spec {h : H} {r : Nat} {s : RS} (a : Rd h r s) : WCall E0 29 [.ptr r 0] h fun x h' => h' = h ∧ x = .val (.int .i64 (s.2 : Int)) := by
  obtain ⟨v, b, c, d⟩ := a
  refine WCall_ws rfl T29 (by simp [f29_a]) ?_
  show WS E0 f29_c [] _ _ _
  refine WS_of_seq (WS_of_ops ?_)
  simp only [f29_r0, go_sem, ↓reduceIte]
  refine WS_of_seq (WS_of_seq (WS_of_ops ?_))
  simp only [f29_r1, go_sem, ↓reduceIte, Nat.reduceEqDiff, Bool.false_eq_true]
  refine WS_of_cond ?_
  simp only [go_sem, ↓reduceIte, Bool.false_eq_true]
  refine WS_of_skip ?_
  simp only [go_sem]
  refine WS_of_seq (WS_of_ops ?_)
  simp only [f29_r3, go_sem, ↓reduceIte, Nat.reduceEqDiff, Nat.zero_add, b.load]
  refine WS_of_ret ?_
  simp only [go_sem, f29_a, ↓reduceIte, Nat.reduceEqDiff, true_and]
/-- Left -/
theorem left_spec {h : H} {r : Nat} {s : RS} (a : Rd h r s) : WCall E0 28 [.ptr r 0] h fun x h' => h' = h ∧ x = .val (.int .i64 (s.1.length : Int)) := by
  obtain ⟨v, b, c, d⟩ := a
  refine WCall_ws rfl T28 (by simp [f28_a]) ?_
  show WS E0 f28_c [] _ _ _
  refine WS_of_seq (WS_of_ops ?_)
  simp only [f28_r0, go_sem, ↓reduceIte]
  refine WS_of_seq (WS_of_seq (WS_of_ops ?_))
  simp only [f28_r1, go_sem, ↓reduceIte, Nat.reduceEqDiff, Bool.false_eq_true]
  refine WS_of_cond ?_
  simp only [go_sem, ↓reduceIte, Bool.false_eq_true]
  refine WS_of_skip ?_
  simp only [go_sem]
  refine WS_of_seq (WS_of_ops ?_)
  simp only [f28_r3, go_sem, ↓reduceIte, Nat.reduceEqDiff, Nat.zero_add, b.load, c.len]
  refine WS_of_ret ?_
  simp only [go_sem, f28_a, ↓reduceIte, Nat.reduceEqDiff, true_and]
/-- End -/
theorem end_spec {h : H} {r : Nat} {s : RS} (a : Rd h r s) : WCall E0 30 [.ptr r 0] h fun x h' => h' = h ∧ x = .val (.int .i64 (rEnd s : Int)) := by
  refine WCall_ws rfl T30 (by simp [f30_a]) ?_
  show WS E0 f30_c [] _ _ _
  refine WS_of_seq (WS_of_ops ?_)
  simp only [f30_r0, go_sem, ↓reduceIte]
  refine WS_of_seq (WS_of_seq (WS_of_ops ?_))
  simp only [f30_r1, go_sem, ↓reduceIte, Nat.reduceEqDiff]
  refine (err_spec a).mono ?_
  rintro x h' ⟨rfl, rfl⟩
  simp only [go_sem, ↓reduceIte, Nat.reduceEqDiff]
  refine WS_of_seq (WS_of_ops ?_)
  by_cases c1 : s.2 = 0
  · have c1' : ((s.2 : Nat) : Int) = 0 := by omega
    simp only [f30_r2, go_sem, ↓reduceIte, Nat.reduceEqDiff, c1', decide_true, Bool.not_true]
    refine (left_spec a).mono ?_
    rintro x h1 ⟨rfl, rfl⟩
    simp only [go_sem, ↓reduceIte, Nat.reduceEqDiff, Bool.false_eq_true]
    refine WS_of_cond ?_
    simp only [go_sem, ↓reduceIte, Nat.reduceEqDiff]
    by_cases c2 : s.1.length = 0
    · have c2' : (s.1.length : Int) = 0 := by omega
      simp only [c2', decide_true, ↓reduceIte]
      refine WS_of_seq (WS_of_ops ?_)
      simp only [f30_r3, go_sem, ↓reduceIte, Nat.reduceEqDiff]
      refine WS_of_ret ?_
      simp only [go_sem, f30_a, ↓reduceIte, Nat.reduceEqDiff, true_and, rEnd, c1, c2]
      rfl
    · have c2' : ¬ (s.1.length : Int) = 0 := by omega
      simp only [c2', decide_false, ↓reduceIte, Bool.false_eq_true]
      refine WS_of_skip ?_
      simp only [go_sem]
      refine WS_of_seq (WS_of_ops ?_)
      simp only [f30_r4, go_sem, ↓reduceIte, Nat.reduceEqDiff]
      refine WS_of_ret ?_
      simp only [go_sem, f30_a, ↓reduceIte, Nat.reduceEqDiff, true_and, rEnd, c1, c2]
      rfl
  · have c1' : ¬ ((s.2 : Nat) : Int) = 0 := by omega
    simp only [f30_r2, go_sem, ↓reduceIte, Nat.reduceEqDiff, c1', decide_false, Bool.not_false, Bool.true_eq_false]
    refine WS_of_cond ?_
    simp only [go_sem, ↓reduceIte, Nat.reduceEqDiff]
    refine WS_of_seq (WS_of_ops ?_)
    simp only [f30_r3, go_sem, ↓reduceIte, Nat.reduceEqDiff]
    refine WS_of_ret ?_
    have : rEnd s = s.2 := by simp [rEnd, c1]
    simp only [go_sem, f30_a, ↓reduceIte, Nat.reduceEqDiff, true_and, this]
end Go.Proofs.Ythhibhhpcjggnab.Ev.C

/- A reader of bytes: numbers, texts and lists of it, walked. -/
namespace Go.Proofs.Ythhibhhpcjggnab.Ev.C
open Go Go.Proofs.Ythhibhhpcjggnab.Ev
set_option linter.unusedSimpArgs false
set_option linter.unusedVariables false

theorem KeepA.box {h h' : H} {r : Nat} (k : KeepA [r] h h') (wf : h.Wf) (hr : r ≤ h.n) : Keep (Old r) h h' := k.old wf hr (by simp)
/-- fails -/
theorem fails_spec {h : H} {r : Nat} {s : RS} (wf : h.Wf) (a : Rd h r s) (is : Bool) (e : Nat) (he : is = true → e ≠ 0) :
    WCall E0 42 [.ptr r 0, .bool is, .int .i64 (e : Int)] h fun x h' => x = .val (.bool (decide (s.2 ≠ 0 ∨ is = true))) ∧ Rd h' r (s.1, if s.2 = 0 ∧ is = true then e else s.2) ∧ KeepA [r] h h' := by
  obtain ⟨v, b, c, d⟩ := a
  refine WCall_ws rfl T42 (by simp [f42_a]) ?_
  show WS E0 f42_c [] _ _ _
  refine WS_of_seq (WS_of_ops ?_)
  simp only [f42_r0, go_sem, ↓reduceIte]
  refine WS_of_seq (WS_of_seq (WS_of_ops ?_))
  cases is with
  | false =>
    simp only [f42_r1, go_sem, ↓reduceIte, Nat.reduceEqDiff, Bool.false_eq_true]
    refine WS_of_cond ?_
    simp only [go_sem, ↓reduceIte, Bool.false_eq_true]
    refine WS_of_skip ?_
    simp only [go_sem]
    refine WS_of_seq (WS_of_ops ?_)
    simp only [f42_r3, go_sem, ↓reduceIte, Nat.reduceEqDiff, Nat.zero_add, b.load]
    refine WS_of_ret ?_
    simp only [go_sem, f42_a, ↓reduceIte, Nat.reduceEqDiff, Bool.false_eq_true, or_false, and_false]
    refine ⟨?_, ⟨v, b, c, d⟩, KeepA.refl _ _⟩
    by_cases c1 : s.2 = 0
    · simp [c1]
    · have c1' : ¬ ((s.2 : Nat) : Int) = 0 := by omega
      simp [c1]
  | true =>
    by_cases c1 : s.2 = 0
    · have c1' : ((s.2 : Nat) : Int) = 0 := by omega
      simp only [f42_r1, go_sem, ↓reduceIte, Nat.reduceEqDiff, Nat.zero_add, b.load, c1', decide_true]
      refine WS_of_cond ?_
      simp only [go_sem, ↓reduceIte]
      refine WS_of_ops ?_
      obtain ⟨h1, e1, b1, k1⟩ := b.put wf (i := 1) (n := 1) (v := .int .i64 (e : Int)) rfl rfl (by simp)
      simp only [f42_r2, go_sem, ↓reduceIte, Nat.reduceEqDiff, Nat.zero_add, e1]
      have b1' : Box r [v, .int .i64 (e : Int)] h1 := b1
      refine WS_of_seq (WS_of_ops ?_)
      simp only [f42_r3, go_sem, ↓reduceIte, Nat.reduceEqDiff, Nat.zero_add, b1'.load]
      refine WS_of_ret ?_
      have hn := he rfl
      have hn' : ¬ (e : Int) = 0 := by omega
      simp only [go_sem, f42_a, ↓reduceIte, Nat.reduceEqDiff, c1, hn', decide_false, Bool.not_false, or_true, decide_true, true_and, and_self]
      have ko := KeepA.box k1 wf (Nat.le_of_lt (b.lt wf))
      exact ⟨⟨v, b1', c.keep ko d, d.keep ko fun o ho => ho⟩, k1⟩
    · have c1' : ¬ ((s.2 : Nat) : Int) = 0 := by omega
      simp only [f42_r1, go_sem, ↓reduceIte, Nat.reduceEqDiff, Nat.zero_add, b.load, c1', decide_false, Bool.false_eq_true]
      refine WS_of_cond ?_
      simp only [go_sem, ↓reduceIte, Bool.false_eq_true]
      refine WS_of_skip ?_
      simp only [go_sem]
      refine WS_of_seq (WS_of_ops ?_)
      simp only [f42_r3, go_sem, ↓reduceIte, Nat.reduceEqDiff, Nat.zero_add, b.load]
      refine WS_of_ret ?_
      simp only [go_sem, f42_a, ↓reduceIte, Nat.reduceEqDiff, c1, c1', decide_false, Bool.not_false, or_true, decide_true, true_and, false_and]
      exact ⟨⟨v, b, c, d⟩, KeepA.refl _ _⟩

/-- Num -/
theorem num_spec {h : H} {r : Nat} {s : RS} (wf : h.Wf) (a : Rd h r s) (hl : s.1.length < 4294967296) :
    WCall E0 22 [.ptr r 0] h fun x h' => x = .val (.int .u64 ((rNum s).1 : Int)) ∧ Rd h' r (rNum s).2 ∧ KeepA [r] h h' := by
  refine WCall_ws rfl T22 (by simp [f22_a]) ?_
  show WS E0 f22_c [] _ _ _
  refine WS_of_seq (WS_of_ops ?_)
  simp only [f22_r0, go_sem, ↓reduceIte]
  refine WS_of_seq (WS_of_seq (WS_of_ops ?_))
  simp only [f22_r1, go_sem, ↓reduceIte, Nat.reduceEqDiff]
  refine (err_spec a).mono ?_
  rintro x h' ⟨rfl, rfl⟩
  simp only [go_sem, ↓reduceIte, Nat.reduceEqDiff]
  refine WS_of_cond ?_
  simp only [go_sem, ↓reduceIte, Nat.reduceEqDiff]
  by_cases c1 : s.2 = 0
  case neg =>
    have c1' : ¬ ((s.2 : Nat) : Int) = 0 := by omega
    simp only [c1', decide_false, Bool.not_false, ↓reduceIte]
    refine WS_of_seq (WS_of_ops ?_)
    simp only [f22_r2, go_sem, ↓reduceIte, Nat.reduceEqDiff]
    refine WS_of_ret ?_
    have e : rNum s = (0, s) := by simp [rNum, c1]
    simp only [go_sem, f22_a, ↓reduceIte, Nat.reduceEqDiff, e]
    exact ⟨rfl, a, KeepA.refl _ _⟩
  have c1' : ((s.2 : Nat) : Int) = 0 := by omega
  simp only [c1', decide_true, Bool.not_true, Bool.false_eq_true, ↓reduceIte]
  refine WS_of_skip ?_
  simp only [go_sem]
  refine WS_of_seq (WS_of_ops ?_)
  have a0 := a
  obtain ⟨v, b, c, d⟩ := a0
  simp only [f22_r3, go_sem, ↓reduceIte, Nat.reduceEqDiff, Nat.zero_add, b.load]
  refine (take_spec c (by omega)).mono ?_
  rintro x h1 ⟨rfl, rfl⟩
  simp only [go_sem, ↓reduceIte, Nat.reduceEqDiff]
  refine WS_of_seq (WS_of_seq (WS_of_ops ?_))
  have ed : (!decide (((takeB s.1).2.2 : Int) = 0)) = decide ((takeB s.1).2.2 ≠ 0) := by
    by_cases q : (takeB s.1).2.2 = 0
    · simp [q]
    · have : ¬ ((takeB s.1).2.2 : Int) = 0 := by omega
      simp [q]
  simp only [f22_r4, go_sem, ↓reduceIte, Nat.reduceEqDiff, ed]
  refine (fails_spec wf a (decide ((takeB s.1).2.2 ≠ 0)) (takeB s.1).2.2 (by simp)).mono ?_
  rintro x h2 ⟨rfl, r2, k2⟩
  simp only [go_sem, ↓reduceIte, Nat.reduceEqDiff]
  refine WS_of_cond ?_
  simp only [go_sem, ↓reduceIte, Nat.reduceEqDiff]
  by_cases c2 : (takeB s.1).2.2 = 0
  case neg =>
    simp only [c1, c2, ne_eq, not_true_eq_false, not_false_eq_true, decide_true, or_true, ↓reduceIte, true_and] at r2 ⊢
    refine WS_of_seq (WS_of_ops ?_)
    simp only [f22_r5, go_sem, ↓reduceIte, Nat.reduceEqDiff]
    refine WS_of_ret ?_
    have e : rNum s = (0, (s.1, (takeB s.1).2.2)) := by simp [rNum, c1, c2]
    simp only [go_sem, f22_a, ↓reduceIte, Nat.reduceEqDiff, e]
    exact ⟨rfl, r2, k2⟩
  simp only [c1, c2, ne_eq, not_true_eq_false, decide_false, Bool.false_eq_true, or_false, and_false, ↓reduceIte] at r2 ⊢
  refine WS_of_skip ?_
  simp only [go_sem]
  refine WS_of_seq (WS_of_ops ?_)
  have wf2 := k2.wf wf
  obtain ⟨v', b', c', d'⟩ := r2
  obtain ⟨q1, q2, q3, q4⟩ := takeB_ok s.1 c2
  obtain ⟨w, ew, bw, sw⟩ := Bytes.drop c' q3 .i64
  have w1 : w.one = true := by
    have := bw.len
    cases w <;> first | rfl | cases this
  have wc : w.cells = [w] := by cases w <;> first | rfl | cases w1
  obtain ⟨h3, e3, b3, k3⟩ := b'.put wf2 (i := 0) (n := 1) (v := w) (by rw [wc]; rfl) (by rw [wc]; simp [w1]) (by simp)
  simp only [f22_r6, go_sem, ↓reduceIte, Nat.reduceEqDiff, Nat.zero_add, b'.load, ew, e3]
  refine WS_of_seq (WS_of_ops ?_)
  simp only [f22_r7, go_sem, ↓reduceIte, Nat.reduceEqDiff]
  refine WS_of_ret ?_
  have e : rNum s = ((takeB s.1).1, (s.1.drop (takeB s.1).2.1, 0)) := by simp [rNum, c1, c2]
  simp only [go_sem, f22_a, ↓reduceIte, Nat.reduceEqDiff, e, true_and]
  rw [wc] at b3
  have ko := KeepA.box k3 wf2 (Nat.le_of_lt (b'.lt wf2))
  refine ⟨⟨w, b3, bw.keep ko (sw _ d'), (sw _ d').keep ko fun o ho => ho⟩, ?_⟩
  exact KeepA.then wf k2 k3 fun g hg => .inl hg
end Go.Proofs.Ythhibhhpcjggnab.Ev.C

/- A reader of bytes: texts of it, walked. -/
namespace Go.Proofs.Ythhibhhpcjggnab.Ev.C
open Go Go.Proofs.Ythhibhhpcjggnab.Ev
set_option linter.unusedSimpArgs false
set_option linter.unusedVariables false
theorem rNum_len (s : RS) : (rNum s).2.1.length ≤ s.1.length := by
  unfold rNum
  split
  · exact Nat.le_refl _
  · split
    · exact Nat.le_refl _
    · simp
theorem rNum_big (s : RS) : (rNum s).1 < 18446744073709551616 := by
  unfold rNum
  split
  · simp
  · rename_i h1
    split
    · simp
    · rename_i h2; exact (takeB_ok s.1 (by simpa using h2)).2.1
theorem rText_len (s : RS) : (rText s).2.1.length ≤ s.1.length := by
  have := rNum_len s
  unfold rText
  split
  · exact this
  · split
    · exact this
    · simp only [List.length_drop]; omega
theorem AV.one_of_len {v : AV} {n : Nat} (h : lenSA v = some n) : v.one = true ∧ v.cells = [v] := by
  cases v <;> first | exact ⟨rfl, rfl⟩ | cases h
/-- what a reader holds is cut -/
theorem Rd.cut {h h3 : H} {r : Nat} {s : RS} (wf : h.Wf) (a : Rd h r s) {v : AV} (b : Box r [v, .int .i64 (s.2 : Int)] h) (c : Bytes h v s.1) (d : Slot (Old r) h v) {k : Nat} (hk : k ≤ s.1.length) (kd : IntKind) :
    ∃ w h', sliceSA 1 (some (.int kd (k : Int))) none v = some w ∧ storeA h 1 (.ptr r 0) w = some h' ∧ Rd h' r (s.1.drop k, s.2) ∧ KeepA [r] h h' := by
  obtain ⟨w, ew, bw, sw⟩ := Bytes.drop c hk kd
  obtain ⟨w1, wc⟩ := AV.one_of_len bw.len
  obtain ⟨h3, e3, b3, k3⟩ := b.put wf (i := 0) (n := 1) (v := w) (by rw [wc]; rfl) (by rw [wc]; simp [w1]) (by simp)
  rw [wc] at b3
  have ko := KeepA.box k3 wf (Nat.le_of_lt (b.lt wf))
  exact ⟨w, h3, ew, e3, ⟨w, b3, bw.keep ko (sw _ d), (sw _ d).keep ko fun o ho => ho⟩, k3⟩

/-- Text -/
theorem text_spec {h : H} {r : Nat} {s : RS} (wf : h.Wf) (a : Rd h r s) (hl : s.1.length < 4294967296) :
    WCall E0 24 [.ptr r 0] h fun x h' => x = .val (.str (rText s).1) ∧ Rd h' r (rText s).2 ∧ KeepA [r] h h' := by
  refine WCall_ws rfl T24 (by simp [f24_a]) ?_
  show WS E0 f24_c [] _ _ _
  refine WS_of_seq (WS_of_ops ?_)
  simp only [f24_r0, go_sem, ↓reduceIte]
  refine WS_of_seq (WS_of_ops ?_)
  simp only [f24_r1, go_sem, ↓reduceIte, Nat.reduceEqDiff]
  refine (num_spec wf a hl).mono ?_
  rintro x h1 ⟨rfl, a1, k1⟩
  have wf1 := k1.wf wf
  have hb := rNum_big s
  have hl1 := rNum_len s
  simp only [go_sem, ↓reduceIte, Nat.reduceEqDiff]
  refine WS_of_seq (WS_of_seq (WS_of_ops ?_))
  have e0 : rText s = if (rNum s).2.2 ≠ 0 then ([], (rNum s).2) else if (rNum s).2.1.length < (rNum s).1 then ([], ((rNum s).2.1, 10)) else ((rNum s).2.1.take (rNum s).1, ((rNum s).2.1.drop (rNum s).1, 0)) := rfl
  simp only [f24_r2, go_sem, ↓reduceIte, Nat.reduceEqDiff]
  refine (err_spec a1).mono ?_
  rintro x h' ⟨rfl, rfl⟩
  by_cases c1 : (rNum s).2.2 = 0
  case neg =>
    have c1' : ¬ ((rNum s).2.2 : Int) = 0 := by omega
    simp only [go_sem, ↓reduceIte, Nat.reduceEqDiff, c1', decide_false, Bool.not_false, Bool.true_eq_false]
    refine WS_of_cond ?_
    simp only [go_sem, ↓reduceIte, Nat.reduceEqDiff]
    refine WS_of_seq (WS_of_ops ?_)
    simp only [f24_r3, go_sem, ↓reduceIte, Nat.reduceEqDiff]
    refine WS_of_ret ?_
    rw [if_pos c1] at e0
    simp only [go_sem, f24_a, ↓reduceIte, Nat.reduceEqDiff, e0]
    exact ⟨trivial, a1, k1⟩
  have c1' : ((rNum s).2.2 : Int) = 0 := by omega
  have a2 := a1
  obtain ⟨v, b, c, d⟩ := a2
  have ew : IntKind.u64.wrap ((rNum s).2.1.length : Int) = ((rNum s).2.1.length : Int) := wrap_u64 (by omega) (by omega)
  have ei : decide (((rNum s).2.1.length : Int) < ((rNum s).1 : Int)) = decide ((rNum s).2.1.length < (rNum s).1) := by simp
  simp only [go_sem, ↓reduceIte, Nat.reduceEqDiff, c1', decide_true, Bool.not_true, Nat.zero_add, b.load, c.len, ew, ei]
  refine (fails_spec wf1 a1 (decide ((rNum s).2.1.length < (rNum s).1)) 10 (by simp)).mono ?_
  rintro x h2 ⟨rfl, r2, k2⟩
  have wf2 := k2.wf wf1
  have k12 := KeepA.then wf k1 k2 fun g hg => .inl hg
  simp only [go_sem, ↓reduceIte, Nat.reduceEqDiff, Bool.false_eq_true]
  refine WS_of_cond ?_
  simp only [go_sem, ↓reduceIte, Nat.reduceEqDiff]
  rw [if_neg (by simpa using c1)] at e0
  by_cases c2 : (rNum s).2.1.length < (rNum s).1
  · simp only [c1, c2, ne_eq, not_true_eq_false, decide_true, or_true, ↓reduceIte, and_self] at r2 ⊢
    refine WS_of_seq (WS_of_ops ?_)
    simp only [f24_r3, go_sem, ↓reduceIte, Nat.reduceEqDiff]
    refine WS_of_ret ?_
    rw [if_pos c2] at e0
    simp only [go_sem, f24_a, ↓reduceIte, Nat.reduceEqDiff, e0]
    exact ⟨trivial, r2, k12⟩
  simp only [c1, c2, ne_eq, not_true_eq_false, decide_false, Bool.false_eq_true, or_false, and_false, ↓reduceIte] at r2 ⊢
  refine WS_of_skip ?_
  simp only [go_sem]
  rw [if_neg c2] at e0
  have r3 := r2
  obtain ⟨v', b', c', d'⟩ := r3
  have hle : (rNum s).1 ≤ (rNum s).2.1.length := by omega
  obtain ⟨w, ew2, bw, sw⟩ := Bytes.take c' hle .u64
  refine WS_of_seq (WS_of_ops ?_)
  simp only [f24_r4, go_sem, ↓reduceIte, Nat.reduceEqDiff, Nat.zero_add, b'.load, ew2, bw.str]
  obtain ⟨w3, h3, e3, e4, r4, k4⟩ := Rd.cut (h3 := h2) wf2 r2 b' c' d' hle .u64
  refine WS_of_seq (WS_of_ops ?_)
  simp only [f24_r5, go_sem, ↓reduceIte, Nat.reduceEqDiff, Nat.zero_add, b'.load, e3, e4]
  refine WS_of_seq (WS_of_ops ?_)
  simp only [f24_r6, go_sem, ↓reduceIte, Nat.reduceEqDiff]
  refine WS_of_ret ?_
  simp only [go_sem, f24_a, ↓reduceIte, Nat.reduceEqDiff, e0]
  exact ⟨trivial, r4, KeepA.then wf k12 k4 fun g hg => .inl hg⟩
end Go.Proofs.Ythhibhhpcjggnab.Ev.C

/- A reader of bytes: lists of it, walked. -/
namespace Go.Proofs.Ythhibhhpcjggnab.Ev.C
open Go Go.Proofs.Ythhibhhpcjggnab.Ev
set_option linter.unusedSimpArgs false
set_option linter.unusedVariables false
theorem takeB_pos {bs : List UInt8} (h : (takeB bs).2.2 = 0) : 0 < (takeB bs).2.1 := by
  cases bs with
  | nil => cases h
  | cons c r =>
    revert h
    simp only [takeB]
    split
    · intro h; cases h
    · split
      · intro h; cases h
      · split
        · intro h; cases h
        · intro _; show 0 < 1 + c.toNat; omega
/-- a text that is read takes a byte at least -/
theorem rText_less {s : RS} (h : (rText s).2.2 = 0) : (rText s).2.1.length < s.1.length := by
  have hb := takeB_pos (bs := s.1)
  have hk := takeB_ok s.1
  unfold rText at h ⊢
  by_cases c1 : (rNum s).2.2 = 0
  case neg => rw [if_pos c1] at h; exact absurd h c1
  rw [if_neg (by simpa using c1)] at h ⊢
  have hlen : (rNum s).2.1.length < s.1.length := by
    unfold rNum at c1 ⊢
    by_cases q1 : s.2 = 0
    case neg => rw [if_pos q1] at c1; exact absurd c1 q1
    rw [if_neg (by simpa using q1)] at c1 ⊢
    by_cases q2 : (takeB s.1).2.2 = 0
    case neg => rw [if_pos q2] at c1; exact absurd c1 q2
    rw [if_neg (by simpa using q2)]
    have := hb q2
    have := (hk q2).2.2.1
    simp only [List.length_drop]; omega
  split at h
  · cases h
  · rename_i c2
    rw [if_neg c2]
    simp only [List.length_drop]; omega

/-- List -/
theorem list_spec {h : H} {r : Nat} {s : RS} {most : Int} (wf : h.Wf) (a : Rd h r s) (hl : s.1.length < 4294967295) (hm1 : -9223372036854775808 ≤ most) (hm2 : most < 9223372036854775808) :
    WCall E0 26 [.ptr r 0, .int .i64 most] h fun x h' => ∃ v, x = .val v ∧ Strs h' v (rList most s).1 ∧ Own h.n h' v ∧ Rd h' r (rList most s).2 ∧ KeepA [r] h h' := by
  refine WCall_ws rfl T26 (by simp [f26_a]) ?_
  show WS E0 f26_c [] _ _ _
  refine WS_of_seq (WS_of_ops ?_)
  simp only [f26_r0, go_sem, ↓reduceIte]
  refine WS_of_seq (WS_of_ops ?_)
  simp only [f26_r1, go_sem, ↓reduceIte, Nat.reduceEqDiff]
  refine (num_spec wf a (by omega)).mono ?_
  rintro x h1 ⟨rfl, a1, k1⟩
  have wf1 := k1.wf wf
  have hb := rNum_big s
  have hl1 := rNum_len s
  have hrn : r < h.n := by obtain ⟨v, b, c, d⟩ := a; exact b.lt wf
  have e0 : rList most s = if (rNum s).2.2 ≠ 0 then ([], (rNum s).2) else if max most 0 < ((rNum s).1 : Int) then ([], ((rNum s).2.1, 13)) else rTexts (rNum s).1 [] (rNum s).2 := rfl
  simp only [go_sem, ↓reduceIte, Nat.reduceEqDiff]
  refine WS_of_seq (WS_of_seq (WS_of_ops ?_))
  simp only [f26_r2, go_sem, ↓reduceIte, Nat.reduceEqDiff]
  refine (err_spec a1).mono ?_
  rintro x h' ⟨rfl, rfl⟩
  by_cases c1 : (rNum s).2.2 = 0
  case neg =>
    have c1' : ¬ ((rNum s).2.2 : Int) = 0 := by omega
    simp only [go_sem, ↓reduceIte, Nat.reduceEqDiff, c1', decide_false, Bool.not_false, Bool.true_eq_false]
    refine WS_of_cond ?_
    simp only [go_sem, ↓reduceIte, Nat.reduceEqDiff]
    refine WS_of_seq (WS_of_ops ?_)
    simp only [f26_r3, go_sem, ↓reduceIte, Nat.reduceEqDiff]
    refine WS_of_ret ?_
    rw [if_pos c1] at e0
    simp only [go_sem, f26_a, ↓reduceIte, Nat.reduceEqDiff, e0]
    exact ⟨_, rfl, Strs.nil _, trivial, a1, k1⟩
  have c1' : ((rNum s).2.2 : Int) = 0 := by omega
  rw [if_neg (by simpa using c1)] at e0
  have em : (if (0 : Int) > most then 0 else most) = max most 0 := by
    split <;> omega
  have ew : IntKind.u64.wrap (max most 0) = max most 0 := wrap_u64 (by omega) (by omega)
  simp only [go_sem, ↓reduceIte, Nat.reduceEqDiff, c1', decide_true, Bool.not_true, em, ew]
  refine (fails_spec wf1 a1 (decide (max most 0 < ((rNum s).1 : Int))) 13 (by simp)).mono ?_
  rintro x h2 ⟨rfl, r2, k2⟩
  have wf2 := k2.wf wf1
  have k12 := KeepA.then wf k1 k2 fun g hg => .inl hg
  simp only [go_sem, ↓reduceIte, Nat.reduceEqDiff, Bool.false_eq_true]
  refine WS_of_cond ?_
  simp only [go_sem, ↓reduceIte, Nat.reduceEqDiff]
  by_cases c2 : max most 0 < ((rNum s).1 : Int)
  · simp only [c1, c2, ne_eq, not_true_eq_false, decide_true, or_true, ↓reduceIte, and_self] at r2 ⊢
    refine WS_of_seq (WS_of_ops ?_)
    simp only [f26_r3, go_sem, ↓reduceIte, Nat.reduceEqDiff]
    refine WS_of_ret ?_
    rw [if_pos c2] at e0
    simp only [go_sem, f26_a, ↓reduceIte, Nat.reduceEqDiff, e0]
    exact ⟨_, rfl, Strs.nil _, trivial, r2, k12⟩
  rw [if_neg c2] at e0
  simp only [c1, c2, ne_eq, not_true_eq_false, decide_false, Bool.false_eq_true, or_false, and_false, ↓reduceIte] at r2 ⊢
  refine WS_of_skip ?_
  simp only [go_sem]
  refine WS_of_seq (WS_of_ops ?_)
  simp only [f26_r4, go_sem, ↓reduceIte, Nat.reduceEqDiff]
  refine WS_of_seq (WS_of_seq (WS_of_ops ?_))
  simp only [f26_r5, go_sem, ↓reduceIte, Nat.reduceEqDiff]
  have r2' : Rd h2 r (rNum s).2 := by rw [← c1] at r2; exact r2
  refine WS_of_block (WS_of_loop (fun m s1 h3 => ∃ i acc st, m = (rNum s).1 - i ∧ i ≤ (rNum s).1 ∧ rTexts ((rNum s).1 - i) acc st = rTexts (rNum s).1 [] (rNum s).2 ∧ acc.length + st.1.length ≤ (rNum s).2.1.length ∧
    Strs h3 (s1 6) acc ∧ Own h.n h3 (s1 6) ∧ Rd h3 r st ∧ st.2 = 0 ∧ KeepA [r] h h3 ∧ s1 0 = .ptr r 0 ∧ s1 21 = .int .u64 ((rNum s).1 : Int) ∧ s1 22 = .int .u64 (i : Int)) ?_ (rNum s).1 ?_)
  · rintro m s1 h3 ⟨i, acc, st, rfl, hi, he, hlen, q6, qo, qr, qe, qk, q0, q21, q22⟩
    have wf3 := qk.wf wf
    show WS E0 f26_l11 _ _ _ _
    refine WS_of_seq (WS_of_ops ?_)
    simp only [f26_r6, go_sem, ↓reduceIte, Nat.reduceEqDiff, q21, q22]
    refine WS_of_seq (WS_of_cond ?_)
    simp only [go_sem, ↓reduceIte]
    by_cases hil : i < (rNum s).1
    case neg =>
      have hie : i = (rNum s).1 := by omega
      subst hie
      simp only [Int.lt_irrefl, decide_false, Bool.false_eq_true, ↓reduceIte]
      refine WS_of_exit ?_
      simp only [go_sem, ↓reduceIte]
      refine WS_of_seq (WS_of_ops ?_)
      simp only [f26_r12, go_sem, ↓reduceIte, Nat.reduceEqDiff]
      refine WS_of_ret ?_
      rw [Nat.sub_self] at he
      simp only [go_sem, f26_a, ↓reduceIte, Nat.reduceEqDiff, e0, ← he]
      exact ⟨_, rfl, q6, qo, qr, qk⟩
    have hil' : (i : Int) < ((rNum s).1 : Int) := by omega
    simp only [hil', decide_true, ↓reduceIte]
    refine WS_of_skip ?_
    simp only [go_sem]
    refine WS_of_seq (WS_of_block (WS_of_seq (WS_of_ops ?_)))
    simp only [f26_r7, go_sem, ↓reduceIte, Nat.reduceEqDiff, q0]
    refine (text_spec wf3 qr (by omega)).mono ?_
    rintro x h4 ⟨rfl, r4, k4⟩
    have wf4 := k4.wf wf3
    have hroot : Root r h3 := by obtain ⟨v, b, c, d⟩ := qr; exact b.root
    have sl3 := qo.away wf3 (gs := [r]) (by simp; exact ⟨hrn, hroot⟩)
    have kn : Keep (Old h4.n) h4 (h4.new [AV.str (rText st).1]) := Keep.new (Nat.le_refl _) _
    have sl4 := (sl3.keepA k4).old
    obtain ⟨v5, h5, e5, b5, o5, k5⟩ := Strs.app (N := h.n) (kn.wf wf4) (Nat.le_trans (Nat.le_trans qk.n k4.n) kn.n) ((q6.keep k4 sl3).keep kn sl4) ((qo.keep sl3 k4).keep sl4 kn) (Strs.one wf4 (rText st).1) (by simp; omega)
    simp only [go_sem, ↓reduceIte, Nat.reduceEqDiff, e5]
    have nh4 : h.n ≤ h4.n := Nat.le_trans qk.n k4.n
    have kn5 : Keep (Old h.n) h4 h5 := (kn.less nh4).trans k5
    have r5 : Rd h5 r (rText st).2 := r4.keep (kn5.less (by omega))
    have k05 : KeepA [r] h h5 := ((KeepA.then wf qk k4 fun g hg => .inl hg)).trans (kn5.weaken fun o ho => ho.1)
    obtain ⟨v, b, c, d⟩ := r5
    refine WS_of_seq (WS_of_ops ?_)
    simp only [f26_r8, go_sem, ↓reduceIte, Nat.reduceEqDiff, q0, Nat.zero_add, b.load]
    refine WS_of_cond ?_
    simp only [go_sem, ↓reduceIte]
    have hn1 : (rNum s).1 - i = ((rNum s).1 - (i + 1)) + 1 := by omega
    rw [hn1] at he
    by_cases c3 : (rText st).2.2 = 0
    case neg =>
      have c3' : ¬ ((rText st).2.2 : Int) = 0 := by omega
      simp only [c3', decide_false, Bool.not_false, ↓reduceIte]
      refine WS_of_seq (WS_of_ops ?_)
      simp only [f26_r9, go_sem, ↓reduceIte]
      refine WS_of_ret ?_
      simp only [rTexts] at he
      rw [if_pos c3] at he
      simp only [go_sem, f26_a, ↓reduceIte, Nat.reduceEqDiff, e0, ← he]
      exact ⟨_, rfl, Strs.nil _, trivial, ⟨v, b, c, d⟩, k05⟩
    have c3' : ((rText st).2.2 : Int) = 0 := by omega
    simp only [c3', decide_true, Bool.not_true, Bool.false_eq_true, ↓reduceIte]
    refine WS_of_skip ?_
    simp only [go_sem]
    refine WS_of_ops ?_
    have e9 : IntKind.u64.wrap ((i : Int) + 1) = ((i + 1 : Nat) : Int) := by rw [wrap_u64 (by omega) (by omega)]; omega
    simp only [f26_r10, go_sem, ↓reduceIte, Nat.reduceEqDiff, q22, e9]
    simp only [rTexts] at he
    rw [if_neg (by simpa using c3)] at he
    have hlt := rText_less c3
    refine ⟨(rNum s).1 - (i + 1), by omega, i + 1, _, (rText st).2, rfl, by omega, he, ?_, b5, o5, ⟨v, b, c, d⟩, c3, k05, q0, q21, rfl⟩
    simp only [List.length_append, List.length_cons, List.length_nil]; omega
  · refine ⟨0, [], (rNum s).2, rfl, by omega, rfl, by simp, ?_, ?_, r2', c1, k12, ?_, ?_, ?_⟩
    · simp only [go_sem, ↓reduceIte, Nat.reduceEqDiff]; exact Strs.nil _
    · simp only [go_sem, ↓reduceIte, Nat.reduceEqDiff]; trivial
    · simp only [go_sem, ↓reduceIte, Nat.reduceEqDiff]
    · simp only [go_sem, ↓reduceIte, Nat.reduceEqDiff]
    · simp only [go_sem, ↓reduceIte, Nat.reduceEqDiff]; rfl
end Go.Proofs.Ythhibhhpcjggnab.Ev.C
