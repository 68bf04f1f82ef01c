/- A reader of bytes: its functions, walked. -/
import Derived.Test.YthhibhhpcjggnabTOne
namespace Go.Proofs.Ythhibhhpcjggnab.Ev.C
open Go Go.Proofs.Ythhibhhpcjggnab.Ev
set_option linter.unusedSimpArgs false
set_option linter.unusedVariables false
/-! ### by plain definition -/
abbrev RS := List UInt8 × Nat
def rNum (s : RS) : Nat × RS := if s.2 ≠ 0 then (0, s) else if (takeB s.1).2.2 ≠ 0 then (0, (s.1, (takeB s.1).2.2)) else ((takeB s.1).1, (s.1.drop (takeB s.1).2.1, 0))
def rText (s : RS) : List UInt8 × RS :=
  if (rNum s).2.2 ≠ 0 then ([], (rNum s).2) else if (rNum s).2.1.length < (rNum s).1 then ([], ((rNum s).2.1, 10)) else ((rNum s).2.1.take (rNum s).1, ((rNum s).2.1.drop (rNum s).1, 0))
def rTexts : Nat → List (List UInt8) → RS → List (List UInt8) × RS
  | 0, acc, s => (acc, s)
  | n + 1, acc, s => if (rText s).2.2 ≠ 0 then ([], (rText s).2) else rTexts n (acc ++ [(rText s).1]) (rText s).2
def rList (most : Int) (s : RS) : List (List UInt8) × RS :=
  if (rNum s).2.2 ≠ 0 then ([], (rNum s).2) else if max most 0 < ((rNum s).1 : Int) then ([], ((rNum s).2.1, 13)) else rTexts (rNum s).1 [] (rNum s).2
def rEnd (s : RS) : Nat := if s.2 ≠ 0 then s.2 else if s.1.length = 0 then 0 else 12

theorem takeB_code (bs : List UInt8) : (takeB bs).2.2 ≤ 11 := by
  cases bs with
  | nil => decide
  | cons c r =>
    simp only [takeB]
    split
    · decide
    · split
      · decide
      · split <;> simp

/-- a reader stands at r: what is left, and its error -/
def Rd (h : H) (r : Nat) (s : RS) : Prop := ∃ v, Box r [v, .int .i64 (s.2 : Int)] h ∧ Bytes h v s.1 ∧ Slot (Old r) h v
theorem Rd.keep {h h' : H} {r : Nat} {s : RS} (a : Rd h r s) (k : Keep (Old (r + 1)) h h') : Rd h' r s := by
  obtain ⟨v, b, c, d⟩ := a
  have hr : Old (r + 1) r := Nat.lt_succ_self r
  have d' : Slot (Old (r + 1)) h v := d.mono fun o ho => Nat.lt_succ_of_lt ho
  exact ⟨v, b.keep k hr, c.keep k d', d.keep (k.less (Nat.le_succ r)) fun o ho => ho⟩

/-- slices.Clone of bytes -/
theorem clone_spec {h : H} {v : AV} {bs : List UInt8} (wf : h.Wf) (b : Bytes h v bs) (sl : Slot (Old h.n) h v) (hl : bs.length < 4294967296) :
    WCall E0 41 [v] h fun r h' => ∃ v', r = .val v' ∧ Bytes h' v' bs ∧ Own h.n h' v' ∧ Keep (Old h.n) h h' := by
  refine WCall_ws rfl T41 (by simp [f41_a]) ?_
  show WS E0 f41_c [] _ _ _
  refine WS_of_seq (WS_of_ops ?_)
  simp only [f41_r0, go_sem, ↓reduceIte]
  refine WS_of_seq (WS_of_seq (WS_of_ops ?_))
  have hlen := b.len
  cases v <;> simp only [lenSA] at hlen <;> (try (cases hlen; done))
  case nils =>
    simp only [f41_r1, go_sem, ↓reduceIte, Nat.reduceEqDiff]
    refine WS_of_cond ?_
    simp only [go_sem, ↓reduceIte, Bool.false_eq_true]
    refine WS_of_seq (WS_of_ops ?_)
    simp only [f41_r2, go_sem, ↓reduceIte]
    refine WS_of_ret ?_
    simp only [go_sem, f41_a, ↓reduceIte, Nat.reduceEqDiff]
    exact ⟨_, rfl, b, trivial, Keep.refl _ _⟩
  case slice o i len es =>
    simp only [f41_r1, go_sem, ↓reduceIte, Nat.reduceEqDiff]
    refine WS_of_cond ?_
    simp only [go_sem, ↓reduceIte, Bool.false_eq_true]
    refine WS_of_skip ?_
    simp only [go_sem]
    refine WS_of_seq (WS_of_ops ?_)
    have ea : afill (zeros [AV.int .u8 0] (0 * 1)) [] = some [] := rfl
    have kn : Keep (Old h.n) h (h.new []) := Keep.new (Nat.le_refl _) _
    have b0 : Bytes (h.new []) (.slice h.n 0 0 1) [] := Sl.new (n := 0) (es := 1) wf (vs := []) (by simp)
    have o0 : Own h.n (h.new []) (.slice h.n 0 0 1) := Own.new wf (Nat.le_refl _) (by simp)
    obtain ⟨v2, h2, a2, b2, o2, k2⟩ := b0.app (kn.wf wf) kn.n o0 (b.keep kn sl) (by simpa using hl)
    simp only [f41_r3, go_sem, ↓reduceIte, Nat.reduceEqDiff, ea, a2]
    refine WS_of_ret ?_
    simp only [go_sem, f41_a, ↓reduceIte, Nat.reduceEqDiff]
    exact ⟨_, rfl, b2, o2, kn.trans k2⟩

/-- fields.Open -/
theorem open_spec {h : H} {v : AV} {bs : List UInt8} (wf : h.Wf) (b : Bytes h v bs) (sl : Slot (Old h.n) h v) (hl : bs.length < 4294967296) :
    WCall E0 21 [v] h fun r h' => ∃ o, r = .val (.ptr o 0) ∧ Rd h' o (bs, 0) ∧ h.n ≤ o ∧ Keep (Old h.n) h h' := by
  refine WCall_ws rfl T21 (by simp [f21_a]) ?_
  show WS E0 f21_c [] _ _ _
  refine WS_of_seq (WS_of_ops ?_)
  simp only [f21_r0, go_sem, ↓reduceIte]
  refine WS_of_seq (WS_of_ops ?_)
  simp only [f21_r1, go_sem, ↓reduceIte, Nat.reduceEqDiff]
  refine (clone_spec wf b sl hl).mono ?_
  rintro r h1 ⟨v1, rfl, b1, o1, k1⟩
  have ea : v1.one = true → afill [AV.nils, AV.int .i64 0] [(0, 1, v1)] = some [v1, .int .i64 0] := by
    intro e
    cases v1 <;> first | rfl | cases e
  have e1 : v1.one = true := by
    cases v1 <;> first | rfl | exact o1.elim
  simp only [go_sem, ↓reduceIte, Nat.reduceEqDiff, ea e1, AV.cells]
  refine WS_of_ret ?_
  simp only [go_sem, f21_a, ↓reduceIte, Nat.reduceEqDiff]
  have wf1 := k1.wf wf
  have kn : Keep (Old h1.n) h1 (h1.new [v1, .int .i64 0]) := Keep.new (Nat.le_refl _) _
  exact ⟨_, rfl, ⟨v1, Box.new wf1 _, b1.keep kn (o1.slot wf1), (o1.slot wf1).keep kn fun o ho => ho⟩, k1.n, k1.then (Nat.le_refl _) kn⟩

/-- Err -/
theorem err_spec {h : H} {r : Nat} {s : RS} (a : Rd h r s) : WCall E0 29 [.ptr r 0] h fun x h' => h' = h ∧ x = .val (.int .i64 (s.2 : Int)) := by
  obtain ⟨v, b, c, d⟩ := a
  refine WCall_ws rfl T29 (by simp [f29_a]) ?_
  show WS E0 f29_c [] _ _ _
  refine WS_of_seq (WS_of_ops ?_)
  simp only [f29_r0, go_sem, ↓reduceIte]
  refine WS_of_seq (WS_of_seq (WS_of_ops ?_))
  simp only [f29_r1, go_sem, ↓reduceIte, Nat.reduceEqDiff, Bool.false_eq_true]
  refine WS_of_cond ?_
  simp only [go_sem, ↓reduceIte, Bool.false_eq_true]
  refine WS_of_skip ?_
  simp only [go_sem]
  refine WS_of_seq (WS_of_ops ?_)
  simp only [f29_r3, go_sem, ↓reduceIte, Nat.reduceEqDiff, Nat.zero_add, b.load]
  refine WS_of_ret ?_
  simp only [go_sem, f29_a, ↓reduceIte, Nat.reduceEqDiff, true_and]
/-- Left -/
theorem left_spec {h : H} {r : Nat} {s : RS} (a : Rd h r s) : WCall E0 28 [.ptr r 0] h fun x h' => h' = h ∧ x = .val (.int .i64 (s.1.length : Int)) := by
  obtain ⟨v, b, c, d⟩ := a
  refine WCall_ws rfl T28 (by simp [f28_a]) ?_
  show WS E0 f28_c [] _ _ _
  refine WS_of_seq (WS_of_ops ?_)
  simp only [f28_r0, go_sem, ↓reduceIte]
  refine WS_of_seq (WS_of_seq (WS_of_ops ?_))
  simp only [f28_r1, go_sem, ↓reduceIte, Nat.reduceEqDiff, Bool.false_eq_true]
  refine WS_of_cond ?_
  simp only [go_sem, ↓reduceIte, Bool.false_eq_true]
  refine WS_of_skip ?_
  simp only [go_sem]
  refine WS_of_seq (WS_of_ops ?_)
  simp only [f28_r3, go_sem, ↓reduceIte, Nat.reduceEqDiff, Nat.zero_add, b.load, c.len]
  refine WS_of_ret ?_
  simp only [go_sem, f28_a, ↓reduceIte, Nat.reduceEqDiff, true_and]
/-- End -/
theorem end_spec {h : H} {r : Nat} {s : RS} (a : Rd h r s) : WCall E0 30 [.ptr r 0] h fun x h' => h' = h ∧ x = .val (.int .i64 (rEnd s : Int)) := by
  refine WCall_ws rfl T30 (by simp [f30_a]) ?_
  show WS E0 f30_c [] _ _ _
  refine WS_of_seq (WS_of_ops ?_)
  simp only [f30_r0, go_sem, ↓reduceIte]
  refine WS_of_seq (WS_of_seq (WS_of_ops ?_))
  simp only [f30_r1, go_sem, ↓reduceIte, Nat.reduceEqDiff]
  refine (err_spec a).mono ?_
  rintro x h' ⟨rfl, rfl⟩
  simp only [go_sem, ↓reduceIte, Nat.reduceEqDiff]
  refine WS_of_seq (WS_of_ops ?_)
  by_cases c1 : s.2 = 0
  · have c1' : ((s.2 : Nat) : Int) = 0 := by omega
    simp only [f30_r2, go_sem, ↓reduceIte, Nat.reduceEqDiff, c1', decide_true, Bool.not_true]
    refine (left_spec a).mono ?_
    rintro x h1 ⟨rfl, rfl⟩
    simp only [go_sem, ↓reduceIte, Nat.reduceEqDiff, Bool.false_eq_true]
    refine WS_of_cond ?_
    simp only [go_sem, ↓reduceIte, Nat.reduceEqDiff]
    by_cases c2 : s.1.length = 0
    · have c2' : (s.1.length : Int) = 0 := by omega
      simp only [c2', decide_true, ↓reduceIte]
      refine WS_of_seq (WS_of_ops ?_)
      simp only [f30_r3, go_sem, ↓reduceIte, Nat.reduceEqDiff]
      refine WS_of_ret ?_
      simp only [go_sem, f30_a, ↓reduceIte, Nat.reduceEqDiff, true_and, rEnd, c1, c2]
      rfl
    · have c2' : ¬ (s.1.length : Int) = 0 := by omega
      simp only [c2', decide_false, ↓reduceIte, Bool.false_eq_true]
      refine WS_of_skip ?_
      simp only [go_sem]
      refine WS_of_seq (WS_of_ops ?_)
      simp only [f30_r4, go_sem, ↓reduceIte, Nat.reduceEqDiff]
      refine WS_of_ret ?_
      simp only [go_sem, f30_a, ↓reduceIte, Nat.reduceEqDiff, true_and, rEnd, c1, c2]
      rfl
  · have c1' : ¬ ((s.2 : Nat) : Int) = 0 := by omega
    simp only [f30_r2, go_sem, ↓reduceIte, Nat.reduceEqDiff, c1', decide_false, Bool.not_false, Bool.true_eq_false]
    refine WS_of_cond ?_
    simp only [go_sem, ↓reduceIte, Nat.reduceEqDiff]
    refine WS_of_seq (WS_of_ops ?_)
    simp only [f30_r3, go_sem, ↓reduceIte, Nat.reduceEqDiff]
    refine WS_of_ret ?_
    have : rEnd s = s.2 := by simp [rEnd, c1]
    simp only [go_sem, f30_a, ↓reduceIte, Nat.reduceEqDiff, true_and, this]
end Go.Proofs.Ythhibhhpcjggnab.Ev.C
