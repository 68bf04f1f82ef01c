/- Answers: what may stand in one, and its bytes, walked. -/
import Derived.Test.YthhibhhpcjggnabTPlainR
namespace Go.Proofs.Ythhibhhpcjggnab.Ev.C
open Go Go.Proofs.Ythhibhhpcjggnab.Ev
set_option linter.unusedSimpArgs false
set_option linter.unusedVariables false
abbrev repL (r : Rep) (vl vm : AV) : List AV := [.int .i64 r.code, .int .i64 r.rev, .int .i64 r.steps, .bool r.is, vl, vm]
/-- an answer in memory -/
structure IsRep (h : H) (r : Rep) (vl vm : AV) : Prop where
  list : Strs h vl r.list
  more : Bytes h vm r.more
  sl : Slot (Old h.n) h vl
  sm : Slot (Old h.n) h vm
  hl : r.list.length < 9223372036854775808
  hm : r.more.length < 9223372036854775808
theorem IsRep.keep {h h' : H} {r : Rep} {vl vm : AV} (a : IsRep h r vl vm) (k : Keep (Old h.n) h h') : IsRep h' r vl vm :=
  ⟨a.list.keep k a.sl, a.more.keep k a.sm, a.sl.keep k fun o ho => Nat.lt_of_lt_of_le ho k.n, a.sm.keep k fun o ho => Nat.lt_of_lt_of_le ho k.n, a.hl, a.hm⟩
theorem IsRep.onel {h : H} {r : Rep} {vl vm : AV} (a : IsRep h r vl vm) : vl.one = true := (AV.one_of_len a.list.len).1
theorem IsRep.onem {h : H} {r : Rep} {vl vm : AV} (a : IsRep h r vl vm) : vm.one = true := (AV.one_of_len a.more.len).1

theorem in47 {h : H} {x : Int} : WCall E0 47 [.int .i64 x] h fun r h' => h' = h ∧ r = .val (.bool (inB x)) := by
  refine WCall_ws rfl T47 (by simp [f47_a]) ?_
  show WS E0 f47_c [] _ _ _
  refine WS_of_seq (WS_of_ops ?_)
  simp only [f47_r0, go_sem, ↓reduceIte]
  refine WS_of_seq (WS_of_ops ?_)
  by_cases c : 0 ≤ x
  · simp only [f47_r1, go_sem, ↓reduceIte, Nat.reduceEqDiff, c, decide_true]
    refine WS_of_ret ?_
    simp only [go_sem, f47_a, ↓reduceIte, Nat.reduceEqDiff, inB, c, decide_true, Bool.true_and, true_and]
  · simp only [f47_r1, go_sem, ↓reduceIte, Nat.reduceEqDiff, c, decide_false, Bool.false_eq_true]
    refine WS_of_ret ?_
    simp only [go_sem, f47_a, ↓reduceIte, Nat.reduceEqDiff, inB, c, decide_false, Bool.false_and, true_and]
theorem in44 {h : H} {x : Int} : WCall E0 44 [.int .i64 x] h fun r h' => h' = h ∧ r = .val (.bool (inB x)) := by
  refine WCall_ws rfl T44 (by simp [f44_a]) ?_
  show WS E0 f44_c [] _ _ _
  refine WS_of_seq (WS_of_ops ?_)
  simp only [f44_r0, go_sem, ↓reduceIte]
  refine WS_of_seq (WS_of_ops ?_)
  by_cases c : 0 ≤ x
  · simp only [f44_r1, go_sem, ↓reduceIte, Nat.reduceEqDiff, c, decide_true]
    refine WS_of_ret ?_
    simp only [go_sem, f44_a, ↓reduceIte, Nat.reduceEqDiff, inB, c, decide_true, Bool.true_and, true_and]
  · simp only [f44_r1, go_sem, ↓reduceIte, Nat.reduceEqDiff, c, decide_false, Bool.false_eq_true]
    refine WS_of_ret ?_
    simp only [go_sem, f44_a, ↓reduceIte, Nat.reduceEqDiff, inB, c, decide_false, Bool.false_and, true_and]
theorem in38 {h : H} {x : Int} : WCall E0 38 [.int .i64 x] h fun r h' => h' = h ∧ r = .val (.bool (inB x)) := by
  refine WCall_ws rfl T38 (by simp [f38_a]) ?_
  show WS E0 f38_c [] _ _ _
  refine WS_of_seq (WS_of_ops ?_)
  simp only [f38_r0, go_sem, ↓reduceIte]
  refine WS_of_seq (WS_of_ops ?_)
  by_cases c : 0 ≤ x
  · simp only [f38_r1, go_sem, ↓reduceIte, Nat.reduceEqDiff, c, decide_true]
    refine WS_of_ret ?_
    simp only [go_sem, f38_a, ↓reduceIte, Nat.reduceEqDiff, inB, c, decide_true, Bool.true_and, true_and]
  · simp only [f38_r1, go_sem, ↓reduceIte, Nat.reduceEqDiff, c, decide_false, Bool.false_eq_true]
    refine WS_of_ret ?_
    simp only [go_sem, f38_a, ↓reduceIte, Nat.reduceEqDiff, inB, c, decide_false, Bool.false_and, true_and]

/-- Fail -/
theorem fail_spec {h : H} {e steps : Int} (wf : h.Wf) : WCall E0 34 [.int .i64 e, .int .i64 steps] h fun r h' => r = .val (.agg (repL ⟨e, 0, steps, false, [], []⟩ .nils .nils)) ∧ Keep (Old h.n) h h' := by
  refine WCall_ws rfl T34 (by simp [f34_a]) ?_
  show WS E0 f34_c [] _ _ _
  refine WS_of_seq (WS_of_ops ?_)
  simp only [f34_r0, go_sem, ↓reduceIte, Nat.reduceEqDiff]
  have b1 := Box.new wf [.int .i64 0, .int .i64 0, .int .i64 0, .bool false, .nils, .nils]
  have k1 : Keep (Old h.n) h (h.new [.int .i64 0, .int .i64 0, .int .i64 0, .bool false, .nils, .nils]) := Keep.new (Nat.le_refl _) _
  generalize h.new [.int .i64 0, .int .i64 0, .int .i64 0, .bool false, .nils, .nils] = h1 at b1 k1 ⊢
  have wf1 := k1.wf wf
  obtain ⟨h2, e2, b2, k2⟩ := b1.putAll wf1 (vs := repL ⟨e, 0, steps, false, [], []⟩ .nils .nils) (n := 6) rfl rfl rfl
  have ea : afill [AV.int .i64 0, .int .i64 0, .int .i64 0, .bool false, .nils, .nils] [(0, 1, AV.int .i64 e), (2, 1, AV.int .i64 steps)] = some (repL ⟨e, 0, steps, false, [], []⟩ .nils .nils) := rfl
  refine WS_of_seq (WS_of_ops ?_)
  simp only [f34_r1, go_sem, ↓reduceIte, Nat.reduceEqDiff, ea, e2]
  refine WS_of_ret ?_
  simp only [go_sem, f34_a, ↓reduceIte, Nat.reduceEqDiff, b2.loadAgg (n := 6) rfl, true_and]
  exact k1.trans (k2.newbox wf1 k1.n (Nat.le_refl _))

/-- plain -/
theorem plain_spec {h : H} {r : Rep} {vl vm : AV} (wf : h.Wf) (a : IsRep h r vl vm) : WCall E0 36 [.agg (repL r vl vm)] h fun x h' => x = .val (.agg (repL r vl (.str r.more))) ∧ Keep (Old h.n) h h' := by
  refine WCall_ws rfl T36 (by simp [f36_a]) ?_
  show WS E0 f36_c [] _ _ _
  refine WS_of_seq (WS_of_ops ?_)
  simp only [f36_r0, go_sem, ↓reduceIte, Nat.reduceEqDiff, AV.cells]
  have b1 := Box.new wf (repL r vl vm)
  have k1 : Keep (Old h.n) h (h.new (repL r vl vm)) := Keep.new (Nat.le_refl _) _
  generalize h.new (repL r vl vm) = h1 at b1 k1 ⊢
  have wf1 := k1.wf wf
  have hlt := b1.lt wf1
  have b2 := Box.new wf1 [.int .i64 0, .int .i64 0, .int .i64 0, .bool false, .nils, .str []]
  have k2 : Keep (Old h1.n) h1 (h1.new [.int .i64 0, .int .i64 0, .int .i64 0, .bool false, .nils, .str []]) := Keep.new (Nat.le_refl _) _
  generalize h1.new [.int .i64 0, .int .i64 0, .int .i64 0, .bool false, .nils, .str []] = h2 at b2 k2 ⊢
  have wf2 := k2.wf wf1
  have b1' := b1.keep k2 hlt
  have k02 := k1.then (Nat.le_refl _) k2
  have a2 := a.keep k02
  have o1 := a.onel
  obtain ⟨h3, e3, b3, k3⟩ := b2.putAll wf2 (vs := repL r vl (.str r.more)) (n := 6) rfl (by simp only [List.all_cons, List.all_nil, o1]; rfl) rfl
  have ea : afill [AV.int .i64 0, .int .i64 0, .int .i64 0, .bool false, .nils, .str []] [(0, 1, AV.int .i64 r.code), (1, 1, AV.int .i64 r.rev), (2, 1, AV.int .i64 r.steps), (3, 1, AV.bool r.is), (4, 1, vl), (5, 1, AV.str r.more)] = some (repL r vl (.str r.more)) := by
    revert o1; cases vl <;> intro o1 <;> first | rfl | cases o1
  refine WS_of_seq (WS_of_ops ?_)
  simp only [f36_r1, go_sem, ↓reduceIte, Nat.reduceEqDiff, Nat.zero_add, b1'.load, lget_zero, lget_one, lget_two, lget_three, List.getElem?_cons_succ, List.getElem?_cons_zero, a2.more.str, ea, e3]
  refine WS_of_ret ?_
  simp only [go_sem, f36_a, ↓reduceIte, Nat.reduceEqDiff, b3.loadAgg (n := 6) rfl, true_and]
  exact k02.trans (k3.newbox wf2 k02.n k1.n)

/-- may -/
theorem may_spec {h : H} {r : Rep} {vl vm : AV} (wf : h.Wf) (a : IsRep h r vl vm) (hb : r.list.length + r.more.length < 9223372036854775808) : WCall E0 43 [.agg (repL r vl vm)] h fun x h' => x = .val (.bool (mayR r)) ∧ Keep (Old h.n) h h' := by
  refine WCall_ws rfl T43 (by simp [f43_a]) ?_
  show WS E0 f43_c [] _ _ _
  refine WS_of_seq (WS_of_ops ?_)
  simp only [f43_r0, go_sem, ↓reduceIte, Nat.reduceEqDiff, AV.cells]
  have b1 := Box.new wf (repL r vl vm)
  have k1 : Keep (Old h.n) h (h.new (repL r vl vm)) := Keep.new (Nat.le_refl _) _
  generalize h.new (repL r vl vm) = h1 at b1 k1 ⊢
  have wf1 := k1.wf wf
  have a1 := a.keep k1
  refine WS_of_seq (WS_of_ops ?_)
  simp only [f43_r1, go_sem, ↓reduceIte, Nat.reduceEqDiff]
  have key : ∀ z : S, z 1 = .ptr h.n 0 → z 3 = .func 47 [] → z 4 = .bool (emptyR r) → WS E0 (.seq (.ops f43_r3) .ret) [] (atEnd f43_a.results fun x h' => x = .val (.bool (mayR r)) ∧ Keep (Old h.n) h h') z h1 := by
    intro z z1 z3 z4
    refine WS_of_seq (WS_of_ops ?_)
    simp only [f43_r3, go_sem, ↓reduceIte, Nat.reduceEqDiff, Nat.zero_add, z1, z3, z4, b1.load, List.getElem?_cons_succ, List.getElem?_cons_zero]
    refine in47.mono ?_
    rintro x h' ⟨rfl, rfl⟩
    cases c1 : inB r.code
    · simp only [go_sem, ↓reduceIte, Nat.reduceEqDiff, Bool.false_eq_true]
      refine WS_of_ret ?_
      simp only [go_sem, f43_a, ↓reduceIte, Nat.reduceEqDiff, mayR, c1, Bool.false_and, true_and]
      exact k1
    simp only [go_sem, ↓reduceIte, Nat.reduceEqDiff, Nat.zero_add, z1, z3, z4, b1.load, List.getElem?_cons_succ, List.getElem?_cons_zero]
    refine in47.mono ?_
    rintro x h' ⟨rfl, rfl⟩
    cases c2 : inB r.rev
    · simp only [go_sem, ↓reduceIte, Nat.reduceEqDiff, Bool.false_eq_true]
      refine WS_of_ret ?_
      simp only [go_sem, f43_a, ↓reduceIte, Nat.reduceEqDiff, mayR, c1, c2, Bool.false_and, Bool.and_false, true_and]
      exact k1
    simp only [go_sem, ↓reduceIte, Nat.reduceEqDiff, Nat.zero_add, z1, z3, z4, b1.load, List.getElem?_cons_succ, List.getElem?_cons_zero]
    refine in47.mono ?_
    rintro x h' ⟨rfl, rfl⟩
    cases c3 : inB r.steps
    · simp only [go_sem, ↓reduceIte, Nat.reduceEqDiff, Bool.false_eq_true]
      refine WS_of_ret ?_
      simp only [go_sem, f43_a, ↓reduceIte, Nat.reduceEqDiff, mayR, c1, c2, c3, Bool.false_and, Bool.and_false, true_and]
      exact k1
    by_cases c4 : r.list.length ≤ 64
    case neg =>
      have c4' : ¬ ((r.list.length : Int) ≤ 64) := by omega
      simp only [go_sem, ↓reduceIte, Nat.reduceEqDiff, Nat.zero_add, z1, z3, z4, b1.load, List.getElem?_cons_succ, List.getElem?_cons_zero, a1.list.len, c4', decide_false, Bool.false_eq_true]
      refine WS_of_ret ?_
      simp only [go_sem, f43_a, ↓reduceIte, Nat.reduceEqDiff, mayR, c1, c2, c3, c4, decide_false, Bool.false_and, Bool.and_false, true_and]
      exact k1
    have c4' : ((r.list.length : Int) ≤ 64) := by omega
    by_cases c5 : r.code = 0
    · simp only [go_sem, ↓reduceIte, Nat.reduceEqDiff, Nat.zero_add, z1, z3, z4, b1.load, List.getElem?_cons_succ, List.getElem?_cons_zero, a1.list.len, c4', c5, decide_true, Bool.true_eq_false]
      refine WS_of_ret ?_
      simp only [go_sem, f43_a, ↓reduceIte, Nat.reduceEqDiff, mayR, c1, c2, c3, c4, c5, decide_true, Bool.true_and, Bool.true_or, true_and]
      exact ⟨by rw [c5] at c1; rw [c1]; rfl, k1⟩
    · simp only [go_sem, ↓reduceIte, Nat.reduceEqDiff, Nat.zero_add, z1, z3, z4, b1.load, List.getElem?_cons_succ, List.getElem?_cons_zero, a1.list.len, c4', c5, decide_true, decide_false, Bool.false_eq_true]
      refine WS_of_ret ?_
      simp only [go_sem, f43_a, ↓reduceIte, Nat.reduceEqDiff, mayR, c1, c2, c3, c4, c5, decide_true, decide_false, Bool.true_and, Bool.false_or, true_and]
      exact k1
  refine WS_of_seq (WS_of_ops ?_)
  by_cases d1 : r.rev = 0
  case neg =>
    simp only [f43_r2, go_sem, ↓reduceIte, Nat.reduceEqDiff, Nat.zero_add, b1.load, List.getElem?_cons_succ, List.getElem?_cons_zero, d1, decide_false, Bool.false_eq_true]
    refine key _ rfl rfl ?_
    simp only [go_sem, ↓reduceIte, Nat.reduceEqDiff, emptyR, d1, decide_false, Bool.false_and]
  cases d2 : r.is
  case true =>
    simp only [f43_r2, go_sem, ↓reduceIte, Nat.reduceEqDiff, Nat.zero_add, b1.load, List.getElem?_cons_succ, List.getElem?_cons_zero, d1, d2, decide_true, Bool.not_true, Bool.false_eq_true]
    refine key _ rfl rfl ?_
    simp only [go_sem, ↓reduceIte, Nat.reduceEqDiff, emptyR, d2, Bool.not_true, Bool.and_false, Bool.false_and]
  have hl := a.hl
  have hm := a.hm
  have ew : IntKind.i64.wrap ((r.list.length : Int) + (r.more.length : Int)) = ((r.list.length + r.more.length : Nat) : Int) := by rw [wrap_i64 (by omega) (by omega)]; omega
  have ed : decide (((r.list.length + r.more.length : Nat) : Int) = 0) = decide (r.list.length + r.more.length = 0) := by
    congr 1
    simp only [eq_iff_iff]; omega
  simp only [f43_r2, go_sem, ↓reduceIte, Nat.reduceEqDiff, Nat.zero_add, b1.load, List.getElem?_cons_succ, List.getElem?_cons_zero, d1, d2, decide_true, Bool.not_false, a1.list.len, a1.more.len, ew, ed]
  refine key _ rfl rfl ?_
  simp only [go_sem, ↓reduceIte, Nat.reduceEqDiff, emptyR, d1, d2, decide_true, Bool.not_false, Bool.true_and]
end Go.Proofs.Ythhibhhpcjggnab.Ev.C
