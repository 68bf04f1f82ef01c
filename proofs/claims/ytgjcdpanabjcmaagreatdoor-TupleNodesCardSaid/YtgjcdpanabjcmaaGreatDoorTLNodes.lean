/- The law TupleTexts, walked. -/
import Derived.Test.YtgjcdpanabjcmaaGreatDoorTV
import Derived.Test.YtgjcdpanabjcmaaGreatDoorTAwake
import Derived.Test.YtgjcdpanabjcmaaGreatDoorCards
import Derived.Test.YtgjcdpanabjcmaaGreatDoorTie
import Derived.WalkKit
import Derived.ProofKit
import Derived.OpenShut
import Derived.ShutString
import Derived.ChangeOld
import Derived.Below
import Derived.SizedLaws
import Derived.Deep.DeepHandedRow
import Derived.Deep.DeepWitnessRowRef
import Derived.Lib.LaidTab
import Derived.Lib.LaidIn
import Derived.Lib.LaidU8
namespace Go.Proofs.YtgjcdpanabjcmaaGreatDoor.Ev.C
open Go Go.Proofs.YtgjcdpanabjcmaaGreatDoor.Ev
set_option linter.unusedSimpArgs false
set_option linter.unusedVariables false
theorem parseV_parts (s : T8) : ∃ (t : Tp) (e : Int), parseV s = .tup [.agg (six t.1.1 t.1.2.1 t.1.2.2 t.2.1 t.2.2.1 t.2.2.2), .int .i64 e] ∧ ((parseN s = some t ∧ e = 0) ∨ (parseN s = none ∧ t = noT ∧ e = 11)) := by
  unfold parseV
  cases hN : parseN s with
  | none => exact ⟨noT, 11, rfl, .inr ⟨rfl, rfl, rfl⟩⟩
  | some t => exact ⟨t, 0, rfl, .inl ⟨rfl, rfl⟩⟩
theorem fromN_len {s : T8} {p : List T8} (h : fromN s = some p) : p.length = 6 := by
  unfold fromN at h
  split at h
  · cases h; exact pad6_len _
  · cases h
theorem fromV_parts (s : T8) : ∃ (a b c d e g : T8) (f : Bool), fromV s = .tup [.agg (six a b c d e g), .bool f] ∧ ((fromN s = some [a, b, c, d, e, g] ∧ f = true) ∨ (fromN s = none ∧ f = false ∧ [a, b, c, d, e, g] = [[], [], [], [], [], []])) := by
  unfold fromV
  cases hN : fromN s with
  | none => exact ⟨[], [], [], [], [], [], false, rfl, .inr ⟨rfl, rfl, rfl⟩⟩
  | some p =>
    obtain ⟨a, b, c, d, e, g, rfl⟩ := list6 (fromN_len hN)
    exact ⟨a, b, c, d, e, g, true, rfl, .inl ⟨rfl, rfl⟩⟩
theorem few_len {a b c d e g : T8} (h : fewB a b c d e g = true) : (a.length ≤ 120 ∧ b.length ≤ 120 ∧ c.length ≤ 120) ∧ d.length ≤ 120 ∧ e.length ≤ 120 ∧ g.length ≤ 120 := by
  simp [fewB] at h; omega
theorem eq3 (l m : List T8) (hl : l.length = 3) (hm : m.length = 3) : eqA (.flatK [.s, .s, .s]) (.agg (strCells l)) (.agg (strCells m)) = some (decide (l = m)) := by
  have := flatEqS l m (by omega)
  rw [show l.map (fun _ => FK.s) = [.s, .s, .s] from by
    match l, hl with
    | [_, _, _], _ => rfl] at this
  exact this
theorem eq6 (l m : List T8) (hl : l.length = 6) (hm : m.length = 6) : eqA (.flatK [.s, .s, .s, .s, .s, .s]) (.agg (strCells l)) (.agg (strCells m)) = some (decide (l = m)) := by
  have := flatEqS l m (by omega)
  rw [show l.map (fun _ => FK.s) = [.s, .s, .s, .s, .s, .s] from by
    match l, hl with
    | [_, _, _, _, _, _], _ => rfl] at this
  exact this
theorem few_at {L : List Ovr} (ho : ovP ov1 L n_doormanlaw12_few = some (pureO fewF)) {a b c d e g : T8} {h : H} {R : AOut → H → Prop} (hR : R (.val (.bool (fewB a b c d e g))) h) : WCall (EL L) n_doormanlaw12_few [.agg [.str a, .str b, .str c, .str d, .str e, .str g]] h R :=
  EL_call ho rfl hR
theorem key_len {a b c d e g : T8} (h : fewB a b c d e g = true) : (keyT a b c d e g).length ≤ 725 := by
  have := few_len h
  rw [keyT_eq]; simp; omega
theorem text_len {a b c d e g : T8} (h : fewB a b c d e g = true) : (textT a b c d e g).length ≤ 1000 := by
  have := few_len h
  unfold textT showN
  repeat' split
  all_goals simp
  all_goals omega
theorem texts_answer {h : H} (ks : KStart h) (wf : h.Wf) (a b c d e g s : T8) : WCall (EL LAll) n_doormanlaw12_TupleTexts [.agg (six a b c d e g), .str s] h fun r _ => r = .val (.bool true) := by
  refine WCall_ws ((EL_ov _ _).trans rfl) (EL_T T_doormanlaw12_TupleTexts) (by simp [doormanlaw12_TupleTexts_a]) ?_
  refine WS_of_seq (WS_of_ops ?_)
  simp only [doormanlaw12_TupleTexts_r0, go_sem, ↓reduceIte, Nat.reduceEqDiff, enterS, List.getD_cons_zero, List.getD_cons_succ, AV.cells]
  have b1 := Box.new wf (six a b c d e g)
  have wf1 := wf.new (six a b c d e g)
  have ks1 : KStart (h.new (six a b c d e g)) := ks.keep wf (Keep.new (Nat.le_refl _) _)
  generalize h.new [.str a, .str b, .str c, .str d, .str e, .str g] = g1 at b1 wf1 ks1
  refine WS_of_seq (WS_of_ops ?_)
  simp only [doormanlaw12_TupleTexts_r1, go_sem, ↓reduceIte, Nat.reduceEqDiff]
  refine (awakeZ ks1).mono ?_
  rintro _ _ ⟨rfl, rfl⟩
  simp only [go_sem, ↓reduceIte, Nat.reduceEqDiff]
  refine WS_of_seq (WS_of_seq (WS_of_ops ?_))
  simp only [doormanlaw12_TupleTexts_r2, go_sem, ↓reduceIte, Nat.reduceEqDiff, Bool.not_true]
  refine WS_of_cond ?_
  simp only [go_sem, ↓reduceIte, Nat.reduceEqDiff, Bool.false_eq_true]
  refine WS_of_skip ?_
  simp only [go_sem]
  refine WS_of_seq (WS_of_ops ?_)
  simp only [doormanlaw12_TupleTexts_r4, go_sem, ↓reduceIte, Nat.reduceEqDiff, b1.loadAgg (n := 6) rfl, enterS, List.getD_cons_zero, List.getD_cons_succ]
  refine few_at rfl ?_
  simp only [go_sem, ↓reduceIte, Nat.reduceEqDiff]
  refine WS_of_seq (WS_of_seq (WS_of_ops ?_))
  cases hf : fewB a b c d e g
  · simp only [doormanlaw12_TupleTexts_r5, go_sem, ↓reduceIte, Nat.reduceEqDiff, wanted, decide_true, decide_false, beq_self_eq_true, pickA, show (false == true) = false from rfl, show (true == false) = false from rfl, Bool.false_eq_true, undefA, Bool.not_true, Bool.not_false]
    refine WS_of_cond ?_
    simp only [go_sem, ↓reduceIte, Nat.reduceEqDiff]
    refine WS_of_seq (WS_of_ops ?_)
    simp only [doormanlaw12_TupleTexts_r6, go_sem, ↓reduceIte, Nat.reduceEqDiff]
    refine WS_of_ret ?_
    simp only [go_sem, ↓reduceIte, Nat.reduceEqDiff, doormanlaw12_TupleTexts_a]
  by_cases hs : s.length ≤ 300
  case neg =>
    have hs' : (300 : Int) < (s.length : Int) := by omega
    simp only [doormanlaw12_TupleTexts_r5, go_sem, ↓reduceIte, Nat.reduceEqDiff, wanted, decide_true, decide_false, beq_self_eq_true, pickA, show (false == true) = false from rfl, show (true == false) = false from rfl, Bool.false_eq_true, undefA, Bool.not_true, Bool.not_false, enterS, List.getD_cons_zero, List.getD_cons_succ, lenTA, Option.map_some, hs']
    refine WS_of_cond ?_
    simp only [go_sem, ↓reduceIte, Nat.reduceEqDiff]
    refine WS_of_seq (WS_of_ops ?_)
    simp only [doormanlaw12_TupleTexts_r6, go_sem, ↓reduceIte, Nat.reduceEqDiff]
    refine WS_of_ret ?_
    simp only [go_sem, ↓reduceIte, Nat.reduceEqDiff, doormanlaw12_TupleTexts_a]
  have hs' : ¬ (300 : Int) < (s.length : Int) := by omega
  simp only [doormanlaw12_TupleTexts_r5, go_sem, ↓reduceIte, Nat.reduceEqDiff, wanted, decide_true, decide_false, beq_self_eq_true, pickA, show (false == true) = false from rfl, show (true == false) = false from rfl, Bool.false_eq_true, undefA, Bool.not_true, Bool.not_false, enterS, List.getD_cons_zero, List.getD_cons_succ, lenTA, Option.map_some, hs']
  refine WS_of_cond ?_
  simp only [go_sem, ↓reduceIte, Nat.reduceEqDiff, Bool.false_eq_true]
  refine WS_of_skip ?_
  simp only [go_sem]
  obtain ⟨hl1, hl2⟩ := few_len hf
  have hkl := key_len hf
  obtain ⟨n, ne, en, ln, _⟩ := readV_parts s (by omega)
  obtain ⟨t, te, et, _⟩ := parseV_parts s
  obtain ⟨fa, fb, fc, fd, fe, fg, ff, ef, _⟩ := fromV_parts s
  have ef' := from_same s
  rw [ef] at ef'
  obtain ⟨q7, e7, x7, w7, k7⟩ := Box.newPut wf1 (z := [.str [], .str [], .str []]) (vs := [.str n.1, .str n.2.1, .str n.2.2]) (n := 3) rfl rfl rfl
  have b1' := b1.keep k7 (b1.lt wf1)
  refine WS_of_seq (WS_of_ops ?_)
  simp only [doormanlaw12_TupleTexts_r7, go_sem, ↓reduceIte, Nat.reduceEqDiff, enterS, List.getD_cons_zero, List.getD_cons_succ]
  refine tx6F_at (F := readV) rfl (by omega) ?_
  rw [en]
  simp only [go_sem, ↓reduceIte, Nat.reduceEqDiff, extractA, List.getElem?_cons_zero, List.getElem?_cons_succ, e7]
  obtain ⟨q8, e8, x8, w8, k8⟩ := Box.newPut w7 (z := [.str [], .str [], .str []]) (vs := [.str n.1, .str n.2.1, .str n.2.2]) (n := 3) rfl rfl rfl
  have b1'' := b1'.keep k8 (b1'.lt w7)
  have x7' := x7.keep k8 (x7.lt w7)
  refine WS_of_seq (WS_of_ops ?_)
  simp only [doormanlaw12_TupleTexts_r8, go_sem, ↓reduceIte, Nat.reduceEqDiff, enterS, List.getD_cons_zero, List.getD_cons_succ]
  refine tx6F_at (F := readV) rfl (by omega) ?_
  rw [en]
  simp only [go_sem, ↓reduceIte, Nat.reduceEqDiff, extractA, List.getElem?_cons_zero, List.getElem?_cons_succ, e8]
  obtain ⟨q9, e9, x9, w9, k9⟩ := Box.newPut w8 (z := six [] [] [] [] [] []) (vs := six t.1.1 t.1.2.1 t.1.2.2 t.2.1 t.2.2.1 t.2.2.2) (n := 6) rfl rfl rfl
  have b1''' := b1''.keep k9 (b1''.lt w8)
  have x7'' := x7'.keep k9 (x7'.lt w8)
  have x8' := x8.keep k9 (x8.lt w8)
  refine WS_of_seq (WS_of_ops ?_)
  simp only [doormanlaw12_TupleTexts_r9, go_sem, ↓reduceIte, Nat.reduceEqDiff, enterS, List.getD_cons_zero, List.getD_cons_succ]
  refine tx6F_at (F := parseV) rfl (by omega) ?_
  rw [et]
  simp only [go_sem, ↓reduceIte, Nat.reduceEqDiff, extractA, List.getElem?_cons_zero, List.getElem?_cons_succ, e9]
  obtain ⟨q10, e10, x10, w10, k10⟩ := Box.newPut w9 (z := six [] [] [] [] [] []) (vs := six t.1.1 t.1.2.1 t.1.2.2 t.2.1 t.2.2.1 t.2.2.2) (n := 6) rfl rfl rfl
  have b1'''' := b1'''.keep k10 (b1'''.lt w9)
  have x7''' := x7''.keep k10 (x7''.lt w9)
  have x8'' := x8'.keep k10 (x8'.lt w9)
  have x9' := x9.keep k10 (x9.lt w9)
  refine WS_of_seq (WS_of_ops ?_)
  simp only [doormanlaw12_TupleTexts_r10, go_sem, ↓reduceIte, Nat.reduceEqDiff, enterS, List.getD_cons_zero, List.getD_cons_succ]
  refine tx6F_at (F := parseV) rfl (by omega) ?_
  rw [et]
  simp only [go_sem, ↓reduceIte, Nat.reduceEqDiff, extractA, List.getElem?_cons_zero, List.getElem?_cons_succ, e10]
  obtain ⟨q11, e11, x11, w11, k11⟩ := Box.newPut w10 (z := six [] [] [] [] [] []) (vs := six fa fb fc fd fe fg) (n := 6) rfl rfl rfl
  have b1''''' := b1''''.keep k11 (b1''''.lt w10)
  have x7'''' := x7'''.keep k11 (x7'''.lt w10)
  have x8''' := x8''.keep k11 (x8''.lt w10)
  have x9'' := x9'.keep k11 (x9'.lt w10)
  have x10' := x10.keep k11 (x10.lt w10)
  refine WS_of_seq (WS_of_ops ?_)
  simp only [doormanlaw12_TupleTexts_r11, go_sem, ↓reduceIte, Nat.reduceEqDiff, enterS, List.getD_cons_zero, List.getD_cons_succ]
  refine tx5F_at (F := fromV) rfl (by omega) ?_
  rw [ef]
  simp only [go_sem, ↓reduceIte, Nat.reduceEqDiff, extractA, List.getElem?_cons_zero, List.getElem?_cons_succ, e11]
  obtain ⟨q12, e12, x12, w12, k12⟩ := Box.newPut w11 (z := six [] [] [] [] [] []) (vs := six fa fb fc fd fe fg) (n := 6) rfl rfl rfl
  have b1'''''' := b1'''''.keep k12 (b1'''''.lt w11)
  have x7''''' := x7''''.keep k12 (x7''''.lt w11)
  have x8'''' := x8'''.keep k12 (x8'''.lt w11)
  have x9''' := x9''.keep k12 (x9''.lt w11)
  have x10'' := x10'.keep k12 (x10'.lt w11)
  have x11' := x11.keep k12 (x11.lt w11)
  refine WS_of_seq (WS_of_ops ?_)
  simp only [doormanlaw12_TupleTexts_r12, go_sem, ↓reduceIte, Nat.reduceEqDiff, enterS, List.getD_cons_zero, List.getD_cons_succ]
  refine tx5F_at (F := rfromV) rfl (by omega) ?_
  rw [← ef']
  simp only [go_sem, ↓reduceIte, Nat.reduceEqDiff, extractA, List.getElem?_cons_zero, List.getElem?_cons_succ, e12]
  have m0 : loadA q12 true 3 (.ptr h.n 0) = some (.agg [.str a, .str b, .str c]) := by simp only [loadA, b1''''''.row, if_true]; rfl
  have m1 := b1''''''.loadAgg (n := 6) rfl
  have m7 := x7'''''.loadAgg (n := 3) rfl
  have m8 := x8''''.loadAgg (n := 3) rfl
  have m9 := x9'''.loadAgg (n := 6) rfl
  have m10 := x10''.loadAgg (n := 6) rfl
  have m11 := x11'.loadAgg (n := 6) rfl
  have m12 := x12.loadAgg (n := 6) rfl
  have c7 : eqA (.flatK [.s, .s, .s]) (.agg [.str n.1, .str n.2.1, .str n.2.2]) (.agg [.str n.1, .str n.2.1, .str n.2.2]) = some true := (eq3 [n.1, n.2.1, n.2.2] [n.1, n.2.1, n.2.2] rfl rfl).trans (by simp)
  have c9 : eqA (.flatK [.s, .s, .s, .s, .s, .s]) (.agg (six t.1.1 t.1.2.1 t.1.2.2 t.2.1 t.2.2.1 t.2.2.2)) (.agg (six t.1.1 t.1.2.1 t.1.2.2 t.2.1 t.2.2.1 t.2.2.2)) = some true := (eq6 [t.1.1, t.1.2.1, t.1.2.2, t.2.1, t.2.2.1, t.2.2.2] [t.1.1, t.1.2.1, t.1.2.2, t.2.1, t.2.2.1, t.2.2.2] rfl rfl).trans (by simp)
  have c11 : eqA (.flatK [.s, .s, .s, .s, .s, .s]) (.agg (six fa fb fc fd fe fg)) (.agg (six fa fb fc fd fe fg)) = some true := (eq6 [fa, fb, fc, fd, fe, fg] [fa, fb, fc, fd, fe, fg] rfl rfl).trans (by simp)
  have c12 : eqA .bool (.bool ff) (.bool ff) = some true := by simp [eqA]
  refine WS_of_seq (WS_of_draw ?_)
  simp only [doormanlaw12_TupleTexts_r13, go_sem, ↓reduceIte, Nat.reduceEqDiff, and_self, true_and, List.filter_cons, List.filter_nil, Nat.testBit, Nat.reduceShiftRight, Nat.reduceAnd, Nat.reduceBNe, Bool.not_false, Bool.not_true, Bool.false_eq_true, bne_self_eq_false, wanted, fieldAddrA, Nat.zero_add, Nat.add_zero, Nat.reduceAdd, m0, enterS, List.getD_cons_zero, List.getD_cons_succ]
  refine ndF_at (F := fun a b c => .str (showN a b c)) rfl (by omega) (by omega) (by omega) ?_
  simp only [go_sem, ↓reduceIte, Nat.reduceEqDiff, and_self, true_and, List.filter_cons, List.filter_nil, Nat.testBit, Nat.reduceShiftRight, Nat.reduceAnd, Nat.reduceBNe, Bool.not_false, Bool.not_true, Bool.false_eq_true, bne_self_eq_false, wanted, fieldAddrA, Nat.zero_add, Nat.add_zero, Nat.reduceAdd, m0, enterS, List.getD_cons_zero, List.getD_cons_succ]
  refine ndF_at (F := fun a b c => .str (showN a b c)) rfl (by omega) (by omega) (by omega) ?_
  simp only [go_sem, ↓reduceIte, Nat.reduceEqDiff, and_self, true_and, List.filter_cons, List.filter_nil, Nat.testBit, Nat.reduceShiftRight, Nat.reduceAnd, Nat.reduceBNe, Bool.not_false, Bool.not_true, Bool.false_eq_true, bne_self_eq_false, wanted, decide_true, decide_false, beq_self_eq_true, pickA, show (false == true) = false from rfl, show (true == false) = false from rfl, Bool.false_eq_true, undefA, Bool.not_true, Bool.not_false, fieldAddrA, Nat.zero_add, Nat.add_zero, Nat.reduceAdd, m0, m1, enterS, List.getD_cons_zero, List.getD_cons_succ]
  refine tpF_at (F := fun a b c d e g => .str (textT a b c d e g)) rfl (by omega) (by omega) ?_
  simp only [go_sem, ↓reduceIte, Nat.reduceEqDiff, and_self, true_and, List.filter_cons, List.filter_nil, Nat.testBit, Nat.reduceShiftRight, Nat.reduceAnd, Nat.reduceBNe, Bool.not_false, Bool.not_true, Bool.false_eq_true, bne_self_eq_false, wanted, decide_true, decide_false, beq_self_eq_true, pickA, show (false == true) = false from rfl, show (true == false) = false from rfl, Bool.false_eq_true, undefA, Bool.not_true, Bool.not_false, fieldAddrA, Nat.zero_add, Nat.add_zero, Nat.reduceAdd, m0, m1, enterS, List.getD_cons_zero, List.getD_cons_succ]
  refine tpF_at (F := fun a b c d e g => .str (textT a b c d e g)) rfl (by omega) (by omega) ?_
  simp only [go_sem, ↓reduceIte, Nat.reduceEqDiff, and_self, true_and, List.filter_cons, List.filter_nil, Nat.testBit, Nat.reduceShiftRight, Nat.reduceAnd, Nat.reduceBNe, Bool.not_false, Bool.not_true, Bool.false_eq_true, bne_self_eq_false, wanted, decide_true, decide_false, beq_self_eq_true, pickA, show (false == true) = false from rfl, show (true == false) = false from rfl, Bool.false_eq_true, undefA, Bool.not_true, Bool.not_false, fieldAddrA, Nat.zero_add, Nat.add_zero, Nat.reduceAdd, m0, m1, enterS, List.getD_cons_zero, List.getD_cons_succ]
  refine key_at rfl (by omega) ?_
  simp only [go_sem, ↓reduceIte, Nat.reduceEqDiff, and_self, true_and, List.filter_cons, List.filter_nil, Nat.testBit, Nat.reduceShiftRight, Nat.reduceAnd, Nat.reduceBNe, Bool.not_false, Bool.not_true, Bool.false_eq_true, bne_self_eq_false, wanted, decide_true, decide_false, beq_self_eq_true, pickA, show (false == true) = false from rfl, show (true == false) = false from rfl, Bool.false_eq_true, undefA, Bool.not_true, Bool.not_false, fieldAddrA, Nat.zero_add, Nat.add_zero, Nat.reduceAdd, m0, m1, enterS, List.getD_cons_zero, List.getD_cons_succ]
  refine key_at rfl (by omega) ?_
  simp only [go_sem, ↓reduceIte, Nat.reduceEqDiff, and_self, true_and, List.filter_cons, List.filter_nil, Nat.testBit, Nat.reduceShiftRight, Nat.reduceAnd, Nat.reduceBNe, Bool.not_false, Bool.not_true, Bool.false_eq_true, bne_self_eq_false, wanted, decide_true, decide_false, beq_self_eq_true, pickA, show (false == true) = false from rfl, show (true == false) = false from rfl, Bool.false_eq_true, undefA, Bool.not_true, Bool.not_false, fieldAddrA, Nat.zero_add, Nat.add_zero, Nat.reduceAdd, m0, m1, enterS, List.getD_cons_zero, List.getD_cons_succ, m7, m8, m9, m10, m11, m12, c7, c9, c11, c12]
  refine WS_of_ret ?_
  simp only [go_sem, ↓reduceIte, Nat.reduceEqDiff, doormanlaw12_TupleTexts_a]
end Go.Proofs.YtgjcdpanabjcmaaGreatDoor.Ev.C

/- The law TupleNodes, walked. -/
namespace Go.Proofs.YtgjcdpanabjcmaaGreatDoor.Ev.C
open Go Go.Proofs.YtgjcdpanabjcmaaGreatDoor.Ev
set_option linter.unusedSimpArgs false
set_option linter.unusedVariables false
theorem nodes_answer {h : H} (ks : KStart h) (wf : h.Wf) (a b c s d e g : T8) : WCall (EL LAll) n_doormanlaw12_TupleNodes [.agg [.str a, .str b, .str c], .str s, .agg [.str d, .str e, .str g]] h fun r _ => r = .val (.bool true) := by
  refine WCall_ws ((EL_ov _ _).trans rfl) (EL_T T_doormanlaw12_TupleNodes) (by simp [doormanlaw12_TupleNodes_a]) ?_
  refine WS_of_seq (WS_of_ops ?_)
  simp only [doormanlaw12_TupleNodes_r0, go_sem, ↓reduceIte, Nat.reduceEqDiff, enterS, List.getD_cons_zero, List.getD_cons_succ, AV.cells]
  have b1 := Box.new wf [.str a, .str b, .str c]
  have wf1 := wf.new [.str a, .str b, .str c]
  have ks1 : KStart (h.new [.str a, .str b, .str c]) := ks.keep wf (Keep.new (Nat.le_refl _) _)
  generalize h.new [.str a, .str b, .str c] = g1 at b1 wf1 ks1
  have b2 := Box.new wf1 [.str d, .str e, .str g]
  have wf2 := wf1.new [.str d, .str e, .str g]
  have b12 := b1.keep (Keep.new (Nat.le_refl _) [.str d, .str e, .str g]) (b1.lt wf1)
  have ks2 : KStart (g1.new [.str d, .str e, .str g]) := ks1.keep wf1 (Keep.new (Nat.le_refl _) _)
  generalize g1.new [.str d, .str e, .str g] = g2 at b2 wf2 b12 ks2
  refine WS_of_seq (WS_of_ops ?_)
  simp only [doormanlaw12_TupleNodes_r1, go_sem, ↓reduceIte, Nat.reduceEqDiff]
  refine (awakeZ ks2).mono ?_
  rintro _ q ⟨rfl, hq⟩
  obtain rfl : g2 = q := hq.symm
  simp only [go_sem, ↓reduceIte, Nat.reduceEqDiff]
  refine WS_of_seq (WS_of_seq (WS_of_ops ?_))
  simp only [doormanlaw12_TupleNodes_r2, go_sem, ↓reduceIte, Nat.reduceEqDiff, Bool.not_true]
  refine WS_of_cond ?_
  simp only [go_sem, ↓reduceIte, Nat.reduceEqDiff, Bool.false_eq_true]
  refine WS_of_skip ?_
  simp only [go_sem]
  refine WS_of_seq (WS_of_ops ?_)
  simp only [doormanlaw12_TupleNodes_r4, go_sem, ↓reduceIte, Nat.reduceEqDiff, b12.loadAgg (n := 3) rfl, b2.loadAgg (n := 3) rfl, parts, List.map_cons, List.map_nil, afill3, afill30, afill6, afill60, afill66, enterS, List.getD_cons_zero, List.getD_cons_succ]
  refine few_at rfl ?_
  simp only [go_sem, ↓reduceIte, Nat.reduceEqDiff]
  refine WS_of_seq (WS_of_seq (WS_of_ops ?_))
  cases hf : fewB a b c d e g
  · simp only [doormanlaw12_TupleNodes_r5, go_sem, ↓reduceIte, Nat.reduceEqDiff, wanted, decide_true, decide_false, beq_self_eq_true, pickA, show (false == true) = false from rfl, show (true == false) = false from rfl, Bool.false_eq_true, undefA, Bool.not_true, Bool.not_false]
    refine WS_of_cond ?_
    simp only [go_sem, ↓reduceIte, Nat.reduceEqDiff]
    refine WS_of_seq (WS_of_ops ?_)
    simp only [doormanlaw12_TupleNodes_r6, go_sem, ↓reduceIte, Nat.reduceEqDiff]
    refine WS_of_ret ?_
    simp only [go_sem, ↓reduceIte, Nat.reduceEqDiff, doormanlaw12_TupleNodes_a]
  by_cases hs : s.length ≤ 300
  case neg =>
    have hs' : (300 : Int) < (s.length : Int) := by omega
    simp only [doormanlaw12_TupleNodes_r5, go_sem, ↓reduceIte, Nat.reduceEqDiff, wanted, decide_true, decide_false, beq_self_eq_true, pickA, show (false == true) = false from rfl, show (true == false) = false from rfl, Bool.false_eq_true, undefA, Bool.not_true, Bool.not_false, enterS, List.getD_cons_zero, List.getD_cons_succ, lenTA, Option.map_some, hs']
    refine WS_of_cond ?_
    simp only [go_sem, ↓reduceIte, Nat.reduceEqDiff]
    refine WS_of_seq (WS_of_ops ?_)
    simp only [doormanlaw12_TupleNodes_r6, go_sem, ↓reduceIte, Nat.reduceEqDiff]
    refine WS_of_ret ?_
    simp only [go_sem, ↓reduceIte, Nat.reduceEqDiff, doormanlaw12_TupleNodes_a]
  have hs' : ¬ (300 : Int) < (s.length : Int) := by omega
  simp only [doormanlaw12_TupleNodes_r5, go_sem, ↓reduceIte, Nat.reduceEqDiff, wanted, decide_true, decide_false, beq_self_eq_true, pickA, show (false == true) = false from rfl, show (true == false) = false from rfl, Bool.false_eq_true, undefA, Bool.not_true, Bool.not_false, enterS, List.getD_cons_zero, List.getD_cons_succ, lenTA, Option.map_some, hs']
  refine WS_of_cond ?_
  simp only [go_sem, ↓reduceIte, Nat.reduceEqDiff, Bool.false_eq_true]
  refine WS_of_skip ?_
  simp only [go_sem]
  obtain ⟨hl1, hl2⟩ := few_len hf
  have s1 : (showN a b c).length ≤ 3000003 := showN_len (by omega) (by omega) (by omega)
  have s2 : (showN d e g).length ≤ 3000003 := showN_len (by omega) (by omega) (by omega)
  have s0 : (showN a b c).length ≤ 500 := by
    unfold showN
    split
    all_goals simp
    all_goals omega
  obtain ⟨n, ne, en, ln, hn⟩ := readV_parts (showN a b c) (by omega)
  obtain ⟨y, ye, ey, ly, hy⟩ := readV_parts s (by omega)
  obtain ⟨q7, e7, x7, w7, k7⟩ := Box.newPut wf2 (z := [.str [], .str [], .str []]) (vs := [.str n.1, .str n.2.1, .str n.2.2]) (n := 3) rfl rfl rfl
  have b17 := b12.keep k7 (b12.lt wf2)
  have b27 := b2.keep k7 (b2.lt wf2)
  refine WS_of_seq (WS_of_ops ?_)
  simp only [doormanlaw12_TupleNodes_r7, go_sem, ↓reduceIte, Nat.reduceEqDiff, b12.loadAgg (n := 3) rfl, enterS, List.getD_cons_zero, List.getD_cons_succ]
  refine ndF_at (F := fun a b c => .str (showN a b c)) rfl (by omega) (by omega) (by omega) ?_
  simp only [go_sem, ↓reduceIte, Nat.reduceEqDiff, enterS, List.getD_cons_zero, List.getD_cons_succ]
  refine tx6F_at (F := readV) rfl (by omega) ?_
  rw [en]
  simp only [go_sem, ↓reduceIte, Nat.reduceEqDiff, extractA, List.getElem?_cons_zero, List.getElem?_cons_succ, e7]
  obtain ⟨q8, e8, x8, w8, k8⟩ := Box.newPut w7 (z := [.str [], .str [], .str []]) (vs := [.str y.1, .str y.2.1, .str y.2.2]) (n := 3) rfl rfl rfl
  have b18 := b17.keep k8 (b17.lt w7)
  have b28 := b27.keep k8 (b27.lt w7)
  have x78 := x7.keep k8 (x7.lt w7)
  refine WS_of_seq (WS_of_ops ?_)
  simp only [doormanlaw12_TupleNodes_r8, go_sem, ↓reduceIte, Nat.reduceEqDiff, enterS, List.getD_cons_zero, List.getD_cons_succ]
  refine tx6F_at (F := readV) rfl (by omega) ?_
  rw [ey]
  simp only [go_sem, ↓reduceIte, Nat.reduceEqDiff, extractA, List.getElem?_cons_zero, List.getElem?_cons_succ, e8]
  have m1 := b18.loadAgg (n := 3) rfl
  have m2 := b28.loadAgg (n := 3) rfl
  have m7 := x78.loadAgg (n := 3) rfl
  have m8 := x8.loadAgg (n := 3) rfl
  have o0 : loadA q8 false 1 (.ptr q7.n 0) = some (.str y.1) := x8.load 1 0
  have o1 : loadA q8 false 1 (.ptr q7.n 1) = some (.str y.2.1) := x8.load 1 1
  have o2 : loadA q8 false 1 (.ptr q7.n 2) = some (.str y.2.2) := x8.load 1 2
  refine WS_of_seq (WS_of_ops ?_)
  simp only [doormanlaw12_TupleNodes_r9, go_sem, ↓reduceIte, Nat.reduceEqDiff, m1, enterS, List.getD_cons_zero, List.getD_cons_succ]
  refine ndF_at (F := fun a b c => .bool (formedN a b c)) rfl (by omega) (by omega) (by omega) ?_
  simp only [go_sem, ↓reduceIte, Nat.reduceEqDiff]
  have c7 : eqA (.flatK [.s, .s, .s]) (.agg [.str n.1, .str n.2.1, .str n.2.2]) (.agg [.str a, .str b, .str c]) = some (decide ([n.1, n.2.1, n.2.2] = [a, b, c])) := eq3 [n.1, n.2.1, n.2.2] [a, b, c] rfl rfl
  -- the last line
  have last : ∀ z : S, z 3 = .ptr h.n 0 → z 5 = .ptr g1.n 0 → WS (EL LAll) (.seq (.draw doormanlaw12_TupleNodes_r12) .ret) [] (atEnd doormanlaw12_TupleNodes_a.results fun r x => r = .val (.bool true)) z q8 := by
    intro z z3 z5
    have e1 : (showN a b c).length + ([64] : T8).length ≤ big := by simp [big]; omega
    have e2 : (showN a b c ++ [64]).length + (showN d e g).length ≤ big := by simp [big]; omega
    refine WS_of_seq (WS_of_draw ?_)
    simp only [doormanlaw12_TupleNodes_r12, go_sem, ↓reduceIte, Nat.reduceEqDiff, and_self, true_and, List.filter_cons, List.filter_nil, Nat.testBit, Nat.reduceShiftRight, Nat.reduceAnd, Nat.reduceBNe, Bool.not_false, Bool.not_true, Bool.false_eq_true, bne_self_eq_false, wanted, z3, z5, m1, m2, parts, List.map_cons, List.map_nil, afill3, afill30, afill6, afill60, afill66, enterS, List.getD_cons_zero, List.getD_cons_succ]
    refine tpF_at (F := fun a b c d e g => .str (textT a b c d e g)) rfl (by omega) (by omega) ?_
    simp only [go_sem, ↓reduceIte, Nat.reduceEqDiff, and_self, true_and, List.filter_cons, List.filter_nil, Nat.testBit, Nat.reduceShiftRight, Nat.reduceAnd, Nat.reduceBNe, Bool.not_false, Bool.not_true, Bool.false_eq_true, bne_self_eq_false, wanted, z3, z5, m1, m2, parts, List.map_cons, List.map_nil, afill3, afill30, afill6, afill60, afill66, enterS, List.getD_cons_zero, List.getD_cons_succ]
    refine ndF_at (F := fun a b c => .str (showN a b c)) rfl (by omega) (by omega) (by omega) ?_
    simp only [go_sem, ↓reduceIte, Nat.reduceEqDiff, and_self, true_and, List.filter_cons, List.filter_nil, Nat.testBit, Nat.reduceShiftRight, Nat.reduceAnd, Nat.reduceBNe, Bool.not_false, Bool.not_true, Bool.false_eq_true, bne_self_eq_false, wanted, z3, z5, m1, m2, parts, List.map_cons, List.map_nil, afill3, afill30, afill6, afill60, afill66, enterS, List.getD_cons_zero, List.getD_cons_succ, e1]
    refine ndF_at (F := fun a b c => .str (showN a b c)) rfl (by omega) (by omega) (by omega) ?_
    simp only [go_sem, ↓reduceIte, Nat.reduceEqDiff, and_self, true_and, List.filter_cons, List.filter_nil, Nat.testBit, Nat.reduceShiftRight, Nat.reduceAnd, Nat.reduceBNe, Bool.not_false, Bool.not_true, Bool.false_eq_true, bne_self_eq_false, wanted, z3, z5, m1, m2, parts, List.map_cons, List.map_nil, afill3, afill30, afill6, afill60, afill66, enterS, List.getD_cons_zero, List.getD_cons_succ, e2]
    refine WS_of_ret ?_
    simp only [go_sem, ↓reduceIte, Nat.reduceEqDiff, doormanlaw12_TupleNodes_a]
    simp [textT]
  have hA : formedN a b c = false ∨ (formedN a b c = true ∧ ne = 0 ∧ [n.1, n.2.1, n.2.2] = [a, b, c]) := by
    cases hA : formedN a b c with
    | false => exact .inl rfl
    | true =>
      have g3' := readN_show hA
      rcases hn with ⟨h1, h2⟩ | ⟨h1, _, _⟩
      · rw [g3'] at h1; cases h1; exact .inr ⟨rfl, h2, rfl⟩
      · rw [g3'] at h1; cases h1
  have hB : (ye = 0 ∧ showN y.1 y.2.1 y.2.2 = s) ∨ (ye = 11 ∧ y = ([], [], [])) := by
    rcases hy with ⟨h1, h2⟩ | ⟨_, h1, h2⟩
    · exact .inl ⟨h2, (readN_formed h1).2⟩
    · exact .inr ⟨h2, h1⟩
  have N11 : ¬ ((11 : Int) = 0) := by decide
  have eb : ([] : T8).length + ([] : T8).length ≤ big := by simp [big]
  have eb2 : (([] : T8) ++ []).length + ([] : T8).length ≤ big := by simp [big]
  have ee : (([] : T8) ++ [] ++ [] = []) := rfl
  refine WS_of_seq (WS_of_seq (WS_of_ops ?_))
  rcases hA with hA | ⟨hA, rfl, hx⟩
  · rw [hA]
    rcases hB with ⟨rfl, hs2⟩ | ⟨rfl, rfl⟩
    · simp only [doormanlaw12_TupleNodes_r10, go_sem, ↓reduceIte, Nat.reduceEqDiff, wanted, decide_true, decide_false, beq_self_eq_true, pickA, show (false == true) = false from rfl, show (true == false) = false from rfl, Bool.false_eq_true, undefA, Bool.not_true, Bool.not_false, fieldAddrA, Nat.zero_add, Nat.add_zero, Nat.reduceAdd, enterS, List.getD_cons_zero, List.getD_cons_succ, m1, m2, m7, m8, o0, o1, o2, c7]
      refine ndF_at (F := fun a b c => .str (showN a b c)) rfl (by omega) (by omega) (by omega) ?_
      simp only [go_sem, ↓reduceIte, Nat.reduceEqDiff, wanted, decide_true, decide_false, beq_self_eq_true, pickA, show (false == true) = false from rfl, show (true == false) = false from rfl, Bool.false_eq_true, undefA, Bool.not_true, Bool.not_false, fieldAddrA, Nat.zero_add, Nat.add_zero, Nat.reduceAdd, enterS, List.getD_cons_zero, List.getD_cons_succ, m1, m2, m7, m8, o0, o1, o2, c7, hs2]
      refine WS_of_cond ?_
      simp only [go_sem, ↓reduceIte, Nat.reduceEqDiff, Bool.false_eq_true]
      refine WS_of_skip ?_
      simp only [go_sem]
      exact last _ rfl rfl
    · simp only [doormanlaw12_TupleNodes_r10, go_sem, ↓reduceIte, Nat.reduceEqDiff, wanted, decide_true, decide_false, beq_self_eq_true, pickA, show (false == true) = false from rfl, show (true == false) = false from rfl, Bool.false_eq_true, undefA, Bool.not_true, Bool.not_false, fieldAddrA, Nat.zero_add, Nat.add_zero, Nat.reduceAdd, enterS, List.getD_cons_zero, List.getD_cons_succ, m1, m2, m7, m8, o0, o1, o2, c7, N11, eb, eb2, ee]
      refine WS_of_cond ?_
      simp only [go_sem, ↓reduceIte, Nat.reduceEqDiff, Bool.false_eq_true]
      refine WS_of_skip ?_
      simp only [go_sem]
      exact last _ rfl rfl
  · rw [hA]
    rw [decide_eq_true hx] at c7
    rcases hB with ⟨rfl, hs2⟩ | ⟨rfl, rfl⟩
    · simp only [doormanlaw12_TupleNodes_r10, go_sem, ↓reduceIte, Nat.reduceEqDiff, wanted, decide_true, decide_false, beq_self_eq_true, pickA, show (false == true) = false from rfl, show (true == false) = false from rfl, Bool.false_eq_true, undefA, Bool.not_true, Bool.not_false, fieldAddrA, Nat.zero_add, Nat.add_zero, Nat.reduceAdd, enterS, List.getD_cons_zero, List.getD_cons_succ, m1, m2, m7, m8, o0, o1, o2, c7]
      refine ndF_at (F := fun a b c => .str (showN a b c)) rfl (by omega) (by omega) (by omega) ?_
      simp only [go_sem, ↓reduceIte, Nat.reduceEqDiff, wanted, decide_true, decide_false, beq_self_eq_true, pickA, show (false == true) = false from rfl, show (true == false) = false from rfl, Bool.false_eq_true, undefA, Bool.not_true, Bool.not_false, fieldAddrA, Nat.zero_add, Nat.add_zero, Nat.reduceAdd, enterS, List.getD_cons_zero, List.getD_cons_succ, m1, m2, m7, m8, o0, o1, o2, c7, hs2]
      refine WS_of_cond ?_
      simp only [go_sem, ↓reduceIte, Nat.reduceEqDiff, Bool.false_eq_true]
      refine WS_of_skip ?_
      simp only [go_sem]
      exact last _ rfl rfl
    · simp only [doormanlaw12_TupleNodes_r10, go_sem, ↓reduceIte, Nat.reduceEqDiff, wanted, decide_true, decide_false, beq_self_eq_true, pickA, show (false == true) = false from rfl, show (true == false) = false from rfl, Bool.false_eq_true, undefA, Bool.not_true, Bool.not_false, fieldAddrA, Nat.zero_add, Nat.add_zero, Nat.reduceAdd, enterS, List.getD_cons_zero, List.getD_cons_succ, m1, m2, m7, m8, o0, o1, o2, c7, N11, eb, eb2, ee]
      refine WS_of_cond ?_
      simp only [go_sem, ↓reduceIte, Nat.reduceEqDiff, Bool.false_eq_true]
      refine WS_of_skip ?_
      simp only [go_sem]
      exact last _ rfl rfl
end Go.Proofs.YtgjcdpanabjcmaaGreatDoor.Ev.C

/- The answer of the law TupleNodes, for every input: over the interpreter. -/
namespace Go.Proofs.YtgjcdpanabjcmaaGreatDoor
open Go Go.Proofs.YtgjcdpanabjcmaaGreatDoor.Ev
set_option linter.unusedVariables false
theorem tupleNodes_answer {u0 u2 : List AV} {h : H} (z0 : C.Nd) (a1 : ByteArray) (z2 : C.Nd) (ks : C.KStart h) (wf : h.Wf) (s0 : u0 = [.str z0.1, .str z0.2.1, .str z0.2.2]) (w1 : a1.size ≤ 140737488351232) (s2 : u2 = [.str z2.1, .str z2.2.1, .str z2.2.2]) :
    WCall (env C.PP C.ovZ) C.n_doormanlaw12_TupleNodes [.agg u0, .str a1.data.toList, .agg u2] h fun r _ => r = .val (.bool true) := by
  subst s0
  subst s2
  rw [← C.EL_env]
  exact C.nodes_answer ks wf _ _ _ _ _ _ _
end Go.Proofs.YtgjcdpanabjcmaaGreatDoor

/- The law TupleNodes holds for every input: its call returns true, on every tape. Conditions: none but those of the given statement itself (arguments of the types of its parameters). -/
namespace Go.Proofs.YtgjcdpanabjcmaaGreatDoor.tupleNodes
open Go.ChangeShapes Go.WideShapes Go.ChangeAt Go.RowKit Go.Proofs.YtgjcdpanabjcmaaGreatDoor.Ev
open Go.ChangeMaps (open_string shut_string)
set_option linter.unusedVariables false
theorem own : ownKnob Tryz.prog.godebug = none := by kernel_rfl
theorem laidOut : laidOutB Tryz.prog = true := by kernel_rfl
theorem gKeys : Tryz.prog.globalNamed "doorman/token.keys" = some Go.Proofs.YtgjcdpanabjcmaaGreatDoor.Ev.C.g_token_keys := by kernel_rfl
theorem gType : (Tryz.prog.globals[Go.Proofs.YtgjcdpanabjcmaaGreatDoor.Ev.C.g_token_keys]?).map (·.type) = some 41 := by kernel_rfl
/-- a world that holds the list and the tables -/
noncomputable def laidWorld (os : Os) : World :=
  let N := (World.settled Tryz.prog os).heap.size
  let w0 := World.holding Tryz.prog os ⟨#[.cells #[.string ⟨#[116, 121, 112, 101]⟩, .string ⟨#[114, 101, 108]⟩, .string ⟨#[105, 115]⟩, .string ⟨#[116, 104, 105, 115]⟩] 9], #[], []⟩
  let put (h : Array Obj) (g : Nat) (cs : Array Value) : Array Obj := h.modify g fun
      | .cells _ t frozen => .cells cs t frozen
      | o => o
  let h1 := put w0.heap Go.Proofs.YtgjcdpanabjcmaaGreatDoor.Ev.C.g_token_keys #[.slice (some ⟨N, 0, none⟩) 4 4]
  let h2 := put h1 Go.Proofs.YtgjcdpanabjcmaaGreatDoor.Ev.C.g_utf8_first (Lib.firstTab.map fun z => Value.int .u8 z).toArray
  let h3 := put h2 Go.Proofs.YtgjcdpanabjcmaaGreatDoor.Ev.C.g_utf8_acceptRanges ((List.range 16).flatMap fun i => [Value.int .u8 (Lib.accLo i), Value.int .u8 (Lib.accHi i)]).toArray
  { w0 with heap := h3 }
set_option maxRecDepth 100000 in
theorem laid_met (os : Os) : laidMet Tryz.prog Rows.tupleNodesRow.laid ((laidWorld os).forCall (fun _ _ => 0) ⟨#[], #[.agg #[.string ByteArray.empty, .string ByteArray.empty, .string ByteArray.empty], .string ByteArray.empty, .agg #[.string ByteArray.empty, .string ByteArray.empty, .string ByteArray.empty]], []⟩).memory :=
  (LaidIn.of_run (l := Rows.tupleNodesRow.laid) [Go.Proofs.YtgjcdpanabjcmaaGreatDoor.Ev.C.g_token_keys, Go.Proofs.YtgjcdpanabjcmaaGreatDoor.Ev.C.g_utf8_first, Go.Proofs.YtgjcdpanabjcmaaGreatDoor.Ev.C.g_utf8_acceptRanges, (World.settled Tryz.prog os).heap.size] 8 (by kernel_rfl) (by kernel_rfl) (by kernel_rfl) (by kernel_rfl)).met
set_option maxRecDepth 100000 in
theorem reads (os : Os) {H : Type} (enc : TypeId × Value → H) : ∃ places, DataW.whole enc Tryz.prog ((laidWorld os).forCall (fun _ _ => 0) ⟨#[], #[.agg #[.string ByteArray.empty, .string ByteArray.empty, .string ByteArray.empty], .string ByteArray.empty, .agg #[.string ByteArray.empty, .string ByteArray.empty, .string ByteArray.empty]], []⟩).memory Tryz.f7.params.toList Rows.tupleNodesSpec.vars false (#[.agg #[.string ByteArray.empty, .string ByteArray.empty, .string ByteArray.empty], .string ByteArray.empty, .agg #[.string ByteArray.empty, .string ByteArray.empty, .string ByteArray.empty]] : Array Value).toList 8 = some ([.agg [.lit (.string []), .lit (.string []), .lit (.string [])], .lit (.string []), .agg [.lit (.string []), .lit (.string []), .lit (.string [])]], [], places) := by
  have hw : (DataW.whole enc Tryz.prog ((laidWorld os).forCall (fun _ _ => 0) ⟨#[], #[.agg #[.string ByteArray.empty, .string ByteArray.empty, .string ByteArray.empty], .string ByteArray.empty, .agg #[.string ByteArray.empty, .string ByteArray.empty, .string ByteArray.empty]], []⟩).memory Tryz.f7.params.toList Rows.tupleNodesSpec.vars false (#[.agg #[.string ByteArray.empty, .string ByteArray.empty, .string ByteArray.empty], .string ByteArray.empty, .agg #[.string ByteArray.empty, .string ByteArray.empty, .string ByteArray.empty]] : Array Value).toList 8).map (fun x => (x.1, x.2.1)) = some ([.agg [.lit (.string []), .lit (.string []), .lit (.string [])], .lit (.string []), .agg [.lit (.string []), .lit (.string []), .lit (.string [])]], []) := by kernel_rfl
  obtain ⟨⟨x1, x2, x3⟩, hx, hx1⟩ := Option.map_eq_some_iff.1 hw
  simp only [Prod.mk.injEq] at hx1
  obtain ⟨rfl, rfl⟩ := hx1
  exact ⟨x3, hx⟩
set_option maxRecDepth 100000 in
theorem lifted (os : Os) (started : os.Started) (H : Type) (enc : TypeId × Value → H) (F : Stop.Interp) :
    ReturnsInHanded {} Tryz.checked os 7 .any ((OpenSpec.ofChange Rows.tupleNodesSpec).preRow enc Tryz.prog Tryz.f7 Rows.tupleNodesRow.domain false Rows.tupleNodesRow.laid) (((OpenSpec.ofChange Rows.tupleNodesSpec).at F).post enc Tryz.prog Tryz.f7 false true false false) := by
  obtain ⟨places, hx⟩ := reads os enc
  refine returnsInHanded_of_row (C := Tryz.checked) (s := OpenSpec.ofChange Rows.tupleNodesSpec) own started (by kernel_rfl) Tryz.func7
    (witness_row_atRef (enc := enc) (C := Tryz.checked) false (laidWorld os) #[.agg #[.string ByteArray.empty, .string ByteArray.empty, .string ByteArray.empty], .string ByteArray.empty, .agg #[.string ByteArray.empty, .string ByteArray.empty, .string ByteArray.empty]] rfl (by kernel_rfl) (by kernel_rfl) (by kernel_rfl)
      (OpenSpec.preRow_of_cond 8 hx (by kernel_rfl) (fun k hk => by cases hk) (by kernel_rfl) (laid_met os))) ?_
  intro W base args ds gs before hval0 hW hcnd _ hsz0 hL _ _
  have hsz : (DataW.weightsEach Tryz.prog (Tryz.f7.params.toList ++ Rows.tupleNodesSpec.plain.varTypes Tryz.prog) (ds ++ gs)).all (· ≤ reachBytes) = true := hsz0
  have hval : ∀ (j : Nat) t v, Tryz.f7.params[j]? = some t → args[j]? = some v → Value.okWide Tryz.prog W .any base t v := hval0
  have hW' := hW
  obtain ⟨p, q, hA0, hV, rfl, hfz, hnd⟩ := hW
  have hA : DataW.TrodAll enc Tryz.prog W 0 (fun _ => true) true Tryz.f7.params.toList args.toList ds p := hA0
  rw [Tryz.params7] at hA hval hsz
  obtain ⟨v0, vs0, d0, ds0, p0, q0, hargs, rfl, rfl, h0, r0⟩ := trodAll_cons hA
  obtain ⟨v1, vs1, d1, ds1, p1, q1, rfl, rfl, rfl, h1, r1⟩ := trodAll_cons r0
  obtain ⟨v2, vs2, d2, ds2, p2, q2, rfl, rfl, rfl, h2, r2⟩ := trodAll_cons r1
  obtain ⟨rfl, rfl, rfl⟩ := trodAll_nil r2
  obtain rfl : args = #[v0, v1, v2] := by cases args; simp_all
  obtain ⟨rfl, rfl⟩ := trodVars_none hV
  obtain ⟨m0, hp0, R0, ks0⟩ : ∃ m h, Rel Tryz.prog W.heap.size m h W ∧ Go.Proofs.YtgjcdpanabjcmaaGreatDoor.Ev.C.KStart h := by
    obtain ⟨mS, hr⟩ := start_laid2 (P := Tryz.prog) (W := W) (name := "doorman/token.keys") (l := Go.Proofs.YtgjcdpanabjcmaaGreatDoor.Ev.C.keysL) hL gKeys gType Tryz.underlying41 (Tryz.underlying9) (by kernel_rfl) (by decide)
    exact ⟨mS, _, hr, StartG.hg _ _ _⟩
  have hpos : 0 < W.heap.size := Nat.lt_of_le_of_lt (Nat.zero_le _) (R0.gb ks0.glob).1
  have k0 := h0
  have lt0 : ∀ x ∈ p0, x.block < W.heap.size := by obtain ⟨m, hm⟩ := k0; exact DataW.trod_lt m _ _ _ hm
  obtain ⟨m1, hp1, u0, z0, R1, l0, K0, V0, S0⟩ := opensNode.agg Tryz.underlying23 (hval 0 23 v0 rfl rfl) h0 hpos R0
  obtain ⟨a1, rfl, rfl, rfl, y1⟩ := open_string Tryz.underlying9 (hval 1 9 v1 rfl rfl) h1
  have w1 : a1.size ≤ 140737488351232 := by
    have z := sized_string hsz (j := 1) (t := 9) rfl rfl
    rw [Array.length_toList] at z
    exact z
  have k2 := h2
  have lt2 : ∀ x ∈ p2, x.block < W.heap.size := by obtain ⟨m, hm⟩ := k2; exact DataW.trod_lt m _ _ _ hm
  obtain ⟨m2, hp2, u2, z2, R2, l1, K1, V2, S2⟩ := opensNode.agg Tryz.underlying23 (hval 2 23 v2 rfl rfl) h2 hpos R1
  clear hA0 hval0 hsz0 hsz
  refine (law_calls (P := Tryz.prog) (ov := Go.Proofs.YtgjcdpanabjcmaaGreatDoor.Ev.C.ovZ) (Tryz.checked).mixed Go.Proofs.YtgjcdpanabjcmaaGreatDoor.Ev.C.ovZ_ok Tryz.func7 (by decide +kernel) (by kernel_rfl) R2 (.cons (VRel.mono l1 V0) (.cons (VRel.of_string a1) (.cons V2 .nil))) (tupleNodes_answer z0 a1 z2 ((ks0.keep R0.wf K0).keep R1.wf K1) R2.wf (opensNode.stab _ _ _ _ S0 K1) w1 S2)).mono fun e W' ⟨he, bel⟩ => ?_
  subst he
  exact ⟨_, rfl, _, _, _, [], _, [], hW', trodAll_mk1 (shut_bool Tryz.underlying4 _), (trodAll_cons_mk (Below.trod laidOut (by kernel_rfl) (of_decide_eq_true (by kernel_rfl)) k0 bel lt0) (trodAll_cons_mk (shut_string Tryz.underlying9 y1) (trodAll_cons_mk (Below.trod laidOut (by kernel_rfl) (of_decide_eq_true (by kernel_rfl)) k2 bel lt2) trodAll_mk0))), rfl, bel.frame _, fun h => by cases h⟩
theorem said : Rows.TupleNodesSaid :=
  OpenClaim.holds_of_cond 7 Tryz.f7 rfl rfl rfl rfl rfl rfl rfl ⟨rfl, rfl, rfl, rfl, rfl⟩ rfl rfl rfl rfl rfl (by kernel_rfl) Tryz.func7 (by kernel_rfl)
    (of_decide_eq_true (by kernel_rfl)) (by unfold Func.isWrapper; first | (rw [if_pos (by decide +kernel)]; kernel_rfl) | (rw [if_neg (by decide +kernel)]; exact ⟨rfl, rfl⟩))
    (fun os started H enc _ F => by rw [OpenClaim.pre_eq_preRow]; exact lifted os started H enc F)
theorem plain (f : FuncId) (fn : Func) (hf : Tryz.pinned.checked.prog.funcNamed "doorman/doormanlaw12.TupleNodes" = some f) (hfn : Tryz.pinned.checked.prog.funcs[f]? = some fn) :
    true = Tryz.pinned.checked.prog.looks [] ∧ ∀ (j : Nat) t, fn.params[j]? = some t → Tryz.pinned.checked.prog.wantsStandIn t = false := by
  obtain rfl : f = 7 := Option.some.inj ((show Tryz.prog.funcNamed "doorman/doormanlaw12.TupleNodes" = some 7 by kernel_rfl).symm.trans hf) |>.symm
  obtain rfl : fn = Tryz.f7 := (Option.some.inj (Tryz.func7.symm.trans hfn)).symm
  refine ⟨by kernel_rfl, fun j t ht => ?_⟩
  rw [Tryz.params7] at ht
  have hm : t ∈ #[23, 9, 23] := Array.mem_of_getElem? ht
  simp only [List.mem_toArray, List.mem_cons, List.not_mem_nil, or_false] at hm
  rcases hm with rfl | rfl | rfl
  · exact (show Tryz.prog.wantsStandIn 23 = false by kernel_rfl)
  · exact (show Tryz.prog.wantsStandIn 9 = false by kernel_rfl)
  · exact (show Tryz.prog.wantsStandIn 23 = false by kernel_rfl)
theorem card : Rows.TupleNodesCardSaid :=
  Claim7.holds_tied_plain_at .later [] _ _ _ _ said (fun _ h => by cases h) (by kernel_rfl) (fun _ h => by cases h) tupleNodes_row_tie rfl ⟨rfl, rfl⟩ (by kernel_rfl) rfl plain (by kernel_rfl)
end Go.Proofs.YtgjcdpanabjcmaaGreatDoor.tupleNodes
namespace Go.Proofs.YtgjcdpanabjcmaaGreatDoor
theorem tupleNodes_holds : Rows.TupleNodesCardSaid := tupleNodes.card
end Go.Proofs.YtgjcdpanabjcmaaGreatDoor

