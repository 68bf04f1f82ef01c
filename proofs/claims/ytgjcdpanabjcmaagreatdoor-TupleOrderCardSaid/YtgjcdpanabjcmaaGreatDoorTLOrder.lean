/- The law TupleTexts, walked. -/
import Derived.Test.YtgjcdpanabjcmaaGreatDoorTV
import Derived.Test.YtgjcdpanabjcmaaGreatDoorTAwake
import Derived.Test.YtgjcdpanabjcmaaGreatDoorCards
import Derived.Test.YtgjcdpanabjcmaaGreatDoorTie
import Derived.WalkKit
import Derived.ProofKit
import Derived.OpenShut
import Derived.ShutString
import Derived.ChangeOld
import Derived.Below
import Derived.SizedLaws
import Derived.Deep.DeepHandedRow
import Derived.Deep.DeepWitnessRowRef
import Derived.Lib.LaidTab
import Derived.Lib.LaidIn
import Derived.Lib.LaidU8
namespace Go.Proofs.YtgjcdpanabjcmaaGreatDoor.Ev.C
open Go Go.Proofs.YtgjcdpanabjcmaaGreatDoor.Ev
set_option linter.unusedSimpArgs false
set_option linter.unusedVariables false
theorem parseV_parts (s : T8) : ∃ (t : Tp) (e : Int), parseV s = .tup [.agg (six t.1.1 t.1.2.1 t.1.2.2 t.2.1 t.2.2.1 t.2.2.2), .int .i64 e] ∧ ((parseN s = some t ∧ e = 0) ∨ (parseN s = none ∧ t = noT ∧ e = 11)) := by
  unfold parseV
  cases hN : parseN s with
  | none => exact ⟨noT, 11, rfl, .inr ⟨rfl, rfl, rfl⟩⟩
  | some t => exact ⟨t, 0, rfl, .inl ⟨rfl, rfl⟩⟩
theorem fromN_len {s : T8} {p : List T8} (h : fromN s = some p) : p.length = 6 := by
  unfold fromN at h
  split at h
  · cases h; exact pad6_len _
  · cases h
theorem fromV_parts (s : T8) : ∃ (a b c d e g : T8) (f : Bool), fromV s = .tup [.agg (six a b c d e g), .bool f] ∧ ((fromN s = some [a, b, c, d, e, g] ∧ f = true) ∨ (fromN s = none ∧ f = false ∧ [a, b, c, d, e, g] = [[], [], [], [], [], []])) := by
  unfold fromV
  cases hN : fromN s with
  | none => exact ⟨[], [], [], [], [], [], false, rfl, .inr ⟨rfl, rfl, rfl⟩⟩
  | some p =>
    obtain ⟨a, b, c, d, e, g, rfl⟩ := list6 (fromN_len hN)
    exact ⟨a, b, c, d, e, g, true, rfl, .inl ⟨rfl, rfl⟩⟩
theorem few_len {a b c d e g : T8} (h : fewB a b c d e g = true) : (a.length ≤ 120 ∧ b.length ≤ 120 ∧ c.length ≤ 120) ∧ d.length ≤ 120 ∧ e.length ≤ 120 ∧ g.length ≤ 120 := by
  simp [fewB] at h; omega
theorem eq3 (l m : List T8) (hl : l.length = 3) (hm : m.length = 3) : eqA (.flatK [.s, .s, .s]) (.agg (strCells l)) (.agg (strCells m)) = some (decide (l = m)) := by
  have := flatEqS l m (by omega)
  rw [show l.map (fun _ => FK.s) = [.s, .s, .s] from by
    match l, hl with
    | [_, _, _], _ => rfl] at this
  exact this
theorem eq6 (l m : List T8) (hl : l.length = 6) (hm : m.length = 6) : eqA (.flatK [.s, .s, .s, .s, .s, .s]) (.agg (strCells l)) (.agg (strCells m)) = some (decide (l = m)) := by
  have := flatEqS l m (by omega)
  rw [show l.map (fun _ => FK.s) = [.s, .s, .s, .s, .s, .s] from by
    match l, hl with
    | [_, _, _, _, _, _], _ => rfl] at this
  exact this
theorem few_at {L : List Ovr} (ho : ovP ov1 L n_doormanlaw12_few = some (pureO fewF)) {a b c d e g : T8} {h : H} {R : AOut → H → Prop} (hR : R (.val (.bool (fewB a b c d e g))) h) : WCall (EL L) n_doormanlaw12_few [.agg [.str a, .str b, .str c, .str d, .str e, .str g]] h R :=
  EL_call ho rfl hR
theorem key_len {a b c d e g : T8} (h : fewB a b c d e g = true) : (keyT a b c d e g).length ≤ 725 := by
  have := few_len h
  rw [keyT_eq]; simp; omega
theorem text_len {a b c d e g : T8} (h : fewB a b c d e g = true) : (textT a b c d e g).length ≤ 1000 := by
  have := few_len h
  unfold textT showN
  repeat' split
  all_goals simp
  all_goals omega
theorem texts_answer {h : H} (ks : KStart h) (wf : h.Wf) (a b c d e g s : T8) : WCall (EL LAll) n_doormanlaw12_TupleTexts [.agg (six a b c d e g), .str s] h fun r _ => r = .val (.bool true) := by
  refine WCall_ws ((EL_ov _ _).trans rfl) (EL_T T_doormanlaw12_TupleTexts) (by simp [doormanlaw12_TupleTexts_a]) ?_
  refine WS_of_seq (WS_of_ops ?_)
  simp only [doormanlaw12_TupleTexts_r0, go_sem, ↓reduceIte, Nat.reduceEqDiff, enterS, List.getD_cons_zero, List.getD_cons_succ, AV.cells]
  have b1 := Box.new wf (six a b c d e g)
  have wf1 := wf.new (six a b c d e g)
  have ks1 : KStart (h.new (six a b c d e g)) := ks.keep wf (Keep.new (Nat.le_refl _) _)
  generalize h.new [.str a, .str b, .str c, .str d, .str e, .str g] = g1 at b1 wf1 ks1
  refine WS_of_seq (WS_of_ops ?_)
  simp only [doormanlaw12_TupleTexts_r1, go_sem, ↓reduceIte, Nat.reduceEqDiff]
  refine (awakeZ ks1).mono ?_
  rintro _ _ ⟨rfl, rfl⟩
  simp only [go_sem, ↓reduceIte, Nat.reduceEqDiff]
  refine WS_of_seq (WS_of_seq (WS_of_ops ?_))
  simp only [doormanlaw12_TupleTexts_r2, go_sem, ↓reduceIte, Nat.reduceEqDiff, Bool.not_true]
  refine WS_of_cond ?_
  simp only [go_sem, ↓reduceIte, Nat.reduceEqDiff, Bool.false_eq_true]
  refine WS_of_skip ?_
  simp only [go_sem]
  refine WS_of_seq (WS_of_ops ?_)
  simp only [doormanlaw12_TupleTexts_r4, go_sem, ↓reduceIte, Nat.reduceEqDiff, b1.loadAgg (n := 6) rfl, enterS, List.getD_cons_zero, List.getD_cons_succ]
  refine few_at rfl ?_
  simp only [go_sem, ↓reduceIte, Nat.reduceEqDiff]
  refine WS_of_seq (WS_of_seq (WS_of_ops ?_))
  cases hf : fewB a b c d e g
  · simp only [doormanlaw12_TupleTexts_r5, go_sem, ↓reduceIte, Nat.reduceEqDiff, wanted, decide_true, decide_false, beq_self_eq_true, pickA, show (false == true) = false from rfl, show (true == false) = false from rfl, Bool.false_eq_true, undefA, Bool.not_true, Bool.not_false]
    refine WS_of_cond ?_
    simp only [go_sem, ↓reduceIte, Nat.reduceEqDiff]
    refine WS_of_seq (WS_of_ops ?_)
    simp only [doormanlaw12_TupleTexts_r6, go_sem, ↓reduceIte, Nat.reduceEqDiff]
    refine WS_of_ret ?_
    simp only [go_sem, ↓reduceIte, Nat.reduceEqDiff, doormanlaw12_TupleTexts_a]
  by_cases hs : s.length ≤ 300
  case neg =>
    have hs' : (300 : Int) < (s.length : Int) := by omega
    simp only [doormanlaw12_TupleTexts_r5, go_sem, ↓reduceIte, Nat.reduceEqDiff, wanted, decide_true, decide_false, beq_self_eq_true, pickA, show (false == true) = false from rfl, show (true == false) = false from rfl, Bool.false_eq_true, undefA, Bool.not_true, Bool.not_false, enterS, List.getD_cons_zero, List.getD_cons_succ, lenTA, Option.map_some, hs']
    refine WS_of_cond ?_
    simp only [go_sem, ↓reduceIte, Nat.reduceEqDiff]
    refine WS_of_seq (WS_of_ops ?_)
    simp only [doormanlaw12_TupleTexts_r6, go_sem, ↓reduceIte, Nat.reduceEqDiff]
    refine WS_of_ret ?_
    simp only [go_sem, ↓reduceIte, Nat.reduceEqDiff, doormanlaw12_TupleTexts_a]
  have hs' : ¬ (300 : Int) < (s.length : Int) := by omega
  simp only [doormanlaw12_TupleTexts_r5, go_sem, ↓reduceIte, Nat.reduceEqDiff, wanted, decide_true, decide_false, beq_self_eq_true, pickA, show (false == true) = false from rfl, show (true == false) = false from rfl, Bool.false_eq_true, undefA, Bool.not_true, Bool.not_false, enterS, List.getD_cons_zero, List.getD_cons_succ, lenTA, Option.map_some, hs']
  refine WS_of_cond ?_
  simp only [go_sem, ↓reduceIte, Nat.reduceEqDiff, Bool.false_eq_true]
  refine WS_of_skip ?_
  simp only [go_sem]
  obtain ⟨hl1, hl2⟩ := few_len hf
  have hkl := key_len hf
  obtain ⟨n, ne, en, ln, _⟩ := readV_parts s (by omega)
  obtain ⟨t, te, et, _⟩ := parseV_parts s
  obtain ⟨fa, fb, fc, fd, fe, fg, ff, ef, _⟩ := fromV_parts s
  have ef' := from_same s
  rw [ef] at ef'
  obtain ⟨q7, e7, x7, w7, k7⟩ := Box.newPut wf1 (z := [.str [], .str [], .str []]) (vs := [.str n.1, .str n.2.1, .str n.2.2]) (n := 3) rfl rfl rfl
  have b1' := b1.keep k7 (b1.lt wf1)
  refine WS_of_seq (WS_of_ops ?_)
  simp only [doormanlaw12_TupleTexts_r7, go_sem, ↓reduceIte, Nat.reduceEqDiff, enterS, List.getD_cons_zero, List.getD_cons_succ]
  refine tx6F_at (F := readV) rfl (by omega) ?_
  rw [en]
  simp only [go_sem, ↓reduceIte, Nat.reduceEqDiff, extractA, List.getElem?_cons_zero, List.getElem?_cons_succ, e7]
  obtain ⟨q8, e8, x8, w8, k8⟩ := Box.newPut w7 (z := [.str [], .str [], .str []]) (vs := [.str n.1, .str n.2.1, .str n.2.2]) (n := 3) rfl rfl rfl
  have b1'' := b1'.keep k8 (b1'.lt w7)
  have x7' := x7.keep k8 (x7.lt w7)
  refine WS_of_seq (WS_of_ops ?_)
  simp only [doormanlaw12_TupleTexts_r8, go_sem, ↓reduceIte, Nat.reduceEqDiff, enterS, List.getD_cons_zero, List.getD_cons_succ]
  refine tx6F_at (F := readV) rfl (by omega) ?_
  rw [en]
  simp only [go_sem, ↓reduceIte, Nat.reduceEqDiff, extractA, List.getElem?_cons_zero, List.getElem?_cons_succ, e8]
  obtain ⟨q9, e9, x9, w9, k9⟩ := Box.newPut w8 (z := six [] [] [] [] [] []) (vs := six t.1.1 t.1.2.1 t.1.2.2 t.2.1 t.2.2.1 t.2.2.2) (n := 6) rfl rfl rfl
  have b1''' := b1''.keep k9 (b1''.lt w8)
  have x7'' := x7'.keep k9 (x7'.lt w8)
  have x8' := x8.keep k9 (x8.lt w8)
  refine WS_of_seq (WS_of_ops ?_)
  simp only [doormanlaw12_TupleTexts_r9, go_sem, ↓reduceIte, Nat.reduceEqDiff, enterS, List.getD_cons_zero, List.getD_cons_succ]
  refine tx6F_at (F := parseV) rfl (by omega) ?_
  rw [et]
  simp only [go_sem, ↓reduceIte, Nat.reduceEqDiff, extractA, List.getElem?_cons_zero, List.getElem?_cons_succ, e9]
  obtain ⟨q10, e10, x10, w10, k10⟩ := Box.newPut w9 (z := six [] [] [] [] [] []) (vs := six t.1.1 t.1.2.1 t.1.2.2 t.2.1 t.2.2.1 t.2.2.2) (n := 6) rfl rfl rfl
  have b1'''' := b1'''.keep k10 (b1'''.lt w9)
  have x7''' := x7''.keep k10 (x7''.lt w9)
  have x8'' := x8'.keep k10 (x8'.lt w9)
  have x9' := x9.keep k10 (x9.lt w9)
  refine WS_of_seq (WS_of_ops ?_)
  simp only [doormanlaw12_TupleTexts_r10, go_sem, ↓reduceIte, Nat.reduceEqDiff, enterS, List.getD_cons_zero, List.getD_cons_succ]
  refine tx6F_at (F := parseV) rfl (by omega) ?_
  rw [et]
  simp only [go_sem, ↓reduceIte, Nat.reduceEqDiff, extractA, List.getElem?_cons_zero, List.getElem?_cons_succ, e10]
  obtain ⟨q11, e11, x11, w11, k11⟩ := Box.newPut w10 (z := six [] [] [] [] [] []) (vs := six fa fb fc fd fe fg) (n := 6) rfl rfl rfl
  have b1''''' := b1''''.keep k11 (b1''''.lt w10)
  have x7'''' := x7'''.keep k11 (x7'''.lt w10)
  have x8''' := x8''.keep k11 (x8''.lt w10)
  have x9'' := x9'.keep k11 (x9'.lt w10)
  have x10' := x10.keep k11 (x10.lt w10)
  refine WS_of_seq (WS_of_ops ?_)
  simp only [doormanlaw12_TupleTexts_r11, go_sem, ↓reduceIte, Nat.reduceEqDiff, enterS, List.getD_cons_zero, List.getD_cons_succ]
  refine tx5F_at (F := fromV) rfl (by omega) ?_
  rw [ef]
  simp only [go_sem, ↓reduceIte, Nat.reduceEqDiff, extractA, List.getElem?_cons_zero, List.getElem?_cons_succ, e11]
  obtain ⟨q12, e12, x12, w12, k12⟩ := Box.newPut w11 (z := six [] [] [] [] [] []) (vs := six fa fb fc fd fe fg) (n := 6) rfl rfl rfl
  have b1'''''' := b1'''''.keep k12 (b1'''''.lt w11)
  have x7''''' := x7''''.keep k12 (x7''''.lt w11)
  have x8'''' := x8'''.keep k12 (x8'''.lt w11)
  have x9''' := x9''.keep k12 (x9''.lt w11)
  have x10'' := x10'.keep k12 (x10'.lt w11)
  have x11' := x11.keep k12 (x11.lt w11)
  refine WS_of_seq (WS_of_ops ?_)
  simp only [doormanlaw12_TupleTexts_r12, go_sem, ↓reduceIte, Nat.reduceEqDiff, enterS, List.getD_cons_zero, List.getD_cons_succ]
  refine tx5F_at (F := rfromV) rfl (by omega) ?_
  rw [← ef']
  simp only [go_sem, ↓reduceIte, Nat.reduceEqDiff, extractA, List.getElem?_cons_zero, List.getElem?_cons_succ, e12]
  have m0 : loadA q12 true 3 (.ptr h.n 0) = some (.agg [.str a, .str b, .str c]) := by simp only [loadA, b1''''''.row, if_true]; rfl
  have m1 := b1''''''.loadAgg (n := 6) rfl
  have m7 := x7'''''.loadAgg (n := 3) rfl
  have m8 := x8''''.loadAgg (n := 3) rfl
  have m9 := x9'''.loadAgg (n := 6) rfl
  have m10 := x10''.loadAgg (n := 6) rfl
  have m11 := x11'.loadAgg (n := 6) rfl
  have m12 := x12.loadAgg (n := 6) rfl
  have c7 : eqA (.flatK [.s, .s, .s]) (.agg [.str n.1, .str n.2.1, .str n.2.2]) (.agg [.str n.1, .str n.2.1, .str n.2.2]) = some true := (eq3 [n.1, n.2.1, n.2.2] [n.1, n.2.1, n.2.2] rfl rfl).trans (by simp)
  have c9 : eqA (.flatK [.s, .s, .s, .s, .s, .s]) (.agg (six t.1.1 t.1.2.1 t.1.2.2 t.2.1 t.2.2.1 t.2.2.2)) (.agg (six t.1.1 t.1.2.1 t.1.2.2 t.2.1 t.2.2.1 t.2.2.2)) = some true := (eq6 [t.1.1, t.1.2.1, t.1.2.2, t.2.1, t.2.2.1, t.2.2.2] [t.1.1, t.1.2.1, t.1.2.2, t.2.1, t.2.2.1, t.2.2.2] rfl rfl).trans (by simp)
  have c11 : eqA (.flatK [.s, .s, .s, .s, .s, .s]) (.agg (six fa fb fc fd fe fg)) (.agg (six fa fb fc fd fe fg)) = some true := (eq6 [fa, fb, fc, fd, fe, fg] [fa, fb, fc, fd, fe, fg] rfl rfl).trans (by simp)
  have c12 : eqA .bool (.bool ff) (.bool ff) = some true := by simp [eqA]
  refine WS_of_seq (WS_of_draw ?_)
  simp only [doormanlaw12_TupleTexts_r13, go_sem, ↓reduceIte, Nat.reduceEqDiff, and_self, true_and, List.filter_cons, List.filter_nil, Nat.testBit, Nat.reduceShiftRight, Nat.reduceAnd, Nat.reduceBNe, Bool.not_false, Bool.not_true, Bool.false_eq_true, bne_self_eq_false, wanted, fieldAddrA, Nat.zero_add, Nat.add_zero, Nat.reduceAdd, m0, enterS, List.getD_cons_zero, List.getD_cons_succ]
  refine ndF_at (F := fun a b c => .str (showN a b c)) rfl (by omega) (by omega) (by omega) ?_
  simp only [go_sem, ↓reduceIte, Nat.reduceEqDiff, and_self, true_and, List.filter_cons, List.filter_nil, Nat.testBit, Nat.reduceShiftRight, Nat.reduceAnd, Nat.reduceBNe, Bool.not_false, Bool.not_true, Bool.false_eq_true, bne_self_eq_false, wanted, fieldAddrA, Nat.zero_add, Nat.add_zero, Nat.reduceAdd, m0, enterS, List.getD_cons_zero, List.getD_cons_succ]
  refine ndF_at (F := fun a b c => .str (showN a b c)) rfl (by omega) (by omega) (by omega) ?_
  simp only [go_sem, ↓reduceIte, Nat.reduceEqDiff, and_self, true_and, List.filter_cons, List.filter_nil, Nat.testBit, Nat.reduceShiftRight, Nat.reduceAnd, Nat.reduceBNe, Bool.not_false, Bool.not_true, Bool.false_eq_true, bne_self_eq_false, wanted, decide_true, decide_false, beq_self_eq_true, pickA, show (false == true) = false from rfl, show (true == false) = false from rfl, Bool.false_eq_true, undefA, Bool.not_true, Bool.not_false, fieldAddrA, Nat.zero_add, Nat.add_zero, Nat.reduceAdd, m0, m1, enterS, List.getD_cons_zero, List.getD_cons_succ]
  refine tpF_at (F := fun a b c d e g => .str (textT a b c d e g)) rfl (by omega) (by omega) ?_
  simp only [go_sem, ↓reduceIte, Nat.reduceEqDiff, and_self, true_and, List.filter_cons, List.filter_nil, Nat.testBit, Nat.reduceShiftRight, Nat.reduceAnd, Nat.reduceBNe, Bool.not_false, Bool.not_true, Bool.false_eq_true, bne_self_eq_false, wanted, decide_true, decide_false, beq_self_eq_true, pickA, show (false == true) = false from rfl, show (true == false) = false from rfl, Bool.false_eq_true, undefA, Bool.not_true, Bool.not_false, fieldAddrA, Nat.zero_add, Nat.add_zero, Nat.reduceAdd, m0, m1, enterS, List.getD_cons_zero, List.getD_cons_succ]
  refine tpF_at (F := fun a b c d e g => .str (textT a b c d e g)) rfl (by omega) (by omega) ?_
  simp only [go_sem, ↓reduceIte, Nat.reduceEqDiff, and_self, true_and, List.filter_cons, List.filter_nil, Nat.testBit, Nat.reduceShiftRight, Nat.reduceAnd, Nat.reduceBNe, Bool.not_false, Bool.not_true, Bool.false_eq_true, bne_self_eq_false, wanted, decide_true, decide_false, beq_self_eq_true, pickA, show (false == true) = false from rfl, show (true == false) = false from rfl, Bool.false_eq_true, undefA, Bool.not_true, Bool.not_false, fieldAddrA, Nat.zero_add, Nat.add_zero, Nat.reduceAdd, m0, m1, enterS, List.getD_cons_zero, List.getD_cons_succ]
  refine key_at rfl (by omega) ?_
  simp only [go_sem, ↓reduceIte, Nat.reduceEqDiff, and_self, true_and, List.filter_cons, List.filter_nil, Nat.testBit, Nat.reduceShiftRight, Nat.reduceAnd, Nat.reduceBNe, Bool.not_false, Bool.not_true, Bool.false_eq_true, bne_self_eq_false, wanted, decide_true, decide_false, beq_self_eq_true, pickA, show (false == true) = false from rfl, show (true == false) = false from rfl, Bool.false_eq_true, undefA, Bool.not_true, Bool.not_false, fieldAddrA, Nat.zero_add, Nat.add_zero, Nat.reduceAdd, m0, m1, enterS, List.getD_cons_zero, List.getD_cons_succ]
  refine key_at rfl (by omega) ?_
  simp only [go_sem, ↓reduceIte, Nat.reduceEqDiff, and_self, true_and, List.filter_cons, List.filter_nil, Nat.testBit, Nat.reduceShiftRight, Nat.reduceAnd, Nat.reduceBNe, Bool.not_false, Bool.not_true, Bool.false_eq_true, bne_self_eq_false, wanted, decide_true, decide_false, beq_self_eq_true, pickA, show (false == true) = false from rfl, show (true == false) = false from rfl, Bool.false_eq_true, undefA, Bool.not_true, Bool.not_false, fieldAddrA, Nat.zero_add, Nat.add_zero, Nat.reduceAdd, m0, m1, enterS, List.getD_cons_zero, List.getD_cons_succ, m7, m8, m9, m10, m11, m12, c7, c9, c11, c12]
  refine WS_of_ret ?_
  simp only [go_sem, ↓reduceIte, Nat.reduceEqDiff, doormanlaw12_TupleTexts_a]
end Go.Proofs.YtgjcdpanabjcmaaGreatDoor.Ev.C

/- The law TupleOrder, walked. -/
namespace Go.Proofs.YtgjcdpanabjcmaaGreatDoor.Ev.C
open Go Go.Proofs.YtgjcdpanabjcmaaGreatDoor.Ev
set_option linter.unusedSimpArgs false
set_option linter.unusedVariables false
theorem bl_nil (a : T8) : Op.bytesLess a [] = false := by cases a <;> rfl
theorem bl_cons (a b : UInt8) (x y : T8) : Op.bytesLess (a :: x) (b :: y) = (decide (a < b) || (a == b && Op.bytesLess x y)) := rfl
theorem bl_asym : ∀ (a b : T8), Op.bytesLess a b = true → Op.bytesLess b a = false
  | [], [], h => by cases h
  | [], _ :: _, h => rfl
  | _ :: _, [], h => by cases h
  | x :: a, y :: b, h => by
    rw [bl_cons] at h ⊢
    simp only [Bool.or_eq_true, decide_eq_true_eq, Bool.and_eq_true, beq_iff_eq] at h
    simp only [Bool.or_eq_false_iff, decide_eq_false_iff_not, Bool.and_eq_false_iff, beq_eq_false_iff_ne]
    have hlt : ∀ u v : UInt8, u < v ↔ u.toNat < v.toNat := fun u v => UInt8.lt_iff_toNat_lt
    rcases h with h | ⟨rfl, h⟩
    · rw [hlt] at h
      refine ⟨by rw [hlt]; omega, .inl fun e => by rw [e] at h; omega⟩
    · exact ⟨by rw [hlt]; omega, .inr (bl_asym a b h)⟩
theorem bl_tri : ∀ (a b : T8), Op.bytesLess a b = false → Op.bytesLess b a = false → a = b
  | [], [], _, _ => rfl
  | [], _ :: _, h, _ => by cases h
  | _ :: _, [], _, h => by cases h
  | x :: a, y :: b, h, k => by
    rw [bl_cons] at h k
    simp only [Bool.or_eq_false_iff, decide_eq_false_iff_not, Bool.and_eq_false_iff, beq_eq_false_iff_ne] at h k
    have hlt : ∀ u v : UInt8, u < v ↔ u.toNat < v.toNat := fun u v => UInt8.lt_iff_toNat_lt
    have hxy : x = y := by
      apply UInt8.toNat_inj.1
      have h1 := h.1; have k1 := k.1
      rw [hlt] at h1 k1
      omega
    subst hxy
    have h2 : Op.bytesLess a b = false := by rcases h.2 with h2 | h2; exact absurd rfl h2; exact h2
    have k2 : Op.bytesLess b a = false := by rcases k.2 with k2 | k2; exact absurd rfl k2; exact k2
    rw [bl_tri a b h2 k2]
theorem cmpS_lt (a b : T8) : cmpS a b = -1 ↔ Op.bytesLess a b = true := by
  unfold cmpS
  constructor
  · intro h
    split at h
    · assumption
    · split at h <;> cases h
  · intro h; rw [if_pos h]
theorem cmpS_eq (a b : T8) : cmpS a b = 0 ↔ a = b := by
  constructor
  · intro h
    unfold cmpS at h
    split at h
    · cases h
    · rename_i h1
      split at h
      · rename_i h2
        simp only [Bool.or_eq_true, beq_iff_eq] at h2
        rcases h2 with h2 | h2
        · exact absurd h2 h1
        · exact h2
      · cases h
  · rintro rfl; exact cmpS_self a
theorem cmpS_neg (a b : T8) : cmpS b a = -cmpS a b := by
  rcases cmpS_cases a b with h | h | h
  · rw [h]
    have h1 := bl_asym _ _ ((cmpS_lt a b).1 h)
    rcases cmpS_cases b a with k | k | k
    · rw [(cmpS_lt b a).1 k] at h1; cases h1
    · have := (cmpS_eq b a).1 k; subst this; rw [cmpS_self] at h; cases h
    · rw [k]; rfl
  · have := (cmpS_eq a b).1 h; subst this; rw [cmpS_self]; rfl
  · rw [h]
    rcases cmpS_cases b a with k | k | k
    · rw [k]
    · have := (cmpS_eq b a).1 k; subst this; rw [cmpS_self] at h; cases h
    · exfalso
      have h1 : Op.bytesLess a b = false := by
        cases e : Op.bytesLess a b with
        | false => rfl
        | true => rw [(cmpS_lt a b).2 e] at h; cases h
      have k1 : Op.bytesLess b a = false := by
        cases e : Op.bytesLess b a with
        | false => rfl
        | true => rw [(cmpS_lt b a).2 e] at k; cases k
      have := bl_tri a b h1 k1
      subst this; rw [cmpS_self] at h; cases h
theorem cmpL_neg : ∀ (l m : List T8), cmpL m l = -cmpL l m
  | [], [] => rfl
  | [], _ :: _ => rfl
  | _ :: _, [] => rfl
  | a :: l, b :: m => by
    simp only [cmpL]
    rw [cmpS_neg a b, cmpL_neg l m]
    by_cases h : cmpS a b = 0
    · rw [if_pos h, if_pos (by omega)]
    · rw [if_neg h, if_neg (by omega)]
theorem cmpL_cases : ∀ (l m : List T8), cmpL l m = -1 ∨ cmpL l m = 0 ∨ cmpL l m = 1
  | [], [] => .inr (.inl rfl)
  | [], _ :: _ => .inl rfl
  | _ :: _, [] => .inr (.inr rfl)
  | a :: l, b :: m => by
    simp only [cmpL]
    split
    · exact cmpL_cases l m
    · exact cmpS_cases a b
theorem bl_key : ∀ (a b r s : T8), (0 : UInt8) ∉ a → (0 : UInt8) ∉ b → Op.bytesLess (a ++ 0 :: r) (b ++ 0 :: s) = if a = b then Op.bytesLess r s else Op.bytesLess a b
  | [], [], r, s, _, _ => by simp [bl_cons]
  | [], y :: b, r, s, _, hb => by
    have hy : y ≠ 0 := fun e => hb (by simp [e])
    have : (0 : UInt8) < y := by
      rw [UInt8.lt_iff_toNat_lt]
      have : y.toNat ≠ 0 := fun e => hy (UInt8.toNat_inj.1 (by simpa using e))
      simp; omega
    simp [bl_cons, this, Op.bytesLess]
  | x :: a, [], r, s, ha, _ => by
    have hx : x ≠ 0 := fun e => ha (by simp [e])
    have : ¬ x < (0 : UInt8) := by rw [UInt8.lt_iff_toNat_lt]; simp
    simp [bl_cons, this, hx, Op.bytesLess]
  | x :: a, y :: b, r, s, ha, hb => by
    have ih := bl_key a b r s (fun h => ha (by simp [h])) (fun h => hb (by simp [h]))
    simp only [List.cons_append, bl_cons, ih]
    by_cases hxy : x = y
    · subst hxy
      have : ¬ x < x := by rw [UInt8.lt_iff_toNat_lt]; omega
      by_cases hab : a = b
      · simp [hab, this]
      · simp [hab, this]
    · have hb : (x == y) = false := by simpa using hxy
      simp only [hb, Bool.false_and, Bool.or_false]
      rw [if_neg (fun e => hxy (List.cons.inj e).1)]
theorem key_inj {a b r s : T8} (ha : (0 : UInt8) ∉ a) (hb : (0 : UInt8) ∉ b) : a ++ 0 :: r = b ++ 0 :: s ↔ a = b ∧ r = s := by
  constructor
  · intro h
    have := congrArg (fun x => cutS x 0) h
    simp only [cutS_at r ha, cutS_at s hb, Prod.mk.injEq] at this
    exact ⟨this.1, this.2.1⟩
  · rintro ⟨rfl, rfl⟩; rfl
/-- a key of any parts -/
def kj : List T8 → T8
  | [] => []
  | [x] => x
  | x :: y :: r => x ++ 0 :: kj (y :: r)
theorem kj_cmp : ∀ (l m : List T8), l.length = m.length → (∀ x ∈ l, (0 : UInt8) ∉ x) → (∀ x ∈ m, (0 : UInt8) ∉ x) → Op.bytesLess (kj l) (kj m) = decide (cmpL l m < 0) ∧ (kj l = kj m ↔ cmpL l m = 0)
  | [], [], _, _, _ => ⟨rfl, by simp [cmpL]⟩
  | [], _ :: _, h, _, _ => by simp at h
  | _ :: _, [], h, _, _ => by simp at h
  | [x], [y], _, _, _ => by
    have e : cmpL [x] [y] = cmpS x y := by simp only [cmpL]; split <;> simp_all
    rw [e]
    simp only [kj]
    refine ⟨?_, (cmpS_eq x y).symm⟩
    cases h : Op.bytesLess x y with
    | true => rw [(cmpS_lt x y).2 h]; rfl
    | false =>
      symm; rw [decide_eq_false_iff_not]
      rcases cmpS_cases x y with k | k | k
      · rw [(cmpS_lt x y).1 k] at h; cases h
      · omega
      · omega
  | [x], _ :: _ :: _, h, _, _ => by simp at h
  | _ :: _ :: _, [y], h, _, _ => by simp at h
  | x :: x' :: l, y :: y' :: m, h, hl, hm => by
    have ih := kj_cmp (x' :: l) (y' :: m) (by simpa using h) (fun z hz => hl z (by simp [hz])) (fun z hz => hm z (by simp [hz]))
    have hx := hl x (by simp)
    have hy := hm y (by simp)
    have e : cmpL (x :: x' :: l) (y :: y' :: m) = if cmpS x y = 0 then cmpL (x' :: l) (y' :: m) else cmpS x y := rfl
    rw [e]
    simp only [kj]
    rw [bl_key _ _ _ _ hx hy, key_inj hx hy]
    by_cases h0 : x = y
    · rw [if_pos h0, if_pos ((cmpS_eq x y).2 h0)]
      refine ⟨ih.1, ?_⟩
      rw [← ih.2]; simp [h0]
    · have hne : ¬ cmpS x y = 0 := fun k => h0 ((cmpS_eq x y).1 k)
      rw [if_neg h0, if_neg hne]
      refine ⟨?_, by simp [h0, hne]⟩
      cases hb : Op.bytesLess x y with
      | true => rw [(cmpS_lt x y).2 hb]; rfl
      | false =>
        symm; rw [decide_eq_false_iff_not]
        rcases cmpS_cases x y with k | k | k
        · rw [(cmpS_lt x y).1 k] at hb; cases hb
        · omega
        · omega
theorem key_cmp {a b c d e g a' b' c' d' e' g' : T8} (h1 : formedN a b c = true) (h2 : formedN d e g = true) (h3 : formedN a' b' c' = true) (h4 : formedN d' e' g' = true) :
    Op.bytesLess (keyT a b c d e g) (keyT a' b' c' d' e' g') = decide (cmpL [a, b, c, d, e, g] [a', b', c', d', e', g'] < 0) ∧ (keyT a b c d e g = keyT a' b' c' d' e' g' ↔ cmpL [a, b, c, d, e, g] [a', b', c', d', e', g'] = 0) := by
  rw [keyT_eq, keyT_eq]
  have no : ∀ {a b c d e g : T8}, formedN a b c = true → formedN d e g = true → ∀ x ∈ [a, b, c, d, e, g], (0 : UInt8) ∉ x := by
    intro a b c d e g h1 h2 x hx
    obtain ⟨k1, k2, k3⟩ := formedN_parts h1
    obtain ⟨k4, k5, k6⟩ := formedN_parts h2
    simp only [List.mem_cons, List.not_mem_nil, or_false] at hx
    rcases hx with rfl | rfl | rfl | rfl | rfl | rfl
    · exact part_no (.inr k1)
    · exact part_no (.inr k2)
    · exact part_no k3
    · exact part_no (.inr k4)
    · exact part_no (.inr k5)
    · exact part_no k6
  exact kj_cmp [a, b, c, d, e, g] [a', b', c', d', e', g'] rfl (no h1 h2) (no h3 h4)
theorem comp_at {L : List Ovr} {f : Nat} (ho : ovP ov1 L f = some (pureO compF)) {a b c d e g a' b' c' d' e' g' : T8}
    (h1 : a.length < 1000000 ∧ b.length < 1000000 ∧ c.length < 1000000) (h2 : d.length < 1000000 ∧ e.length < 1000000 ∧ g.length < 1000000) (h3 : a'.length < 1000000 ∧ b'.length < 1000000 ∧ c'.length < 1000000) (h4 : d'.length < 1000000 ∧ e'.length < 1000000 ∧ g'.length < 1000000) {h : H} {R : AOut → H → Prop} (hR : R (.val (.int .i64 (cmpL [a, b, c, d, e, g] [a', b', c', d', e', g']))) h) :
    WCall (EL L) f [.agg [.str a, .str b, .str c, .str d, .str e, .str g], .agg [.str a', .str b', .str c', .str d', .str e', .str g']] h R :=
  EL_call ho (by unfold compF tp2F; simp only; rw [if_pos ⟨⟨h1, h2⟩, h3, h4⟩]) hR
theorem order_answer {h : H} (ks : KStart h) (wf : h.Wf) (a b c d e g a' b' c' d' e' g' : T8) : WCall (EL LAll) n_doormanlaw12_TupleOrder [.agg (six a b c d e g), .agg (six a' b' c' d' e' g')] h fun r _ => r = .val (.bool true) := by
  refine WCall_ws ((EL_ov _ _).trans rfl) (EL_T T_doormanlaw12_TupleOrder) (by simp [doormanlaw12_TupleOrder_a]) ?_
  refine WS_of_seq (WS_of_ops ?_)
  simp only [doormanlaw12_TupleOrder_r0, go_sem, ↓reduceIte, Nat.reduceEqDiff, enterS, List.getD_cons_zero, List.getD_cons_succ, AV.cells]
  have b1 := Box.new wf (six a b c d e g)
  have wf1 := wf.new (six a b c d e g)
  have ks1 : KStart (h.new (six a b c d e g)) := ks.keep wf (Keep.new (Nat.le_refl _) _)
  generalize h.new [.str a, .str b, .str c, .str d, .str e, .str g] = g1 at b1 wf1 ks1
  have b2 := Box.new wf1 (six a' b' c' d' e' g')
  have wf2 := wf1.new (six a' b' c' d' e' g')
  have b12 := b1.keep (Keep.new (Nat.le_refl _) (six a' b' c' d' e' g')) (b1.lt wf1)
  have ks2 : KStart (g1.new (six a' b' c' d' e' g')) := ks1.keep wf1 (Keep.new (Nat.le_refl _) _)
  generalize g1.new [.str a', .str b', .str c', .str d', .str e', .str g'] = g2 at b2 wf2 b12 ks2
  refine WS_of_seq (WS_of_ops ?_)
  simp only [doormanlaw12_TupleOrder_r1, go_sem, ↓reduceIte, Nat.reduceEqDiff]
  refine (awakeZ ks2).mono ?_
  rintro _ q ⟨rfl, hq⟩
  obtain rfl : g2 = q := hq.symm
  simp only [go_sem, ↓reduceIte, Nat.reduceEqDiff]
  have la := b12.loadAgg (n := 6) rfl
  have lb := b2.loadAgg (n := 6) rfl
  have la0 : loadA g2 true 3 (.ptr h.n 0) = some (.agg [.str a, .str b, .str c]) := by simp only [loadA, b12.row, if_true]; rfl
  have la3 : loadA g2 true 3 (.ptr h.n 3) = some (.agg [.str d, .str e, .str g]) := by simp only [loadA, b12.row, if_true]; rfl
  have lb0 : loadA g2 true 3 (.ptr g1.n 0) = some (.agg [.str a', .str b', .str c']) := by simp only [loadA, b2.row, if_true]; rfl
  have lb3 : loadA g2 true 3 (.ptr g1.n 3) = some (.agg [.str d', .str e', .str g']) := by simp only [loadA, b2.row, if_true]; rfl
  refine WS_of_seq (WS_of_seq (WS_of_ops ?_))
  simp only [doormanlaw12_TupleOrder_r2, go_sem, ↓reduceIte, Nat.reduceEqDiff, Bool.not_true]
  refine WS_of_cond ?_
  simp only [go_sem, ↓reduceIte, Nat.reduceEqDiff, Bool.false_eq_true]
  refine WS_of_skip ?_
  simp only [go_sem]
  refine WS_of_seq (WS_of_ops ?_)
  simp only [doormanlaw12_TupleOrder_r4, go_sem, ↓reduceIte, Nat.reduceEqDiff, la, enterS, List.getD_cons_zero, List.getD_cons_succ]
  refine few_at rfl ?_
  simp only [go_sem, ↓reduceIte, Nat.reduceEqDiff]
  refine WS_of_seq (WS_of_ops ?_)
  simp only [doormanlaw12_TupleOrder_r5, go_sem, ↓reduceIte, Nat.reduceEqDiff, lb, enterS, List.getD_cons_zero, List.getD_cons_succ]
  refine few_at rfl ?_
  simp only [go_sem, ↓reduceIte, Nat.reduceEqDiff]
  refine WS_of_seq (WS_of_seq (WS_of_ops ?_))
  cases hf : fewB a b c d e g
  · simp only [doormanlaw12_TupleOrder_r6, go_sem, ↓reduceIte, Nat.reduceEqDiff, wanted, decide_true, decide_false, beq_self_eq_true, pickA, show (false == true) = false from rfl, show (true == false) = false from rfl, Bool.false_eq_true, undefA, Bool.not_true, Bool.not_false]
    refine WS_of_cond ?_
    simp only [go_sem, ↓reduceIte, Nat.reduceEqDiff]
    refine WS_of_seq (WS_of_ops ?_)
    simp only [doormanlaw12_TupleOrder_r7, go_sem, ↓reduceIte, Nat.reduceEqDiff]
    refine WS_of_ret ?_
    simp only [go_sem, ↓reduceIte, Nat.reduceEqDiff, doormanlaw12_TupleOrder_a]
  cases hf' : fewB a' b' c' d' e' g'
  · simp only [doormanlaw12_TupleOrder_r6, go_sem, ↓reduceIte, Nat.reduceEqDiff, wanted, decide_true, decide_false, beq_self_eq_true, pickA, show (false == true) = false from rfl, show (true == false) = false from rfl, Bool.false_eq_true, undefA, Bool.not_true, Bool.not_false]
    refine WS_of_cond ?_
    simp only [go_sem, ↓reduceIte, Nat.reduceEqDiff]
    refine WS_of_seq (WS_of_ops ?_)
    simp only [doormanlaw12_TupleOrder_r7, go_sem, ↓reduceIte, Nat.reduceEqDiff]
    refine WS_of_ret ?_
    simp only [go_sem, ↓reduceIte, Nat.reduceEqDiff, doormanlaw12_TupleOrder_a]
  simp only [doormanlaw12_TupleOrder_r6, go_sem, ↓reduceIte, Nat.reduceEqDiff, wanted, decide_true, decide_false, beq_self_eq_true, pickA, show (false == true) = false from rfl, show (true == false) = false from rfl, Bool.false_eq_true, undefA, Bool.not_true, Bool.not_false]
  refine WS_of_cond ?_
  simp only [go_sem, ↓reduceIte, Nat.reduceEqDiff, Bool.false_eq_true]
  refine WS_of_skip ?_
  simp only [go_sem]
  obtain ⟨hl1, hl2⟩ := few_len hf
  obtain ⟨hl3, hl4⟩ := few_len hf'
  have hk1 := key_len hf
  have hk2 := key_len hf'
  refine WS_of_seq (WS_of_ops ?_)
  simp only [doormanlaw12_TupleOrder_r8, go_sem, ↓reduceIte, Nat.reduceEqDiff, la, lb, enterS, List.getD_cons_zero, List.getD_cons_succ]
  refine comp_at rfl (by omega) (by omega) (by omega) (by omega) ?_
  simp only [go_sem, ↓reduceIte, Nat.reduceEqDiff]
  have hneg := cmpL_neg [a, b, c, d, e, g] [a', b', c', d', e', g']
  have hcs := cmpL_cases [a, b, c, d, e, g] [a', b', c', d', e', g']
  have hkc : formedN a b c = true → formedN d e g = true → formedN a' b' c' = true → formedN d' e' g' = true → _ := fun p1 p2 p3 p4 => key_cmp p1 p2 p3 p4
  refine WS_of_seq (WS_of_seq (WS_of_ops ?_))
  simp only [doormanlaw12_TupleOrder_r9, go_sem, ↓reduceIte, Nat.reduceEqDiff, la, lb, enterS, List.getD_cons_zero, List.getD_cons_succ]
  refine comp_at rfl (by omega) (by omega) (by omega) (by omega) ?_
  simp only [go_sem, ↓reduceIte, Nat.reduceEqDiff, wanted, decide_true, decide_false, beq_self_eq_true, pickA, show (false == true) = false from rfl, show (true == false) = false from rfl, Bool.false_eq_true, undefA, Bool.not_true, Bool.not_false, la, lb, enterS, List.getD_cons_zero, List.getD_cons_succ]
  refine comp_at rfl (by omega) (by omega) (by omega) (by omega) ?_
  rw [hneg]
  generalize cmpL [a, b, c, d, e, g] [a', b', c', d', e', g'] = z at hcs hkc
  have hw : IntKind.i64.wrap (0 - z) = -z := by rcases hcs with rfl | rfl | rfl <;> decide
  simp only [go_sem, ↓reduceIte, Nat.reduceEqDiff, wanted, decide_true, decide_false, beq_self_eq_true, pickA, show (false == true) = false from rfl, show (true == false) = false from rfl, Bool.false_eq_true, undefA, Bool.not_true, Bool.not_false, negA, hw]
  refine WS_of_cond ?_
  simp only [go_sem, ↓reduceIte, Nat.reduceEqDiff, Bool.false_eq_true]
  refine WS_of_skip ?_
  simp only [go_sem]
  -- are both well formed?
  refine WS_mid (fun y q => g2 = q ∧ y 2 = .ptr h.n 0 ∧ y 3 = .ptr g1.n 0 ∧ y 8 = .int .i64 z ∧ y 9 = .bool (formedN a b c && formedN d e g)) ?_ ?_
  · refine WS_of_ops ?_
    simp only [doormanlaw12_TupleOrder_r11, go_sem, ↓reduceIte, Nat.reduceEqDiff, fieldAddrA, Nat.zero_add, Nat.add_zero, Nat.reduceAdd, la0, enterS, List.getD_cons_zero, List.getD_cons_succ]
    refine ndF_at (F := fun a b c => .bool (formedN a b c)) rfl (by omega) (by omega) (by omega) ?_
    cases h1 : formedN a b c
    · simp only [go_sem, ↓reduceIte, Nat.reduceEqDiff, wanted, decide_true, decide_false, beq_self_eq_true, pickA, show (false == true) = false from rfl, show (true == false) = false from rfl, Bool.false_eq_true, undefA, Bool.not_true, Bool.not_false]
      refine ⟨trivial, trivial, ?_, ?_, ?_, ?_⟩ <;> first | trivial | rfl
    · simp only [go_sem, ↓reduceIte, Nat.reduceEqDiff, wanted, decide_true, decide_false, beq_self_eq_true, pickA, show (false == true) = false from rfl, show (true == false) = false from rfl, Bool.false_eq_true, undefA, Bool.not_true, Bool.not_false, fieldAddrA, Nat.zero_add, Nat.add_zero, Nat.reduceAdd, la3, enterS, List.getD_cons_zero, List.getD_cons_succ]
      refine ndF_at (F := fun a b c => .bool (formedN a b c)) rfl (by omega) (by omega) (by omega) ?_
      simp only [go_sem, ↓reduceIte, Nat.reduceEqDiff, wanted, decide_true, decide_false, beq_self_eq_true, pickA, show (false == true) = false from rfl, show (true == false) = false from rfl, Bool.false_eq_true, undefA, Bool.not_true, Bool.not_false]
      refine ⟨trivial, trivial, ?_, ?_, ?_, ?_⟩ <;> first | trivial | rfl
  rintro y q ⟨rfl, y2, y3, y8, y9⟩
  refine WS_mid (fun y q => g2 = q ∧ y 2 = .ptr h.n 0 ∧ y 3 = .ptr g1.n 0 ∧ y 8 = .int .i64 z ∧ y 9 = .bool (formedN a b c && formedN d e g) ∧ y 10 = .bool (formedN a' b' c' && formedN d' e' g')) ?_ ?_
  · refine WS_of_ops ?_
    simp only [doormanlaw12_TupleOrder_r12, go_sem, ↓reduceIte, Nat.reduceEqDiff, fieldAddrA, Nat.zero_add, Nat.add_zero, Nat.reduceAdd, y3, lb0, enterS, List.getD_cons_zero, List.getD_cons_succ]
    refine ndF_at (F := fun a b c => .bool (formedN a b c)) rfl (by omega) (by omega) (by omega) ?_
    cases h1 : formedN a' b' c'
    · simp only [go_sem, ↓reduceIte, Nat.reduceEqDiff, wanted, decide_true, decide_false, beq_self_eq_true, pickA, show (false == true) = false from rfl, show (true == false) = false from rfl, Bool.false_eq_true, undefA, Bool.not_true, Bool.not_false]
      refine ⟨trivial, trivial, ?_, ?_, ?_, ?_, ?_⟩ <;> first | trivial | assumption | rfl
    · simp only [go_sem, ↓reduceIte, Nat.reduceEqDiff, wanted, decide_true, decide_false, beq_self_eq_true, pickA, show (false == true) = false from rfl, show (true == false) = false from rfl, Bool.false_eq_true, undefA, Bool.not_true, Bool.not_false, fieldAddrA, Nat.zero_add, Nat.add_zero, Nat.reduceAdd, y3, lb3, enterS, List.getD_cons_zero, List.getD_cons_succ]
      refine ndF_at (F := fun a b c => .bool (formedN a b c)) rfl (by omega) (by omega) (by omega) ?_
      simp only [go_sem, ↓reduceIte, Nat.reduceEqDiff, wanted, decide_true, decide_false, beq_self_eq_true, pickA, show (false == true) = false from rfl, show (true == false) = false from rfl, Bool.false_eq_true, undefA, Bool.not_true, Bool.not_false]
      refine ⟨trivial, trivial, ?_, ?_, ?_, ?_, ?_⟩ <;> first | trivial | assumption | rfl
  clear y2 y3 y8 y9
  rintro y q ⟨rfl, y2, y3, y8, y9, y10⟩
  refine WS_of_seq (WS_of_seq (WS_of_ops ?_))
  cases hp : (formedN a b c && formedN d e g)
  · rw [hp] at y9
    simp only [doormanlaw12_TupleOrder_r13, go_sem, ↓reduceIte, Nat.reduceEqDiff, wanted, decide_true, decide_false, beq_self_eq_true, pickA, show (false == true) = false from rfl, show (true == false) = false from rfl, Bool.false_eq_true, undefA, Bool.not_true, Bool.not_false, y9]
    refine WS_of_cond ?_
    simp only [go_sem, ↓reduceIte, Nat.reduceEqDiff]
    refine WS_of_seq (WS_of_ops ?_)
    simp only [doormanlaw12_TupleOrder_r14, go_sem, ↓reduceIte, Nat.reduceEqDiff]
    refine WS_of_ret ?_
    simp only [go_sem, ↓reduceIte, Nat.reduceEqDiff, doormanlaw12_TupleOrder_a]
  cases hq2 : (formedN a' b' c' && formedN d' e' g')
  · rw [hp] at y9
    rw [hq2] at y10
    simp only [doormanlaw12_TupleOrder_r13, go_sem, ↓reduceIte, Nat.reduceEqDiff, wanted, decide_true, decide_false, beq_self_eq_true, pickA, show (false == true) = false from rfl, show (true == false) = false from rfl, Bool.false_eq_true, undefA, Bool.not_true, Bool.not_false, y9, y10]
    refine WS_of_cond ?_
    simp only [go_sem, ↓reduceIte, Nat.reduceEqDiff]
    refine WS_of_seq (WS_of_ops ?_)
    simp only [doormanlaw12_TupleOrder_r14, go_sem, ↓reduceIte, Nat.reduceEqDiff]
    refine WS_of_ret ?_
    simp only [go_sem, ↓reduceIte, Nat.reduceEqDiff, doormanlaw12_TupleOrder_a]
  rw [hp] at y9
  rw [hq2] at y10
  simp only [Bool.and_eq_true] at hp hq2
  obtain ⟨kc1, kc2⟩ := hkc hp.1 hp.2 hq2.1 hq2.2
  simp only [doormanlaw12_TupleOrder_r13, go_sem, ↓reduceIte, Nat.reduceEqDiff, wanted, decide_true, decide_false, beq_self_eq_true, pickA, show (false == true) = false from rfl, show (true == false) = false from rfl, Bool.false_eq_true, undefA, Bool.not_true, Bool.not_false, y9, y10]
  refine WS_of_cond ?_
  simp only [go_sem, ↓reduceIte, Nat.reduceEqDiff, Bool.false_eq_true]
  refine WS_of_skip ?_
  simp only [go_sem]
  refine WS_of_seq (WS_of_ops ?_)
  simp only [doormanlaw12_TupleOrder_r15, go_sem, ↓reduceIte, Nat.reduceEqDiff, y2, la, enterS, List.getD_cons_zero, List.getD_cons_succ]
  refine key_at rfl (by omega) ?_
  simp only [go_sem, ↓reduceIte, Nat.reduceEqDiff]
  refine WS_of_seq (WS_of_ops ?_)
  simp only [doormanlaw12_TupleOrder_r16, go_sem, ↓reduceIte, Nat.reduceEqDiff, y3, lb, enterS, List.getD_cons_zero, List.getD_cons_succ]
  refine key_at rfl (by omega) ?_
  simp only [go_sem, ↓reduceIte, Nat.reduceEqDiff]
  refine WS_of_seq (WS_of_ops ?_)
  have hlss : binA .lss (.str (keyT a b c d e g)) (.str (keyT a' b' c' d' e' g')) = some (.bool (Op.bytesLess (keyT a b c d e g) (keyT a' b' c' d' e' g'))) := rfl
  rw [kc1] at hlss
  have hdec : decide (keyT a b c d e g = keyT a' b' c' d' e' g') = decide (z = 0) := decide_eq_decide.2 kc2
  have hb1 : ∀ b : Bool, eqA .bool (.bool b) (.bool b) = some true := by intro b; simp [eqA]
  simp only [doormanlaw12_TupleOrder_r17, go_sem, ↓reduceIte, Nat.reduceEqDiff, wanted, decide_true, decide_false, beq_self_eq_true, pickA, show (false == true) = false from rfl, show (true == false) = false from rfl, Bool.false_eq_true, undefA, Bool.not_true, Bool.not_false, y8, hlss, hdec, hb1]
  refine WS_of_ret ?_
  simp only [go_sem, ↓reduceIte, Nat.reduceEqDiff, doormanlaw12_TupleOrder_a]
end Go.Proofs.YtgjcdpanabjcmaaGreatDoor.Ev.C

/- The answer of the law TupleOrder, for every input: over the interpreter. -/
namespace Go.Proofs.YtgjcdpanabjcmaaGreatDoor
open Go Go.Proofs.YtgjcdpanabjcmaaGreatDoor.Ev
set_option linter.unusedVariables false
theorem tupleOrder_answer {u0 u1 : List AV} {h : H} (z0 z1 : C.Tp) (ks : C.KStart h) (wf : h.Wf) (s0 : u0 = C.tpC z0) (s1 : u1 = C.tpC z1) :
    WCall (env C.PP C.ovZ) C.n_doormanlaw12_TupleOrder [.agg u0, .agg u1] h fun r _ => r = .val (.bool true) := by
  subst s0
  subst s1
  rw [← C.EL_env]
  exact C.order_answer ks wf _ _ _ _ _ _ _ _ _ _ _ _
end Go.Proofs.YtgjcdpanabjcmaaGreatDoor

/- The law TupleOrder holds for every input: its call returns true, on every tape. Conditions: none but those of the given statement itself (arguments of the types of its parameters). -/
namespace Go.Proofs.YtgjcdpanabjcmaaGreatDoor.tupleOrder
open Go.ChangeShapes Go.WideShapes Go.ChangeAt Go.RowKit Go.Proofs.YtgjcdpanabjcmaaGreatDoor.Ev
open Go.ChangeMaps (open_string shut_string)
set_option linter.unusedVariables false
theorem own : ownKnob Tryz.prog.godebug = none := by kernel_rfl
theorem laidOut : laidOutB Tryz.prog = true := by kernel_rfl
theorem gKeys : Tryz.prog.globalNamed "doorman/token.keys" = some Go.Proofs.YtgjcdpanabjcmaaGreatDoor.Ev.C.g_token_keys := by kernel_rfl
theorem gType : (Tryz.prog.globals[Go.Proofs.YtgjcdpanabjcmaaGreatDoor.Ev.C.g_token_keys]?).map (·.type) = some 41 := by kernel_rfl
/-- a world that holds the list and the tables -/
noncomputable def laidWorld (os : Os) : World :=
  let N := (World.settled Tryz.prog os).heap.size
  let w0 := World.holding Tryz.prog os ⟨#[.cells #[.string ⟨#[116, 121, 112, 101]⟩, .string ⟨#[114, 101, 108]⟩, .string ⟨#[105, 115]⟩, .string ⟨#[116, 104, 105, 115]⟩] 9], #[], []⟩
  let put (h : Array Obj) (g : Nat) (cs : Array Value) : Array Obj := h.modify g fun
      | .cells _ t frozen => .cells cs t frozen
      | o => o
  let h1 := put w0.heap Go.Proofs.YtgjcdpanabjcmaaGreatDoor.Ev.C.g_token_keys #[.slice (some ⟨N, 0, none⟩) 4 4]
  let h2 := put h1 Go.Proofs.YtgjcdpanabjcmaaGreatDoor.Ev.C.g_utf8_first (Lib.firstTab.map fun z => Value.int .u8 z).toArray
  let h3 := put h2 Go.Proofs.YtgjcdpanabjcmaaGreatDoor.Ev.C.g_utf8_acceptRanges ((List.range 16).flatMap fun i => [Value.int .u8 (Lib.accLo i), Value.int .u8 (Lib.accHi i)]).toArray
  { w0 with heap := h3 }
set_option maxRecDepth 100000 in
theorem laid_met (os : Os) : laidMet Tryz.prog Rows.tupleOrderRow.laid ((laidWorld os).forCall (fun _ _ => 0) ⟨#[], #[.agg #[.string ByteArray.empty, .string ByteArray.empty, .string ByteArray.empty, .string ByteArray.empty, .string ByteArray.empty, .string ByteArray.empty], .agg #[.string ByteArray.empty, .string ByteArray.empty, .string ByteArray.empty, .string ByteArray.empty, .string ByteArray.empty, .string ByteArray.empty]], []⟩).memory :=
  (LaidIn.of_run (l := Rows.tupleOrderRow.laid) [Go.Proofs.YtgjcdpanabjcmaaGreatDoor.Ev.C.g_token_keys, Go.Proofs.YtgjcdpanabjcmaaGreatDoor.Ev.C.g_utf8_first, Go.Proofs.YtgjcdpanabjcmaaGreatDoor.Ev.C.g_utf8_acceptRanges, (World.settled Tryz.prog os).heap.size] 8 (by kernel_rfl) (by kernel_rfl) (by kernel_rfl) (by kernel_rfl)).met
set_option maxRecDepth 100000 in
theorem reads (os : Os) {H : Type} (enc : TypeId × Value → H) : ∃ places, DataW.whole enc Tryz.prog ((laidWorld os).forCall (fun _ _ => 0) ⟨#[], #[.agg #[.string ByteArray.empty, .string ByteArray.empty, .string ByteArray.empty, .string ByteArray.empty, .string ByteArray.empty, .string ByteArray.empty], .agg #[.string ByteArray.empty, .string ByteArray.empty, .string ByteArray.empty, .string ByteArray.empty, .string ByteArray.empty, .string ByteArray.empty]], []⟩).memory Tryz.f5.params.toList Rows.tupleOrderSpec.vars false (#[.agg #[.string ByteArray.empty, .string ByteArray.empty, .string ByteArray.empty, .string ByteArray.empty, .string ByteArray.empty, .string ByteArray.empty], .agg #[.string ByteArray.empty, .string ByteArray.empty, .string ByteArray.empty, .string ByteArray.empty, .string ByteArray.empty, .string ByteArray.empty]] : Array Value).toList 8 = some ([.agg [.agg [.lit (.string []), .lit (.string []), .lit (.string [])], .agg [.lit (.string []), .lit (.string []), .lit (.string [])]], .agg [.agg [.lit (.string []), .lit (.string []), .lit (.string [])], .agg [.lit (.string []), .lit (.string []), .lit (.string [])]]], [], places) := by
  have hw : (DataW.whole enc Tryz.prog ((laidWorld os).forCall (fun _ _ => 0) ⟨#[], #[.agg #[.string ByteArray.empty, .string ByteArray.empty, .string ByteArray.empty, .string ByteArray.empty, .string ByteArray.empty, .string ByteArray.empty], .agg #[.string ByteArray.empty, .string ByteArray.empty, .string ByteArray.empty, .string ByteArray.empty, .string ByteArray.empty, .string ByteArray.empty]], []⟩).memory Tryz.f5.params.toList Rows.tupleOrderSpec.vars false (#[.agg #[.string ByteArray.empty, .string ByteArray.empty, .string ByteArray.empty, .string ByteArray.empty, .string ByteArray.empty, .string ByteArray.empty], .agg #[.string ByteArray.empty, .string ByteArray.empty, .string ByteArray.empty, .string ByteArray.empty, .string ByteArray.empty, .string ByteArray.empty]] : Array Value).toList 8).map (fun x => (x.1, x.2.1)) = some ([.agg [.agg [.lit (.string []), .lit (.string []), .lit (.string [])], .agg [.lit (.string []), .lit (.string []), .lit (.string [])]], .agg [.agg [.lit (.string []), .lit (.string []), .lit (.string [])], .agg [.lit (.string []), .lit (.string []), .lit (.string [])]]], []) := by kernel_rfl
  obtain ⟨⟨x1, x2, x3⟩, hx, hx1⟩ := Option.map_eq_some_iff.1 hw
  simp only [Prod.mk.injEq] at hx1
  obtain ⟨rfl, rfl⟩ := hx1
  exact ⟨x3, hx⟩
set_option maxRecDepth 100000 in
theorem lifted (os : Os) (started : os.Started) (H : Type) (enc : TypeId × Value → H) (F : Stop.Interp) :
    ReturnsInHanded {} Tryz.checked os 5 .any ((OpenSpec.ofChange Rows.tupleOrderSpec).preRow enc Tryz.prog Tryz.f5 Rows.tupleOrderRow.domain false Rows.tupleOrderRow.laid) (((OpenSpec.ofChange Rows.tupleOrderSpec).at F).post enc Tryz.prog Tryz.f5 false true false false) := by
  obtain ⟨places, hx⟩ := reads os enc
  refine returnsInHanded_of_row (C := Tryz.checked) (s := OpenSpec.ofChange Rows.tupleOrderSpec) own started (by kernel_rfl) Tryz.func5
    (witness_row_atRef (enc := enc) (C := Tryz.checked) false (laidWorld os) #[.agg #[.string ByteArray.empty, .string ByteArray.empty, .string ByteArray.empty, .string ByteArray.empty, .string ByteArray.empty, .string ByteArray.empty], .agg #[.string ByteArray.empty, .string ByteArray.empty, .string ByteArray.empty, .string ByteArray.empty, .string ByteArray.empty, .string ByteArray.empty]] rfl (by kernel_rfl) (by kernel_rfl) (by kernel_rfl)
      (OpenSpec.preRow_of_cond 8 hx (by kernel_rfl) (fun k hk => by cases hk) (by kernel_rfl) (laid_met os))) ?_
  intro W base args ds gs before hval0 hW hcnd _ hsz0 hL _ _
  have hsz : (DataW.weightsEach Tryz.prog (Tryz.f5.params.toList ++ Rows.tupleOrderSpec.plain.varTypes Tryz.prog) (ds ++ gs)).all (· ≤ reachBytes) = true := hsz0
  have hval : ∀ (j : Nat) t v, Tryz.f5.params[j]? = some t → args[j]? = some v → Value.okWide Tryz.prog W .any base t v := hval0
  have hW' := hW
  obtain ⟨p, q, hA0, hV, rfl, hfz, hnd⟩ := hW
  have hA : DataW.TrodAll enc Tryz.prog W 0 (fun _ => true) true Tryz.f5.params.toList args.toList ds p := hA0
  rw [Tryz.params5] at hA hval hsz
  obtain ⟨v0, vs0, d0, ds0, p0, q0, hargs, rfl, rfl, h0, r0⟩ := trodAll_cons hA
  obtain ⟨v1, vs1, d1, ds1, p1, q1, rfl, rfl, rfl, h1, r1⟩ := trodAll_cons r0
  obtain ⟨rfl, rfl, rfl⟩ := trodAll_nil r1
  obtain rfl : args = #[v0, v1] := by cases args; simp_all
  obtain ⟨rfl, rfl⟩ := trodVars_none hV
  obtain ⟨m0, hp0, R0, ks0⟩ : ∃ m h, Rel Tryz.prog W.heap.size m h W ∧ Go.Proofs.YtgjcdpanabjcmaaGreatDoor.Ev.C.KStart h := by
    obtain ⟨mS, hr⟩ := start_laid2 (P := Tryz.prog) (W := W) (name := "doorman/token.keys") (l := Go.Proofs.YtgjcdpanabjcmaaGreatDoor.Ev.C.keysL) hL gKeys gType Tryz.underlying41 (Tryz.underlying9) (by kernel_rfl) (by decide)
    exact ⟨mS, _, hr, StartG.hg _ _ _⟩
  have hpos : 0 < W.heap.size := Nat.lt_of_le_of_lt (Nat.zero_le _) (R0.gb ks0.glob).1
  have k0 := h0
  have lt0 : ∀ x ∈ p0, x.block < W.heap.size := by obtain ⟨m, hm⟩ := k0; exact DataW.trod_lt m _ _ _ hm
  obtain ⟨m1, hp1, u0, z0, R1, l0, K0, V0, S0⟩ := opensTuple.agg Tryz.underlying25 (hval 0 25 v0 rfl rfl) h0 hpos R0
  have k1 := h1
  have lt1 : ∀ x ∈ p1, x.block < W.heap.size := by obtain ⟨m, hm⟩ := k1; exact DataW.trod_lt m _ _ _ hm
  obtain ⟨m2, hp2, u1, z1, R2, l1, K1, V1, S1⟩ := opensTuple.agg Tryz.underlying25 (hval 1 25 v1 rfl rfl) h1 hpos R1
  clear hA0 hval0 hsz0 hsz
  refine (law_calls (P := Tryz.prog) (ov := Go.Proofs.YtgjcdpanabjcmaaGreatDoor.Ev.C.ovZ) (Tryz.checked).mixed Go.Proofs.YtgjcdpanabjcmaaGreatDoor.Ev.C.ovZ_ok Tryz.func5 (by decide +kernel) (by kernel_rfl) R2 (.cons (VRel.mono l1 V0) (.cons V1 .nil)) (tupleOrder_answer z0 z1 ((ks0.keep R0.wf K0).keep R1.wf K1) R2.wf (opensTuple.stab _ _ _ _ S0 K1) S1)).mono fun e W' ⟨he, bel⟩ => ?_
  subst he
  exact ⟨_, rfl, _, _, _, [], _, [], hW', trodAll_mk1 (shut_bool Tryz.underlying4 _), (trodAll_cons_mk (Below.trod laidOut (by kernel_rfl) (of_decide_eq_true (by kernel_rfl)) k0 bel lt0) (trodAll_cons_mk (Below.trod laidOut (by kernel_rfl) (of_decide_eq_true (by kernel_rfl)) k1 bel lt1) trodAll_mk0)), rfl, bel.frame _, fun h => by cases h⟩
theorem said : Rows.TupleOrderSaid :=
  OpenClaim.holds_of_cond 5 Tryz.f5 rfl rfl rfl rfl rfl rfl rfl ⟨rfl, rfl, rfl, rfl, rfl⟩ rfl rfl rfl rfl rfl (by kernel_rfl) Tryz.func5 (by kernel_rfl)
    (of_decide_eq_true (by kernel_rfl)) (by unfold Func.isWrapper; first | (rw [if_pos (by decide +kernel)]; kernel_rfl) | (rw [if_neg (by decide +kernel)]; exact ⟨rfl, rfl⟩))
    (fun os started H enc _ F => by rw [OpenClaim.pre_eq_preRow]; exact lifted os started H enc F)
theorem plain (f : FuncId) (fn : Func) (hf : Tryz.pinned.checked.prog.funcNamed "doorman/doormanlaw12.TupleOrder" = some f) (hfn : Tryz.pinned.checked.prog.funcs[f]? = some fn) :
    true = Tryz.pinned.checked.prog.looks [] ∧ ∀ (j : Nat) t, fn.params[j]? = some t → Tryz.pinned.checked.prog.wantsStandIn t = false := by
  obtain rfl : f = 5 := Option.some.inj ((show Tryz.prog.funcNamed "doorman/doormanlaw12.TupleOrder" = some 5 by kernel_rfl).symm.trans hf) |>.symm
  obtain rfl : fn = Tryz.f5 := (Option.some.inj (Tryz.func5.symm.trans hfn)).symm
  refine ⟨by kernel_rfl, fun j t ht => ?_⟩
  rw [Tryz.params5] at ht
  have hm : t ∈ #[25, 25] := Array.mem_of_getElem? ht
  simp only [List.mem_toArray, List.mem_cons, List.not_mem_nil, or_false] at hm
  rcases hm with rfl | rfl
  · exact (show Tryz.prog.wantsStandIn 25 = false by kernel_rfl)
  · exact (show Tryz.prog.wantsStandIn 25 = false by kernel_rfl)
theorem card : Rows.TupleOrderCardSaid :=
  Claim7.holds_tied_plain_at .later [] _ _ _ _ said (fun _ h => by cases h) (by kernel_rfl) (fun _ h => by cases h) tupleOrder_row_tie rfl ⟨rfl, rfl⟩ (by kernel_rfl) rfl plain (by kernel_rfl)
end Go.Proofs.YtgjcdpanabjcmaaGreatDoor.tupleOrder
namespace Go.Proofs.YtgjcdpanabjcmaaGreatDoor
theorem tupleOrder_holds : Rows.TupleOrderCardSaid := tupleOrder.card
end Go.Proofs.YtgjcdpanabjcmaaGreatDoor

