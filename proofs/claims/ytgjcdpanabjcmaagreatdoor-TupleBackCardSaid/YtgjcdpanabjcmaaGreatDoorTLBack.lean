/- The law TupleTexts, walked. -/
import Derived.Test.YtgjcdpanabjcmaaGreatDoorTV
import Derived.Test.YtgjcdpanabjcmaaGreatDoorTAwake
import Derived.Test.YtgjcdpanabjcmaaGreatDoorCards
import Derived.Test.YtgjcdpanabjcmaaGreatDoorTie
import Derived.WalkKit
import Derived.ProofKit
import Derived.OpenShut
import Derived.ShutString
import Derived.ChangeOld
import Derived.Below
import Derived.SizedLaws
import Derived.Deep.DeepHandedRow
import Derived.Deep.DeepWitnessRowRef
import Derived.Lib.LaidTab
import Derived.Lib.LaidIn
import Derived.Lib.LaidU8
namespace Go.Proofs.YtgjcdpanabjcmaaGreatDoor.Ev.C
open Go Go.Proofs.YtgjcdpanabjcmaaGreatDoor.Ev
set_option linter.unusedSimpArgs false
set_option linter.unusedVariables false
theorem parseV_parts (s : T8) : ∃ (t : Tp) (e : Int), parseV s = .tup [.agg (six t.1.1 t.1.2.1 t.1.2.2 t.2.1 t.2.2.1 t.2.2.2), .int .i64 e] ∧ ((parseN s = some t ∧ e = 0) ∨ (parseN s = none ∧ t = noT ∧ e = 11)) := by
  unfold parseV
  cases hN : parseN s with
  | none => exact ⟨noT, 11, rfl, .inr ⟨rfl, rfl, rfl⟩⟩
  | some t => exact ⟨t, 0, rfl, .inl ⟨rfl, rfl⟩⟩
theorem fromN_len {s : T8} {p : List T8} (h : fromN s = some p) : p.length = 6 := by
  unfold fromN at h
  split at h
  · cases h; exact pad6_len _
  · cases h
theorem fromV_parts (s : T8) : ∃ (a b c d e g : T8) (f : Bool), fromV s = .tup [.agg (six a b c d e g), .bool f] ∧ ((fromN s = some [a, b, c, d, e, g] ∧ f = true) ∨ (fromN s = none ∧ f = false ∧ [a, b, c, d, e, g] = [[], [], [], [], [], []])) := by
  unfold fromV
  cases hN : fromN s with
  | none => exact ⟨[], [], [], [], [], [], false, rfl, .inr ⟨rfl, rfl, rfl⟩⟩
  | some p =>
    obtain ⟨a, b, c, d, e, g, rfl⟩ := list6 (fromN_len hN)
    exact ⟨a, b, c, d, e, g, true, rfl, .inl ⟨rfl, rfl⟩⟩
theorem few_len {a b c d e g : T8} (h : fewB a b c d e g = true) : (a.length ≤ 120 ∧ b.length ≤ 120 ∧ c.length ≤ 120) ∧ d.length ≤ 120 ∧ e.length ≤ 120 ∧ g.length ≤ 120 := by
  simp [fewB] at h; omega
theorem eq3 (l m : List T8) (hl : l.length = 3) (hm : m.length = 3) : eqA (.flatK [.s, .s, .s]) (.agg (strCells l)) (.agg (strCells m)) = some (decide (l = m)) := by
  have := flatEqS l m (by omega)
  rw [show l.map (fun _ => FK.s) = [.s, .s, .s] from by
    match l, hl with
    | [_, _, _], _ => rfl] at this
  exact this
theorem eq6 (l m : List T8) (hl : l.length = 6) (hm : m.length = 6) : eqA (.flatK [.s, .s, .s, .s, .s, .s]) (.agg (strCells l)) (.agg (strCells m)) = some (decide (l = m)) := by
  have := flatEqS l m (by omega)
  rw [show l.map (fun _ => FK.s) = [.s, .s, .s, .s, .s, .s] from by
    match l, hl with
    | [_, _, _, _, _, _], _ => rfl] at this
  exact this
theorem few_at {L : List Ovr} (ho : ovP ov1 L n_doormanlaw12_few = some (pureO fewF)) {a b c d e g : T8} {h : H} {R : AOut → H → Prop} (hR : R (.val (.bool (fewB a b c d e g))) h) : WCall (EL L) n_doormanlaw12_few [.agg [.str a, .str b, .str c, .str d, .str e, .str g]] h R :=
  EL_call ho rfl hR
theorem key_len {a b c d e g : T8} (h : fewB a b c d e g = true) : (keyT a b c d e g).length ≤ 725 := by
  have := few_len h
  rw [keyT_eq]; simp; omega
theorem text_len {a b c d e g : T8} (h : fewB a b c d e g = true) : (textT a b c d e g).length ≤ 1000 := by
  have := few_len h
  unfold textT showN
  repeat' split
  all_goals simp
  all_goals omega
theorem texts_answer {h : H} (ks : KStart h) (wf : h.Wf) (a b c d e g s : T8) : WCall (EL LAll) n_doormanlaw12_TupleTexts [.agg (six a b c d e g), .str s] h fun r _ => r = .val (.bool true) := by
  refine WCall_ws ((EL_ov _ _).trans rfl) (EL_T T_doormanlaw12_TupleTexts) (by simp [doormanlaw12_TupleTexts_a]) ?_
  refine WS_of_seq (WS_of_ops ?_)
  simp only [doormanlaw12_TupleTexts_r0, go_sem, ↓reduceIte, Nat.reduceEqDiff, enterS, List.getD_cons_zero, List.getD_cons_succ, AV.cells]
  have b1 := Box.new wf (six a b c d e g)
  have wf1 := wf.new (six a b c d e g)
  have ks1 : KStart (h.new (six a b c d e g)) := ks.keep wf (Keep.new (Nat.le_refl _) _)
  generalize h.new [.str a, .str b, .str c, .str d, .str e, .str g] = g1 at b1 wf1 ks1
  refine WS_of_seq (WS_of_ops ?_)
  simp only [doormanlaw12_TupleTexts_r1, go_sem, ↓reduceIte, Nat.reduceEqDiff]
  refine (awakeZ ks1).mono ?_
  rintro _ _ ⟨rfl, rfl⟩
  simp only [go_sem, ↓reduceIte, Nat.reduceEqDiff]
  refine WS_of_seq (WS_of_seq (WS_of_ops ?_))
  simp only [doormanlaw12_TupleTexts_r2, go_sem, ↓reduceIte, Nat.reduceEqDiff, Bool.not_true]
  refine WS_of_cond ?_
  simp only [go_sem, ↓reduceIte, Nat.reduceEqDiff, Bool.false_eq_true]
  refine WS_of_skip ?_
  simp only [go_sem]
  refine WS_of_seq (WS_of_ops ?_)
  simp only [doormanlaw12_TupleTexts_r4, go_sem, ↓reduceIte, Nat.reduceEqDiff, b1.loadAgg (n := 6) rfl, enterS, List.getD_cons_zero, List.getD_cons_succ]
  refine few_at rfl ?_
  simp only [go_sem, ↓reduceIte, Nat.reduceEqDiff]
  refine WS_of_seq (WS_of_seq (WS_of_ops ?_))
  cases hf : fewB a b c d e g
  · simp only [doormanlaw12_TupleTexts_r5, go_sem, ↓reduceIte, Nat.reduceEqDiff, wanted, decide_true, decide_false, beq_self_eq_true, pickA, show (false == true) = false from rfl, show (true == false) = false from rfl, Bool.false_eq_true, undefA, Bool.not_true, Bool.not_false]
    refine WS_of_cond ?_
    simp only [go_sem, ↓reduceIte, Nat.reduceEqDiff]
    refine WS_of_seq (WS_of_ops ?_)
    simp only [doormanlaw12_TupleTexts_r6, go_sem, ↓reduceIte, Nat.reduceEqDiff]
    refine WS_of_ret ?_
    simp only [go_sem, ↓reduceIte, Nat.reduceEqDiff, doormanlaw12_TupleTexts_a]
  by_cases hs : s.length ≤ 300
  case neg =>
    have hs' : (300 : Int) < (s.length : Int) := by omega
    simp only [doormanlaw12_TupleTexts_r5, go_sem, ↓reduceIte, Nat.reduceEqDiff, wanted, decide_true, decide_false, beq_self_eq_true, pickA, show (false == true) = false from rfl, show (true == false) = false from rfl, Bool.false_eq_true, undefA, Bool.not_true, Bool.not_false, enterS, List.getD_cons_zero, List.getD_cons_succ, lenTA, Option.map_some, hs']
    refine WS_of_cond ?_
    simp only [go_sem, ↓reduceIte, Nat.reduceEqDiff]
    refine WS_of_seq (WS_of_ops ?_)
    simp only [doormanlaw12_TupleTexts_r6, go_sem, ↓reduceIte, Nat.reduceEqDiff]
    refine WS_of_ret ?_
    simp only [go_sem, ↓reduceIte, Nat.reduceEqDiff, doormanlaw12_TupleTexts_a]
  have hs' : ¬ (300 : Int) < (s.length : Int) := by omega
  simp only [doormanlaw12_TupleTexts_r5, go_sem, ↓reduceIte, Nat.reduceEqDiff, wanted, decide_true, decide_false, beq_self_eq_true, pickA, show (false == true) = false from rfl, show (true == false) = false from rfl, Bool.false_eq_true, undefA, Bool.not_true, Bool.not_false, enterS, List.getD_cons_zero, List.getD_cons_succ, lenTA, Option.map_some, hs']
  refine WS_of_cond ?_
  simp only [go_sem, ↓reduceIte, Nat.reduceEqDiff, Bool.false_eq_true]
  refine WS_of_skip ?_
  simp only [go_sem]
  obtain ⟨hl1, hl2⟩ := few_len hf
  have hkl := key_len hf
  obtain ⟨n, ne, en, ln, _⟩ := readV_parts s (by omega)
  obtain ⟨t, te, et, _⟩ := parseV_parts s
  obtain ⟨fa, fb, fc, fd, fe, fg, ff, ef, _⟩ := fromV_parts s
  have ef' := from_same s
  rw [ef] at ef'
  obtain ⟨q7, e7, x7, w7, k7⟩ := Box.newPut wf1 (z := [.str [], .str [], .str []]) (vs := [.str n.1, .str n.2.1, .str n.2.2]) (n := 3) rfl rfl rfl
  have b1' := b1.keep k7 (b1.lt wf1)
  refine WS_of_seq (WS_of_ops ?_)
  simp only [doormanlaw12_TupleTexts_r7, go_sem, ↓reduceIte, Nat.reduceEqDiff, enterS, List.getD_cons_zero, List.getD_cons_succ]
  refine tx6F_at (F := readV) rfl (by omega) ?_
  rw [en]
  simp only [go_sem, ↓reduceIte, Nat.reduceEqDiff, extractA, List.getElem?_cons_zero, List.getElem?_cons_succ, e7]
  obtain ⟨q8, e8, x8, w8, k8⟩ := Box.newPut w7 (z := [.str [], .str [], .str []]) (vs := [.str n.1, .str n.2.1, .str n.2.2]) (n := 3) rfl rfl rfl
  have b1'' := b1'.keep k8 (b1'.lt w7)
  have x7' := x7.keep k8 (x7.lt w7)
  refine WS_of_seq (WS_of_ops ?_)
  simp only [doormanlaw12_TupleTexts_r8, go_sem, ↓reduceIte, Nat.reduceEqDiff, enterS, List.getD_cons_zero, List.getD_cons_succ]
  refine tx6F_at (F := readV) rfl (by omega) ?_
  rw [en]
  simp only [go_sem, ↓reduceIte, Nat.reduceEqDiff, extractA, List.getElem?_cons_zero, List.getElem?_cons_succ, e8]
  obtain ⟨q9, e9, x9, w9, k9⟩ := Box.newPut w8 (z := six [] [] [] [] [] []) (vs := six t.1.1 t.1.2.1 t.1.2.2 t.2.1 t.2.2.1 t.2.2.2) (n := 6) rfl rfl rfl
  have b1''' := b1''.keep k9 (b1''.lt w8)
  have x7'' := x7'.keep k9 (x7'.lt w8)
  have x8' := x8.keep k9 (x8.lt w8)
  refine WS_of_seq (WS_of_ops ?_)
  simp only [doormanlaw12_TupleTexts_r9, go_sem, ↓reduceIte, Nat.reduceEqDiff, enterS, List.getD_cons_zero, List.getD_cons_succ]
  refine tx6F_at (F := parseV) rfl (by omega) ?_
  rw [et]
  simp only [go_sem, ↓reduceIte, Nat.reduceEqDiff, extractA, List.getElem?_cons_zero, List.getElem?_cons_succ, e9]
  obtain ⟨q10, e10, x10, w10, k10⟩ := Box.newPut w9 (z := six [] [] [] [] [] []) (vs := six t.1.1 t.1.2.1 t.1.2.2 t.2.1 t.2.2.1 t.2.2.2) (n := 6) rfl rfl rfl
  have b1'''' := b1'''.keep k10 (b1'''.lt w9)
  have x7''' := x7''.keep k10 (x7''.lt w9)
  have x8'' := x8'.keep k10 (x8'.lt w9)
  have x9' := x9.keep k10 (x9.lt w9)
  refine WS_of_seq (WS_of_ops ?_)
  simp only [doormanlaw12_TupleTexts_r10, go_sem, ↓reduceIte, Nat.reduceEqDiff, enterS, List.getD_cons_zero, List.getD_cons_succ]
  refine tx6F_at (F := parseV) rfl (by omega) ?_
  rw [et]
  simp only [go_sem, ↓reduceIte, Nat.reduceEqDiff, extractA, List.getElem?_cons_zero, List.getElem?_cons_succ, e10]
  obtain ⟨q11, e11, x11, w11, k11⟩ := Box.newPut w10 (z := six [] [] [] [] [] []) (vs := six fa fb fc fd fe fg) (n := 6) rfl rfl rfl
  have b1''''' := b1''''.keep k11 (b1''''.lt w10)
  have x7'''' := x7'''.keep k11 (x7'''.lt w10)
  have x8''' := x8''.keep k11 (x8''.lt w10)
  have x9'' := x9'.keep k11 (x9'.lt w10)
  have x10' := x10.keep k11 (x10.lt w10)
  refine WS_of_seq (WS_of_ops ?_)
  simp only [doormanlaw12_TupleTexts_r11, go_sem, ↓reduceIte, Nat.reduceEqDiff, enterS, List.getD_cons_zero, List.getD_cons_succ]
  refine tx5F_at (F := fromV) rfl (by omega) ?_
  rw [ef]
  simp only [go_sem, ↓reduceIte, Nat.reduceEqDiff, extractA, List.getElem?_cons_zero, List.getElem?_cons_succ, e11]
  obtain ⟨q12, e12, x12, w12, k12⟩ := Box.newPut w11 (z := six [] [] [] [] [] []) (vs := six fa fb fc fd fe fg) (n := 6) rfl rfl rfl
  have b1'''''' := b1'''''.keep k12 (b1'''''.lt w11)
  have x7''''' := x7''''.keep k12 (x7''''.lt w11)
  have x8'''' := x8'''.keep k12 (x8'''.lt w11)
  have x9''' := x9''.keep k12 (x9''.lt w11)
  have x10'' := x10'.keep k12 (x10'.lt w11)
  have x11' := x11.keep k12 (x11.lt w11)
  refine WS_of_seq (WS_of_ops ?_)
  simp only [doormanlaw12_TupleTexts_r12, go_sem, ↓reduceIte, Nat.reduceEqDiff, enterS, List.getD_cons_zero, List.getD_cons_succ]
  refine tx5F_at (F := rfromV) rfl (by omega) ?_
  rw [← ef']
  simp only [go_sem, ↓reduceIte, Nat.reduceEqDiff, extractA, List.getElem?_cons_zero, List.getElem?_cons_succ, e12]
  have m0 : loadA q12 true 3 (.ptr h.n 0) = some (.agg [.str a, .str b, .str c]) := by simp only [loadA, b1''''''.row, if_true]; rfl
  have m1 := b1''''''.loadAgg (n := 6) rfl
  have m7 := x7'''''.loadAgg (n := 3) rfl
  have m8 := x8''''.loadAgg (n := 3) rfl
  have m9 := x9'''.loadAgg (n := 6) rfl
  have m10 := x10''.loadAgg (n := 6) rfl
  have m11 := x11'.loadAgg (n := 6) rfl
  have m12 := x12.loadAgg (n := 6) rfl
  have c7 : eqA (.flatK [.s, .s, .s]) (.agg [.str n.1, .str n.2.1, .str n.2.2]) (.agg [.str n.1, .str n.2.1, .str n.2.2]) = some true := (eq3 [n.1, n.2.1, n.2.2] [n.1, n.2.1, n.2.2] rfl rfl).trans (by simp)
  have c9 : eqA (.flatK [.s, .s, .s, .s, .s, .s]) (.agg (six t.1.1 t.1.2.1 t.1.2.2 t.2.1 t.2.2.1 t.2.2.2)) (.agg (six t.1.1 t.1.2.1 t.1.2.2 t.2.1 t.2.2.1 t.2.2.2)) = some true := (eq6 [t.1.1, t.1.2.1, t.1.2.2, t.2.1, t.2.2.1, t.2.2.2] [t.1.1, t.1.2.1, t.1.2.2, t.2.1, t.2.2.1, t.2.2.2] rfl rfl).trans (by simp)
  have c11 : eqA (.flatK [.s, .s, .s, .s, .s, .s]) (.agg (six fa fb fc fd fe fg)) (.agg (six fa fb fc fd fe fg)) = some true := (eq6 [fa, fb, fc, fd, fe, fg] [fa, fb, fc, fd, fe, fg] rfl rfl).trans (by simp)
  have c12 : eqA .bool (.bool ff) (.bool ff) = some true := by simp [eqA]
  refine WS_of_seq (WS_of_draw ?_)
  simp only [doormanlaw12_TupleTexts_r13, go_sem, ↓reduceIte, Nat.reduceEqDiff, and_self, true_and, List.filter_cons, List.filter_nil, Nat.testBit, Nat.reduceShiftRight, Nat.reduceAnd, Nat.reduceBNe, Bool.not_false, Bool.not_true, Bool.false_eq_true, bne_self_eq_false, wanted, fieldAddrA, Nat.zero_add, Nat.add_zero, Nat.reduceAdd, m0, enterS, List.getD_cons_zero, List.getD_cons_succ]
  refine ndF_at (F := fun a b c => .str (showN a b c)) rfl (by omega) (by omega) (by omega) ?_
  simp only [go_sem, ↓reduceIte, Nat.reduceEqDiff, and_self, true_and, List.filter_cons, List.filter_nil, Nat.testBit, Nat.reduceShiftRight, Nat.reduceAnd, Nat.reduceBNe, Bool.not_false, Bool.not_true, Bool.false_eq_true, bne_self_eq_false, wanted, fieldAddrA, Nat.zero_add, Nat.add_zero, Nat.reduceAdd, m0, enterS, List.getD_cons_zero, List.getD_cons_succ]
  refine ndF_at (F := fun a b c => .str (showN a b c)) rfl (by omega) (by omega) (by omega) ?_
  simp only [go_sem, ↓reduceIte, Nat.reduceEqDiff, and_self, true_and, List.filter_cons, List.filter_nil, Nat.testBit, Nat.reduceShiftRight, Nat.reduceAnd, Nat.reduceBNe, Bool.not_false, Bool.not_true, Bool.false_eq_true, bne_self_eq_false, wanted, decide_true, decide_false, beq_self_eq_true, pickA, show (false == true) = false from rfl, show (true == false) = false from rfl, Bool.false_eq_true, undefA, Bool.not_true, Bool.not_false, fieldAddrA, Nat.zero_add, Nat.add_zero, Nat.reduceAdd, m0, m1, enterS, List.getD_cons_zero, List.getD_cons_succ]
  refine tpF_at (F := fun a b c d e g => .str (textT a b c d e g)) rfl (by omega) (by omega) ?_
  simp only [go_sem, ↓reduceIte, Nat.reduceEqDiff, and_self, true_and, List.filter_cons, List.filter_nil, Nat.testBit, Nat.reduceShiftRight, Nat.reduceAnd, Nat.reduceBNe, Bool.not_false, Bool.not_true, Bool.false_eq_true, bne_self_eq_false, wanted, decide_true, decide_false, beq_self_eq_true, pickA, show (false == true) = false from rfl, show (true == false) = false from rfl, Bool.false_eq_true, undefA, Bool.not_true, Bool.not_false, fieldAddrA, Nat.zero_add, Nat.add_zero, Nat.reduceAdd, m0, m1, enterS, List.getD_cons_zero, List.getD_cons_succ]
  refine tpF_at (F := fun a b c d e g => .str (textT a b c d e g)) rfl (by omega) (by omega) ?_
  simp only [go_sem, ↓reduceIte, Nat.reduceEqDiff, and_self, true_and, List.filter_cons, List.filter_nil, Nat.testBit, Nat.reduceShiftRight, Nat.reduceAnd, Nat.reduceBNe, Bool.not_false, Bool.not_true, Bool.false_eq_true, bne_self_eq_false, wanted, decide_true, decide_false, beq_self_eq_true, pickA, show (false == true) = false from rfl, show (true == false) = false from rfl, Bool.false_eq_true, undefA, Bool.not_true, Bool.not_false, fieldAddrA, Nat.zero_add, Nat.add_zero, Nat.reduceAdd, m0, m1, enterS, List.getD_cons_zero, List.getD_cons_succ]
  refine key_at rfl (by omega) ?_
  simp only [go_sem, ↓reduceIte, Nat.reduceEqDiff, and_self, true_and, List.filter_cons, List.filter_nil, Nat.testBit, Nat.reduceShiftRight, Nat.reduceAnd, Nat.reduceBNe, Bool.not_false, Bool.not_true, Bool.false_eq_true, bne_self_eq_false, wanted, decide_true, decide_false, beq_self_eq_true, pickA, show (false == true) = false from rfl, show (true == false) = false from rfl, Bool.false_eq_true, undefA, Bool.not_true, Bool.not_false, fieldAddrA, Nat.zero_add, Nat.add_zero, Nat.reduceAdd, m0, m1, enterS, List.getD_cons_zero, List.getD_cons_succ]
  refine key_at rfl (by omega) ?_
  simp only [go_sem, ↓reduceIte, Nat.reduceEqDiff, and_self, true_and, List.filter_cons, List.filter_nil, Nat.testBit, Nat.reduceShiftRight, Nat.reduceAnd, Nat.reduceBNe, Bool.not_false, Bool.not_true, Bool.false_eq_true, bne_self_eq_false, wanted, decide_true, decide_false, beq_self_eq_true, pickA, show (false == true) = false from rfl, show (true == false) = false from rfl, Bool.false_eq_true, undefA, Bool.not_true, Bool.not_false, fieldAddrA, Nat.zero_add, Nat.add_zero, Nat.reduceAdd, m0, m1, enterS, List.getD_cons_zero, List.getD_cons_succ, m7, m8, m9, m10, m11, m12, c7, c9, c11, c12]
  refine WS_of_ret ?_
  simp only [go_sem, ↓reduceIte, Nat.reduceEqDiff, doormanlaw12_TupleTexts_a]
end Go.Proofs.YtgjcdpanabjcmaaGreatDoor.Ev.C

/- The law TupleBack, walked. -/
namespace Go.Proofs.YtgjcdpanabjcmaaGreatDoor.Ev.C
open Go Go.Proofs.YtgjcdpanabjcmaaGreatDoor.Ev
set_option linter.unusedSimpArgs false
set_option linter.unusedVariables false
theorem show_len {a b c d e g : T8} (h : fewB a b c d e g = true) : (showN a b c).length ≤ 500 := by
  have := few_len h
  unfold showN
  split
  all_goals simp
  all_goals omega
theorem fromN_formed {s : T8} {a b c d e g : T8} (h : fromN s = some [a, b, c, d, e, g]) : formed6 a b c d e g = true ∧ keyT a b c d e g = s := by
  unfold fromN at h
  split at h
  · rename_i hc
    have hp : pad6 (splitB 0 s) = [a, b, c, d, e, g] := Option.some.inj h
    rw [hp] at hc
    exact ⟨hc.2.1, hc.2.2⟩
  · cases h
theorem back_answer {h : H} (ks : KStart h) (wf : h.Wf) (a b c d e g : T8) : WCall (EL LAll) n_doormanlaw12_TupleBack [.agg (six a b c d e g)] h fun r _ => r = .val (.bool true) := by
  refine WCall_ws ((EL_ov _ _).trans rfl) (EL_T T_doormanlaw12_TupleBack) (by simp [doormanlaw12_TupleBack_a]) ?_
  refine WS_of_seq (WS_of_ops ?_)
  simp only [doormanlaw12_TupleBack_r0, go_sem, ↓reduceIte, Nat.reduceEqDiff, enterS, List.getD_cons_zero, List.getD_cons_succ, AV.cells]
  have b1 := Box.new wf (six a b c d e g)
  have wf1 := wf.new (six a b c d e g)
  have ks1 : KStart (h.new (six a b c d e g)) := ks.keep wf (Keep.new (Nat.le_refl _) _)
  generalize h.new [.str a, .str b, .str c, .str d, .str e, .str g] = g1 at b1 wf1 ks1
  refine WS_of_seq (WS_of_ops ?_)
  simp only [doormanlaw12_TupleBack_r1, go_sem, ↓reduceIte, Nat.reduceEqDiff]
  refine (awakeZ ks1).mono ?_
  rintro _ q ⟨rfl, hq⟩
  obtain rfl : g1 = q := hq.symm
  simp only [go_sem, ↓reduceIte, Nat.reduceEqDiff]
  refine WS_of_seq (WS_of_seq (WS_of_ops ?_))
  simp only [doormanlaw12_TupleBack_r2, go_sem, ↓reduceIte, Nat.reduceEqDiff, Bool.not_true]
  refine WS_of_cond ?_
  simp only [go_sem, ↓reduceIte, Nat.reduceEqDiff, Bool.false_eq_true]
  refine WS_of_skip ?_
  simp only [go_sem]
  refine WS_of_seq (WS_of_ops ?_)
  simp only [doormanlaw12_TupleBack_r4, go_sem, ↓reduceIte, Nat.reduceEqDiff, b1.loadAgg (n := 6) rfl, enterS, List.getD_cons_zero, List.getD_cons_succ]
  refine few_at rfl ?_
  simp only [go_sem, ↓reduceIte, Nat.reduceEqDiff]
  refine WS_of_seq (WS_of_seq (WS_of_ops ?_))
  simp only [doormanlaw12_TupleBack_r5, go_sem, ↓reduceIte, Nat.reduceEqDiff]
  refine WS_of_cond ?_
  cases hf : fewB a b c d e g
  · simp only [go_sem, ↓reduceIte, Nat.reduceEqDiff, Bool.not_false]
    refine WS_of_seq (WS_of_ops ?_)
    simp only [doormanlaw12_TupleBack_r6, go_sem, ↓reduceIte, Nat.reduceEqDiff]
    refine WS_of_ret ?_
    simp only [go_sem, ↓reduceIte, Nat.reduceEqDiff, doormanlaw12_TupleBack_a]
  simp only [go_sem, ↓reduceIte, Nat.reduceEqDiff, Bool.not_true, Bool.false_eq_true]
  refine WS_of_skip ?_
  simp only [go_sem]
  obtain ⟨hl1, hl2⟩ := few_len hf
  have hkl := key_len hf
  have htl := text_len hf
  have hsl := show_len hf
  have l0 : loadA g1 true 3 (.ptr h.n 0) = some (.agg [.str a, .str b, .str c]) := by simp only [loadA, b1.row, if_true]; rfl
  have l3 : loadA g1 true 3 (.ptr h.n 3) = some (.agg [.str d, .str e, .str g]) := by simp only [loadA, b1.row, if_true]; rfl
  refine WS_of_seq (WS_of_ops ?_)
  simp only [doormanlaw12_TupleBack_r7, go_sem, ↓reduceIte, Nat.reduceEqDiff, fieldAddrA, Nat.zero_add, Nat.add_zero, Nat.reduceAdd, l0, enterS, List.getD_cons_zero, List.getD_cons_succ]
  refine ndF_at (F := fun a b c => .bool (formedN a b c)) rfl (by omega) (by omega) (by omega) ?_
  simp only [go_sem, ↓reduceIte, Nat.reduceEqDiff]
  refine WS_of_seq (WS_of_ops ?_)
  simp only [doormanlaw12_TupleBack_r8, go_sem, ↓reduceIte, Nat.reduceEqDiff, fieldAddrA, Nat.zero_add, Nat.add_zero, Nat.reduceAdd, l3, enterS, List.getD_cons_zero, List.getD_cons_succ]
  refine ndF_at (F := fun a b c => .bool (formedN a b c)) rfl (by omega) (by omega) (by omega) ?_
  simp only [go_sem, ↓reduceIte, Nat.reduceEqDiff]
  obtain ⟨n, ne, en, ln, hn⟩ := readV_parts (showN a b c) (by omega)
  obtain ⟨t, te, et, ht⟩ := parseV_parts (textT a b c d e g)
  obtain ⟨fa, fb, fc, fd, fe, fg, ff, ef, hff⟩ := fromV_parts (keyT a b c d e g)
  obtain ⟨q9, e9, x9, w9, k9⟩ := Box.newPut wf1 (z := six [] [] [] [] [] []) (vs := six t.1.1 t.1.2.1 t.1.2.2 t.2.1 t.2.2.1 t.2.2.2) (n := 6) rfl rfl rfl
  have b9 := b1.keep k9 (b1.lt wf1)
  refine WS_of_seq (WS_of_ops ?_)
  simp only [doormanlaw12_TupleBack_r9, go_sem, ↓reduceIte, Nat.reduceEqDiff, b1.loadAgg (n := 6) rfl, enterS, List.getD_cons_zero, List.getD_cons_succ]
  refine tpF_at (F := fun a b c d e g => .str (textT a b c d e g)) rfl (by omega) (by omega) ?_
  simp only [go_sem, ↓reduceIte, Nat.reduceEqDiff, enterS, List.getD_cons_zero, List.getD_cons_succ]
  refine tx6F_at (F := parseV) rfl (by omega) ?_
  rw [et]
  simp only [go_sem, ↓reduceIte, Nat.reduceEqDiff, extractA, List.getElem?_cons_zero, List.getElem?_cons_succ, e9]
  obtain ⟨q10, e10, x10, w10, k10⟩ := Box.newPut w9 (z := six [] [] [] [] [] []) (vs := six fa fb fc fd fe fg) (n := 6) rfl rfl rfl
  have b10 := b9.keep k10 (b9.lt w9)
  have x9' := x9.keep k10 (x9.lt w9)
  refine WS_of_seq (WS_of_ops ?_)
  simp only [doormanlaw12_TupleBack_r10, go_sem, ↓reduceIte, Nat.reduceEqDiff, b9.loadAgg (n := 6) rfl, enterS, List.getD_cons_zero, List.getD_cons_succ]
  refine key_at rfl (by omega) ?_
  simp only [go_sem, ↓reduceIte, Nat.reduceEqDiff, enterS, List.getD_cons_zero, List.getD_cons_succ]
  refine tx5F_at (F := fromV) rfl (by omega) ?_
  rw [ef]
  simp only [go_sem, ↓reduceIte, Nat.reduceEqDiff, extractA, List.getElem?_cons_zero, List.getElem?_cons_succ, e10]
  obtain ⟨q11, e11, x11, w11, k11⟩ := Box.newPut w10 (z := [.str [], .str [], .str []]) (vs := [.str n.1, .str n.2.1, .str n.2.2]) (n := 3) rfl rfl rfl
  have b11 := b10.keep k11 (b10.lt w10)
  have x9'' := x9'.keep k11 (x9'.lt w10)
  have x10' := x10.keep k11 (x10.lt w10)
  have l10 : loadA q10 true 3 (.ptr h.n 0) = some (.agg [.str a, .str b, .str c]) := by simp only [loadA, b10.row, if_true]; rfl
  refine WS_of_seq (WS_of_ops ?_)
  simp only [doormanlaw12_TupleBack_r11, go_sem, ↓reduceIte, Nat.reduceEqDiff, fieldAddrA, Nat.zero_add, Nat.add_zero, Nat.reduceAdd, l10, enterS, List.getD_cons_zero, List.getD_cons_succ]
  refine ndF_at (F := fun a b c => .str (showN a b c)) rfl (by omega) (by omega) (by omega) ?_
  simp only [go_sem, ↓reduceIte, Nat.reduceEqDiff, enterS, List.getD_cons_zero, List.getD_cons_succ]
  refine tx6F_at (F := readV) rfl (by omega) ?_
  rw [en]
  simp only [go_sem, ↓reduceIte, Nat.reduceEqDiff, extractA, List.getElem?_cons_zero, List.getElem?_cons_succ, e11]
  have m1 := b11.loadAgg (n := 6) rfl
  have m0 : loadA q11 true 3 (.ptr h.n 0) = some (.agg [.str a, .str b, .str c]) := by simp only [loadA, b11.row, if_true]; rfl
  have m2 : loadA q11 false 1 (.ptr h.n 2) = some (.str c) := b11.load 1 2
  have m7 := x9''.loadAgg (n := 6) rfl
  have m9 := x10'.loadAgg (n := 6) rfl
  have m11 := x11.loadAgg (n := 3) rfl
  have c7 : eqA (.flatK [.s, .s, .s, .s, .s, .s]) (.agg (six t.1.1 t.1.2.1 t.1.2.2 t.2.1 t.2.2.1 t.2.2.2)) (.agg (six a b c d e g)) = some (decide ([t.1.1, t.1.2.1, t.1.2.2, t.2.1, t.2.2.1, t.2.2.2] = [a, b, c, d, e, g])) := eq6 [t.1.1, t.1.2.1, t.1.2.2, t.2.1, t.2.2.1, t.2.2.2] [a, b, c, d, e, g] rfl rfl
  have c9 : eqA (.flatK [.s, .s, .s, .s, .s, .s]) (.agg (six fa fb fc fd fe fg)) (.agg (six a b c d e g)) = some (decide ([fa, fb, fc, fd, fe, fg] = [a, b, c, d, e, g])) := eq6 [fa, fb, fc, fd, fe, fg] [a, b, c, d, e, g] rfl rfl
  have c11 : eqA (.flatK [.s, .s, .s]) (.agg [.str n.1, .str n.2.1, .str n.2.2]) (.agg [.str a, .str b, .str c]) = some (decide ([n.1, n.2.1, n.2.2] = [a, b, c])) := eq3 [n.1, n.2.1, n.2.2] [a, b, c] rfl rfl
  refine WS_of_seq (WS_of_seq (WS_of_ops ?_))
  -- what is said where the tuple is not well formed
  have bad : (formedN a b c = false ∨ formedN d e g = false ∨ c = []) → ∀ z : S, z 1 = .ptr h.n 0 → z 5 = .bool (formedN a b c) → z 7 = .ptr g1.n 0 → z 8 = .int .i64 te → z 9 = .ptr q9.n 0 → z 10 = .bool ff → z 11 = .ptr q10.n 0 → z 12 = .int .i64 ne →
      WS (EL LAll) (.seq (.ops doormanlaw12_TupleBack_r13) .ret) [.code (.seq (.ops doormanlaw12_TupleBack_r14) .ret)] (atEnd doormanlaw12_TupleBack_a.results fun r x => r = .val (.bool true)) z q11 := by
    intro hb z z1 z5 z7 z8 z9 z10 z11 z12
    refine WS_of_seq (WS_of_ops ?_)
    have hP : te = 11 ∨ (te = 0 ∧ ¬ [t.1.1, t.1.2.1, t.1.2.2, t.2.1, t.2.2.1, t.2.2.2] = [a, b, c, d, e, g]) := by
      rcases ht with ⟨h1, h2⟩ | ⟨h1, _, h2⟩
      · refine .inr ⟨h2, fun hx => ?_⟩
        obtain ⟨f1, f2, f3⟩ := parseN_formed h1
        simp only [List.cons.injEq, and_true] at hx
        obtain ⟨p1, p2, p3, p4, p5, p6⟩ := hx
        rw [p1, p2, p3] at f1; rw [p4, p5, p6] at f2; rw [p3] at f3
        rcases hb with hb | hb | hb
        · rw [f1] at hb; cases hb
        · rw [f2] at hb; cases hb
        · exact f3 hb
      · exact .inl h2
    have hQ : ff = false ∨ (ff = true ∧ ¬ [fa, fb, fc, fd, fe, fg] = [a, b, c, d, e, g]) := by
      rcases hff with ⟨h1, h2⟩ | ⟨_, h2, _⟩
      · refine .inr ⟨h2, fun hx => ?_⟩
        rw [hx] at h1
        have f6 := (fromN_formed h1).1
        rw [formed6_of] at f6
        simp only [Bool.and_eq_true, Bool.not_eq_true', decide_eq_false_iff_not] at f6
        rcases hb with hb | hb | hb
        · rw [f6.1] at hb; cases hb
        · rw [f6.2.1] at hb; cases hb
        · exact f6.2.2 hb
      · exact .inl h2
    have hR : formedN a b c = true ∨ (formedN a b c = false ∧ ne = 11) ∨ (formedN a b c = false ∧ ne = 0 ∧ ¬ [n.1, n.2.1, n.2.2] = [a, b, c]) := by
      cases hA : formedN a b c with
      | true => exact .inl rfl
      | false =>
        right
        rcases hn with ⟨h1, h2⟩ | ⟨_, _, h2⟩
        · refine .inr ⟨rfl, h2, fun hx => ?_⟩
          have f1 := (readN_formed h1).1
          simp only [List.cons.injEq, and_true] at hx
          rw [hx.1, hx.2.1, hx.2.2, hA] at f1; cases f1
        · exact .inl ⟨rfl, h2⟩
    have N0 : ¬ ((0 : Int) = 11) := by decide
    rcases hP with rfl | ⟨rfl, hx⟩
    · rcases hQ with rfl | ⟨rfl, hy⟩
      · rcases hR with hA | ⟨hA, rfl⟩ | ⟨hA, rfl, hz⟩
        · rw [hA] at z5
          simp only [doormanlaw12_TupleBack_r13, go_sem, ↓reduceIte, Nat.reduceEqDiff, wanted, decide_true, decide_false, beq_self_eq_true, pickA, show (false == true) = false from rfl, show (true == false) = false from rfl, Bool.false_eq_true, undefA, Bool.not_true, Bool.not_false, fieldAddrA, Nat.zero_add, Nat.add_zero, Nat.reduceAdd, z1, z5, z7, z8, z9, z10, z11, z12, m0, m1, m2, m7, m9, m11, c7, c9, c11, N0]
          refine WS_of_ret ?_
          simp only [go_sem, ↓reduceIte, Nat.reduceEqDiff, doormanlaw12_TupleBack_a]
        · rw [hA] at z5
          simp only [doormanlaw12_TupleBack_r13, go_sem, ↓reduceIte, Nat.reduceEqDiff, wanted, decide_true, decide_false, beq_self_eq_true, pickA, show (false == true) = false from rfl, show (true == false) = false from rfl, Bool.false_eq_true, undefA, Bool.not_true, Bool.not_false, fieldAddrA, Nat.zero_add, Nat.add_zero, Nat.reduceAdd, z1, z5, z7, z8, z9, z10, z11, z12, m0, m1, m2, m7, m9, m11, c7, c9, c11, N0]
          refine WS_of_ret ?_
          simp only [go_sem, ↓reduceIte, Nat.reduceEqDiff, doormanlaw12_TupleBack_a]
        · rw [hA] at z5
          rw [decide_eq_false hz] at c11
          simp only [doormanlaw12_TupleBack_r13, go_sem, ↓reduceIte, Nat.reduceEqDiff, wanted, decide_true, decide_false, beq_self_eq_true, pickA, show (false == true) = false from rfl, show (true == false) = false from rfl, Bool.false_eq_true, undefA, Bool.not_true, Bool.not_false, fieldAddrA, Nat.zero_add, Nat.add_zero, Nat.reduceAdd, z1, z5, z7, z8, z9, z10, z11, z12, m0, m1, m2, m7, m9, m11, c7, c9, c11, N0]
          refine WS_of_ret ?_
          simp only [go_sem, ↓reduceIte, Nat.reduceEqDiff, doormanlaw12_TupleBack_a]
      · rw [decide_eq_false hy] at c9
        rcases hR with hA | ⟨hA, rfl⟩ | ⟨hA, rfl, hz⟩
        · rw [hA] at z5
          simp only [doormanlaw12_TupleBack_r13, go_sem, ↓reduceIte, Nat.reduceEqDiff, wanted, decide_true, decide_false, beq_self_eq_true, pickA, show (false == true) = false from rfl, show (true == false) = false from rfl, Bool.false_eq_true, undefA, Bool.not_true, Bool.not_false, fieldAddrA, Nat.zero_add, Nat.add_zero, Nat.reduceAdd, z1, z5, z7, z8, z9, z10, z11, z12, m0, m1, m2, m7, m9, m11, c7, c9, c11, N0]
          refine WS_of_ret ?_
          simp only [go_sem, ↓reduceIte, Nat.reduceEqDiff, doormanlaw12_TupleBack_a]
        · rw [hA] at z5
          simp only [doormanlaw12_TupleBack_r13, go_sem, ↓reduceIte, Nat.reduceEqDiff, wanted, decide_true, decide_false, beq_self_eq_true, pickA, show (false == true) = false from rfl, show (true == false) = false from rfl, Bool.false_eq_true, undefA, Bool.not_true, Bool.not_false, fieldAddrA, Nat.zero_add, Nat.add_zero, Nat.reduceAdd, z1, z5, z7, z8, z9, z10, z11, z12, m0, m1, m2, m7, m9, m11, c7, c9, c11, N0]
          refine WS_of_ret ?_
          simp only [go_sem, ↓reduceIte, Nat.reduceEqDiff, doormanlaw12_TupleBack_a]
        · rw [hA] at z5
          rw [decide_eq_false hz] at c11
          simp only [doormanlaw12_TupleBack_r13, go_sem, ↓reduceIte, Nat.reduceEqDiff, wanted, decide_true, decide_false, beq_self_eq_true, pickA, show (false == true) = false from rfl, show (true == false) = false from rfl, Bool.false_eq_true, undefA, Bool.not_true, Bool.not_false, fieldAddrA, Nat.zero_add, Nat.add_zero, Nat.reduceAdd, z1, z5, z7, z8, z9, z10, z11, z12, m0, m1, m2, m7, m9, m11, c7, c9, c11, N0]
          refine WS_of_ret ?_
          simp only [go_sem, ↓reduceIte, Nat.reduceEqDiff, doormanlaw12_TupleBack_a]
    · rw [decide_eq_false hx] at c7
      rcases hQ with rfl | ⟨rfl, hy⟩
      · rcases hR with hA | ⟨hA, rfl⟩ | ⟨hA, rfl, hz⟩
        · rw [hA] at z5
          simp only [doormanlaw12_TupleBack_r13, go_sem, ↓reduceIte, Nat.reduceEqDiff, wanted, decide_true, decide_false, beq_self_eq_true, pickA, show (false == true) = false from rfl, show (true == false) = false from rfl, Bool.false_eq_true, undefA, Bool.not_true, Bool.not_false, fieldAddrA, Nat.zero_add, Nat.add_zero, Nat.reduceAdd, z1, z5, z7, z8, z9, z10, z11, z12, m0, m1, m2, m7, m9, m11, c7, c9, c11, N0]
          refine WS_of_ret ?_
          simp only [go_sem, ↓reduceIte, Nat.reduceEqDiff, doormanlaw12_TupleBack_a]
        · rw [hA] at z5
          simp only [doormanlaw12_TupleBack_r13, go_sem, ↓reduceIte, Nat.reduceEqDiff, wanted, decide_true, decide_false, beq_self_eq_true, pickA, show (false == true) = false from rfl, show (true == false) = false from rfl, Bool.false_eq_true, undefA, Bool.not_true, Bool.not_false, fieldAddrA, Nat.zero_add, Nat.add_zero, Nat.reduceAdd, z1, z5, z7, z8, z9, z10, z11, z12, m0, m1, m2, m7, m9, m11, c7, c9, c11, N0]
          refine WS_of_ret ?_
          simp only [go_sem, ↓reduceIte, Nat.reduceEqDiff, doormanlaw12_TupleBack_a]
        · rw [hA] at z5
          rw [decide_eq_false hz] at c11
          simp only [doormanlaw12_TupleBack_r13, go_sem, ↓reduceIte, Nat.reduceEqDiff, wanted, decide_true, decide_false, beq_self_eq_true, pickA, show (false == true) = false from rfl, show (true == false) = false from rfl, Bool.false_eq_true, undefA, Bool.not_true, Bool.not_false, fieldAddrA, Nat.zero_add, Nat.add_zero, Nat.reduceAdd, z1, z5, z7, z8, z9, z10, z11, z12, m0, m1, m2, m7, m9, m11, c7, c9, c11, N0]
          refine WS_of_ret ?_
          simp only [go_sem, ↓reduceIte, Nat.reduceEqDiff, doormanlaw12_TupleBack_a]
      · rw [decide_eq_false hy] at c9
        rcases hR with hA | ⟨hA, rfl⟩ | ⟨hA, rfl, hz⟩
        · rw [hA] at z5
          simp only [doormanlaw12_TupleBack_r13, go_sem, ↓reduceIte, Nat.reduceEqDiff, wanted, decide_true, decide_false, beq_self_eq_true, pickA, show (false == true) = false from rfl, show (true == false) = false from rfl, Bool.false_eq_true, undefA, Bool.not_true, Bool.not_false, fieldAddrA, Nat.zero_add, Nat.add_zero, Nat.reduceAdd, z1, z5, z7, z8, z9, z10, z11, z12, m0, m1, m2, m7, m9, m11, c7, c9, c11, N0]
          refine WS_of_ret ?_
          simp only [go_sem, ↓reduceIte, Nat.reduceEqDiff, doormanlaw12_TupleBack_a]
        · rw [hA] at z5
          simp only [doormanlaw12_TupleBack_r13, go_sem, ↓reduceIte, Nat.reduceEqDiff, wanted, decide_true, decide_false, beq_self_eq_true, pickA, show (false == true) = false from rfl, show (true == false) = false from rfl, Bool.false_eq_true, undefA, Bool.not_true, Bool.not_false, fieldAddrA, Nat.zero_add, Nat.add_zero, Nat.reduceAdd, z1, z5, z7, z8, z9, z10, z11, z12, m0, m1, m2, m7, m9, m11, c7, c9, c11, N0]
          refine WS_of_ret ?_
          simp only [go_sem, ↓reduceIte, Nat.reduceEqDiff, doormanlaw12_TupleBack_a]
        · rw [hA] at z5
          rw [decide_eq_false hz] at c11
          simp only [doormanlaw12_TupleBack_r13, go_sem, ↓reduceIte, Nat.reduceEqDiff, wanted, decide_true, decide_false, beq_self_eq_true, pickA, show (false == true) = false from rfl, show (true == false) = false from rfl, Bool.false_eq_true, undefA, Bool.not_true, Bool.not_false, fieldAddrA, Nat.zero_add, Nat.add_zero, Nat.reduceAdd, z1, z5, z7, z8, z9, z10, z11, z12, m0, m1, m2, m7, m9, m11, c7, c9, c11, N0]
          refine WS_of_ret ?_
          simp only [go_sem, ↓reduceIte, Nat.reduceEqDiff, doormanlaw12_TupleBack_a]
  cases hA : formedN a b c
  · simp only [doormanlaw12_TupleBack_r12, go_sem, ↓reduceIte, Nat.reduceEqDiff, wanted, decide_true, decide_false, beq_self_eq_true, pickA, show (false == true) = false from rfl, show (true == false) = false from rfl, Bool.false_eq_true, undefA, Bool.not_true, Bool.not_false]
    refine WS_of_cond ?_
    simp only [go_sem, ↓reduceIte, Nat.reduceEqDiff]
    exact bad (.inl hA) _ rfl (by show AV.bool _ = _; rw [hA]) rfl rfl rfl rfl rfl rfl
  cases hB : formedN d e g
  · simp only [doormanlaw12_TupleBack_r12, go_sem, ↓reduceIte, Nat.reduceEqDiff, wanted, decide_true, decide_false, beq_self_eq_true, pickA, show (false == true) = false from rfl, show (true == false) = false from rfl, Bool.false_eq_true, undefA, Bool.not_true, Bool.not_false]
    refine WS_of_cond ?_
    simp only [go_sem, ↓reduceIte, Nat.reduceEqDiff]
    exact bad (.inr (.inl hB)) _ rfl (by show AV.bool _ = _; rw [hA]) rfl rfl rfl rfl rfl rfl
  by_cases h0 : c = []
  · simp only [doormanlaw12_TupleBack_r12, go_sem, ↓reduceIte, Nat.reduceEqDiff, wanted, decide_true, decide_false, beq_self_eq_true, pickA, show (false == true) = false from rfl, show (true == false) = false from rfl, Bool.false_eq_true, undefA, Bool.not_true, Bool.not_false, fieldAddrA, Nat.zero_add, Nat.add_zero, Nat.reduceAdd, m2, h0]
    refine WS_of_cond ?_
    simp only [go_sem, ↓reduceIte, Nat.reduceEqDiff]
    exact bad (.inr (.inr h0)) _ rfl (by show AV.bool _ = _; rw [hA]) rfl rfl rfl rfl rfl rfl
  simp only [doormanlaw12_TupleBack_r12, go_sem, ↓reduceIte, Nat.reduceEqDiff, wanted, decide_true, decide_false, beq_self_eq_true, pickA, show (false == true) = false from rfl, show (true == false) = false from rfl, Bool.false_eq_true, undefA, Bool.not_true, Bool.not_false, fieldAddrA, Nat.zero_add, Nat.add_zero, Nat.reduceAdd, m2, h0]
  refine WS_of_cond ?_
  simp only [go_sem, ↓reduceIte, Nat.reduceEqDiff, Bool.false_eq_true]
  refine WS_of_skip ?_
  simp only [go_sem]
  have g1' := parseN_text hA hB h0
  have g2' := fromN_key hA hB h0
  have g3' := readN_show hA
  have p1 : te = 0 ∧ [t.1.1, t.1.2.1, t.1.2.2, t.2.1, t.2.2.1, t.2.2.2] = [a, b, c, d, e, g] := by
    rcases ht with ⟨h1, h2⟩ | ⟨h1, _, _⟩
    · rw [g1'] at h1; cases h1; exact ⟨h2, rfl⟩
    · rw [g1'] at h1; cases h1
  have p2 : ff = true ∧ [fa, fb, fc, fd, fe, fg] = [a, b, c, d, e, g] := by
    rcases hff with ⟨h1, h2⟩ | ⟨h1, _, _⟩
    · rw [g2'] at h1; exact ⟨h2, (Option.some.inj h1).symm⟩
    · rw [g2'] at h1; cases h1
  have p3 : ne = 0 ∧ [n.1, n.2.1, n.2.2] = [a, b, c] := by
    rcases hn with ⟨h1, h2⟩ | ⟨h1, _, _⟩
    · rw [g3'] at h1; cases h1; exact ⟨h2, rfl⟩
    · rw [g3'] at h1; cases h1
  obtain ⟨rfl, p1⟩ := p1
  obtain ⟨rfl, p2⟩ := p2
  obtain ⟨rfl, p3⟩ := p3
  rw [decide_eq_true p1] at c7
  rw [decide_eq_true p2] at c9
  rw [decide_eq_true p3] at c11
  refine WS_of_seq (WS_of_ops ?_)
  simp only [doormanlaw12_TupleBack_r14, go_sem, ↓reduceIte, Nat.reduceEqDiff, wanted, decide_true, decide_false, beq_self_eq_true, pickA, show (false == true) = false from rfl, show (true == false) = false from rfl, Bool.false_eq_true, undefA, Bool.not_true, Bool.not_false, fieldAddrA, Nat.zero_add, Nat.add_zero, Nat.reduceAdd, m0, m1, m2, m7, m9, m11, c7, c9, c11]
  refine WS_of_ret ?_
  simp only [go_sem, ↓reduceIte, Nat.reduceEqDiff, doormanlaw12_TupleBack_a]
end Go.Proofs.YtgjcdpanabjcmaaGreatDoor.Ev.C

/- The answer of the law TupleBack, for every input: over the interpreter. -/
namespace Go.Proofs.YtgjcdpanabjcmaaGreatDoor
open Go Go.Proofs.YtgjcdpanabjcmaaGreatDoor.Ev
set_option linter.unusedVariables false
theorem tupleBack_answer {u0 : List AV} {h : H} (z0 : C.Tp) (ks : C.KStart h) (wf : h.Wf) (s0 : u0 = C.tpC z0) :
    WCall (env C.PP C.ovZ) C.n_doormanlaw12_TupleBack [.agg u0] h fun r _ => r = .val (.bool true) := by
  subst s0
  rw [← C.EL_env]
  exact C.back_answer ks wf _ _ _ _ _ _
end Go.Proofs.YtgjcdpanabjcmaaGreatDoor

/- The law TupleBack holds for every input: its call returns true, on every tape. Conditions: none but those of the given statement itself (arguments of the types of its parameters). -/
namespace Go.Proofs.YtgjcdpanabjcmaaGreatDoor.tupleBack
open Go.ChangeShapes Go.WideShapes Go.ChangeAt Go.RowKit Go.Proofs.YtgjcdpanabjcmaaGreatDoor.Ev
open Go.ChangeMaps (open_string shut_string)
set_option linter.unusedVariables false
theorem own : ownKnob Tryz.prog.godebug = none := by kernel_rfl
theorem laidOut : laidOutB Tryz.prog = true := by kernel_rfl
theorem gKeys : Tryz.prog.globalNamed "doorman/token.keys" = some Go.Proofs.YtgjcdpanabjcmaaGreatDoor.Ev.C.g_token_keys := by kernel_rfl
theorem gType : (Tryz.prog.globals[Go.Proofs.YtgjcdpanabjcmaaGreatDoor.Ev.C.g_token_keys]?).map (·.type) = some 41 := by kernel_rfl
/-- a world that holds the list and the tables -/
noncomputable def laidWorld (os : Os) : World :=
  let N := (World.settled Tryz.prog os).heap.size
  let w0 := World.holding Tryz.prog os ⟨#[.cells #[.string ⟨#[116, 121, 112, 101]⟩, .string ⟨#[114, 101, 108]⟩, .string ⟨#[105, 115]⟩, .string ⟨#[116, 104, 105, 115]⟩] 9], #[], []⟩
  let put (h : Array Obj) (g : Nat) (cs : Array Value) : Array Obj := h.modify g fun
      | .cells _ t frozen => .cells cs t frozen
      | o => o
  let h1 := put w0.heap Go.Proofs.YtgjcdpanabjcmaaGreatDoor.Ev.C.g_token_keys #[.slice (some ⟨N, 0, none⟩) 4 4]
  let h2 := put h1 Go.Proofs.YtgjcdpanabjcmaaGreatDoor.Ev.C.g_utf8_first (Lib.firstTab.map fun z => Value.int .u8 z).toArray
  let h3 := put h2 Go.Proofs.YtgjcdpanabjcmaaGreatDoor.Ev.C.g_utf8_acceptRanges ((List.range 16).flatMap fun i => [Value.int .u8 (Lib.accLo i), Value.int .u8 (Lib.accHi i)]).toArray
  { w0 with heap := h3 }
set_option maxRecDepth 100000 in
theorem laid_met (os : Os) : laidMet Tryz.prog Rows.tupleBackRow.laid ((laidWorld os).forCall (fun _ _ => 0) ⟨#[], #[.agg #[.string ByteArray.empty, .string ByteArray.empty, .string ByteArray.empty, .string ByteArray.empty, .string ByteArray.empty, .string ByteArray.empty]], []⟩).memory :=
  (LaidIn.of_run (l := Rows.tupleBackRow.laid) [Go.Proofs.YtgjcdpanabjcmaaGreatDoor.Ev.C.g_token_keys, Go.Proofs.YtgjcdpanabjcmaaGreatDoor.Ev.C.g_utf8_first, Go.Proofs.YtgjcdpanabjcmaaGreatDoor.Ev.C.g_utf8_acceptRanges, (World.settled Tryz.prog os).heap.size] 8 (by kernel_rfl) (by kernel_rfl) (by kernel_rfl) (by kernel_rfl)).met
set_option maxRecDepth 100000 in
theorem reads (os : Os) {H : Type} (enc : TypeId × Value → H) : ∃ places, DataW.whole enc Tryz.prog ((laidWorld os).forCall (fun _ _ => 0) ⟨#[], #[.agg #[.string ByteArray.empty, .string ByteArray.empty, .string ByteArray.empty, .string ByteArray.empty, .string ByteArray.empty, .string ByteArray.empty]], []⟩).memory Tryz.f4.params.toList Rows.tupleBackSpec.vars false (#[.agg #[.string ByteArray.empty, .string ByteArray.empty, .string ByteArray.empty, .string ByteArray.empty, .string ByteArray.empty, .string ByteArray.empty]] : Array Value).toList 8 = some ([.agg [.agg [.lit (.string []), .lit (.string []), .lit (.string [])], .agg [.lit (.string []), .lit (.string []), .lit (.string [])]]], [], places) := by
  have hw : (DataW.whole enc Tryz.prog ((laidWorld os).forCall (fun _ _ => 0) ⟨#[], #[.agg #[.string ByteArray.empty, .string ByteArray.empty, .string ByteArray.empty, .string ByteArray.empty, .string ByteArray.empty, .string ByteArray.empty]], []⟩).memory Tryz.f4.params.toList Rows.tupleBackSpec.vars false (#[.agg #[.string ByteArray.empty, .string ByteArray.empty, .string ByteArray.empty, .string ByteArray.empty, .string ByteArray.empty, .string ByteArray.empty]] : Array Value).toList 8).map (fun x => (x.1, x.2.1)) = some ([.agg [.agg [.lit (.string []), .lit (.string []), .lit (.string [])], .agg [.lit (.string []), .lit (.string []), .lit (.string [])]]], []) := by kernel_rfl
  obtain ⟨⟨x1, x2, x3⟩, hx, hx1⟩ := Option.map_eq_some_iff.1 hw
  simp only [Prod.mk.injEq] at hx1
  obtain ⟨rfl, rfl⟩ := hx1
  exact ⟨x3, hx⟩
set_option maxRecDepth 100000 in
theorem lifted (os : Os) (started : os.Started) (H : Type) (enc : TypeId × Value → H) (F : Stop.Interp) :
    ReturnsInHanded {} Tryz.checked os 4 .any ((OpenSpec.ofChange Rows.tupleBackSpec).preRow enc Tryz.prog Tryz.f4 Rows.tupleBackRow.domain false Rows.tupleBackRow.laid) (((OpenSpec.ofChange Rows.tupleBackSpec).at F).post enc Tryz.prog Tryz.f4 false true false false) := by
  obtain ⟨places, hx⟩ := reads os enc
  refine returnsInHanded_of_row (C := Tryz.checked) (s := OpenSpec.ofChange Rows.tupleBackSpec) own started (by kernel_rfl) Tryz.func4
    (witness_row_atRef (enc := enc) (C := Tryz.checked) false (laidWorld os) #[.agg #[.string ByteArray.empty, .string ByteArray.empty, .string ByteArray.empty, .string ByteArray.empty, .string ByteArray.empty, .string ByteArray.empty]] rfl (by kernel_rfl) (by kernel_rfl) (by kernel_rfl)
      (OpenSpec.preRow_of_cond 8 hx (by kernel_rfl) (fun k hk => by cases hk) (by kernel_rfl) (laid_met os))) ?_
  intro W base args ds gs before hval0 hW hcnd _ hsz0 hL _ _
  have hsz : (DataW.weightsEach Tryz.prog (Tryz.f4.params.toList ++ Rows.tupleBackSpec.plain.varTypes Tryz.prog) (ds ++ gs)).all (· ≤ reachBytes) = true := hsz0
  have hval : ∀ (j : Nat) t v, Tryz.f4.params[j]? = some t → args[j]? = some v → Value.okWide Tryz.prog W .any base t v := hval0
  have hW' := hW
  obtain ⟨p, q, hA0, hV, rfl, hfz, hnd⟩ := hW
  have hA : DataW.TrodAll enc Tryz.prog W 0 (fun _ => true) true Tryz.f4.params.toList args.toList ds p := hA0
  rw [Tryz.params4] at hA hval hsz
  obtain ⟨v0, vs0, d0, ds0, p0, q0, hargs, rfl, rfl, h0, r0⟩ := trodAll_cons hA
  obtain ⟨rfl, rfl, rfl⟩ := trodAll_nil r0
  obtain rfl : args = #[v0] := by cases args; simp_all
  obtain ⟨rfl, rfl⟩ := trodVars_none hV
  obtain ⟨m0, hp0, R0, ks0⟩ : ∃ m h, Rel Tryz.prog W.heap.size m h W ∧ Go.Proofs.YtgjcdpanabjcmaaGreatDoor.Ev.C.KStart h := by
    obtain ⟨mS, hr⟩ := start_laid2 (P := Tryz.prog) (W := W) (name := "doorman/token.keys") (l := Go.Proofs.YtgjcdpanabjcmaaGreatDoor.Ev.C.keysL) hL gKeys gType Tryz.underlying41 (Tryz.underlying9) (by kernel_rfl) (by decide)
    exact ⟨mS, _, hr, StartG.hg _ _ _⟩
  have hpos : 0 < W.heap.size := Nat.lt_of_le_of_lt (Nat.zero_le _) (R0.gb ks0.glob).1
  have k0 := h0
  have lt0 : ∀ x ∈ p0, x.block < W.heap.size := by obtain ⟨m, hm⟩ := k0; exact DataW.trod_lt m _ _ _ hm
  obtain ⟨m1, hp1, u0, z0, R1, l0, K0, V0, S0⟩ := opensTuple.agg Tryz.underlying25 (hval 0 25 v0 rfl rfl) h0 hpos R0
  clear hA0 hval0 hsz0 hsz
  refine (law_calls (P := Tryz.prog) (ov := Go.Proofs.YtgjcdpanabjcmaaGreatDoor.Ev.C.ovZ) (Tryz.checked).mixed Go.Proofs.YtgjcdpanabjcmaaGreatDoor.Ev.C.ovZ_ok Tryz.func4 (by decide +kernel) (by kernel_rfl) R1 (.cons V0 .nil) (tupleBack_answer z0 (ks0.keep R0.wf K0) R1.wf S0)).mono fun e W' ⟨he, bel⟩ => ?_
  subst he
  exact ⟨_, rfl, _, _, _, [], _, [], hW', trodAll_mk1 (shut_bool Tryz.underlying4 _), (trodAll_cons_mk (Below.trod laidOut (by kernel_rfl) (of_decide_eq_true (by kernel_rfl)) k0 bel lt0) trodAll_mk0), rfl, bel.frame _, fun h => by cases h⟩
theorem said : Rows.TupleBackSaid :=
  OpenClaim.holds_of_cond 4 Tryz.f4 rfl rfl rfl rfl rfl rfl rfl ⟨rfl, rfl, rfl, rfl, rfl⟩ rfl rfl rfl rfl rfl (by kernel_rfl) Tryz.func4 (by kernel_rfl)
    (of_decide_eq_true (by kernel_rfl)) (by unfold Func.isWrapper; first | (rw [if_pos (by decide +kernel)]; kernel_rfl) | (rw [if_neg (by decide +kernel)]; exact ⟨rfl, rfl⟩))
    (fun os started H enc _ F => by rw [OpenClaim.pre_eq_preRow]; exact lifted os started H enc F)
theorem plain (f : FuncId) (fn : Func) (hf : Tryz.pinned.checked.prog.funcNamed "doorman/doormanlaw12.TupleBack" = some f) (hfn : Tryz.pinned.checked.prog.funcs[f]? = some fn) :
    true = Tryz.pinned.checked.prog.looks [] ∧ ∀ (j : Nat) t, fn.params[j]? = some t → Tryz.pinned.checked.prog.wantsStandIn t = false := by
  obtain rfl : f = 4 := Option.some.inj ((show Tryz.prog.funcNamed "doorman/doormanlaw12.TupleBack" = some 4 by kernel_rfl).symm.trans hf) |>.symm
  obtain rfl : fn = Tryz.f4 := (Option.some.inj (Tryz.func4.symm.trans hfn)).symm
  refine ⟨by kernel_rfl, fun j t ht => ?_⟩
  rw [Tryz.params4] at ht
  have hm : t ∈ #[25] := Array.mem_of_getElem? ht
  simp only [List.mem_toArray, List.mem_cons, List.not_mem_nil, or_false] at hm
  rcases hm with rfl
  · exact (show Tryz.prog.wantsStandIn 25 = false by kernel_rfl)
theorem card : Rows.TupleBackCardSaid :=
  Claim7.holds_tied_plain_at .later [] _ _ _ _ said (fun _ h => by cases h) (by kernel_rfl) (fun _ h => by cases h) tupleBack_row_tie rfl ⟨rfl, rfl⟩ (by kernel_rfl) rfl plain (by kernel_rfl)
end Go.Proofs.YtgjcdpanabjcmaaGreatDoor.tupleBack
namespace Go.Proofs.YtgjcdpanabjcmaaGreatDoor
theorem tupleBack_holds : Rows.TupleBackCardSaid := tupleBack.card
end Go.Proofs.YtgjcdpanabjcmaaGreatDoor

