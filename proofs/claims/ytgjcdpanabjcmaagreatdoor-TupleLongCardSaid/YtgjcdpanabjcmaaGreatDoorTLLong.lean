/- The law TupleTexts, walked. -/
import Derived.Test.YtgjcdpanabjcmaaGreatDoorTV
import Derived.Test.YtgjcdpanabjcmaaGreatDoorTAwake
import Derived.Test.YtgjcdpanabjcmaaGreatDoorCards
import Derived.Test.YtgjcdpanabjcmaaGreatDoorTie
import Derived.WalkKit
import Derived.ProofKit
import Derived.OpenShut
import Derived.ShutString
import Derived.ChangeOld
import Derived.Below
import Derived.SizedLaws
import Derived.Deep.DeepHandedRow
import Derived.Deep.DeepWitnessRowRef
import Derived.Lib.LaidTab
import Derived.Lib.LaidIn
import Derived.Lib.LaidU8
namespace Go.Proofs.YtgjcdpanabjcmaaGreatDoor.Ev.C
open Go Go.Proofs.YtgjcdpanabjcmaaGreatDoor.Ev
set_option linter.unusedSimpArgs false
set_option linter.unusedVariables false
theorem parseV_parts (s : T8) : ∃ (t : Tp) (e : Int), parseV s = .tup [.agg (six t.1.1 t.1.2.1 t.1.2.2 t.2.1 t.2.2.1 t.2.2.2), .int .i64 e] ∧ ((parseN s = some t ∧ e = 0) ∨ (parseN s = none ∧ t = noT ∧ e = 11)) := by
  unfold parseV
  cases hN : parseN s with
  | none => exact ⟨noT, 11, rfl, .inr ⟨rfl, rfl, rfl⟩⟩
  | some t => exact ⟨t, 0, rfl, .inl ⟨rfl, rfl⟩⟩
theorem fromN_len {s : T8} {p : List T8} (h : fromN s = some p) : p.length = 6 := by
  unfold fromN at h
  split at h
  · cases h; exact pad6_len _
  · cases h
theorem fromV_parts (s : T8) : ∃ (a b c d e g : T8) (f : Bool), fromV s = .tup [.agg (six a b c d e g), .bool f] ∧ ((fromN s = some [a, b, c, d, e, g] ∧ f = true) ∨ (fromN s = none ∧ f = false ∧ [a, b, c, d, e, g] = [[], [], [], [], [], []])) := by
  unfold fromV
  cases hN : fromN s with
  | none => exact ⟨[], [], [], [], [], [], false, rfl, .inr ⟨rfl, rfl, rfl⟩⟩
  | some p =>
    obtain ⟨a, b, c, d, e, g, rfl⟩ := list6 (fromN_len hN)
    exact ⟨a, b, c, d, e, g, true, rfl, .inl ⟨rfl, rfl⟩⟩
theorem few_len {a b c d e g : T8} (h : fewB a b c d e g = true) : (a.length ≤ 120 ∧ b.length ≤ 120 ∧ c.length ≤ 120) ∧ d.length ≤ 120 ∧ e.length ≤ 120 ∧ g.length ≤ 120 := by
  simp [fewB] at h; omega
theorem eq3 (l m : List T8) (hl : l.length = 3) (hm : m.length = 3) : eqA (.flatK [.s, .s, .s]) (.agg (strCells l)) (.agg (strCells m)) = some (decide (l = m)) := by
  have := flatEqS l m (by omega)
  rw [show l.map (fun _ => FK.s) = [.s, .s, .s] from by
    match l, hl with
    | [_, _, _], _ => rfl] at this
  exact this
theorem eq6 (l m : List T8) (hl : l.length = 6) (hm : m.length = 6) : eqA (.flatK [.s, .s, .s, .s, .s, .s]) (.agg (strCells l)) (.agg (strCells m)) = some (decide (l = m)) := by
  have := flatEqS l m (by omega)
  rw [show l.map (fun _ => FK.s) = [.s, .s, .s, .s, .s, .s] from by
    match l, hl with
    | [_, _, _, _, _, _], _ => rfl] at this
  exact this
theorem few_at {L : List Ovr} (ho : ovP ov1 L n_doormanlaw12_few = some (pureO fewF)) {a b c d e g : T8} {h : H} {R : AOut → H → Prop} (hR : R (.val (.bool (fewB a b c d e g))) h) : WCall (EL L) n_doormanlaw12_few [.agg [.str a, .str b, .str c, .str d, .str e, .str g]] h R :=
  EL_call ho rfl hR
theorem key_len {a b c d e g : T8} (h : fewB a b c d e g = true) : (keyT a b c d e g).length ≤ 725 := by
  have := few_len h
  rw [keyT_eq]; simp; omega
theorem text_len {a b c d e g : T8} (h : fewB a b c d e g = true) : (textT a b c d e g).length ≤ 1000 := by
  have := few_len h
  unfold textT showN
  repeat' split
  all_goals simp
  all_goals omega
theorem texts_answer {h : H} (ks : KStart h) (wf : h.Wf) (a b c d e g s : T8) : WCall (EL LAll) n_doormanlaw12_TupleTexts [.agg (six a b c d e g), .str s] h fun r _ => r = .val (.bool true) := by
  refine WCall_ws ((EL_ov _ _).trans rfl) (EL_T T_doormanlaw12_TupleTexts) (by simp [doormanlaw12_TupleTexts_a]) ?_
  refine WS_of_seq (WS_of_ops ?_)
  simp only [doormanlaw12_TupleTexts_r0, go_sem, ↓reduceIte, Nat.reduceEqDiff, enterS, List.getD_cons_zero, List.getD_cons_succ, AV.cells]
  have b1 := Box.new wf (six a b c d e g)
  have wf1 := wf.new (six a b c d e g)
  have ks1 : KStart (h.new (six a b c d e g)) := ks.keep wf (Keep.new (Nat.le_refl _) _)
  generalize h.new [.str a, .str b, .str c, .str d, .str e, .str g] = g1 at b1 wf1 ks1
  refine WS_of_seq (WS_of_ops ?_)
  simp only [doormanlaw12_TupleTexts_r1, go_sem, ↓reduceIte, Nat.reduceEqDiff]
  refine (awakeZ ks1).mono ?_
  rintro _ _ ⟨rfl, rfl⟩
  simp only [go_sem, ↓reduceIte, Nat.reduceEqDiff]
  refine WS_of_seq (WS_of_seq (WS_of_ops ?_))
  simp only [doormanlaw12_TupleTexts_r2, go_sem, ↓reduceIte, Nat.reduceEqDiff, Bool.not_true]
  refine WS_of_cond ?_
  simp only [go_sem, ↓reduceIte, Nat.reduceEqDiff, Bool.false_eq_true]
  refine WS_of_skip ?_
  simp only [go_sem]
  refine WS_of_seq (WS_of_ops ?_)
  simp only [doormanlaw12_TupleTexts_r4, go_sem, ↓reduceIte, Nat.reduceEqDiff, b1.loadAgg (n := 6) rfl, enterS, List.getD_cons_zero, List.getD_cons_succ]
  refine few_at rfl ?_
  simp only [go_sem, ↓reduceIte, Nat.reduceEqDiff]
  refine WS_of_seq (WS_of_seq (WS_of_ops ?_))
  cases hf : fewB a b c d e g
  · simp only [doormanlaw12_TupleTexts_r5, go_sem, ↓reduceIte, Nat.reduceEqDiff, wanted, decide_true, decide_false, beq_self_eq_true, pickA, show (false == true) = false from rfl, show (true == false) = false from rfl, Bool.false_eq_true, undefA, Bool.not_true, Bool.not_false]
    refine WS_of_cond ?_
    simp only [go_sem, ↓reduceIte, Nat.reduceEqDiff]
    refine WS_of_seq (WS_of_ops ?_)
    simp only [doormanlaw12_TupleTexts_r6, go_sem, ↓reduceIte, Nat.reduceEqDiff]
    refine WS_of_ret ?_
    simp only [go_sem, ↓reduceIte, Nat.reduceEqDiff, doormanlaw12_TupleTexts_a]
  by_cases hs : s.length ≤ 300
  case neg =>
    have hs' : (300 : Int) < (s.length : Int) := by omega
    simp only [doormanlaw12_TupleTexts_r5, go_sem, ↓reduceIte, Nat.reduceEqDiff, wanted, decide_true, decide_false, beq_self_eq_true, pickA, show (false == true) = false from rfl, show (true == false) = false from rfl, Bool.false_eq_true, undefA, Bool.not_true, Bool.not_false, enterS, List.getD_cons_zero, List.getD_cons_succ, lenTA, Option.map_some, hs']
    refine WS_of_cond ?_
    simp only [go_sem, ↓reduceIte, Nat.reduceEqDiff]
    refine WS_of_seq (WS_of_ops ?_)
    simp only [doormanlaw12_TupleTexts_r6, go_sem, ↓reduceIte, Nat.reduceEqDiff]
    refine WS_of_ret ?_
    simp only [go_sem, ↓reduceIte, Nat.reduceEqDiff, doormanlaw12_TupleTexts_a]
  have hs' : ¬ (300 : Int) < (s.length : Int) := by omega
  simp only [doormanlaw12_TupleTexts_r5, go_sem, ↓reduceIte, Nat.reduceEqDiff, wanted, decide_true, decide_false, beq_self_eq_true, pickA, show (false == true) = false from rfl, show (true == false) = false from rfl, Bool.false_eq_true, undefA, Bool.not_true, Bool.not_false, enterS, List.getD_cons_zero, List.getD_cons_succ, lenTA, Option.map_some, hs']
  refine WS_of_cond ?_
  simp only [go_sem, ↓reduceIte, Nat.reduceEqDiff, Bool.false_eq_true]
  refine WS_of_skip ?_
  simp only [go_sem]
  obtain ⟨hl1, hl2⟩ := few_len hf
  have hkl := key_len hf
  obtain ⟨n, ne, en, ln, _⟩ := readV_parts s (by omega)
  obtain ⟨t, te, et, _⟩ := parseV_parts s
  obtain ⟨fa, fb, fc, fd, fe, fg, ff, ef, _⟩ := fromV_parts s
  have ef' := from_same s
  rw [ef] at ef'
  obtain ⟨q7, e7, x7, w7, k7⟩ := Box.newPut wf1 (z := [.str [], .str [], .str []]) (vs := [.str n.1, .str n.2.1, .str n.2.2]) (n := 3) rfl rfl rfl
  have b1' := b1.keep k7 (b1.lt wf1)
  refine WS_of_seq (WS_of_ops ?_)
  simp only [doormanlaw12_TupleTexts_r7, go_sem, ↓reduceIte, Nat.reduceEqDiff, enterS, List.getD_cons_zero, List.getD_cons_succ]
  refine tx6F_at (F := readV) rfl (by omega) ?_
  rw [en]
  simp only [go_sem, ↓reduceIte, Nat.reduceEqDiff, extractA, List.getElem?_cons_zero, List.getElem?_cons_succ, e7]
  obtain ⟨q8, e8, x8, w8, k8⟩ := Box.newPut w7 (z := [.str [], .str [], .str []]) (vs := [.str n.1, .str n.2.1, .str n.2.2]) (n := 3) rfl rfl rfl
  have b1'' := b1'.keep k8 (b1'.lt w7)
  have x7' := x7.keep k8 (x7.lt w7)
  refine WS_of_seq (WS_of_ops ?_)
  simp only [doormanlaw12_TupleTexts_r8, go_sem, ↓reduceIte, Nat.reduceEqDiff, enterS, List.getD_cons_zero, List.getD_cons_succ]
  refine tx6F_at (F := readV) rfl (by omega) ?_
  rw [en]
  simp only [go_sem, ↓reduceIte, Nat.reduceEqDiff, extractA, List.getElem?_cons_zero, List.getElem?_cons_succ, e8]
  obtain ⟨q9, e9, x9, w9, k9⟩ := Box.newPut w8 (z := six [] [] [] [] [] []) (vs := six t.1.1 t.1.2.1 t.1.2.2 t.2.1 t.2.2.1 t.2.2.2) (n := 6) rfl rfl rfl
  have b1''' := b1''.keep k9 (b1''.lt w8)
  have x7'' := x7'.keep k9 (x7'.lt w8)
  have x8' := x8.keep k9 (x8.lt w8)
  refine WS_of_seq (WS_of_ops ?_)
  simp only [doormanlaw12_TupleTexts_r9, go_sem, ↓reduceIte, Nat.reduceEqDiff, enterS, List.getD_cons_zero, List.getD_cons_succ]
  refine tx6F_at (F := parseV) rfl (by omega) ?_
  rw [et]
  simp only [go_sem, ↓reduceIte, Nat.reduceEqDiff, extractA, List.getElem?_cons_zero, List.getElem?_cons_succ, e9]
  obtain ⟨q10, e10, x10, w10, k10⟩ := Box.newPut w9 (z := six [] [] [] [] [] []) (vs := six t.1.1 t.1.2.1 t.1.2.2 t.2.1 t.2.2.1 t.2.2.2) (n := 6) rfl rfl rfl
  have b1'''' := b1'''.keep k10 (b1'''.lt w9)
  have x7''' := x7''.keep k10 (x7''.lt w9)
  have x8'' := x8'.keep k10 (x8'.lt w9)
  have x9' := x9.keep k10 (x9.lt w9)
  refine WS_of_seq (WS_of_ops ?_)
  simp only [doormanlaw12_TupleTexts_r10, go_sem, ↓reduceIte, Nat.reduceEqDiff, enterS, List.getD_cons_zero, List.getD_cons_succ]
  refine tx6F_at (F := parseV) rfl (by omega) ?_
  rw [et]
  simp only [go_sem, ↓reduceIte, Nat.reduceEqDiff, extractA, List.getElem?_cons_zero, List.getElem?_cons_succ, e10]
  obtain ⟨q11, e11, x11, w11, k11⟩ := Box.newPut w10 (z := six [] [] [] [] [] []) (vs := six fa fb fc fd fe fg) (n := 6) rfl rfl rfl
  have b1''''' := b1''''.keep k11 (b1''''.lt w10)
  have x7'''' := x7'''.keep k11 (x7'''.lt w10)
  have x8''' := x8''.keep k11 (x8''.lt w10)
  have x9'' := x9'.keep k11 (x9'.lt w10)
  have x10' := x10.keep k11 (x10.lt w10)
  refine WS_of_seq (WS_of_ops ?_)
  simp only [doormanlaw12_TupleTexts_r11, go_sem, ↓reduceIte, Nat.reduceEqDiff, enterS, List.getD_cons_zero, List.getD_cons_succ]
  refine tx5F_at (F := fromV) rfl (by omega) ?_
  rw [ef]
  simp only [go_sem, ↓reduceIte, Nat.reduceEqDiff, extractA, List.getElem?_cons_zero, List.getElem?_cons_succ, e11]
  obtain ⟨q12, e12, x12, w12, k12⟩ := Box.newPut w11 (z := six [] [] [] [] [] []) (vs := six fa fb fc fd fe fg) (n := 6) rfl rfl rfl
  have b1'''''' := b1'''''.keep k12 (b1'''''.lt w11)
  have x7''''' := x7''''.keep k12 (x7''''.lt w11)
  have x8'''' := x8'''.keep k12 (x8'''.lt w11)
  have x9''' := x9''.keep k12 (x9''.lt w11)
  have x10'' := x10'.keep k12 (x10'.lt w11)
  have x11' := x11.keep k12 (x11.lt w11)
  refine WS_of_seq (WS_of_ops ?_)
  simp only [doormanlaw12_TupleTexts_r12, go_sem, ↓reduceIte, Nat.reduceEqDiff, enterS, List.getD_cons_zero, List.getD_cons_succ]
  refine tx5F_at (F := rfromV) rfl (by omega) ?_
  rw [← ef']
  simp only [go_sem, ↓reduceIte, Nat.reduceEqDiff, extractA, List.getElem?_cons_zero, List.getElem?_cons_succ, e12]
  have m0 : loadA q12 true 3 (.ptr h.n 0) = some (.agg [.str a, .str b, .str c]) := by simp only [loadA, b1''''''.row, if_true]; rfl
  have m1 := b1''''''.loadAgg (n := 6) rfl
  have m7 := x7'''''.loadAgg (n := 3) rfl
  have m8 := x8''''.loadAgg (n := 3) rfl
  have m9 := x9'''.loadAgg (n := 6) rfl
  have m10 := x10''.loadAgg (n := 6) rfl
  have m11 := x11'.loadAgg (n := 6) rfl
  have m12 := x12.loadAgg (n := 6) rfl
  have c7 : eqA (.flatK [.s, .s, .s]) (.agg [.str n.1, .str n.2.1, .str n.2.2]) (.agg [.str n.1, .str n.2.1, .str n.2.2]) = some true := (eq3 [n.1, n.2.1, n.2.2] [n.1, n.2.1, n.2.2] rfl rfl).trans (by simp)
  have c9 : eqA (.flatK [.s, .s, .s, .s, .s, .s]) (.agg (six t.1.1 t.1.2.1 t.1.2.2 t.2.1 t.2.2.1 t.2.2.2)) (.agg (six t.1.1 t.1.2.1 t.1.2.2 t.2.1 t.2.2.1 t.2.2.2)) = some true := (eq6 [t.1.1, t.1.2.1, t.1.2.2, t.2.1, t.2.2.1, t.2.2.2] [t.1.1, t.1.2.1, t.1.2.2, t.2.1, t.2.2.1, t.2.2.2] rfl rfl).trans (by simp)
  have c11 : eqA (.flatK [.s, .s, .s, .s, .s, .s]) (.agg (six fa fb fc fd fe fg)) (.agg (six fa fb fc fd fe fg)) = some true := (eq6 [fa, fb, fc, fd, fe, fg] [fa, fb, fc, fd, fe, fg] rfl rfl).trans (by simp)
  have c12 : eqA .bool (.bool ff) (.bool ff) = some true := by simp [eqA]
  refine WS_of_seq (WS_of_draw ?_)
  simp only [doormanlaw12_TupleTexts_r13, go_sem, ↓reduceIte, Nat.reduceEqDiff, and_self, true_and, List.filter_cons, List.filter_nil, Nat.testBit, Nat.reduceShiftRight, Nat.reduceAnd, Nat.reduceBNe, Bool.not_false, Bool.not_true, Bool.false_eq_true, bne_self_eq_false, wanted, fieldAddrA, Nat.zero_add, Nat.add_zero, Nat.reduceAdd, m0, enterS, List.getD_cons_zero, List.getD_cons_succ]
  refine ndF_at (F := fun a b c => .str (showN a b c)) rfl (by omega) (by omega) (by omega) ?_
  simp only [go_sem, ↓reduceIte, Nat.reduceEqDiff, and_self, true_and, List.filter_cons, List.filter_nil, Nat.testBit, Nat.reduceShiftRight, Nat.reduceAnd, Nat.reduceBNe, Bool.not_false, Bool.not_true, Bool.false_eq_true, bne_self_eq_false, wanted, fieldAddrA, Nat.zero_add, Nat.add_zero, Nat.reduceAdd, m0, enterS, List.getD_cons_zero, List.getD_cons_succ]
  refine ndF_at (F := fun a b c => .str (showN a b c)) rfl (by omega) (by omega) (by omega) ?_
  simp only [go_sem, ↓reduceIte, Nat.reduceEqDiff, and_self, true_and, List.filter_cons, List.filter_nil, Nat.testBit, Nat.reduceShiftRight, Nat.reduceAnd, Nat.reduceBNe, Bool.not_false, Bool.not_true, Bool.false_eq_true, bne_self_eq_false, wanted, decide_true, decide_false, beq_self_eq_true, pickA, show (false == true) = false from rfl, show (true == false) = false from rfl, Bool.false_eq_true, undefA, Bool.not_true, Bool.not_false, fieldAddrA, Nat.zero_add, Nat.add_zero, Nat.reduceAdd, m0, m1, enterS, List.getD_cons_zero, List.getD_cons_succ]
  refine tpF_at (F := fun a b c d e g => .str (textT a b c d e g)) rfl (by omega) (by omega) ?_
  simp only [go_sem, ↓reduceIte, Nat.reduceEqDiff, and_self, true_and, List.filter_cons, List.filter_nil, Nat.testBit, Nat.reduceShiftRight, Nat.reduceAnd, Nat.reduceBNe, Bool.not_false, Bool.not_true, Bool.false_eq_true, bne_self_eq_false, wanted, decide_true, decide_false, beq_self_eq_true, pickA, show (false == true) = false from rfl, show (true == false) = false from rfl, Bool.false_eq_true, undefA, Bool.not_true, Bool.not_false, fieldAddrA, Nat.zero_add, Nat.add_zero, Nat.reduceAdd, m0, m1, enterS, List.getD_cons_zero, List.getD_cons_succ]
  refine tpF_at (F := fun a b c d e g => .str (textT a b c d e g)) rfl (by omega) (by omega) ?_
  simp only [go_sem, ↓reduceIte, Nat.reduceEqDiff, and_self, true_and, List.filter_cons, List.filter_nil, Nat.testBit, Nat.reduceShiftRight, Nat.reduceAnd, Nat.reduceBNe, Bool.not_false, Bool.not_true, Bool.false_eq_true, bne_self_eq_false, wanted, decide_true, decide_false, beq_self_eq_true, pickA, show (false == true) = false from rfl, show (true == false) = false from rfl, Bool.false_eq_true, undefA, Bool.not_true, Bool.not_false, fieldAddrA, Nat.zero_add, Nat.add_zero, Nat.reduceAdd, m0, m1, enterS, List.getD_cons_zero, List.getD_cons_succ]
  refine key_at rfl (by omega) ?_
  simp only [go_sem, ↓reduceIte, Nat.reduceEqDiff, and_self, true_and, List.filter_cons, List.filter_nil, Nat.testBit, Nat.reduceShiftRight, Nat.reduceAnd, Nat.reduceBNe, Bool.not_false, Bool.not_true, Bool.false_eq_true, bne_self_eq_false, wanted, decide_true, decide_false, beq_self_eq_true, pickA, show (false == true) = false from rfl, show (true == false) = false from rfl, Bool.false_eq_true, undefA, Bool.not_true, Bool.not_false, fieldAddrA, Nat.zero_add, Nat.add_zero, Nat.reduceAdd, m0, m1, enterS, List.getD_cons_zero, List.getD_cons_succ]
  refine key_at rfl (by omega) ?_
  simp only [go_sem, ↓reduceIte, Nat.reduceEqDiff, and_self, true_and, List.filter_cons, List.filter_nil, Nat.testBit, Nat.reduceShiftRight, Nat.reduceAnd, Nat.reduceBNe, Bool.not_false, Bool.not_true, Bool.false_eq_true, bne_self_eq_false, wanted, decide_true, decide_false, beq_self_eq_true, pickA, show (false == true) = false from rfl, show (true == false) = false from rfl, Bool.false_eq_true, undefA, Bool.not_true, Bool.not_false, fieldAddrA, Nat.zero_add, Nat.add_zero, Nat.reduceAdd, m0, m1, enterS, List.getD_cons_zero, List.getD_cons_succ, m7, m8, m9, m10, m11, m12, c7, c9, c11, c12]
  refine WS_of_ret ?_
  simp only [go_sem, ↓reduceIte, Nat.reduceEqDiff, doormanlaw12_TupleTexts_a]
end Go.Proofs.YtgjcdpanabjcmaaGreatDoor.Ev.C

/- The law TupleLong, walked. -/
namespace Go.Proofs.YtgjcdpanabjcmaaGreatDoor.Ev.C
open Go Go.Proofs.YtgjcdpanabjcmaaGreatDoor.Ev
set_option linter.unusedSimpArgs false
set_option linter.unusedVariables false
theorem rem_small8 {n k : Nat} (hn : n < 4611686018427387904) (hk : 0 < k) (hk2 : k < 4611686018427387904) : Int.tmod (IntKind.i64.wrap (n : Int)) (k : Int) = ((n % k : Nat) : Int) := by
  rw [wrapI (by omega)]
  rfl
/-- so many times é -/
def longS (k : Nat) : T8 := (List.replicate k ([195, 169] : T8)).flatten
theorem longS_succ (k : Nat) : longS (k + 1) = longS k ++ [195, 169] := by
  unfold longS
  rw [List.replicate_succ', List.flatten_append]; simp
theorem longS_len (k : Nat) : (longS k).length = 2 * k := by
  induction k with
  | zero => rfl
  | succ k ih => rw [longS_succ, List.length_append, ih]; simp; omega
/-- the law's names -/
def longL : List T8 := [[100, 111, 99], [49], [111, 119, 110], [117, 115, 101, 114], [97], [105, 110]]
def plainB (s : T8) : Bool := s.all fun b => !(b == 0) && (!(b == 35) && (!(b == 58) && !(b == 64)))
theorem long_formed : ∀ w, w < 6 → ∀ k, k < 30 → formedL (longL.set w (longS k)) = (decide (k ≤ 24) && (decide (0 < k) || decide (w = 5))) := by decide +kernel
theorem long_plain : ∀ w, w < 6 → ∀ k, k < 30 → (longL.set w (longS k)).all (fun s => plainB s && decide (s.length ≤ 120)) = true := by decide +kernel
theorem plain_no {s : T8} (h : plainB s = true) : (0 : UInt8) ∉ s ∧ (35 : UInt8) ∉ s ∧ (58 : UInt8) ∉ s ∧ (64 : UInt8) ∉ s := by
  unfold plainB at h
  rw [List.all_eq_true] at h
  refine ⟨fun m => ?_, fun m => ?_, fun m => ?_, fun m => ?_⟩ <;> (have := h _ m; revert this; decide)
theorem readN_plain {a b c : T8} (ha : plainB a = true) (hb : plainB b = true) (hc : plainB c = true) : readN (showN a b c) = if formedN a b c = true then some (a, b, c) else none := by
  have na := plain_no ha; have nb := plain_no hb; have nc := plain_no hc
  have hp : cutS (showN a b c) 35 = (a ++ 58 :: b, c, !decide (c = [])) := by
    have hno : (35 : UInt8) ∉ a ++ 58 :: b := by
      intro hm
      rcases List.mem_append.1 hm with hm | hm
      · exact na.2.1 hm
      · rcases List.mem_cons.1 hm with e | hm
        · exact absurd e (by decide)
        · exact nb.2.1 hm
    by_cases h0 : c = []
    · subst h0
      have : showN a b [] = a ++ 58 :: b := by simp [showN]
      rw [this, cutS_no hno]; simp
    · have : showN a b c = (a ++ 58 :: b) ++ 35 :: c := by simp [showN, h0]
      rw [this, cutS_at c hno]; simp [h0]
  have hq : cutS (a ++ 58 :: b) 58 = (a, b, true) := cutS_at b na.2.2.1
  unfold readN
  simp only [hp, hq, and_true]
theorem showN_plain {a b c : T8} (ha : plainB a = true) (hb : plainB b = true) (hc : plainB c = true) : (64 : UInt8) ∉ showN a b c := by
  have na := plain_no ha; have nb := plain_no hb; have nc := plain_no hc
  unfold showN
  intro hm
  simp only [List.mem_append, List.mem_singleton] at hm
  rcases hm with ((hm | hm) | hm) | hm
  · exact na.2.2.2 hm
  · exact absurd hm (by decide)
  · exact nb.2.2.2 hm
  · split at hm
    · cases hm
    · rcases List.mem_cons.1 hm with e | e
      · exact absurd e (by decide)
      · exact nc.2.2.2 e
theorem parseN_plain {a b c d e g : T8} (ha : plainB a = true) (hb : plainB b = true) (hc : plainB c = true) (hd : plainB d = true) (he : plainB e = true) (hg : plainB g = true) : parseN (textT a b c d e g) = if formed6 a b c d e g = true then some ((a, b, c), (d, e, g)) else none := by
  have : cutS (textT a b c d e g) 64 = (showN a b c, showN d e g, true) := by
    unfold textT
    rw [List.append_assoc]
    exact cutS_at _ (showN_plain ha hb hc)
  unfold parseN
  simp only [this, readN_plain ha hb hc, readN_plain hd he hg]
  rw [formed6_of]
  cases h1 : formedN a b c
  · simp
  cases h2 : formedN d e g
  · simp
  by_cases h0 : c = []
  · simp [h0]
  · simp [h0]
theorem fromN_plain {a b c d e g : T8} (ha : plainB a = true) (hb : plainB b = true) (hc : plainB c = true) (hd : plainB d = true) (he : plainB e = true) (hg : plainB g = true) : fromN (keyT a b c d e g) = if formed6 a b c d e g = true then some [a, b, c, d, e, g] else none := by
  have hs := splitB_key (plain_no ha).1 (plain_no hb).1 (plain_no hc).1 (plain_no hd).1 (plain_no he).1 (plain_no hg).1
  unfold fromN
  rw [hs]
  have hf : formedL (pad6 [a, b, c, d, e, g]) = formed6 a b c d e g := rfl
  rw [hf]
  by_cases h : formed6 a b c d e g = true
  · rw [if_pos ⟨by simp, h, rfl⟩, if_pos h]; rfl
  · rw [if_neg (fun k => h k.2.1), if_neg h]
theorem afillL : afill (zeros [AV.str []] (6 * 1)) [(0, 1, .str [100, 111, 99]), (1, 1, .str [49]), (2, 1, .str [111, 119, 110]), (3, 1, .str [117, 115, 101, 114]), (4, 1, .str [97]), (5, 1, .str [105, 110])] = some (longL.map AV.str) := rfl
theorem long_answer {h : H} (ks : KStart h) (wf : h.Wf) (wh n : Nat) (hwh : wh < 256) (hn : n < 256) : WCall (EL LAll) n_doormanlaw12_TupleLong [.int .u8 (wh : Int), .int .u8 (n : Int)] h fun r _ => r = .val (.bool true) := by
  refine WCall_ws ((EL_ov _ _).trans rfl) (EL_T T_doormanlaw12_TupleLong) (by simp [doormanlaw12_TupleLong_a]) ?_
  refine WS_of_seq (WS_of_ops ?_)
  simp only [doormanlaw12_TupleLong_r0, go_sem, ↓reduceIte, Nat.reduceEqDiff]
  refine WS_of_seq (WS_of_ops ?_)
  simp only [doormanlaw12_TupleLong_r1, go_sem, ↓reduceIte, Nat.reduceEqDiff]
  refine (awakeZ ks).mono ?_
  rintro _ q ⟨rfl, hq⟩
  obtain rfl : h = q := hq.symm
  simp only [go_sem, ↓reduceIte, Nat.reduceEqDiff]
  refine WS_of_seq (WS_of_seq (WS_of_ops ?_))
  simp only [doormanlaw12_TupleLong_r2, go_sem, ↓reduceIte, Nat.reduceEqDiff, Bool.not_true]
  refine WS_of_cond ?_
  simp only [go_sem, ↓reduceIte, Nat.reduceEqDiff, Bool.false_eq_true]
  refine WS_of_skip ?_
  simp only [go_sem]
  have hk30 : Int.tmod (IntKind.i64.wrap (n : Int)) 30 = ((n % 30 : Nat) : Int) := rem_small8 (k := 30) (by omega) (by omega) (by omega)
  have hk6 : Int.tmod (IntKind.i64.wrap (wh : Int)) 6 = ((wh % 6 : Nat) : Int) := rem_small8 (k := 6) (by omega) (by omega) (by omega)
  have hk : n % 30 < 30 := Nat.mod_lt _ (by decide)
  have hw : wh % 6 < 6 := Nat.mod_lt _ (by decide)
  generalize n % 30 = k at hk30 hk
  generalize wh % 6 = w at hk6 hw
  refine WS_of_seq (WS_of_ops ?_)
  simp only [doormanlaw12_TupleLong_r4, go_sem, ↓reduceIte, Nat.reduceEqDiff, enterS, List.getD_cons_zero, List.getD_cons_succ, cvIntA, show ¬ ((30 : Int) = 0) by decide, hk30]
  refine WS_of_seq (WS_of_ops ?_)
  simp only [doormanlaw12_TupleLong_r5, go_sem, ↓reduceIte, Nat.reduceEqDiff]
  refine WS_of_seq (WS_of_seq (WS_of_ops ?_))
  simp only [doormanlaw12_TupleLong_r6, go_sem, ↓reduceIte, Nat.reduceEqDiff]
  refine WS_of_block (WS_of_loop (fun m z q => h = q ∧ ∃ i : Nat, m = k - i ∧ i ≤ k ∧ z 0 = .int .u8 (wh : Int) ∧ z 6 = .int .i64 (k : Int) ∧ z 7 = .str (longS i) ∧ z 8 = .int .i64 (i : Int)) ?_ k ?_)
  case refine_2 => exact ⟨rfl, 0, rfl, by omega, rfl, rfl, rfl, rfl⟩
  rintro m z q ⟨rfl, i, rfl, hi, z0, z6, z7, z8⟩
  show WS (EL LAll) doormanlaw12_TupleLong_l10 _ _ _ _
  refine WS_of_seq (WS_of_seq (WS_of_ops ?_))
  by_cases hp : i < k
  case pos =>
    have hp' : (i : Int) < (k : Int) := by omega
    simp only [doormanlaw12_TupleLong_r7, go_sem, ↓reduceIte, Nat.reduceEqDiff, z6, z8, hp', decide_true]
    refine WS_of_cond ?_
    simp only [go_sem, ↓reduceIte, Nat.reduceEqDiff]
    refine WS_of_skip ?_
    simp only [go_sem]
    have e1 : (longS i).length + ([195, 169] : T8).length ≤ big := by rw [longS_len]; simp [big]; omega
    refine WS_of_seq (WS_of_block (WS_of_ops ?_))
    simp only [doormanlaw12_TupleLong_r8, go_sem, ↓reduceIte, Nat.reduceEqDiff, z7, e1]
    refine WS_of_ops ?_
    have a1 : IntKind.i64.wrap ((i : Int) + 1) = ((i + 1 : Nat) : Int) := wrapI (n := i + 1) (by omega)
    simp only [doormanlaw12_TupleLong_r9, go_sem, ↓reduceIte, Nat.reduceEqDiff, z8, a1]
    exact ⟨k - (i + 1), by omega, trivial, i + 1, rfl, by omega, z0, z6, by rw [longS_succ], rfl⟩
  obtain rfl : i = k := by omega
  have hp' : ¬ (i : Int) < (i : Int) := by omega
  simp only [doormanlaw12_TupleLong_r7, go_sem, ↓reduceIte, Nat.reduceEqDiff, z6, z8, hp', decide_false]
  refine WS_of_cond ?_
  simp only [go_sem, ↓reduceIte, Nat.reduceEqDiff, Bool.false_eq_true]
  refine WS_of_exit ?_
  simp only [go_sem, ↓reduceIte, Nat.reduceEqDiff]
  refine WS_of_seq (WS_of_ops ?_)
  simp only [doormanlaw12_TupleLong_r11, go_sem, ↓reduceIte, Nat.reduceEqDiff, parts, List.map_cons, List.map_nil, AOpd.ev, afillL]
  have b1 : CBox AV.str h.n longL (h.new (longL.map AV.str)) := Box.new wf _
  have wf1 := wf.new (longL.map AV.str)
  generalize h.new (longL.map AV.str) = g1 at b1 wf1
  obtain ⟨x1, _⟩ := CBox.at b1 (i := w) (n := 6) hw rfl .i64
  obtain ⟨g2, e2, b2, k2⟩ := CBox.put str1 wf1 b1 (i := w) hw (longS i)
  have wf2 := k2.wf wf1
  refine WS_of_seq (WS_of_ops ?_)
  simp only [doormanlaw12_TupleLong_r12, go_sem, ↓reduceIte, Nat.reduceEqDiff, z0, z7, cvIntA, show ¬ ((6 : Int) = 0) by decide, hk6, x1, e2]
  have hform := long_formed w hw i hk
  have hplain := long_plain w hw i hk
  obtain ⟨a, b, c, d, e, g, hL⟩ := list6 (p := longL.set w (longS i)) (by simp [longL])
  rw [hL] at hform hplain b2
  have hf6 : formedL [a, b, c, d, e, g] = formed6 a b c d e g := rfl
  rw [hf6] at hform
  simp only [List.all_cons, List.all_nil, Bool.and_true, Bool.and_eq_true, decide_eq_true_eq] at hplain
  obtain ⟨⟨pa, la⟩, ⟨pb, lb⟩, ⟨pc, lc⟩, ⟨pd, ld⟩, ⟨pe, le⟩, ⟨pg, lg⟩⟩ := hplain
  have hB : ∀ j : Nat, j < 6 → indexAddrA 1 (.slice h.n 0 6 1) (.int .i64 (j : Int)) = some (.ptr h.n j) := fun j hj => (CBox.at b2 (i := j) (n := 6) hj rfl .i64).1
  have i0 := hB 0 (by omega); have i1 := hB 1 (by omega); have i2 := hB 2 (by omega); have i3 := hB 3 (by omega); have i4 := hB 4 (by omega); have i5 := hB 5 (by omega)
  simp only [show ((0 : Nat) : Int) = 0 from rfl] at i0
  simp only [show ((1 : Nat) : Int) = 1 from rfl] at i1
  simp only [show ((2 : Nat) : Int) = 2 from rfl] at i2
  simp only [show ((3 : Nat) : Int) = 3 from rfl] at i3
  simp only [show ((4 : Nat) : Int) = 4 from rfl] at i4
  simp only [show ((5 : Nat) : Int) = 5 from rfl] at i5
  have b2' : Box h.n (six a b c d e g) g2 := b2
  obtain ⟨g3, e3, b3, wf3, k3⟩ := Box.newPut wf2 (z := six [] [] [] [] [] []) (vs := six a b c d e g) (n := 6) rfl rfl rfl
  have bn : Box h.n (six a b c d e g) (g2.new (six [] [] [] [] [] [])) := b2'.keep (Keep.new (Nat.le_refl _) _) (b2'.lt wf2)
  have b23 : Box h.n (six a b c d e g) g3 := b2'.keep k3 (b2'.lt wf2)
  have m0 : loadA g2 false 1 (.ptr h.n 0) = some (.str a) := b2'.load 1 0
  have o0 : loadA (g2.new (six [] [] [] [] [] [])) false 1 (.ptr h.n 0) = some (.str a) := bn.load 1 0
  have r0 : loadA g3 false 1 (.ptr h.n 0) = some (.str a) := b23.load 1 0
  have m1 : loadA g2 false 1 (.ptr h.n 1) = some (.str b) := b2'.load 1 1
  have o1 : loadA (g2.new (six [] [] [] [] [] [])) false 1 (.ptr h.n 1) = some (.str b) := bn.load 1 1
  have r1 : loadA g3 false 1 (.ptr h.n 1) = some (.str b) := b23.load 1 1
  have m2 : loadA g2 false 1 (.ptr h.n 2) = some (.str c) := b2'.load 1 2
  have o2 : loadA (g2.new (six [] [] [] [] [] [])) false 1 (.ptr h.n 2) = some (.str c) := bn.load 1 2
  have r2 : loadA g3 false 1 (.ptr h.n 2) = some (.str c) := b23.load 1 2
  have m3 : loadA g2 false 1 (.ptr h.n 3) = some (.str d) := b2'.load 1 3
  have o3 : loadA (g2.new (six [] [] [] [] [] [])) false 1 (.ptr h.n 3) = some (.str d) := bn.load 1 3
  have r3 : loadA g3 false 1 (.ptr h.n 3) = some (.str d) := b23.load 1 3
  have m4 : loadA g2 false 1 (.ptr h.n 4) = some (.str e) := b2'.load 1 4
  have o4 : loadA (g2.new (six [] [] [] [] [] [])) false 1 (.ptr h.n 4) = some (.str e) := bn.load 1 4
  have r4 : loadA g3 false 1 (.ptr h.n 4) = some (.str e) := b23.load 1 4
  have m5 : loadA g2 false 1 (.ptr h.n 5) = some (.str g) := b2'.load 1 5
  have o5 : loadA (g2.new (six [] [] [] [] [] [])) false 1 (.ptr h.n 5) = some (.str g) := bn.load 1 5
  have r5 : loadA g3 false 1 (.ptr h.n 5) = some (.str g) := b23.load 1 5
  refine WS_of_seq (WS_of_draw ?_)
  simp only [doormanlaw12_TupleLong_r13, go_sem, ↓reduceIte, Nat.reduceEqDiff, and_self, true_and, List.filter_cons, List.filter_nil, Nat.testBit, Nat.reduceShiftRight, Nat.reduceAnd, Nat.reduceBNe, Bool.not_false, Bool.not_true, Bool.false_eq_true, bne_self_eq_false, wanted, i0, i1, i2, i3, i4, i5, m0, m1, m2, m3, m4, m5, o0, o1, o2, o3, o4, o5, r0, r1, r2, r3, r4, r5, parts, List.map_cons, List.map_nil, afill3, afill30, afill6, afill60, afill66, e3]
  have hkl : (keyT a b c d e g).length ≤ 725 := by rw [keyT_eq]; simp; omega
  have htl : (textT a b c d e g).length ≤ 1000 := by
    unfold textT showN
    repeat' split
    all_goals simp
    all_goals omega
  obtain ⟨t, te, et, ht⟩ := parseV_parts (textT a b c d e g)
  obtain ⟨fa, fb, fc, fd, fe, fg, ff, ef, hff⟩ := fromV_parts (keyT a b c d e g)
  rw [parseN_plain pa pb pc pd pe pg] at ht
  rw [fromN_plain pa pb pc pd pe pg] at hff
  obtain ⟨q4, e4, x4, w4, k4⟩ := Box.newPut wf3 (z := six [] [] [] [] [] []) (vs := six t.1.1 t.1.2.1 t.1.2.2 t.2.1 t.2.2.1 t.2.2.2) (n := 6) rfl rfl rfl
  have b34 := b3.keep k4 (b3.lt wf3)
  refine WS_of_seq (WS_of_ops ?_)
  simp only [doormanlaw12_TupleLong_r14, go_sem, ↓reduceIte, Nat.reduceEqDiff, b3.loadAgg (n := 6) rfl, enterS, List.getD_cons_zero, List.getD_cons_succ]
  refine tpF_at (F := fun a b c d e g => .str (textT a b c d e g)) rfl (by omega) (by omega) ?_
  simp only [go_sem, ↓reduceIte, Nat.reduceEqDiff, enterS, List.getD_cons_zero, List.getD_cons_succ]
  refine tx6F_at (F := parseV) rfl (by omega) ?_
  rw [et]
  simp only [go_sem, ↓reduceIte, Nat.reduceEqDiff, extractA, List.getElem?_cons_zero, List.getElem?_cons_succ, e4]
  obtain ⟨q5, e5, x5, w5, k5⟩ := Box.newPut w4 (z := six [] [] [] [] [] []) (vs := six fa fb fc fd fe fg) (n := 6) rfl rfl rfl
  have b35 := b34.keep k5 (b34.lt w4)
  have x45 := x4.keep k5 (x4.lt w4)
  refine WS_of_seq (WS_of_ops ?_)
  simp only [doormanlaw12_TupleLong_r15, go_sem, ↓reduceIte, Nat.reduceEqDiff, b34.loadAgg (n := 6) rfl, enterS, List.getD_cons_zero, List.getD_cons_succ]
  refine key_at rfl (by omega) ?_
  simp only [go_sem, ↓reduceIte, Nat.reduceEqDiff, enterS, List.getD_cons_zero, List.getD_cons_succ]
  refine tx5F_at (F := fromV) rfl (by omega) ?_
  rw [ef]
  simp only [go_sem, ↓reduceIte, Nat.reduceEqDiff, extractA, List.getElem?_cons_zero, List.getElem?_cons_succ, e5]
  have m1 := b35.loadAgg (n := 6) rfl
  have m2 := x45.loadAgg (n := 6) rfl
  have m3 := x5.loadAgg (n := 6) rfl
  -- may it stand there?
  refine WS_mid (fun y q => q5 = q ∧ y 10 = .ptr g2.n 0 ∧ y 11 = .ptr g3.n 0 ∧ y 12 = .int .i64 te ∧ y 13 = .ptr q4.n 0 ∧ y 14 = .bool ff ∧ y 15 = .bool (formed6 a b c d e g)) ?_ ?_
  · refine WS_of_ops ?_
    rw [hform]
    by_cases c1 : i ≤ 24
    · have c1' : (i : Int) ≤ 24 := by omega
      by_cases c2 : 0 < i
      · have c2' : (0 : Int) < (i : Int) := by omega
        simp only [doormanlaw12_TupleLong_r16, go_sem, ↓reduceIte, Nat.reduceEqDiff, wanted, decide_true, decide_false, beq_self_eq_true, pickA, show (false == true) = false from rfl, show (true == false) = false from rfl, Bool.false_eq_true, undefA, Bool.not_true, Bool.not_false, z6, c1', c2']
        refine ⟨trivial, trivial, ?_, ?_, ?_, ?_, ?_, ?_⟩ <;> first | trivial | rfl | (simp [c1, c2])
      · have c2' : ¬ (0 : Int) < (i : Int) := by omega
        by_cases c3 : w = 5
        · have c3' : (w : Int) = 5 := by omega
          simp only [doormanlaw12_TupleLong_r16, go_sem, ↓reduceIte, Nat.reduceEqDiff, wanted, decide_true, decide_false, beq_self_eq_true, pickA, show (false == true) = false from rfl, show (true == false) = false from rfl, Bool.false_eq_true, undefA, Bool.not_true, Bool.not_false, z0, z6, c1', c2', cvIntA, show ¬ ((6 : Int) = 0) by decide, hk6, c3']
          refine ⟨trivial, trivial, ?_, ?_, ?_, ?_, ?_, ?_⟩ <;> first | trivial | rfl | (simp [c1, c2, c3])
        · have c3' : ¬ (w : Int) = 5 := by omega
          simp only [doormanlaw12_TupleLong_r16, go_sem, ↓reduceIte, Nat.reduceEqDiff, wanted, decide_true, decide_false, beq_self_eq_true, pickA, show (false == true) = false from rfl, show (true == false) = false from rfl, Bool.false_eq_true, undefA, Bool.not_true, Bool.not_false, z0, z6, c1', c2', cvIntA, show ¬ ((6 : Int) = 0) by decide, hk6, c3']
          refine ⟨trivial, trivial, ?_, ?_, ?_, ?_, ?_, ?_⟩ <;> first | trivial | rfl | (simp [c1, c2, c3])
    · have c1' : ¬ (i : Int) ≤ 24 := by omega
      simp only [doormanlaw12_TupleLong_r16, go_sem, ↓reduceIte, Nat.reduceEqDiff, wanted, decide_true, decide_false, beq_self_eq_true, pickA, show (false == true) = false from rfl, show (true == false) = false from rfl, Bool.false_eq_true, undefA, Bool.not_true, Bool.not_false, z6, c1']
      refine ⟨trivial, trivial, ?_, ?_, ?_, ?_, ?_, ?_⟩ <;> first | trivial | rfl | (simp [c1])
  rintro y q ⟨rfl, y10, y11, y12, y13, y14, y15⟩
  refine WS_of_seq (WS_of_seq (WS_of_ops ?_))
  cases hF : formed6 a b c d e g
  · rw [hF] at y15 ht hff
    obtain rfl : te = 11 := by
      rcases ht with ⟨h1, _⟩ | ⟨_, _, h2⟩
      · simp at h1
      · exact h2
    obtain rfl : ff = false := by
      rcases hff with ⟨h1, _⟩ | ⟨_, h2, _⟩
      · simp at h1
      · exact h2
    simp only [doormanlaw12_TupleLong_r17, go_sem, ↓reduceIte, Nat.reduceEqDiff, y15]
    refine WS_of_cond ?_
    simp only [go_sem, ↓reduceIte, Nat.reduceEqDiff, Bool.false_eq_true]
    refine WS_of_skip ?_
    simp only [go_sem]
    refine WS_of_seq (WS_of_ops ?_)
    simp only [doormanlaw12_TupleLong_r19, go_sem, ↓reduceIte, Nat.reduceEqDiff, wanted, decide_true, decide_false, beq_self_eq_true, pickA, show (false == true) = false from rfl, show (true == false) = false from rfl, Bool.false_eq_true, undefA, Bool.not_true, Bool.not_false, y12, y14]
    refine WS_of_ret ?_
    simp only [go_sem, ↓reduceIte, Nat.reduceEqDiff, doormanlaw12_TupleLong_a]
  · rw [hF] at y15 ht hff
    have p1 : te = 0 ∧ [t.1.1, t.1.2.1, t.1.2.2, t.2.1, t.2.2.1, t.2.2.2] = [a, b, c, d, e, g] := by
      rcases ht with ⟨h1, h2⟩ | ⟨h1, _, _⟩
      · rw [if_pos rfl] at h1; cases h1; exact ⟨h2, rfl⟩
      · simp at h1
    have p2 : ff = true ∧ [fa, fb, fc, fd, fe, fg] = [a, b, c, d, e, g] := by
      rcases hff with ⟨h1, h2⟩ | ⟨h1, _, _⟩
      · rw [if_pos rfl] at h1; exact ⟨h2, (Option.some.inj h1).symm⟩
      · simp at h1
    obtain ⟨rfl, p1⟩ := p1
    obtain ⟨rfl, p2⟩ := p2
    have c7 : eqA (.flatK [.s, .s, .s, .s, .s, .s]) (.agg (six t.1.1 t.1.2.1 t.1.2.2 t.2.1 t.2.2.1 t.2.2.2)) (.agg (six a b c d e g)) = some (decide ([t.1.1, t.1.2.1, t.1.2.2, t.2.1, t.2.2.1, t.2.2.2] = [a, b, c, d, e, g])) := eq6 [t.1.1, t.1.2.1, t.1.2.2, t.2.1, t.2.2.1, t.2.2.2] [a, b, c, d, e, g] rfl rfl
    have c9 : eqA (.flatK [.s, .s, .s, .s, .s, .s]) (.agg (six fa fb fc fd fe fg)) (.agg (six a b c d e g)) = some (decide ([fa, fb, fc, fd, fe, fg] = [a, b, c, d, e, g])) := eq6 [fa, fb, fc, fd, fe, fg] [a, b, c, d, e, g] rfl rfl
    rw [decide_eq_true p1] at c7
    rw [decide_eq_true p2] at c9
    simp only [doormanlaw12_TupleLong_r17, go_sem, ↓reduceIte, Nat.reduceEqDiff, y15]
    refine WS_of_cond ?_
    simp only [go_sem, ↓reduceIte, Nat.reduceEqDiff]
    refine WS_of_seq (WS_of_ops ?_)
    simp only [doormanlaw12_TupleLong_r18, go_sem, ↓reduceIte, Nat.reduceEqDiff, wanted, decide_true, decide_false, beq_self_eq_true, pickA, show (false == true) = false from rfl, show (true == false) = false from rfl, Bool.false_eq_true, undefA, Bool.not_true, Bool.not_false, y10, y11, y12, y13, y14, m1, m2, m3, c7, c9]
    refine WS_of_ret ?_
    simp only [go_sem, ↓reduceIte, Nat.reduceEqDiff, doormanlaw12_TupleLong_a]
end Go.Proofs.YtgjcdpanabjcmaaGreatDoor.Ev.C

/- The answer of the law TupleLong, for every input: over the interpreter. -/
namespace Go.Proofs.YtgjcdpanabjcmaaGreatDoor
open Go Go.Proofs.YtgjcdpanabjcmaaGreatDoor.Ev
set_option linter.unusedVariables false
theorem tupleLong_answer {h : H} (a0 a1 : Int) (ks : C.KStart h) (wf : h.Wf) (w0 : (Lit.int .u8 a0).wf = true) (w1 : (Lit.int .u8 a1).wf = true) :
    WCall (env C.PP C.ovZ) C.n_doormanlaw12_TupleLong [.int .u8 a0, .int .u8 a1] h fun r _ => r = .val (.bool true) := by
  obtain ⟨x, y⟩ := u8_arg w0
  obtain ⟨x', y'⟩ := u8_arg w1
  obtain ⟨n, rfl⟩ := Int.eq_ofNat_of_zero_le x
  obtain ⟨m, rfl⟩ := Int.eq_ofNat_of_zero_le x'
  rw [← C.EL_env]
  exact C.long_answer ks wf n m (by omega) (by omega)
end Go.Proofs.YtgjcdpanabjcmaaGreatDoor

/- The law TupleLong holds for every input: its call returns true, on every tape. Conditions: none but those of the given statement itself (arguments of the types of its parameters). -/
namespace Go.Proofs.YtgjcdpanabjcmaaGreatDoor.tupleLong
open Go.ChangeShapes Go.WideShapes Go.ChangeAt Go.RowKit Go.Proofs.YtgjcdpanabjcmaaGreatDoor.Ev
open Go.ChangeMaps (open_string shut_string)
set_option linter.unusedVariables false
theorem own : ownKnob Tryz.prog.godebug = none := by kernel_rfl
theorem laidOut : laidOutB Tryz.prog = true := by kernel_rfl
theorem gKeys : Tryz.prog.globalNamed "doorman/token.keys" = some Go.Proofs.YtgjcdpanabjcmaaGreatDoor.Ev.C.g_token_keys := by kernel_rfl
theorem gType : (Tryz.prog.globals[Go.Proofs.YtgjcdpanabjcmaaGreatDoor.Ev.C.g_token_keys]?).map (·.type) = some 41 := by kernel_rfl
/-- a world that holds the list and the tables -/
noncomputable def laidWorld (os : Os) : World :=
  let N := (World.settled Tryz.prog os).heap.size
  let w0 := World.holding Tryz.prog os ⟨#[.cells #[.string ⟨#[116, 121, 112, 101]⟩, .string ⟨#[114, 101, 108]⟩, .string ⟨#[105, 115]⟩, .string ⟨#[116, 104, 105, 115]⟩] 9], #[], []⟩
  let put (h : Array Obj) (g : Nat) (cs : Array Value) : Array Obj := h.modify g fun
      | .cells _ t frozen => .cells cs t frozen
      | o => o
  let h1 := put w0.heap Go.Proofs.YtgjcdpanabjcmaaGreatDoor.Ev.C.g_token_keys #[.slice (some ⟨N, 0, none⟩) 4 4]
  let h2 := put h1 Go.Proofs.YtgjcdpanabjcmaaGreatDoor.Ev.C.g_utf8_first (Lib.firstTab.map fun z => Value.int .u8 z).toArray
  let h3 := put h2 Go.Proofs.YtgjcdpanabjcmaaGreatDoor.Ev.C.g_utf8_acceptRanges ((List.range 16).flatMap fun i => [Value.int .u8 (Lib.accLo i), Value.int .u8 (Lib.accHi i)]).toArray
  { w0 with heap := h3 }
set_option maxRecDepth 100000 in
theorem laid_met (os : Os) : laidMet Tryz.prog Rows.tupleLongRow.laid ((laidWorld os).forCall (fun _ _ => 0) ⟨#[], #[.int .u8 0, .int .u8 0], []⟩).memory :=
  (LaidIn.of_run (l := Rows.tupleLongRow.laid) [Go.Proofs.YtgjcdpanabjcmaaGreatDoor.Ev.C.g_token_keys, Go.Proofs.YtgjcdpanabjcmaaGreatDoor.Ev.C.g_utf8_first, Go.Proofs.YtgjcdpanabjcmaaGreatDoor.Ev.C.g_utf8_acceptRanges, (World.settled Tryz.prog os).heap.size] 8 (by kernel_rfl) (by kernel_rfl) (by kernel_rfl) (by kernel_rfl)).met
set_option maxRecDepth 100000 in
theorem reads (os : Os) {H : Type} (enc : TypeId × Value → H) : ∃ places, DataW.whole enc Tryz.prog ((laidWorld os).forCall (fun _ _ => 0) ⟨#[], #[.int .u8 0, .int .u8 0], []⟩).memory Tryz.f8.params.toList Rows.tupleLongSpec.vars false (#[.int .u8 0, .int .u8 0] : Array Value).toList 8 = some ([.lit (.int .u8 0), .lit (.int .u8 0)], [], places) := by
  have hw : (DataW.whole enc Tryz.prog ((laidWorld os).forCall (fun _ _ => 0) ⟨#[], #[.int .u8 0, .int .u8 0], []⟩).memory Tryz.f8.params.toList Rows.tupleLongSpec.vars false (#[.int .u8 0, .int .u8 0] : Array Value).toList 8).map (fun x => (x.1, x.2.1)) = some ([.lit (.int .u8 0), .lit (.int .u8 0)], []) := by kernel_rfl
  obtain ⟨⟨x1, x2, x3⟩, hx, hx1⟩ := Option.map_eq_some_iff.1 hw
  simp only [Prod.mk.injEq] at hx1
  obtain ⟨rfl, rfl⟩ := hx1
  exact ⟨x3, hx⟩
set_option maxRecDepth 100000 in
theorem lifted (os : Os) (started : os.Started) (H : Type) (enc : TypeId × Value → H) (F : Stop.Interp) :
    ReturnsInHanded {} Tryz.checked os 8 .any ((OpenSpec.ofChange Rows.tupleLongSpec).preRow enc Tryz.prog Tryz.f8 Rows.tupleLongRow.domain false Rows.tupleLongRow.laid) (((OpenSpec.ofChange Rows.tupleLongSpec).at F).post enc Tryz.prog Tryz.f8 false true false false) := by
  obtain ⟨places, hx⟩ := reads os enc
  refine returnsInHanded_of_row (C := Tryz.checked) (s := OpenSpec.ofChange Rows.tupleLongSpec) own started (by kernel_rfl) Tryz.func8
    (witness_row_atRef (enc := enc) (C := Tryz.checked) false (laidWorld os) #[.int .u8 0, .int .u8 0] rfl (by kernel_rfl) (by kernel_rfl) (by kernel_rfl)
      (OpenSpec.preRow_of_cond 8 hx (by kernel_rfl) (fun k hk => by cases hk) (by kernel_rfl) (laid_met os))) ?_
  intro W base args ds gs before hval0 hW hcnd _ hsz0 hL _ _
  have hsz : (DataW.weightsEach Tryz.prog (Tryz.f8.params.toList ++ Rows.tupleLongSpec.plain.varTypes Tryz.prog) (ds ++ gs)).all (· ≤ reachBytes) = true := hsz0
  have hval : ∀ (j : Nat) t v, Tryz.f8.params[j]? = some t → args[j]? = some v → Value.okWide Tryz.prog W .any base t v := hval0
  have hW' := hW
  obtain ⟨p, q, hA0, hV, rfl, hfz, hnd⟩ := hW
  have hA : DataW.TrodAll enc Tryz.prog W 0 (fun _ => true) true Tryz.f8.params.toList args.toList ds p := hA0
  rw [Tryz.params8] at hA hval hsz
  obtain ⟨v0, vs0, d0, ds0, p0, q0, hargs, rfl, rfl, h0, r0⟩ := trodAll_cons hA
  obtain ⟨v1, vs1, d1, ds1, p1, q1, rfl, rfl, rfl, h1, r1⟩ := trodAll_cons r0
  obtain ⟨rfl, rfl, rfl⟩ := trodAll_nil r1
  obtain rfl : args = #[v0, v1] := by cases args; simp_all
  obtain ⟨rfl, rfl⟩ := trodVars_none hV
  obtain ⟨m0, hp0, R0, ks0⟩ : ∃ m h, Rel Tryz.prog W.heap.size m h W ∧ Go.Proofs.YtgjcdpanabjcmaaGreatDoor.Ev.C.KStart h := by
    obtain ⟨mS, hr⟩ := start_laid2 (P := Tryz.prog) (W := W) (name := "doorman/token.keys") (l := Go.Proofs.YtgjcdpanabjcmaaGreatDoor.Ev.C.keysL) hL gKeys gType Tryz.underlying41 (Tryz.underlying9) (by kernel_rfl) (by decide)
    exact ⟨mS, _, hr, StartG.hg _ _ _⟩
  have hpos : 0 < W.heap.size := Nat.lt_of_le_of_lt (Nat.zero_le _) (R0.gb ks0.glob).1
  obtain ⟨a0, rfl, rfl, rfl, w0⟩ := open_int Tryz.underlying5 (hval 0 5 v0 rfl rfl) h0
  obtain ⟨a1, rfl, rfl, rfl, w1⟩ := open_int Tryz.underlying5 (hval 1 5 v1 rfl rfl) h1
  clear hA0 hval0 hsz0 hsz
  refine (law_calls (P := Tryz.prog) (ov := Go.Proofs.YtgjcdpanabjcmaaGreatDoor.Ev.C.ovZ) (Tryz.checked).mixed Go.Proofs.YtgjcdpanabjcmaaGreatDoor.Ev.C.ovZ_ok Tryz.func8 (by decide +kernel) (by kernel_rfl) R0 (.cons (.int .u8 a0) (.cons (.int .u8 a1) .nil)) (tupleLong_answer a0 a1 ks0 R0.wf w0 w1)).mono fun e W' ⟨he, bel⟩ => ?_
  subst he
  exact ⟨_, rfl, _, _, _, [], _, [], hW', trodAll_mk1 (shut_bool Tryz.underlying4 _), (trodAll_cons_mk (shut_int Tryz.underlying5 w0) (trodAll_cons_mk (shut_int Tryz.underlying5 w1) trodAll_mk0)), rfl, bel.frame _, fun h => by cases h⟩
theorem said : Rows.TupleLongSaid :=
  OpenClaim.holds_of_cond 8 Tryz.f8 rfl rfl rfl rfl rfl rfl rfl ⟨rfl, rfl, rfl, rfl, rfl⟩ rfl rfl rfl rfl rfl (by kernel_rfl) Tryz.func8 (by kernel_rfl)
    (of_decide_eq_true (by kernel_rfl)) (by unfold Func.isWrapper; first | (rw [if_pos (by decide +kernel)]; kernel_rfl) | (rw [if_neg (by decide +kernel)]; exact ⟨rfl, rfl⟩))
    (fun os started H enc _ F => by rw [OpenClaim.pre_eq_preRow]; exact lifted os started H enc F)
theorem plain (f : FuncId) (fn : Func) (hf : Tryz.pinned.checked.prog.funcNamed "doorman/doormanlaw12.TupleLong" = some f) (hfn : Tryz.pinned.checked.prog.funcs[f]? = some fn) :
    true = Tryz.pinned.checked.prog.looks [] ∧ ∀ (j : Nat) t, fn.params[j]? = some t → Tryz.pinned.checked.prog.wantsStandIn t = false := by
  obtain rfl : f = 8 := Option.some.inj ((show Tryz.prog.funcNamed "doorman/doormanlaw12.TupleLong" = some 8 by kernel_rfl).symm.trans hf) |>.symm
  obtain rfl : fn = Tryz.f8 := (Option.some.inj (Tryz.func8.symm.trans hfn)).symm
  refine ⟨by kernel_rfl, fun j t ht => ?_⟩
  rw [Tryz.params8] at ht
  have hm : t ∈ #[5, 5] := Array.mem_of_getElem? ht
  simp only [List.mem_toArray, List.mem_cons, List.not_mem_nil, or_false] at hm
  rcases hm with rfl | rfl
  · exact (show Tryz.prog.wantsStandIn 5 = false by kernel_rfl)
  · exact (show Tryz.prog.wantsStandIn 5 = false by kernel_rfl)
theorem card : Rows.TupleLongCardSaid :=
  Claim7.holds_tied_plain_at .later [] _ _ _ _ said (fun _ h => by cases h) (by kernel_rfl) (fun _ h => by cases h) tupleLong_row_tie rfl ⟨rfl, rfl⟩ (by kernel_rfl) rfl plain (by kernel_rfl)
end Go.Proofs.YtgjcdpanabjcmaaGreatDoor.tupleLong
namespace Go.Proofs.YtgjcdpanabjcmaaGreatDoor
theorem tupleLong_holds : Rows.TupleLongCardSaid := tupleLong.card
end Go.Proofs.YtgjcdpanabjcmaaGreatDoor

