/- The walk of ReplyPuts. -/
import Derived.Test.YthhibhhpcjggnabTRep5
namespace Go.Proofs.Ythhibhhpcjggnab.Ev.C
open Go Go.Proofs.Ythhibhhpcjggnab.Ev
set_option linter.unusedSimpArgs false
set_option linter.unusedVariables false
theorem putR_len {r : Rep} {M : Nat} (hM : M ≤ 200) (hf : FewR M r) (hm : r.more.length ≤ 1000) : (putR r).length ≤ 20000 := by
  unfold putR
  split
  · rename_i h
    obtain ⟨⟨a1, a2⟩, ⟨b1, b2⟩, ⟨c1, c2⟩, d1, d2⟩ := mayR_iff.1 h
    have hi : isN r.is < 18446744073709551616 := by unfold isN; split <;> decide
    have n1 := num_len9 (x := r.code.toNat) (by omega)
    have n2 := num_len9 (x := r.rev.toNat) (by omega)
    have n3 := num_len9 (x := r.steps.toNat) (by omega)
    have n4 := num_len9 hi
    have n5 := num_len9 (x := r.list.length) (by omega)
    have tl := txts_len (l := r.list) (by omega) hf.1
    have tl2 : (M + 9) * r.list.length ≤ 209 * 64 := Nat.mul_le_mul (by omega) d1
    have tm := txt_len (t := r.more) (by omega)
    simp only [body, lst, List.length_append]
    omega
  · exact Nat.zero_le _
theorem few_of {r : Rep} (h : (∀ t ∈ r.list, t.length ≤ 200) ∧ r.list.length ≤ 80 ∧ r.more.length ≤ 1000) : FewR 200 r := ⟨h.1, by have := h.2; omega, by have := h.2; omega⟩
theorem FewR.up {M : Nat} {r : Rep} (h : FewR M r) (hM : M ≤ 100000) : FewR 100000 r := ⟨fun t ht => Nat.le_trans (h.1 t ht) hM, h.2⟩
abbrev frow (e steps : Int) : List AV := repL ⟨e, 0, steps, false, [], []⟩ .nils .nils
theorem rputs_answer {vl vm : AV} {h : H} {r : Rep} {e steps : Int} (wf : h.Wf) (a : IsRep h r vl vm) :
    WCall E0 8 [.agg (repL r vl vm), .int .i64 e, .int .i64 steps] h fun x _ => x = .val (.bool true) := by
  refine WCall_ws rfl T8 (by simp [f8_a]) ?_
  show WS E0 f8_c [] _ _ _
  refine WS_of_seq (WS_of_ops ?_)
  simp only [f8_r0, go_sem, ↓reduceIte, Nat.reduceEqDiff, AV.cells]
  have b1 := Box.new wf (repL r vl vm)
  have k1 : Keep (Old h.n) h (h.new (repL r vl vm)) := Keep.new (Nat.le_refl _) _
  generalize h.new (repL r vl vm) = h1 at b1 k1 ⊢
  have wf1 := k1.wf wf
  have a1 := a.keep k1
  have hlt := b1.lt wf1
  refine WS_of_seq (WS_of_ops ?_)
  simp only [f8_r1, go_sem, ↓reduceIte, Nat.reduceEqDiff]
  refine WCall_ov (g := yes) rfl rfl ?_
  simp only [go_sem, ↓reduceIte, Nat.reduceEqDiff]
  refine WS_of_seq (WS_of_seq (WS_of_ops ?_))
  simp only [f8_r2, go_sem, ↓reduceIte, Nat.reduceEqDiff]
  refine WS_of_cond ?_
  simp only [go_sem, ↓reduceIte, Nat.reduceEqDiff, Bool.not_true, Bool.false_eq_true]
  refine WS_of_skip ?_
  simp only [go_sem]
  refine WS_of_seq (WS_of_ops ?_)
  simp only [f8_r4, go_sem, ↓reduceIte, Nat.reduceEqDiff, b1.loadAgg (n := 6) rfl]
  refine (few_spec wf1 a1).mono ?_
  rintro x h2 ⟨⟨fw, rfl, hfw⟩, k2⟩
  have wf2 := k2.wf wf1
  have a2 := a1.keep k2
  have b2 := b1.keep k2 hlt
  simp only [go_sem, ↓reduceIte, Nat.reduceEqDiff]
  refine WS_of_seq (WS_of_seq (WS_of_ops ?_))
  simp only [f8_r5, go_sem, ↓reduceIte, Nat.reduceEqDiff]
  refine WS_of_cond ?_
  simp only [go_sem, ↓reduceIte, Nat.reduceEqDiff]
  cases fw with
  | false =>
    simp only [Bool.not_false, ↓reduceIte]
    refine WS_of_seq (WS_of_ops ?_)
    simp only [f8_r6, go_sem, ↓reduceIte]
    refine WS_of_ret ?_
    simp only [go_sem, f8_a, ↓reduceIte, Nat.reduceEqDiff]
  | true =>
  have hw := hfw rfl
  have hf := few_of hw
  simp only [Bool.not_true, ↓reduceIte, Bool.false_eq_true]
  refine WS_of_skip ?_
  simp only [go_sem]
  refine WS_of_seq (WS_of_ops ?_)
  simp only [f8_r7, go_sem, ↓reduceIte, Nat.reduceEqDiff, b2.loadAgg (n := 6) rfl]
  refine (putR_spec wf2 a2 (by omega) hf).mono ?_
  rintro x h3 ⟨v3, rfl, p3, o3, k3⟩
  have wf3 := k3.wf wf2
  have a3 := a2.keep k3
  have hlt2 := b2.lt wf2
  have b3 := b2.keep k3 hlt2
  have hlt3 := b3.lt wf3
  simp only [go_sem, ↓reduceIte, Nat.reduceEqDiff]
  refine WS_of_seq (WS_of_ops ?_)
  simp only [f8_r8, go_sem, ↓reduceIte, Nat.reduceEqDiff]
  refine (fail_spec wf3).mono ?_
  rintro x h4 ⟨rfl, k4⟩
  have wf4 := k4.wf wf3
  simp only [go_sem, ↓reduceIte, Nat.reduceEqDiff]
  have b5 := Box.new wf4 [.int .i64 0, .int .i64 0, .int .i64 0, .bool false, .nils, .nils]
  have k5 : Keep (Old h4.n) h4 (h4.new [.int .i64 0, .int .i64 0, .int .i64 0, .bool false, .nils, .nils]) := Keep.new (Nat.le_refl _) _
  generalize h4.new [.int .i64 0, .int .i64 0, .int .i64 0, .bool false, .nils, .nils] = h5 at b5 k5 ⊢
  have wf5 := k5.wf wf4
  obtain ⟨h6, e6, b6, k6⟩ := b5.putAll wf5 (vs := frow e steps) (n := 6) rfl rfl rfl
  have wf6 := k6.wf wf5
  have k36 : Keep (Old h3.n) h3 h6 := (k4.then (Nat.le_refl _) k5).trans (k6.newbox wf5 (Nat.le_trans k4.n k5.n) k4.n)
  have a6 := a3.keep k36
  have bq6 := b3.keep k36 hlt3
  have s3 := o3.slot wf3
  have p6 := p3.keep k36 s3
  have s6 := s3.keep k36 (K' := Old h6.n) fun o ho => Nat.lt_of_lt_of_le ho k36.n
  have hltB := b6.lt wf6
  have hltQ := bq6.lt wf6
  simp only [go_sem, ↓reduceIte, Nat.reduceEqDiff, e6]
  refine WS_of_seq (WS_of_seq (WS_of_draw ?_))
  simp only [f8_r9, go_sem, ↓reduceIte, Nat.reduceEqDiff, p6.str, bq6.loadAgg (n := 6) rfl, and_self, true_and, List.filter_cons, List.filter_nil, Nat.testBit, Nat.reduceShiftRight, Nat.reduceAnd, Nat.reduceBNe, Bool.not_false, Bool.not_true, Bool.false_eq_true, bne_self_eq_false]
  refine (plain_spec wf6 a6).mono ?_
  rintro x h7 ⟨rfl, k7⟩
  have wf7 := k7.wf wf6
  have p7 := p6.keep k7 s6
  have s7 := s6.keep k7 (K' := Old h7.n) fun o ho => Nat.lt_of_lt_of_le ho k7.n
  have a7 := a6.keep k7
  have b7 := b6.keep k7 hltB
  have bq7 := bq6.keep k7 hltQ
  simp only [go_sem, ↓reduceIte, Nat.reduceEqDiff, p7.str, bq7.loadAgg (n := 6) rfl, and_self, true_and, List.filter_cons, List.filter_nil, Nat.testBit, Nat.reduceShiftRight, Nat.reduceAnd, Nat.reduceBNe, Bool.not_false, Bool.not_true, Bool.false_eq_true, bne_self_eq_false]
  refine (refPut_spec wf7 a7.list a7.sl (by omega) hf).mono ?_
  rintro x h8 ⟨rfl, k8⟩
  have wf8 := k8.wf wf7
  have p8 := p7.keep k8 s7
  have s8 := s7.keep k8 (K' := Old h8.n) fun o ho => Nat.lt_of_lt_of_le ho k8.n
  have b8 := b7.keep k8 (b7.lt wf7)
  have bq8 := bq7.keep k8 (bq7.lt wf7)
  have l0 : lenSA .nils = some 0 := rfl
  have w00 : IntKind.i64.wrap (((0 : Nat) : Int) + ((0 : Nat) : Int)) = 0 := rfl
  simp only [go_sem, ↓reduceIte, Nat.reduceEqDiff, p8.str, Nat.zero_add, b8.load, List.getElem?_cons_succ, List.getElem?_cons_zero, decide_true, l0, w00, and_self, true_and, List.filter_cons, List.filter_nil, Nat.testBit, Nat.reduceShiftRight, Nat.reduceAnd, Nat.reduceBNe, Bool.not_false, Bool.not_true, Bool.false_eq_true, bne_self_eq_false]
  refine WS_of_cond ?_
  simp only [go_sem, ↓reduceIte, Bool.false_eq_true]
  refine WS_of_skip ?_
  simp only [go_sem]
  refine WS_of_seq (WS_of_seq (WS_of_ops ?_))
  simp only [f8_r11, go_sem, ↓reduceIte, Nat.reduceEqDiff, p8.len]
  refine WS_of_cond ?_
  simp only [go_sem, ↓reduceIte, Nat.reduceEqDiff]
  by_cases c1 : (putR r).length = 0
  · have c1' : ((putR r).length : Int) = 0 := by omega
    simp only [c1', decide_true, ↓reduceIte]
    refine WS_of_seq (WS_of_ops ?_)
    simp only [f8_r12, go_sem, ↓reduceIte]
    refine WS_of_ret ?_
    simp only [go_sem, f8_a, ↓reduceIte, Nat.reduceEqDiff]
  have c1' : ¬ ((putR r).length : Int) = 0 := by omega
  simp only [c1', decide_false, ↓reduceIte, Bool.false_eq_true]
  refine WS_of_skip ?_
  simp only [go_sem]
  have hmay : mayR r = true := by
    cases hm : mayR r
    · exact absurd (by simp [putR, hm]) c1
    · rfl
  have hbody : putR r = body r := by simp [putR, hmay]
  have hlen := putR_len (by omega) hf hw.2.2
  obtain ⟨R, S, st⟩ := steps_any (putR r)
  refine WS_of_seq (WS_of_ops ?_)
  simp only [f8_r13, go_sem, ↓reduceIte, Nat.reduceEqDiff]
  refine (take_spec37 st wf8 p8 s8 (by omega)).mono ?_
  rintro x h9 ⟨r', ul, um, ee, rfl, a9, hf9, k9, tk⟩
  have wf9 := k9.wf wf8
  rw [hbody] at st tk
  obtain ⟨rfl, rfl⟩ := take_back hmay (hf.up (by omega)) st tk
  simp only [go_sem, ↓reduceIte, Nat.reduceEqDiff]
  have b10 := Box.new wf9 [.int .i64 0, .int .i64 0, .int .i64 0, .bool false, .nils, .nils]
  have k10 : Keep (Old h9.n) h9 (h9.new [.int .i64 0, .int .i64 0, .int .i64 0, .bool false, .nils, .nils]) := Keep.new (Nat.le_refl _) _
  generalize h9.new [.int .i64 0, .int .i64 0, .int .i64 0, .bool false, .nils, .nils] = h10 at b10 k10 ⊢
  have wf10 := k10.wf wf9
  obtain ⟨h11, e11, b11, k11⟩ := b10.putAll wf10 (vs := repL r' ul um) (n := 6) rfl (by have := a9.onel; have := a9.onem; simp only [List.all_cons, List.all_nil, *]; rfl) rfl
  have wf11 := k11.wf wf10
  have k911 : Keep (Old h9.n) h9 h11 := k10.trans (k11.newbox wf10 k10.n (Nat.le_refl _))
  have a11 := a9.keep k911
  have k811 := k9.then (Nat.le_refl _) k911
  have p11 := p8.keep k811 s8
  have s11 := s8.keep k811 (K' := Old h11.n) fun o ho => Nat.lt_of_lt_of_le ho k811.n
  simp only [go_sem, ↓reduceIte, Nat.reduceEqDiff, e11]
  refine WS_of_seq (WS_of_draw ?_)
  simp only [f8_r14, go_sem, ↓reduceIte, Nat.reduceEqDiff, decide_true, p11.str, b11.loadAgg (n := 6) rfl, and_self, true_and, List.filter_cons, List.filter_nil, Nat.testBit, Nat.reduceShiftRight, Nat.reduceAnd, Nat.reduceBNe, Bool.not_false, Bool.not_true, Bool.false_eq_true, bne_self_eq_false]
  refine (plain_spec wf11 a11).mono ?_
  rintro x h12 ⟨rfl, k12⟩
  have wf12 := k12.wf wf11
  have a12 := a11.keep k12
  have p12 := p11.keep k12 s11
  have s12 := s11.keep k12 (K' := Old h12.n) fun o ho => Nat.lt_of_lt_of_le ho k12.n
  simp only [go_sem, ↓reduceIte, Nat.reduceEqDiff, decide_true, p12.str, and_self, true_and, List.filter_cons, List.filter_nil, Nat.testBit, Nat.reduceShiftRight, Nat.reduceAnd, Nat.reduceBNe, Bool.not_false, Bool.not_true, Bool.false_eq_true, bne_self_eq_false]
  refine (refPut_spec wf12 a12.list a12.sl (by omega) hf).mono ?_
  rintro x h13 ⟨rfl, k13⟩
  have p13 := p12.keep k13 s12
  simp only [go_sem, ↓reduceIte, Nat.reduceEqDiff, decide_true, p13.str, and_self, true_and, List.filter_cons, List.filter_nil, Nat.testBit, Nat.reduceShiftRight, Nat.reduceAnd, Nat.reduceBNe, Bool.not_false, Bool.not_true, Bool.false_eq_true, bne_self_eq_false]
  refine WS_of_ret ?_
  simp only [go_sem, f8_a, ↓reduceIte, Nat.reduceEqDiff]
end Go.Proofs.Ythhibhhpcjggnab.Ev.C
