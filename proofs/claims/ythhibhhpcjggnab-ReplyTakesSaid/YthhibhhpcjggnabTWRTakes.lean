/- The walk of ReplyTakes. -/
import Derived.Test.YthhibhhpcjggnabTWRPuts
namespace Go.Proofs.Ythhibhhpcjggnab.Ev.C
open Go Go.Proofs.Ythhibhhpcjggnab.Ev
set_option linter.unusedSimpArgs false
set_option linter.unusedVariables false
theorem rtakes_tail {xm vl vm : AV} {h0 h : H} {r : Rep} {ms : List UInt8} {cut : Nat} {z : S} (wf0 : h0.Wf) (k0 : Keep (Old h0.n) h0 h) (bx : Bytes h0 xm ms) (sx : Slot (Old h0.n) h0 xm) (a : IsRep h r vl vm) {Q : Nat} (bQ : Box Q (repL r vl vm) h)
    (hw : (∀ t ∈ r.list, t.length ≤ 200) ∧ r.list.length ≤ 80 ∧ r.more.length ≤ 1000) (hms : ms.length ≤ 60) (hms0 : ms ≠ []) (hc : cut < 65536)
    (z2 : z 2 = .int .u16 (cut : Int)) (z3 : z 3 = xm) (z5 : z 5 = .ptr Q 0) :
    WS E0 (.seq (.ops f9_r10) (.seq (.seq (.ops f9_r11) (.cond (.tmp 83) (.seq (.ops f9_r12) .ret) .skip)) (.seq (.ops f9_r13) (.seq (.ops f9_r14) (.seq (.ops f9_r15) .ret))))) [] (atEnd f9_a.results fun x _ => x = .val (.bool true)) z h := by
  have wf := k0.wf wf0
  have hf := few_of hw
  refine WS_of_seq (WS_of_ops ?_)
  simp only [f9_r10, go_sem, ↓reduceIte, Nat.reduceEqDiff, z5, bQ.loadAgg (n := 6) rfl]
  refine (putR_spec wf a (by omega) hf).mono ?_
  rintro x h1 ⟨v1, rfl, p1, o1, k1⟩
  have wf1 := k1.wf wf
  have s1 := o1.slot wf1
  simp only [go_sem, ↓reduceIte, Nat.reduceEqDiff]
  refine WS_of_seq (WS_of_seq (WS_of_ops ?_))
  simp only [f9_r11, go_sem, ↓reduceIte, Nat.reduceEqDiff, p1.len]
  refine WS_of_cond ?_
  simp only [go_sem, ↓reduceIte, Nat.reduceEqDiff]
  by_cases c1 : (putR r).length = 0
  · have c1' : ((putR r).length : Int) = 0 := by omega
    simp only [c1', decide_true, ↓reduceIte]
    refine WS_of_seq (WS_of_ops ?_)
    simp only [f9_r12, go_sem, ↓reduceIte]
    refine WS_of_ret ?_
    simp only [go_sem, f9_a, ↓reduceIte, Nat.reduceEqDiff]
  have c1' : ¬ ((putR r).length : Int) = 0 := by omega
  simp only [c1', decide_false, ↓reduceIte, Bool.false_eq_true]
  refine WS_of_skip ?_
  simp only [go_sem]
  have hmay : mayR r = true := by
    cases hm : mayR r
    · exact absurd (by simp [putR, hm]) c1
    · rfl
  have hbody : putR r = body r := by simp [putR, hmay]
  have hlen := putR_len (by omega) hf hw.2.2
  have ec : IntKind.i64.wrap (cut : Int) = (cut : Int) := wrap_i64 (by omega) (by omega)
  have er : (cut : Int).tmod ((putR r).length : Int) = ((cut % (putR r).length : Nat) : Int) := by
    rw [Int.tmod_eq_emod_of_nonneg (by omega)]; rfl
  have hk : cut % (putR r).length < (putR r).length := Nat.mod_lt _ (by omega)
  obtain ⟨w, ew, bw, sw⟩ := p1.take (Nat.le_of_lt hk) .i64
  obtain ⟨R, S, st⟩ := steps_any ((putR r).take (cut % (putR r).length))
  refine WS_of_seq (WS_of_ops ?_)
  simp only [f9_r13, go_sem, ↓reduceIte, Nat.reduceEqDiff, z2, ec, p1.len, c1', er, ew, not_false_eq_true, true_and]
  refine (take_spec37 st wf1 bw (sw _ s1) (by rw [List.length_take]; omega)).mono ?_
  rintro x h2 ⟨r2, ul2, um2, e2, rfl, a2, hf2, k2, tk2⟩
  have wf2 := k2.wf wf1
  have ne2 : e2 ≠ 0 := by
    refine take_other (a := (putR r).drop (cut % (putR r).length)) (b := []) hmay (hf.up (by omega)) hf2 ?_ ?_ tk2
    · rw [List.take_append_drop, hbody, List.append_nil]
    · intro hd
      have := congrArg List.length hd
      simp at this
      omega
  simp only [go_sem, ↓reduceIte, Nat.reduceEqDiff]
  have b3 := Box.new wf2 [.int .i64 0, .int .i64 0, .int .i64 0, .bool false, .nils, .nils]
  have k3 : Keep (Old h2.n) h2 (h2.new [.int .i64 0, .int .i64 0, .int .i64 0, .bool false, .nils, .nils]) := Keep.new (Nat.le_refl _) _
  generalize h2.new [.int .i64 0, .int .i64 0, .int .i64 0, .bool false, .nils, .nils] = h3 at b3 k3 ⊢
  have wf3 := k3.wf wf2
  obtain ⟨h4, e4, b4, k4⟩ := b3.putAll wf3 (vs := repL r2 ul2 um2) (n := 6) rfl (by have := a2.onel; have := a2.onem; simp only [List.all_cons, List.all_nil, *]; rfl) rfl
  have wf4 := k4.wf wf3
  have k24 : Keep (Old h2.n) h2 h4 := k3.trans (k4.newbox wf3 k3.n (Nat.le_refl _))
  have k14 := k2.then (Nat.le_refl _) k24
  simp only [go_sem, ↓reduceIte, Nat.reduceEqDiff, e4]
  have k04 : Keep (Old h0.n) h0 h4 := (k0.then (Nat.le_refl _) k1).then (Nat.le_refl _) k14
  have bx4 := bx.keep k04 sx
  have n1 : h.n ≤ h4.n := Nat.le_trans k1.n k14.n
  obtain ⟨v5, h5, e5, p5, o5, k5⟩ := (p1.keep k14 s1).app wf4 n1 (o1.keep s1 k14) bx4 (by omega)
  have wf5 := k5.wf wf4
  obtain ⟨R', S', st'⟩ := steps_any (putR r ++ ms)
  refine WS_of_seq (WS_of_ops ?_)
  simp only [f9_r14, go_sem, ↓reduceIte, Nat.reduceEqDiff, z3, e5]
  refine (take_spec37 st' wf5 p5 (o5.slot wf5) (by rw [List.length_append]; omega)).mono ?_
  rintro x h6 ⟨r6, ul6, um6, e6, rfl, a6, hf6, k6, tk6⟩
  have wf6 := k6.wf wf5
  have ne6 : e6 ≠ 0 := by
    refine take_other (a := []) (b := ms) hmay (hf.up (by omega)) hf6 ?_ ?_ tk6
    · rw [hbody, List.append_nil]
    · exact fun hd => hms0 hd.symm
  simp only [go_sem, ↓reduceIte, Nat.reduceEqDiff]
  have b7 := Box.new wf6 [.int .i64 0, .int .i64 0, .int .i64 0, .bool false, .nils, .nils]
  have k7 : Keep (Old h6.n) h6 (h6.new [.int .i64 0, .int .i64 0, .int .i64 0, .bool false, .nils, .nils]) := Keep.new (Nat.le_refl _) _
  generalize h6.new [.int .i64 0, .int .i64 0, .int .i64 0, .bool false, .nils, .nils] = h7 at b7 k7 ⊢
  have wf7 := k7.wf wf6
  obtain ⟨h8, e8, b8, k8⟩ := b7.putAll wf7 (vs := repL r6 ul6 um6) (n := 6) rfl (by have := a6.onel; have := a6.onem; simp only [List.all_cons, List.all_nil, *]; rfl) rfl
  simp only [go_sem, ↓reduceIte, Nat.reduceEqDiff, e8]
  refine WS_of_seq (WS_of_ops ?_)
  simp only [f9_r15, go_sem, ↓reduceIte, Nat.reduceEqDiff, ne2, ne6, decide_false, Bool.not_false]
  refine WS_of_ret ?_
  simp only [go_sem, f9_a, ↓reduceIte, Nat.reduceEqDiff]
theorem rtakes_answer {x0 xm vl vm : AV} {h : H} {r : Rep} {bs ms : List UInt8} {cut : Nat} (wf : h.Wf) (bb : Bytes h x0 bs) (sb : Slot (Old h.n) h x0) (a : IsRep h r vl vm) (bx : Bytes h xm ms) (sx : Slot (Old h.n) h xm)
    (hb : bs.length < 9223372036854775808) (hm : ms.length < 9223372036854775808) (hc : cut < 65536) :
    WCall E0 9 [x0, .agg (repL r vl vm), .int .u16 (cut : Int), xm] h fun x _ => x = .val (.bool true) := by
  refine WCall_ws rfl T9 (by simp [f9_a]) ?_
  show WS E0 f9_c [] _ _ _
  refine WS_of_seq (WS_of_ops ?_)
  simp only [f9_r0, go_sem, ↓reduceIte, Nat.reduceEqDiff, AV.cells]
  have b1 := Box.new wf (repL r vl vm)
  have k1 : Keep (Old h.n) h (h.new (repL r vl vm)) := Keep.new (Nat.le_refl _) _
  generalize h.new (repL r vl vm) = h1 at b1 k1 ⊢
  have wf1 := k1.wf wf
  have a1 := a.keep k1
  have hlt := b1.lt wf1
  refine WS_of_seq (WS_of_ops ?_)
  simp only [f9_r1, go_sem, ↓reduceIte, Nat.reduceEqDiff]
  refine WCall_ov (g := yes) rfl rfl ?_
  simp only [go_sem, ↓reduceIte, Nat.reduceEqDiff]
  refine WS_of_seq (WS_of_seq (WS_of_ops ?_))
  simp only [f9_r2, go_sem, ↓reduceIte, Nat.reduceEqDiff]
  refine WS_of_cond ?_
  simp only [go_sem, ↓reduceIte, Nat.reduceEqDiff, Bool.not_true, Bool.false_eq_true]
  refine WS_of_skip ?_
  simp only [go_sem]
  refine WS_of_seq (WS_of_ops ?_)
  simp only [f9_r4, go_sem, ↓reduceIte, Nat.reduceEqDiff, b1.loadAgg (n := 6) rfl]
  refine (few_spec wf1 a1).mono ?_
  rintro x h2 ⟨⟨fw, rfl, hfw⟩, k2⟩
  have wf2 := k2.wf wf1
  have a2 := a1.keep k2
  have b2 := b1.keep k2 hlt
  have hlt2 := b2.lt wf2
  have k02 := k1.then (Nat.le_refl _) k2
  have bb2 := bb.keep k02 sb
  have bx2 := bx.keep k02 sx
  have sb2 := sb.keep k02 (K' := Old h2.n) fun o ho => Nat.lt_of_lt_of_le ho k02.n
  simp only [go_sem, ↓reduceIte, Nat.reduceEqDiff]
  have out : ∀ (z : S) k, WS E0 (.seq (.ops f9_r6) .ret) k (atEnd f9_a.results fun x _ => x = .val (.bool true)) z h2 := by
    intro z k
    refine WS_of_seq (WS_of_ops ?_)
    simp only [f9_r6, go_sem, ↓reduceIte]
    refine WS_of_ret ?_
    simp only [go_sem, f9_a, ↓reduceIte, Nat.reduceEqDiff]
  refine WS_of_seq (WS_of_seq (WS_of_ops ?_))
  cases fw with
  | false =>
    simp only [f9_r5, go_sem, ↓reduceIte, Nat.reduceEqDiff, Bool.not_false, Bool.true_eq_false]
    refine WS_of_cond ?_
    simp only [go_sem, ↓reduceIte]
    exact out _ _
  | true =>
  have hw := hfw rfl
  have hf := few_of hw
  by_cases d1 : 3000 < bs.length
  · have d1' : (3000 : Int) < (bs.length : Int) := by omega
    simp only [f9_r5, go_sem, ↓reduceIte, Nat.reduceEqDiff, Bool.not_true, bb2.len, d1', decide_true, Bool.true_eq_false, Bool.false_eq_true]
    refine WS_of_cond ?_
    simp only [go_sem, ↓reduceIte]
    exact out _ _
  have d1' : ¬ (3000 : Int) < (bs.length : Int) := by omega
  by_cases d2 : 60 < ms.length
  · have d2' : (60 : Int) < (ms.length : Int) := by omega
    simp only [f9_r5, go_sem, ↓reduceIte, Nat.reduceEqDiff, Bool.not_true, bb2.len, bx2.len, d1', d2', decide_true, decide_false, Bool.true_eq_false, Bool.false_eq_true]
    refine WS_of_cond ?_
    simp only [go_sem, ↓reduceIte]
    exact out _ _
  have d2' : ¬ (60 : Int) < (ms.length : Int) := by omega
  by_cases d3 : ms.length = 0
  · have d3' : (ms.length : Int) = 0 := by omega
    simp only [f9_r5, go_sem, ↓reduceIte, Nat.reduceEqDiff, Bool.not_true, bb2.len, bx2.len, d1', d2', d3', decide_true, decide_false, Bool.true_eq_false, Bool.false_eq_true]
    refine WS_of_cond ?_
    simp only [go_sem, ↓reduceIte]
    first | exact out _ _ | (simp only [go_sem, ↓reduceIte, decide_true]; exact out _ _)
  have d3' : ¬ (ms.length : Int) = 0 := by omega
  have hms0 : ms ≠ [] := by rintro rfl; exact d3 rfl
  simp only [f9_r5, go_sem, ↓reduceIte, Nat.reduceEqDiff, Bool.not_true, bb2.len, bx2.len, d1', d2', d3', decide_true, decide_false, Bool.true_eq_false, Bool.false_eq_true]
  refine WS_of_cond ?_
  simp only [go_sem, ↓reduceIte, Bool.false_eq_true]
  refine WS_of_skip ?_
  simp only [go_sem]
  obtain ⟨R, S, st⟩ := steps_any bs
  refine WS_of_seq (WS_of_ops ?_)
  simp only [f9_r7, go_sem, ↓reduceIte, Nat.reduceEqDiff]
  refine (take_spec37 st wf2 bb2 sb2 (by omega)).mono ?_
  rintro x h3 ⟨r3, ul, um, ee, rfl, a3, hf3, k3, tk⟩
  have wf3 := k3.wf wf2
  simp only [go_sem, ↓reduceIte, Nat.reduceEqDiff]
  have b4 := Box.new wf3 [.int .i64 0, .int .i64 0, .int .i64 0, .bool false, .nils, .nils]
  have k4 : Keep (Old h3.n) h3 (h3.new [.int .i64 0, .int .i64 0, .int .i64 0, .bool false, .nils, .nils]) := Keep.new (Nat.le_refl _) _
  generalize h3.new [.int .i64 0, .int .i64 0, .int .i64 0, .bool false, .nils, .nils] = h4 at b4 k4 ⊢
  have wf4 := k4.wf wf3
  obtain ⟨h5, e5, b5, k5⟩ := b4.putAll wf4 (vs := repL r3 ul um) (n := 6) rfl (by have := a3.onel; have := a3.onem; simp only [List.all_cons, List.all_nil, *]; rfl) rfl
  have wf5 := k5.wf wf4
  have k35 : Keep (Old h3.n) h3 h5 := k4.trans (k5.newbox wf4 k4.n (Nat.le_refl _))
  have a5 := a3.keep k35
  have k25 := k3.then (Nat.le_refl _) k35
  have bb5 := bb2.keep k25 sb2
  have sb5 := sb2.keep k25 (K' := Old h5.n) fun o ho => Nat.lt_of_lt_of_le ho k25.n
  have aQ5 := a2.keep k25
  have bQ5 := b2.keep k25 hlt2
  have k05 := k02.then (Nat.le_refl _) k25
  have hlt5 := b5.lt wf5
  have hltQ5 := bQ5.lt wf5
  simp only [go_sem, ↓reduceIte, Nat.reduceEqDiff, e5]
  refine WS_of_seq (WS_of_seq (WS_of_draw ?_))
  rcases tk with ⟨rfl, hR, hmay, hput⟩ | ⟨hne, hz, _⟩
  · have c0 : ((0 : Int) = 0) = True := by simp
    simp only [f9_r8, go_sem, ↓reduceIte, Nat.reduceEqDiff, decide_true, bb5.str, b5.loadAgg (n := 6) rfl, c0, and_self, true_and, List.filter_cons, List.filter_nil, Nat.testBit, Nat.reduceShiftRight, Nat.reduceAnd, Nat.reduceBNe, Bool.not_false, Bool.not_true, Bool.false_eq_true, bne_self_eq_false]
    refine (plain_spec wf5 a5).mono ?_
    rintro x h6 ⟨rfl, k6⟩
    have wf6 := k6.wf wf5
    have a6 := a5.keep k6
    have bb6 := bb5.keep k6 sb5
    have sb6 := sb5.keep k6 (K' := Old h6.n) fun o ho => Nat.lt_of_lt_of_le ho k6.n
    simp only [go_sem, ↓reduceIte, Nat.reduceEqDiff, decide_true, bb6.str, and_self, true_and, List.filter_cons, List.filter_nil, Nat.testBit, Nat.reduceShiftRight, Nat.reduceAnd, Nat.reduceBNe, Bool.not_false, Bool.not_true, Bool.false_eq_true, bne_self_eq_false]
    refine (refPut_spec wf6 a6.list a6.sl (Nat.le_refl _) hf3).mono ?_
    rintro x h7 ⟨rfl, k7⟩
    have wf7 := k7.wf wf6
    have k57 := k6.then (Nat.le_refl _) k7
    have bb7 := bb6.keep k7 sb6
    simp only [go_sem, ↓reduceIte, Nat.reduceEqDiff, decide_true, bb7.str, hput, and_self, true_and, List.filter_cons, List.filter_nil, Nat.testBit, Nat.reduceShiftRight, Nat.reduceAnd, Nat.reduceBNe, Bool.not_false, Bool.not_true, Bool.false_eq_true, bne_self_eq_false]
    refine WS_of_cond ?_
    simp only [go_sem, ↓reduceIte, Bool.false_eq_true]
    refine WS_of_skip ?_
    simp only [go_sem]
    refine rtakes_tail wf (k05.then (Nat.le_refl _) k57) bx sx (aQ5.keep k57) (bQ5.keep k57 hltQ5) hw (by omega) hms0 hc ?_ ?_ ?_ <;> simp only [go_sem, ↓reduceIte, Nat.reduceEqDiff]
  · subst hz
    have l0 := a5.list.len
    have l1 := a5.more.len
    have w00 : IntKind.i64.wrap (((zeroR.list.length : Nat) : Int) + ((zeroR.more.length : Nat) : Int)) = 0 := rfl
    have q0 : decide (zeroR.code = 0) = true := rfl
    have q1 : decide (zeroR.rev = 0) = true := rfl
    simp only [f9_r8, go_sem, ↓reduceIte, Nat.reduceEqDiff, hne, decide_true, decide_false, Nat.zero_add, b5.load, List.getElem?_cons_succ, List.getElem?_cons_zero, l0, l1, w00, q0, q1, and_self, true_and, List.filter_cons, List.filter_nil, Nat.testBit, Nat.reduceShiftRight, Nat.reduceAnd, Nat.reduceBNe, Bool.not_false, Bool.not_true, Bool.false_eq_true, bne_self_eq_false]
    refine WS_of_cond ?_
    simp only [go_sem, ↓reduceIte, Bool.false_eq_true]
    refine WS_of_skip ?_
    simp only [go_sem]
    refine rtakes_tail wf k05 bx sx aQ5 bQ5 hw (by omega) hms0 hc ?_ ?_ ?_ <;> simp only [go_sem, ↓reduceIte, Nat.reduceEqDiff]
end Go.Proofs.Ythhibhhpcjggnab.Ev.C
