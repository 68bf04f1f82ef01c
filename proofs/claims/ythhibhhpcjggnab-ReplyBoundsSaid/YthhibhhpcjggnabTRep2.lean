/- Answers as bytes: few, Put, and the reference's Put, walked. -/
import Derived.Test.YthhibhhpcjggnabTRep1
namespace Go.Proofs.Ythhibhhpcjggnab.Ev.C
open Go Go.Proofs.Ythhibhhpcjggnab.Ev
set_option linter.unusedSimpArgs false
set_option linter.unusedVariables false
def FewR (M : Nat) (r : Rep) : Prop := (∀ t ∈ r.list, t.length ≤ M) ∧ r.more.length ≤ 100000 ∧ r.list.length ≤ 4000000
theorem few_spec {h : H} {r : Rep} {vl vm : AV} (wf : h.Wf) (a : IsRep h r vl vm) :
    WCall E0 32 [.agg (repL r vl vm)] h fun x h' => (∃ b, x = .val (.bool b) ∧ (b = true → (∀ t ∈ r.list, t.length ≤ 200) ∧ r.list.length ≤ 80 ∧ r.more.length ≤ 1000)) ∧ Keep (Old h.n) h h' := by
  have hl := a.hl
  have hm := a.hm
  refine WCall_ws rfl T32 (by simp [f32_a]) ?_
  show WS E0 f32_c [] _ _ _
  refine WS_of_seq (WS_of_ops ?_)
  simp only [f32_r0, go_sem, ↓reduceIte, Nat.reduceEqDiff, AV.cells]
  have b1 := Box.new wf (repL r vl vm)
  have k1 : Keep (Old h.n) h (h.new (repL r vl vm)) := Keep.new (Nat.le_refl _) _
  generalize h.new (repL r vl vm) = h1 at b1 k1 ⊢
  have wf1 := k1.wf wf
  have a1 := a.keep k1
  refine WS_of_seq (WS_of_seq (WS_of_ops ?_))
  simp only [f32_r1, go_sem, ↓reduceIte, Nat.reduceEqDiff]
  refine WS_of_block (WS_of_loop (fun m z g => ∃ i, m = r.list.length - i ∧ i ≤ r.list.length ∧ g = h1 ∧ (∀ t ∈ r.list.take i, t.length ≤ 200) ∧ z 1 = .ptr h.n 0 ∧ z 3 = .int .i64 (i : Nat)) ?_ r.list.length ?_)
  · rintro m z g ⟨i, rfl, hi, rfl, hsm, z1, z3⟩
    show WS E0 f32_l6 _ _ _ _
    refine WS_of_seq (WS_of_seq (WS_of_ops ?_))
    simp only [f32_r2, go_sem, ↓reduceIte, Nat.reduceEqDiff, Nat.zero_add, z1, z3, b1.load, List.getElem?_cons_succ, List.getElem?_cons_zero, a1.list.len]
    refine WS_of_cond ?_
    simp only [go_sem, ↓reduceIte]
    by_cases hil : i < r.list.length
    · have e1 : (i : Int) < (r.list.length : Int) := by omega
      simp only [e1, decide_true, ↓reduceIte]
      refine WS_of_skip ?_
      simp only [go_sem]
      obtain ⟨p, p1, p2⟩ := a1.list.at hil .i64
      refine WS_of_seq (WS_of_block (WS_of_seq (WS_of_ops ?_)))
      simp only [f32_r3, go_sem, ↓reduceIte, Nat.reduceEqDiff, Nat.zero_add, z1, z3, b1.load, List.getElem?_cons_succ, List.getElem?_cons_zero, p1, p2]
      refine WS_of_cond ?_
      simp only [go_sem, ↓reduceIte]
      by_cases c4 : 200 < r.list[i].length
      · have c4' : (200 : Int) < (r.list[i].length : Int) := by omega
        simp only [c4', decide_true, ↓reduceIte]
        refine WS_of_seq (WS_of_ops ?_)
        simp only [f32_r4, go_sem, ↓reduceIte]
        refine WS_of_ret ?_
        simp only [go_sem, f32_a, ↓reduceIte, Nat.reduceEqDiff]
        exact ⟨⟨_, rfl, fun e => by cases e⟩, k1⟩
      have c4' : ¬ (200 : Int) < (r.list[i].length : Int) := by omega
      simp only [c4', decide_false, ↓reduceIte, Bool.false_eq_true]
      refine WS_of_skip ?_
      simp only [go_sem]
      refine WS_of_ops ?_
      have e9 : IntKind.i64.wrap ((i : Int) + 1) = ((i + 1 : Nat) : Int) := by rw [wrap_i64 (by omega) (by omega)]; omega
      simp only [f32_r5, go_sem, ↓reduceIte, Nat.reduceEqDiff, z3, e9]
      refine ⟨r.list.length - (i + 1), by omega, i + 1, rfl, by omega, trivial, ?_, z1, rfl⟩
      intro u hu
      rw [List.take_add_one, List.getElem?_eq_getElem hil, Option.toList_some] at hu
      rcases List.mem_append.1 hu with hu | hu
      · exact hsm u hu
      · rw [List.mem_singleton.1 hu]; omega
    · have hie : i = r.list.length := by omega
      subst hie
      rw [List.take_length] at hsm
      simp only [Int.lt_irrefl, decide_false, Bool.false_eq_true, ↓reduceIte]
      refine WS_of_exit ?_
      simp only [go_sem, ↓reduceIte]
      refine WS_of_seq (WS_of_ops ?_)
      by_cases d1 : r.list.length ≤ 80
      case neg =>
        have d1' : ¬ ((r.list.length : Int) ≤ 80) := by omega
        simp only [f32_r7, go_sem, ↓reduceIte, Nat.reduceEqDiff, Nat.zero_add, z1, b1.load, List.getElem?_cons_succ, List.getElem?_cons_zero, a1.list.len, d1', decide_false, Bool.false_eq_true]
        refine WS_of_ret ?_
        simp only [go_sem, f32_a, ↓reduceIte, Nat.reduceEqDiff]
        exact ⟨⟨_, rfl, fun e => by cases e⟩, k1⟩
      have d1' : ((r.list.length : Int) ≤ 80) := by omega
      simp only [f32_r7, go_sem, ↓reduceIte, Nat.reduceEqDiff, Nat.zero_add, z1, b1.load, List.getElem?_cons_succ, List.getElem?_cons_zero, a1.list.len, a1.more.len, d1', decide_true]
      refine WS_of_ret ?_
      simp only [go_sem, f32_a, ↓reduceIte, Nat.reduceEqDiff]
      refine ⟨⟨_, rfl, fun e => ⟨hsm, d1, ?_⟩⟩, k1⟩
      have := of_decide_eq_true e
      omega
  · refine ⟨0, rfl, by omega, rfl, by simp, ?_, ?_⟩ <;> simp only [go_sem, ↓reduceIte, Nat.reduceEqDiff] <;> rfl

theorem flat4 (a b c d : Nat) : [a, b, c, d].flatMap num = num a ++ (num b ++ (num c ++ num d)) := by simp
/-- Put -/
theorem putR_spec {h : H} {r : Rep} {vl vm : AV} {M : Nat} (wf : h.Wf) (a : IsRep h r vl vm) (hM : M ≤ 100000) (hf : FewR M r) :
    WCall E0 33 [.agg (repL r vl vm)] h fun x h' => ∃ v, x = .val v ∧ Bytes h' v (putR r) ∧ Own h.n h' v ∧ Keep (Old h.n) h h' := by
  have hl := a.hl
  have hm := a.hm
  refine WCall_ws rfl T33 (by simp [f33_a]) ?_
  show WS E0 f33_c [] _ _ _
  refine WS_of_seq (WS_of_ops ?_)
  simp only [f33_r0, go_sem, ↓reduceIte, Nat.reduceEqDiff, AV.cells]
  have b1 := Box.new wf (repL r vl vm)
  have k1 : Keep (Old h.n) h (h.new (repL r vl vm)) := Keep.new (Nat.le_refl _) _
  generalize h.new (repL r vl vm) = h1 at b1 k1 ⊢
  have wf1 := k1.wf wf
  have a1 := a.keep k1
  have hlt := b1.lt wf1
  refine WS_of_seq (WS_of_seq (WS_of_ops ?_))
  simp only [f33_r1, go_sem, ↓reduceIte, Nat.reduceEqDiff, b1.loadAgg (n := 6) rfl]
  refine (may_spec wf1 a1 (by have := hf.2; omega)).mono ?_
  rintro x h2 ⟨rfl, k2⟩
  have wf2 := k2.wf wf1
  have k02 := k1.then (Nat.le_refl _) k2
  have a2 := a1.keep k2
  have b2 := b1.keep k2 hlt
  have hlt2 := b2.lt wf2
  simp only [go_sem, ↓reduceIte, Nat.reduceEqDiff]
  refine WS_of_cond ?_
  simp only [go_sem, ↓reduceIte]
  cases hmay : mayR r
  · simp only [Bool.not_false, ↓reduceIte]
    refine WS_of_seq (WS_of_ops ?_)
    simp only [f33_r2, go_sem, ↓reduceIte]
    refine WS_of_ret ?_
    have ep : putR r = [] := by simp [putR, hmay]
    simp only [go_sem, f33_a, ↓reduceIte, Nat.reduceEqDiff, ep]
    exact ⟨_, rfl, Bytes.nil _, trivial, k02⟩
  simp only [Bool.not_true, ↓reduceIte, Bool.false_eq_true]
  refine WS_of_skip ?_
  simp only [go_sem]
  obtain ⟨⟨a1', a2'⟩, ⟨b1', b2'⟩, ⟨c1', c2'⟩, d1', d2'⟩ := mayR_iff.1 hmay
  refine WS_of_seq (WS_of_ops ?_)
  simp only [f33_r3, go_sem, ↓reduceIte, Nat.reduceEqDiff]
  have key : ∀ z : S, z 1 = .ptr h.n 0 → z 3 = .int .u64 (isN r.is : Int) → WS E0 (.seq (.ops f33_r6) (.seq (.draw f33_r7) .ret)) [] (atEnd f33_a.results fun x h' => ∃ v, x = .val v ∧ Bytes h' v (putR r) ∧ Own h.n h' v ∧ Keep (Old h.n) h h') z h2 := by
    intro z z1 z3
    have w1 : IntKind.u64.wrap r.code = (r.code.toNat : Int) := by rw [wrap_u64 (by omega) (by omega)]; omega
    have w2 : IntKind.u64.wrap r.rev = (r.rev.toNat : Int) := by rw [wrap_u64 (by omega) (by omega)]; omega
    have w3 : IntKind.u64.wrap r.steps = (r.steps.toNat : Int) := by rw [wrap_u64 (by omega) (by omega)]; omega
    have ea : afill (zeros [AV.int .u64 0] (4 * 1)) [(0, 1, AV.int .u64 (r.code.toNat : Int)), (1, 1, AV.int .u64 (r.rev.toNat : Int)), (2, 1, AV.int .u64 (r.steps.toNat : Int)), (3, 1, AV.int .u64 (isN r.is : Int))] =
      some [AV.int .u64 (r.code.toNat : Int), AV.int .u64 (r.rev.toNat : Int), AV.int .u64 (r.steps.toNat : Int), AV.int .u64 (isN r.is : Int)] := rfl
    refine WS_of_seq (WS_of_ops ?_)
    simp only [f33_r6, go_sem, ↓reduceIte, Nat.reduceEqDiff, Nat.zero_add, z1, z3, b2.load, List.getElem?_cons_succ, List.getElem?_cons_zero, w1, w2, w3, ea]
    have kn : Keep (Old h2.n) h2 (h2.new [AV.int .u64 (r.code.toNat : Int), AV.int .u64 (r.rev.toNat : Int), AV.int .u64 (r.steps.toNat : Int), AV.int .u64 (isN r.is : Int)]) := Keep.new (Nat.le_refl _) _
    have s4 : U64s (h2.new [AV.int .u64 (r.code.toNat : Int), AV.int .u64 (r.rev.toNat : Int), AV.int .u64 (r.steps.toNat : Int), AV.int .u64 (isN r.is : Int)]) (.slice h2.n 0 4 1) [r.code.toNat, r.rev.toNat, r.steps.toNat, isN r.is] :=
      Sl.new (n := 4) (es := 1) wf2 (vs := [AV.int .u64 (r.code.toNat : Int), AV.int .u64 (r.rev.toNat : Int), AV.int .u64 (r.steps.toNat : Int), AV.int .u64 (isN r.is : Int)]) (by simp)
    have sl4 : Slot (Old (h2.n + 1)) (h2.new [AV.int .u64 (r.code.toNat : Int), AV.int .u64 (r.rev.toNat : Int), AV.int .u64 (r.steps.toNat : Int), AV.int .u64 (isN r.is : Int)]) (.slice h2.n 0 4 1) :=
      ⟨Nat.lt_succ_self _, fun cs g e => by rw [get_new] at e; cases e; exact Nat.lt_succ_self _⟩
    have hi : isN r.is < 18446744073709551616 := by unfold isN; split <;> decide
    refine (put_spec (l := [r.code.toNat, r.rev.toNat, r.steps.toNat, isN r.is]) (kn.wf wf2) s4 sl4 (by simp; omega) (by simp)).mono ?_
    rintro x h3 ⟨v3, rfl, p3, o3, k3'⟩
    have k3 := kn.then (Nat.le_refl _) k3'
    have o3' := o3.less kn.n
    have wf3 := k3.wf wf2
    have a3 := a2.keep k3
    have b3 := b2.keep k3 hlt2
    have hlt3 := b3.lt wf3
    simp only [go_sem, ↓reduceIte, Nat.reduceEqDiff]
    refine WS_of_seq (WS_of_draw ?_)
    simp only [f33_r7, go_sem, ↓reduceIte, Nat.reduceEqDiff, Nat.zero_add, z1, b3.load, List.getElem?_cons_succ, List.getElem?_cons_zero, a3.more.str, and_self, true_and, List.filter_cons, List.filter_nil, Nat.testBit, Nat.reduceShiftRight, Nat.reduceAnd, Nat.reduceBNe, Bool.not_false, Bool.not_true, Bool.false_eq_true, bne_self_eq_false]
    have k4 : Keep (Old h3.n) h3 (h3.new [AV.str r.more]) := Keep.new (Nat.le_refl _) _
    have x4 := Box.new wf3 [AV.str r.more]
    generalize h3.new [AV.str r.more] = h4 at k4 x4 ⊢
    have wf4 := k4.wf wf3
    have a4 := a3.keep k4
    have b4 := b3.keep k4 hlt3
    simp only [go_sem, ↓reduceIte, Nat.reduceEqDiff, Nat.zero_add, z1, b4.load, List.getElem?_cons_succ, List.getElem?_cons_zero, a4.more.str, and_self, true_and, List.filter_cons, List.filter_nil, Nat.testBit, Nat.reduceShiftRight, Nat.reduceAnd, Nat.reduceBNe, Bool.not_false, Bool.not_true, Bool.false_eq_true, bne_self_eq_false]
    have lb : (M + 9) * r.list.length ≤ 4000000000 := Nat.le_trans (Nat.mul_le_mul (by omega : M + 9 ≤ 100009) d1') (by decide)
    refine (lists_spec wf4 a4.list a4.sl (by omega) hf.1 lb).mono ?_
    rintro x h5 ⟨v5, rfl, p5, o5, k5⟩
    have wf5 := k5.wf wf4
    have a5 := a4.keep k5
    have k35 := k4.then (Nat.le_refl _) k5
    have b5 := b3.keep k35 hlt3
    have x5 := x4.keep k5 (x4.lt wf4)
    have n23 : h2.n ≤ h3.n := k3.n
    have tl := txts_len (l := r.list) (by omega) hf.1
    have tl2 : (M + 9) * r.list.length ≤ 100009 * 64 := Nat.mul_le_mul (by omega : M + 9 ≤ 100009) d1'
    have nl := num_len9 (x := r.list.length) (by omega)
    have ll : (lst r.list).length ≤ 7000000 := by simp only [lst, List.length_append]; omega
    have f4 : ([r.code.toNat, r.rev.toNat, r.steps.toNat, isN r.is].flatMap num).length ≤ 36 := by
      have := flat_length (l := [r.code.toNat, r.rev.toNat, r.steps.toNat, isN r.is]) (by simp; omega)
      simpa using this
    have os3 := (Own.phase wf3 o3').keep k35
    obtain ⟨v6, h6, e6, p6, o6, k6⟩ := Bytes.appMid wf5 (Nat.le_trans n23 k35.n) (p3.keep k35 (o3'.slot wf3)) os3 p5 (by omega)
    have wf6 := k6.wf wf5
    have k26 : Keep (Old h2.n) h2 h6 := (k3.trans (k35.less n23)).trans (k6.midOld wf5 (Nat.le_trans n23 k35.n))
    have a6 := a2.keep k26
    have b6 := b2.keep k26 hlt2
    have x6 := x5.keep k6 (x5.mid wf5 (by omega))
    have tx : txts [r.more] = txt r.more := by simp [txts]
    simp only [go_sem, ↓reduceIte, Nat.reduceEqDiff, Nat.zero_add, z1, b5.load, b6.load, List.getElem?_cons_succ, List.getElem?_cons_zero, a5.more.str, a6.more.str, e6, and_self, true_and, List.filter_cons, List.filter_nil, Nat.testBit, Nat.reduceShiftRight, Nat.reduceAnd, Nat.reduceBNe, Bool.not_false, Bool.not_true, Bool.false_eq_true, bne_self_eq_false]
    refine (texts_spec (M := 100000) wf6 x6.strs (x6.slot wf6 0 1 1) (by omega) (by simpa using hf.2.1) (by simp)).mono ?_
    rintro x h7 ⟨v7, rfl, p7, o7, k7⟩
    have wf7 := k7.wf wf6
    rw [tx] at p7
    have tm := txt_len (t := r.more) (by have := hf.2; omega)
    have hf2 := hf.2
    have sl6 := o6.slot wf6
    obtain ⟨v8, h8, e8, p8, o8, k8⟩ := (p6.keep k7 sl6).app wf7 (Nat.le_trans k26.n k7.n) (o6.keep sl6 k7) p7 (by simp only [List.length_append]; omega)
    simp only [go_sem, ↓reduceIte, Nat.reduceEqDiff, e8, and_self, true_and, List.filter_cons, List.filter_nil, Nat.testBit, Nat.reduceShiftRight, Nat.reduceAnd, Nat.reduceBNe, Bool.not_false, Bool.not_true, Bool.false_eq_true, bne_self_eq_false]
    refine WS_of_ret ?_
    have ep : putR r = ([r.code.toNat, r.rev.toNat, r.steps.toNat, isN r.is].flatMap num ++ lst r.list) ++ txt r.more := by
      rw [flat4]; simp only [putR, hmay, if_true, body, List.append_assoc]
    simp only [go_sem, f33_a, ↓reduceIte, Nat.reduceEqDiff, ep]
    have k28 : Keep (Old h2.n) h2 h8 := (k26.trans (k7.less k26.n)).trans k8
    exact ⟨_, rfl, p8, o8.less k02.n, k02.then (Nat.le_refl _) k28⟩
  refine WS_of_seq (WS_of_seq (WS_of_ops ?_))
  cases his : r.is
  · simp only [f33_r4, go_sem, ↓reduceIte, Nat.reduceEqDiff, Nat.zero_add, b2.load, List.getElem?_cons_succ, List.getElem?_cons_zero, his]
    refine WS_of_cond ?_
    simp only [go_sem, ↓reduceIte, Bool.false_eq_true]
    refine WS_of_skip ?_
    simp only [go_sem]
    refine key _ rfl ?_
    simp only [go_sem, ↓reduceIte, Nat.reduceEqDiff, his]; rfl
  · simp only [f33_r4, go_sem, ↓reduceIte, Nat.reduceEqDiff, Nat.zero_add, b2.load, List.getElem?_cons_succ, List.getElem?_cons_zero, his]
    refine WS_of_cond ?_
    simp only [go_sem, ↓reduceIte]
    refine WS_of_ops ?_
    simp only [f33_r5, go_sem, ↓reduceIte, Nat.reduceEqDiff]
    refine key _ rfl ?_
    simp only [go_sem, ↓reduceIte, Nat.reduceEqDiff, his]; rfl
end Go.Proofs.Ythhibhhpcjggnab.Ev.C
