import Derived.Test.YthhibhhpcjggnabTFields
namespace Go.Proofs.Ythhibhhpcjggnab.Ev.C
open Go Go.Proofs.Ythhibhhpcjggnab.Ev
set_option linter.unusedSimpArgs false
set_option linter.unusedVariables false
/-- one number, put -/
theorem put_one {h : H} {x : Nat} (wf : h.Wf) (hx : x < 18446744073709551616) {R : AOut → H → Prop} (hR : ∀ vo h', Bytes h' vo (num x) → Own h.n h' vo → Keep (Old h.n) h h' → R (.val vo) h') :
    WCall E0 16 [.slice h.n 0 1 1] (h.new [.int .u64 (x : Int)]) R := by
  have kn : Keep (Old h.n) h (h.new [AV.int .u64 (x : Int)]) := Keep.new (Nat.le_refl _) _
  have hs : Sl (h.new [AV.int .u64 (x : Int)]) 1 (.slice h.n 0 1 1) [x].length ([x].map fun x => AV.int .u64 (x : Nat)) := Sl.new (n := 1) (es := 1) wf (vs := [AV.int .u64 (x : Int)]) (by simp)
  refine (put_spec (l := [x]) (kn.wf wf) hs ⟨by simp [H.new], fun cs g e => ?_⟩ (by simpa using hx) (by simp)).mono ?_
  · rw [get_new] at e; cases e; simp [H.new]
  · rintro r h' ⟨vo, rfl, b, o, k⟩
    exact hR vo h' (by simpa using b) (o.less kn.n) (kn.then (Nat.le_refl _) k)
theorem one_tail {h : H} {x y : Nat} (wf : h.Wf) (hx : x < 18446744073709551616) (hy : y < 18446744073709551616) {s : S} (s2 : s 2 = .int .u64 x) (s3 : s 3 = .int .u64 y) :
    WS E0 ((ACode.ops f6_r16).seq ((ACode.ops f6_r17).seq ((ACode.ops f6_r18).seq ACode.ret))) [] (atEnd f6_a.results fun r _ => r = .val (.bool true)) s h := by
  refine WS_of_seq (WS_of_ops ?_)
  simp only [f6_r16, go_sem, ↓reduceIte, Nat.reduceEqDiff, s2]
  refine put_one wf hx fun v1 h1 b1 o1 k1 => ?_
  simp only [go_sem, ↓reduceIte, Nat.reduceEqDiff, b1.str]
  refine WS_of_seq (WS_of_ops ?_)
  simp only [f6_r17, go_sem, ↓reduceIte, Nat.reduceEqDiff, s3]
  refine put_one (k1.wf wf) hy fun v2 h2 b2 o2 k2 => ?_
  simp only [go_sem, ↓reduceIte, Nat.reduceEqDiff, b2.str]
  refine WS_of_seq (WS_of_ops ?_)
  have hnl := num_less hx hy
  have e3 : (num x = num y) = (x = y) := by simp [num_inj hx hy]
  have e4 : ((x:Int) < (y:Int)) = (x < y) := by simp
  have e5 : ((x:Int) = (y:Int)) = (x = y) := by simp only [eq_iff_iff]; omega
  simp only [f6_r18, go_sem, ↓reduceIte, Nat.reduceEqDiff, s2, s3, hnl, e3, e4, e5, BEq.rfl, Bool.false_eq_true, ite_self]
  refine WS_of_ret ?_
  simp only [go_sem, f6_a, ↓reduceIte, Nat.reduceEqDiff]
theorem one_answer {x0 x1 : AV} {h : H} {bs ms : List UInt8} {x y : Nat} (wf : h.Wf) (b0 : Bytes h x0 bs) (t0 : Slot (Old h.n) h x0) (b1 : Bytes h x1 ms) (t1 : Slot (Old h.n) h x1)
    (hb : bs.length ≤ 140737488351232) (hm : ms.length ≤ 140737488351232) (hx : x < 18446744073709551616) (hy : y < 18446744073709551616) :
    WCall E0 6 [x0, x1, .int .u64 x, .int .u64 y] h fun r _ => r = .val (.bool true) := by
  refine WCall_ws rfl T6 (by simp [f6_a]) ?_
  show WS E0 f6_c [] _ _ _
  refine WS_of_seq (WS_of_ops ?_)
  simp only [f6_r0, go_sem, ↓reduceIte]
  refine WS_of_seq (WS_of_ops ?_)
  simp only [f6_r1, go_sem, ↓reduceIte, Nat.reduceEqDiff]
  refine WCall_ov (g := yes) rfl rfl ?_
  simp only [go_sem, ↓reduceIte, Nat.reduceEqDiff]
  refine WS_of_seq (WS_of_seq (WS_of_ops ?_))
  simp only [f6_r2, go_sem, ↓reduceIte, Nat.reduceEqDiff]
  refine WS_of_cond ?_
  simp only [go_sem, ↓reduceIte, Nat.reduceEqDiff, Bool.not_true, Bool.false_eq_true]
  refine WS_of_skip ?_
  simp only [go_sem]
  refine WS_of_seq (WS_of_seq (WS_of_ops ?_))
  simp only [f6_r4, go_sem, ↓reduceIte, Nat.reduceEqDiff, b0.len, b1.len]
  by_cases c1 : 200 < bs.length
  · have c1' : (200 : Int) < (bs.length : Int) := by omega
    simp only [c1', decide_true, ↓reduceIte, Bool.true_eq_false]
    refine WS_of_cond ?_
    simp only [go_sem, ↓reduceIte]
    refine WS_of_seq (WS_of_ops ?_)
    simp only [f6_r5, go_sem, ↓reduceIte]
    refine WS_of_ret ?_
    simp only [go_sem, f6_a, ↓reduceIte, Nat.reduceEqDiff]
  have c1' : ¬ (200 : Int) < (bs.length : Int) := by omega
  simp only [c1', decide_false, ↓reduceIte, Bool.false_eq_true]
  refine WS_of_cond ?_
  simp only [go_sem, ↓reduceIte]
  by_cases c2 : 200 < ms.length
  · have c2' : (200 : Int) < (ms.length : Int) := by omega
    simp only [c2', decide_true, ↓reduceIte]
    refine WS_of_seq (WS_of_ops ?_)
    simp only [f6_r5, go_sem, ↓reduceIte]
    refine WS_of_ret ?_
    simp only [go_sem, f6_a, ↓reduceIte, Nat.reduceEqDiff]
  have c2' : ¬ (200 : Int) < (ms.length : Int) := by omega
  simp only [c2', decide_false, ↓reduceIte, Bool.false_eq_true]
  refine WS_of_skip ?_
  simp only [go_sem]
  refine WS_of_seq (WS_of_ops ?_)
  simp only [f6_r6, go_sem, ↓reduceIte, Nat.reduceEqDiff]
  refine (take_spec b0 (by omega)).mono ?_
  rintro r h' ⟨rfl, rfl⟩
  simp only [go_sem, ↓reduceIte, Nat.reduceEqDiff]
  refine WS_of_seq (WS_of_seq (WS_of_ops ?_))
  simp only [f6_r7, go_sem, ↓reduceIte, Nat.reduceEqDiff]
  refine WS_of_cond ?_
  simp only [go_sem, ↓reduceIte]
  by_cases ce : (takeB bs).2.2 = 0
  · have ce' : (((takeB bs).2.2 : Nat) : Int) = 0 := by omega
    simp only [ce', decide_true, ↓reduceIte]
    obtain ⟨q1, q2, q3, q4⟩ := takeB_ok bs ce
    refine WS_of_seq (WS_of_ops ?_)
    simp only [f6_r8, go_sem, ↓reduceIte]
    refine WS_of_seq (WS_of_ops ?_)
    obtain ⟨c0, cut0, cs0, cl0⟩ := b0.take q3 .i64
    obtain ⟨v1, h1, a1, sl1, ow1, k1⟩ := (Bytes.nil h').app wf (Nat.le_refl _) (Own.nils _ _) cs0 (by simp; omega)
    simp only [f6_r9, go_sem, ↓reduceIte, Nat.reduceEqDiff, cut0, a1]
    have wf1 := k1.wf wf
    obtain ⟨v2, h2, a2, sl2, ow2, k2⟩ := sl1.app wf1 k1.n ow1 (b1.keep k1 t1) (by simp; omega)
    refine WS_of_seq (WS_of_ops ?_)
    simp only [f6_r10, go_sem, ↓reduceIte, Nat.reduceEqDiff, a2]
    have wf2 := k2.wf wf1
    have k02 := k1.trans k2
    refine WS_of_seq (WS_of_ops ?_)
    simp only [f6_r11, go_sem, ↓reduceIte, Nat.reduceEqDiff]
    refine (take_spec sl2 (by simp; omega)).mono ?_
    rintro r h3 ⟨rfl, rfl⟩
    rw [List.nil_append, q4]
    simp only [go_sem, ↓reduceIte, Nat.reduceEqDiff]
    have b0' := b0.keep k02 t0
    obtain ⟨d0, cut1, ds0, dl0⟩ := b0'.take q3 .i64
    rw [cut0] at cut1; cases cut1
    refine WS_of_seq (WS_of_draw ?_)
    have t0' := t0.keep k02 (K' := Old h3.n) (fun o ho => Nat.lt_of_lt_of_le ho k02.n)
    have kn : Keep (Old h3.n) h3 (h3.new [AV.int .u64 ((takeB bs).1 : Int)]) := Keep.new (Nat.le_refl _) _
    have ds1 := ds0.keep kn (dl0 _ t0')
    simp only [f6_r12, go_sem, ↓reduceIte, Nat.reduceEqDiff, cut0, ds1.str]
    refine ⟨⟨trivial, trivial⟩, put_one wf2 q2 fun v4 h4 b4 o4 k4 => ?_⟩
    have wf4 := k4.wf wf2
    have ds4 := ds0.keep k4 (dl0 _ t0')
    have ne : (num (takeB bs).1 = bs.take (takeB bs).2.1) = True := by simp [q1]
    have e0 : ((0 : Nat) : Int) = 0 := rfl
    simp only [go_sem, ↓reduceIte, Nat.reduceEqDiff, b4.str, cut0, ds4.str, ne, decide_true, Bool.not_true, Bool.false_eq_true, e0, ce, List.filter_cons, List.filter_nil, Nat.testBit, Nat.reduceShiftRight, Nat.reduceAnd, Nat.reduceBNe, Bool.not_false, bne_self_eq_false, and_self, true_and]
    refine WS_of_cond ?_
    simp only [go_sem, ↓reduceIte, Nat.reduceEqDiff, Bool.false_eq_true]
    refine WS_of_skip ?_
    simp only [go_sem]
    exact one_tail wf4 hx hy rfl rfl
  · have ce' : ¬ (((takeB bs).2.2 : Nat) : Int) = 0 := by omega
    obtain ⟨q1, q2⟩ := takeB_err bs ce
    simp only [ce', decide_false, ↓reduceIte, Bool.false_eq_true]
    have e0 : ((0 : Nat) : Int) = 0 := rfl
    refine WS_of_seq (WS_of_ops ?_)
    simp only [f6_r14, go_sem, ↓reduceIte, Nat.reduceEqDiff, q1, q2, decide_true, Bool.not_true, e0]
    refine WS_of_cond ?_
    simp only [go_sem, ↓reduceIte, Nat.reduceEqDiff, Bool.false_eq_true]
    refine WS_of_skip ?_
    simp only [go_sem]
    exact one_tail wf hx hy rfl rfl
end Go.Proofs.Ythhibhhpcjggnab.Ev.C
