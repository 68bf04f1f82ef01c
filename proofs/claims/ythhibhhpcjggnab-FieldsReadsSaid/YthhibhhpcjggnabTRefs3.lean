/- The references of layer 1: lists that are read, walked. -/
import Derived.Test.YthhibhhpcjggnabTRefs2
namespace Go.Proofs.Ythhibhhpcjggnab.Ev.C
open Go Go.Proofs.Ythhibhhpcjggnab.Ev
set_option linter.unusedSimpArgs false
set_option linter.unusedVariables false
/-- ReadList -/
theorem refReadList_spec {h : H} {s : RS} {most : Int} (wf : h.Wf) (hl : s.1.length < 4294967295) (hm1 : -9223372036854775808 ≤ most) (hm2 : most < 9223372036854775808) :
    WCall E0 27 [.agg [.str s.1, .int .i64 (s.2 : Int)], .int .i64 most] h fun r h' => ∃ v, r = .val (.tup [v, rsA (rList most s).2]) ∧ Strs h' v (rList most s).1 ∧ Own h.n h' v ∧ Keep (Old h.n) h h' := by
  have hb := rNum_big s
  have hl1 := rNum_len s
  have e0 : rList most s = if (rNum s).2.2 ≠ 0 then ([], (rNum s).2) else if max most 0 < ((rNum s).1 : Int) then ([], ((rNum s).2.1, 13)) else rTexts (rNum s).1 [] (rNum s).2 := rfl
  refine WCall_ws rfl T27 (by simp [f27_a]) ?_
  show WS E0 f27_c [] _ _ _
  refine WS_of_seq (WS_of_ops ?_)
  simp only [f27_r0, go_sem, ↓reduceIte, Nat.reduceEqDiff, AV.cells]
  have b1 := Box.new wf [.str s.1, .int .i64 (s.2 : Int)]
  have k1 : Keep (Old h.n) h (h.new [.str s.1, .int .i64 (s.2 : Int)]) := Keep.new (Nat.le_refl _) _
  generalize h.new [.str s.1, .int .i64 (s.2 : Int)] = h1 at b1 k1 ⊢
  have wf1 := k1.wf wf
  have b2 := Box.new wf1 [.str [], .int .i64 0]
  have k2 : Keep (Old h1.n) h1 (h1.new [.str [], .int .i64 0]) := Keep.new (Nat.le_refl _) _
  generalize h1.new [.str [], .int .i64 0] = h2 at b2 k2 ⊢
  have wf2 := k2.wf wf1
  have hlt := b1.lt wf1
  have hlt2 := b2.lt wf2
  have b1' := b1.keep k2 hlt
  have k02 := k1.then (Nat.le_refl _) k2
  have n1 : h.n ≤ h1.n := k1.n
  refine WS_of_seq (WS_of_ops ?_)
  simp only [f27_r1, go_sem, ↓reduceIte, Nat.reduceEqDiff, Nat.zero_add, b1'.loadAgg (n := 2) rfl]
  refine (refRead_spec wf2 (by omega)).mono ?_
  rintro x h3 ⟨rfl, k3⟩
  have wf3 := k3.wf wf2
  simp only [go_sem, ↓reduceIte, Nat.reduceEqDiff, rsA]
  have b4 := Box.new wf3 [.str [], .int .i64 0]
  have k4 : Keep (Old h3.n) h3 (h3.new [.str [], .int .i64 0]) := Keep.new (Nat.le_refl _) _
  generalize h3.new [.str [], .int .i64 0] = h4 at b4 k4 ⊢
  have wf4 := k4.wf wf3
  obtain ⟨h5, e5, b5, k5⟩ := b4.putAll wf4 (vs := [.str (rNum s).2.1, .int .i64 ((rNum s).2.2 : Int)]) (n := 2) rfl rfl rfl
  have wf5 := k5.wf wf4
  have h2n : h2.n ≤ h3.n := k3.n
  have b3' := ((b2.keep k3 hlt2).keep k4 (Nat.lt_of_lt_of_le hlt2 k3.n)).keepA wf4 k5 (by simp; omega)
  have k25 : Keep (Old h2.n) h2 h5 := (k3.then (Nat.le_refl _) k4).trans (k5.newbox wf4 (Nat.le_trans k3.n k4.n) h2n)
  have k05 : Keep (Old h.n) h h5 := k02.then (Nat.le_refl _) k25
  have hlt5 := b5.lt wf5
  simp only [go_sem, ↓reduceIte, Nat.reduceEqDiff, e5]
  refine WS_of_seq (WS_of_seq (WS_of_ops ?_))
  simp only [f27_r2, go_sem, ↓reduceIte, Nat.reduceEqDiff, Nat.zero_add, b5.load]
  refine WS_of_cond ?_
  simp only [go_sem, ↓reduceIte, Nat.reduceEqDiff]
  by_cases c1 : (rNum s).2.2 = 0
  case neg =>
    have c1' : ¬ (((rNum s).2.2 : Nat) : Int) = 0 := by omega
    simp only [c1', decide_false, Bool.not_false, ↓reduceIte]
    obtain ⟨h6, e6, b6, k6⟩ := b3'.putAll wf5 (vs := [.str (rNum s).2.1, .int .i64 ((rNum s).2.2 : Int)]) (n := 2) rfl rfl rfl
    have b5'' := b5.keepA wf5 k6 (by simp; omega)
    refine WS_of_seq (WS_of_draw ?_)
    simp only [f27_r3, go_sem, ↓reduceIte, Nat.reduceEqDiff, b5.loadAgg (n := 2) rfl, e6, b5''.loadAgg (n := 2) rfl, and_self, true_and, List.filter_cons, List.filter_nil, Nat.testBit, Nat.reduceShiftRight, Nat.reduceAnd, Nat.reduceBNe, Bool.not_false, Bool.not_true, Bool.false_eq_true, bne_self_eq_false]
    refine WS_of_ret ?_
    rw [if_pos c1] at e0
    simp only [go_sem, f27_a, ↓reduceIte, Nat.reduceEqDiff, b6.loadAgg (n := 2) rfl, e0]
    exact ⟨_, rfl, Strs.nil _, trivial, k05.trans (k6.newbox wf5 k05.n k1.n)⟩
  have c1' : (((rNum s).2.2 : Nat) : Int) = 0 := by omega
  rw [if_neg (by simpa using c1)] at e0
  simp only [c1', decide_true, Bool.not_true, Bool.false_eq_true, ↓reduceIte]
  refine WS_of_skip ?_
  simp only [go_sem]
  have loopw : ¬ max most 0 < ((rNum s).1 : Int) → ∀ q : S, q 1 = .int .i64 most → q 5 = .ptr h1.n 0 → q 6 = .int .u64 ((rNum s).1 : Int) → q 7 = .ptr h3.n 0 →
      WS E0 ((ACode.ops f27_r7).seq (((ACode.ops f27_r8).seq (ACode.block 0 (ACode.loop f27_l16))).seq ((ACode.draw f27_r17).seq ACode.ret))) []
        (atEnd f27_a.results fun r h' => ∃ v, r = .val (.tup [v, rsA (rList most s).2]) ∧ Strs h' v (rList most s).1 ∧ Own h.n h' v ∧ Keep (Old h.n) h h') q h5 := by
    intro c2 q q1 q5 q6 q7
    rw [if_neg c2] at e0
    refine WS_of_seq (WS_of_ops ?_)
    simp only [f27_r7, go_sem, ↓reduceIte, Nat.reduceEqDiff]
    refine WS_of_seq (WS_of_seq (WS_of_ops ?_))
    simp only [f27_r8, go_sem, ↓reduceIte, Nat.reduceEqDiff]
    refine WS_of_block (WS_of_loop (fun m z g => ∃ i acc st, m = (rNum s).1 - i ∧ i ≤ (rNum s).1 ∧ rTexts ((rNum s).1 - i) acc st = rTexts (rNum s).1 [] (rNum s).2 ∧ acc.length + st.1.length ≤ (rNum s).2.1.length ∧
      Strs g (z 8) acc ∧ Own h5.n g (z 8) ∧ Box h3.n [.str st.1, .int .i64 (st.2 : Int)] g ∧ Box h1.n [.str [], .int .i64 0] g ∧ st.2 = 0 ∧ KeepA [h3.n] h5 g ∧ z 5 = .ptr h1.n 0 ∧ z 6 = .int .u64 ((rNum s).1 : Int) ∧ z 7 = .ptr h3.n 0 ∧ z 9 = .int .u64 (i : Int)) ?_ (rNum s).1 ?_)
    · rintro m z g ⟨i, acc, st, rfl, hi, he, hlen, z8, zo, zb, zr, ze, zk, z5, z6, z7, z9⟩
      have wfg := zk.wf wf5
      have kg5 : Keep (Old h.n) h g := k05.trans (zk.newbox wf5 k05.n (by omega))
      show WS E0 f27_l16 _ _ _ _
      refine WS_of_seq (WS_of_seq (WS_of_ops ?_))
      simp only [f27_r9, go_sem, ↓reduceIte, Nat.reduceEqDiff, z6, z9]
      refine WS_of_cond ?_
      simp only [go_sem, ↓reduceIte]
      by_cases hil : i < (rNum s).1
      case neg =>
        have hie : i = (rNum s).1 := by omega
        subst hie
        simp only [Int.lt_irrefl, decide_false, Bool.false_eq_true, ↓reduceIte]
        refine WS_of_exit ?_
        simp only [go_sem, ↓reduceIte]
        rw [Nat.sub_self] at he
        obtain ⟨h6, e6, b6, k6⟩ := zr.putAll wfg (vs := [.str st.1, .int .i64 (st.2 : Int)]) (n := 2) rfl rfl rfl
        have zb6 := zb.keepA wfg k6 (by simp; omega)
        have sl8 : Slot (Apart [h1.n] g) g (z 8) := zo.away wfg (by simp; exact ⟨by omega, zr.root⟩)
        refine WS_of_seq (WS_of_draw ?_)
        simp only [f27_r17, go_sem, ↓reduceIte, Nat.reduceEqDiff, z5, z7, zb.loadAgg (n := 2) rfl, e6, zb6.loadAgg (n := 2) rfl, and_self, true_and, List.filter_cons, List.filter_nil, Nat.testBit, Nat.reduceShiftRight, Nat.reduceAnd, Nat.reduceBNe, Bool.not_false, Bool.not_true, Bool.false_eq_true, bne_self_eq_false]
        refine WS_of_ret ?_
        simp only [go_sem, f27_a, ↓reduceIte, Nat.reduceEqDiff, z5, b6.loadAgg (n := 2) rfl, e0, ← he]
        exact ⟨_, rfl, z8.keep k6 sl8, (zo.keep sl8 k6).less k05.n, kg5.trans (k6.newbox wfg kg5.n n1)⟩
      have hil' : (i : Int) < ((rNum s).1 : Int) := by omega
      simp only [hil', decide_true, ↓reduceIte]
      refine WS_of_skip ?_
      simp only [go_sem]
      have nh5g : h5.n ≤ g.n := zk.n
      refine WS_of_seq (WS_of_block (WS_of_seq (WS_of_ops ?_)))
      simp only [f27_r10, go_sem, ↓reduceIte, Nat.reduceEqDiff, z7, zb.loadAgg (n := 2) rfl]
      refine (refReadText_spec wfg (by omega)).mono ?_
      rintro x g2 ⟨rfl, kg2⟩
      have wfg2 := kg2.wf wfg
      simp only [go_sem, ↓reduceIte, Nat.reduceEqDiff, rsA]
      have bp := Box.new wfg2 [.str [], .int .i64 0]
      have kp : Keep (Old g2.n) g2 (g2.new [.str [], .int .i64 0]) := Keep.new (Nat.le_refl _) _
      generalize g2.new [.str [], .int .i64 0] = g3 at bp kp ⊢
      have wfg3 := kp.wf wfg2
      have ng2 : g.n ≤ g2.n := kg2.n
      obtain ⟨g4, eg4, bp4, kg4⟩ := bp.putAll wfg3 (vs := [.str (rText st).2.1, .int .i64 ((rText st).2.2 : Int)]) (n := 2) rfl rfl rfl
      have wfg4 := kg4.wf wfg3
      have kgg4 : Keep (Old g.n) g g4 := (kg2.then (Nat.le_refl _) kp).trans (kg4.newbox wfg3 (Nat.le_trans kg2.n kp.n) ng2)
      have zb4 := zb.keep kgg4 (zb.lt wfg)
      have zr4 := zr.keep kgg4 (zr.lt wfg)
      simp only [go_sem, ↓reduceIte, Nat.reduceEqDiff, eg4]
      refine WS_of_seq (WS_of_seq (WS_of_ops ?_))
      simp only [f27_r11, go_sem, ↓reduceIte, Nat.reduceEqDiff, Nat.zero_add, bp4.load]
      refine WS_of_cond ?_
      simp only [go_sem, ↓reduceIte, Nat.reduceEqDiff]
      have hn1 : (rNum s).1 - i = ((rNum s).1 - (i + 1)) + 1 := by omega
      rw [hn1] at he
      have hltg := zr.lt wfg
      have hltg3 := zb.lt wfg
      by_cases c3 : (rText st).2.2 = 0
      case neg =>
        have c3' : ¬ ((rText st).2.2 : Int) = 0 := by omega
        simp only [c3', decide_false, Bool.not_false, ↓reduceIte]
        obtain ⟨h6, e6, b6, k6⟩ := zr4.putAll wfg4 (vs := [.str (rText st).2.1, .int .i64 ((rText st).2.2 : Int)]) (n := 2) rfl rfl rfl
        have bp6 := bp4.keepA wfg4 k6 (by simp; omega)
        refine WS_of_seq (WS_of_draw ?_)
        simp only [f27_r12, go_sem, ↓reduceIte, Nat.reduceEqDiff, z5, bp4.loadAgg (n := 2) rfl, e6, bp6.loadAgg (n := 2) rfl, and_self, true_and, List.filter_cons, List.filter_nil, Nat.testBit, Nat.reduceShiftRight, Nat.reduceAnd, Nat.reduceBNe, Bool.not_false, Bool.not_true, Bool.false_eq_true, bne_self_eq_false]
        refine WS_of_ret ?_
        simp only [rTexts] at he
        rw [if_pos c3] at he
        simp only [go_sem, f27_a, ↓reduceIte, Nat.reduceEqDiff, z5, b6.loadAgg (n := 2) rfl, e0, ← he]
        have kg04 := kg5.then (Nat.le_refl _) kgg4
        exact ⟨_, rfl, Strs.nil _, trivial, kg04.trans (k6.newbox wfg4 kg04.n n1)⟩
      have c3' : ((rText st).2.2 : Int) = 0 := by omega
      simp only [c3', decide_true, Bool.not_true, Bool.false_eq_true, ↓reduceIte]
      refine WS_of_skip ?_
      simp only [go_sem]
      obtain ⟨g5, eg5, zb5, kg5'⟩ := zb4.putAll wfg4 (vs := [.str (rText st).2.1, .int .i64 ((rText st).2.2 : Int)]) (n := 2) rfl rfl rfl
      have wfg5 := kg5'.wf wfg4
      have zr5 := zr4.keepA wfg4 kg5' (by simp; omega)
      refine WS_of_seq (WS_of_ops ?_)
      simp only [f27_r13, go_sem, ↓reduceIte, Nat.reduceEqDiff, z7, bp4.loadAgg (n := 2) rfl, eg5]
      have slg : Slot (Old g.n) g (z 8) := zo.slot wfg
      have zo4 := zo.keep slg kgg4
      have sl4 : Slot (Apart [h3.n] g4) g4 (z 8) := zo4.away wfg4 (by simp; exact ⟨by omega, zb4.root⟩)
      have z85 := (z8.keep kgg4 slg).keep kg5' sl4
      have zo5 := zo4.keep sl4 kg5'
      have kn : Keep (Old g5.n) g5 (g5.new [AV.str (rText st).1]) := Keep.new (Nat.le_refl _) _
      have sl5 : Slot (Old g5.n) g5 (z 8) := zo5.slot wfg5
      have n5g5 : h5.n ≤ g5.n := Nat.le_trans nh5g (Nat.le_trans kgg4.n kg5'.n)
      obtain ⟨v6, g6, eg6, z86, zo6, kg6⟩ := Strs.app (N := h5.n) (kn.wf wfg5) (Nat.le_trans n5g5 kn.n) (z85.keep kn sl5) (zo5.keep sl5 kn) (Strs.one wfg5 (rText st).1) (by simp; omega)
      refine WS_of_ops ?_
      simp only [f27_r14, go_sem, ↓reduceIte, Nat.reduceEqDiff, eg6]
      refine WS_of_ops ?_
      have e9 : IntKind.u64.wrap ((i : Int) + 1) = ((i + 1 : Nat) : Int) := by rw [wrap_u64 (by omega) (by omega)]; omega
      simp only [f27_r15, go_sem, ↓reduceIte, Nat.reduceEqDiff, z9, e9]
      simp only [rTexts] at he
      rw [if_neg (by simpa using c3)] at he
      have hlt9 := rText_less c3
      have kn6 : Keep (Old h5.n) g5 g6 := (kn.less n5g5).trans kg6
      have k56 : KeepA [h3.n] h5 g6 := by
        have a1 : KeepA [h3.n] h5 g4 := zk.then wf5 (KeepA.of (gs := []) kgg4) (by simp)
        exact (a1.then wf5 kg5' (by simp)).trans (kn6.weaken fun o ho => ho.1)
      refine ⟨(rNum s).1 - (i + 1), by omega, i + 1, _, (rText st).2, rfl, by omega, he, ?_, z86, zo6, zb5.keep kn6 (by show h3.n < h5.n; omega), zr5.keep kn6 (by show h1.n < h5.n; omega), c3, k56, z5, z6, z7, rfl⟩
      simp only [List.length_append, List.length_cons, List.length_nil]; omega
    · refine ⟨0, [], (rNum s).2, rfl, by omega, rfl, by simp, ?_, ?_, b5, b3', c1, KeepA.refl _ _, ?_, ?_, ?_, ?_⟩
      · simp only [go_sem, ↓reduceIte, Nat.reduceEqDiff]; exact Strs.nil _
      · simp only [go_sem, ↓reduceIte, Nat.reduceEqDiff]; trivial
      all_goals simp only [go_sem, ↓reduceIte, Nat.reduceEqDiff, q5, q6, q7] <;> rfl
  have long : max most 0 < ((rNum s).1 : Int) → ∀ q : S, q 5 = .ptr h1.n 0 → q 7 = .ptr h3.n 0 → ∀ k,
      WS E0 ((ACode.draw f27_r6).seq ACode.ret) k (atEnd f27_a.results fun r h' => ∃ v, r = .val (.tup [v, rsA (rList most s).2]) ∧ Strs h' v (rList most s).1 ∧ Own h.n h' v ∧ Keep (Old h.n) h h') q h5 := by
    intro c2 q q5 q7 k
    rw [if_pos c2] at e0
    obtain ⟨h6, e6, b6, k6⟩ := b3'.putAll wf5 (vs := [.str (rNum s).2.1, .int .i64 13]) (n := 2) rfl rfl rfl
    have b5'' := b5.keepA wf5 k6 (by simp; omega)
    have ea : afill [AV.str [], AV.int .i64 0] [(0, 1, AV.str (rNum s).2.1), (1, 1, AV.int .i64 13)] = some [.str (rNum s).2.1, .int .i64 13] := rfl
    refine WS_of_seq (WS_of_draw ?_)
    simp only [f27_r6, go_sem, ↓reduceIte, Nat.reduceEqDiff, q5, q7, Nat.zero_add, b5.load, ea, e6, b5''.load, and_self, true_and, List.filter_cons, List.filter_nil, Nat.testBit, Nat.reduceShiftRight, Nat.reduceAnd, Nat.reduceBNe, Bool.not_false, Bool.not_true, Bool.false_eq_true, bne_self_eq_false]
    refine WS_of_ret ?_
    simp only [go_sem, f27_a, ↓reduceIte, Nat.reduceEqDiff, q5, b6.loadAgg (n := 2) rfl, e0]
    exact ⟨_, rfl, Strs.nil _, trivial, k05.trans (k6.newbox wf5 k05.n k1.n)⟩
  refine WS_of_seq (WS_of_seq (WS_of_ops ?_))
  by_cases m0 : most < 0
  · simp only [f27_r4, go_sem, ↓reduceIte, Nat.reduceEqDiff, m0, decide_true, Bool.true_eq_false]
    refine WS_of_cond ?_
    simp only [go_sem, ↓reduceIte]
    refine WS_of_seq (WS_of_ops ?_)
    simp only [f27_r5, go_sem, ↓reduceIte, Nat.reduceEqDiff]
    refine WS_of_cond ?_
    simp only [go_sem, ↓reduceIte]
    by_cases n0 : (0 : Int) < ((rNum s).1 : Int)
    · simp only [n0, decide_true, ↓reduceIte]
      exact long (by omega) _ rfl rfl _
    · simp only [n0, decide_false, ↓reduceIte, Bool.false_eq_true]
      refine WS_of_skip ?_
      simp only [go_sem]
      exact loopw (by omega) _ rfl rfl rfl rfl
  · have ew : IntKind.u64.wrap most = most := wrap_u64 (by omega) (by omega)
    simp only [f27_r4, go_sem, ↓reduceIte, Nat.reduceEqDiff, m0, decide_false, ew, Bool.false_eq_true]
    refine WS_of_cond ?_
    simp only [go_sem, ↓reduceIte]
    by_cases n1 : most < ((rNum s).1 : Int)
    · simp only [n1, decide_true, ↓reduceIte]
      refine WS_of_seq (WS_of_ops ?_)
      simp only [f27_r5, go_sem, ↓reduceIte, Nat.reduceEqDiff]
      refine WS_of_cond ?_
      have n0 : (0 : Int) < ((rNum s).1 : Int) := by omega
      simp only [go_sem, ↓reduceIte, n0, decide_true]
      exact long (by omega) _ rfl rfl _
    · simp only [n1, decide_false, ↓reduceIte, Bool.false_eq_true]
      refine WS_of_skip ?_
      simp only [go_sem]
      exact loopw (by omega) _ rfl rfl rfl rfl
end Go.Proofs.Ythhibhhpcjggnab.Ev.C
