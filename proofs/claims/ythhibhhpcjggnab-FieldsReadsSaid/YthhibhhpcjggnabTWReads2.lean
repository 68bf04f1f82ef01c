/- The walk of FieldsReads: the loop. -/
import Derived.Test.YthhibhhpcjggnabTWReads
namespace Go.Proofs.Ythhibhhpcjggnab.Ev.C
open Go Go.Proofs.Ythhibhhpcjggnab.Ev
set_option linter.unusedSimpArgs false
set_option linter.unusedVariables false
theorem rTexts_count : ∀ (n : Nat) (acc : List (List UInt8)) (s : RS), (rTexts n acc s).1.length ≤ acc.length + s.1.length
  | 0, acc, s => Nat.le_add_right _ _
  | n + 1, acc, s => by
    simp only [rTexts]
    by_cases c : (rText s).2.2 = 0
    · rw [if_neg (by simpa using c)]
      have h1 := rText_less c
      have h2 := rTexts_count n (acc ++ [(rText s).1]) (rText s).2
      simp only [List.length_append, List.length_cons, List.length_nil] at h2
      omega
    · rw [if_pos c]
      exact Nat.zero_le _
theorem rList_count (most : Int) (s : RS) : (rList most s).1.length ≤ s.1.length := by
  have := rNum_len s
  unfold rList
  split
  · exact Nat.zero_le _
  · split
    · exact Nat.zero_le _
    · have h := rTexts_count (rNum s).1 [] (rNum s).2
      simp only [List.length_nil, Nat.zero_add] at h
      omega
/-- the rest of a turn -/
def RTurn (Q : Post) (h0 : H) (x1 : AV) (n r w i : Nat) (k : List Fr1) : Prop :=
  ∀ (st : RS) (z : S) (h : H), st.1.length ≤ 600 → Keep (Old h0.n) h0 h → Rd h r st → Box w [.str st.1, .int .i64 (st.2 : Int)] h → z 1 = x1 → z 6 = .ptr r 0 → z 7 = .ptr w 0 → z 8 = .int .i64 (i : Int) → WNext E0 k Q z h
theorem reads_op0 {Q : Post} {h0 h : H} {x1 : AV} {n r w i : Nat} {k : List Fr1} {st : RS} {z : S} (next : RTurn Q h0 x1 n r w i k) (wf0 : h0.Wf) (hs : st.1.length ≤ 600) (k0 : Keep (Old h0.n) h0 h) (hr : h0.n ≤ r) (hrw : r < w)
    (a : Rd h r st) (b : Box w [.str st.1, .int .i64 (st.2 : Int)] h) (z1 : z 1 = x1) (z6 : z 6 = .ptr r 0) (z7 : z 7 = .ptr w 0) (z8 : z 8 = .int .i64 (i : Int)) :
    WS E0 ((ACode.ops f4_r11).seq ((ACode.ops f4_r12).seq ((ACode.ops f4_r13).seq ((ACode.ops f4_r14).seq (.cond (.tmp 99) ((ACode.ops f4_r15).seq .ret) .skip))))) k Q z h := by
  have wf := k0.wf wf0
  have hl := rNum_len st
  refine WS_of_seq (WS_of_ops ?_)
  simp only [f4_r11, go_sem, ↓reduceIte, Nat.reduceEqDiff, z6]
  refine (num_spec wf a (by omega)).mono ?_
  rintro x h1 ⟨rfl, a1, k1⟩
  have wf1 := k1.wf wf
  have b1 := b.keepA wf k1 (by simp; omega)
  simp only [go_sem, ↓reduceIte, Nat.reduceEqDiff]
  refine WS_of_seq (WS_of_ops ?_)
  simp only [f4_r12, go_sem, ↓reduceIte, Nat.reduceEqDiff, z7, b1.loadAgg (n := 2) rfl]
  refine (refRead_spec wf1 (by omega)).mono ?_
  rintro x h2 ⟨rfl, k2⟩
  have wf2 := k2.wf wf1
  simp only [go_sem, ↓reduceIte, Nat.reduceEqDiff, rsA]
  have bp := Box.new wf2 [.str [], .int .i64 0]
  have kp : Keep (Old h2.n) h2 (h2.new [.str [], .int .i64 0]) := Keep.new (Nat.le_refl _) _
  generalize h2.new [.str [], .int .i64 0] = h3 at bp kp ⊢
  have wf3 := kp.wf wf2
  obtain ⟨h4, e4, b4, k4⟩ := bp.putAll wf3 (vs := [.str (rNum st).2.1, .int .i64 ((rNum st).2.2 : Int)]) (n := 2) rfl rfl rfl
  have wf4 := k4.wf wf3
  have n12 : h1.n ≤ h2.n := k2.n
  have k14 : Keep (Old h1.n) h1 h4 := (k2.then (Nat.le_refl _) kp).trans (k4.newbox wf3 (Nat.le_trans k2.n kp.n) n12)
  have b14 := b1.keep k14 (b1.lt wf1)
  have a14 := a1.keep (k14.less (by have := b1.lt wf1; omega))
  simp only [go_sem, ↓reduceIte, Nat.reduceEqDiff, e4]
  refine WS_of_seq (WS_of_ops ?_)
  obtain ⟨h5, e5, b5, k5⟩ := b14.putAll wf4 (vs := [.str (rNum st).2.1, .int .i64 ((rNum st).2.2 : Int)]) (n := 2) rfl rfl rfl
  simp only [f4_r13, go_sem, ↓reduceIte, Nat.reduceEqDiff, z7, b4.loadAgg (n := 2) rfl, e5]
  have n01 : h0.n ≤ h1.n := Nat.le_trans k0.n k1.n
  have k05 : Keep (Old h0.n) h0 h5 := ((k0.trans (k1.old wf k0.n (by simpa using hr))).trans (k14.less n01)).trans (k5.newbox wf4 (Nat.le_trans n01 k14.n) (by omega))
  have a5 := a14.keep (k5.newbox wf4 (N := r + 1) (by have := b14.lt wf4; omega) (by omega))
  refine WS_of_seq (WS_of_ops ?_)
  simp only [f4_r14, go_sem, ↓reduceIte, Nat.reduceEqDiff, decide_true, Bool.not_true]
  refine WS_of_cond ?_
  simp only [go_sem, ↓reduceIte, Bool.false_eq_true]
  refine WS_of_skip ?_
  refine next (rNum st).2 _ h5 (by omega) k05 a5 b5 ?_ ?_ ?_ ?_ <;> simp only [go_sem, ↓reduceIte, Nat.reduceEqDiff, z1, z6, z7, z8]
theorem reads_op1 {Q : Post} {h0 h : H} {x1 : AV} {n r w i : Nat} {k : List Fr1} {st : RS} {z : S} (next : RTurn Q h0 x1 n r w i k) (wf0 : h0.Wf) (hs : st.1.length ≤ 600) (k0 : Keep (Old h0.n) h0 h) (hr : h0.n ≤ r) (hrw : r < w)
    (a : Rd h r st) (b : Box w [.str st.1, .int .i64 (st.2 : Int)] h) (z1 : z 1 = x1) (z6 : z 6 = .ptr r 0) (z7 : z 7 = .ptr w 0) (z8 : z 8 = .int .i64 (i : Int)) :
    WS E0 ((ACode.ops f4_r17).seq ((ACode.ops f4_r18).seq ((ACode.ops f4_r19).seq ((ACode.ops f4_r20).seq (.cond (.tmp 116) ((ACode.ops f4_r21).seq .ret) .skip))))) k Q z h := by
  have wf := k0.wf wf0
  have hl := rText_len st
  refine WS_of_seq (WS_of_ops ?_)
  simp only [f4_r17, go_sem, ↓reduceIte, Nat.reduceEqDiff, z6]
  refine (text_spec wf a (by omega)).mono ?_
  rintro x h1 ⟨rfl, a1, k1⟩
  have wf1 := k1.wf wf
  have b1 := b.keepA wf k1 (by simp; omega)
  simp only [go_sem, ↓reduceIte, Nat.reduceEqDiff]
  refine WS_of_seq (WS_of_ops ?_)
  simp only [f4_r18, go_sem, ↓reduceIte, Nat.reduceEqDiff, z7, b1.loadAgg (n := 2) rfl]
  refine (refReadText_spec wf1 (by omega)).mono ?_
  rintro x h2 ⟨rfl, k2⟩
  have wf2 := k2.wf wf1
  simp only [go_sem, ↓reduceIte, Nat.reduceEqDiff, rsA]
  have bp := Box.new wf2 [.str [], .int .i64 0]
  have kp : Keep (Old h2.n) h2 (h2.new [.str [], .int .i64 0]) := Keep.new (Nat.le_refl _) _
  generalize h2.new [.str [], .int .i64 0] = h3 at bp kp ⊢
  have wf3 := kp.wf wf2
  obtain ⟨h4, e4, b4, k4⟩ := bp.putAll wf3 (vs := [.str (rText st).2.1, .int .i64 ((rText st).2.2 : Int)]) (n := 2) rfl rfl rfl
  have wf4 := k4.wf wf3
  have n12 : h1.n ≤ h2.n := k2.n
  have k14 : Keep (Old h1.n) h1 h4 := (k2.then (Nat.le_refl _) kp).trans (k4.newbox wf3 (Nat.le_trans k2.n kp.n) n12)
  have b14 := b1.keep k14 (b1.lt wf1)
  have a14 := a1.keep (k14.less (by have := b1.lt wf1; omega))
  simp only [go_sem, ↓reduceIte, Nat.reduceEqDiff, e4]
  refine WS_of_seq (WS_of_ops ?_)
  obtain ⟨h5, e5, b5, k5⟩ := b14.putAll wf4 (vs := [.str (rText st).2.1, .int .i64 ((rText st).2.2 : Int)]) (n := 2) rfl rfl rfl
  simp only [f4_r19, go_sem, ↓reduceIte, Nat.reduceEqDiff, z7, b4.loadAgg (n := 2) rfl, e5]
  have n01 : h0.n ≤ h1.n := Nat.le_trans k0.n k1.n
  have k05 : Keep (Old h0.n) h0 h5 := ((k0.trans (k1.old wf k0.n (by simpa using hr))).trans (k14.less n01)).trans (k5.newbox wf4 (Nat.le_trans n01 k14.n) (by omega))
  have a5 := a14.keep (k5.newbox wf4 (N := r + 1) (by have := b14.lt wf4; omega) (by omega))
  refine WS_of_seq (WS_of_ops ?_)
  simp only [f4_r20, go_sem, ↓reduceIte, Nat.reduceEqDiff, decide_true, Bool.not_true]
  refine WS_of_cond ?_
  simp only [go_sem, ↓reduceIte, Bool.false_eq_true]
  refine WS_of_skip ?_
  refine next (rText st).2 _ h5 (by omega) k05 a5 b5 ?_ ?_ ?_ ?_ <;> simp only [go_sem, ↓reduceIte, Nat.reduceEqDiff, z1, z6, z7, z8]
theorem reads_op2 {Q : Post} {h0 h : H} {x1 : AV} {n r w i : Nat} {k : List Fr1} {st : RS} {z : S} (next : RTurn Q h0 x1 n r w i k) (wf0 : h0.Wf) (hs : st.1.length ≤ 600) (k0 : Keep (Old h0.n) h0 h) (hr : h0.n ≤ r) (hrw : r < w)
    {ops : List Int} (s1 : Sl h0 1 x1 ops.length (ops.map (AV.int .i8))) (t1 : Slot (Old h0.n) h0 x1) (hi : i < ops.length) (ho1 : -128 ≤ ops[i]) (ho2 : ops[i] ≤ 127)
    (a : Rd h r st) (b : Box w [.str st.1, .int .i64 (st.2 : Int)] h) (z1 : z 1 = x1) (z6 : z 6 = .ptr r 0) (z7 : z 7 = .ptr w 0) (z8 : z 8 = .int .i64 (i : Int)) :
    WS E0 ((ACode.ops f4_r22).seq ((ACode.draw f4_r23).seq ((ACode.ops f4_r24).seq (((ACode.ops f4_r25).seq (.cond (.tmp 67) ((ACode.ops f4_r26).seq .ret) .skip)).seq ((ACode.ops f4_r27).seq (.block 3 (.loop f4_l32))))))) k Q z h := by
  have wf := k0.wf wf0
  have hl := rList_len (ops[i] - 3) st
  have ei : (ops.map (AV.int .i8))[i]? = some (.int .i8 ops[i]) := by simp [hi]
  have at1 : ∀ {h' : H}, Keep (Old h0.n) h0 h' → ∃ p, indexAddrA 1 x1 (.int .i64 (i : Int)) = some p ∧ loadA h' false 1 p = some (.int .i8 ops[i]) := by
    intro h' k
    obtain ⟨p, p1, p2⟩ := (s1.keep k t1).at hi .i64
    exact ⟨p, p1, by rw [p2, ei]⟩
  obtain ⟨p, p1, p2⟩ := at1 k0
  have e1 : IntKind.i64.wrap ops[i] = ops[i] := wrap_i64 (by omega) (by omega)
  have e3 : IntKind.i64.wrap (ops[i] - 3) = ops[i] - 3 := wrap_i64 (by omega) (by omega)
  refine WS_of_seq (WS_of_ops ?_)
  simp only [f4_r22, go_sem, ↓reduceIte, Nat.reduceEqDiff, z1, z6, z8, p1, p2, e1, e3]
  refine (list_spec wf a (by omega) (by omega) (by omega)).mono ?_
  rintro x h1 ⟨v, rfl, bv, ov, a1, k1⟩
  have wf1 := k1.wf wf
  have b1 := b.keepA wf k1 (by simp; omega)
  have k01 := k0.trans (k1.old wf k0.n (by simpa using hr))
  obtain ⟨p', p1', p2'⟩ := at1 k01
  rw [p1] at p1'; cases p1'
  simp only [go_sem, ↓reduceIte, Nat.reduceEqDiff]
  refine WS_of_seq (WS_of_draw ?_)
  simp only [f4_r23, go_sem, ↓reduceIte, Nat.reduceEqDiff, z1, z7, z8, b1.loadAgg (n := 2) rfl, p1, p2', e1, e3, and_self, true_and, List.filter_cons, List.filter_nil, Nat.testBit, Nat.reduceShiftRight, Nat.reduceAnd, Nat.reduceBNe, Bool.not_false, Bool.not_true, Bool.false_eq_true, bne_self_eq_false]
  have bp := Box.new wf1 [.str [], .int .i64 0]
  have kp : Keep (Old h1.n) h1 (h1.new [.str [], .int .i64 0]) := Keep.new (Nat.le_refl _) _
  generalize h1.new [.str [], .int .i64 0] = h2 at bp kp ⊢
  have wf2 := kp.wf wf1
  have n01 : h0.n ≤ h1.n := k01.n
  have b2 := b1.keep kp (b1.lt wf1)
  have sv : Slot (Old h1.n) h1 v := ov.slot wf1
  obtain ⟨p', p1', p2''⟩ := at1 (k01.trans (kp.less n01))
  rw [p1] at p1'; cases p1'
  simp only [b2.loadAgg (n := 2) rfl, p2'', go_sem, ↓reduceIte, Nat.reduceEqDiff, and_self, true_and, List.filter_cons, List.filter_nil, Nat.testBit, Nat.reduceShiftRight, Nat.reduceAnd, Nat.reduceBNe, Bool.not_false, Bool.not_true, Bool.false_eq_true, bne_self_eq_false]
  refine (refReadList_spec wf2 (by omega) (by omega) (by omega)).mono ?_
  rintro x h3 ⟨u, rfl, bu, ou, k3⟩
  have wf3 := k3.wf wf2
  have k13 := kp.then (Nat.le_refl _) k3
  have bp3 := bp.keep k3 (bp.lt wf2)
  have b3 := b1.keep k13 (b1.lt wf1)
  have a3 := a1.keep (k13.less (by have := b1.lt wf1; omega))
  have bv3 := bv.keep k13 sv
  obtain ⟨h4, e4, b4, k4⟩ := bp3.putAll wf3 (vs := [.str (rList (ops[i] - 3) st).2.1, .int .i64 ((rList (ops[i] - 3) st).2.2 : Int)]) (n := 2) rfl rfl rfl
  have wf4 := k4.wf wf3
  simp only [go_sem, ↓reduceIte, Nat.reduceEqDiff, rsA, e4, and_self, true_and, List.filter_cons, List.filter_nil, Nat.testBit, Nat.reduceShiftRight, Nat.reduceAnd, Nat.reduceBNe, Bool.not_false, Bool.not_true, Bool.false_eq_true, bne_self_eq_false]
  have hb1 := b1.lt wf1
  have k14 : Keep (Old h1.n) h1 h4 := k13.trans (k4.newbox wf3 k13.n (Nat.le_refl _))
  have b4' := b1.keep k14 hb1
  have a4 := a1.keep (k14.less (by omega))
  have bv4 := bv.keep k14 sv
  have su : Slot (Apart [h1.n] h3) h3 u := by
    rcases ou.grp with rfl | ⟨g, hg, gg⟩
    · trivial
    · exact gg.away wf3 (by have := bp.lt wf2; simp; omega) (by simpa using bp3.root)
  have bu4 := bu.keep k4 su
  obtain ⟨h5, e5, b5, k5⟩ := b4'.putAll wf4 (vs := [.str (rList (ops[i] - 3) st).2.1, .int .i64 ((rList (ops[i] - 3) st).2.2 : Int)]) (n := 2) rfl rfl rfl
  have wf5 := k5.wf wf4
  refine WS_of_seq (WS_of_ops ?_)
  simp only [f4_r24, go_sem, ↓reduceIte, Nat.reduceEqDiff, z7, b4.loadAgg (n := 2) rfl, e5]
  have k05 : Keep (Old h0.n) h0 h5 := (k01.trans (k14.less n01)).trans (k5.newbox wf4 (Nat.le_trans n01 k14.n) (by omega))
  have a5 := a4.keep (k5.newbox wf4 (N := r + 1) (by have := b4'.lt wf4; omega) (by omega))
  have sv4 : Slot (Apart [w] h4) h4 v := by
    have s4 := sv.keep k14 (K' := Old h1.n) fun o ho => ho
    rcases ov.grp with rfl | ⟨g, hg, gg⟩
    · trivial
    · have gg4 := gg.keep sv k14
      exact gg4.away wf4 (by have := b.lt wf; simp; omega) (by simpa using b4'.root)
  have bv5 := bv4.keep k5 sv4
  have su5 : Slot (Apart [w] h4) h4 u := by
    have s4 := su.keepA k4
    rcases ou.grp with rfl | ⟨g, hg, gg⟩
    · trivial
    · have gg4 := gg.keep su k4
      exact gg4.away wf4 (by have := kp.n; simp; omega) (by simpa using b4'.root)
  have bu5 := bu4.keep k5 su5
  refine WS_of_seq (WS_of_seq (WS_of_ops ?_))
  simp only [f4_r25, go_sem, ↓reduceIte, Nat.reduceEqDiff, bv5.len, bu5.len, decide_true, Bool.not_true]
  refine WS_of_cond ?_
  simp only [go_sem, ↓reduceIte, Bool.false_eq_true]
  refine WS_of_skip ?_
  simp only [go_sem]
  refine WS_of_seq (WS_of_ops ?_)
  simp only [f4_r27, go_sem, ↓reduceIte, Nat.reduceEqDiff]
  refine WS_of_block (WS_of_loop (fun m y g => ∃ j, m = (rList (ops[i] - 3) st).1.length - j ∧ j ≤ (rList (ops[i] - 3) st).1.length ∧ g = h5 ∧
    y 1 = x1 ∧ y 6 = .ptr r 0 ∧ y 7 = .ptr w 0 ∧ y 8 = .int .i64 (i : Int) ∧ y 15 = v ∧ y 16 = u ∧ y 18 = .int .i64 (j : Nat)) ?_ (rList (ops[i] - 3) st).1.length ?_)
  · rintro m y g ⟨j, rfl, hj, rfl, y1, y6, y7, y8, y15, y16, y18⟩
    show WS E0 f4_l32 _ _ _ _
    refine WS_of_seq (WS_of_seq (WS_of_ops ?_))
    simp only [f4_r28, go_sem, ↓reduceIte, Nat.reduceEqDiff, y15, y18, bv5.len]
    refine WS_of_cond ?_
    simp only [go_sem, ↓reduceIte]
    by_cases hjl : j < (rList (ops[i] - 3) st).1.length
    · have c1 : (j : Int) < ((rList (ops[i] - 3) st).1.length : Int) := by omega
      have hsz : (rList (ops[i] - 3) st).1.length < 9223372036854775808 := by
        have := rList_count (ops[i] - 3) st
        omega
      simp only [c1, decide_true, ↓reduceIte]
      refine WS_of_skip ?_
      simp only [go_sem]
      obtain ⟨p3, p31, p32⟩ := bv5.at hjl .i64
      obtain ⟨p4, p41, p42⟩ := bu5.at hjl .i64
      refine WS_of_seq (WS_of_block (WS_of_seq (WS_of_draw ?_)))
      simp only [f4_r29, go_sem, ↓reduceIte, Nat.reduceEqDiff, y15, y16, y18, p31, p32, p41, p42, decide_true, and_self, true_and, List.filter_cons, List.filter_nil, Nat.testBit, Nat.reduceShiftRight, Nat.reduceAnd, Nat.reduceBNe, Bool.not_false, Bool.not_true, Bool.false_eq_true, bne_self_eq_false]
      refine WS_of_cond ?_
      simp only [go_sem, ↓reduceIte, Bool.false_eq_true]
      refine WS_of_skip ?_
      simp only [go_sem]
      refine WS_of_ops ?_
      have e9 : IntKind.i64.wrap ((j : Int) + 1) = ((j + 1 : Nat) : Int) := by rw [wrap_i64 (by omega) (by omega)]; omega
      simp only [f4_r31, go_sem, ↓reduceIte, Nat.reduceEqDiff, y18, e9]
      exact ⟨(rList (ops[i] - 3) st).1.length - (j + 1), by omega, j + 1, rfl, by omega, trivial, y1, y6, y7, y8, y15, y16, rfl⟩
    · have hje : j = (rList (ops[i] - 3) st).1.length := by omega
      subst hje
      simp only [Int.lt_irrefl, decide_false, Bool.false_eq_true, ↓reduceIte]
      refine WS_of_exit ?_
      simp only [go_sem, ↓reduceIte]
      exact next (rList (ops[i] - 3) st).2 _ g (by omega) k05 a5 b5 y1 y6 y7 y8
  · refine ⟨0, rfl, by omega, rfl, ?_, ?_, ?_, ?_, ?_, ?_, ?_⟩ <;> simp only [go_sem, ↓reduceIte, Nat.reduceEqDiff, z1, z6, z7, z8] <;> rfl
/-- the calls of a reader that is none -/
theorem reads_none {h : H} {q : S} : WS E0 ((ACode.ops f4_r40).seq ((ACode.ops f4_r41).seq .ret)) [] (atEnd f4_a.results fun r _ => r = .val (.bool true)) q h := by
  refine WS_of_seq (WS_of_ops ?_)
  simp only [f4_r40, go_sem, ↓reduceIte, Nat.reduceEqDiff]
  refine WS_of_seq (WS_of_ops ?_)
  simp only [f4_r41, go_sem, ↓reduceIte, Nat.reduceEqDiff]
  refine num_nil.mono ?_
  rintro x h' ⟨rfl, rfl⟩
  simp only [go_sem, ↓reduceIte, Nat.reduceEqDiff, decide_true]
  refine text_nil.mono ?_
  rintro x h' ⟨rfl, rfl⟩
  simp only [go_sem, ↓reduceIte, Nat.reduceEqDiff, decide_true]
  refine list_nil.mono ?_
  rintro x h' ⟨rfl, rfl⟩
  have e0 : lenSA .nils = some 0 := rfl
  have e00 : (((0 : Nat) : Int) = 0) = True := by simp
  simp only [go_sem, ↓reduceIte, Nat.reduceEqDiff, decide_true, e0, e00]
  refine left_nil.mono ?_
  rintro x h' ⟨rfl, rfl⟩
  simp only [go_sem, ↓reduceIte, Nat.reduceEqDiff, decide_true]
  refine err_nil.mono ?_
  rintro x h' ⟨rfl, rfl⟩
  simp only [go_sem, ↓reduceIte, Nat.reduceEqDiff, decide_true]
  refine end_nil.mono ?_
  rintro x h' ⟨rfl, rfl⟩
  simp only [go_sem, ↓reduceIte, Nat.reduceEqDiff, decide_true]
  refine WS_of_ret ?_
  simp only [go_sem, f4_a, ↓reduceIte, Nat.reduceEqDiff]
theorem reads_answer {x0 x1 : AV} {h : H} {bs : List UInt8} {ops : List Int} (wf : h.Wf) (b0 : Bytes h x0 bs) (t0 : Slot (Old h.n) h x0) (s1 : Sl h 1 x1 ops.length (ops.map (AV.int .i8))) (t1 : Slot (Old h.n) h x1)
    (hbl : bs.length < 9223372036854775808) (hol : ops.length < 9223372036854775808) (hw : ∀ o ∈ ops, -128 ≤ o ∧ o ≤ 127) :
    WCall E0 4 [x0, x1] h fun r _ => r = .val (.bool true) := by
  refine WCall_ws rfl T4 (by simp [f4_a]) ?_
  show WS E0 f4_c [] _ _ _
  refine WS_of_seq (WS_of_ops ?_)
  simp only [f4_r0, go_sem, ↓reduceIte]
  refine WS_of_seq (WS_of_ops ?_)
  simp only [f4_r1, go_sem, ↓reduceIte, Nat.reduceEqDiff]
  refine WCall_ov (g := fun args h => match args with | [] => some (.val (.bool true), h) | _ => none) rfl rfl ?_
  simp only [go_sem, ↓reduceIte, Nat.reduceEqDiff]
  refine WS_of_seq (WS_of_seq (WS_of_ops ?_))
  simp only [f4_r2, go_sem, ↓reduceIte, Nat.reduceEqDiff]
  refine WS_of_cond ?_
  simp only [go_sem, ↓reduceIte, Nat.reduceEqDiff, Bool.not_true, Bool.false_eq_true]
  refine WS_of_skip ?_
  simp only [go_sem]
  refine WS_of_seq (WS_of_seq (WS_of_ops ?_))
  by_cases c1 : 600 < bs.length
  · have c1' : (600 : Int) < (bs.length : Int) := by omega
    simp only [f4_r4, go_sem, ↓reduceIte, Nat.reduceEqDiff, b0.len, c1', decide_true, Bool.true_eq_false]
    refine WS_of_cond ?_
    simp only [go_sem, ↓reduceIte]
    refine WS_of_seq (WS_of_ops ?_)
    simp only [f4_r5, go_sem, ↓reduceIte]
    refine WS_of_ret ?_
    simp only [go_sem, f4_a, ↓reduceIte, Nat.reduceEqDiff]
  have c1' : ¬ (600 : Int) < (bs.length : Int) := by omega
  by_cases c2 : 60 < ops.length
  · have c2' : (60 : Int) < (ops.length : Int) := by omega
    simp only [f4_r4, go_sem, ↓reduceIte, Nat.reduceEqDiff, b0.len, s1.len, c1', c2', decide_true, decide_false, Bool.true_eq_false, Bool.false_eq_true]
    refine WS_of_cond ?_
    simp only [go_sem, ↓reduceIte]
    refine WS_of_seq (WS_of_ops ?_)
    simp only [f4_r5, go_sem, ↓reduceIte]
    refine WS_of_ret ?_
    simp only [go_sem, f4_a, ↓reduceIte, Nat.reduceEqDiff]
  have c2' : ¬ (60 : Int) < (ops.length : Int) := by omega
  simp only [f4_r4, go_sem, ↓reduceIte, Nat.reduceEqDiff, b0.len, s1.len, c1', c2', decide_false, Bool.false_eq_true]
  refine WS_of_cond ?_
  simp only [go_sem, ↓reduceIte, Bool.false_eq_true]
  refine WS_of_skip ?_
  simp only [go_sem]
  refine WS_of_seq (WS_of_ops ?_)
  simp only [f4_r6, go_sem, ↓reduceIte, Nat.reduceEqDiff]
  refine (open_spec wf b0 t0 (by omega)).mono ?_
  rintro x h1 ⟨r, rfl, a1, hr, k1⟩
  have wf1 := k1.wf wf
  have hr1 : r < h1.n := by obtain ⟨v, b, c, d⟩ := a1; exact b.lt wf1
  simp only [go_sem, ↓reduceIte, Nat.reduceEqDiff]
  refine WS_of_seq (WS_of_ops ?_)
  have b1 := b0.keep k1 t0
  have ea : afill [AV.str [], AV.int .i64 0] [(0, 1, AV.str bs)] = some [.str bs, .int .i64 0] := rfl
  have bp := Box.new wf1 [.str [], .int .i64 0]
  have kp : Keep (Old h1.n) h1 (h1.new [.str [], .int .i64 0]) := Keep.new (Nat.le_refl _) _
  simp only [f4_r7, go_sem, ↓reduceIte, Nat.reduceEqDiff, b1.str, ea]
  generalize h1.new [.str [], .int .i64 0] = h2 at bp kp ⊢
  have wf2 := kp.wf wf1
  obtain ⟨h3, e3, b3, k3⟩ := bp.putAll wf2 (vs := [.str bs, .int .i64 0]) (n := 2) rfl rfl rfl
  have k13 : Keep (Old h1.n) h1 h3 := kp.trans (k3.newbox wf2 kp.n (Nat.le_refl _))
  have a3 := a1.keep (k13.less (by omega))
  simp only [go_sem, ↓reduceIte, Nat.reduceEqDiff, e3]
  refine WS_of_seq (WS_of_seq (WS_of_ops ?_))
  simp only [f4_r8, go_sem, ↓reduceIte, Nat.reduceEqDiff]
  refine WS_of_block (WS_of_loop (fun m z g => ∃ i st, m = ops.length - i ∧ i ≤ ops.length ∧ st.1.length ≤ 600 ∧ Keep (Old h.n) h g ∧ Rd g r st ∧ Box h1.n [.str st.1, .int .i64 (st.2 : Int)] g ∧
    z 1 = x1 ∧ z 6 = .ptr r 0 ∧ z 7 = .ptr h1.n 0 ∧ z 8 = .int .i64 (i : Int)) ?_ ops.length ?_)
  · rintro m z g ⟨i, st, rfl, hi, hs, kg, ag, bg, z1, z6, z7, z8⟩
    have sg := s1.keep kg t1
    show WS E0 f4_l39 _ _ _ _
    refine WS_of_seq (WS_of_seq (WS_of_ops ?_))
    simp only [f4_r9, go_sem, ↓reduceIte, Nat.reduceEqDiff, z1, z8, sg.len]
    refine WS_of_cond ?_
    simp only [go_sem, ↓reduceIte]
    by_cases hil : i < ops.length
    case neg =>
      have hie : i = ops.length := by omega
      subst hie
      simp only [Int.lt_irrefl, decide_false, Bool.false_eq_true, ↓reduceIte]
      refine WS_of_exit ?_
      simp only [go_sem, ↓reduceIte]
      exact reads_none
    have e1 : (i : Int) < (ops.length : Int) := by omega
    simp only [e1, decide_true, ↓reduceIte]
    refine WS_of_skip ?_
    simp only [go_sem]
    have hoi := hw _ (List.getElem_mem hil)
    obtain ⟨p, p1, p2⟩ := sg.at hil .i64
    have ei : (ops.map (AV.int .i8))[i]? = some (.int .i8 ops[i]) := by simp [hil]
    rw [ei] at p2
    refine WS_of_seq (WS_of_block (WS_of_seq (WS_of_block (WS_of_seq (WS_of_ops ?_)))))
    simp only [f4_r10, go_sem, ↓reduceIte, Nat.reduceEqDiff, z1, z8, p1, p2]
    refine WS_of_cond ?_
    simp only [go_sem, ↓reduceIte]
    have next : ∀ {Q : Post}, (∀ z' g', (∃ m, m < ops.length - i ∧ ∃ i' st', m = ops.length - i' ∧ i' ≤ ops.length ∧ st'.1.length ≤ 600 ∧ Keep (Old h.n) h g' ∧ Rd g' r st' ∧ Box h1.n [.str st'.1, .int .i64 (st'.2 : Int)] g' ∧
        z' 1 = x1 ∧ z' 6 = .ptr r 0 ∧ z' 7 = .ptr h1.n 0 ∧ z' 8 = .int .i64 (i' : Int)) → Q .normal z' g') → RTurn Q h x1 ops.length r h1.n i [.blk 2, .code ((ACode.ops f4_r33).seq (((ACode.ops f4_r34).seq (.cond (.tmp 125) (.ops f4_r35) .skip)).seq ((ACode.draw f4_r36).seq (.cond (.tmp 144) ((ACode.ops f4_r37).seq .ret) .skip)))), .blk 1, .code (.ops f4_r38)] := by
      intro Q hQ st' z' g' hs' kg' ag' bg' y1 y6 y7 y8
      simp only [go_sem]
      refine reads_check ag' bg' y6 y7 fun q' hq => ?_
      simp only [go_sem]
      have q1 : q' 1 = x1 := by rw [hq 1 (by omega), y1]
      have q6 : q' 6 = .ptr r 0 := by rw [hq 6 (by omega), y6]
      have q7 : q' 7 = .ptr h1.n 0 := by rw [hq 7 (by omega), y7]
      have q8 : q' 8 = .int .i64 (i : Int) := by rw [hq 8 (by omega), y8]
      have e9 : IntKind.i64.wrap ((i : Int) + 1) = ((i + 1 : Nat) : Int) := by rw [wrap_i64 (by omega) (by omega)]; omega
      refine WS_of_ops ?_
      simp only [f4_r38, go_sem, ↓reduceIte, Nat.reduceEqDiff, q8, e9]
      exact hQ _ _ ⟨ops.length - (i + 1), by omega, i + 1, st', rfl, by omega, hs', kg', ag', bg', q1, q6, q7, rfl⟩
    by_cases o0 : ops[i] = 0
    · simp only [o0, decide_true, ↓reduceIte]
      refine reads_op0 (next ?_) wf hs kg hr hr1 ag bg ?_ ?_ ?_ ?_
      · intro z' g' hh; exact hh
      all_goals simp only [go_sem, ↓reduceIte, Nat.reduceEqDiff, z1, z6, z7, z8]
    simp only [o0, decide_false, ↓reduceIte, Bool.false_eq_true]
    refine WS_of_seq (WS_of_ops ?_)
    simp only [f4_r16, go_sem, ↓reduceIte, Nat.reduceEqDiff, z1, z8, p1, p2]
    refine WS_of_cond ?_
    simp only [go_sem, ↓reduceIte]
    by_cases o1 : ops[i] = 1
    · simp only [o1, decide_true, ↓reduceIte]
      refine reads_op1 (next ?_) wf hs kg hr hr1 ag bg ?_ ?_ ?_ ?_
      · intro z' g' hh; exact hh
      all_goals simp only [go_sem, ↓reduceIte, Nat.reduceEqDiff, z1, z6, z7, z8]
    simp only [o1, decide_false, ↓reduceIte, Bool.false_eq_true]
    refine reads_op2 (next ?_) wf hs kg hr hr1 s1 t1 hil hoi.1 hoi.2 ag bg ?_ ?_ ?_ ?_
    · intro z' g' hh; exact hh
    all_goals simp only [go_sem, ↓reduceIte, Nat.reduceEqDiff, z1, z6, z7, z8]
  · refine ⟨0, (bs, 0), rfl, by omega, by simp only; omega, k1.then (Nat.le_refl _) k13, a3, b3, ?_, ?_, ?_, ?_⟩ <;> simp only [go_sem, ↓reduceIte, Nat.reduceEqDiff] <;> rfl
end Go.Proofs.Ythhibhhpcjggnab.Ev.C
