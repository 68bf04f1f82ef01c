/- The walk of FieldsBack. -/
import Derived.Test.YthhibhhpcjggnabTPlainB
namespace Go.Proofs.Ythhibhhpcjggnab.Ev.C
open Go Go.Proofs.Ythhibhhpcjggnab.Ev
set_option linter.unusedSimpArgs false
set_option linter.unusedVariables false
/-- the rest, from the reader of the cut bytes on -/
theorem back_tail {h0 h : H} {x0 x1 : AV} {l : List Nat} {t : List (List UInt8)} {cut : Nat} {w : AV} (wf0 : h0.Wf) (k0 : Keep (Old h0.n) h0 h) (b0 : U64s h0 x0 l) (t0 : Slot (Old h0.n) h0 x0) (b1 : Strs h0 x1 t) (t1 : Slot (Old h0.n) h0 x1)
    (bw : Bytes h w (l.flatMap num ++ lst t)) (sw : Slot (Old h.n) h w) (hl : ∀ x ∈ l, x < 18446744073709551616) (hll : l.length ≤ 60) (htl : t.length ≤ 30) (hts : ∀ u ∈ t, u.length ≤ 400) (hc : cut < 65536)
    {s : S} (s0 : s 0 = x0) (s1 : s 1 = x1) (s2 : s 2 = .int .u16 (cut : Int)) (s9 : s 9 = w) (hpos : 0 < (l.flatMap num ++ lst t).length) (hbig : (l.flatMap num ++ lst t).length ≤ 100000) :
    WS E0 (.seq (.ops f5_r33) (.seq (.seq (.ops f5_r34) (.block 6 (.loop f5_l38))) (.seq (.ops f5_r39) (.seq (.ops f5_r40) .ret)))) [] (atEnd f5_a.results fun r _ => r = .val (.bool true)) s h := by
  have wf := k0.wf wf0
  refine WS_of_seq (WS_of_ops ?_)
  have ec : IntKind.i64.wrap (cut : Int) = (cut : Int) := wrap_i64 (by omega) (by omega)
  have en : ¬ (((l.flatMap num ++ lst t).length : Nat) : Int) = 0 := by omega
  have er : (cut : Int).tmod (((l.flatMap num ++ lst t).length : Nat) : Int) = ((cut % (l.flatMap num ++ lst t).length : Nat) : Int) := by
    rw [Int.tmod_eq_emod_of_nonneg (by omega)]; rfl
  have hk : cut % (l.flatMap num ++ lst t).length < (l.flatMap num ++ lst t).length := Nat.mod_lt _ hpos
  obtain ⟨c, e1, bc, sc⟩ := bw.take (Nat.le_of_lt hk) .i64
  simp only [f5_r33, go_sem, ↓reduceIte, Nat.reduceEqDiff, s9, s2, ec, bw.len, en, er, e1, not_false_eq_true, true_and]
  refine (open_spec wf bc (sc _ sw) (by rw [List.length_take]; omega)).mono ?_
  rintro x h1 ⟨o, rfl, r1, ho, k1⟩
  have wf1 := k1.wf wf
  simp only [go_sem, ↓reduceIte, Nat.reduceEqDiff]
  refine WS_of_seq (WS_of_seq (WS_of_ops ?_))
  simp only [f5_r34, go_sem, ↓reduceIte, Nat.reduceEqDiff]
  have k01 : Keep (Old h0.n) h0 h1 := k0.then (Nat.le_refl _) k1
  have ho0 : h0.n ≤ o := Nat.le_trans k0.n ho
  refine WS_of_block (WS_of_loop (fun m q h2 => ∃ j, m = l.length - j ∧ j ≤ l.length ∧ Keep (Old h0.n) h0 h2 ∧ Rd h2 o (rNums j ((l.flatMap num ++ lst t).take (cut % (l.flatMap num ++ lst t).length), 0)) ∧
    q 0 = x0 ∧ q 1 = x1 ∧ q 15 = .ptr o 0 ∧ q 16 = .int .i64 (j : Nat)) ?_ l.length ?_)
  · rintro m q h2 ⟨j, rfl, hj, k2, r2, q0, q1, q15, q16⟩
    have wf2 := k2.wf wf0
    have hlen := rNums_len j ((l.flatMap num ++ lst t).take (cut % (l.flatMap num ++ lst t).length), 0)
    simp only [List.length_take] at hlen
    have b2 := Sl.keep b0 k2 t0
    have b3 := b1.keep k2 t1
    show WS E0 f5_l38 _ _ _ _
    refine WS_of_seq (WS_of_seq (WS_of_ops ?_))
    simp only [f5_r35, go_sem, ↓reduceIte, Nat.reduceEqDiff, q0, q16, b2.len]
    refine WS_of_cond ?_
    simp only [go_sem, ↓reduceIte]
    by_cases hjl : j < l.length
    · have e1 : (j : Int) < (l.length : Int) := by omega
      simp only [e1, decide_true, ↓reduceIte]
      refine WS_of_skip ?_
      simp only [go_sem]
      refine WS_of_seq (WS_of_block (WS_of_ops ?_))
      simp only [f5_r36, go_sem, ↓reduceIte, Nat.reduceEqDiff, q15]
      refine (num_spec wf2 r2 (by omega)).mono ?_
      rintro x h3 ⟨rfl, r3, k3⟩
      simp only [go_sem, ↓reduceIte, Nat.reduceEqDiff]
      refine WS_of_ops ?_
      have e9 : IntKind.i64.wrap ((j : Int) + 1) = ((j + 1 : Nat) : Int) := by rw [wrap_i64 (by omega) (by omega)]; omega
      simp only [f5_r37, go_sem, ↓reduceIte, Nat.reduceEqDiff, q16, e9]
      exact ⟨l.length - (j + 1), by omega, j + 1, rfl, by omega, k2.trans (k3.old wf2 k2.n (by simpa using ho0)), r3, q0, q1, q15, rfl⟩
    · have hje : j = l.length := by omega
      subst hje
      simp only [Int.lt_irrefl, decide_false, Bool.false_eq_true, ↓reduceIte]
      refine WS_of_exit ?_
      simp only [go_sem, ↓reduceIte]
      refine WS_of_seq (WS_of_ops ?_)
      simp only [f5_r39, go_sem, ↓reduceIte, Nat.reduceEqDiff, q15, q1, b3.len]
      refine (list_spec wf2 r2 (by omega) (by omega) (by omega)).mono ?_
      rintro x h4 ⟨g, rfl, b4, o4, r4, k4⟩
      simp only [go_sem, ↓reduceIte, Nat.reduceEqDiff]
      refine WS_of_seq (WS_of_ops ?_)
      simp only [f5_r40, go_sem, ↓reduceIte, Nat.reduceEqDiff, q15]
      refine (err_spec r4).mono ?_
      rintro x h5 ⟨rfl, rfl⟩
      have es := back_short (t := t) (by omega) (fun u hu => by have := hts u hu; omega) hl hk
      have e10 : (((10 : Nat) : Int) = 10) = True := by simp
      simp only [go_sem, ↓reduceIte, Nat.reduceEqDiff, es, e10, decide_true]
      refine WS_of_ret ?_
      simp only [go_sem, f5_a, ↓reduceIte, Nat.reduceEqDiff]
  · refine ⟨0, rfl, by omega, k01, r1, ?_, ?_, ?_, ?_⟩ <;> simp only [go_sem, ↓reduceIte, Nat.reduceEqDiff, s0, s1] <;> rfl
/-- numbers and texts, read as they were put -/
theorem back_mid {h0 h : H} {x0 x1 : AV} {l : List Nat} {t : List (List UInt8)} {cut : Nat} {w : AV} (wf0 : h0.Wf) (k0 : Keep (Old h0.n) h0 h) (b0 : U64s h0 x0 l) (t0 : Slot (Old h0.n) h0 x0) (b1 : Strs h0 x1 t) (t1 : Slot (Old h0.n) h0 x1)
    (bw : Bytes h w (l.flatMap num ++ lst t)) (sw : Slot (Old h.n) h w) (hl : ∀ x ∈ l, x < 18446744073709551616) (hll : l.length ≤ 60) (htl : t.length ≤ 30) (hts : ∀ u ∈ t, u.length ≤ 400) (hc : cut < 65536)
    {s : S} (s0 : s 0 = x0) (s1 : s 1 = x1) (s2 : s 2 = .int .u16 (cut : Int)) (s9 : s 9 = w) (hpos : 0 < (l.flatMap num ++ lst t).length) (hbig : (l.flatMap num ++ lst t).length ≤ 100000) :
    WS E0 (.seq (.ops f5_r16) (.seq (.seq (.ops f5_r17) (.block 2 (.loop f5_l23))) (.seq (.ops f5_r24) (.seq (.seq (.ops f5_r25) (.cond (.tmp 78) (.seq (.ops f5_r26) .ret) .skip)) (.seq (.seq (.ops f5_r27) (.block 4 (.loop f5_l32))) (.seq (.ops f5_r33) (.seq (.seq (.ops f5_r34) (.block 6 (.loop f5_l38))) (.seq (.ops f5_r39) (.seq (.ops f5_r40) .ret)))))))))
      [] (atEnd f5_a.results fun r _ => r = .val (.bool true)) s h := by
  have wf := k0.wf wf0
  refine WS_of_seq (WS_of_ops ?_)
  simp only [f5_r16, go_sem, ↓reduceIte, Nat.reduceEqDiff, s9]
  refine (open_spec wf bw sw (by omega)).mono ?_
  rintro x h1 ⟨o, rfl, r1, ho, k1⟩
  have wf1 := k1.wf wf
  simp only [go_sem, ↓reduceIte, Nat.reduceEqDiff]
  refine WS_of_seq (WS_of_seq (WS_of_ops ?_))
  simp only [f5_r17, go_sem, ↓reduceIte, Nat.reduceEqDiff]
  refine WS_of_block (WS_of_loop (fun m q h2 => ∃ j, m = l.length - j ∧ j ≤ l.length ∧ Keep (Old h.n) h h2 ∧ Rd h2 o ((l.drop j).flatMap num ++ lst t, 0) ∧
    q 0 = x0 ∧ q 1 = x1 ∧ q 2 = .int .u16 (cut : Int) ∧ q 9 = w ∧ q 10 = .ptr o 0 ∧ q 11 = .int .i64 (j : Nat)) ?_ l.length ?_)
  · rintro m q h2 ⟨j, rfl, hj, k2, r2, q0, q1, q2, q9, q10, q11⟩
    have wf2 := k2.wf wf
    have k02 : Keep (Old h0.n) h0 h2 := k0.then (Nat.le_refl _) k2
    have b2 := Sl.keep b0 k02 t0
    have b3 := b1.keep k02 t1
    show WS E0 f5_l23 _ _ _ _
    refine WS_of_seq (WS_of_seq (WS_of_ops ?_))
    simp only [f5_r18, go_sem, ↓reduceIte, Nat.reduceEqDiff, q0, q11, b2.len, List.length_map]
    refine WS_of_cond ?_
    simp only [go_sem, ↓reduceIte]
    by_cases hjl : j < l.length
    · have e1 : (j : Int) < (l.length : Int) := by omega
      simp only [e1, decide_true, ↓reduceIte]
      refine WS_of_skip ?_
      simp only [go_sem]
      have hd : (l.drop j).flatMap num ++ lst t = num l[j] ++ ((l.drop (j + 1)).flatMap num ++ lst t) := by
        rw [List.drop_eq_getElem_cons hjl, List.flatMap_cons, List.append_assoc]
      have hlj := hl l[j] (List.getElem_mem hjl)
      have hlen : ((l.drop j).flatMap num ++ lst t).length ≤ 100000 := by
        have hq : (l.flatMap num).length = ((l.take j).flatMap num).length + ((l.drop j).flatMap num).length := by
          rw [← List.length_append, ← List.flatMap_append, List.take_append_drop]
        rw [List.length_append] at hbig ⊢; omega
      refine WS_of_seq (WS_of_block (WS_of_seq (WS_of_ops ?_)))
      simp only [f5_r19, go_sem, ↓reduceIte, Nat.reduceEqDiff, q10]
      refine (num_spec wf2 r2 (by simp only; omega)).mono ?_
      rintro x h3 ⟨rfl, r3, k3⟩
      rw [hd, rNum_num hlj] at r3
      have k3' := k3.old wf2 k2.n (by simpa using ho)
      have k03 : Keep (Old h0.n) h0 h3 := k0.then (Nat.le_refl _) (k2.trans k3')
      have b4 := U64s.at (Sl.keep b0 k03 t0) hjl .i64
      obtain ⟨p, p1, p2⟩ := b4
      simp only [go_sem, ↓reduceIte, Nat.reduceEqDiff]
      refine WS_of_seq (WS_of_ops ?_)
      simp only [f5_r20, go_sem, ↓reduceIte, Nat.reduceEqDiff, q0, q11, p1, p2, hd, rNum_num hlj, decide_true, Bool.not_true]
      refine WS_of_cond ?_
      simp only [go_sem, ↓reduceIte, Bool.false_eq_true]
      refine WS_of_skip ?_
      simp only [go_sem]
      refine WS_of_ops ?_
      have e9 : IntKind.i64.wrap ((j : Int) + 1) = ((j + 1 : Nat) : Int) := by rw [wrap_i64 (by omega) (by omega)]; omega
      simp only [f5_r22, go_sem, ↓reduceIte, Nat.reduceEqDiff, q11, e9]
      exact ⟨l.length - (j + 1), by omega, j + 1, rfl, by omega, k2.trans k3', r3, q0, q1, q2, q9, q10, rfl⟩
    · have hje : j = l.length := by omega
      subst hje
      simp only [Int.lt_irrefl, decide_false, Bool.false_eq_true, ↓reduceIte]
      refine WS_of_exit ?_
      simp only [go_sem, ↓reduceIte]
      rw [List.drop_length, List.flatMap_nil, List.nil_append] at r2
      refine WS_of_seq (WS_of_ops ?_)
      simp only [f5_r24, go_sem, ↓reduceIte, Nat.reduceEqDiff, q10, q1, b3.len]
      refine (list_spec wf2 r2 (by rw [List.length_append] at hbig; simp only; omega) (by omega) (by omega)).mono ?_
      rintro x h4 ⟨g, rfl, b4, o4, r4, k4⟩
      have er := rList_lst (l := t) (by omega) (fun u hu => by have := hts u hu; omega) [] (t.length : Int)
      rw [List.append_nil, List.append_nil, if_neg (by omega)] at er
      rw [er] at b4 r4
      have wf4 := k4.wf wf2
      have k24 := k4.old wf2 k2.n (by simpa using ho)
      have k4' := k2.trans k24
      have k04 : Keep (Old h0.n) h0 h4 := k0.then (Nat.le_refl _) k4'
      have b5 := b1.keep k04 t1
      simp only [go_sem, ↓reduceIte, Nat.reduceEqDiff]
      refine WS_of_seq (WS_of_seq (WS_of_ops ?_))
      simp only [f5_r25, go_sem, ↓reduceIte, Nat.reduceEqDiff, b4.len, q1, b5.len, decide_true, Bool.not_true, q10]
      refine (end_spec r4).mono ?_
      rintro x h5 ⟨rfl, rfl⟩
      have e00 : (((rEnd ([], 0) : Nat) : Int) = 0) = True := by simp [rEnd]
      simp only [go_sem, ↓reduceIte, Nat.reduceEqDiff, e00, decide_true, Bool.not_true, Bool.false_eq_true]
      refine WS_of_cond ?_
      simp only [go_sem, ↓reduceIte, Bool.false_eq_true]
      refine WS_of_skip ?_
      simp only [go_sem]
      refine WS_of_seq (WS_of_seq (WS_of_ops ?_))
      simp only [f5_r27, go_sem, ↓reduceIte, Nat.reduceEqDiff]
      refine WS_of_block (WS_of_loop (fun m z h6 => ∃ j, m = t.length - j ∧ j ≤ t.length ∧ h6 = h5 ∧
        z 0 = x0 ∧ z 1 = x1 ∧ z 2 = .int .u16 (cut : Int) ∧ z 9 = w ∧ z 13 = g ∧ z 14 = .int .i64 (j : Nat)) ?_ t.length ?_)
      · rintro m z h6 ⟨j, rfl, hj, rfl, z0, z1, z2, z9, z13, z14⟩
        show WS E0 f5_l32 _ _ _ _
        refine WS_of_seq (WS_of_seq (WS_of_ops ?_))
        simp only [f5_r28, go_sem, ↓reduceIte, Nat.reduceEqDiff, z1, z14, b5.len]
        refine WS_of_cond ?_
        simp only [go_sem, ↓reduceIte]
        by_cases hjl : j < t.length
        · have e1 : (j : Int) < (t.length : Int) := by omega
          simp only [e1, decide_true, ↓reduceIte]
          refine WS_of_skip ?_
          simp only [go_sem]
          obtain ⟨p, p1, p2⟩ := b4.at hjl .i64
          obtain ⟨p', p1', p2'⟩ := b5.at hjl .i64
          refine WS_of_seq (WS_of_block (WS_of_seq (WS_of_draw ?_)))
          simp only [f5_r29, go_sem, ↓reduceIte, Nat.reduceEqDiff, z1, z13, z14, p1, p2, p1', p2', decide_true, Bool.not_true, and_self, true_and]
          refine WS_of_cond ?_
          simp only [go_sem, ↓reduceIte, Bool.false_eq_true]
          refine WS_of_skip ?_
          simp only [go_sem]
          refine WS_of_ops ?_
          have e9 : IntKind.i64.wrap ((j : Int) + 1) = ((j + 1 : Nat) : Int) := by rw [wrap_i64 (by omega) (by omega)]; omega
          simp only [f5_r31, go_sem, ↓reduceIte, Nat.reduceEqDiff, z14, e9]
          exact ⟨t.length - (j + 1), by omega, j + 1, rfl, by omega, trivial, z0, z1, z2, z9, z13, rfl⟩
        · have hje : j = t.length := by omega
          subst hje
          simp only [Int.lt_irrefl, decide_false, Bool.false_eq_true, ↓reduceIte]
          refine WS_of_exit ?_
          simp only [go_sem, ↓reduceIte]
          exact back_tail wf0 k04 b0 t0 b1 t1 (bw.keep k4' sw) (sw.keep k4' fun o ho => Nat.lt_of_lt_of_le ho k4'.n) hl hll htl hts hc z0 z1 z2 z9 hpos hbig
      · refine ⟨0, rfl, by omega, rfl, ?_, ?_, ?_, ?_, ?_, ?_⟩ <;> simp only [go_sem, ↓reduceIte, Nat.reduceEqDiff, q0, q1, q2, q9] <;> rfl
  · refine ⟨0, rfl, by omega, k1, r1, ?_, ?_, ?_, ?_, ?_, ?_⟩ <;> simp only [go_sem, ↓reduceIte, Nat.reduceEqDiff, s0, s1, s2, s9] <;> rfl
theorem back_answer {x0 x1 : AV} {h : H} {l : List Nat} {t : List (List UInt8)} {cut : Nat} (wf : h.Wf) (b0 : U64s h x0 l) (t0 : Slot (Old h.n) h x0) (b1 : Strs h x1 t) (t1 : Slot (Old h.n) h x1)
    (hl : ∀ x ∈ l, x < 18446744073709551616) (hll : l.length < 9223372036854775808) (htl : t.length < 9223372036854775808) (hts : ∀ u ∈ t, u.length ≤ 9223372036854775807) (hc : cut < 65536) :
    WCall E0 5 [x0, x1, .int .u16 cut] h fun r _ => r = .val (.bool true) := by
  refine WCall_ws rfl T5 (by simp [f5_a]) ?_
  show WS E0 f5_c [] _ _ _
  refine WS_of_seq (WS_of_ops ?_)
  simp only [f5_r0, go_sem, ↓reduceIte]
  refine WS_of_seq (WS_of_ops ?_)
  simp only [f5_r1, go_sem, ↓reduceIte, Nat.reduceEqDiff]
  refine WCall_ov (g := fun args h => match args with | [] => some (.val (.bool true), h) | _ => none) rfl rfl ?_
  simp only [go_sem, ↓reduceIte, Nat.reduceEqDiff]
  refine WS_of_seq (WS_of_seq (WS_of_ops ?_))
  simp only [f5_r2, go_sem, ↓reduceIte, Nat.reduceEqDiff]
  refine WS_of_cond ?_
  simp only [go_sem, ↓reduceIte, Nat.reduceEqDiff, Bool.not_true, Bool.false_eq_true]
  refine WS_of_skip ?_
  simp only [go_sem]
  refine WS_of_seq (WS_of_seq (WS_of_ops ?_))
  by_cases c1 : 60 < l.length
  · have c1' : (60 : Int) < (l.length : Int) := by omega
    simp only [f5_r4, go_sem, ↓reduceIte, Nat.reduceEqDiff, b0.len, c1', decide_true, Bool.true_eq_false]
    refine WS_of_cond ?_
    simp only [go_sem, ↓reduceIte]
    refine WS_of_seq (WS_of_ops ?_)
    simp only [f5_r5, go_sem, ↓reduceIte]
    refine WS_of_ret ?_
    simp only [go_sem, f5_a, ↓reduceIte, Nat.reduceEqDiff]
  have c1' : ¬ (60 : Int) < (l.length : Int) := by omega
  by_cases c2 : 30 < t.length
  · have c2' : (30 : Int) < (t.length : Int) := by omega
    simp only [f5_r4, go_sem, ↓reduceIte, Nat.reduceEqDiff, b0.len, b1.len, c1', c2', decide_true, decide_false, Bool.false_eq_true]
    refine WS_of_cond ?_
    simp only [go_sem, ↓reduceIte]
    refine WS_of_seq (WS_of_ops ?_)
    simp only [f5_r5, go_sem, ↓reduceIte]
    refine WS_of_ret ?_
    simp only [go_sem, f5_a, ↓reduceIte, Nat.reduceEqDiff]
  have c2' : ¬ (30 : Int) < (t.length : Int) := by omega
  simp only [f5_r4, go_sem, ↓reduceIte, Nat.reduceEqDiff, b0.len, b1.len, c1', c2', decide_true, decide_false, Bool.false_eq_true]
  refine WS_of_cond ?_
  simp only [go_sem, ↓reduceIte, Bool.false_eq_true]
  refine WS_of_skip ?_
  simp only [go_sem]
  refine WS_of_seq (WS_of_seq (WS_of_ops ?_))
  simp only [f5_r6, go_sem, ↓reduceIte, Nat.reduceEqDiff]
  refine WS_of_block (WS_of_loop (fun m z h1 => ∃ j, m = t.length - j ∧ j ≤ t.length ∧ h1 = h ∧ (∀ u ∈ t.take j, u.length ≤ 400) ∧
    z 0 = x0 ∧ z 1 = x1 ∧ z 2 = .int .u16 (cut : Int) ∧ z 8 = .int .i64 (j : Nat)) ?_ t.length ?_)
  · rintro m z h1 ⟨j, rfl, hj, rfl, hsm, z0, z1, z2, z8⟩
    show WS E0 f5_l11 _ _ _ _
    refine WS_of_seq (WS_of_seq (WS_of_ops ?_))
    simp only [f5_r7, go_sem, ↓reduceIte, Nat.reduceEqDiff, z1, z8, b1.len]
    refine WS_of_cond ?_
    simp only [go_sem, ↓reduceIte]
    by_cases hjl : j < t.length
    · have e1 : (j : Int) < (t.length : Int) := by omega
      simp only [e1, decide_true, ↓reduceIte]
      refine WS_of_skip ?_
      simp only [go_sem]
      obtain ⟨p, p1, p2⟩ := b1.at hjl .i64
      refine WS_of_seq (WS_of_block (WS_of_seq (WS_of_ops ?_)))
      simp only [f5_r8, go_sem, ↓reduceIte, Nat.reduceEqDiff, z1, z8, p1, p2]
      refine WS_of_cond ?_
      simp only [go_sem, ↓reduceIte]
      by_cases c3 : 400 < t[j].length
      · have c3' : (400 : Int) < (t[j].length : Int) := by omega
        simp only [c3', decide_true, ↓reduceIte]
        refine WS_of_seq (WS_of_ops ?_)
        simp only [f5_r9, go_sem, ↓reduceIte]
        refine WS_of_ret ?_
        simp only [go_sem, f5_a, ↓reduceIte, Nat.reduceEqDiff]
      have c3' : ¬ (400 : Int) < (t[j].length : Int) := by omega
      simp only [c3', decide_false, ↓reduceIte, Bool.false_eq_true]
      refine WS_of_skip ?_
      simp only [go_sem]
      refine WS_of_ops ?_
      have e9 : IntKind.i64.wrap ((j : Int) + 1) = ((j + 1 : Nat) : Int) := by rw [wrap_i64 (by omega) (by omega)]; omega
      simp only [f5_r10, go_sem, ↓reduceIte, Nat.reduceEqDiff, z8, e9]
      refine ⟨t.length - (j + 1), by omega, j + 1, rfl, by omega, trivial, ?_, z0, z1, z2, rfl⟩
      intro u hu
      rw [List.take_add_one, List.getElem?_eq_getElem hjl, Option.toList_some] at hu
      rcases List.mem_append.1 hu with hu | hu
      · exact hsm u hu
      · rw [List.mem_singleton.1 hu]; omega
    · have hje : j = t.length := by omega
      subst hje
      rw [List.take_length] at hsm
      simp only [Int.lt_irrefl, decide_false, Bool.false_eq_true, ↓reduceIte]
      refine WS_of_exit ?_
      simp only [go_sem, ↓reduceIte]
      refine WS_of_seq (WS_of_ops ?_)
      simp only [f5_r12, go_sem, ↓reduceIte, Nat.reduceEqDiff, z0]
      refine (put_spec wf b0 t0 hl (by omega)).mono ?_
      rintro x h2 ⟨v2, rfl, b2, o2, k2⟩
      have wf2 := k2.wf wf
      simp only [go_sem, ↓reduceIte, Nat.reduceEqDiff]
      refine WS_of_seq (WS_of_ops ?_)
      simp only [f5_r13, go_sem, ↓reduceIte, Nat.reduceEqDiff, z1]
      refine (lists_spec wf2 (b1.keep k2 t1) (t1.keep k2 fun o ho => Nat.lt_of_lt_of_le ho k2.n) (M := 400) (by omega) hsm (by omega)).mono ?_
      rintro x h3 ⟨v3, rfl, b3, o3, k3⟩
      have wf3 := k3.wf wf2
      have sl2 := o2.slot wf2
      have fl := flat_length hl
      have tl := txts_len (l := t) (M := 400) (by omega) hsm
      have nl := num_len9 (x := t.length) (by omega)
      have np := num_pos t.length
      have ll : (lst t).length = (num t.length).length + (txts t).length := by rw [lst, List.length_append]
      obtain ⟨v4, h4, e4, b4, o4, k4⟩ := (b2.keep k3 sl2).app wf3 (Nat.le_trans k2.n k3.n) (o2.keep sl2 k3) b3 (by omega)
      have wf4 := k4.wf wf3
      simp only [go_sem, ↓reduceIte, Nat.reduceEqDiff, e4]
      refine WS_of_seq (WS_of_seq (WS_of_ops ?_))
      have hbl : (l.flatMap num ++ lst t).length = (l.flatMap num).length + (lst t).length := List.length_append
      have en : ¬ (((l.flatMap num ++ lst t).length : Nat) : Int) = 0 := by omega
      simp only [f5_r14, go_sem, ↓reduceIte, Nat.reduceEqDiff, b4.len, en, decide_false]
      refine WS_of_cond ?_
      simp only [go_sem, ↓reduceIte, Bool.false_eq_true]
      refine WS_of_skip ?_
      simp only [go_sem]
      refine back_mid wf ((k2.then (Nat.le_refl _) k3).trans k4) b0 t0 b1 t1 b4 (o4.slot wf4) hl (by omega) (by omega) hsm hc ?_ ?_ ?_ ?_ (by omega) (by omega) <;> simp only [go_sem, ↓reduceIte, Nat.reduceEqDiff, z0, z1, z2]
  · refine ⟨0, rfl, by omega, rfl, by simp, ?_, ?_, ?_, ?_⟩ <;> simp only [go_sem, ↓reduceIte, Nat.reduceEqDiff] <;> rfl
end Go.Proofs.Ythhibhhpcjggnab.Ev.C
