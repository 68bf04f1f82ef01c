/- The law JournalEpochs, walked. -/
import Derived.Test.YtmfbememiffkjaaTJD
namespace Go.Proofs.Ytmfbememiffkjaa.Ev.C
open Go Go.Proofs.Ytmfbememiffkjaa.Ev
set_option linter.unusedSimpArgs false
set_option linter.unusedVariables false
abbrev BRe : AOut → H → Prop := fun r _ => r = .val (.bool true)
theorem jsize_few {b : Sec} (h : b.length ≤ 300) : jsize b.length ≤ 6 := by unfold jsize; omega
/-- the state of the first loop -/
structure EpA (h0 : H) (X Y : Nat) (a : List Sec) (o ol j : Nat) (h2 : H) : Prop where
  k : Keep (Old h0.n) h0 h2
  ex : ∃ D p, JW h0.n h2 ol o p 150 X (a.take j) D .nils [] ∧ Calm 150 D ∧ p ≤ 6 * j ∧ Foreign (findS D) Y 0 150
structure EpB (h0 : H) (X Y : Nat) (b : List Sec) (o ol j : Nat) (v : AV) (h2 : H) : Prop where
  k : Keep (Old h0.n) h0 h2
  ex : ∃ D p, JW h0.n h2 ol o p 150 Y (b.take j) D v (b.take j) ∧ Calm 150 D ∧ p ≤ 6 * j ∧ Foreign (findS D) Y p 150 ∧ Lies (findS D) Y 0 0 (b.take j) p
theorem take_succ' {z : List Sec} {j : Nat} (c : j < z.length) : z.take (j + 1) = z.take j ++ [z[j]] := by rw [List.take_add_one, List.getElem?_eq_getElem c]; rfl
theorem epochs_answer {h : H} {x0 x1 : AV} {a b : List Sec} {X Y : Nat} (wf : h.Wf) (sa : SliceR 1 BytesR h [x0] a) (sb : SliceR 1 BytesR h [x1] b) (hX : X < 18446744073709551616) (hY : Y < 18446744073709551616) :
    WCall E0 9 [x0, x1, .int .u64 (X : Int), .int .u64 (Y : Int)] h BRe := by
  refine WCall_ws (ovn 9) U9 (by simp [f9_a]) ?_
  show WS E0 f9_c [] _ _ _
  have early : ∀ {k : List Fr1} {s : S} {h : H}, WS E0 (.seq (.ops f9_r7) .ret) k (atEnd f9_a.results BRe) s h := by
    intro k s h
    refine WS_of_seq (WS_of_ops ?_)
    simp only [f9_r7, go_sem, ↓reduceIte, Nat.reduceEqDiff]
    refine WS_of_ret ?_
    simp only [f9_a, go_sem, ↓reduceIte, Nat.reduceEqDiff]
  refine WS_of_seq (WS_of_ops ?_)
  simp only [f9_r0, go_sem, ↓reduceIte]
  refine WS_of_seq (WS_of_ops ?_)
  simp only [f9_r1, go_sem, ↓reduceIte, Nat.reduceEqDiff]
  refine WCall_ov (g := yes) rfl rfl ?_
  simp only [go_sem, ↓reduceIte, Nat.reduceEqDiff]
  refine WS_of_seq (WS_of_seq (WS_of_ops ?_))
  simp only [f9_r2, go_sem, ↓reduceIte, Nat.reduceEqDiff]
  refine WS_of_cond ?_
  simp only [go_sem, ↓reduceIte, Nat.reduceEqDiff, Bool.not_true, Bool.false_eq_true]
  refine WS_of_skip ?_
  simp only [go_sem]
  refine WS_of_seq (WS_of_ops ?_)
  simp only [f9_r4, go_sem, ↓reduceIte, Nat.reduceEqDiff]
  refine (jfew_spec sa).mono ?_
  rintro r h1 ⟨hh, fa, rfl, hfa⟩
  have hh' := hh.symm
  subst hh'
  simp only [go_sem, ↓reduceIte, Nat.reduceEqDiff]
  refine WS_of_seq (WS_of_ops ?_)
  simp only [f9_r5, go_sem, ↓reduceIte, Nat.reduceEqDiff]
  refine (jfew_spec sb).mono ?_
  rintro r h1 ⟨hh, fb, rfl, hfb⟩
  have hh' := hh.symm
  subst hh'
  simp only [go_sem, ↓reduceIte, Nat.reduceEqDiff]
  refine WS_of_seq (WS_of_seq (WS_of_ops ?_))
  cases fa with
  | false =>
    simp only [f9_r6, go_sem, ↓reduceIte, Nat.reduceEqDiff, Bool.not_false, Bool.true_eq_false]
    refine WS_of_cond ?_
    simp only [go_sem, ↓reduceIte]
    exact early
  | true =>
  cases fb with
  | false =>
    simp only [f9_r6, go_sem, ↓reduceIte, Nat.reduceEqDiff, Bool.not_false, Bool.not_true, Bool.true_eq_false]
    refine WS_of_cond ?_
    simp only [go_sem, ↓reduceIte]
    exact early
  | true =>
  by_cases cxy : X = Y
  · have cxy' : (X : Int) = (Y : Int) := by omega
    simp only [f9_r6, go_sem, ↓reduceIte, Nat.reduceEqDiff, Bool.not_false, Bool.not_true, Bool.true_eq_false, cxy', decide_true]
    refine WS_of_cond ?_
    simp only [go_sem, ↓reduceIte]
    exact early
  obtain ⟨ha, ha3⟩ := hfa rfl
  obtain ⟨hb, hb3⟩ := hfb rfl
  have cxy' : ¬ (X : Int) = (Y : Int) := by omega
  simp only [f9_r6, go_sem, ↓reduceIte, Nat.reduceEqDiff, Bool.not_false, Bool.not_true, Bool.true_eq_false, cxy', decide_false]
  refine WS_of_cond ?_
  simp only [go_sem, ↓reduceIte, Bool.false_eq_true]
  refine WS_of_skip ?_
  simp only [go_sem]
  refine WS_of_seq (WS_of_ops ?_)
  simp only [f9_r8, go_sem, ↓reduceIte, Nat.reduceEqDiff]
  refine (new_st wf (n := 150) (by decide) (by decide)).mono ?_
  rintro r h1 ⟨o, rfl, d1, k1⟩
  have wf1 := k1.wf wf
  simp only [go_sem, ↓reduceIte, Nat.reduceEqDiff, List.getElem?_cons_zero, List.getElem?_cons_succ]
  refine WS_of_seq (WS_of_seq (WS_of_ops ?_))
  simp only [f9_r9, go_sem, ↓reduceIte, Nat.reduceEqDiff, decide_true, Bool.not_true]
  refine WS_of_cond ?_
  simp only [go_sem, ↓reduceIte, Bool.false_eq_true]
  refine WS_of_skip ?_
  simp only [go_sem]
  have hkl : (Dk.new 150).kept.length = 150 := by simp [Dk.new]
  have op1 := JW.first (fr := 0) (to := 150) (ep := X) wf1 d1 k1.n rfl (by omega) (by rw [hkl]; omega) (by simp [Dk.new]) hX (jopen_new (by omega))
  refine WS_of_seq (WS_of_ops ?_)
  simp only [f9_r11, go_sem, ↓reduceIte, Nat.reduceEqDiff]
  refine op1.mono ?_
  rintro r h2 ⟨ol, rfl, j2, k2, -⟩
  have wf2 := k2.wf wf1
  have k02 : Keep (Old h.n) h h2 := k1.trans (k2.weaken fun q hq => Nat.lt_of_lt_of_le hq k1.n)
  simp only [go_sem, ↓reduceIte, Nat.reduceEqDiff, List.getElem?_cons_zero, List.getElem?_cons_succ]
  refine WS_of_seq (WS_of_seq (WS_of_ops ?_))
  simp only [f9_r12, go_sem, ↓reduceIte, Nat.reduceEqDiff, decide_true, Bool.not_true]
  refine WS_of_cond ?_
  simp only [go_sem, ↓reduceIte, Bool.false_eq_true]
  refine WS_of_skip ?_
  simp only [go_sem]
  refine WS_of_seq (WS_of_seq (WS_of_ops ?_))
  simp only [f9_r14, go_sem, ↓reduceIte, Nat.reduceEqDiff]
  refine WS_of_block (WS_of_loop (fun m s h2 => ∃ j, j + m = a.length ∧ s 0 = x0 ∧ s 1 = x1 ∧ s 2 = .int .u64 (X : Int) ∧ s 3 = .int .u64 (Y : Int) ∧ s 12 = .ptr o 0 ∧ s 14 = .ptr ol 0 ∧ s 16 = .int .i64 (j : Int) ∧ EpA h X Y a o ol j h2) ?_ a.length ?_)
  · rintro m s0 h2 ⟨j, hj, s00, s1, s2, s3, s12, s14, s16, ea⟩
    have wf2 := ea.k.wf wf
    have hal := sa.len.1
    show WS E0 f9_l18 [] _ _ _
    refine WS_of_seq (WS_of_seq (WS_of_ops ?_))
    by_cases c : j < a.length
    · have c1 : (j : Int) < (a.length : Int) := by omega
      simp only [f9_r15, go_sem, ↓reduceIte, Nat.reduceEqDiff, s00, s16, hal, c1, decide_true]
      refine WS_of_cond ?_
      simp only [go_sem, ↓reduceIte]
      refine WS_of_skip ?_
      simp only [go_sem]
      obtain ⟨D, p, jw, cm, hp, fo⟩ := ea.ex
      obtain ⟨o1, q1, v1, e1, b1, sl1, -, lo1⟩ := rec_get sa ea.k c
      have hjl : (a.take j).length = j := by rw [List.length_take]; omega
      have h300 := ha3 _ (List.getElem_mem c)
      have hjs := jsize_few h300
      obtain ⟨D', hD', cm', fD⟩ := cm.append (p := p) (to := 150) (ep := X) (k := (a.take j).length) (b := a[j]) (by omega) (by omega) (Nat.le_refl _) hX (by omega)
      have ap := jw.append wf2 ea.k.n b1 sl1 (by omega) (by omega) (by omega) (by rw [cm.wa]; simp) (by omega) hX hD'
      have lo := lo1 _ ea.k
      refine WS_of_seq (WS_of_block (WS_of_ops ?_))
      simp only [f9_r16, go_sem, ↓reduceIte, Nat.reduceEqDiff, s14, s00, s16, e1, lo]
      refine ap.mono ?_
      rintro r h3 ⟨rfl, jw3, k3⟩
      simp only [if_pos] at jw3
      rw [← take_succ' c] at jw3
      simp only [go_sem, ↓reduceIte, Nat.reduceEqDiff]
      refine WS_of_ops ?_
      have hw : IntKind.i64.wrap ((j : Int) + 1) = ((j + 1 : Nat) : Int) := by rw [wrap_i64 (by omega) (by omega)]; omega
      simp only [f9_r17, go_sem, ↓reduceIte, Nat.reduceEqDiff, s16, hw]
      exact ⟨m - 1, by omega, j + 1, by omega, s00, s1, s2, s3, s12, s14, rfl, ea.k.trans k3, D', _, jw3, cm', by omega, fo.append cxy hX (by omega) (by omega) fD⟩
    · have c1 : ¬ (j : Int) < (a.length : Int) := by omega
      simp only [f9_r15, go_sem, ↓reduceIte, Nat.reduceEqDiff, s00, s16, hal, c1, decide_false]
      refine WS_of_cond ?_
      simp only [go_sem, ↓reduceIte, Bool.false_eq_true]
      refine WS_of_exit ?_
      simp only [go_sem, ↓reduceIte]
      obtain ⟨D, p, jw, cm, hp, fo⟩ := ea.ex
      have k03 := ea.k
      have op2 := jw.again (fr := 0) (to := 150) (ep := Y) wf2 ea.k.n cm.de (by omega) (by rw [cm.kl]; omega) (by rw [cm.wa]; simp) hY (jopen_none (fo.none (Nat.zero_le _) (Nat.le_refl _)))
      refine WS_of_seq (WS_of_ops ?_)
      simp only [f9_r19, go_sem, ↓reduceIte, Nat.reduceEqDiff, s12, s3]
      refine op2.mono ?_
      rintro r h4 ⟨ml, rfl, jm, k4, -⟩
      have wf4 := k4.wf wf2
      have k04 : Keep (Old h.n) h h4 := k03.trans (k4.weaken fun q hq => Nat.lt_of_lt_of_le hq k03.n)
      simp only [go_sem, ↓reduceIte, Nat.reduceEqDiff, List.getElem?_cons_zero, List.getElem?_cons_succ]
      refine WS_of_seq (WS_of_seq (WS_of_ops ?_))
      simp only [f9_r20, go_sem, ↓reduceIte, Nat.reduceEqDiff, decide_true, Bool.not_true, Bool.false_eq_true]
      refine (jm.records wf4 (by simp) (by simp)).mono ?_
      rintro r h5 ⟨v5, vs5, rfl, br5, k5⟩
      have wf5 := k5.wf wf4
      have l5 : lenSA v5 = some 0 := by have := br5.sl.len; rw [br5.len] at this; exact this
      have jm5 := jm.keep wf4 k5
      simp only [go_sem, ↓reduceIte, Nat.reduceEqDiff, l5, (by decide : ((0 : Nat) : Int) = 0), decide_true, Bool.not_true, Bool.false_eq_true]
      refine jm5.room.mono ?_
      rintro r h6 ⟨hh, rfl⟩
      have hh' := hh.symm
      subst hh'
      have e150 : ((150 : Nat) : Int) - ((0 : Nat) : Int) = 150 := rfl
      simp only [go_sem, ↓reduceIte, Nat.reduceEqDiff, e150, decide_true, Bool.not_true, Bool.false_eq_true]
      refine WS_of_cond ?_
      simp only [go_sem, ↓reduceIte, Bool.false_eq_true]
      refine WS_of_skip ?_
      simp only [go_sem]
      have k05 : Keep (Old h.n) h h5 := k04.trans (k5.weaken fun q hq => Nat.lt_of_lt_of_le hq k04.n)
      refine WS_of_seq (WS_of_ops ?_)
      simp only [f9_r22, go_sem, ↓reduceIte, Nat.reduceEqDiff]
      refine WS_of_seq (WS_of_seq (WS_of_ops ?_))
      simp only [f9_r23, go_sem, ↓reduceIte, Nat.reduceEqDiff]
      have hbl := sb.len.1
      refine WS_of_block (WS_of_loop (fun m s h2 => ∃ j v, j + m = b.length ∧ s 1 = x1 ∧ s 2 = .int .u64 (X : Int) ∧ s 3 = .int .u64 (Y : Int) ∧ s 12 = .ptr o 0 ∧ s 17 = .ptr ml 0 ∧ s 19 = v ∧ s 20 = .int .i64 (j : Int) ∧ EpB h X Y b o ml j v h2) ?_ b.length ?_)
      · clear s00 s1 s2 s3 s12 s14 s16
        rintro m s0 h6 ⟨j, v, hj, s1, s2, s3, s12, s17, s19, s20, eb⟩
        have wf6 := eb.k.wf wf
        show WS E0 f9_l29 [] _ _ _
        refine WS_of_seq (WS_of_seq (WS_of_ops ?_))
        by_cases c : j < b.length
        · have c1 : (j : Int) < (b.length : Int) := by omega
          simp only [f9_r24, go_sem, ↓reduceIte, Nat.reduceEqDiff, s1, s20, hbl, c1, decide_true]
          refine WS_of_cond ?_
          simp only [go_sem, ↓reduceIte]
          refine WS_of_skip ?_
          simp only [go_sem]
          obtain ⟨D, p, jw, cm, hp, fo, li⟩ := eb.ex
          obtain ⟨o1, q1, v1, e1, b1, sl1, -, lo1⟩ := rec_get sb eb.k c
          have hjl : (b.take j).length = j := by rw [List.length_take]; omega
          have h300 := hb3 _ (List.getElem_mem c)
          have hjs := jsize_few h300
          obtain ⟨D', hD', cm', fD⟩ := cm.append (p := p) (to := 150) (ep := Y) (k := (b.take j).length) (b := b[j]) (by omega) (by omega) (Nat.le_refl _) hY (by omega)
          have ap := jw.append wf6 eb.k.n b1 sl1 (by omega) (by omega) (by omega) (by rw [cm.wa]; simp) (by omega) hY hD'
          have lo := lo1 _ eb.k
          refine WS_of_seq (WS_of_block (WS_of_seq (WS_of_seq (WS_of_ops ?_))))
          simp only [f9_r25, go_sem, ↓reduceIte, Nat.reduceEqDiff, s17, s1, s20, e1, lo]
          refine ap.mono ?_
          rintro r h7 ⟨rfl, jw7, k7⟩
          have wf7 := k7.wf wf6
          simp only [if_pos] at jw7
          rw [← take_succ' c] at jw7
          have k07 : Keep (Old h.n) h h7 := eb.k.trans k7
          have b7 := b1.keep k7 sl1
          have lo7 := lo1 _ k07
          have hs := b7.str
          simp only [go_sem, ↓reduceIte, Nat.reduceEqDiff, (by decide : ((0 : Nat) : Int) = 0), decide_true, Bool.not_true]
          refine WS_of_cond ?_
          simp only [go_sem, ↓reduceIte, Bool.false_eq_true]
          refine WS_of_skip ?_
          simp only [go_sem]
          obtain ⟨v8, h8, e8, jw8, k8⟩ := jw7.want wf7 k07.n (by omega) b[j]
          have ef : afill (zeros [AV.str []] (1 * 1)) [(0, 1, AV.str b[j])] = some [.str b[j]] := rfl
          refine WS_of_ops ?_
          simp only [f9_r27, go_sem, ↓reduceIte, Nat.reduceEqDiff, s19, s1, s20, e1, lo7, hs, ef, e8]
          refine WS_of_ops ?_
          have hw : IntKind.i64.wrap ((j : Int) + 1) = ((j + 1 : Nat) : Int) := by rw [wrap_i64 (by omega) (by omega)]; omega
          simp only [f9_r28, go_sem, ↓reduceIte, Nat.reduceEqDiff, s20, hw]
          rw [← take_succ' c] at jw8
          refine ⟨m - 1, by omega, j + 1, v8, by omega, s1, s2, s3, s12, s17, rfl, rfl, k07.trans k8, D', _, jw8, cm', by omega, ?_, ?_⟩
          · intro i hi1 hi2 ht
            rw [fD i hi2, if_neg (by omega)] at ht ⊢
            exact fo i (by omega) hi2 ht
          · rw [take_succ' c]
            refine Lies.snoc (li.congr fun i hi1 hi2 => ?_) fun i hi => ?_
            · rw [fD i (by omega), if_neg (by omega)]
            · rw [fD (p + i) (by omega), if_pos (by omega), Nat.zero_add, show p + i - p = i by omega]
        · have c1 : ¬ (j : Int) < (b.length : Int) := by omega
          simp only [f9_r24, go_sem, ↓reduceIte, Nat.reduceEqDiff, s1, s20, hbl, c1, decide_false]
          refine WS_of_cond ?_
          simp only [go_sem, ↓reduceIte, Bool.false_eq_true]
          refine WS_of_exit ?_
          simp only [go_sem, ↓reduceIte]
          obtain ⟨D, p, jw, cm, hp, fo, li⟩ := eb.ex
          have k06 := eb.k
          rw [List.take_of_length_le (by omega)] at jw li
          -- the journal of the second epoch
          have opn := jw.again (fr := 0) (to := 150) (ep := Y) wf6 k06.n cm.de (by omega) (by rw [cm.kl]; omega) (by rw [cm.wa]; simp) hY (jopen_lies hY li (by omega) (fun x hx => by have := hb3 x hx; omega) (by omega) (fo.none (Nat.le_refl _) (Nat.le_refl _)))
          refine WS_of_seq (WS_of_ops ?_)
          simp only [f9_r30, go_sem, ↓reduceIte, Nat.reduceEqDiff, s12, s3]
          refine opn.mono ?_
          rintro r h7 ⟨nl, rfl, jn, k7, -⟩
          have wf7 := k7.wf wf6
          have k07 : Keep (Old h.n) h h7 := k06.trans (k7.weaken fun q hq => Nat.lt_of_lt_of_le hq k06.n)
          simp only [go_sem, ↓reduceIte, Nat.reduceEqDiff, List.getElem?_cons_zero, List.getElem?_cons_succ]
          -- the journal of the first one
          obtain ⟨Ko, po, hjo, hKo⟩ : ∃ Ko po, jopen (findS D) 0 150 X = (Ko, po) ∧ (b.length ≠ 0 → Ko = []) := by
            refine ⟨(jopen (findS D) 0 150 X).1, (jopen (findS D) 0 150 X).2, rfl, fun hne => ?_⟩
            cases b with
            | nil => exact absurd rfl hne
            | cons b0 bs =>
              have h0 : findS D 0 = recAt Y 0 b0 0 := li.1 0 (by have := (jsize_ge b0.length).1; omega)
              rw [jopen_none (jnext_foreign (fun ht => by rw [h0] at ht ⊢; rw [hd_recAt hY (by omega) (by have := hb3 b0 (by simp); omega) ht]; exact fun e => cxy e.symm))]
          have opo := jn.again (fr := 0) (to := 150) (ep := X) wf7 k07.n cm.de (by omega) (by rw [cm.kl]; omega) (by rw [cm.wa]; simp) hX hjo
          refine WS_of_seq (WS_of_ops ?_)
          simp only [f9_r31, go_sem, ↓reduceIte, Nat.reduceEqDiff, s12, s2]
          refine opo.mono ?_
          rintro r h8 ⟨ol8, rfl, jo, k8, -⟩
          have wf8 := k8.wf wf7
          have jn8 := jn.keep wf7 k8
          simp only [go_sem, ↓reduceIte, Nat.reduceEqDiff, List.getElem?_cons_zero, List.getElem?_cons_succ]
          refine WS_of_seq (WS_of_ops ?_)
          simp only [f9_r32, go_sem, ↓reduceIte, Nat.reduceEqDiff, s2]
          refine jopen_nil.mono ?_
          rintro r h9 ⟨hh, rfl⟩
          have hh' := hh.symm
          subst hh'
          simp only [go_sem, ↓reduceIte, Nat.reduceEqDiff, List.getElem?_cons_zero, List.getElem?_cons_succ]
          refine WS_of_seq (WS_of_ops ?_)
          simp only [f9_r33, go_sem, ↓reduceIte, Nat.reduceEqDiff, decide_true]
          refine (jn8.records wf8 (by omega) (fun x hx => by have := hb3 x hx; omega)).mono ?_
          rintro r h9 ⟨v9, vs9, rfl, br9, k9⟩
          have wf9 := k9.wf wf8
          have jn9 := jn8.keep wf8 k9
          have jo9 := jo.keep wf8 k9
          have st9 := (jn9.strs wf9).1
          simp only [go_sem, ↓reduceIte, Nat.reduceEqDiff, s19]
          refine (same_spec br9 st9 (by omega) (by omega)).mono ?_
          rintro r h10 ⟨hh, rfl⟩
          have hh' := hh.symm
          subst hh'
          by_cases cb : b.length = 0
          · have cbd : decide ((b.length : Int) = 0) = true := decide_eq_true (by omega)
            simp only [go_sem, ↓reduceIte, Nat.reduceEqDiff, decide_true, s1, hbl, cbd, (by decide : ((1 : Nat) : Int) = 1), Bool.true_eq_false]
            refine records_nil.mono ?_
            rintro r h11 ⟨hh, rfl⟩
            have hh' := hh.symm
            subst hh'
            simp only [go_sem, ↓reduceIte, Nat.reduceEqDiff, decide_true]
            refine room_nil.mono ?_
            rintro r h11 ⟨hh, rfl⟩
            have hh' := hh.symm
            subst hh'
            simp only [go_sem, ↓reduceIte, Nat.reduceEqDiff, decide_true]
            refine (append_nil wf9 (bv := .nils) rfl).mono ?_
            rintro r h11 ⟨rfl, k11⟩
            simp only [go_sem, ↓reduceIte, Nat.reduceEqDiff, decide_true]
            refine WS_of_ret ?_
            simp only [f9_a, go_sem, ↓reduceIte, Nat.reduceEqDiff]
            rfl
          · have cbd : decide ((b.length : Int) = 0) = false := decide_eq_false (by omega)
            have hK0 := hKo cb
            subst hK0
            simp only [go_sem, ↓reduceIte, Nat.reduceEqDiff, decide_true, s1, hbl, cbd, Bool.false_eq_true]
            refine (jo9.records wf9 (by simp) (by simp)).mono ?_
            rintro r h11 ⟨v11, vs11, rfl, br11, k11⟩
            have wf11 := k11.wf wf9
            have l11 : lenSA v11 = some 0 := by have := br11.sl.len; rw [br11.len] at this; exact this
            simp only [go_sem, ↓reduceIte, Nat.reduceEqDiff, decide_true, l11, (by decide : ((0 : Nat) : Int) = 0), (by decide : ((1 : Nat) : Int) = 1)]
            refine records_nil.mono ?_
            rintro r h12 ⟨hh, rfl⟩
            have hh' := hh.symm
            subst hh'
            simp only [go_sem, ↓reduceIte, Nat.reduceEqDiff, decide_true]
            refine room_nil.mono ?_
            rintro r h12 ⟨hh, rfl⟩
            have hh' := hh.symm
            subst hh'
            simp only [go_sem, ↓reduceIte, Nat.reduceEqDiff, decide_true]
            refine (append_nil wf11 (bv := .nils) rfl).mono ?_
            rintro r h12 ⟨rfl, k12⟩
            simp only [go_sem, ↓reduceIte, Nat.reduceEqDiff, decide_true]
            refine WS_of_ret ?_
            simp only [f9_a, go_sem, ↓reduceIte, Nat.reduceEqDiff]
            rfl
      · exact ⟨0, .nils, by simp, s1, s2, s3, s12, rfl, rfl, rfl, k05, D, 0, jm5, cm, by omega, fo, rfl⟩
  · exact ⟨0, by simp, rfl, rfl, rfl, rfl, rfl, rfl, rfl, k02, _, 0, by simpa using j2, Calm.new 150, by omega, Foreign.new 150 Y⟩
end Go.Proofs.Ytmfbememiffkjaa.Ev.C
