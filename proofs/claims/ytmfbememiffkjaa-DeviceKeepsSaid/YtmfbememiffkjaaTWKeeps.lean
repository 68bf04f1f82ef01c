/- The law DeviceKeeps, walked: from its end backward. -/
import Derived.Test.YtmfbememiffkjaaTPKeeps
namespace Go.Proofs.Ytmfbememiffkjaa.Ev.C
open Go Go.Proofs.Ytmfbememiffkjaa.Ev
set_option linter.unusedSimpArgs false
set_option linter.unusedVariables false
abbrev KR : AOut → H → Prop := fun r _ => r = .val (.bool true)
abbrev K5 : ACode := .seq (.seq (.ops f4_r42) (.block 8 (.loop f4_l51))) (.seq (.ops f4_r52) .ret)
abbrev K4 : ACode := .seq (.ops f4_r33) (.seq (.seq (.ops f4_r34) (.block 6 (.loop f4_l38))) (.seq (.ops f4_r39) (.seq (.ops f4_r40) (.seq (.ops f4_r41) K5))))
abbrev K3 : ACode := .seq (.ops f4_r25) (.seq (.seq (.ops f4_r26) (.block 4 (.loop f4_l32))) K4)
abbrev K2 : ACode := .seq (.ops f4_r17) (.seq (.ops f4_r18) (.seq (.seq (.ops f4_r19) (.block 2 (.loop f4_l24))) K3))
abbrev K1 : ACode := .seq (.seq (.ops f4_r12) (.block 0 (.loop f4_l16))) K2
/-- what was read: byte slices, one a sector -/
structure Was (h : H) (wv : AV) (us : List AV) (K : List Sec) : Prop where
  sl : Sl h 1 wv us.length us
  slot : Slot (Old h.n) h wv
  at' : ∀ (i : Nat) (u : AV), us[i]? = some u → Bytes h u (K.getD i []) ∧ Slot (Old h.n) h u
theorem Was.keep {h h' : H} {wv : AV} {us : List AV} {K : List Sec} (w : Was h wv us K) (k : Keep (Old h.n) h h') : Was h' wv us K :=
  ⟨w.sl.keep k w.slot, w.slot.keep k fun o ho => Nat.lt_of_lt_of_le ho k.n, fun i u hu => ⟨(w.at' i u hu).1.keep k (w.at' i u hu).2, (w.at' i u hu).2.keep k fun o ho => Nat.lt_of_lt_of_le ho k.n⟩⟩
theorem keeps5 {h0 : H} (wf : h0.Wf) {s : S} {n ox oy o oz : Nat} {gx gy gs gz : List Nat} {Dx Dy D Dz : Dk} {wv tv : AV} {us : List AV} {K : List Sec} {T : List Bool} (hn : n ≤ 6)
    (dx : DiskAt h0 ox gx Dx) (dy : DiskAt h0 oy gy Dy) (d : DiskAt h0 o gs D) (dz : DiskAt h0 oz gz Dz) (lx : Live n 0 Dx) (ly : Live n 0 Dy) (l : Live n 60 D) (lz : Live n 0 Dz)
    (w : Was h0 wv us K) (hul : us.length = n) (bt : Bools h0 tv T) (st : Slot (Old h0.n) h0 tv) (hT : T.length = n)
    (e1 : ∀ i, i < n → findS Dy i = findS D i) (e2 : ∀ i, i < n → findS Dz i = K.getD i []) (e3 : ∀ i (hi : i < T.length), T[i] = false → findS Dx i = K.getD i [])
    (s12 : s 12 = .int .i64 (n : Int)) (s13 : s 13 = .ptr o 0) (s16 : s 16 = wv) (s20 : s 20 = tv) (s25 : s 25 = .ptr ox 0) (s26 : s 26 = .ptr oy 0) (s27 : s 27 = .ptr oz 0) :
    WS E0 K5 [] (atEnd f4_a.results KR) s h0 := by
  refine WS_of_seq (WS_of_seq (WS_of_ops ?_))
  simp only [f4_r42, go_sem, ↓reduceIte, Nat.reduceEqDiff]
  refine WS_of_block (WS_of_loop (fun m s h => ∃ j, j + m = n ∧ s 28 = .int .i64 (j : Int) ∧ s 12 = .int .i64 (n : Int) ∧ s 13 = .ptr o 0 ∧ s 16 = wv ∧ s 20 = tv ∧ s 25 = .ptr ox 0 ∧ s 26 = .ptr oy 0 ∧ s 27 = .ptr oz 0 ∧ Keep (Old h0.n) h0 h) ?_ n ?_)
  · rintro m s h ⟨j, hjm, s28, s12, s13, s16, s20, s25, s26, s27, k⟩
    show WS E0 f4_l51 [] _ _ _
    have wf0 := k.wf wf
    refine WS_of_seq (WS_of_seq (WS_of_ops ?_))
    by_cases c : j < n
    · have c' : (j : Int) < (n : Int) := by omega
      simp only [f4_r43, go_sem, ↓reduceIte, Nat.reduceEqDiff, s28, s12, c', decide_true]
      refine WS_of_cond ?_
      simp only [go_sem, ↓reduceIte]
      refine WS_of_skip ?_
      simp only [go_sem]
      refine WS_of_seq (WS_of_block (WS_of_seq (WS_of_ops ?_)))
      simp only [f4_r44, go_sem, ↓reduceIte, Nat.reduceEqDiff, s28, s25]
      refine (read_spec wf0 (dx.keep wf k) (j : Int) (by have := lx.wl; omega)).mono ?_
      rintro r h1 ⟨v1, rfl, b1, o1, k1⟩
      rw [lx.read c] at b1 ⊢
      have wf1 := k1.wf wf0
      have sl1 := o1.slot wf1
      have kk1 : Keep (Old h0.n) h0 h1 := k.trans (k1.weaken fun q hq => Nat.lt_of_lt_of_le hq k.n)
      simp only [go_sem, ↓reduceIte, Nat.reduceEqDiff, List.getElem?_cons_zero, List.getElem?_cons_succ]
      refine WS_of_seq (WS_of_ops ?_)
      simp only [f4_r45, go_sem, ↓reduceIte, Nat.reduceEqDiff, s28, s26]
      refine (read_spec wf1 (dy.keep wf kk1) (j : Int) (by have := ly.wl; omega)).mono ?_
      rintro r h2 ⟨v2, rfl, b2, o2, k2⟩
      rw [ly.read c] at b2 ⊢
      have wf2 := k2.wf wf1
      have sl2 := o2.slot wf2
      have kk2 : Keep (Old h0.n) h0 h2 := kk1.trans (k2.weaken fun q hq => Nat.lt_of_lt_of_le hq kk1.n)
      simp only [go_sem, ↓reduceIte, Nat.reduceEqDiff, List.getElem?_cons_zero, List.getElem?_cons_succ]
      refine WS_of_seq (WS_of_ops ?_)
      simp only [f4_r46, go_sem, ↓reduceIte, Nat.reduceEqDiff, s28, s13]
      refine (read_spec wf2 (d.keep wf kk2) (j : Int) (by have := l.wl; omega)).mono ?_
      rintro r h3 ⟨v3, rfl, b3, o3, k3⟩
      rw [l.read c] at b3 ⊢
      have wf3 := k3.wf wf2
      have sl3 := o3.slot wf3
      have kk3 : Keep (Old h0.n) h0 h3 := kk2.trans (k3.weaken fun q hq => Nat.lt_of_lt_of_le hq kk2.n)
      simp only [go_sem, ↓reduceIte, Nat.reduceEqDiff, List.getElem?_cons_zero, List.getElem?_cons_succ]
      refine WS_of_seq (WS_of_ops ?_)
      simp only [f4_r47, go_sem, ↓reduceIte, Nat.reduceEqDiff, s28, s27]
      refine (read_spec wf3 (dz.keep wf kk3) (j : Int) (by have := lz.wl; omega)).mono ?_
      rintro r h4 ⟨v4, rfl, b4, o4, k4⟩
      rw [lz.read c] at b4 ⊢
      have wf4 := k4.wf wf3
      have kk4 : Keep (Old h0.n) h0 h4 := kk3.trans (k4.weaken fun q hq => Nat.lt_of_lt_of_le hq kk3.n)
      simp only [go_sem, ↓reduceIte, Nat.reduceEqDiff, List.getElem?_cons_zero, List.getElem?_cons_succ]
      have up : ∀ {ha hb : H} {v : AV}, Keep (Old ha.n) ha hb → Slot (Old ha.n) ha v → Slot (Old hb.n) hb v := fun k s => s.keep k fun q hq => Nat.lt_of_lt_of_le hq k.n
      have b1' : Bytes h4 v1 _ := ((b1.keep k2 sl1).keep k3 (up k2 sl1)).keep k4 (up k3 (up k2 sl1))
      have b2' : Bytes h4 v2 _ := (b2.keep k3 sl2).keep k4 (up k3 sl2)
      have b3' : Bytes h4 v3 _ := b3.keep k4 sl3
      have w4 := w.keep kk4
      obtain ⟨pw, ew, lw⟩ := w4.sl.at (i := j) (by omega) .i64
      have hju : us[j]? = some (us[j]'(by omega)) := List.getElem?_eq_getElem (by omega)
      rw [hju] at lw
      obtain ⟨bw, -⟩ := w4.at' j _ hju
      have bt4 : Bools h4 tv T := bt.keep kk4 st
      obtain ⟨pt, et, lt⟩ := bt4.at (i := j) (by omega) .i64
      have q1 : findS Dy j = findS D j := e1 j c
      have q2 : findS Dz j = K.getD j [] := e2 j c
      refine WS_of_seq (WS_of_draw ?_)
      have hw : IntKind.i64.wrap ((j : Int) + 1) = ((j + 1 : Nat) : Int) := by rw [wrap_i64 (by omega) (by omega)]; omega
      cases hTj : T[j] with
      | true =>
        rw [hTj] at lt
        simp only [f4_r48, go_sem, ↓reduceIte, Nat.reduceEqDiff, and_self, true_and, List.filter_cons, List.filter_nil, Nat.testBit, Nat.reduceShiftRight, Nat.reduceAnd, Nat.reduceBNe, Bool.not_false, Bool.not_true, Bool.false_eq_true, bne_self_eq_false, eq_self, s28, s16, s20, b1'.str, b2'.str, b3'.str, b4.str, bw.str, q1, q2, ew, lw, et, lt, decide_true, (by decide : ((0 : Nat) : Int) = 0), Bool.true_eq_false]
        refine WS_of_cond ?_
        simp only [go_sem, ↓reduceIte, Bool.false_eq_true]
        refine WS_of_skip ?_
        simp only [go_sem]
        refine WS_of_ops ?_
        simp only [f4_r50, go_sem, ↓reduceIte, Nat.reduceEqDiff, s28, hw]
        exact ⟨m - 1, by omega, j + 1, by omega, rfl, s12, s13, s16, s20, s25, s26, s27, kk4⟩
      | false =>
        rw [hTj] at lt
        have q3 : findS Dx j = K.getD j [] := e3 j (by omega) hTj
        simp only [f4_r48, go_sem, ↓reduceIte, Nat.reduceEqDiff, and_self, true_and, List.filter_cons, List.filter_nil, Nat.testBit, Nat.reduceShiftRight, Nat.reduceAnd, Nat.reduceBNe, Bool.not_false, Bool.not_true, Bool.false_eq_true, bne_self_eq_false, eq_self, s28, s16, s20, b1'.str, b2'.str, b3'.str, b4.str, bw.str, q1, q2, q3, ew, lw, et, lt, decide_true, (by decide : ((0 : Nat) : Int) = 0), Bool.true_eq_false]
        refine WS_of_cond ?_
        simp only [go_sem, ↓reduceIte, Bool.false_eq_true]
        refine WS_of_skip ?_
        simp only [go_sem]
        refine WS_of_ops ?_
        simp only [f4_r50, go_sem, ↓reduceIte, Nat.reduceEqDiff, s28, hw]
        exact ⟨m - 1, by omega, j + 1, by omega, rfl, s12, s13, s16, s20, s25, s26, s27, kk4⟩
    · have c' : ¬ (j : Int) < (n : Int) := by omega
      simp only [f4_r43, go_sem, ↓reduceIte, Nat.reduceEqDiff, s28, s12, c', decide_false]
      refine WS_of_cond ?_
      simp only [go_sem, ↓reduceIte, Bool.false_eq_true]
      refine WS_of_exit ?_
      simp only [go_sem, ↓reduceIte]
      refine WS_of_seq (WS_of_ops ?_)
      simp only [f4_r52, go_sem, ↓reduceIte, Nat.reduceEqDiff, s25]
      refine (waiting_spec (dx.keep wf k)).mono ?_
      rintro r h1 ⟨rfl, rfl⟩
      have z1 : ((Dx.waits.length : Nat) : Int) = 0 := by have := lx.wl; omega
      simp only [go_sem, ↓reduceIte, Nat.reduceEqDiff, s26, z1, decide_true]
      refine (waiting_spec (dy.keep wf k)).mono ?_
      rintro r h2 ⟨rfl, rfl⟩
      have z2 : ((Dy.waits.length : Nat) : Int) = 0 := by have := ly.wl; omega
      simp only [go_sem, ↓reduceIte, Nat.reduceEqDiff, z2, decide_true]
      refine WS_of_ret ?_
      simp only [f4_a, go_sem, ↓reduceIte, Nat.reduceEqDiff]
  · exact ⟨0, by omega, rfl, s12, s13, s16, s20, s25, s26, s27, Keep.refl _ _⟩
theorem keeps4 {h0 : H} (wf : h0.Wf) {s : S} {n o bl : Nat} {gs : List Nat} {D : Dk} {wv tv x2 x3 : AV} {us : List AV} {K : List Sec} {T ks : List Bool} (hn : n ≤ 6)
    (d : DiskAt h0 o gs D) (l : Live n 60 D) (hK : D.kept = K) (w : Was h0 wv us K) (hul : us.length = n) (bt : Bools h0 tv T) (st : Slot (Old h0.n) h0 tv) (hT : T.length = n)
    (hTw : ∀ i (hi : i < T.length), T[i] = false → ∀ w ∈ D.waits, w.1 ≠ i) (hwl : D.waits.length ≤ bl) (hbl : bl ≤ 60) (l2 : lenSA x2 = some bl) (b3 : Bools h0 x3 ks) (st3 : Slot (Old h0.n) h0 x3) (hks : ks.length ≤ 60)
    (s2 : s 2 = x2) (s3 : s 3 = x3) (s12 : s 12 = .int .i64 (n : Int)) (s13 : s 13 = .ptr o 0) (s16 : s 16 = wv) (s20 : s 20 = tv) :
    WS E0 K4 [] (atEnd f4_a.results KR) s h0 := by
  refine WS_of_seq (WS_of_ops ?_)
  obtain ⟨h1, em, ba, ga, k1, n1⟩ := make_bools wf (k := bl) (by omega)
  have wf1 := k1.wf wf
  simp only [f4_r33, go_sem, ↓reduceIte, Nat.reduceEqDiff, s2, l2, em]
  refine WS_of_seq (WS_of_seq (WS_of_ops ?_))
  simp only [f4_r34, go_sem, ↓reduceIte, Nat.reduceEqDiff]
  refine WS_of_block (WS_of_loop (fun m s h => ∃ j, j + m = bl ∧ s 24 = .int .i64 (j : Int) ∧ s 23 = .slice h0.n 0 bl 1 ∧ s 3 = x3 ∧ s 12 = .int .i64 (n : Int) ∧ s 13 = .ptr o 0 ∧ s 16 = wv ∧ s 20 = tv ∧ Keep (Old h0.n) h0 h ∧
    Bools h (.slice h0.n 0 bl 1) (List.replicate j true ++ List.replicate (bl - j) false) ∧ Grp h0.n h (.slice h0.n 0 bl 1)) ?_ bl ?_)
  · rintro m s h ⟨j, hjm, s24, s23, s3, s12, s13, s16, s20, k, bb, gg⟩
    show WS E0 f4_l38 [] _ _ _
    have wfh := k.wf wf
    refine WS_of_seq (WS_of_seq (WS_of_ops ?_))
    have hlen : lenSA (AV.slice h0.n 0 bl 1) = some bl := rfl
    by_cases c : j < bl
    · have c' : (j : Int) < (bl : Int) := by omega
      simp only [f4_r35, go_sem, ↓reduceIte, Nat.reduceEqDiff, s24, s23, hlen, c', decide_true]
      refine WS_of_cond ?_
      simp only [go_sem, ↓reduceIte]
      refine WS_of_skip ?_
      simp only [go_sem]
      refine WS_of_seq (WS_of_block (WS_of_ops ?_))
      obtain ⟨p, h2, ep, es, b2, g2, k2⟩ := Bools.put wfh bb gg (i := j) (by simp; omega) true
      simp only [f4_r36, go_sem, ↓reduceIte, Nat.reduceEqDiff, s24, s23, ep, es]
      refine WS_of_ops ?_
      have hw : IntKind.i64.wrap ((j : Int) + 1) = ((j + 1 : Nat) : Int) := by rw [wrap_i64 (by omega) (by omega)]; omega
      simp only [f4_r37, go_sem, ↓reduceIte, Nat.reduceEqDiff, s24, hw]
      have hl : (List.replicate j true ++ List.replicate (bl - j) false).set j true = List.replicate (j + 1) true ++ List.replicate (bl - (j + 1)) false := by
        rw [List.set_append_right _ _ (by simp), List.length_replicate, Nat.sub_self, show bl - j = (bl - (j + 1)) + 1 by omega, List.replicate_succ, List.set_cons_zero, List.replicate_succ', List.append_assoc]
        rfl
      rw [hl] at b2
      exact ⟨m - 1, by omega, j + 1, by omega, rfl, s23, s3, s12, s13, s16, s20, k.trans (k2.old wfh k.n (by simp)), b2, g2⟩
    · have c' : ¬ (j : Int) < (bl : Int) := by omega
      obtain rfl : j = bl := by omega
      simp only [f4_r35, go_sem, ↓reduceIte, Nat.reduceEqDiff, s24, s23, hlen, c', decide_false]
      refine WS_of_cond ?_
      simp only [go_sem, ↓reduceIte, Bool.false_eq_true]
      refine WS_of_exit ?_
      simp only [go_sem, ↓reduceIte]
      rw [Nat.sub_self, List.replicate_zero, List.append_nil] at bb
      have dh := d.keep wf k
      have up : ∀ {ha hb : H} {v : AV}, Keep (Old ha.n) ha hb → Slot (Old ha.n) ha v → Slot (Old hb.n) hb v := fun k s => s.keep k fun q hq => Nat.lt_of_lt_of_le hq k.n
      refine WS_of_seq (WS_of_ops ?_)
      simp only [f4_r39, go_sem, ↓reduceIte, Nat.reduceEqDiff, s13, s3]
      refine (restart_spec wfh dh (bs := ks) (b3.keep k st3) (up k st3) (by have := l.wl; omega) (by omega)).mono ?_
      rintro r h2 ⟨ox, gx, rfl, dx, k2, -⟩
      have wf2 := k2.wf wfh
      simp only [go_sem, ↓reduceIte, Nat.reduceEqDiff]
      refine WS_of_seq (WS_of_ops ?_)
      simp only [f4_r40, go_sem, ↓reduceIte, Nat.reduceEqDiff, s13, s23]
      have sa := (gg.own wfh (Nat.zero_le _)).slot wfh
      have d2 := dh.keep wfh k2
      refine (restart_spec wf2 d2 (bs := List.replicate j true) (bb.keep k2 sa) (up k2 sa) (by have := l.wl; omega) (by simp; omega)).mono ?_
      rintro r h3 ⟨oy, gy, rfl, dy, k3, -⟩
      have wf3 := k3.wf wf2
      simp only [go_sem, ↓reduceIte, Nat.reduceEqDiff]
      refine WS_of_seq (WS_of_ops ?_)
      simp only [f4_r41, go_sem, ↓reduceIte, Nat.reduceEqDiff, s13]
      have d3 := d2.keep wf2 k3
      refine (restart_spec wf3 d3 (kv := .nils) (bs := []) (Sl.nil _ _) trivial (by have := l.wl; omega) (by simp)).mono ?_
      rintro r h4 ⟨oz, gz, rfl, dz, k4, -⟩
      have wf4 := k4.wf wf3
      simp only [go_sem, ↓reduceIte, Nat.reduceEqDiff]
      have kk : Keep (Old h0.n) h0 h4 := ((k.trans (k2.weaken fun q hq => Nat.lt_of_lt_of_le hq k.n)).trans (k3.weaken fun q hq => by have := k.n; have := k2.n; have : q < h0.n := hq; show q < _; omega)).trans (k4.weaken fun q hq => by have := k.n; have := k2.n; have := k3.n; have : q < h0.n := hq; show q < _; omega)
      have ok := d.ok
      have lx := l.restart ok ks
      have ly := l.restart ok (List.replicate j true)
      have lz := l.restart ok []
      refine keeps5 wf4 hn ((dx.keep wf2 k3).keep wf3 k4) (dy.keep wf3 k4) (d3.keep wf3 k4) dz lx.1 ly.1 l lz.1 (w.keep kk) hul (bt.keep kk st) (up kk st) hT ?_ ?_ ?_ s12 s13 s16 s20 rfl rfl rfl
      · intro i hi
        rw [findS_no ly.2]
        simp only [Dk.restart]
        rw [keepAll_true hwl, foldS_getD (by rw [l.kl]; exact hi)]
        rfl
      · intro i hi
        rw [findS_no lz.2]
        simp only [Dk.restart]
        rw [keepAll_nil, hK]
      · intro i hi hf
        rw [findS_no lx.2]
        simp only [Dk.restart]
        rw [keepAll_away (by rw [l.kl]; omega) (hTw i hi hf), hK]
  · exact ⟨0, by omega, rfl, rfl, s3, s12, s13, s16, s20, k1, by simpa using ba, ga⟩
/-- beside the groups that are written -/
structure WasA (gs : List Nat) (h : H) (wv : AV) (us : List AV) (K : List Sec) : Prop where
  sl : Sl h 1 wv us.length us
  slot : Slot (Apart gs h) h wv
  at' : ∀ (i : Nat) (u : AV), us[i]? = some u → Bytes h u (K.getD i []) ∧ Slot (Apart gs h) h u
theorem WasA.next {gs gs' : List Nat} {h h' : H} {wv : AV} {us : List AV} {K : List Sec} (w : WasA gs h wv us K) (wf : h.Wf) (k : KeepA gs h h') (hn : Next gs gs' h) : WasA gs' h' wv us K :=
  ⟨w.sl.keep k w.slot, Slot.next wf w.slot k hn, fun i u hu => ⟨(w.at' i u hu).1.keep k (w.at' i u hu).2, Slot.next wf (w.at' i u hu).2 k hn⟩⟩
theorem WasA.was {gs : List Nat} {h : H} {wv : AV} {us : List AV} {K : List Sec} (w : WasA gs h wv us K) : Was h wv us K :=
  ⟨w.sl, w.slot.old, fun i u hu => ⟨(w.at' i u hu).1, (w.at' i u hu).2.old⟩⟩
theorem DiskAt.root {h : H} {o : Nat} {gs : List Nat} {D : Dk} (d : DiskAt h o gs D) : ∀ g ∈ gs, Root g h := by
  obtain ⟨_, _, _, d⟩ := d
  exact d.root
def TOk (T : List Bool) (ws : List (Nat × Sec)) : Prop := ∀ i (hi : i < T.length), T[i] = false → ∀ w ∈ ws, w.1 ≠ i
def Keeps3I (hA : H) (al : List Act) (n o g20 : Nat) (wv tv x2 x3 : AV) (us : List AV) (K : List Sec) : Nat → S → H → Prop := fun m s h => ∃ j gs D T, j + m = al.length ∧ s 21 = .int .i64 (j : Int) ∧ s 2 = x2 ∧ s 3 = x3 ∧ s 12 = .int .i64 (n : Int) ∧ s 13 = .ptr o 0 ∧ s 16 = wv ∧ s 20 = tv ∧
  DiskAt h o gs D ∧ Live n j D ∧ D.kept = K ∧ Bools h tv T ∧ T.length = n ∧ TOk T D.waits ∧ Grp g20 h tv ∧ g20 ∉ gs ∧ (∀ g ∈ gs, hA.n ≤ g) ∧ WasA (g20 :: gs) h wv us K ∧ Keep (Old hA.n) hA h
theorem keeps3 {hA h0 : H} (wfA : hA.Wf) {s : S} {n o : Nat} {gs : List Nat} {D : Dk} {wv x2 x3 : AV} {us : List AV} {K : List Sec} {ks : List Bool} {al : List Act} (hn : n ≤ 6)
    (d : DiskAt h0 o gs D) (l : Live n 0 D) (hK : D.kept = K) (w : WasA gs h0 wv us K) (hul : us.length = n) (hg : ∀ g ∈ gs, hA.n ≤ g) (kA : Keep (Old hA.n) hA h0)
    (t : SliceR 4 ActR hA [x2] al) (hal : al.length ≤ 60) (b3 : Bools hA x3 ks) (st3 : Slot (Old hA.n) hA x3) (hks : ks.length ≤ 60)
    (s2 : s 2 = x2) (s3 : s 3 = x3) (s12 : s 12 = .int .i64 (n : Int)) (s13 : s 13 = .ptr o 0) (s16 : s 16 = wv) :
    WS E0 K3 [] (atEnd f4_a.results KR) s h0 := by
  have wf := kA.wf wfA
  refine WS_of_seq (WS_of_ops ?_)
  obtain ⟨h1, em, ba, ga, k1, n1⟩ := make_bools wf (k := n) (by omega)
  have wf1 := k1.wf wf
  simp only [f4_r25, go_sem, ↓reduceIte, Nat.reduceEqDiff, s12, em]
  refine WS_of_seq (WS_of_seq (WS_of_ops ?_))
  simp only [f4_r26, go_sem, ↓reduceIte, Nat.reduceEqDiff]
  have hlt : ∀ g ∈ gs, g < h0.n := d.lt wf
  refine WS_of_block (WS_of_loop (Keeps3I hA al n o h0.n wv (.slice h0.n 0 n 1) x2 x3 us K) ?_ al.length ?_)
  · rintro m s h ⟨j, gs', D', T, hjm, s21, s2, s3, s12, s13, s16, s20, d', l', hK', bt, hT, hTw, gt, hng, hg', w', k⟩
    show WS E0 f4_l32 [] _ _ _
    have wfh := k.wf wfA
    have tl := t.len
    have hgn : h0.n < h.n := gt.lt wfh
    refine WS_of_seq (WS_of_seq (WS_of_ops ?_))
    by_cases c : j < al.length
    · have c' : (j : Int) < (al.length : Int) := by omega
      simp only [f4_r27, go_sem, ↓reduceIte, Nat.reduceEqDiff, s21, s2, tl.1, c', decide_true]
      refine WS_of_cond ?_
      simp only [go_sem, ↓reduceIte]
      refine WS_of_skip ?_
      simp only [go_sem]
      obtain ⟨oo, q, ub, uk, e, ⟨bb, sb⟩, _, wk, ld⟩ := acts_get t c
      obtain ⟨ld0, ld1, ld2, ld3⟩ := ld h k
      refine WS_of_seq (WS_of_block (WS_of_seq (WS_of_draw ?_)))
      simp only [f4_r28, go_sem, ↓reduceIte, Nat.reduceEqDiff, and_self, true_and, List.filter_cons, List.filter_nil, Nat.testBit, Nat.reduceShiftRight, Nat.reduceAnd, Nat.reduceBNe, Bool.not_false, Bool.not_true, Bool.false_eq_true, bne_self_eq_false, eq_self, s2, s13, s21, e, ld1, ld2]
      have sb' : Slot (Old hA.n) h ub := sb.keep k fun q hq => hq
      refine (write_spec wfh d' al[j].at' (bb.keep k sb) (sb'.apart wfh k.n hg') (by have := l'.wl; omega)).mono ?_
      rintro r h2 ⟨gs2, rfl, d2, k2, n2⟩
      have wf2 := k2.wf wfh
      have kA2 : Keep (Old hA.n) hA h2 := k.trans (k2.old wfh k.n hg')
      obtain ⟨ld0', ld1', ld2', ld3'⟩ := ld h2 kA2
      have hg2 : ∀ g ∈ gs2, hA.n ≤ g := fun g hgm => by
        rcases n2 g hgm with x | x
        · exact hg' g x
        · exact Nat.le_trans k.n x
      have hng2 : h0.n ∉ gs2 := fun hm => by
        rcases n2 _ hm with x | x
        · exact hng x
        · omega
      have sta := gt.away wfh hng d'.root
      have bt2 := bt.keep k2 sta
      have gt2 := gt.keep sta k2
      have w2 : WasA (h0.n :: gs2) h2 wv us K := w'.next wfh (k2.mono fun g hg => by simp [hg]) fun g hg => by
        rcases List.mem_cons.1 hg with rfl | hg
        · exact .inl (by simp)
        · rcases n2 g hg with x | x
          · exact .inl (by simp [x])
          · exact .inr x
      obtain ⟨lw, lk, hcase⟩ := l'.write al[j].at' al[j].b
      have hw : IntKind.i64.wrap ((j : Int) + 1) = ((j + 1 : Nat) : Int) := by rw [wrap_i64 (by omega) (by omega)]; omega
      simp only [go_sem, ↓reduceIte, Nat.reduceEqDiff, and_self, true_and, List.filter_cons, List.filter_nil, Nat.testBit, Nat.reduceShiftRight, Nat.reduceAnd, Nat.reduceBNe, Bool.not_false, Bool.not_true, Bool.false_eq_true, bne_self_eq_false, eq_self, s2, s13, s21, e, ld1, ld2, ld1', ld2']
      refine WS_of_seq (WS_of_ops ?_)
      rcases hcase with ⟨hz, mm, hat, hmn, hws⟩ | ⟨hz, hD⟩
      · rw [hat] at ld1'
        obtain ⟨p, h3, ep, es, b3', g3, k3⟩ := Bools.put wf2 bt2 gt2 (i := mm) (by omega) true
        have c1 : (0 : Int) ≤ (mm : Int) := by omega
        have c2 : (mm : Int) < (n : Int) := by omega
        rw [hz]
        simp only [f4_r29, go_sem, ↓reduceIte, Nat.reduceEqDiff, s2, s21, s12, e, ld1', c1, c2, ge_iff_le, decide_true, (by decide : ((0 : Nat) : Int) = 0)]
        refine WS_of_cond ?_
        simp only [go_sem, ↓reduceIte]
        refine WS_of_ops ?_
        simp only [f4_r30, go_sem, ↓reduceIte, Nat.reduceEqDiff, s2, s20, s21, e, ld1', ep, es]
        refine WS_of_ops ?_
        simp only [f4_r31, go_sem, ↓reduceIte, Nat.reduceEqDiff, s21, hw]
        refine ⟨m - 1, by omega, j + 1, gs2, _, _, by omega, rfl, s2, s3, s12, s13, s16, s20, d2.apart wf2 hng2 gt2.root k3, lw, by rw [lk]; exact hK', b3', by rw [List.length_set]; exact hT, ?_, g3, hng2, hg2,
          w2.next wf2 (k3.mono (by simp)) (Next.refl _ _), kA2.trans (k3.old wf2 kA2.n (by simp; exact kA.n))⟩
        intro i hi hf w hw
        rw [hws] at hw
        rw [List.getElem_set] at hf
        split at hf
        · cases hf
        · rename_i hne
          rw [List.length_set] at hi
          rcases List.mem_append.1 hw with hw | hw
          · exact hTw i hi hf w hw
          · simp only [List.mem_cons, List.not_mem_nil, or_false] at hw
            subst hw
            exact hne
      · rw [hz]
        rw [hD] at d2 lw
        simp only [f4_r29, go_sem, ↓reduceIte, Nat.reduceEqDiff, (by decide : ¬ ((1 : Nat) : Int) = 0), decide_false, Bool.false_eq_true]
        refine WS_of_cond ?_
        simp only [go_sem, ↓reduceIte, Bool.false_eq_true]
        refine WS_of_skip ?_
        simp only [go_sem]
        refine WS_of_ops ?_
        simp only [f4_r31, go_sem, ↓reduceIte, Nat.reduceEqDiff, s21, hw]
        exact ⟨m - 1, by omega, j + 1, gs2, _, T, by omega, rfl, s2, s3, s12, s13, s16, s20, d2, lw, hK', bt2, hT, hTw, gt2, hng2, hg2, w2, kA2⟩
    · have c' : ¬ (j : Int) < (al.length : Int) := by omega
      simp only [f4_r27, go_sem, ↓reduceIte, Nat.reduceEqDiff, s21, s2, tl.1, c', decide_false]
      refine WS_of_cond ?_
      simp only [go_sem, ↓reduceIte, Bool.false_eq_true]
      refine WS_of_exit ?_
      simp only [go_sem, ↓reduceIte]
      have hwl := l'.wl
      exact keeps4 wfh hn d' ⟨l'.kl, by omega, l'.ar, l'.de⟩ hK' w'.was hul bt ((gt.own wfh (Nat.zero_le _)).slot wfh) hT hTw (bl := al.length) (by omega) hal tl.1 (b3.keep k st3) (st3.keep k fun q hq => Nat.lt_of_lt_of_le hq k.n) hks s2 s3 s12 s13 s16 s20
  · refine ⟨0, gs, D, _, by omega, rfl, s2, s3, s12, s13, s16, rfl, d.keep wf k1, l, hK, ba, by simp, ?_, ga, fun hm => by have := hlt _ hm; omega, hg, ?_, kA.trans (k1.weaken fun q hq => Nat.lt_of_lt_of_le hq kA.n)⟩
    · intro i hi hf w hw
      have : D.waits = [] := List.length_eq_zero_iff.1 (by have := l.wl; omega)
      rw [this] at hw
      cases hw
    · exact w.next wf (KeepA.of k1) fun g hg => by
        rcases List.mem_cons.1 hg with rfl | hg
        · exact .inr (Nat.le_refl _)
        · exact .inl hg
/-- elements of their own groups, none the slice's -/
def Elems (N g : Nat) (h : H) (us : List AV) (K : List Sec) : Prop := ∀ (i : Nat) (u : AV), us[i]? = some u → Bytes h u (K.getD i []) ∧ ∃ ge, ge ≠ g ∧ N ≤ ge ∧ Grp ge h u
theorem app_elem {h : H} (wf : h.Wf) {N j : Nat} {wv v : AV} {us : List AV} {K : List Sec} (hN : N ≤ h.n) (hj : us.length = j) (hbig : j < 1000000) (a : Sl h 1 wv j us) (own : (wv = .nils ∧ us = []) ∨ ∃ g, N ≤ g ∧ Grp g h wv ∧ Elems N g h us K)
    (bv : Bytes h v (K.getD j [])) {gv : Nat} (gvv : Grp gv h v) (hgv : N ≤ gv) (hgn : ∀ g, Grp g h wv → gv ≠ g) :
    ∃ v' h' g, appendA (h.new [v]) 1 wv (.slice h.n 0 1 1) = some (v', h') ∧ Sl h' 1 v' (j + 1) (us ++ [v]) ∧ N ≤ g ∧ Grp g h' v' ∧ Elems N g h' (us ++ [v]) K ∧ Keep (Old N) h h' := by
  have hv := one_of_len bv.len
  have kn : Keep (Old h.n) h (h.new [v]) := Keep.new (Nat.le_refl _) _
  have wfn := kn.wf wf
  have hnn : (h.new [v]).n = h.n + 1 := rfl
  have sb : Sl (h.new [v]) 1 (.slice h.n 0 1 1) 1 [v] := by
    have := Sl.new (es := 1) (n := 1) wf (vs := [v]) (by simp)
    simpa using this
  generalize h.new [v] = h1 at kn wfn hnn sb ⊢
  have slv := (gvv.own wf (Nat.zero_le _)).slot wf
  have bv1 := bv.keep kn slv
  have gv1 := gvv.keep slv kn
  rcases own with ⟨rfl, rfl⟩ | ⟨g, hNg, gg, el⟩
  · have hj0 : j = 0 := by simpa using hj.symm
    subst hj0
    obtain ⟨v', h2, e, s2, o2, k2⟩ := append_own (N := h1.n) wfn (Nat.le_refl _) (Sl.nil h1 1) (by trivial) sb (by simp [hv.1]) (by omega)
    rcases o2.grp with rfl | ⟨g, hg, g2⟩
    · have := not_nils s2; omega
    · have sv1 := (gv1.own wfn (Nat.zero_le _)).slot wfn
      have hgvn := gvv.lt wf
      refine ⟨v', h2, g, e, s2, by omega, g2, ?_, (kn.weaken fun q hq => Nat.lt_of_lt_of_le hq hN).trans (k2.weaken fun q hq => by have : q < N := hq; show q < _; omega)⟩
      intro i u hu
      cases i with
      | succ i => simp at hu
      | zero =>
        simp at hu
        subst hu
        exact ⟨bv1.keep k2 sv1, gv, by omega, hgv, gv1.keep sv1 k2⟩
  · have slw := (gg.own wf (Nat.zero_le _)).slot wf
    have a1 := a.keep kn slw
    have gg1 := gg.keep slw kn
    obtain ⟨v', h2, e, s2, g2, k2⟩ := append_grp wfn a1 gg1 sb (by simp [hv.1]) (by omega)
    have hr : ∀ x ∈ [g], Root x h1 := by simpa using gg1.root
    refine ⟨v', h2, g, e, s2, hNg, g2, ?_, (kn.weaken fun q hq => Nat.lt_of_lt_of_le hq hN).trans (k2.old wfn (by omega) (by simpa using hNg))⟩
    intro i u hu
    by_cases hi : i < us.length
    · rw [List.getElem?_append_left hi] at hu
      obtain ⟨bu, ge, ne, hge, geu⟩ := el i u hu
      have su := (geu.own wf (Nat.zero_le _)).slot wf
      have geu1 := geu.keep su kn
      have su1 := geu1.away wfn (gs := [g]) (by simpa using ne) hr
      exact ⟨(bu.keep kn su).keep k2 su1, ge, ne, hge, geu1.keep su1 k2⟩
    · rw [List.getElem?_append_right (by omega)] at hu
      have hi' : i = us.length := by
        have := (List.getElem?_eq_some_iff.1 hu).1
        simp at this
        omega
      subst hi'
      simp at hu
      subst hu
      have ne := hgn g gg
      have su1 := gv1.away wfn (gs := [g]) (by simpa using ne) hr
      rw [hj]
      exact ⟨bv1.keep k2 su1, gv, ne, hgv, gv1.keep su1 k2⟩
theorem keeps2 {hA h0 : H} (wfA : hA.Wf) {s : S} {n o w : Nat} {gs : List Nat} {D : Dk} {x2 x3 : AV} {ks : List Bool} {al : List Act} (hn1 : 1 ≤ n) (hn : n ≤ 6)
    (d : DiskAt h0 o gs D) (l : Live n w D) (hw : w ≤ 60) (hg : ∀ g ∈ gs, hA.n ≤ g) (kA : Keep (Old hA.n) hA h0)
    (t : SliceR 4 ActR hA [x2] al) (hal : al.length ≤ 60) (b3 : Bools hA x3 ks) (st3 : Slot (Old hA.n) hA x3) (hks : ks.length ≤ 60)
    (s2 : s 2 = x2) (s3 : s 3 = x3) (s12 : s 12 = .int .i64 (n : Int)) (s13 : s 13 = .ptr o 0) :
    WS E0 K2 [] (atEnd f4_a.results KR) s h0 := by
  have wf := kA.wf wfA
  refine WS_of_seq (WS_of_ops ?_)
  simp only [f4_r17, go_sem, ↓reduceIte, Nat.reduceEqDiff, s13]
  refine (flush_spec wf d (by have := l.wl; omega)).mono ?_
  rintro r h1 ⟨gs1, rfl, d1, k1, hsub⟩
  have wf1 := k1.wf wf
  have kA1 : Keep (Old hA.n) hA h1 := kA.trans (k1.old wf kA.n hg)
  have hg1 : ∀ g ∈ gs1, hA.n ≤ g := fun g hgm => hg g (hsub g hgm)
  obtain ⟨l1, hw1, he1⟩ := l.flush d.ok
  simp only [go_sem, ↓reduceIte, Nat.reduceEqDiff]
  refine WS_of_seq (WS_of_ops ?_)
  simp only [f4_r18, go_sem, ↓reduceIte, Nat.reduceEqDiff]
  refine WS_of_seq (WS_of_seq (WS_of_ops ?_))
  simp only [f4_r19, go_sem, ↓reduceIte, Nat.reduceEqDiff]
  generalize hD1 : D.flush.1 = D1 at d1 l1 hw1
  have hlt1 := d1.lt wf1
  refine WS_of_block (WS_of_loop (fun m s h => ∃ j wv us, j + m = n ∧ us.length = j ∧ s 17 = .int .i64 (j : Int) ∧ s 2 = x2 ∧ s 3 = x3 ∧ s 12 = .int .i64 (n : Int) ∧ s 13 = .ptr o 0 ∧ s 16 = wv ∧ Keep (Old h1.n) h1 h ∧ Sl h 1 wv j us ∧
    ((wv = .nils ∧ us = []) ∨ ∃ g, h1.n ≤ g ∧ Grp g h wv ∧ Elems h1.n g h us D1.kept)) ?_ n ?_)
  · rintro m s h ⟨j, wv, us, hjm, huj, s17, s2, s3, s12, s13, s16, k, sl, own⟩
    show WS E0 f4_l24 [] _ _ _
    have wfh := k.wf wf1
    have dh := d1.keep wf1 k
    refine WS_of_seq (WS_of_seq (WS_of_ops ?_))
    by_cases c : j < n
    · have c' : (j : Int) < (n : Int) := by omega
      simp only [f4_r20, go_sem, ↓reduceIte, Nat.reduceEqDiff, s17, s12, c', decide_true]
      refine WS_of_cond ?_
      simp only [go_sem, ↓reduceIte]
      refine WS_of_skip ?_
      simp only [go_sem]
      refine WS_of_seq (WS_of_block (WS_of_seq (WS_of_ops ?_)))
      simp only [f4_r21, go_sem, ↓reduceIte, Nat.reduceEqDiff, s17, s13]
      refine (read_spec wfh dh (j : Int) (by have := l1.wl; omega)).mono ?_
      rintro r h2 ⟨v, rfl, bv, ov, k2⟩
      rw [l1.read c] at bv ⊢
      have wf2 := k2.wf wfh
      simp only [findS_no hw1] at bv
      have hkl : (D1.kept.getD j []).length = 64 := by
        rw [List.getD_eq_getElem?_getD, List.getElem?_eq_getElem (by rw [l1.kl]; exact c), Option.getD_some]
        exact d1.ok.k64 _ (List.getElem_mem _)
      have hv := one_of_len bv.len
      have ef : afill (zeros [AV.nils] (1 * 1)) [(0, 1, v)] = some [v] := by
        have hz : zeros [AV.nils] (1 * 1) = [AV.nils] := rfl
        simp only [hz, afill, hv.2]
        rfl
      have up2 : ∀ {x : AV}, Slot (Old h.n) h x → Slot (Old h2.n) h2 x := fun s => s.keep k2 fun q hq => Nat.lt_of_lt_of_le hq k2.n
      obtain ⟨gv, hgv, gvv⟩ : ∃ gv, h.n ≤ gv ∧ Grp gv h2 v := by
        rcases ov.grp with rfl | x
        · have := not_nils bv; omega
        · exact x
      have own2 : (wv = .nils ∧ us = []) ∨ ∃ g, h1.n ≤ g ∧ Grp g h2 wv ∧ Elems h1.n g h2 us D1.kept := by
        rcases own with x | ⟨g, x1, x2, x3⟩
        · exact .inl x
        · have sw := (x2.own wfh (Nat.zero_le _)).slot wfh
          refine .inr ⟨g, x1, x2.keep sw k2, fun i u hu => ?_⟩
          obtain ⟨y1, ge, y2, y3, y4⟩ := x3 i u hu
          have su := (y4.own wfh (Nat.zero_le _)).slot wfh
          exact ⟨y1.keep k2 su, ge, y2, y3, y4.keep su k2⟩
      have sl2 : Sl h2 1 wv j us := by
        rcases own with ⟨rfl, rfl⟩ | ⟨g, x1, x2, x3⟩
        · exact sl.keep k2 (by trivial)
        · exact sl.keep k2 ((x2.own wfh (Nat.zero_le _)).slot wfh)
      obtain ⟨v', h3, g, ea, sl3, hg3, g3, el3, k3⟩ := app_elem wf2 (Nat.le_trans k.n k2.n) huj (by omega) sl2 own2 bv gvv (Nat.le_trans k.n hgv) (fun g hgg => by
        have : g < h.n := by
          rcases own with ⟨rfl, _⟩ | ⟨g', x1, x2, x3⟩
          · exact hgg.elim
          · have sw := (x2.own wfh (Nat.zero_le _)).slot wfh
            have hg' := x2.keep sw k2
            have e : g = g' := by
              cases wv <;> first | exact hgg.elim | skip
              obtain ⟨_, z1, _⟩ := hgg
              obtain ⟨_, z2, _⟩ := hg'
              rw [z1] at z2; cases z2; rfl
            rw [e]
            exact x2.lt wfh
        omega)
      simp only [go_sem, ↓reduceIte, Nat.reduceEqDiff, List.getElem?_cons_zero, List.getElem?_cons_succ]
      refine WS_of_ops ?_
      have hwj : IntKind.i64.wrap ((j : Int) + 1) = ((j + 1 : Nat) : Int) := by rw [wrap_i64 (by omega) (by omega)]; omega
      simp only [f4_r22, go_sem, ↓reduceIte, Nat.reduceEqDiff, s16, ef, ea]
      refine WS_of_ops ?_
      simp only [f4_r23, go_sem, ↓reduceIte, Nat.reduceEqDiff, s17, hwj]
      exact ⟨m - 1, by omega, j + 1, v', us ++ [v], by omega, by simp [huj], rfl, s2, s3, s12, s13, rfl, (k.trans (k2.weaken fun q hq => Nat.lt_of_lt_of_le hq k.n)).trans k3, sl3, .inr ⟨g, hg3, g3, el3⟩⟩
    · have c' : ¬ (j : Int) < (n : Int) := by omega
      simp only [f4_r20, go_sem, ↓reduceIte, Nat.reduceEqDiff, s17, s12, c', decide_false]
      refine WS_of_cond ?_
      simp only [go_sem, ↓reduceIte, Bool.false_eq_true]
      refine WS_of_exit ?_
      simp only [go_sem, ↓reduceIte]
      obtain rfl : j = n := by omega
      have hroot := dh.root
      have was : WasA gs1 h wv us D1.kept := by
        rcases own with ⟨rfl, rfl⟩ | ⟨g, x1, x2, x3⟩
        · simp at huj; omega
        · have hng : ∀ q, h1.n ≤ q → q ∉ gs1 := fun q hq hm => by have := hlt1 q hm; omega
          refine ⟨by rw [huj]; exact sl, x2.away wfh (hng g x1) hroot, fun i u hu => ?_⟩
          obtain ⟨y1, ge, y2, y3, y4⟩ := x3 i u hu
          exact ⟨y1, y4.away wfh (hng ge y3) hroot⟩
      exact keeps3 wfA hn dh l1 rfl was huj hg1 (kA1.trans (k.weaken fun q hq => Nat.lt_of_lt_of_le hq kA1.n)) t hal b3 st3 hks s2 s3 s12 s13 s16
  · exact ⟨0, .nils, [], by omega, rfl, rfl, s2, s3, s12, s13, rfl, Keep.refl _ _, Sl.nil _ _, .inl ⟨rfl, rfl⟩⟩
theorem keeps1 {hA h0 : H} (wfA : hA.Wf) {s : S} {n o : Nat} {gs : List Nat} {D : Dk} {x1 x2 x3 : AV} {ks : List Bool} {al bl : List Act} (hn1 : 1 ≤ n) (hn : n ≤ 6)
    (d : DiskAt h0 o gs D) (l : Live n 0 D) (hg : ∀ g ∈ gs, hA.n ≤ g) (kA : Keep (Old hA.n) hA h0)
    (t1 : SliceR 4 ActR hA [x1] al) (hal : al.length ≤ 60) (t2 : SliceR 4 ActR hA [x2] bl) (hbl : bl.length ≤ 60) (b3 : Bools hA x3 ks) (st3 : Slot (Old hA.n) hA x3) (hks : ks.length ≤ 60)
    (s1 : s 1 = x1) (s2 : s 2 = x2) (s3 : s 3 = x3) (s12 : s 12 = .int .i64 (n : Int)) (s13 : s 13 = .ptr o 0) :
    WS E0 K1 [] (atEnd f4_a.results KR) s h0 := by
  refine WS_of_seq (WS_of_seq (WS_of_ops ?_))
  simp only [f4_r12, go_sem, ↓reduceIte, Nat.reduceEqDiff]
  refine WS_of_block (WS_of_loop (fun m s h => ∃ j gs D, j + m = al.length ∧ s 15 = .int .i64 (j : Int) ∧ s 1 = x1 ∧ s 2 = x2 ∧ s 3 = x3 ∧ s 12 = .int .i64 (n : Int) ∧ s 13 = .ptr o 0 ∧ DiskAt h o gs D ∧ Live n j D ∧ (∀ g ∈ gs, hA.n ≤ g) ∧ Keep (Old hA.n) hA h) ?_ al.length ?_)
  · rintro m s h ⟨j, gs', D', hjm, s15, s1, s2, s3, s12, s13, d', l', hg', k⟩
    show WS E0 f4_l16 [] _ _ _
    have wfh := k.wf wfA
    have tl := t1.len
    refine WS_of_seq (WS_of_seq (WS_of_ops ?_))
    by_cases c : j < al.length
    · have c' : (j : Int) < (al.length : Int) := by omega
      simp only [f4_r13, go_sem, ↓reduceIte, Nat.reduceEqDiff, s15, s1, tl.1, c', decide_true]
      refine WS_of_cond ?_
      simp only [go_sem, ↓reduceIte]
      refine WS_of_skip ?_
      simp only [go_sem]
      obtain ⟨oo, q, ub, uk, e, ⟨bb, sb⟩, _, wk, ld⟩ := acts_get t1 c
      obtain ⟨ld0, ld1, ld2, ld3⟩ := ld h k
      refine WS_of_seq (WS_of_block (WS_of_draw ?_))
      simp only [f4_r14, go_sem, ↓reduceIte, Nat.reduceEqDiff, and_self, true_and, List.filter_cons, List.filter_nil, Nat.testBit, Nat.reduceShiftRight, Nat.reduceAnd, Nat.reduceBNe, Bool.not_false, Bool.not_true, Bool.false_eq_true, bne_self_eq_false, eq_self, s1, s13, s15, e, ld1, ld2]
      have sb' : Slot (Old hA.n) h ub := sb.keep k fun q hq => hq
      refine (write_spec wfh d' al[j].at' (bb.keep k sb) (sb'.apart wfh k.n hg') (by have := l'.wl; omega)).mono ?_
      rintro r h2 ⟨gs2, rfl, d2, k2, n2⟩
      have kA2 : Keep (Old hA.n) hA h2 := k.trans (k2.old wfh k.n hg')
      obtain ⟨ld0', ld1', ld2', ld3'⟩ := ld h2 kA2
      have hg2 : ∀ g ∈ gs2, hA.n ≤ g := fun g hgm => by
        rcases n2 g hgm with x | x
        · exact hg' g x
        · exact Nat.le_trans k.n x
      obtain ⟨lw, lk, -⟩ := l'.write al[j].at' al[j].b
      have hw : IntKind.i64.wrap ((j : Int) + 1) = ((j + 1 : Nat) : Int) := by rw [wrap_i64 (by omega) (by omega)]; omega
      simp only [go_sem, ↓reduceIte, Nat.reduceEqDiff, and_self, true_and, List.filter_cons, List.filter_nil, Nat.testBit, Nat.reduceShiftRight, Nat.reduceAnd, Nat.reduceBNe, Bool.not_false, Bool.not_true, Bool.false_eq_true, bne_self_eq_false, eq_self, s1, s13, s15, e, ld1, ld2, ld1', ld2']
      refine WS_of_ops ?_
      simp only [f4_r15, go_sem, ↓reduceIte, Nat.reduceEqDiff, s15, hw]
      exact ⟨m - 1, by omega, j + 1, gs2, _, by omega, rfl, s1, s2, s3, s12, s13, d2, lw, hg2, kA2⟩
    · have c' : ¬ (j : Int) < (al.length : Int) := by omega
      simp only [f4_r13, go_sem, ↓reduceIte, Nat.reduceEqDiff, s15, s1, tl.1, c', decide_false]
      refine WS_of_cond ?_
      simp only [go_sem, ↓reduceIte, Bool.false_eq_true]
      refine WS_of_exit ?_
      simp only [go_sem, ↓reduceIte]
      exact keeps2 wfA hn1 hn d' l' (by omega) hg' k t2 hbl b3 st3 hks s2 s3 s12 s13
  · exact ⟨0, gs, D, by omega, rfl, s1, s2, s3, s12, s13, d, l, hg, kA⟩
theorem keeps_answer {h0 : H} (wf : h0.Wf) {q : Nat} {x1 x2 x3 : AV} {al bl : List Act} {ks : List Bool} (hq : q < 256) (t1 : SliceR 4 ActR h0 [x1] al) (t2 : SliceR 4 ActR h0 [x2] bl) (t3 : BoolsR h0 [x3] ks) :
    WCall E0 4 [.int .u8 (q : Int), x1, x2, x3] h0 fun r _ => r = .val (.bool true) := by
  refine WCall_ws (ovn 4) U4 (by simp [f4_a]) ?_
  show WS E0 f4_c [] _ _ _
  refine WS_of_seq (WS_of_ops ?_)
  simp only [f4_r0, go_sem, ↓reduceIte]
  refine WS_of_seq (WS_of_ops ?_)
  simp only [f4_r1, go_sem, ↓reduceIte, Nat.reduceEqDiff]
  refine WCall_ov (g := yes) rfl rfl ?_
  simp only [go_sem, ↓reduceIte, Nat.reduceEqDiff]
  refine WS_of_seq (WS_of_seq (WS_of_ops ?_))
  simp only [f4_r2, go_sem, ↓reduceIte, Nat.reduceEqDiff]
  refine WS_of_cond ?_
  simp only [go_sem, ↓reduceIte, Nat.reduceEqDiff, Bool.not_true, Bool.false_eq_true]
  refine WS_of_skip ?_
  simp only [go_sem]
  refine WS_of_seq (WS_of_ops ?_)
  simp only [f4_r4, go_sem, ↓reduceIte, Nat.reduceEqDiff]
  refine (few_spec t1).mono ?_
  rintro r h1 ⟨hh, rfl⟩
  have hh' := hh.symm
  subst hh'
  simp only [go_sem, ↓reduceIte, Nat.reduceEqDiff]
  refine WS_of_seq (WS_of_ops ?_)
  simp only [f4_r5, go_sem, ↓reduceIte, Nat.reduceEqDiff]
  refine (few_spec t2).mono ?_
  rintro r h1 ⟨hh2, rfl⟩
  have hh' := hh2.symm
  subst hh'
  simp only [go_sem, ↓reduceIte, Nat.reduceEqDiff]
  refine WS_of_seq (WS_of_ops ?_)
  have hc : IntKind.i64.wrap (q : Int) = (q : Int) := wrap_i64 (by omega) (by omega)
  have hm : Int.tmod (q : Int) 6 = ((q % 6 : Nat) : Int) := by rw [Int.ofNat_tmod]; rfl
  have hw : IntKind.i64.wrap (((q % 6 : Nat) : Int) + 1) = ((q % 6 + 1 : Nat) : Int) := by rw [wrap_i64 (by omega) (by omega)]; omega
  simp only [f4_r6, go_sem, ↓reduceIte, Nat.reduceEqDiff, hc, hm, hw, (by decide : ¬ (6 : Int) = 0)]
  obtain ⟨bk, sk⟩ := boolsR_get t3
  refine WS_of_seq (WS_of_seq (WS_of_ops ?_))
  cases hf1 : few al with
  | false =>
    simp only [f4_r7, go_sem, ↓reduceIte, Nat.reduceEqDiff, Bool.not_false, Bool.true_eq_false]
    refine WS_of_cond ?_
    simp only [go_sem, ↓reduceIte]
    refine WS_of_seq (WS_of_ops ?_)
    simp only [f4_r8, go_sem, ↓reduceIte, Nat.reduceEqDiff]
    refine WS_of_ret ?_
    simp only [f4_a, go_sem, ↓reduceIte, Nat.reduceEqDiff]
  | true =>
  cases hf2 : few bl with
  | false =>
    simp only [f4_r7, go_sem, ↓reduceIte, Nat.reduceEqDiff, Bool.not_false, Bool.not_true, Bool.true_eq_false, Bool.false_eq_true]
    refine WS_of_cond ?_
    simp only [go_sem, ↓reduceIte]
    refine WS_of_seq (WS_of_ops ?_)
    simp only [f4_r8, go_sem, ↓reduceIte, Nat.reduceEqDiff]
    refine WS_of_ret ?_
    simp only [f4_a, go_sem, ↓reduceIte, Nat.reduceEqDiff]
  | true =>
  by_cases ck : 60 < ks.length
  · have ck' : (60 : Int) < (ks.length : Int) := by omega
    simp only [f4_r7, go_sem, ↓reduceIte, Nat.reduceEqDiff, Bool.not_true, Bool.false_eq_true, bk.len, ck', decide_true]
    refine WS_of_cond ?_
    simp only [go_sem, ↓reduceIte]
    refine WS_of_seq (WS_of_ops ?_)
    simp only [f4_r8, go_sem, ↓reduceIte, Nat.reduceEqDiff]
    refine WS_of_ret ?_
    simp only [f4_a, go_sem, ↓reduceIte, Nat.reduceEqDiff]
  have ck' : ¬ (60 : Int) < (ks.length : Int) := by omega
  simp only [f4_r7, go_sem, ↓reduceIte, Nat.reduceEqDiff, Bool.not_true, Bool.false_eq_true, bk.len, ck', decide_false]
  refine WS_of_cond ?_
  simp only [go_sem, ↓reduceIte, Bool.false_eq_true]
  refine WS_of_skip ?_
  simp only [go_sem]
  obtain ⟨hl1, -⟩ := few_of hf1
  obtain ⟨hl2, -⟩ := few_of hf2
  refine WS_of_seq (WS_of_ops ?_)
  simp only [f4_r9, go_sem, ↓reduceIte, Nat.reduceEqDiff]
  refine (new_spec wf (n := q % 6 + 1) (by omega) (by omega)).mono ?_
  rintro r h2 ⟨o, gs, rfl, d2, k2, hg2⟩
  simp only [go_sem, ↓reduceIte, Nat.reduceEqDiff, List.getElem?_cons_zero, List.getElem?_cons_succ]
  refine WS_of_seq (WS_of_seq (WS_of_ops ?_))
  simp only [f4_r10, go_sem, ↓reduceIte, Nat.reduceEqDiff, decide_true, Bool.not_true]
  refine WS_of_cond ?_
  simp only [go_sem, ↓reduceIte, Nat.reduceEqDiff, Bool.false_eq_true]
  refine WS_of_skip ?_
  simp only [go_sem]
  exact keeps1 wf (n := q % 6 + 1) (by omega) (by omega) d2 ⟨by simp [Dk.new], by simp [Dk.new], rfl, rfl⟩ hg2 k2 t1 hl1 t2 hl2 bk sk (by omega) rfl rfl rfl rfl rfl
end Go.Proofs.Ytmfbememiffkjaa.Ev.C
