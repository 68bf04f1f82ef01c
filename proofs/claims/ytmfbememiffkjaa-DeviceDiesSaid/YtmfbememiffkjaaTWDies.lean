/- The law DeviceDies, walked. -/
import Derived.Test.YtmfbememiffkjaaTAct
namespace Go.Proofs.Ytmfbememiffkjaa.Ev.C
open Go Go.Proofs.Ytmfbememiffkjaa.Ev
set_option linter.unusedSimpArgs false
set_option linter.unusedVariables false
/-- an armed disk of four sectors behind k calls that count -/
structure DieD (n k w : Nat) (D : Dk) : Prop where
  kl : D.kept.length = 4
  wl : D.waits.length ≤ w
  ar : D.armed = n - k
  de : D.dead = decide (n ≤ k)
theorem DieD.counted {n k w : Nat} {D : Dk} (d : DieD n k w D) (hn : 1 ≤ n) : DieD n (k + 1) w D.counted where
  kl := by rw [Dk.counted_kept]; exact d.kl
  wl := by rw [Dk.counted_waits]; exact d.wl
  ar := by rw [Dk.counted_armed, d.ar]; omega
  de := by
    rw [Dk.counted_dead, d.ar, d.de]
    by_cases h : 0 < n - k
    · rw [if_pos h]; exact decide_eq_decide.2 (by omega)
    · rw [if_neg h]; exact decide_eq_decide.2 (by omega)
structure DieI (h0 : H) (x : AV) (n o : Nat) (al : List Act) (j : Nat) (s : S) (h2 : H) : Prop where
  s0 : s 0 = .int .u8 (n : Int)
  s1 : s 1 = x
  s7 : s 7 = .ptr o 0
  s10 : s 10 = .int .i64 (j : Int)
  ex : ∃ gs D k, DiskAt h2 o gs D ∧ DieD n k j D ∧ k ≤ j ∧ s 9 = .int .i64 (k : Int) ∧ ∀ g ∈ gs, h0.n ≤ g
  k : Keep (Old h0.n) h0 h2
theorem dies_tail {h2 : H} (wf : h2.Wf) {n o k w : Nat} {gs : List Nat} {D : Dk} {s : S} (hn : n < 256) (hw : w ≤ 60) (hk : k ≤ 60) (d : DiskAt h2 o gs D) (dd : DieD n k w D) (s0 : s 0 = .int .u8 (n : Int)) (s7 : s 7 = .ptr o 0) (s9 : s 9 = .int .i64 (k : Int)) :
    WS E0 (.seq (.ops f5_r28) (.seq (.ops f5_r29) (.seq (.ops f5_r30) (.seq (.ops f5_r31) .ret)))) [] (atEnd f5_a.results fun r _ => r = .val (.bool true)) s h2 := by
  refine WS_of_seq (WS_of_ops ?_)
  simp only [f5_r28, go_sem, ↓reduceIte, Nat.reduceEqDiff, s7]
  refine (read_spec wf d 0 (by have := dd.wl; omega)).mono ?_
  rintro r h3 ⟨v, rfl, bv, ov, k3⟩
  have wf3 := k3.wf wf
  have hr : (D.read 0).2 = if n ≤ k then 20 else 0 := by
    unfold Dk.read
    rw [if_neg (by simp [Dk.has, dd.kl]), dd.de]
    by_cases h : n ≤ k <;> simp [h]
  rw [hr]
  simp only [go_sem, ↓reduceIte, Nat.reduceEqDiff, List.getElem?_cons_zero, List.getElem?_cons_succ]
  refine WS_of_seq (WS_of_ops ?_)
  simp only [f5_r29, go_sem, ↓reduceIte, Nat.reduceEqDiff]
  refine WS_of_seq (WS_of_ops ?_)
  simp only [f5_r30, go_sem, ↓reduceIte, Nat.reduceEqDiff]
  refine (read_nil wf3 0).mono ?_
  rintro r h4 ⟨rfl, k4⟩
  have wf4 := k4.wf wf3
  simp only [go_sem, ↓reduceIte, Nat.reduceEqDiff, List.getElem?_cons_zero, List.getElem?_cons_succ]
  refine WS_of_seq (WS_of_ops ?_)
  have hc : IntKind.i64.wrap (n : Int) = (n : Int) := wrap_i64 (by omega) (by omega)
  have e1 : decide ((((if n ≤ k then 20 else 0 : Nat)) : Int) = 20) = decide (n ≤ k) := by by_cases h : n ≤ k <;> simp [h]
  have e2 : decide ((n : Int) ≤ (k : Int)) = decide (n ≤ k) := decide_eq_decide.2 (by omega)
  simp only [f5_r31, go_sem, ↓reduceIte, Nat.reduceEqDiff, s0, s9, hc, e1, e2, beq_self_eq_true, decide_true]
  refine (write_nil wf4 0 (v := .nils) (bs := []) (Bytes.none _)).mono ?_
  rintro r h5 ⟨rfl, k5⟩
  have wf5 := k5.wf wf4
  simp only [go_sem, ↓reduceIte, Nat.reduceEqDiff, decide_true]
  refine (flush_nil wf5).mono ?_
  rintro r h6 ⟨rfl, k6⟩
  have wf6 := k6.wf wf5
  simp only [go_sem, ↓reduceIte, Nat.reduceEqDiff, decide_true]
  refine (restart_nil wf6 .nils).mono ?_
  rintro r h7 ⟨rfl, k7⟩
  simp only [go_sem, ↓reduceIte, Nat.reduceEqDiff, decide_true]
  refine dead_nil.mono ?_
  rintro r h8 ⟨rfl, rfl⟩
  simp only [go_sem, ↓reduceIte, Nat.reduceEqDiff, Bool.not_false]
  refine len_nil.mono ?_
  rintro r h9 ⟨rfl, rfl⟩
  simp only [go_sem, ↓reduceIte, Nat.reduceEqDiff]
  refine waiting_nil.mono ?_
  rintro r h10 ⟨rfl, rfl⟩
  have hz : IntKind.i64.wrap (0 + 0) = 0 := rfl
  simp only [go_sem, ↓reduceIte, Nat.reduceEqDiff, hz, decide_true]
  refine WS_of_ret ?_
  simp only [f5_a, go_sem, ↓reduceIte, Nat.reduceEqDiff]
  rfl
def DiesDone (h0 : H) (x : AV) (n o : Nat) (al : List Act) (m : Nat) : S → H → Prop := fun s h => ∃ m', m' < m ∧ ∃ j, j + m' = al.length ∧ DieI h0 x n o al j s h
/-- behind a call that counts: the checks, the round's end -/
theorem dies_round {h0 h3 : H} {x : AV} {n o : Nat} {al : List Act} {m j k w : Nat} {gs3 : List Nat} {D3 : Dk} {s : S} {Q : AEx → S → H → Prop} (hn : n < 256) (hj : j + m = al.length) (hjl : j < al.length) (hl : al.length ≤ 60) (hkj : k ≤ j)
    (wf3 : h3.Wf) (d3 : DiskAt h3 o gs3 D3) (dd : DieD n (k + 1) (j + 1) D3) (hg3 : ∀ g ∈ gs3, h0.n ≤ g) (k3 : Keep (Old h0.n) h0 h3) (hw : n ≤ k + 1 → D3.waits.length = w)
    (s0 : s 0 = .int .u8 (n : Int)) (s1 : s 1 = x) (s7 : s 7 = .ptr o 0) (s9 : s 9 = .int .i64 (k : Int)) (s10 : s 10 = .int .i64 (j : Int)) (s12 : s 12 = .int .i64 (w : Int)) (s13 : s 13 = .int .i64 (if n ≤ k + 1 then 20 else 0))
    (hQ : ∀ s h, DiesDone h0 x n o al m s h → Q .normal s h) :
    WS E0 (.seq (.ops f5_r23) (.seq (.ops f5_r24) (.cond (.tmp 120) (.seq (.ops f5_r25) .ret) .skip))) [.blk 1, .code (.ops f5_r26)] Q s h3 := by
  refine WS_of_seq (WS_of_ops ?_)
  have hwk : IntKind.i64.wrap ((k : Int) + 1) = ((k + 1 : Nat) : Int) := by rw [wrap_i64 (by omega) (by omega)]; omega
  have hwj : IntKind.i64.wrap ((j : Int) + 1) = ((j + 1 : Nat) : Int) := by rw [wrap_i64 (by omega) (by omega)]; omega
  have hc : IntKind.i64.wrap (n : Int) = (n : Int) := wrap_i64 (by omega) (by omega)
  simp only [f5_r23, go_sem, ↓reduceIte, Nat.reduceEqDiff, s9, hwk]
  refine WS_of_seq (WS_of_ops ?_)
  have e1 : decide ((if n ≤ k + 1 then (20 : Int) else 0) = 20) = decide (n ≤ k + 1) := by by_cases h : n ≤ k + 1 <;> simp [h]
  have e2 : decide ((n : Int) ≤ ((k + 1 : Nat) : Int)) = decide (n ≤ k + 1) := decide_eq_decide.2 (by omega)
  simp only [f5_r24, go_sem, ↓reduceIte, Nat.reduceEqDiff, s0, s13, s7, hc, e1, e2, beq_self_eq_true, Bool.not_true]
  refine (dead_spec d3).mono ?_
  rintro r h4 ⟨rfl, rfl⟩
  simp only [go_sem, ↓reduceIte, Nat.reduceEqDiff, s0, s13, s7, s12, hc, e1, e2, dd.de, beq_self_eq_true, Bool.not_true]
  have fin' : ∀ {s : S}, s 0 = .int .u8 (n : Int) → s 1 = x → s 7 = .ptr o 0 → s 9 = .int .i64 ((k + 1 : Nat) : Int) → s 10 = .int .i64 (j : Int) → WS E0 (.ops f5_r26) [] Q s h4 := by
    intro s s0 s1 s7 s9 s10
    refine WS_of_ops ?_
    simp only [f5_r26, go_sem, ↓reduceIte, Nat.reduceEqDiff, s10, hwj]
    exact hQ _ _ ⟨m - 1, by omega, j + 1, by omega, s0, s1, s7, rfl, ⟨gs3, D3, k + 1, d3, dd, by omega, s9, hg3⟩, k3⟩
  by_cases c : n ≤ k + 1
  · simp only [go_sem, ↓reduceIte, Nat.reduceEqDiff, s7, c, decide_true]
    refine (waiting_spec d3).mono ?_
    rintro r h5 ⟨rfl, rfl⟩
    simp only [go_sem, ↓reduceIte, Nat.reduceEqDiff, s12, hw c, decide_true, Bool.not_true]
    refine WS_of_cond ?_
    simp only [go_sem, ↓reduceIte, Bool.false_eq_true]
    refine WS_of_skip ?_
    simp only [go_sem]
    exact fin' s0 s1 s7 rfl s10
  · simp only [go_sem, ↓reduceIte, Nat.reduceEqDiff, s7, c, decide_false, Bool.false_eq_true]
    refine WS_of_cond ?_
    simp only [go_sem, ↓reduceIte, Bool.false_eq_true]
    refine WS_of_skip ?_
    simp only [go_sem]
    exact fin' s0 s1 s7 rfl s10
theorem dies_answer {h0 : H} (wf : h0.Wf) {x : AV} {n : Nat} {al : List Act} (hn : n < 256) (t : SliceR 4 ActR h0 [x] al) : WCall E0 5 [.int .u8 (n : Int), x] h0 fun r _ => r = .val (.bool true) := by
  refine WCall_ws (ovn 5) U5 (by simp [f5_a]) ?_
  show WS E0 f5_c [] _ _ _
  refine WS_of_seq (WS_of_ops ?_)
  simp only [f5_r0, go_sem, ↓reduceIte]
  refine WS_of_seq (WS_of_ops ?_)
  simp only [f5_r1, go_sem, ↓reduceIte, Nat.reduceEqDiff]
  refine WCall_ov (g := yes) rfl rfl ?_
  simp only [go_sem, ↓reduceIte, Nat.reduceEqDiff]
  refine WS_of_seq (WS_of_seq (WS_of_ops ?_))
  simp only [f5_r2, go_sem, ↓reduceIte, Nat.reduceEqDiff]
  refine WS_of_cond ?_
  simp only [go_sem, ↓reduceIte, Nat.reduceEqDiff, Bool.not_true, Bool.false_eq_true]
  refine WS_of_skip ?_
  simp only [go_sem]
  refine WS_of_seq (WS_of_ops ?_)
  simp only [f5_r4, go_sem, ↓reduceIte, Nat.reduceEqDiff]
  refine (few_spec t).mono ?_
  rintro r h1 ⟨hh, rfl⟩
  have hh' := hh.symm
  subst hh'
  have early : ∀ {s : S} {h : H}, WS E0 (.seq (.ops f5_r6) .ret) [] (atEnd f5_a.results fun r _ => r = .val (.bool true)) s h := by
    intro s h
    refine WS_of_seq (WS_of_ops ?_)
    simp only [f5_r6, go_sem, ↓reduceIte, Nat.reduceEqDiff]
    refine WS_of_ret ?_
    simp only [f5_a, go_sem, ↓reduceIte, Nat.reduceEqDiff]
  simp only [go_sem, ↓reduceIte, Nat.reduceEqDiff]
  refine WS_of_seq (WS_of_seq (WS_of_ops ?_))
  cases hf : few al with
  | false =>
    simp only [f5_r5, go_sem, ↓reduceIte, Nat.reduceEqDiff, Bool.not_false, Bool.true_eq_false]
    refine WS_of_cond ?_
    simp only [go_sem, ↓reduceIte]
    refine WS_of_seq (WS_of_ops ?_)
    simp only [f5_r6, go_sem, ↓reduceIte, Nat.reduceEqDiff]
    refine WS_of_ret ?_
    simp only [f5_a, go_sem, ↓reduceIte, Nat.reduceEqDiff]
  | true =>
  obtain ⟨hl, hfew⟩ := few_of hf
  by_cases n0 : n = 0
  · have n0' : (n : Int) = 0 := by omega
    simp only [f5_r5, go_sem, ↓reduceIte, Nat.reduceEqDiff, Bool.not_true, Bool.false_eq_true, n0', decide_true]
    refine WS_of_cond ?_
    simp only [go_sem, ↓reduceIte]
    refine WS_of_seq (WS_of_ops ?_)
    simp only [f5_r6, go_sem, ↓reduceIte, Nat.reduceEqDiff]
    refine WS_of_ret ?_
    simp only [f5_a, go_sem, ↓reduceIte, Nat.reduceEqDiff]
  have n0' : ¬ (n : Int) = 0 := by omega
  simp only [f5_r5, go_sem, ↓reduceIte, Nat.reduceEqDiff, Bool.not_true, Bool.false_eq_true, n0', decide_false]
  refine WS_of_cond ?_
  simp only [go_sem, ↓reduceIte, Bool.false_eq_true]
  refine WS_of_skip ?_
  simp only [go_sem]
  refine WS_of_seq (WS_of_ops ?_)
  simp only [f5_r7, go_sem, ↓reduceIte, Nat.reduceEqDiff]
  refine (new_spec wf (n := 4) (by omega) (by omega)).mono ?_
  rintro r h2 ⟨o, gs, rfl, d2, k2, hg2⟩
  have wf2 := k2.wf wf
  simp only [go_sem, ↓reduceIte, Nat.reduceEqDiff, List.getElem?_cons_zero, List.getElem?_cons_succ]
  refine WS_of_seq (WS_of_seq (WS_of_ops ?_))
  simp only [f5_r8, go_sem, ↓reduceIte, Nat.reduceEqDiff, decide_true, Bool.not_true]
  refine WS_of_cond ?_
  simp only [go_sem, ↓reduceIte, Nat.reduceEqDiff, Bool.false_eq_true]
  refine WS_of_skip ?_
  simp only [go_sem]
  refine WS_of_seq (WS_of_ops ?_)
  have hc : IntKind.i64.wrap (n : Int) = (n : Int) := wrap_i64 (by omega) (by omega)
  simp only [f5_r10, go_sem, ↓reduceIte, Nat.reduceEqDiff, hc]
  refine (arm_spec wf2 d2 (n : Int) (by omega)).mono ?_
  rintro r h3 ⟨rfl, d3, k3⟩
  have wf3 := k3.wf wf2
  simp only [go_sem, ↓reduceIte, Nat.reduceEqDiff]
  refine WS_of_seq (WS_of_ops ?_)
  simp only [f5_r11, go_sem, ↓reduceIte, Nat.reduceEqDiff]
  refine WS_of_seq (WS_of_seq (WS_of_ops ?_))
  simp only [f5_r12, go_sem, ↓reduceIte, Nat.reduceEqDiff]
  refine WS_of_block (WS_of_loop (fun m s h => ∃ j, j + m = al.length ∧ DieI h0 x n o al j s h) ?_ al.length ?_)
  · rintro m s h4 ⟨j, hjm, ⟨s0, s1, s7, s10, ⟨gs4, D, k, d, dd, hkj, s9, hg⟩, kk⟩⟩
    show WS E0 f5_l27 [] _ _ _
    have wf4 := kk.wf wf
    have tl := t.len
    refine WS_of_seq (WS_of_seq (WS_of_ops ?_))
    by_cases c : j < al.length
    · have c' : (j : Int) < (al.length : Int) := by omega
      simp only [f5_r13, go_sem, ↓reduceIte, Nat.reduceEqDiff, s10, s1, tl.1, c', decide_true]
      refine WS_of_cond ?_
      simp only [go_sem, ↓reduceIte]
      refine WS_of_skip ?_
      simp only [go_sem]
      obtain ⟨oo, q, ub, uk, e, ⟨bb, sb⟩, _, w, ld⟩ := acts_get t c
      obtain ⟨ld0, ld1, ld2, ld3⟩ := ld h4 kk
      refine WS_of_seq (WS_of_block (WS_of_seq (WS_of_ops ?_)))
      simp only [f5_r14, go_sem, ↓reduceIte, Nat.reduceEqDiff, s10, s1, e, ld1]
      refine WS_of_seq (WS_of_ops ?_)
      simp only [f5_r15, go_sem, ↓reduceIte, Nat.reduceEqDiff, s7]
      refine (waiting_spec d).mono ?_
      rintro r h5 ⟨rfl, rfl⟩
      simp only [go_sem, ↓reduceIte, Nat.reduceEqDiff]
      refine WS_of_seq (WS_of_ops ?_)
      simp only [f5_r16, go_sem, ↓reduceIte, Nat.reduceEqDiff]
      refine WS_of_seq (WS_of_seq (WS_of_ops ?_))
      have hm2 : Int.tmod (al[j].kind : Int) 2 = ((al[j].kind % 2 : Nat) : Int) := by rw [Int.ofNat_tmod]; rfl
      simp only [f5_r17, go_sem, ↓reduceIte, Nat.reduceEqDiff, s10, s1, e, ld0, hm2, (by decide : ¬ (2 : Int) = 0)]
      refine WS_of_cond ?_
      have hwl : D.waits.length < 1000000 := by have := dd.wl; omega
      have ddc := dd.counted (by omega)
      have hdead := ddc.de
      by_cases ck : ((al[j].kind % 2 : Nat) : Int) = 0
      · simp only [go_sem, ↓reduceIte, ck, decide_true]
        refine WS_of_seq (WS_of_ops ?_)
        simp only [f5_r18, go_sem, ↓reduceIte, Nat.reduceEqDiff, s10, s1, s7, e, ld2]
        have sb4 : Slot (Old h0.n) h5 ub := sb.keep kk fun q hq => hq
        refine (write_spec wf4 d al[j].at' (bb.keep kk sb) (sb4.apart wf4 kk.n hg) hwl).mono ?_
        rintro r h6 ⟨gs6, rfl, d6, k6, n6⟩
        have wf6 := k6.wf wf4
        have k06 : Keep (Old h0.n) h0 h6 := kk.trans (k6.old wf4 kk.n hg)
        have hg6 : ∀ g ∈ gs6, h0.n ≤ g := fun g hgm => by
          rcases n6 g hgm with x | x
          · exact hg g x
          · exact Nat.le_trans kk.n x
        obtain ⟨l0, l1, l2, l3⟩ := ld h6 k06
        simp only [go_sem, ↓reduceIte, Nat.reduceEqDiff]
        refine WS_of_seq (WS_of_ops ?_)
        have hwj : IntKind.i64.wrap ((j : Int) + 1) = ((j + 1 : Nat) : Int) := by rw [wrap_i64 (by omega) (by omega)]; omega
        have hbb := bb.len
        by_cases hbad : D.has al[j].at' = false ∨ 64 < al[j].b.length
        · have hwr := Dk.write_bad (D := D) (i := al[j].at') (b := al[j].b) hbad
          rw [hwr] at d6 ⊢
          have hval : (decide (al[j].at' < 0) = true ∨ decide (3 < al[j].at') = true ∨ decide ((64 : Int) < (al[j].b.length : Int)) = true) := by
            simp only [decide_eq_true_eq]
            rcases hbad with hb | hb
            · simp only [Dk.has, dd.kl, Bool.and_eq_false_iff, decide_eq_false_iff_not] at hb
              omega
            · omega
          have bad : ∀ {s : S}, s 0 = .int .u8 (n : Int) → s 1 = x → s 7 = .ptr o 0 → s 9 = .int .i64 (k : Int) → s 10 = .int .i64 (j : Int) → s 12 = .int .i64 (D.waits.length : Int) → s 13 = .int .i64 1 → ∀ {Q : AEx → S → H → Prop}, (∀ s h, (∃ m', m' < m ∧ ∃ j, j + m' = al.length ∧ DieI h0 x n o al j s h) → Q .normal s h) →
              WS E0 (.seq (.seq (.ops f5_r20) (.cond (.tmp 90) (.seq (.ops f5_r21) .ret) .skip)) (.exit 1)) [.code (.seq (.ops f5_r23) (.seq (.ops f5_r24) (.cond (.tmp 120) (.seq (.ops f5_r25) .ret) .skip))), .blk 1, .code (.ops f5_r26)] Q s h6 := by
            intro s s0 s1 s7 s9 s10 s12 s13 Q hQ
            refine WS_of_seq (WS_of_seq (WS_of_ops ?_))
            simp only [f5_r20, go_sem, ↓reduceIte, Nat.reduceEqDiff, s13, s7, decide_true, Bool.not_true]
            refine (waiting_spec d6).mono ?_
            rintro r h7 ⟨rfl, rfl⟩
            simp only [go_sem, ↓reduceIte, Nat.reduceEqDiff, s12, decide_true, Bool.not_true]
            refine WS_of_cond ?_
            simp only [go_sem, ↓reduceIte, Bool.false_eq_true]
            refine WS_of_skip ?_
            simp only [go_sem]
            refine WS_of_exit ?_
            simp only [go_sem, ↓reduceIte, Nat.reduceEqDiff]
            refine WS_of_ops ?_
            simp only [f5_r26, go_sem, ↓reduceIte, Nat.reduceEqDiff, s10, hwj]
            exact hQ _ _ ⟨m - 1, by omega, j + 1, by omega, s0, s1, s7, rfl, ⟨gs6, D, k, d6, ⟨dd.kl, by have := dd.wl; omega, dd.ar, dd.de⟩, by omega, s9, hg6⟩, k06⟩
          by_cases c1 : al[j].at' < 0
          · simp only [f5_r19, go_sem, ↓reduceIte, Nat.reduceEqDiff, c1, decide_true, Bool.true_eq_false]
            refine WS_of_cond ?_
            simp only [go_sem, ↓reduceIte]
            refine bad ?_ ?_ ?_ ?_ ?_ ?_ ?_ ?_
            · exact s0
            · exact s1
            · exact s7
            · exact s9
            · exact s10
            · rfl
            · rfl
            · exact fun s h x => x
          by_cases c2 : 3 < al[j].at'
          · simp only [f5_r19, go_sem, ↓reduceIte, Nat.reduceEqDiff, c1, c2, decide_true, decide_false, Bool.true_eq_false, Bool.false_eq_true]
            refine WS_of_cond ?_
            simp only [go_sem, ↓reduceIte]
            refine bad ?_ ?_ ?_ ?_ ?_ ?_ ?_ ?_
            · exact s0
            · exact s1
            · exact s7
            · exact s9
            · exact s10
            · rfl
            · rfl
            · exact fun s h x => x
          · have c3 : (64 : Int) < (al[j].b.length : Int) := by simpa [c1, c2] using hval
            simp only [f5_r19, go_sem, ↓reduceIte, Nat.reduceEqDiff, c1, c2, c3, s10, s1, e, l2, hbb, decide_true, decide_false, Bool.true_eq_false, Bool.false_eq_true]
            refine WS_of_cond ?_
            simp only [go_sem, ↓reduceIte]
            refine bad ?_ ?_ ?_ ?_ ?_ ?_ ?_ ?_
            · exact s0
            · exact s1
            · exact s7
            · exact s9
            · exact s10
            · rfl
            · rfl
            · exact fun s h x => x
        · have hhas : D.has al[j].at' = true := by cases h : D.has al[j].at' with
            | true => rfl
            | false => exact absurd (.inl h) hbad
          have hlen : al[j].b.length ≤ 64 := by omega
          have c123 : ¬ al[j].at' < 0 ∧ ¬ 3 < al[j].at' ∧ ¬ (64 : Int) < (al[j].b.length : Int) := by
            have := hhas
            simp only [Dk.has, dd.kl, Bool.and_eq_true, decide_eq_true_eq] at this
            omega
          obtain ⟨c1, c2, c3⟩ := c123
          have hd6 : (D.write al[j].at' al[j].b).2 = (if n ≤ k + 1 then 20 else 0) ∧ DieD n (k + 1) (j + 1) (D.write al[j].at' al[j].b).1 ∧ (n ≤ k + 1 → (D.write al[j].at' al[j].b).1.waits.length = D.waits.length) := by
            by_cases cd : n ≤ k + 1
            · rw [Dk.write_dead hhas hlen (by rw [hdead]; simpa using cd)]
              exact ⟨by simp [cd], ⟨ddc.kl, by show D.counted.waits.length ≤ _; have := ddc.wl; omega, ddc.ar, ddc.de⟩, fun _ => by simp only [Dk.counted_waits]⟩
            · rw [Dk.write_good hhas hlen (by rw [hdead]; simpa using cd)]
              exact ⟨by simp [cd], ⟨ddc.kl, by have := dd.wl; simp; omega, ddc.ar, ddc.de⟩, fun x => absurd x cd⟩
          obtain ⟨he, hdd, hws⟩ := hd6
          rw [he]
          simp only [f5_r19, go_sem, ↓reduceIte, Nat.reduceEqDiff, c1, c2, c3, s10, s1, e, l2, hbb, decide_false, Bool.false_eq_true]
          refine WS_of_cond ?_
          simp only [go_sem, ↓reduceIte, Bool.false_eq_true]
          refine WS_of_skip ?_
          simp only [go_sem]
          exact dies_round (w := D.waits.length) hn hjm c hl hkj wf6 d6 hdd hg6 k06 hws s0 s1 s7 s9 s10 rfl (by split <;> rfl) (fun s h x => x)
      · simp only [go_sem, ↓reduceIte, ck, decide_false, Bool.false_eq_true]
        refine WS_of_ops ?_
        simp only [f5_r22, go_sem, ↓reduceIte, Nat.reduceEqDiff, s7]
        refine (flush_spec wf4 d hwl).mono ?_
        rintro r h6 ⟨gs6, rfl, d6, k6, n6⟩
        have wf6 := k6.wf wf4
        have k06 : Keep (Old h0.n) h0 h6 := kk.trans (k6.old wf4 kk.n hg)
        simp only [go_sem, ↓reduceIte, Nat.reduceEqDiff]
        have hd6 : D.flush.2 = (if n ≤ k + 1 then 20 else 0) ∧ DieD n (k + 1) (j + 1) D.flush.1 ∧ (n ≤ k + 1 → D.flush.1.waits.length = D.waits.length) := by
          unfold Dk.flush
          rw [hdead]
          by_cases cd : n ≤ k + 1
          · rw [if_pos (by simpa using cd)]
            exact ⟨by simp [cd], ⟨ddc.kl, by show D.counted.waits.length ≤ _; have := ddc.wl; omega, ddc.ar, ddc.de⟩, fun _ => by simp only [Dk.counted_waits]⟩
          · rw [if_neg (by simpa using cd)]
            refine ⟨by simp [cd], ⟨?_, by simp, ddc.ar, ddc.de⟩, fun x => absurd x cd⟩
            have := (foldS_ok (ws := D.counted.waits) d.ok.counted.k64 (fun w hw => (d.ok.counted.w w hw).2)).1
            simp only [this]
            exact ddc.kl
        obtain ⟨he, hdd, hws⟩ := hd6
        rw [he]
        exact dies_round (w := D.waits.length) hn hjm c hl hkj wf6 d6 hdd (fun g hgm => hg g (n6 g hgm)) k06 hws s0 s1 s7 s9 s10 rfl (by split <;> rfl) (fun s h x => x)
    · have c' : ¬ (j : Int) < (al.length : Int) := by omega
      simp only [f5_r13, go_sem, ↓reduceIte, Nat.reduceEqDiff, s10, s1, tl.1, c', decide_false]
      refine WS_of_cond ?_
      simp only [go_sem, ↓reduceIte, Bool.false_eq_true]
      refine WS_of_exit ?_
      simp only [go_sem, ↓reduceIte]
      exact dies_tail wf4 (w := j) hn (by omega) (by omega) d dd s0 s7 s9
  · refine ⟨0, by omega, rfl, rfl, rfl, rfl, ⟨gs, _, 0, d3, ⟨?_, ?_, ?_, ?_⟩, Nat.le_refl _, rfl, hg2⟩, k2.trans (k3.old wf2 k2.n hg2)⟩
    · simp [Dk.arm, Dk.new]
    · simp [Dk.arm, Dk.new]
    · simp [Dk.arm, Dk.new]
    · have : decide (n ≤ 0) = false := by simp; omega
      rw [this]
      rfl
end Go.Proofs.Ytmfbememiffkjaa.Ev.C
