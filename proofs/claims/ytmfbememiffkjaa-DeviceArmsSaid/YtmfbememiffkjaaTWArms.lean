/- The law DeviceArms, walked. -/
import Derived.Test.YtmfbememiffkjaaTDev9
namespace Go.Proofs.Ytmfbememiffkjaa.Ev.C
open Go Go.Proofs.Ytmfbememiffkjaa.Ev
set_option linter.unusedSimpArgs false
set_option linter.unusedVariables false
/-- a disk of two sectors that counts -/
structure Arm2 (h : H) (o w a : Nat) (dd : Bool) : Prop where
  ex : ∃ D gs, DiskAt h o gs D ∧ D.kept.length = 2 ∧ D.waits.length = w ∧ D.armed = a ∧ D.dead = dd
def ArmsI (o k : Nat) : Nat → S → H → Prop := fun m s h2 => ∃ j, j + m = k ∧ 1 ≤ j ∧ s 9 = .int .i64 (j : Int) ∧ s 8 = .int .i64 (k : Int) ∧ s 6 = .ptr o 0 ∧ Arm2 h2 o (j - 1) (k + 1 - j) false ∧ h2.Wf
theorem Arm2.arm {h : H} (wf : h.Wf) {o w a : Nat} (A : Arm2 h o w a false) (x : Nat) (hx : x < 1000000) : WCall E0 21 [.ptr o 0, .int .i64 (x : Int)] h fun r h' => r = .val (.tup []) ∧ Arm2 h' o w x false ∧ h'.Wf := by
  obtain ⟨D, gs, d, e1, e2, e3, e4⟩ := A
  refine (arm_spec wf d (x : Int) (by omega)).mono ?_
  rintro r h1 ⟨rfl, d1, k1⟩
  refine ⟨rfl, ⟨_, gs, d1, ?_⟩, k1.wf wf⟩
  simp [Dk.arm, e4, e1, e2]
theorem arms_tail {h : H} {s : S} (wf : h.Wf) {o a k : Nat} (hk : 2 ≤ k) (hk2 : k < 1000) (A : Arm2 h o 0 a false) (s6 : s 6 = .ptr o 0) (s8 : s 8 = .int .i64 (k : Int)) :
    WS E0 (.seq (.ops f7_r11) (.seq (.seq (.ops f7_r12) (.block 0 (.loop f7_l17))) (.seq (.ops f7_r18) (.seq (.ops f7_r19) (.seq (.ops f7_r20) .ret))))) [] (atEnd f7_a.results fun r _ => r = .val (.bool true)) s h := by
  refine WS_of_seq (WS_of_ops ?_)
  simp only [f7_r11, go_sem, ↓reduceIte, Nat.reduceEqDiff, s6, s8]
  refine (A.arm wf k (by omega)).mono ?_
  rintro r h1 ⟨rfl, A1, wf1⟩
  simp only [go_sem, ↓reduceIte, Nat.reduceEqDiff]
  refine WS_of_seq (WS_of_seq (WS_of_ops ?_))
  simp only [f7_r12, go_sem, ↓reduceIte, Nat.reduceEqDiff]
  refine WS_of_block (WS_of_loop (ArmsI o k) ?_ (k - 1) ?_)
  · rintro m s h2 ⟨j, hjm, hj1, s9, s8, s6, ⟨D, gs, d, e1, e2, e3, e4⟩, wf2⟩
    show WS E0 f7_l17 [] _ _ _
    refine WS_of_seq (WS_of_seq (WS_of_ops ?_))
    by_cases c : j < k
    · have c' : (j : Int) < (k : Int) := by omega
      simp only [f7_r13, go_sem, ↓reduceIte, Nat.reduceEqDiff, s9, s8, c', decide_true]
      refine WS_of_cond ?_
      simp only [go_sem, ↓reduceIte]
      refine WS_of_skip ?_
      simp only [go_sem]
      refine WS_of_seq (WS_of_block (WS_of_seq (WS_of_ops ?_)))
      simp only [f7_r14, go_sem, ↓reduceIte, Nat.reduceEqDiff, s6]
      refine (write_spec wf2 d 5 (v := .nils) (bs := []) (Bytes.none _) trivial (by omega)).mono ?_
      rintro r h3 ⟨gs3, rfl, d3, k3, n3⟩
      have wf3 := k3.wf wf2
      have hb : D.write 5 [] = (D, 1) := Dk.write_bad (.inl (by simp [Dk.has, e1]))
      rw [hb] at d3 ⊢
      simp only [go_sem, ↓reduceIte, Nat.reduceEqDiff, s6, (by decide : ((1 : Nat) : Int) = 1), decide_true, Bool.not_true]
      refine (write_spec wf3 d3 0 (v := .nils) (bs := []) (Bytes.none _) trivial (by show D.waits.length < _; omega)).mono ?_
      rintro r h4 ⟨gs4, rfl, d4, k4, n4⟩
      have wf4 := k4.wf wf3
      have hcd : D.counted.dead = false := by rw [Dk.counted_dead, if_pos (by omega), decide_eq_false]; omega
      have hg : D.write 0 [] = ({ D.counted with waits := D.waits ++ [((0 : Int).toNat, pad [])] }, 0) := Dk.write_good (by simp [Dk.has, e1]) (by simp) hcd
      rw [hg] at d4 ⊢
      simp only [go_sem, ↓reduceIte, Nat.reduceEqDiff, s6, (by decide : ((0 : Nat) : Int) = 0), decide_true, Bool.not_true, Bool.false_eq_true]
      refine (dead_spec d4).mono ?_
      rintro r h5 ⟨rfl, rfl⟩
      simp only [go_sem, ↓reduceIte, Nat.reduceEqDiff, hcd]
      refine WS_of_cond ?_
      simp only [go_sem, ↓reduceIte, Bool.false_eq_true]
      refine WS_of_skip ?_
      simp only [go_sem]
      refine WS_of_ops ?_
      have hw : IntKind.i64.wrap ((j : Int) + 1) = ((j + 1 : Nat) : Int) := by rw [wrap_i64 (by omega) (by omega)]; omega
      simp only [f7_r16, go_sem, ↓reduceIte, Nat.reduceEqDiff, s9, hw]
      refine ⟨m - 1, by omega, j + 1, by omega, by omega, rfl, s8, s6, ⟨_, gs4, d4, ?_, ?_, ?_, ?_⟩, wf4⟩
      · rw [Dk.counted_kept]; exact e1
      · simp [e2]; omega
      · simp only [Dk.counted_armed, e3]; omega
      · exact hcd
    · have c' : ¬ (j : Int) < (k : Int) := by omega
      simp only [f7_r13, go_sem, ↓reduceIte, Nat.reduceEqDiff, s9, s8, c', decide_false]
      refine WS_of_cond ?_
      simp only [go_sem, ↓reduceIte, Bool.false_eq_true]
      refine WS_of_exit ?_
      simp only [go_sem, ↓reduceIte]
      obtain rfl : j = k := by omega
      have e3' : D.armed = 1 := by omega
      refine WS_of_seq (WS_of_ops ?_)
      simp only [f7_r18, go_sem, ↓reduceIte, Nat.reduceEqDiff, s6]
      refine (flush_spec wf2 d (by omega)).mono ?_
      rintro r h3 ⟨gs3, rfl, d3, k3, n3⟩
      have wf3 := k3.wf wf2
      have hcd : D.counted.dead = true := by rw [Dk.counted_dead, if_pos (by omega), e3']; rfl
      have hf : D.flush = (D.counted, 20) := by unfold Dk.flush; rw [if_pos hcd]
      rw [hf] at d3 ⊢
      simp only [go_sem, ↓reduceIte, Nat.reduceEqDiff]
      refine WS_of_seq (WS_of_ops ?_)
      simp only [f7_r19, go_sem, ↓reduceIte, Nat.reduceEqDiff, s6]
      refine (arm_spec wf3 d3 0 (by omega)).mono ?_
      rintro r h4 ⟨rfl, d4, k4⟩
      have wf4 := k4.wf wf3
      have hD4 : D.counted.arm 0 = D.counted := by unfold Dk.arm; rw [if_pos hcd]
      rw [hD4] at d4
      simp only [go_sem, ↓reduceIte, Nat.reduceEqDiff]
      refine WS_of_seq (WS_of_ops ?_)
      simp only [f7_r20, go_sem, ↓reduceIte, Nat.reduceEqDiff, s6, (by decide : ((20 : Nat) : Int) = 20), decide_true]
      refine (dead_spec d4).mono ?_
      rintro r h5 ⟨rfl, rfl⟩
      simp only [go_sem, ↓reduceIte, Nat.reduceEqDiff, hcd, s6]
      have hwl : D.counted.waits.length = j - 1 := by rw [Dk.counted_waits]; exact e2
      refine (flush_spec wf4 d4 (by omega)).mono ?_
      rintro r h6 ⟨gs6, rfl, d6, k6, n6⟩
      have wf6 := k6.wf wf4
      have hca : D.counted.armed = 0 := by rw [Dk.counted_armed]; omega
      have hcc : D.counted.counted = D.counted := Dk.counted_zero hca
      have hf2 : D.counted.flush = (D.counted, 20) := by unfold Dk.flush; rw [hcc, if_pos hcd]
      rw [hf2] at d6 ⊢
      have hwj : IntKind.i64.wrap ((j : Int) - 1) = ((j - 1 : Nat) : Int) := by rw [wrap_i64 (by omega) (by omega)]; omega
      simp only [go_sem, ↓reduceIte, Nat.reduceEqDiff, (by decide : ((20 : Nat) : Int) = 20), decide_true, s6]
      refine (waiting_spec d6).mono ?_
      rintro r h7 ⟨rfl, rfl⟩
      simp only [go_sem, ↓reduceIte, Nat.reduceEqDiff, hwl, s8, s6, hwj, decide_true]
      refine (restart_spec wf6 d6 (kv := .nils) (bs := []) (Sl.nil _ _) trivial (by show D.counted.waits.length < _; omega) (by simp)).mono ?_
      rintro r h8 ⟨o8, gs8, rfl, d8, k8, n8⟩
      simp only [go_sem, ↓reduceIte, Nat.reduceEqDiff]
      refine (dead_spec d8).mono ?_
      rintro r h9 ⟨rfl, rfl⟩
      have hrd : (D.counted.restart []).dead = false := rfl
      simp only [go_sem, ↓reduceIte, Nat.reduceEqDiff, hrd, Bool.not_false]
      refine WS_of_ret ?_
      simp only [f7_a, go_sem, ↓reduceIte, Nat.reduceEqDiff]
  · exact ⟨1, by omega, by omega, rfl, s8, s6, by simpa using A1, wf1⟩
theorem arms_answer {h : H} (wf : h.Wf) {a n : Nat} (ha : a < 256) (hn : n < 256) : WCall E0 7 [.int .u8 (a : Int), .int .u8 (n : Int)] h fun r _ => r = .val (.bool true) := by
  refine WCall_ws (ovn 7) U7 (by simp [f7_a]) ?_
  show WS E0 f7_c [] _ _ _
  refine WS_of_seq (WS_of_ops ?_)
  simp only [f7_r0, go_sem, ↓reduceIte]
  refine WS_of_seq (WS_of_ops ?_)
  simp only [f7_r1, go_sem, ↓reduceIte, Nat.reduceEqDiff]
  refine WCall_ov (g := yes) rfl rfl ?_
  simp only [go_sem, ↓reduceIte, Nat.reduceEqDiff]
  refine WS_of_seq (WS_of_seq (WS_of_ops ?_))
  simp only [f7_r2, go_sem, ↓reduceIte, Nat.reduceEqDiff]
  refine WS_of_cond ?_
  simp only [go_sem, ↓reduceIte, Nat.reduceEqDiff, Bool.not_true, Bool.false_eq_true]
  refine WS_of_skip ?_
  simp only [go_sem]
  refine WS_of_seq (WS_of_ops ?_)
  simp only [f7_r4, go_sem, ↓reduceIte, Nat.reduceEqDiff]
  refine (new_spec wf (n := 2) (by omega) (by omega)).mono ?_
  rintro r h1 ⟨o, gs, rfl, d1, k1, -⟩
  have wf1 := k1.wf wf
  simp only [go_sem, ↓reduceIte, Nat.reduceEqDiff, List.getElem?_cons_zero, List.getElem?_cons_succ]
  refine WS_of_seq (WS_of_seq (WS_of_ops ?_))
  simp only [f7_r5, go_sem, ↓reduceIte, Nat.reduceEqDiff, decide_true, Bool.not_true]
  refine WS_of_cond ?_
  simp only [go_sem, ↓reduceIte, Nat.reduceEqDiff, Bool.false_eq_true]
  refine WS_of_skip ?_
  simp only [go_sem]
  refine WS_of_seq (WS_of_ops ?_)
  have hw1 : IntKind.i64.wrap (n : Int) = (n : Int) := wrap_i64 (by omega) (by omega)
  have hm1 : Int.tmod (n : Int) 9 = ((n % 9 : Nat) : Int) := by rw [Int.ofNat_tmod]; rfl
  have hw2 : IntKind.i64.wrap (((n % 9 : Nat) : Int) + 2) = ((n % 9 + 2 : Nat) : Int) := by rw [wrap_i64 (by omega) (by omega)]; omega
  simp only [f7_r7, go_sem, ↓reduceIte, Nat.reduceEqDiff, hw1, hm1, hw2, (by decide : ¬ (9 : Int) = 0)]
  have A1 : Arm2 h1 o 0 0 false := ⟨_, gs, d1, by simp [Dk.new], rfl, rfl, rfl⟩
  have hw3 : IntKind.i64.wrap (a : Int) = (a : Int) := wrap_i64 (by omega) (by omega)
  have hm3 : Int.tmod (a : Int) 3 = ((a % 3 : Nat) : Int) := by rw [Int.ofNat_tmod]; rfl
  refine WS_of_seq (WS_of_ops ?_)
  simp only [f7_r8, go_sem, ↓reduceIte, Nat.reduceEqDiff, hw3, hm3, (by decide : ¬ (3 : Int) = 0)]
  refine (A1.arm wf1 (a % 3) (by omega)).mono ?_
  rintro r h2 ⟨rfl, A2, wf2⟩
  simp only [go_sem, ↓reduceIte, Nat.reduceEqDiff]
  refine WS_of_seq (WS_of_seq (WS_of_ops ?_))
  simp only [f7_r9, go_sem, ↓reduceIte, Nat.reduceEqDiff, hw3, hm3, (by decide : ¬ (3 : Int) = 0)]
  refine WS_of_cond ?_
  by_cases c : ((a % 3 : Nat) : Int) = 1
  · simp only [go_sem, ↓reduceIte, Nat.reduceEqDiff, c, decide_true]
    refine WS_of_ops ?_
    simp only [f7_r10, go_sem, ↓reduceIte, Nat.reduceEqDiff]
    refine (A2.arm wf2 0 (by omega)).mono ?_
    rintro r h3 ⟨rfl, A3, wf3⟩
    simp only [go_sem, ↓reduceIte, Nat.reduceEqDiff]
    exact arms_tail wf3 (k := n % 9 + 2) (by omega) (by omega) A3 (by simp only [go_sem, ↓reduceIte, Nat.reduceEqDiff]) (by simp only [go_sem, ↓reduceIte, Nat.reduceEqDiff])
  · simp only [go_sem, ↓reduceIte, Nat.reduceEqDiff, c, decide_false, Bool.false_eq_true]
    refine WS_of_skip ?_
    simp only [go_sem]
    exact arms_tail wf2 (k := n % 9 + 2) (by omega) (by omega) A2 (by simp only [go_sem, ↓reduceIte, Nat.reduceEqDiff]) (by simp only [go_sem, ↓reduceIte, Nat.reduceEqDiff])
end Go.Proofs.Ytmfbememiffkjaa.Ev.C
