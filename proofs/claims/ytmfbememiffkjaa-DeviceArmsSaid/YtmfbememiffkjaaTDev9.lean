/- No disk at all; the plain answers, one by one. -/
import Derived.Test.YtmfbememiffkjaaTDev8
namespace Go.Proofs.Ytmfbememiffkjaa.Ev.C
open Go Go.Proofs.Ytmfbememiffkjaa.Ev
set_option linter.unusedSimpArgs false
set_option linter.unusedVariables false
theorem Dk.write_bad {D : Dk} {i : Int} {b : Sec} (h : D.has i = false ∨ 64 < b.length) : D.write i b = (D, 1) := by
  unfold Dk.write; rw [if_pos h]
theorem Dk.write_dead {D : Dk} {i : Int} {b : Sec} (h : D.has i = true) (hb : b.length ≤ 64) (hd : D.counted.dead = true) : D.write i b = (D.counted, 20) := by
  unfold Dk.write; rw [if_neg (by rw [h]; simp; omega), if_pos hd]
theorem Dk.write_good {D : Dk} {i : Int} {b : Sec} (h : D.has i = true) (hb : b.length ≤ 64) (hd : D.counted.dead = false) : D.write i b = ({ D.counted with waits := D.waits ++ [(i.toNat, pad b)] }, 0) := by
  unfold Dk.write; rw [if_neg (by rw [h]; simp; omega), if_neg (by rw [hd]; simp), Dk.counted_waits]
theorem Dk.counted_dead {D : Dk} : D.counted.dead = if 0 < D.armed then decide (D.armed = 1) else D.dead := by
  unfold Dk.counted; split <;> rfl
theorem Dk.counted_armed {D : Dk} : D.counted.armed = D.armed - 1 := by
  unfold Dk.counted; split
  · rfl
  · omega
theorem Dk.counted_zero {D : Dk} (h : D.armed = 0) : D.counted = D := by
  unfold Dk.counted; rw [if_neg (by omega)]
theorem Bytes.none (h : H) : Bytes h .nils [] := Sl.nil h 1
theorem flush_nil {h : H} (wf : h.Wf) : WCall E0 19 [.nilp] h fun r h' => r = .val (.int .i64 1) ∧ Keep (Old h.n) h h' := by
  refine WCall_ws (ovn 19) U19 (by simp [f19_a]) ?_
  show WS E0 f19_c [] _ _ _
  refine WS_of_seq (WS_of_ops ?_)
  simp only [f19_r0, go_sem, ↓reduceIte]
  refine WS_of_seq (WS_of_block (WS_of_seq (WS_of_ops ?_)))
  simp only [f19_r1, go_sem, ↓reduceIte, Nat.reduceEqDiff]
  refine WS_of_cond ?_
  simp only [go_sem, ↓reduceIte, Bool.false_eq_true]
  refine WS_of_seq (WS_of_ops ?_)
  simp only [f19_r2, go_sem, ↓reduceIte, Nat.reduceEqDiff]
  refine WS_of_ret ?_
  simp only [f19_a, go_sem, ↓reduceIte]
  exact ⟨trivial, Keep.refl _ _⟩
theorem write_nil {h : H} (wf : h.Wf) (i : Int) {v : AV} {bs : List UInt8} (b : Bytes h v bs) : WCall E0 17 [.nilp, .int .i64 i, v] h fun r h' => r = .val (.int .i64 1) ∧ Keep (Old h.n) h h' := by
  refine WCall_ws (ovn 17) U17 (by simp [f17_a]) ?_
  show WS E0 f17_c [] _ _ _
  refine WS_of_seq (WS_of_ops ?_)
  simp only [f17_r0, go_sem, ↓reduceIte]
  refine WS_of_seq (WS_of_block (WS_of_seq (WS_of_ops ?_)))
  simp only [f17_r1, go_sem, ↓reduceIte, Nat.reduceEqDiff]
  refine (is_nil i).mono ?_
  rintro r h' ⟨rfl, rfl⟩
  simp only [go_sem, ↓reduceIte, Nat.reduceEqDiff, Bool.not_false, Bool.true_eq_false]
  refine WS_of_cond ?_
  simp only [go_sem, ↓reduceIte]
  refine WS_of_seq (WS_of_ops ?_)
  simp only [f17_r2, go_sem, ↓reduceIte, Nat.reduceEqDiff]
  refine WS_of_ret ?_
  simp only [f17_a, go_sem, ↓reduceIte]
  exact ⟨trivial, Keep.refl _ _⟩
theorem restart_nil {h : H} (wf : h.Wf) (v : AV) : WCall E0 24 [.nilp, v] h fun r h' => r = .val .nilp ∧ Keep (Old h.n) h h' := by
  refine WCall_ws (ovn 24) U24 (by simp [f24_a]) ?_
  show WS E0 f24_c [] _ _ _
  refine WS_of_seq (WS_of_ops ?_)
  simp only [f24_r0, go_sem, ↓reduceIte]
  refine WS_of_seq (WS_of_seq (WS_of_ops ?_))
  simp only [f24_r1, go_sem, ↓reduceIte, Nat.reduceEqDiff]
  refine WS_of_cond ?_
  simp only [go_sem, ↓reduceIte, Bool.false_eq_true]
  refine WS_of_seq (WS_of_ops ?_)
  simp only [f24_r2, go_sem, ↓reduceIte, Nat.reduceEqDiff]
  refine WS_of_ret ?_
  simp only [f24_a, go_sem, ↓reduceIte]
  exact ⟨trivial, Keep.refl _ _⟩
end Go.Proofs.Ytmfbememiffkjaa.Ev.C
