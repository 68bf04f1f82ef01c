/- A reader of bytes: texts of it, walked. -/
import Derived.Test.YthhibhhpcjggnabTReader2
namespace Go.Proofs.Ythhibhhpcjggnab.Ev.C
open Go Go.Proofs.Ythhibhhpcjggnab.Ev
set_option linter.unusedSimpArgs false
set_option linter.unusedVariables false
theorem rNum_len (s : RS) : (rNum s).2.1.length ≤ s.1.length := by
  unfold rNum
  split
  · exact Nat.le_refl _
  · split
    · exact Nat.le_refl _
    · simp
theorem rNum_big (s : RS) : (rNum s).1 < 18446744073709551616 := by
  unfold rNum
  split
  · simp
  · rename_i h1
    split
    · simp
    · rename_i h2; exact (takeB_ok s.1 (by simpa using h2)).2.1
theorem rText_len (s : RS) : (rText s).2.1.length ≤ s.1.length := by
  have := rNum_len s
  unfold rText
  split
  · exact this
  · split
    · exact this
    · simp only [List.length_drop]; omega
theorem AV.one_of_len {v : AV} {n : Nat} (h : lenSA v = some n) : v.one = true ∧ v.cells = [v] := by
  cases v <;> first | exact ⟨rfl, rfl⟩ | cases h
/-- what a reader holds is cut -/
theorem Rd.cut {h h3 : H} {r : Nat} {s : RS} (wf : h.Wf) (a : Rd h r s) {v : AV} (b : Box r [v, .int .i64 (s.2 : Int)] h) (c : Bytes h v s.1) (d : Slot (Old r) h v) {k : Nat} (hk : k ≤ s.1.length) (kd : IntKind) :
    ∃ w h', sliceSA 1 (some (.int kd (k : Int))) none v = some w ∧ storeA h 1 (.ptr r 0) w = some h' ∧ Rd h' r (s.1.drop k, s.2) ∧ KeepA [r] h h' := by
  obtain ⟨w, ew, bw, sw⟩ := Bytes.drop c hk kd
  obtain ⟨w1, wc⟩ := AV.one_of_len bw.len
  obtain ⟨h3, e3, b3, k3⟩ := b.put wf (i := 0) (n := 1) (v := w) (by rw [wc]; rfl) (by rw [wc]; simp [w1]) (by simp)
  rw [wc] at b3
  have ko := KeepA.box k3 wf (Nat.le_of_lt (b.lt wf))
  exact ⟨w, h3, ew, e3, ⟨w, b3, bw.keep ko (sw _ d), (sw _ d).keep ko fun o ho => ho⟩, k3⟩

/-- Text -/
theorem text_spec {h : H} {r : Nat} {s : RS} (wf : h.Wf) (a : Rd h r s) (hl : s.1.length < 4294967296) :
    WCall E0 24 [.ptr r 0] h fun x h' => x = .val (.str (rText s).1) ∧ Rd h' r (rText s).2 ∧ KeepA [r] h h' := by
  refine WCall_ws rfl T24 (by simp [f24_a]) ?_
  show WS E0 f24_c [] _ _ _
  refine WS_of_seq (WS_of_ops ?_)
  simp only [f24_r0, go_sem, ↓reduceIte]
  refine WS_of_seq (WS_of_ops ?_)
  simp only [f24_r1, go_sem, ↓reduceIte, Nat.reduceEqDiff]
  refine (num_spec wf a hl).mono ?_
  rintro x h1 ⟨rfl, a1, k1⟩
  have wf1 := k1.wf wf
  have hb := rNum_big s
  have hl1 := rNum_len s
  simp only [go_sem, ↓reduceIte, Nat.reduceEqDiff]
  refine WS_of_seq (WS_of_seq (WS_of_ops ?_))
  have e0 : rText s = if (rNum s).2.2 ≠ 0 then ([], (rNum s).2) else if (rNum s).2.1.length < (rNum s).1 then ([], ((rNum s).2.1, 10)) else ((rNum s).2.1.take (rNum s).1, ((rNum s).2.1.drop (rNum s).1, 0)) := rfl
  simp only [f24_r2, go_sem, ↓reduceIte, Nat.reduceEqDiff]
  refine (err_spec a1).mono ?_
  rintro x h' ⟨rfl, rfl⟩
  by_cases c1 : (rNum s).2.2 = 0
  case neg =>
    have c1' : ¬ ((rNum s).2.2 : Int) = 0 := by omega
    simp only [go_sem, ↓reduceIte, Nat.reduceEqDiff, c1', decide_false, Bool.not_false, Bool.true_eq_false]
    refine WS_of_cond ?_
    simp only [go_sem, ↓reduceIte, Nat.reduceEqDiff]
    refine WS_of_seq (WS_of_ops ?_)
    simp only [f24_r3, go_sem, ↓reduceIte, Nat.reduceEqDiff]
    refine WS_of_ret ?_
    rw [if_pos c1] at e0
    simp only [go_sem, f24_a, ↓reduceIte, Nat.reduceEqDiff, e0]
    exact ⟨trivial, a1, k1⟩
  have c1' : ((rNum s).2.2 : Int) = 0 := by omega
  have a2 := a1
  obtain ⟨v, b, c, d⟩ := a2
  have ew : IntKind.u64.wrap ((rNum s).2.1.length : Int) = ((rNum s).2.1.length : Int) := wrap_u64 (by omega) (by omega)
  have ei : decide (((rNum s).2.1.length : Int) < ((rNum s).1 : Int)) = decide ((rNum s).2.1.length < (rNum s).1) := by simp
  simp only [go_sem, ↓reduceIte, Nat.reduceEqDiff, c1', decide_true, Bool.not_true, Nat.zero_add, b.load, c.len, ew, ei]
  refine (fails_spec wf1 a1 (decide ((rNum s).2.1.length < (rNum s).1)) 10 (by simp)).mono ?_
  rintro x h2 ⟨rfl, r2, k2⟩
  have wf2 := k2.wf wf1
  have k12 := KeepA.then wf k1 k2 fun g hg => .inl hg
  simp only [go_sem, ↓reduceIte, Nat.reduceEqDiff, Bool.false_eq_true]
  refine WS_of_cond ?_
  simp only [go_sem, ↓reduceIte, Nat.reduceEqDiff]
  rw [if_neg (by simpa using c1)] at e0
  by_cases c2 : (rNum s).2.1.length < (rNum s).1
  · simp only [c1, c2, ne_eq, not_true_eq_false, decide_true, or_true, ↓reduceIte, and_self] at r2 ⊢
    refine WS_of_seq (WS_of_ops ?_)
    simp only [f24_r3, go_sem, ↓reduceIte, Nat.reduceEqDiff]
    refine WS_of_ret ?_
    rw [if_pos c2] at e0
    simp only [go_sem, f24_a, ↓reduceIte, Nat.reduceEqDiff, e0]
    exact ⟨trivial, r2, k12⟩
  simp only [c1, c2, ne_eq, not_true_eq_false, decide_false, Bool.false_eq_true, or_false, and_false, ↓reduceIte] at r2 ⊢
  refine WS_of_skip ?_
  simp only [go_sem]
  rw [if_neg c2] at e0
  have r3 := r2
  obtain ⟨v', b', c', d'⟩ := r3
  have hle : (rNum s).1 ≤ (rNum s).2.1.length := by omega
  obtain ⟨w, ew2, bw, sw⟩ := Bytes.take c' hle .u64
  refine WS_of_seq (WS_of_ops ?_)
  simp only [f24_r4, go_sem, ↓reduceIte, Nat.reduceEqDiff, Nat.zero_add, b'.load, ew2, bw.str]
  obtain ⟨w3, h3, e3, e4, r4, k4⟩ := Rd.cut (h3 := h2) wf2 r2 b' c' d' hle .u64
  refine WS_of_seq (WS_of_ops ?_)
  simp only [f24_r5, go_sem, ↓reduceIte, Nat.reduceEqDiff, Nat.zero_add, b'.load, e3, e4]
  refine WS_of_seq (WS_of_ops ?_)
  simp only [f24_r6, go_sem, ↓reduceIte, Nat.reduceEqDiff]
  refine WS_of_ret ?_
  simp only [go_sem, f24_a, ↓reduceIte, Nat.reduceEqDiff, e0]
  exact ⟨trivial, r4, KeepA.then wf k12 k4 fun g hg => .inl hg⟩
end Go.Proofs.Ythhibhhpcjggnab.Ev.C
