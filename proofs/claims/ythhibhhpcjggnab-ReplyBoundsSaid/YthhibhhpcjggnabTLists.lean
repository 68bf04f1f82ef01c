/- Texts and lists as bytes: fields.Texts and fields.Lists, walked. -/
import Derived.Test.YthhibhhpcjggnabTRdr
namespace Go.Proofs.Ythhibhhpcjggnab.Ev.C
open Go Go.Proofs.Ythhibhhpcjggnab.Ev
set_option linter.unusedSimpArgs false
set_option linter.unusedVariables false
/-- a text's bytes -/
def txt (t : List UInt8) : List UInt8 := num t.length ++ t
def txts (l : List (List UInt8)) : List UInt8 := l.flatMap txt
def lst (l : List (List UInt8)) : List UInt8 := num l.length ++ txts l
theorem num_len9 {x : Nat} (hx : x < 18446744073709551616) : (num x).length ≤ 9 := by
  rw [num_length]; have := nb_le8 hx; omega
theorem txt_len {t : List UInt8} (ht : t.length ≤ 1000000) : (txt t).length ≤ t.length + 9 := by
  have := num_len9 (x := t.length) (by omega)
  simp only [txt, List.length_append]; omega
theorem txts_len {l : List (List UInt8)} {M : Nat} (hM : M ≤ 1000000) (hl : ∀ t ∈ l, t.length ≤ M) : (txts l).length ≤ (M + 9) * l.length := by
  induction l with
  | nil => simp [txts]
  | cons t l ih =>
    have h1 := txt_len (t := t) (by have := hl t (by simp); omega)
    have h2 := hl t (by simp)
    have h3 := ih fun t ht => hl t (by simp [ht])
    simp only [txts, List.flatMap_cons, List.length_append, List.length_cons] at h3 ⊢
    rw [Nat.mul_add, Nat.mul_one]
    omega
theorem txts_take {l : List (List UInt8)} {j : Nat} (hj : j < l.length) : txts (l.take (j + 1)) = txts (l.take j) ++ txt l[j] := by
  rw [txts, List.take_add_one, List.getElem?_eq_getElem hj, List.flatMap_append]
  simp [txts]
/-- Texts -/
theorem texts_spec {h : H} {v : AV} {l : List (List UInt8)} {M : Nat} (wf : h.Wf) (b : Strs h v l) (sl : Slot (Old h.n) h v) (hM : M ≤ 1000000) (hl : ∀ t ∈ l, t.length ≤ M) (hbig : (M + 9) * l.length ≤ 4000000000) :
    WCall E0 17 [v] h fun x h' => ∃ w, x = .val w ∧ Bytes h' w (txts l) ∧ Own h.n h' w ∧ Keep (Old h.n) h h' := by
  refine WCall_ws rfl T17 (by simp [f17_a]) ?_
  show WS E0 f17_c [] _ _ _
  refine WS_of_seq (WS_of_ops ?_)
  simp only [f17_r0, go_sem, ↓reduceIte]
  refine WS_of_seq (WS_of_ops ?_)
  simp only [f17_r1, go_sem, ↓reduceIte]
  refine WS_of_seq (WS_of_seq (WS_of_ops ?_))
  simp only [f17_r2, go_sem, ↓reduceIte, Nat.reduceEqDiff, b.len]
  have hll : l.length ≤ 4000000000 := by
    have : 1 * l.length ≤ (M + 9) * l.length := Nat.mul_le_mul_right _ (by omega)
    omega
  refine WS_of_block (WS_of_loop (fun m s1 h1 => ∃ j, m = l.length - j ∧ j ≤ l.length ∧ Bytes h1 (s1 3) (txts (l.take j)) ∧ Own h.n h1 (s1 3) ∧ Keep (Old h.n) h h1 ∧
    s1 6 = v ∧ s1 7 = .int .i64 (l.length : Nat) ∧ s1 8 = .int .i64 (j : Nat)) ?_ l.length ?_)
  · rintro m s1 h1 ⟨j, rfl, hj, q3, qo, qk, q6, q7, q8⟩
    have wf1 := qk.wf wf
    show WS E0 f17_l7 _ _ _ _
    refine WS_of_seq (WS_of_ops ?_)
    simp only [f17_r3, go_sem, ↓reduceIte, Nat.reduceEqDiff, q7, q8]
    refine WS_of_seq (WS_of_cond ?_)
    simp only [go_sem, ↓reduceIte]
    by_cases hjl : j < l.length
    · have e1 : (j : Int) < (l.length : Int) := by omega
      simp only [e1, decide_true, ↓reduceIte]
      refine WS_of_skip ?_
      simp only [go_sem]
      have hx := hl l[j] (List.getElem_mem hjl)
      obtain ⟨p, p1, p2⟩ := (b.keep qk sl).at hjl .i64
      refine WS_of_seq (WS_of_block (WS_of_seq (WS_of_ops ?_)))
      simp only [f17_r4, go_sem, ↓reduceIte, Nat.reduceEqDiff, q6, q8, p1, p2]
      refine WS_of_ops ?_
      have ew : IntKind.u64.wrap (l[j].length : Int) = (l[j].length : Int) := wrap_u64 (by omega) (by omega)
      simp only [f17_r5, go_sem, ↓reduceIte, Nat.reduceEqDiff, ew]
      refine put_one wf1 (by omega) fun v2 h2 b2 o2 k2 => ?_
      have wf2 := k2.wf wf1
      have sl1 := qo.slot wf1
      have nh2 : h.n ≤ h2.n := Nat.le_trans qk.n k2.n
      have tl := txts_len (l := l.take j) hM (fun t ht => hl t (List.mem_of_mem_take ht))
      have tl2 : (M + 9) * (l.take j).length ≤ (M + 9) * l.length := Nat.mul_le_mul_left _ (by rw [List.length_take]; omega)
      have tl3 : (M + 9) * (l.take j).length + (M + 9) ≤ (M + 9) * l.length := by
        rw [← Nat.mul_succ]; exact Nat.mul_le_mul_left _ (by rw [List.length_take]; omega)
      have nl := num_len9 (x := l[j].length) (by omega)
      obtain ⟨v3, h3, e3, b3, o3, k3⟩ := (q3.keep k2 sl1).app wf2 nh2 (qo.keep sl1 k2) b2 (by omega)
      have wf3 := k3.wf wf2
      obtain ⟨v4, h4, e4, b4, o4, k4⟩ := b3.app_str (t := l[j]) wf3 (Nat.le_trans nh2 k3.n) o3 (by simp only [List.length_append]; omega)
      simp only [go_sem, ↓reduceIte, Nat.reduceEqDiff, e3, e4]
      refine WS_of_ops ?_
      have e9 : IntKind.i64.wrap ((j : Int) + 1) = ((j + 1 : Nat) : Int) := by rw [wrap_i64 (by omega) (by omega)]; omega
      simp only [f17_r6, go_sem, ↓reduceIte, Nat.reduceEqDiff, q8, e9]
      refine ⟨l.length - (j + 1), by omega, j + 1, rfl, by omega, ?_, o4, ?_, q6, q7, rfl⟩
      · rw [txts_take hjl, txt, ← List.append_assoc]; exact b4
      · exact ((qk.trans (k2.less qk.n)).trans k3).trans k4
    · have hje : j = l.length := by omega
      subst hje
      simp only [Int.lt_irrefl, decide_false, Bool.false_eq_true, ↓reduceIte]
      refine WS_of_exit ?_
      simp only [go_sem, ↓reduceIte]
      refine WS_of_seq (WS_of_ops ?_)
      simp only [f17_r8, go_sem, ↓reduceIte, Nat.reduceEqDiff]
      refine WS_of_ret ?_
      simp only [go_sem, f17_a, ↓reduceIte, Nat.reduceEqDiff]
      exact ⟨_, rfl, by simpa using q3, qo, qk⟩
  · refine ⟨0, rfl, by omega, ?_, ?_, Keep.refl _ _, ?_, ?_, ?_⟩
    · simp only [go_sem, ↓reduceIte, Nat.reduceEqDiff]; exact Bytes.nil _
    · simp only [go_sem, ↓reduceIte, Nat.reduceEqDiff]; trivial
    · simp only [go_sem, ↓reduceIte, Nat.reduceEqDiff]
    · simp only [go_sem, ↓reduceIte, Nat.reduceEqDiff]
    · simp only [go_sem, ↓reduceIte, Nat.reduceEqDiff]; rfl
/-- Lists -/
theorem lists_spec {h : H} {v : AV} {l : List (List UInt8)} {M : Nat} (wf : h.Wf) (b : Strs h v l) (sl : Slot (Old h.n) h v) (hM : M ≤ 1000000) (hl : ∀ t ∈ l, t.length ≤ M) (hbig : (M + 9) * l.length ≤ 4000000000) :
    WCall E0 19 [v] h fun x h' => ∃ w, x = .val w ∧ Bytes h' w (lst l) ∧ Own h.n h' w ∧ Keep (Old h.n) h h' := by
  refine WCall_ws rfl T19 (by simp [f19_a]) ?_
  show WS E0 f19_c [] _ _ _
  refine WS_of_seq (WS_of_ops ?_)
  simp only [f19_r0, go_sem, ↓reduceIte]
  refine WS_of_seq (WS_of_ops ?_)
  have hll : l.length ≤ 4000000000 := by
    have : 1 * l.length ≤ (M + 9) * l.length := Nat.mul_le_mul_right _ (by omega)
    omega
  have ew : IntKind.u64.wrap (l.length : Int) = (l.length : Int) := wrap_u64 (by omega) (by omega)
  simp only [f19_r1, go_sem, ↓reduceIte, Nat.reduceEqDiff, b.len, ew]
  refine put_one wf (by omega) fun v1 h1 b1 o1 k1 => ?_
  have wf1 := k1.wf wf
  simp only [go_sem, ↓reduceIte, Nat.reduceEqDiff]
  refine (texts_spec wf1 (b.keep k1 sl) (sl.keep k1 fun o ho => Nat.lt_of_lt_of_le ho k1.n) hM hl hbig).mono ?_
  rintro x h2 ⟨w, rfl, b2, o2, k2⟩
  have wf2 := k2.wf wf1
  have sl1 := o1.slot wf1
  have tl := txts_len hM hl
  have nl := num_len9 (x := l.length) (by omega)
  obtain ⟨v3, h3, e3, b3, o3, k3⟩ := (b1.keep k2 sl1).app wf2 (Nat.le_trans k1.n k2.n) (o1.keep sl1 k2) b2 (by omega)
  simp only [go_sem, ↓reduceIte, Nat.reduceEqDiff, e3]
  refine WS_of_ret ?_
  simp only [go_sem, f19_a, ↓reduceIte, Nat.reduceEqDiff]
  exact ⟨_, rfl, b3, o3, (k1.then (Nat.le_refl _) k2).trans k3⟩
end Go.Proofs.Ythhibhhpcjggnab.Ev.C
