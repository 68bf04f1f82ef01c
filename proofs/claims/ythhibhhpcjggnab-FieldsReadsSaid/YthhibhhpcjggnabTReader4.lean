/- A reader of bytes: lists of it, walked. -/
import Derived.Test.YthhibhhpcjggnabTReader3
namespace Go.Proofs.Ythhibhhpcjggnab.Ev.C
open Go Go.Proofs.Ythhibhhpcjggnab.Ev
set_option linter.unusedSimpArgs false
set_option linter.unusedVariables false
theorem takeB_pos {bs : List UInt8} (h : (takeB bs).2.2 = 0) : 0 < (takeB bs).2.1 := by
  cases bs with
  | nil => cases h
  | cons c r =>
    revert h
    simp only [takeB]
    split
    · intro h; cases h
    · split
      · intro h; cases h
      · split
        · intro h; cases h
        · intro _; show 0 < 1 + c.toNat; omega
/-- a text that is read takes a byte at least -/
theorem rText_less {s : RS} (h : (rText s).2.2 = 0) : (rText s).2.1.length < s.1.length := by
  have hb := takeB_pos (bs := s.1)
  have hk := takeB_ok s.1
  unfold rText at h ⊢
  by_cases c1 : (rNum s).2.2 = 0
  case neg => rw [if_pos c1] at h; exact absurd h c1
  rw [if_neg (by simpa using c1)] at h ⊢
  have hlen : (rNum s).2.1.length < s.1.length := by
    unfold rNum at c1 ⊢
    by_cases q1 : s.2 = 0
    case neg => rw [if_pos q1] at c1; exact absurd c1 q1
    rw [if_neg (by simpa using q1)] at c1 ⊢
    by_cases q2 : (takeB s.1).2.2 = 0
    case neg => rw [if_pos q2] at c1; exact absurd c1 q2
    rw [if_neg (by simpa using q2)]
    have := hb q2
    have := (hk q2).2.2.1
    simp only [List.length_drop]; omega
  split at h
  · cases h
  · rename_i c2
    rw [if_neg c2]
    simp only [List.length_drop]; omega

/-- List -/
theorem list_spec {h : H} {r : Nat} {s : RS} {most : Int} (wf : h.Wf) (a : Rd h r s) (hl : s.1.length < 4294967295) (hm1 : -9223372036854775808 ≤ most) (hm2 : most < 9223372036854775808) :
    WCall E0 26 [.ptr r 0, .int .i64 most] h fun x h' => ∃ v, x = .val v ∧ Strs h' v (rList most s).1 ∧ Own h.n h' v ∧ Rd h' r (rList most s).2 ∧ KeepA [r] h h' := by
  refine WCall_ws rfl T26 (by simp [f26_a]) ?_
  show WS E0 f26_c [] _ _ _
  refine WS_of_seq (WS_of_ops ?_)
  simp only [f26_r0, go_sem, ↓reduceIte]
  refine WS_of_seq (WS_of_ops ?_)
  simp only [f26_r1, go_sem, ↓reduceIte, Nat.reduceEqDiff]
  refine (num_spec wf a (by omega)).mono ?_
  rintro x h1 ⟨rfl, a1, k1⟩
  have wf1 := k1.wf wf
  have hb := rNum_big s
  have hl1 := rNum_len s
  have hrn : r < h.n := by obtain ⟨v, b, c, d⟩ := a; exact b.lt wf
  have e0 : rList most s = if (rNum s).2.2 ≠ 0 then ([], (rNum s).2) else if max most 0 < ((rNum s).1 : Int) then ([], ((rNum s).2.1, 13)) else rTexts (rNum s).1 [] (rNum s).2 := rfl
  simp only [go_sem, ↓reduceIte, Nat.reduceEqDiff]
  refine WS_of_seq (WS_of_seq (WS_of_ops ?_))
  simp only [f26_r2, go_sem, ↓reduceIte, Nat.reduceEqDiff]
  refine (err_spec a1).mono ?_
  rintro x h' ⟨rfl, rfl⟩
  by_cases c1 : (rNum s).2.2 = 0
  case neg =>
    have c1' : ¬ ((rNum s).2.2 : Int) = 0 := by omega
    simp only [go_sem, ↓reduceIte, Nat.reduceEqDiff, c1', decide_false, Bool.not_false, Bool.true_eq_false]
    refine WS_of_cond ?_
    simp only [go_sem, ↓reduceIte, Nat.reduceEqDiff]
    refine WS_of_seq (WS_of_ops ?_)
    simp only [f26_r3, go_sem, ↓reduceIte, Nat.reduceEqDiff]
    refine WS_of_ret ?_
    rw [if_pos c1] at e0
    simp only [go_sem, f26_a, ↓reduceIte, Nat.reduceEqDiff, e0]
    exact ⟨_, rfl, Strs.nil _, trivial, a1, k1⟩
  have c1' : ((rNum s).2.2 : Int) = 0 := by omega
  rw [if_neg (by simpa using c1)] at e0
  have em : (if (0 : Int) > most then 0 else most) = max most 0 := by
    split <;> omega
  have ew : IntKind.u64.wrap (max most 0) = max most 0 := wrap_u64 (by omega) (by omega)
  simp only [go_sem, ↓reduceIte, Nat.reduceEqDiff, c1', decide_true, Bool.not_true, em, ew]
  refine (fails_spec wf1 a1 (decide (max most 0 < ((rNum s).1 : Int))) 13 (by simp)).mono ?_
  rintro x h2 ⟨rfl, r2, k2⟩
  have wf2 := k2.wf wf1
  have k12 := KeepA.then wf k1 k2 fun g hg => .inl hg
  simp only [go_sem, ↓reduceIte, Nat.reduceEqDiff, Bool.false_eq_true]
  refine WS_of_cond ?_
  simp only [go_sem, ↓reduceIte, Nat.reduceEqDiff]
  by_cases c2 : max most 0 < ((rNum s).1 : Int)
  · simp only [c1, c2, ne_eq, not_true_eq_false, decide_true, or_true, ↓reduceIte, and_self] at r2 ⊢
    refine WS_of_seq (WS_of_ops ?_)
    simp only [f26_r3, go_sem, ↓reduceIte, Nat.reduceEqDiff]
    refine WS_of_ret ?_
    rw [if_pos c2] at e0
    simp only [go_sem, f26_a, ↓reduceIte, Nat.reduceEqDiff, e0]
    exact ⟨_, rfl, Strs.nil _, trivial, r2, k12⟩
  rw [if_neg c2] at e0
  simp only [c1, c2, ne_eq, not_true_eq_false, decide_false, Bool.false_eq_true, or_false, and_false, ↓reduceIte] at r2 ⊢
  refine WS_of_skip ?_
  simp only [go_sem]
  refine WS_of_seq (WS_of_ops ?_)
  simp only [f26_r4, go_sem, ↓reduceIte, Nat.reduceEqDiff]
  refine WS_of_seq (WS_of_seq (WS_of_ops ?_))
  simp only [f26_r5, go_sem, ↓reduceIte, Nat.reduceEqDiff]
  have r2' : Rd h2 r (rNum s).2 := by rw [← c1] at r2; exact r2
  refine WS_of_block (WS_of_loop (fun m s1 h3 => ∃ i acc st, m = (rNum s).1 - i ∧ i ≤ (rNum s).1 ∧ rTexts ((rNum s).1 - i) acc st = rTexts (rNum s).1 [] (rNum s).2 ∧ acc.length + st.1.length ≤ (rNum s).2.1.length ∧
    Strs h3 (s1 6) acc ∧ Own h.n h3 (s1 6) ∧ Rd h3 r st ∧ st.2 = 0 ∧ KeepA [r] h h3 ∧ s1 0 = .ptr r 0 ∧ s1 21 = .int .u64 ((rNum s).1 : Int) ∧ s1 22 = .int .u64 (i : Int)) ?_ (rNum s).1 ?_)
  · rintro m s1 h3 ⟨i, acc, st, rfl, hi, he, hlen, q6, qo, qr, qe, qk, q0, q21, q22⟩
    have wf3 := qk.wf wf
    show WS E0 f26_l11 _ _ _ _
    refine WS_of_seq (WS_of_ops ?_)
    simp only [f26_r6, go_sem, ↓reduceIte, Nat.reduceEqDiff, q21, q22]
    refine WS_of_seq (WS_of_cond ?_)
    simp only [go_sem, ↓reduceIte]
    by_cases hil : i < (rNum s).1
    case neg =>
      have hie : i = (rNum s).1 := by omega
      subst hie
      simp only [Int.lt_irrefl, decide_false, Bool.false_eq_true, ↓reduceIte]
      refine WS_of_exit ?_
      simp only [go_sem, ↓reduceIte]
      refine WS_of_seq (WS_of_ops ?_)
      simp only [f26_r12, go_sem, ↓reduceIte, Nat.reduceEqDiff]
      refine WS_of_ret ?_
      rw [Nat.sub_self] at he
      simp only [go_sem, f26_a, ↓reduceIte, Nat.reduceEqDiff, e0, ← he]
      exact ⟨_, rfl, q6, qo, qr, qk⟩
    have hil' : (i : Int) < ((rNum s).1 : Int) := by omega
    simp only [hil', decide_true, ↓reduceIte]
    refine WS_of_skip ?_
    simp only [go_sem]
    refine WS_of_seq (WS_of_block (WS_of_seq (WS_of_ops ?_)))
    simp only [f26_r7, go_sem, ↓reduceIte, Nat.reduceEqDiff, q0]
    refine (text_spec wf3 qr (by omega)).mono ?_
    rintro x h4 ⟨rfl, r4, k4⟩
    have wf4 := k4.wf wf3
    have hroot : Root r h3 := by obtain ⟨v, b, c, d⟩ := qr; exact b.root
    have sl3 := qo.away wf3 (gs := [r]) (by simp; exact ⟨hrn, hroot⟩)
    have kn : Keep (Old h4.n) h4 (h4.new [AV.str (rText st).1]) := Keep.new (Nat.le_refl _) _
    have sl4 := (sl3.keepA k4).old
    obtain ⟨v5, h5, e5, b5, o5, k5⟩ := Strs.app (N := h.n) (kn.wf wf4) (Nat.le_trans (Nat.le_trans qk.n k4.n) kn.n) ((q6.keep k4 sl3).keep kn sl4) ((qo.keep sl3 k4).keep sl4 kn) (Strs.one wf4 (rText st).1) (by simp; omega)
    simp only [go_sem, ↓reduceIte, Nat.reduceEqDiff, e5]
    have nh4 : h.n ≤ h4.n := Nat.le_trans qk.n k4.n
    have kn5 : Keep (Old h.n) h4 h5 := (kn.less nh4).trans k5
    have r5 : Rd h5 r (rText st).2 := r4.keep (kn5.less (by omega))
    have k05 : KeepA [r] h h5 := ((KeepA.then wf qk k4 fun g hg => .inl hg)).trans (kn5.weaken fun o ho => ho.1)
    obtain ⟨v, b, c, d⟩ := r5
    refine WS_of_seq (WS_of_ops ?_)
    simp only [f26_r8, go_sem, ↓reduceIte, Nat.reduceEqDiff, q0, Nat.zero_add, b.load]
    refine WS_of_cond ?_
    simp only [go_sem, ↓reduceIte]
    have hn1 : (rNum s).1 - i = ((rNum s).1 - (i + 1)) + 1 := by omega
    rw [hn1] at he
    by_cases c3 : (rText st).2.2 = 0
    case neg =>
      have c3' : ¬ ((rText st).2.2 : Int) = 0 := by omega
      simp only [c3', decide_false, Bool.not_false, ↓reduceIte]
      refine WS_of_seq (WS_of_ops ?_)
      simp only [f26_r9, go_sem, ↓reduceIte]
      refine WS_of_ret ?_
      simp only [rTexts] at he
      rw [if_pos c3] at he
      simp only [go_sem, f26_a, ↓reduceIte, Nat.reduceEqDiff, e0, ← he]
      exact ⟨_, rfl, Strs.nil _, trivial, ⟨v, b, c, d⟩, k05⟩
    have c3' : ((rText st).2.2 : Int) = 0 := by omega
    simp only [c3', decide_true, Bool.not_true, Bool.false_eq_true, ↓reduceIte]
    refine WS_of_skip ?_
    simp only [go_sem]
    refine WS_of_ops ?_
    have e9 : IntKind.u64.wrap ((i : Int) + 1) = ((i + 1 : Nat) : Int) := by rw [wrap_u64 (by omega) (by omega)]; omega
    simp only [f26_r10, go_sem, ↓reduceIte, Nat.reduceEqDiff, q22, e9]
    simp only [rTexts] at he
    rw [if_neg (by simpa using c3)] at he
    have hlt := rText_less c3
    refine ⟨(rNum s).1 - (i + 1), by omega, i + 1, _, (rText st).2, rfl, by omega, he, ?_, b5, o5, ⟨v, b, c, d⟩, c3, k05, q0, q21, rfl⟩
    simp only [List.length_append, List.length_cons, List.length_nil]; omega
  · refine ⟨0, [], (rNum s).2, rfl, by omega, rfl, by simp, ?_, ?_, r2', c1, k12, ?_, ?_, ?_⟩
    · simp only [go_sem, ↓reduceIte, Nat.reduceEqDiff]; exact Strs.nil _
    · simp only [go_sem, ↓reduceIte, Nat.reduceEqDiff]; trivial
    · simp only [go_sem, ↓reduceIte, Nat.reduceEqDiff]
    · simp only [go_sem, ↓reduceIte, Nat.reduceEqDiff]
    · simp only [go_sem, ↓reduceIte, Nat.reduceEqDiff]; rfl
end Go.Proofs.Ythhibhhpcjggnab.Ev.C
