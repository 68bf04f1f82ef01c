/- What is put is read: by plain definition. -/
import Derived.Test.YthhibhhpcjggnabTLists
namespace Go.Proofs.Ythhibhhpcjggnab.Ev.C
open Go Go.Proofs.Ythhibhhpcjggnab.Ev
set_option linter.unusedSimpArgs false
set_option linter.unusedVariables false
theorem takeB_num {x : Nat} (hx : x < 18446744073709551616) (rest : List UInt8) : takeB (num x ++ rest) = (x, (num x).length, 0) := by
  have h8 := nb_le8 hx
  have e1 : (UInt8.ofNat (nb x)).toNat = nb x := by simp; omega
  have hl : (bytesB x).length = nb x := bytesB_length x
  rw [num_length]
  show takeB (UInt8.ofNat (nb x) :: (bytesB x ++ rest)) = _
  simp only [takeB, e1]
  rw [if_neg (by omega), if_neg (by rw [List.length_append, hl]; omega), if_neg]
  · rw [List.take_append_of_le_length (by omega), List.take_of_length_le (by omega), be_bytesB, Nat.add_comm]
  · rintro ⟨h0, hh⟩
    obtain ⟨k, hk⟩ : ∃ k, nb x = k + 1 := ⟨nb x - 1, by omega⟩
    have hx0 : 0 < x := by
      rcases Nat.eq_zero_or_pos x with h | h
      · subst h; simp [nb] at h0
      · exact h
    have hle := nb_le hx0
    have hlt := lt_nb x
    have hd : bytesB x = UInt8.ofNat (x / 256 ^ (nb x - 1 - 0)) :: (List.range k).map (fun i => UInt8.ofNat (x / 256 ^ (nb x - 1 - (i + 1)))) := by
      unfold bytesB
      rw [hk, List.range_succ_eq_map, List.map_cons, List.map_map]
      rfl
    rw [hd] at hh
    simp only [List.cons_append, List.head?_cons, Option.some.injEq, Nat.sub_zero] at hh
    have hq1 : 1 ≤ x / 256 ^ (nb x - 1) := (Nat.one_le_div_iff (Nat.pow_pos (by decide))).2 hle
    have hq2 : x / 256 ^ (nb x - 1) < 256 := by
      rw [Nat.div_lt_iff_lt_mul (Nat.pow_pos (by decide)), hk, Nat.add_sub_cancel, Nat.mul_comm, ← Nat.pow_succ, Nat.succ_eq_add_one, ← hk]
      exact hlt
    have := congrArg UInt8.toNat hh
    simp at this
    omega
theorem rNum_num {x : Nat} (hx : x < 18446744073709551616) (rest : List UInt8) : rNum (num x ++ rest, 0) = (x, (rest, 0)) := by
  have e := takeB_num hx rest
  unfold rNum
  simp only [ne_eq, not_true_eq_false, if_false, e]
  rw [List.drop_append_of_le_length (Nat.le_refl _), List.drop_length, List.nil_append]
theorem rText_txt {t : List UInt8} (ht : t.length < 18446744073709551616) (rest : List UInt8) : rText (txt t ++ rest, 0) = (t, (rest, 0)) := by
  have e : rNum (txt t ++ rest, 0) = (t.length, (t ++ rest, 0)) := by rw [txt, List.append_assoc]; exact rNum_num ht _
  unfold rText
  simp only [e, ne_eq, not_true_eq_false, if_false]
  rw [if_neg (by simp)]
  simp
theorem rTexts_txts {l : List (List UInt8)} (hl : ∀ t ∈ l, t.length < 18446744073709551616) (rest : List UInt8) : ∀ acc, rTexts l.length acc (txts l ++ rest, 0) = (acc ++ l, (rest, 0)) := by
  induction l with
  | nil => intro acc; simp [rTexts, txts]
  | cons t l ih =>
    intro acc
    have e : rText (txts (t :: l) ++ rest, 0) = (t, (txts l ++ rest, 0)) := by
      rw [show txts (t :: l) = txt t ++ txts l from by simp [txts], List.append_assoc]
      exact rText_txt (hl t (by simp)) _
    simp only [List.length_cons, rTexts, e, ne_eq, not_true_eq_false, if_false]
    rw [ih fun t ht => hl t (by simp [ht])]
    simp
theorem rList_lst {l : List (List UInt8)} (h0 : l.length < 18446744073709551616) (hl : ∀ t ∈ l, t.length < 18446744073709551616) (rest : List UInt8) (most : Int) :
    rList most (lst l ++ rest, 0) = if max most 0 < (l.length : Int) then ([], (txts l ++ rest, 13)) else (l, (rest, 0)) := by
  have e : rNum (lst l ++ rest, 0) = (l.length, (txts l ++ rest, 0)) := by rw [lst, List.append_assoc]; exact rNum_num h0 _
  unfold rList
  simp only [e, ne_eq, not_true_eq_false, if_false]
  rw [rTexts_txts hl]
  simp
end Go.Proofs.Ythhibhhpcjggnab.Ev.C

/- What is cut is short: by plain definition. -/
namespace Go.Proofs.Ythhibhhpcjggnab.Ev.C
open Go Go.Proofs.Ythhibhhpcjggnab.Ev
set_option linter.unusedSimpArgs false
set_option linter.unusedVariables false
theorem num_pos (x : Nat) : 0 < (num x).length := by rw [num_length]; omega
theorem take_app {a b : List UInt8} {k : Nat} (h : a.length ≤ k) : (a ++ b).take k = a ++ b.take (k - a.length) := by
  rw [List.take_append, List.take_of_length_le h]
theorem take_short {a b : List UInt8} {k : Nat} (h : k < a.length) : (a ++ b).take k = a.take k := by
  rw [List.take_append_of_le_length (by omega)]
theorem takeB_cut {x k : Nat} (hx : x < 18446744073709551616) (hk : k < (num x).length) : takeB ((num x).take k) = (0, 0, 10) := by
  have h8 := nb_le8 hx
  have e1 : (UInt8.ofNat (nb x)).toNat = nb x := by simp; omega
  rw [num_length] at hk
  cases k with
  | zero => rfl
  | succ k =>
    show takeB (UInt8.ofNat (nb x) :: (bytesB x).take k) = _
    simp only [takeB, e1]
    rw [if_neg (by omega), if_pos (by rw [List.length_take, bytesB_length]; omega)]
theorem rNum_err {s : RS} (h : s.2 ≠ 0) : rNum s = (0, s) := by unfold rNum; rw [if_pos h]
theorem rNum_cut {x k : Nat} (hx : x < 18446744073709551616) (rest : List UInt8) (hk : k < (num x).length) : (rNum ((num x ++ rest).take k, 0)).2.2 = 10 := by
  rw [take_short hk]
  unfold rNum
  simp only [ne_eq, not_true_eq_false, if_false, takeB_cut hx hk]
  rfl
theorem rNum_more {x k : Nat} (hx : x < 18446744073709551616) (rest : List UInt8) (hk : (num x).length ≤ k) : rNum ((num x ++ rest).take k, 0) = (x, (rest.take (k - (num x).length), 0)) := by
  rw [take_app hk]; exact rNum_num hx _
theorem rText_cut {t : List UInt8} {k : Nat} (ht : t.length < 18446744073709551616) (rest : List UInt8) (hk : k < (txt t).length) : (rText ((txt t ++ rest).take k, 0)).2.2 = 10 := by
  have e0 : (txt t ++ rest) = num t.length ++ (t ++ rest) := by rw [txt, List.append_assoc]
  rw [e0]
  by_cases h1 : k < (num t.length).length
  · have := rNum_cut ht (t ++ rest) h1
    unfold rText
    rw [if_pos (by rw [this]; decide)]
    exact this
  · have := rNum_more ht (t ++ rest) (Nat.le_of_not_lt h1)
    unfold rText
    simp only [this, ne_eq, not_true_eq_false, if_false]
    have hk' : (txt t).length = (num t.length).length + t.length := by rw [txt, List.length_append]
    rw [if_pos (by rw [List.length_take]; omega)]
theorem rText_more {t : List UInt8} {k : Nat} (ht : t.length < 18446744073709551616) (rest : List UInt8) (hk : (txt t).length ≤ k) : rText ((txt t ++ rest).take k, 0) = (t, (rest.take (k - (txt t).length), 0)) := by
  rw [take_app hk]; exact rText_txt ht _
theorem rTexts_cut {l : List (List UInt8)} (hl : ∀ t ∈ l, t.length < 18446744073709551616) : ∀ (k : Nat) (acc : List (List UInt8)), k < (txts l).length → (rTexts l.length acc ((txts l).take k, 0)).2.2 = 10 := by
  induction l with
  | nil => intro k acc h; simp [txts] at h
  | cons t l ih =>
    intro k acc hk
    have e0 : txts (t :: l) = txt t ++ txts l := by simp [txts]
    rw [e0] at hk ⊢
    have ht := hl t (by simp)
    simp only [List.length_cons, rTexts]
    by_cases h1 : k < (txt t).length
    · have := rText_cut ht (txts l) h1
      rw [if_pos (by rw [this]; decide)]
      exact this
    · have := rText_more ht (txts l) (Nat.le_of_not_lt h1)
      rw [this]
      simp only [ne_eq, not_true_eq_false, if_false]
      rw [List.length_append] at hk
      exact ih (fun t ht => hl t (by simp [ht])) _ _ (by omega)
theorem rList_cut {l : List (List UInt8)} (h0 : l.length < 18446744073709551616) (hl : ∀ t ∈ l, t.length < 18446744073709551616) {k : Nat} (hk : k < (lst l).length) :
    (rList (l.length : Int) ((lst l).take k, 0)).2.2 = 10 := by
  unfold lst at hk ⊢
  unfold rList
  by_cases h1 : k < (num l.length).length
  · have := rNum_cut h0 (txts l) h1
    rw [if_pos (by rw [this]; decide)]
    exact this
  · have := rNum_more h0 (txts l) (Nat.le_of_not_lt h1)
    simp only [this, ne_eq, not_true_eq_false, if_false]
    rw [if_neg (by omega)]
    rw [List.length_append] at hk
    exact rTexts_cut hl _ _ (by omega)
theorem rList_err {s : RS} (h : s.2 ≠ 0) (most : Int) : rList most s = ([], s) := by
  unfold rList; rw [rNum_err h, if_pos h]
/-- so many numbers, read -/
def rNums : Nat → RS → RS
  | 0, s => s
  | n + 1, s => (rNum (rNums n s)).2
theorem rNums_succ' (n : Nat) (s : RS) : rNums (n + 1) s = rNums n (rNum s).2 := by
  induction n with
  | zero => rfl
  | succ n ih => rw [rNums, ih]; rfl
theorem rNums_len (n : Nat) (s : RS) : (rNums n s).1.length ≤ s.1.length := by
  induction n with
  | zero => exact Nat.le_refl _
  | succ n ih => exact Nat.le_trans (rNum_len _) ih
theorem rNums_err {s : RS} (h : s.2 ≠ 0) (n : Nat) : rNums n s = s := by
  induction n with
  | zero => rfl
  | succ n ih => rw [rNums, ih, rNum_err h]
theorem back_short {t : List (List UInt8)} (h0 : t.length < 18446744073709551616) (hl : ∀ u ∈ t, u.length < 18446744073709551616) : ∀ {l : List Nat} {k : Nat}, (∀ x ∈ l, x < 18446744073709551616) → k < (l.flatMap num ++ lst t).length →
    (rList (t.length : Int) (rNums l.length ((l.flatMap num ++ lst t).take k, 0))).2.2 = 10 := by
  intro l
  induction l with
  | nil => intro k _ hk; simp only [List.flatMap_nil, List.nil_append] at hk ⊢; exact rList_cut h0 hl hk
  | cons x l ih =>
    intro k hx hk
    have e0 : (x :: l).flatMap num ++ lst t = num x ++ (l.flatMap num ++ lst t) := by simp
    rw [e0] at hk ⊢
    rw [List.length_cons, rNums_succ']
    by_cases h1 : k < (num x).length
    · have := rNum_cut (hx x (by simp)) (l.flatMap num ++ lst t) h1
      rw [rNums_err (by rw [this]; decide), rList_err (by rw [this]; decide)]
      exact this
    · have := rNum_more (hx x (by simp)) (l.flatMap num ++ lst t) (Nat.le_of_not_lt h1)
      rw [this]
      rw [List.length_append] at hk
      exact ih (fun y hy => hx y (by simp [hy])) (by omega)
end Go.Proofs.Ythhibhhpcjggnab.Ev.C
