/- What is put is read: by plain definition. -/
import Derived.Test.YthhibhhpcjggnabTLists
namespace Go.Proofs.Ythhibhhpcjggnab.Ev.C
open Go Go.Proofs.Ythhibhhpcjggnab.Ev
set_option linter.unusedSimpArgs false
set_option linter.unusedVariables false
theorem takeB_num {x : Nat} (hx : x < 18446744073709551616) (rest : List UInt8) : takeB (num x ++ rest) = (x, (num x).length, 0) := by
  have h8 := nb_le8 hx
  have e1 : (UInt8.ofNat (nb x)).toNat = nb x := by simp; omega
  have hl : (bytesB x).length = nb x := bytesB_length x
  rw [num_length]
  show takeB (UInt8.ofNat (nb x) :: (bytesB x ++ rest)) = _
  simp only [takeB, e1]
  rw [if_neg (by omega), if_neg (by rw [List.length_append, hl]; omega), if_neg]
  · rw [List.take_append_of_le_length (by omega), List.take_of_length_le (by omega), be_bytesB, Nat.add_comm]
  · rintro ⟨h0, hh⟩
    obtain ⟨k, hk⟩ : ∃ k, nb x = k + 1 := ⟨nb x - 1, by omega⟩
    have hx0 : 0 < x := by
      rcases Nat.eq_zero_or_pos x with h | h
      · subst h; simp [nb] at h0
      · exact h
    have hle := nb_le hx0
    have hlt := lt_nb x
    have hd : bytesB x = UInt8.ofNat (x / 256 ^ (nb x - 1 - 0)) :: (List.range k).map (fun i => UInt8.ofNat (x / 256 ^ (nb x - 1 - (i + 1)))) := by
      unfold bytesB
      rw [hk, List.range_succ_eq_map, List.map_cons, List.map_map]
      rfl
    rw [hd] at hh
    simp only [List.cons_append, List.head?_cons, Option.some.injEq, Nat.sub_zero] at hh
    have hq1 : 1 ≤ x / 256 ^ (nb x - 1) := (Nat.one_le_div_iff (Nat.pow_pos (by decide))).2 hle
    have hq2 : x / 256 ^ (nb x - 1) < 256 := by
      rw [Nat.div_lt_iff_lt_mul (Nat.pow_pos (by decide)), hk, Nat.add_sub_cancel, Nat.mul_comm, ← Nat.pow_succ, Nat.succ_eq_add_one, ← hk]
      exact hlt
    have := congrArg UInt8.toNat hh
    simp at this
    omega
theorem rNum_num {x : Nat} (hx : x < 18446744073709551616) (rest : List UInt8) : rNum (num x ++ rest, 0) = (x, (rest, 0)) := by
  have e := takeB_num hx rest
  unfold rNum
  simp only [ne_eq, not_true_eq_false, if_false, e]
  rw [List.drop_append_of_le_length (Nat.le_refl _), List.drop_length, List.nil_append]
theorem rText_txt {t : List UInt8} (ht : t.length < 18446744073709551616) (rest : List UInt8) : rText (txt t ++ rest, 0) = (t, (rest, 0)) := by
  have e : rNum (txt t ++ rest, 0) = (t.length, (t ++ rest, 0)) := by rw [txt, List.append_assoc]; exact rNum_num ht _
  unfold rText
  simp only [e, ne_eq, not_true_eq_false, if_false]
  rw [if_neg (by simp)]
  simp
theorem rTexts_txts {l : List (List UInt8)} (hl : ∀ t ∈ l, t.length < 18446744073709551616) (rest : List UInt8) : ∀ acc, rTexts l.length acc (txts l ++ rest, 0) = (acc ++ l, (rest, 0)) := by
  induction l with
  | nil => intro acc; simp [rTexts, txts]
  | cons t l ih =>
    intro acc
    have e : rText (txts (t :: l) ++ rest, 0) = (t, (txts l ++ rest, 0)) := by
      rw [show txts (t :: l) = txt t ++ txts l from by simp [txts], List.append_assoc]
      exact rText_txt (hl t (by simp)) _
    simp only [List.length_cons, rTexts, e, ne_eq, not_true_eq_false, if_false]
    rw [ih fun t ht => hl t (by simp [ht])]
    simp
theorem rList_lst {l : List (List UInt8)} (h0 : l.length < 18446744073709551616) (hl : ∀ t ∈ l, t.length < 18446744073709551616) (rest : List UInt8) (most : Int) :
    rList most (lst l ++ rest, 0) = if max most 0 < (l.length : Int) then ([], (txts l ++ rest, 13)) else (l, (rest, 0)) := by
  have e : rNum (lst l ++ rest, 0) = (l.length, (txts l ++ rest, 0)) := by rw [lst, List.append_assoc]; exact rNum_num h0 _
  unfold rList
  simp only [e, ne_eq, not_true_eq_false, if_false]
  rw [rTexts_txts hl]
  simp
end Go.Proofs.Ythhibhhpcjggnab.Ev.C
