/- Numbers as bytes: plain laws, and the functions of fields that write and read a number, walked. -/
import Derived.Test.YtmfbememiffkjaaTDevC
import Derived.Test.YtmfbememiffkjaaEv30
namespace Go.Proofs.Ytmfbememiffkjaa.Ev.C
open Go Go.Proofs.Ytmfbememiffkjaa.Ev
set_option linter.unusedSimpArgs false
set_option linter.unusedVariables false
def be (l : List UInt8) : Nat := l.foldl (fun x c => x * 256 + c.toNat) 0
theorem be_snoc (l : List UInt8) (c : UInt8) : be (l ++ [c]) = be l * 256 + c.toNat := by simp [be]
theorem be_digits (x n : Nat) (hx : x < 256 ^ n) : ∀ i, i ≤ n → be ((List.range i).map fun j => UInt8.ofNat (x / 256 ^ (n - 1 - j))) = x / 256 ^ (n - i)
  | 0, _ => by
    rw [Nat.sub_zero, Nat.div_eq_of_lt hx]; rfl
  | i + 1, h => by
    rw [List.range_succ, List.map_append, List.map_cons, List.map_nil, be_snoc, be_digits x n hx i (by omega)]
    have e1 : n - i = (n - 1 - i) + 1 := by omega
    have e2 : n - (i + 1) = n - 1 - i := by omega
    rw [e1, e2, Nat.pow_succ, ← Nat.div_div_eq_div_mul]
    have e3 : (UInt8.ofNat (x / 256 ^ (n - 1 - i))).toNat = x / 256 ^ (n - 1 - i) % 256 := by simp
    rw [e3]
    omega
theorem be_inj : ∀ (m : Nat) (l l' : List UInt8), l.length = m → l'.length = m → be l = be l' → l = l'
  | 0, l, l', h, h', _ => by
    rw [List.eq_nil_of_length_eq_zero h, List.eq_nil_of_length_eq_zero h']
  | m + 1, l, l', h, h', e => by
    rcases List.eq_nil_or_concat l with rfl | ⟨a, c, rfl⟩
    · cases h
    rcases List.eq_nil_or_concat l' with rfl | ⟨a', c', rfl⟩
    · cases h'
    rw [List.concat_eq_append] at *
    rw [List.concat_eq_append] at *
    simp only [List.length_append, List.length_cons, List.length_nil] at h h'
    rw [be_snoc, be_snoc] at e
    have hc := c.toNat_lt
    have hc' := c'.toNat_lt
    have h1 : be a = be a' := by omega
    have h2 : c.toNat = c'.toNat := by omega
    rw [be_inj m a a' (by omega) (by omega) h1, UInt8.toNat_inj.1 h2]
theorem be_lt' (l : List UInt8) : be l < 256 ^ l.length := by
  generalize hm : l.length = m
  induction m generalizing l with
  | zero => rw [List.eq_nil_of_length_eq_zero hm]; decide
  | succ m ih =>
    rcases List.eq_nil_or_concat l with rfl | ⟨a, c, rfl⟩
    · cases hm
    · rw [List.concat_eq_append] at *
      simp only [List.length_append, List.length_cons, List.length_nil] at hm
      have h := ih a (by omega)
      have hc := c.toNat_lt
      rw [be_snoc, Nat.pow_succ]
      omega

theorem be_foldl (l : List UInt8) : ∀ x : Nat, l.foldl (fun x c => x * 256 + c.toNat) x = x * 256 ^ l.length + be l := by
  induction l with
  | nil => intro x; simp [be]
  | cons c l ih =>
    intro x
    rw [List.foldl_cons, ih, show be (c :: l) = (0 * 256 + c.toNat) * 256 ^ l.length + be l from by unfold be; rw [List.foldl_cons]; exact ih _]
    rw [List.length_cons, Nat.pow_succ, Nat.zero_mul, Nat.zero_add, Nat.add_mul, Nat.mul_assoc, Nat.mul_comm 256, Nat.add_assoc]
theorem be_cons (c : UInt8) (l : List UInt8) : be (c :: l) = c.toNat * 256 ^ l.length + be l := by
  have := be_foldl l (0 * 256 + c.toNat)
  unfold be at this ⊢
  rw [List.foldl_cons, this]
  simp

theorem less_be : ∀ (l l' : List UInt8), l.length = l'.length → Op.bytesLess l l' = decide (be l < be l')
  | [], [], _ => by simp [Op.bytesLess, be]
  | [], _ :: _, h => by cases h
  | _ :: _, [], h => by cases h
  | a :: l, b :: l', h => by
    have hl : l.length = l'.length := by simpa using h
    have ih := less_be l l' hl
    rw [Op.bytesLess, ih, be_cons, be_cons, hl]
    have h1 := be_lt' l
    have h2 := be_lt' l'
    rw [hl] at h1
    generalize 256 ^ l'.length = K at *
    rcases Nat.lt_trichotomy a.toNat b.toNat with hlt | heq | hgt
    · have e1 : a < b := hlt
      have e2 : (a.toNat + 1) * K ≤ b.toNat * K := Nat.mul_le_mul_right _ hlt
      rw [Nat.add_mul] at e2
      have e3 : a.toNat * K + be l < b.toNat * K + be l' := by omega
      simp [e1, e3]
    · have e0 : a = b := UInt8.toNat_inj.1 heq
      subst e0
      simp
    · have e1 : ¬ a < b := by intro hx; have : a.toNat < b.toNat := hx; omega
      have e0 : ¬ a = b := by rintro rfl; omega
      have e2 : (b.toNat + 1) * K ≤ a.toNat * K := Nat.mul_le_mul_right _ hgt
      rw [Nat.add_mul] at e2
      have e3 : ¬ (a.toNat * K + be l < b.toNat * K + be l') := by omega
      simp [e1, e0, e3]
def Bits (x L : Nat) : Prop := x < 2 ^ L ∧ (0 < x → 0 < L ∧ 2 ^ (L - 1) ≤ x) ∧ (x = 0 → L = 0)
/-- so many bytes has a number -/
def nb (x : Nat) : Nat := if x = 0 then 0 else x.log2 / 8 + 1
theorem bits_nb {x L : Nat} (h : Bits x L) : (L + 7) / 8 = nb x := by
  unfold nb
  by_cases h0 : x = 0
  · rw [if_pos h0, h.2.2 h0]
  · rw [if_neg h0]
    obtain ⟨h1, h2, _⟩ := h
    obtain ⟨h3, h4⟩ := h2 (by omega)
    have a := (Nat.log2_lt h0).2 h1
    have b := (Nat.le_log2 h0).2 h4
    omega
theorem lt_nb (x : Nat) : x < 256 ^ nb x := by
  unfold nb
  by_cases h0 : x = 0
  · rw [if_pos h0, h0]; decide
  · rw [if_neg h0]
    have : x < 2 ^ (8 * (x.log2 / 8 + 1)) := (Nat.log2_lt h0).1 (by omega)
    rwa [Nat.pow_mul] at this
theorem nb_le {x : Nat} (h0 : 0 < x) : 256 ^ (nb x - 1) ≤ x := by
  unfold nb
  rw [if_neg (by omega)]
  have : 2 ^ (8 * (x.log2 / 8 + 1 - 1)) ≤ x := (Nat.le_log2 (by omega)).1 (by omega)
  rwa [Nat.pow_mul] at this
/-- the bytes of a number -/
def bytesB (x : Nat) : List UInt8 := (List.range (nb x)).map fun i => UInt8.ofNat (x / 256 ^ (nb x - 1 - i))
def num (x : Nat) : List UInt8 := UInt8.ofNat (nb x) :: bytesB x

theorem nb_le8 {x : Nat} (hx : x < 18446744073709551616) : nb x ≤ 8 := by
  unfold nb
  split
  · omega
  · have : x.log2 < 64 := (Nat.log2_lt (by omega)).2 (by omega)
    omega
theorem bytesB_length (x : Nat) : (bytesB x).length = nb x := by simp [bytesB]
theorem be_bytesB (x : Nat) : be (bytesB x) = x := by
  have := be_digits x (nb x) (lt_nb x) (nb x) (Nat.le_refl _)
  simpa [bytesB] using this
theorem num_less {x y : Nat} (hx : x < 18446744073709551616) (hy : y < 18446744073709551616) : Op.bytesLess (num x) (num y) = decide (x < y) := by
  have h1 := nb_le8 hx
  have h2 := nb_le8 hy
  have e1 : (UInt8.ofNat (nb x)).toNat = nb x := by simp; omega
  have e2 : (UInt8.ofNat (nb y)).toNat = nb y := by simp; omega
  unfold num
  rw [Op.bytesLess]
  rcases Nat.lt_trichotomy (nb x) (nb y) with hlt | heq | hgt
  · have a : UInt8.ofNat (nb x) < UInt8.ofNat (nb y) := by show (UInt8.ofNat (nb x)).toNat < (UInt8.ofNat (nb y)).toNat; omega
    have hy0 : 0 < y := by
      rcases Nat.eq_zero_or_pos y with rfl | h
      · simp [nb] at hlt
      · exact h
    have b := nb_le hy0
    have c := lt_nb x
    have d : 256 ^ nb x ≤ 256 ^ (nb y - 1) := Nat.pow_le_pow_right (by decide) (by omega)
    have e : x < y := by omega
    simp [a, e]
  · rw [heq]
    have a : ¬ UInt8.ofNat (nb y) < UInt8.ofNat (nb y) := by intro h; have h' : (UInt8.ofNat (nb y)).toNat < (UInt8.ofNat (nb y)).toNat := h; omega
    rw [less_be _ _ (by rw [bytesB_length, bytesB_length, heq]), be_bytesB, be_bytesB]
    simp [a]
  · have a : ¬ UInt8.ofNat (nb x) < UInt8.ofNat (nb y) := by intro h; have h' : (UInt8.ofNat (nb x)).toNat < (UInt8.ofNat (nb y)).toNat := h; omega
    have a2 : ¬ UInt8.ofNat (nb x) = UInt8.ofNat (nb y) := by intro h; rw [← e1, ← e2, h] at hgt; omega
    have hx0 : 0 < x := by
      rcases Nat.eq_zero_or_pos x with rfl | h
      · simp [nb] at hgt
      · exact h
    have b := nb_le hx0
    have c := lt_nb y
    have d : 256 ^ nb y ≤ 256 ^ (nb x - 1) := Nat.pow_le_pow_right (by decide) (by omega)
    have e : ¬ x < y := by omega
    simp [a, a2, e]
theorem num_inj {x y : Nat} (hx : x < 18446744073709551616) (hy : y < 18446744073709551616) : num x = num y ↔ x = y := by
  constructor
  · intro h
    unfold num at h
    have h2 := (List.cons.inj h).2
    rw [← be_bytesB x, h2, be_bytesB]
  · rintro rfl; rfl

theorem nb_uniq {x m : Nat} (h1 : x < 256 ^ m) (h2 : 0 < m → 256 ^ (m - 1) ≤ x) : nb x = m := by
  rcases Nat.eq_zero_or_pos m with rfl | hm
  · have : x = 0 := by simpa using h1
    subst this; rfl
  · have h3 := h2 hm
    have hx : 0 < x := Nat.lt_of_lt_of_le (Nat.pow_pos (by decide)) h3
    have a := nb_le hx
    have b := lt_nb x
    rcases Nat.lt_trichotomy (nb x) m with h | h | h
    · have : 256 ^ nb x ≤ 256 ^ (m - 1) := Nat.pow_le_pow_right (by decide) (by omega)
      omega
    · exact h
    · have : 256 ^ m ≤ 256 ^ (nb x - 1) := Nat.pow_le_pow_right (by decide) (by omega)
      omega
theorem num_be {w : List UInt8} (h8 : w.length ≤ 8) (h0 : w.head? ≠ some 0) : num (be w) = UInt8.ofNat w.length :: w ∧ be w < 18446744073709551616 := by
  have hlt := be_lt' w
  have hn : nb (be w) = w.length := by
    refine nb_uniq hlt fun hm => ?_
    cases w with
    | nil => cases hm
    | cons d w =>
      have hd : 0 < d.toNat := by
        rcases Nat.eq_zero_or_pos d.toNat with h | h
        · exact absurd (by simp; exact UInt8.toNat_inj.1 (by simpa using h)) h0
        · exact h
      rw [be_cons, List.length_cons, Nat.add_sub_cancel]
      have : 1 * 256 ^ w.length ≤ d.toNat * 256 ^ w.length := Nat.mul_le_mul_right _ hd
      omega
  refine ⟨?_, ?_⟩
  · unfold num
    rw [hn]
    congr 1
    exact be_inj w.length _ _ (by rw [bytesB_length, hn]) rfl (be_bytesB _)
  · have h2 : 256 ^ w.length ≤ 256 ^ 8 := Nat.pow_le_pow_right (by decide) h8
    have h3 : (256 : Nat) ^ 8 = 18446744073709551616 := by decide
    omega

/-- what any bytes begin with -/
def takeB : List UInt8 → Nat × Nat × Nat
  | [] => (0, 0, 10)
  | c :: r => if 8 < c.toNat then (0, 0, 11) else if r.length < c.toNat then (0, 0, 10) else if 0 < c.toNat ∧ r.head? = some 0 then (0, 0, 11) else (be (r.take c.toNat), 1 + c.toNat, 0)
theorem takeB_err (bs : List UInt8) (h : (takeB bs).2.2 ≠ 0) : (takeB bs).1 = 0 ∧ (takeB bs).2.1 = 0 := by
  cases bs with
  | nil => exact ⟨rfl, rfl⟩
  | cons c r =>
    by_cases h1 : 8 < c.toNat
    · simp only [takeB, if_pos h1]; exact ⟨trivial, trivial⟩
    by_cases h2 : r.length < c.toNat
    · simp only [takeB, if_neg h1, if_pos h2]; exact ⟨trivial, trivial⟩
    by_cases h3 : 0 < c.toNat ∧ r.head? = some 0
    · simp only [takeB, if_neg h1, if_neg h2, if_pos h3]; exact ⟨trivial, trivial⟩
    · simp only [takeB, if_neg h1, if_neg h2, if_neg h3] at h; exact absurd rfl h
theorem takeB_ok (bs : List UInt8) (h : (takeB bs).2.2 = 0) : num (takeB bs).1 = bs.take (takeB bs).2.1 ∧ (takeB bs).1 < 18446744073709551616 ∧ (takeB bs).2.1 ≤ bs.length ∧
    ∀ more, takeB (bs.take (takeB bs).2.1 ++ more) = takeB bs := by
  cases bs with
  | nil => cases h
  | cons c r =>
    by_cases h1 : 8 < c.toNat
    · simp [takeB, h1] at h
    by_cases h2 : r.length < c.toNat
    · simp [takeB, h1, h2] at h
    by_cases h3 : 0 < c.toNat ∧ r.head? = some 0
    · simp only [takeB, if_neg h1, if_neg h2, if_pos h3] at h; cases h
    have e : takeB (c :: r) = (be (r.take c.toNat), 1 + c.toNat, 0) := by simp only [takeB, if_neg h1, if_neg h2, if_neg h3]
    have hl : (r.take c.toNat).length = c.toNat := by simp; omega
    have hh : (r.take c.toNat).head? ≠ some 0 := by
      intro hx
      apply h3
      cases r with
      | nil => simp at hx
      | cons d r =>
        rcases Nat.eq_zero_or_pos c.toNat with hz | hz
        · rw [hz] at hx; simp at hx
        · refine ⟨hz, ?_⟩
          obtain ⟨k, hk⟩ : ∃ k, c.toNat = k + 1 := ⟨c.toNat - 1, by omega⟩
          rw [hk] at hx
          simpa using hx
    obtain ⟨n1, n2⟩ := num_be (by omega) hh
    rw [e]
    have hcc : UInt8.ofNat c.toNat = c := by simp
    refine ⟨?_, n2, by simp; omega, fun more => ?_⟩
    · simp only
      rw [n1, hl, hcc, Nat.add_comm 1, List.take_succ_cons]
    · simp only
      rw [Nat.add_comm 1, List.take_succ_cons, List.cons_append]
      have g2 : ¬ (r.take c.toNat ++ more).length < c.toNat := by rw [List.length_append, hl]; omega
      have g4 : (r.take c.toNat ++ more).take c.toNat = r.take c.toNat := by rw [List.take_append_of_le_length (by omega), List.take_take, Nat.min_self]
      have g3 : ¬ (0 < c.toNat ∧ (r.take c.toNat ++ more).head? = some 0) := by
        rintro ⟨hz, hx⟩
        apply hh
        cases hq : r.take c.toNat with
        | nil => rw [hq] at hl; simp at hl; omega
        | cons d w => rw [hq] at hx; simpa using hx
      simp only [takeB, if_neg h1, if_neg g2, if_neg g3, g4]
      rw [Nat.add_comm]
def tab8 : List UInt8 := [0, 1, 2, 2, 3, 3, 3, 3, 4, 4, 4, 4, 4, 4, 4, 4, 5, 5, 5, 5, 5, 5, 5, 5, 5, 5, 5, 5, 5, 5, 5, 5, 6, 6, 6, 6, 6, 6, 6, 6, 6, 6, 6, 6, 6, 6, 6, 6, 6, 6, 6, 6, 6, 6, 6, 6, 6, 6, 6, 6, 6, 6, 6, 6, 7, 7, 7, 7, 7, 7, 7, 7, 7, 7, 7, 7, 7, 7, 7, 7, 7, 7, 7, 7, 7, 7, 7, 7, 7, 7, 7, 7, 7, 7, 7, 7, 7, 7, 7, 7, 7, 7, 7, 7, 7, 7, 7, 7, 7, 7, 7, 7, 7, 7, 7, 7, 7, 7, 7, 7, 7, 7, 7, 7, 7, 7, 7, 7, 8, 8, 8, 8, 8, 8, 8, 8, 8, 8, 8, 8, 8, 8, 8, 8, 8, 8, 8, 8, 8, 8, 8, 8, 8, 8, 8, 8, 8, 8, 8, 8, 8, 8, 8, 8, 8, 8, 8, 8, 8, 8, 8, 8, 8, 8, 8, 8, 8, 8, 8, 8, 8, 8, 8, 8, 8, 8, 8, 8, 8, 8, 8, 8, 8, 8, 8, 8, 8, 8, 8, 8, 8, 8, 8, 8, 8, 8, 8, 8, 8, 8, 8, 8, 8, 8, 8, 8, 8, 8, 8, 8, 8, 8, 8, 8, 8, 8, 8, 8, 8, 8, 8, 8, 8, 8, 8, 8, 8, 8, 8, 8, 8, 8, 8, 8, 8, 8, 8, 8, 8, 8, 8, 8, 8, 8, 8, 8]
theorem tab8_ok : ∀ i, i < 256 → ∃ T : UInt8, tab8[i]? = some T ∧ T.toNat ≤ 8 ∧ Bits i T.toNat := by
  have key : (List.range 256).all (fun i => match tab8[i]? with | some T => decide (T.toNat ≤ 8) && decide (i < 2 ^ T.toNat) && (decide (i = 0) && decide (T.toNat = 0) || (decide (0 < T.toNat) && decide (2 ^ (T.toNat - 1) ≤ i))) | none => false) = true := by kernel_rfl
  intro i hi
  have h := List.all_eq_true.1 key i (by simpa using hi)
  split at h
  · rename_i T hT
    simp only [Bool.and_eq_true, Bool.or_eq_true, decide_eq_true_eq] at h
    refine ⟨T, hT, h.1.1, h.1.2, fun h0 => ?_, fun h0 => ?_⟩
    · rcases h.2 with h2 | h2
      · omega
      · exact h2
    · rcases h.2 with h2 | h2
      · exact h2.2
      · have := Nat.two_pow_pos (T.toNat - 1); omega
  · cases h
theorem bits_shift {x n L : Nat} (h : Bits (x / 2 ^ n) L) (h0 : n = 0 ∨ 0 < x / 2 ^ n) : Bits x (n + L) := by
  obtain ⟨h1, h2, h3⟩ := h
  have hp : 0 < 2 ^ n := Nat.two_pow_pos n
  refine ⟨?_, fun hx => ?_, fun hx => by
    subst hx
    rw [Nat.zero_div] at h0 h3
    rw [h3 rfl]; omega⟩
  · rw [Nat.pow_add, Nat.mul_comm]
    exact (Nat.div_lt_iff_lt_mul hp).1 h1
  · have hpos : 0 < x / 2 ^ n := by
      rcases h0 with rfl | h0
      · simpa using hx
      · exact h0
    obtain ⟨h3, h4⟩ := h2 hpos
    refine ⟨by omega, ?_⟩
    have e : n + L - 1 = (L - 1) + n := by omega
    rw [e, Nat.pow_add]
    exact (Nat.le_div_iff_mul_le hp).1 h4
theorem f70_r10_eq : f70_r10 = [⟨(some 19), (.mov (.tmp 2)), none⟩, ⟨(some 20), (.mov (.tmp 0)), none⟩, ⟨(some 21), (.cvInt .u8 (.tmp 20)), none⟩, ⟨(some 22), (.indexStr (.con (.str tab8)) (.tmp 21)), none⟩, ⟨(some 23), (.cvInt .i64 (.tmp 22)), none⟩, ⟨(some 24), (.bin .add (.tmp 19) (.tmp 23)), none⟩, ⟨(some 2), (.mov (.tmp 24)), none⟩] := rfl
theorem fdiv_pow (y k : Nat) (hk : k ≤ 64) : ((y : Int).fdiv (2 ^ (Nat.min (Int.toNat (k : Int)) IntKind.u64.bits))) = ((y / 2 ^ k : Nat) : Int) := by
  have e1 : Nat.min (Int.toNat (k : Int)) IntKind.u64.bits = k := by
    show Nat.min _ 64 = k
    rw [Int.toNat_natCast]; exact Nat.min_eq_left hk
  have e2 : ((2 : Int) ^ k) = ((2 ^ k : Nat) : Int) := by simp
  rw [e1, e2, Int.fdiv_eq_ediv_of_nonneg _ (Int.natCast_nonneg _)]
  exact (Int.natCast_ediv _ _).symm
theorem len64_spec {h : H} {x : Nat} (hx : x < 18446744073709551616) :
    WCall E0 70 [.int .u64 x] h fun r h' => h' = h ∧ ∃ L, L ≤ 64 ∧ Bits x L ∧ r = .val (.int .i64 (L : Nat)) := by
  refine WCall_ws (ovn 70) U70 (by simp [f70_a]) ?_
  show WS E0 f70_c [] _ _ _
  refine WS_of_seq (WS_of_ops ?_)
  simp only [f70_r0, go_sem, ↓reduceIte]
  refine WS_of_seq (WS_of_seq (WS_of_ops ?_))
  simp only [f70_r1, go_sem, ↓reduceIte, Nat.reduceEqDiff]
  -- the last step, from any y
  have last : ∀ (s : S) (y n : Nat), s 0 = .int .u64 y → s 2 = .int .i64 n → y < 256 → n ≤ 56 → y = x / 2 ^ n → (n = 0 ∨ 0 < y) →
      WS E0 ((ACode.ops f70_r10).seq ACode.ret) [] (atEnd f70_a.results fun r h' => h' = h ∧ ∃ L, L ≤ 64 ∧ Bits x L ∧ r = .val (.int .i64 (L : Nat))) s h := by
    intro s y n h0 h2 hy hn hyx hpos
    obtain ⟨T, hT, hT8, hTb⟩ := tab8_ok y hy
    refine WS_of_seq (WS_of_ops ?_)
    have e1 : IntKind.u8.wrap (y : Int) = (y : Int) := wrap_u8 (by omega) (by omega)
    have e2 : indexStrA (.str tab8) (.int .u8 (y : Int)) = some (.int .u8 T.toNat) := by
      simp only [indexStrA, Int.toNat_natCast, hT]
      rw [if_pos (by omega)]; rfl
    have e3 : IntKind.i64.wrap (T.toNat : Int) = (T.toNat : Int) := wrap_i64 (by omega) (by omega)
    have e4 : IntKind.i64.wrap ((n : Int) + (T.toNat : Int)) = ((n + T.toNat : Nat) : Int) := by rw [wrap_i64 (by omega) (by omega)]; omega
    simp only [f70_r10_eq, go_sem, ↓reduceIte, Nat.reduceEqDiff, h0, h2, e1, e2, e3, e4]
    refine WS_of_ret ?_
    simp only [go_sem, f70_a, ↓reduceIte, Nat.reduceEqDiff]
    refine ⟨trivial, n + T.toNat, by omega, ?_, rfl⟩
    exact bits_shift (by rw [← hyx]; exact hTb) (by rw [← hyx]; exact hpos)
  have nn8 : ¬ ((8 : Int) < 0) := by decide
  have nn16 : ¬ ((16 : Int) < 0) := by decide
  have nn32 : ¬ ((32 : Int) < 0) := by decide
  have st8 : ∀ (s : S) (y n : Nat), s 0 = .int .u64 y → s 2 = .int .i64 n → y < 65536 → n ≤ 48 → y = x / 2 ^ n → (n = 0 ∨ 0 < y) →
      WS E0 (((ACode.ops f70_r7).seq (ACode.cond (AOpd.tmp 14) ((ACode.ops f70_r8).seq (ACode.ops f70_r9)) ACode.skip)).seq ((ACode.ops f70_r10).seq ACode.ret)) [] (atEnd f70_a.results fun r h' => h' = h ∧ ∃ L, L ≤ 64 ∧ Bits x L ∧ r = .val (.int .i64 (L : Nat))) s h := by
    intro s y n h0 h2 hy hn hyx hpos
    refine WS_of_seq (WS_of_seq (WS_of_ops ?_))
    simp only [f70_r7, go_sem, ↓reduceIte, Nat.reduceEqDiff, h0]
    refine WS_of_cond ?_
    simp only [go_sem, ↓reduceIte]
    by_cases hb : 256 ≤ y
    · have e1 : (256 : Int) ≤ (y : Int) := by omega
      simp only [e1, decide_true, ↓reduceIte]
      refine WS_of_seq (WS_of_ops ?_)
      simp only [f70_r8, go_sem, ↓reduceIte, Nat.reduceEqDiff, h0, nn8, not_false_eq_true, true_and]
      refine WS_of_ops ?_
      simp only [f70_r9, go_sem, ↓reduceIte, Nat.reduceEqDiff, h2]
      refine last _ (y / 2 ^ 8) (n + 8) ?_ ?_ (by omega) (by omega) ?_ (.inr (by omega))
      · simp only [go_sem, ↓reduceIte, Nat.reduceEqDiff]; exact congrArg (AV.int .u64) (fdiv_pow y 8 (by decide))
      · simp only [go_sem, ↓reduceIte, Nat.reduceEqDiff]; rw [wrap_i64 (by omega) (by omega)]; rfl
      · rw [hyx, Nat.div_div_eq_div_mul, ← Nat.pow_add]
    · have e1 : ¬ (256 : Int) ≤ (y : Int) := by omega
      simp only [e1, decide_false, Bool.false_eq_true, ↓reduceIte]
      refine WS_of_skip ?_
      simp only [go_sem]
      refine last _ y n ?_ ?_ (by omega) (by omega) hyx hpos
      · simp only [go_sem, ↓reduceIte, Nat.reduceEqDiff, h0]
      · simp only [go_sem, ↓reduceIte, Nat.reduceEqDiff, h2]
  have st16 : ∀ (s : S) (y n : Nat), s 0 = .int .u64 y → s 2 = .int .i64 n → y < 4294967296 → n ≤ 32 → y = x / 2 ^ n → (n = 0 ∨ 0 < y) →
      WS E0 (((ACode.ops f70_r4).seq (ACode.cond (AOpd.tmp 8) ((ACode.ops f70_r5).seq (ACode.ops f70_r6)) ACode.skip)).seq (((ACode.ops f70_r7).seq (ACode.cond (AOpd.tmp 14) ((ACode.ops f70_r8).seq (ACode.ops f70_r9)) ACode.skip)).seq ((ACode.ops f70_r10).seq ACode.ret))) [] (atEnd f70_a.results fun r h' => h' = h ∧ ∃ L, L ≤ 64 ∧ Bits x L ∧ r = .val (.int .i64 (L : Nat))) s h := by
    intro s y n h0 h2 hy hn hyx hpos
    refine WS_of_seq (WS_of_seq (WS_of_ops ?_))
    simp only [f70_r4, go_sem, ↓reduceIte, Nat.reduceEqDiff, h0]
    refine WS_of_cond ?_
    simp only [go_sem, ↓reduceIte]
    by_cases hb : 65536 ≤ y
    · have e1 : (65536 : Int) ≤ (y : Int) := by omega
      simp only [e1, decide_true, ↓reduceIte]
      refine WS_of_seq (WS_of_ops ?_)
      simp only [f70_r5, go_sem, ↓reduceIte, Nat.reduceEqDiff, h0, nn16, not_false_eq_true, true_and]
      refine WS_of_ops ?_
      simp only [f70_r6, go_sem, ↓reduceIte, Nat.reduceEqDiff, h2]
      refine st8 _ (y / 2 ^ 16) (n + 16) ?_ ?_ (by omega) (by omega) ?_ (.inr (by omega))
      · simp only [go_sem, ↓reduceIte, Nat.reduceEqDiff]; exact congrArg (AV.int .u64) (fdiv_pow y 16 (by decide))
      · simp only [go_sem, ↓reduceIte, Nat.reduceEqDiff]; rw [wrap_i64 (by omega) (by omega)]; rfl
      · rw [hyx, Nat.div_div_eq_div_mul, ← Nat.pow_add]
    · have e1 : ¬ (65536 : Int) ≤ (y : Int) := by omega
      simp only [e1, decide_false, Bool.false_eq_true, ↓reduceIte]
      refine WS_of_skip ?_
      simp only [go_sem]
      refine st8 _ y n ?_ ?_ (by omega) (by omega) hyx hpos
      · simp only [go_sem, ↓reduceIte, Nat.reduceEqDiff, h0]
      · simp only [go_sem, ↓reduceIte, Nat.reduceEqDiff, h2]
  refine WS_of_cond ?_
  simp only [go_sem, ↓reduceIte]
  by_cases hb : 4294967296 ≤ x
  · have e1 : (4294967296 : Int) ≤ (x : Int) := by omega
    simp only [e1, decide_true, ↓reduceIte]
    refine WS_of_seq (WS_of_ops ?_)
    simp only [f70_r2, go_sem, ↓reduceIte, Nat.reduceEqDiff, nn32, not_false_eq_true, true_and]
    refine WS_of_ops ?_
    simp only [f70_r3, go_sem, ↓reduceIte, Nat.reduceEqDiff]
    refine st16 _ (x / 2 ^ 32) 32 ?_ ?_ (by omega) (by omega) rfl (.inr (by omega))
    · simp only [go_sem, ↓reduceIte, Nat.reduceEqDiff]; exact congrArg (AV.int .u64) (fdiv_pow x 32 (by decide))
    · simp only [go_sem, ↓reduceIte, Nat.reduceEqDiff]; rfl
  · have e1 : ¬ (4294967296 : Int) ≤ (x : Int) := by omega
    simp only [e1, decide_false, Bool.false_eq_true, ↓reduceIte]
    refine WS_of_skip ?_
    simp only [go_sem]
    refine st16 _ x 0 ?_ ?_ (by omega) (by omega) (by simp) (.inl rfl)
    · simp only [go_sem, ↓reduceIte, Nat.reduceEqDiff]
    · simp only [go_sem, ↓reduceIte, Nat.reduceEqDiff]; rfl
theorem fdiv_pow' (y k : Nat) : ((y : Int).fdiv (2 ^ k)) = ((y / 2 ^ k : Nat) : Int) := by
  have e2 : ((2 : Int) ^ k) = ((2 ^ k : Nat) : Int) := by simp
  rw [e2, Int.fdiv_eq_ediv_of_nonneg _ (Int.natCast_nonneg _)]
  exact (Int.natCast_ediv _ _).symm
theorem wrap_u8_nat (y : Nat) : IntKind.u8.wrap (y : Int) = ((UInt8.ofNat y).toNat : Int) := by
  unfold IntKind.wrap IntKind.bits IntKind.signed
  simp
theorem put_inner {N x n : Nat} (hn : n ≤ 8) (hx : x < 18446744073709551616) {k : List Fr1} {Q : Post} {s : S} {h : H} {pre : List UInt8} (wf : h.Wf) (hN : N ≤ h.n) (hb : Bytes h (s 3) pre) (ho : Own N h (s 3)) (hl : pre.length < 4000000000)
    (h5 : s 5 = .int .u64 x) (h6 : s 6 = .int .i64 n) (h24 : s 24 = .int .i64 n) (h25 : s 25 = .int .i64 (0 : Nat))
    (hk : ∀ s' h', Bytes h' (s' 3) (pre ++ (List.range n).map fun i => UInt8.ofNat (x / 256 ^ (n - 1 - i))) → Own N h' (s' 3) → Keep (Old N) h h' → (∀ t, t = 0 ∨ t = 8 ∨ t = 9 ∨ t = 10 → s' t = s t) → WNext E0 k Q s' h') :
    WS E0 (.block 2 (.loop f64_l12)) k Q s h := by
  refine WS_of_block (WS_of_loop (fun m s1 h1 => ∃ i, m = n - i ∧ i ≤ n ∧ Bytes h1 (s1 3) (pre ++ (List.range i).map fun i => UInt8.ofNat (x / 256 ^ (n - 1 - i))) ∧ Own N h1 (s1 3) ∧ Keep (Old N) h h1 ∧
    (∀ t, t = 0 ∨ t = 8 ∨ t = 9 ∨ t = 10 → s1 t = s t) ∧ s1 5 = .int .u64 x ∧ s1 6 = .int .i64 n ∧ s1 24 = .int .i64 n ∧ s1 25 = .int .i64 (i : Nat)) ?_ n ?_)
  · rintro m s1 h1 ⟨i, rfl, hi, q3, qo, qk, qt, q5, q6, q24, q25⟩
    show WS E0 f64_l12 _ _ _ _
    refine WS_of_seq (WS_of_ops ?_)
    simp only [f64_r8, go_sem, ↓reduceIte, Nat.reduceEqDiff, q24, q25]
    refine WS_of_seq (WS_of_cond ?_)
    simp only [go_sem, ↓reduceIte]
    by_cases hin : i < n
    · have e1 : (i : Int) < (n : Int) := by omega
      simp only [e1, decide_true, ↓reduceIte]
      refine WS_of_skip ?_
      simp only [go_sem]
      refine WS_of_seq (WS_of_block (WS_of_seq (WS_of_ops ?_)))
      simp only [f64_r9, go_sem, ↓reduceIte, Nat.reduceEqDiff, q25]
      refine WS_of_ops ?_
      have e2 : IntKind.i64.wrap ((n : Int) - 1) = ((n - 1 : Nat) : Int) := by rw [wrap_i64 (by omega) (by omega)]; omega
      have e3 : IntKind.i64.wrap (((n - 1 : Nat) : Int) - (i : Int)) = ((n - 1 - i : Nat) : Int) := by rw [wrap_i64 (by omega) (by omega)]; omega
      have e4 : IntKind.i64.wrap (8 * ((n - 1 - i : Nat) : Int)) = ((8 * (n - 1 - i) : Nat) : Int) := by rw [wrap_i64 (by omega) (by omega)]; omega
      have e5 : ¬ (((8 * (n - 1 - i) : Nat) : Int) < 0) := by omega
      have e6 : Nat.min (Int.toNat ((8 * (n - 1 - i) : Nat) : Int)) 64 = 8 * (n - 1 - i) := by
        rw [Int.toNat_natCast]; exact Nat.min_eq_left (by omega)
      have e7 : IntKind.u8.wrap ((x / 2 ^ (8 * (n - 1 - i)) : Nat) : Int) = ((UInt8.ofNat (x / 256 ^ (n - 1 - i))).toNat : Int) := by
        rw [wrap_u8_nat, Nat.pow_mul]
      have wf1 := qk.wf wf
      have hB : Bytes (h1.new (byteCells [UInt8.ofNat (x / 256 ^ (n - 1 - i))])) (.slice h1.n 0 1 1) [UInt8.ofNat (x / 256 ^ (n - 1 - i))] := by
        have := Sl.new (n := 1) (es := 1) wf1 (vs := byteCells [UInt8.ofNat (x / 256 ^ (n - 1 - i))]) (by simp [byteCells])
        exact this
      have kn : Keep (Old h1.n) h1 (h1.new (byteCells [UInt8.ofNat (x / 256 ^ (n - 1 - i))])) := Keep.new (Nat.le_refl _) _
      have so := qo.slot wf1
      have hN1 : N ≤ h1.n := Nat.le_trans hN qk.n
      obtain ⟨v2, h2, a1, a2, a3, a4⟩ := append_own (N := N) (kn.wf wf1) (Nat.le_trans hN1 kn.n) (q3.keep kn so) (qo.keep so kn) hB (byteCells_one _) (by simp; omega)
      simp only [f64_r10, go_sem, ↓reduceIte, Nat.reduceEqDiff, q5, q6, e2, e3, e4, e5, not_false_eq_true, true_and, e6, fdiv_pow', e7]
      have a1' : appendA (h1.new [AV.int .u8 ((UInt8.ofNat (x / 256 ^ (n - 1 - i))).toNat : Int)]) 1 (s1 3) (.slice h1.n 0 1 1) = some (v2, h2) := a1
      simp only [a1', go_sem]
      refine WS_of_ops ?_
      have e9 : IntKind.i64.wrap ((i : Int) + 1) = ((i + 1 : Nat) : Int) := by rw [wrap_i64 (by omega) (by omega)]; omega
      simp only [f64_r11, go_sem, ↓reduceIte, Nat.reduceEqDiff, q25, e9]
      refine ⟨n - (i + 1), by omega, i + 1, rfl, by omega, ?_, a3, (qk.trans (kn.less hN1)).trans a4, ?_, q5, q6, q24, rfl⟩
      · rw [List.range_succ, List.map_append, ← List.append_assoc]
        unfold Bytes
        rw [byteCells_append, List.length_append]
        exact a2
      · rintro t (rfl | rfl | rfl | rfl) <;> exact qt _ (by simp)
    · have e1 : ¬ (i : Int) < (n : Int) := by omega
      have hie : i = n := by omega
      subst hie
      simp only [e1, decide_false, Bool.false_eq_true, ↓reduceIte]
      refine WS_of_exit ?_
      simp only [go_sem, ↓reduceIte]
      refine hk _ _ q3 qo qk ?_
      rintro t (rfl | rfl | rfl | rfl) <;> exact qt _ (by simp)
  · exact ⟨0, rfl, by omega, by simpa using hb, ho, Keep.refl _ _, fun _ _ => rfl, h5, h6, h24, h25⟩

theorem num_length (x : Nat) : (num x).length = nb x + 1 := by simp [num, bytesB]
theorem flat_length {l : List Nat} (hl : ∀ x ∈ l, x < 18446744073709551616) : (l.flatMap num).length ≤ 9 * l.length := by
  induction l with
  | nil => simp
  | cons x l ih =>
    have h1 := ih (fun y hy => hl y (by simp [hy]))
    have h2 := nb_le8 (hl x (by simp))
    simp only [List.flatMap_cons, List.length_append, num_length, List.length_cons]
    omega
theorem put_spec {h : H} {v : AV} {l : List Nat} (wf : h.Wf) (hs : Sl h 1 v l.length (l.map fun x => AV.int .u64 (x : Nat))) (hsl : Slot (Old h.n) h v) (hl : ∀ x ∈ l, x < 18446744073709551616) (hlen : l.length ≤ 400000000) :
    WCall E0 64 [v] h fun r h' => ∃ vo, r = .val vo ∧ Bytes h' vo (l.flatMap num) ∧ Own h.n h' vo ∧ Keep (Old h.n) h h' := by
  refine WCall_ws (ovn 64) U64 (by simp [f64_a]) ?_
  show WS E0 f64_c [] _ _ _
  refine WS_of_seq (WS_of_ops ?_)
  simp only [f64_r0, go_sem, ↓reduceIte]
  refine WS_of_seq (WS_of_ops ?_)
  simp only [f64_r1, go_sem, ↓reduceIte]
  refine WS_of_seq (WS_of_seq (WS_of_ops ?_))
  simp only [f64_r2, go_sem, ↓reduceIte, Nat.reduceEqDiff, hs.len, Option.map_some]
  refine WS_of_block (WS_of_loop (fun m s1 h1 => ∃ j, m = l.length - j ∧ j ≤ l.length ∧ Bytes h1 (s1 3) ((l.take j).flatMap num) ∧ Own h.n h1 (s1 3) ∧ Keep (Old h.n) h h1 ∧
    s1 8 = v ∧ s1 9 = .int .i64 (l.length : Nat) ∧ s1 10 = .int .i64 (j : Nat)) ?_ l.length ?_)
  · rintro m s1 h1 ⟨j, rfl, hj, q3, qo, qk, q8, q9, q10⟩
    show WS E0 f64_l14 _ _ _ _
    refine WS_of_seq (WS_of_ops ?_)
    simp only [f64_r3, go_sem, ↓reduceIte, Nat.reduceEqDiff, q9, q10]
    refine WS_of_seq (WS_of_cond ?_)
    simp only [go_sem, ↓reduceIte]
    by_cases hjl : j < l.length
    · have e1 : (j : Int) < (l.length : Int) := by omega
      simp only [e1, decide_true, ↓reduceIte]
      refine WS_of_skip ?_
      simp only [go_sem]
      have hx := hl l[j] (List.getElem_mem hjl)
      obtain ⟨p, p1, p2⟩ := (hs.keep qk hsl).at hjl .i64
      have p3 : (l.map fun x => AV.int .u64 (x : Nat))[j]? = some (.int .u64 (l[j] : Nat)) := by simp [hjl]
      rw [p3] at p2
      refine WS_of_seq (WS_of_block (WS_of_seq (WS_of_ops ?_)))
      simp only [f64_r4, go_sem, ↓reduceIte, Nat.reduceEqDiff, q8, q10, p1, p2]
      refine WS_of_seq (WS_of_ops ?_)
      simp only [f64_r5, go_sem, ↓reduceIte, Nat.reduceEqDiff, List.map_cons, List.map_nil, List.append_nil]
      refine (len64_spec hx).mono ?_
      rintro r h2 ⟨rfl, L, hL, hB, rfl⟩
      have e2 : IntKind.i64.wrap ((L : Int) + 8) = ((L + 8 : Nat) : Int) := by rw [wrap_i64 (by omega) (by omega)]; omega
      have e3 : IntKind.i64.wrap (((L + 8 : Nat) : Int) - 1) = ((L + 7 : Nat) : Int) := by rw [wrap_i64 (by omega) (by omega)]; omega
      have e4 : IntKind.i64.wrap (((L + 7 : Nat) : Int).tdiv 8) = (nb l[j] : Int) := by
        have : ((L + 7 : Nat) : Int).tdiv 8 = (((L + 7) / 8 : Nat) : Int) := by
          rw [Int.tdiv_eq_ediv_of_nonneg (by omega)]; omega
        rw [this, bits_nb hB, wrap_i64 (by omega) (by have := nb_le8 hx; omega)]
      simp only [e2, e3, e4, go_sem, ↓reduceIte, Nat.reduceEqDiff]
      refine ⟨by decide, ?_⟩
      have wf1 := qk.wf wf
      have so := qo.slot wf1
      have e5 : IntKind.u8.wrap (nb l[j] : Int) = ((UInt8.ofNat (nb l[j])).toNat : Int) := wrap_u8_nat _
      have hB1 : Bytes (h2.new (byteCells [UInt8.ofNat (nb l[j])])) (.slice h2.n 0 1 1) [UInt8.ofNat (nb l[j])] := by
        have := Sl.new (n := 1) (es := 1) wf1 (vs := byteCells [UInt8.ofNat (nb l[j])]) (by simp [byteCells])
        exact this
      have kn : Keep (Old h2.n) h2 (h2.new (byteCells [UInt8.ofNat (nb l[j])])) := Keep.new (Nat.le_refl _) _
      have hfl := flat_length (l := l.take j) (fun x hx => hl x (List.mem_of_mem_take hx))
      have hfl2 : ((l.take j).flatMap num).length ≤ 3600000000 := by
        have : (l.take j).length ≤ 400000000 := by simp; omega
        omega
      obtain ⟨v2, h3, a1, a2, a3, a4⟩ := append_own (N := h.n) (kn.wf wf1) (Nat.le_trans qk.n kn.n) (q3.keep kn so) (qo.keep so kn) hB1 (byteCells_one _) (by simp only [List.length_cons, List.length_nil]; omega)
      have a1' : appendA (h2.new [AV.int .u8 ((UInt8.ofNat (nb l[j])).toNat : Int)]) 1 (s1 3) (.slice h2.n 0 1 1) = some (v2, h3) := a1
      refine WS_of_seq (WS_of_ops ?_)
      simp only [f64_r6, go_sem, ↓reduceIte, Nat.reduceEqDiff, e5, a1']
      refine WS_of_seq (WS_of_ops ?_)
      simp only [f64_r7, go_sem, ↓reduceIte, Nat.reduceEqDiff]
      have k3 : Keep (Old h.n) h h3 := (qk.trans (kn.less qk.n)).trans a4
      have hB3 : Bytes h3 v2 ((l.take j).flatMap num ++ [UInt8.ofNat (nb l[j])]) := by
        unfold Bytes
        rw [byteCells_append, List.length_append]
        exact a2
      refine put_inner (N := h.n) (x := l[j]) (n := nb l[j]) (pre := (l.take j).flatMap num ++ [UInt8.ofNat (nb l[j])]) (nb_le8 hx) hx (k3.wf wf) k3.n ?_ ?_ (by simp only [List.length_append, List.length_cons, List.length_nil]; omega) ?_ ?_ ?_ ?_ ?_
      · simp only [go_sem, ↓reduceIte, Nat.reduceEqDiff]; exact hB3
      · simp only [go_sem, ↓reduceIte, Nat.reduceEqDiff]; exact a3
      · simp only [go_sem, ↓reduceIte, Nat.reduceEqDiff]
      · simp only [go_sem, ↓reduceIte, Nat.reduceEqDiff]
      · simp only [go_sem, ↓reduceIte, Nat.reduceEqDiff]
      · simp only [go_sem, ↓reduceIte, Nat.reduceEqDiff]; rfl
      · intro s' h' b' o' k' t'
        have t8 := t' 8 (by simp)
        have t9 := t' 9 (by simp)
        have t10 := t' 10 (by simp)
        simp only [go_sem, ↓reduceIte, Nat.reduceEqDiff, q8, q9, q10] at t8 t9 t10
        simp only [go_sem]
        refine WS_of_ops ?_
        have e9 : IntKind.i64.wrap ((j : Int) + 1) = ((j + 1 : Nat) : Int) := by rw [wrap_i64 (by omega) (by omega)]; omega
        simp only [f64_r13, go_sem, ↓reduceIte, Nat.reduceEqDiff, t10, e9]
        refine ⟨l.length - (j + 1), by omega, j + 1, rfl, by omega, ?_, o', k3.trans k', t8, t9, rfl⟩
        have e10 : (l.take (j + 1)).flatMap num = ((l.take j).flatMap num ++ [UInt8.ofNat (nb l[j])]) ++ (List.range (nb l[j])).map fun i => UInt8.ofNat (l[j] / 256 ^ (nb l[j] - 1 - i)) := by
          rw [List.take_add_one, List.getElem?_eq_getElem hjl, List.flatMap_append]
          simp [num, bytesB]
        rw [e10]
        exact b'
    · have e1 : ¬ (j : Int) < (l.length : Int) := by omega
      have hje : j = l.length := by omega
      subst hje
      simp only [e1, decide_false, Bool.false_eq_true, ↓reduceIte]
      refine WS_of_exit ?_
      simp only [go_sem, ↓reduceIte]
      refine WS_of_seq (WS_of_ops ?_)
      simp only [f64_r15, go_sem, ↓reduceIte, Nat.reduceEqDiff]
      refine WS_of_ret ?_
      simp only [go_sem, f64_a, ↓reduceIte, Nat.reduceEqDiff]
      exact ⟨_, rfl, by simpa using q3, qo, qk⟩
  · refine ⟨0, rfl, by omega, ?_, ?_, Keep.refl _ _, ?_, ?_, ?_⟩
    · simp only [go_sem, ↓reduceIte, Nat.reduceEqDiff]; exact Sl.nil _ _
    · simp only [go_sem, ↓reduceIte, Nat.reduceEqDiff]; trivial
    · simp only [go_sem, ↓reduceIte, Nat.reduceEqDiff]
    · simp only [go_sem, ↓reduceIte, Nat.reduceEqDiff]
    · simp only [go_sem, ↓reduceIte, Nat.reduceEqDiff]; rfl
theorem be_lt (l : List UInt8) : be l < 256 ^ l.length := be_lt' l
theorem or_byte {x c : Nat} (hx : x < 72057594037927936) (hc : c < 256) :
    IntKind.u64.wrap ((BitVec.ofInt IntKind.u64.bits (IntKind.u64.wrap ((x : Int) * 2 ^ (Nat.min (Int.toNat 8) IntKind.u64.bits))) ||| BitVec.ofInt IntKind.u64.bits (IntKind.u64.wrap (c : Int))).toNat : Int) = ((x * 256 + c : Nat) : Int) := by
  have e1 : (x : Int) * 2 ^ (Nat.min (Int.toNat 8) IntKind.u64.bits) = ((256 * x : Nat) : Int) := by
    have : Nat.min (Int.toNat 8) IntKind.u64.bits = 8 := rfl
    rw [this, show ((2 : Int) ^ 8) = 256 from rfl]; omega
  have e2 : IntKind.u64.wrap ((256 * x : Nat) : Int) = ((256 * x : Nat) : Int) := wrap_u64 (by omega) (by omega)
  have e3 : IntKind.u64.wrap (c : Int) = (c : Int) := wrap_u64 (by omega) (by omega)
  rw [e1, e2, e3]
  have hb : IntKind.u64.bits = 64 := rfl
  rw [hb, BitVec.ofInt_natCast, BitVec.ofInt_natCast, BitVec.toNat_or, BitVec.toNat_ofNat, BitVec.toNat_ofNat]
  rw [Nat.mod_eq_of_lt (by omega), Nat.mod_eq_of_lt (by omega)]
  have e4 : 256 * x ||| c = 256 * x + c := by
    have := Nat.two_pow_add_eq_or_of_lt (i := 8) (b := c) (by omega) x
    simpa using this.symm
  rw [e4, wrap_u64 (by omega) (by omega)]
  congr 1; omega

theorem take_tail {h : H} {v : AV} {c : UInt8} {r : List UInt8} (b : Bytes h v (c :: r)) (h8 : c.toNat ≤ 8) (hlen : c.toNat ≤ r.length) {R : AOut → H → Prop}
    (hR : R (.val (.tup [.int .u64 (be (r.take c.toNat) : Nat), .int .i64 (1 + c.toNat : Nat), .int .i64 0])) h) {s : S} (hs : s 0 = v) :
    WS E0 ((ACode.ops f71_r9).seq (((ACode.ops f71_r10).seq (ACode.block 1 f71_l15.loop)).seq ((ACode.draw f71_r16).seq ACode.ret))) [] (atEnd f71_a.results R) s h := by
  have hc := c.toNat_lt
  obtain ⟨p, hp1, hp2⟩ := b.at (i := 0) (by simp) .i64
  have hp1' : indexAddrA 1 v (.int .i64 0) = some p := hp1
  have hp3 : (byteCells (c :: r))[0]? = some (.int .u8 c.toNat) := rfl
  rw [hp3] at hp2
  have e0 : IntKind.u8.wrap (1 + (c.toNat : Int)) = ((1 + c.toNat : Nat) : Int) := by rw [wrap_u8 (by omega) (by omega)]; omega
  have hb : bounds (c :: r).length (some (.int .i64 1)) (some (.int .u8 ((1 + c.toNat : Nat) : Int))) = some (1, 1 + c.toNat) := by
    simp only [bounds, List.length_cons]
    rw [if_pos (by omega)]
    simp only [Int.toNat_natCast]
    rw [if_pos (by omega)]
    rfl
  obtain ⟨w, hw1, hw2, _⟩ := b.cut (lo := 1) (hi := 1 + c.toNat) (by omega) (by simp; omega) _ _ hb
  have hwb : Bytes h w (r.take c.toNat) := by
    have e1 : ((byteCells (c :: r)).drop (1 * 1)).take ((1 + c.toNat - 1) * 1) = byteCells (r.take c.toNat) := by
      simp [byteCells, List.map_take]
    have e2 : (r.take c.toNat).length = 1 + c.toNat - 1 := by simp; omega
    unfold Bytes
    rw [e2, ← e1]; exact hw2
  have hwl : (r.take c.toNat).length = c.toNat := by simp; omega
  refine WS_of_seq (WS_of_ops ?_)
  simp only [f71_r9, go_sem, ↓reduceIte]
  refine WS_of_seq (WS_of_seq (WS_of_ops ?_))
  simp only [f71_r10, go_sem, ↓reduceIte, Nat.reduceEqDiff, hs, hp1', hp2, e0, Option.map_some, hw1, hwb.len]
  refine WS_of_block (WS_of_loop (fun n s h' => h' = h ∧ s 0 = v ∧ ∃ i, n = c.toNat - i ∧ i ≤ c.toNat ∧ s 5 = .int .u64 (be ((r.take c.toNat).take i) : Nat) ∧ s 42 = w ∧ s 43 = .int .i64 (c.toNat : Nat) ∧ s 44 = .int .i64 (i : Nat)) ?_ c.toNat ?_)
  · rintro n s h' ⟨rfl, q0, i, rfl, hi, q5, q42, q43, q44⟩
    show WS E0 f71_l15 _ _ _ _
    refine WS_of_seq (WS_of_ops ?_)
    simp only [f71_r11, go_sem, ↓reduceIte, Nat.reduceEqDiff, q43, q44]
    refine WS_of_seq (WS_of_cond ?_)
    simp only [go_sem, ↓reduceIte]
    by_cases hic : i < c.toNat
    · have e3 : (i : Int) < (c.toNat : Int) := by omega
      simp only [e3, decide_true, ↓reduceIte]
      refine WS_of_skip ?_
      simp only [go_sem]
      obtain ⟨p2, g1, g2⟩ := hwb.at (i := i) (by omega) .i64
      have g3 : (byteCells (r.take c.toNat))[i]? = some (.int .u8 ((r.take c.toNat)[i]'(by omega)).toNat) := by
        simp only [byteCells, List.getElem?_map]
        rw [List.getElem?_eq_getElem (by omega)]; rfl
      rw [g3] at g2
      have hx : be ((r.take c.toNat).take i) < 72057594037927936 := by
        have := be_lt ((r.take c.toNat).take i)
        have hl : ((r.take c.toNat).take i).length ≤ 7 := by simp; omega
        have h2 := Nat.pow_le_pow_right (n := 256) (by decide) hl
        have h3 : (256 : Nat) ^ 7 = 72057594037927936 := by decide
        omega
      have hd := ((r.take c.toNat)[i]'(by omega)).toNat_lt
      have hor := or_byte hx (c := ((r.take c.toNat)[i]'(by omega)).toNat) (by omega)
      refine WS_of_seq (WS_of_block (WS_of_seq (WS_of_ops ?_)))
      simp only [f71_r12, go_sem, ↓reduceIte, Nat.reduceEqDiff, q42, q44, g1, g2]
      refine WS_of_ops ?_
      have nn : ¬ ((8 : Int) < 0) := by decide
      simp only [f71_r13, go_sem, ↓reduceIte, Nat.reduceEqDiff, q5, nn, not_false_eq_true, true_and, hor]
      refine WS_of_ops ?_
      have e4 : IntKind.i64.wrap ((i : Int) + 1) = ((i + 1 : Nat) : Int) := by rw [wrap_i64 (by omega) (by omega)]; omega
      simp only [f71_r14, go_sem, ↓reduceIte, Nat.reduceEqDiff, q44, e4]
      refine ⟨c.toNat - (i + 1), by omega, trivial, q0, i + 1, rfl, by omega, ?_, q42, q43, rfl⟩
      rw [List.take_add_one, List.getElem?_eq_getElem (by omega)]
      simp only [Option.toList_some, be_snoc]
      exact congrArg (AV.int .u64) hor
    · have e3 : ¬ (i : Int) < (c.toNat : Int) := by omega
      have hie : i = c.toNat := by omega
      subst hie
      simp only [e3, decide_false, Bool.false_eq_true, ↓reduceIte]
      refine WS_of_exit ?_
      simp only [go_sem, ↓reduceIte]
      refine WS_of_seq (WS_of_draw ?_)
      have e5 : IntKind.i64.wrap (c.toNat : Int) = (c.toNat : Int) := wrap_i64 (by omega) (by omega)
      have e6 : IntKind.i64.wrap (1 + (c.toNat : Int)) = ((1 + c.toNat : Nat) : Int) := by rw [wrap_i64 (by omega) (by omega)]; omega
      simp only [f71_r16, go_sem, ↓reduceIte, Nat.reduceEqDiff, q0, q5, hp1', hp2, e5, e6, true_and]
      refine WS_of_ret ?_
      simp only [go_sem, f71_a, Nat.reduceEqDiff, ↓reduceIte]
      rw [List.take_take, Nat.min_self]
      exact hR
  · refine ⟨rfl, ?_, 0, rfl, by omega, ?_, ?_, ?_, ?_⟩
    · simp only [go_sem, ↓reduceIte, Nat.reduceEqDiff, hs]
    · simp only [go_sem, ↓reduceIte, Nat.reduceEqDiff]; rfl
    · simp only [go_sem, ↓reduceIte, Nat.reduceEqDiff]
    · simp only [go_sem, ↓reduceIte, Nat.reduceEqDiff, hwl]
    · simp only [go_sem, ↓reduceIte, Nat.reduceEqDiff]; rfl

theorem take_spec {h : H} {v : AV} {bs : List UInt8} (b : Bytes h v bs) (hl : bs.length < 4611686018427387904) :
    WCall E0 71 [v] h fun r h' => h' = h ∧ r = .val (.tup [.int .u64 (takeB bs).1, .int .i64 (takeB bs).2.1, .int .i64 (takeB bs).2.2]) := by
  refine WCall_ws (ovn 71) U71 (by simp [f71_a]) ?_
  show WS E0 f71_c [] _ _ _
  refine WS_of_seq (WS_of_ops ?_)
  simp only [f71_r0, go_sem, ↓reduceIte]
  refine WS_of_seq (WS_of_block (WS_of_seq (WS_of_ops ?_)))
  simp only [f71_r1, go_sem, ↓reduceIte, Nat.reduceEqDiff, b.len, Option.map_some]
  refine WS_of_cond ?_
  simp only [go_sem, ↓reduceIte]
  cases bs with
  | nil =>
    simp only [List.length_nil, if_true, decide_true, Int.ofNat_zero, Int.natCast_zero]
    refine WS_of_seq (WS_of_ops ?_)
    simp only [f71_r2, go_sem, ↓reduceIte]
    refine WS_of_ret ?_
    simp only [go_sem, f71_a, Nat.reduceEqDiff, ↓reduceIte]
    simp [takeB]
  | cons c r =>
    have e1 : ¬ (((c :: r).length : Int) = 0) := by simp; omega
    have hc := c.toNat_lt
    simp only [e1, decide_false, Bool.false_eq_true, if_false]
    refine WS_of_seq (WS_of_ops ?_)
    obtain ⟨p, hp1, hp2⟩ := b.at (i := 0) (by simp) .i64
    have hp1' : indexAddrA 1 v (.int .i64 0) = some p := hp1
    have hp3 : (byteCells (c :: r))[0]? = some (.int .u8 c.toNat) := rfl
    rw [hp3] at hp2
    simp only [f71_r3, go_sem, ↓reduceIte, Nat.reduceEqDiff, hp1', hp2]
    refine WS_of_cond ?_
    simp only [go_sem, ↓reduceIte]
    by_cases h8 : 8 < c.toNat
    · have e2 : (8 : Int) < (c.toNat : Int) := by omega
      simp only [e2, decide_true, if_true]
      refine WS_of_seq (WS_of_ops ?_)
      simp only [f71_r4, go_sem, ↓reduceIte]
      refine WS_of_ret ?_
      simp only [go_sem, f71_a, Nat.reduceEqDiff, ↓reduceIte]
      simp [takeB, h8]
    · have e2 : ¬ (8 : Int) < (c.toNat : Int) := by omega
      simp only [e2, decide_false, Bool.false_eq_true, if_false]
      refine WS_of_seq (WS_of_ops ?_)
      have e3 : IntKind.i64.wrap (((c :: r).length : Int) - 1) = (r.length : Int) := by
        rw [wrap_i64 (by simp only [List.length_cons]; omega) (by simp only [List.length_cons] at hl ⊢; omega), List.length_cons]; omega
      have e4 : IntKind.i64.wrap (c.toNat : Int) = (c.toNat : Int) := wrap_i64 (by omega) (by omega)
      simp only [f71_r5, go_sem, ↓reduceIte, Nat.reduceEqDiff, hp1', hp2, b.len, Option.map_some, e3, e4]
      refine WS_of_cond ?_
      simp only [go_sem, ↓reduceIte]
      by_cases hlen : r.length < c.toNat
      · have e5 : (r.length : Int) < (c.toNat : Int) := by omega
        simp only [e5, decide_true, if_true]
        refine WS_of_seq (WS_of_ops ?_)
        simp only [f71_r6, go_sem, ↓reduceIte]
        refine WS_of_ret ?_
        simp only [go_sem, f71_a, Nat.reduceEqDiff, ↓reduceIte]
        simp [takeB, h8, hlen]
      · have e5 : ¬ (r.length : Int) < (c.toNat : Int) := by omega
        simp only [e5, decide_false, Bool.false_eq_true, if_false]
        refine WS_of_seq (WS_of_ops ?_)
        by_cases hz : c.toNat = 0
        · have e6 : ¬ (0 : Int) < (c.toNat : Int) := by omega
          simp only [f71_r7, go_sem, ↓reduceIte, Nat.reduceEqDiff, hp1', hp2, e6, decide_false, AV.bool.injEq, Bool.false_eq_true, reduceCtorEq]
          refine WS_of_cond ?_
          simp only [go_sem, ↓reduceIte, Bool.false_eq_true]
          refine WS_of_skip ?_
          simp only [go_sem]
          refine take_tail b (by omega) (by omega) ?_ (by simp only [go_sem, ↓reduceIte, Nat.reduceEqDiff])
          simp [takeB, hz, h8]
        · have e6 : (0 : Int) < (c.toNat : Int) := by omega
          obtain ⟨d, r', rfl⟩ : ∃ d r', r = d :: r' := by
            cases r with
            | nil => simp at hlen; omega
            | cons d r' => exact ⟨d, r', rfl⟩
          obtain ⟨q, hq1, hq2⟩ := b.at (i := 1) (by simp) .i64
          have hq1' : indexAddrA 1 v (.int .i64 1) = some q := hq1
          have hq3 : (byteCells (c :: d :: r'))[1]? = some (.int .u8 d.toNat) := rfl
          rw [hq3] at hq2
          simp only [f71_r7, go_sem, ↓reduceIte, Nat.reduceEqDiff, hp1', hp2, hq1', hq2, e6, decide_true, AV.bool.injEq]
          refine WS_of_cond ?_
          simp only [go_sem, ↓reduceIte]
          have hdl := d.toNat_lt
          by_cases hd0 : d.toNat = 0
          · have e7 : ((d.toNat : Int) = 0) := by omega
            simp only [e7, decide_true, ↓reduceIte]
            refine WS_of_seq (WS_of_ops ?_)
            simp only [f71_r8, go_sem, ↓reduceIte]
            refine WS_of_ret ?_
            simp only [go_sem, f71_a, Nat.reduceEqDiff, ↓reduceIte]
            have hd1 : d = 0 := by apply UInt8.toNat_inj.1; simpa using hd0
            have hz' : 0 < c.toNat := by omega
            have hlen' : ¬ (r'.length + 1 < c.toNat) := by simpa using hlen
            simp [takeB, h8, hlen', hz', hd1]
          · have e7 : ¬ ((d.toNat : Int) = 0) := by omega
            simp only [e7, decide_false, Bool.false_eq_true, ↓reduceIte]
            refine WS_of_skip ?_
            simp only [go_sem]
            refine take_tail b (by omega) (by omega) ?_ (by simp only [go_sem, ↓reduceIte, Nat.reduceEqDiff])
            have hd1 : ¬ (0 < c.toNat ∧ (d :: r').head? = some 0) := by
              rintro ⟨_, e8⟩
              simp at e8; rw [e8] at hd0; exact hd0 rfl
            simp only [takeB, if_neg h8, if_neg hlen, if_neg hd1]
            simp
end Go.Proofs.Ytmfbememiffkjaa.Ev.C

/- A reader of bytes: its functions, walked. -/
namespace Go.Proofs.Ytmfbememiffkjaa.Ev.C
open Go Go.Proofs.Ytmfbememiffkjaa.Ev
set_option linter.unusedSimpArgs false
set_option linter.unusedVariables false
/-! ### by plain definition -/
abbrev RS := List UInt8 × Nat
def rNum (s : RS) : Nat × RS := if s.2 ≠ 0 then (0, s) else if (takeB s.1).2.2 ≠ 0 then (0, (s.1, (takeB s.1).2.2)) else ((takeB s.1).1, (s.1.drop (takeB s.1).2.1, 0))
def rText (s : RS) : List UInt8 × RS :=
  if (rNum s).2.2 ≠ 0 then ([], (rNum s).2) else if (rNum s).2.1.length < (rNum s).1 then ([], ((rNum s).2.1, 10)) else ((rNum s).2.1.take (rNum s).1, ((rNum s).2.1.drop (rNum s).1, 0))
def rTexts : Nat → List (List UInt8) → RS → List (List UInt8) × RS
  | 0, acc, s => (acc, s)
  | n + 1, acc, s => if (rText s).2.2 ≠ 0 then ([], (rText s).2) else rTexts n (acc ++ [(rText s).1]) (rText s).2
def rList (most : Int) (s : RS) : List (List UInt8) × RS :=
  if (rNum s).2.2 ≠ 0 then ([], (rNum s).2) else if max most 0 < ((rNum s).1 : Int) then ([], ((rNum s).2.1, 13)) else rTexts (rNum s).1 [] (rNum s).2
def rEnd (s : RS) : Nat := if s.2 ≠ 0 then s.2 else if s.1.length = 0 then 0 else 12

theorem takeB_code (bs : List UInt8) : (takeB bs).2.2 ≤ 11 := by
  cases bs with
  | nil => decide
  | cons c r =>
    simp only [takeB]
    split
    · decide
    · split
      · decide
      · split <;> simp

/-- a reader stands at r: what is left, and its error -/
def Rd (h : H) (r : Nat) (s : RS) : Prop := ∃ v, Box r [v, .int .i64 (s.2 : Int)] h ∧ Bytes h v s.1 ∧ Slot (Old r) h v
theorem Rd.keep {h h' : H} {r : Nat} {s : RS} (a : Rd h r s) (k : Keep (Old (r + 1)) h h') : Rd h' r s := by
  obtain ⟨v, b, c, d⟩ := a
  have hr : Old (r + 1) r := Nat.lt_succ_self r
  have d' : Slot (Old (r + 1)) h v := d.mono fun o ho => Nat.lt_succ_of_lt ho
  exact ⟨v, b.keep k hr, c.keep k d', d.keep (k.less (Nat.le_succ r)) fun o ho => ho⟩

/-- slices.Clone of bytes -/
theorem clone_spec {h : H} {v : AV} {bs : List UInt8} (wf : h.Wf) (b : Bytes h v bs) (sl : Slot (Old h.n) h v) (hl : bs.length < 4294967296) :
    WCall E0 50 [v] h fun r h' => ∃ v', r = .val v' ∧ Bytes h' v' bs ∧ Own h.n h' v' ∧ Keep (Old h.n) h h' := by
  refine WCall_ws (ovn 50) U50 (by simp [f50_a]) ?_
  show WS E0 f50_c [] _ _ _
  refine WS_of_seq (WS_of_ops ?_)
  simp only [f50_r0, go_sem, ↓reduceIte]
  refine WS_of_seq (WS_of_seq (WS_of_ops ?_))
  have hlen := b.len
  cases v <;> simp only [lenSA] at hlen <;> (try (cases hlen; done))
  case nils =>
    simp only [f50_r1, go_sem, ↓reduceIte, Nat.reduceEqDiff]
    refine WS_of_cond ?_
    simp only [go_sem, ↓reduceIte, Bool.false_eq_true]
    refine WS_of_seq (WS_of_ops ?_)
    simp only [f50_r2, go_sem, ↓reduceIte]
    refine WS_of_ret ?_
    simp only [go_sem, f50_a, ↓reduceIte, Nat.reduceEqDiff]
    exact ⟨_, rfl, b, trivial, Keep.refl _ _⟩
  case slice o i len es =>
    simp only [f50_r1, go_sem, ↓reduceIte, Nat.reduceEqDiff]
    refine WS_of_cond ?_
    simp only [go_sem, ↓reduceIte, Bool.false_eq_true]
    refine WS_of_skip ?_
    simp only [go_sem]
    refine WS_of_seq (WS_of_ops ?_)
    have ea : afill (zeros [AV.int .u8 0] (0 * 1)) [] = some [] := rfl
    have kn : Keep (Old h.n) h (h.new []) := Keep.new (Nat.le_refl _) _
    have b0 : Bytes (h.new []) (.slice h.n 0 0 1) [] := Sl.new (n := 0) (es := 1) wf (vs := []) (by simp)
    have o0 : Own h.n (h.new []) (.slice h.n 0 0 1) := Own.new wf (Nat.le_refl _) (by simp)
    obtain ⟨v2, h2, a2, b2, o2, k2⟩ := b0.app (kn.wf wf) kn.n o0 (b.keep kn sl) (by simpa using hl)
    simp only [f50_r3, go_sem, ↓reduceIte, Nat.reduceEqDiff, ea, a2]
    refine WS_of_ret ?_
    simp only [go_sem, f50_a, ↓reduceIte, Nat.reduceEqDiff]
    exact ⟨_, rfl, b2, o2, kn.trans k2⟩

/-- fields.Open -/
theorem open_spec {h : H} {v : AV} {bs : List UInt8} (wf : h.Wf) (b : Bytes h v bs) (sl : Slot (Old h.n) h v) (hl : bs.length < 4294967296) :
    WCall E0 66 [v] h fun r h' => ∃ o, r = .val (.ptr o 0) ∧ Rd h' o (bs, 0) ∧ h.n ≤ o ∧ Keep (Old h.n) h h' := by
  refine WCall_ws (ovn 66) U66 (by simp [f66_a]) ?_
  show WS E0 f66_c [] _ _ _
  refine WS_of_seq (WS_of_ops ?_)
  simp only [f66_r0, go_sem, ↓reduceIte]
  refine WS_of_seq (WS_of_ops ?_)
  simp only [f66_r1, go_sem, ↓reduceIte, Nat.reduceEqDiff]
  refine (clone_spec wf b sl hl).mono ?_
  rintro r h1 ⟨v1, rfl, b1, o1, k1⟩
  have ea : v1.one = true → afill [AV.nils, AV.int .i64 0] [(0, 1, v1)] = some [v1, .int .i64 0] := by
    intro e
    cases v1 <;> first | rfl | cases e
  have e1 : v1.one = true := by
    cases v1 <;> first | rfl | exact o1.elim
  simp only [go_sem, ↓reduceIte, Nat.reduceEqDiff, ea e1, AV.cells]
  refine WS_of_ret ?_
  simp only [go_sem, f66_a, ↓reduceIte, Nat.reduceEqDiff]
  have wf1 := k1.wf wf
  have kn : Keep (Old h1.n) h1 (h1.new [v1, .int .i64 0]) := Keep.new (Nat.le_refl _) _
  exact ⟨_, rfl, ⟨v1, Box.new wf1 _, b1.keep kn (o1.slot wf1), (o1.slot wf1).keep kn fun o ho => ho⟩, k1.n, k1.then (Nat.le_refl _) kn⟩

/-- Err -/
theorem err_spec {h : H} {r : Nat} {s : RS} (a : Rd h r s) : WCall E0 68 [.ptr r 0] h fun x h' => h' = h ∧ x = .val (.int .i64 (s.2 : Int)) := by
  obtain ⟨v, b, c, d⟩ := a
  refine WCall_ws (ovn 68) U68 (by simp [f68_a]) ?_
  show WS E0 f68_c [] _ _ _
  refine WS_of_seq (WS_of_ops ?_)
  simp only [f68_r0, go_sem, ↓reduceIte]
  refine WS_of_seq (WS_of_seq (WS_of_ops ?_))
  simp only [f68_r1, go_sem, ↓reduceIte, Nat.reduceEqDiff, Bool.false_eq_true]
  refine WS_of_cond ?_
  simp only [go_sem, ↓reduceIte, Bool.false_eq_true]
  refine WS_of_skip ?_
  simp only [go_sem]
  refine WS_of_seq (WS_of_ops ?_)
  simp only [f68_r3, go_sem, ↓reduceIte, Nat.reduceEqDiff, Nat.zero_add, b.load]
  refine WS_of_ret ?_
  simp only [go_sem, f68_a, ↓reduceIte, Nat.reduceEqDiff, true_and]
/-- Left -/
theorem KeepA.box {h h' : H} {r : Nat} (k : KeepA [r] h h') (wf : h.Wf) (hr : r ≤ h.n) : Keep (Old r) h h' := k.old wf hr (by simp)
/-- fails -/
theorem fails_spec {h : H} {r : Nat} {s : RS} (wf : h.Wf) (a : Rd h r s) (is : Bool) (e : Nat) (he : is = true → e ≠ 0) :
    WCall E0 72 [.ptr r 0, .bool is, .int .i64 (e : Int)] h fun x h' => x = .val (.bool (decide (s.2 ≠ 0 ∨ is = true))) ∧ Rd h' r (s.1, if s.2 = 0 ∧ is = true then e else s.2) ∧ KeepA [r] h h' := by
  obtain ⟨v, b, c, d⟩ := a
  refine WCall_ws (ovn 72) U72 (by simp [f72_a]) ?_
  show WS E0 f72_c [] _ _ _
  refine WS_of_seq (WS_of_ops ?_)
  simp only [f72_r0, go_sem, ↓reduceIte]
  refine WS_of_seq (WS_of_seq (WS_of_ops ?_))
  cases is with
  | false =>
    simp only [f72_r1, go_sem, ↓reduceIte, Nat.reduceEqDiff, Bool.false_eq_true]
    refine WS_of_cond ?_
    simp only [go_sem, ↓reduceIte, Bool.false_eq_true]
    refine WS_of_skip ?_
    simp only [go_sem]
    refine WS_of_seq (WS_of_ops ?_)
    simp only [f72_r3, go_sem, ↓reduceIte, Nat.reduceEqDiff, Nat.zero_add, b.load]
    refine WS_of_ret ?_
    simp only [go_sem, f72_a, ↓reduceIte, Nat.reduceEqDiff, Bool.false_eq_true, or_false, and_false]
    refine ⟨?_, ⟨v, b, c, d⟩, KeepA.refl _ _⟩
    by_cases c1 : s.2 = 0
    · simp [c1]
    · have c1' : ¬ ((s.2 : Nat) : Int) = 0 := by omega
      simp [c1]
  | true =>
    by_cases c1 : s.2 = 0
    · have c1' : ((s.2 : Nat) : Int) = 0 := by omega
      simp only [f72_r1, go_sem, ↓reduceIte, Nat.reduceEqDiff, Nat.zero_add, b.load, c1', decide_true]
      refine WS_of_cond ?_
      simp only [go_sem, ↓reduceIte]
      refine WS_of_ops ?_
      obtain ⟨h1, e1, b1, k1⟩ := b.put wf (i := 1) (n := 1) (v := .int .i64 (e : Int)) rfl rfl (by simp)
      simp only [f72_r2, go_sem, ↓reduceIte, Nat.reduceEqDiff, Nat.zero_add, e1]
      have b1' : Box r [v, .int .i64 (e : Int)] h1 := b1
      refine WS_of_seq (WS_of_ops ?_)
      simp only [f72_r3, go_sem, ↓reduceIte, Nat.reduceEqDiff, Nat.zero_add, b1'.load]
      refine WS_of_ret ?_
      have hn := he rfl
      have hn' : ¬ (e : Int) = 0 := by omega
      simp only [go_sem, f72_a, ↓reduceIte, Nat.reduceEqDiff, c1, hn', decide_false, Bool.not_false, or_true, decide_true, true_and, and_self]
      have ko := KeepA.box k1 wf (Nat.le_of_lt (b.lt wf))
      exact ⟨⟨v, b1', c.keep ko d, d.keep ko fun o ho => ho⟩, k1⟩
    · have c1' : ¬ ((s.2 : Nat) : Int) = 0 := by omega
      simp only [f72_r1, go_sem, ↓reduceIte, Nat.reduceEqDiff, Nat.zero_add, b.load, c1', decide_false, Bool.false_eq_true]
      refine WS_of_cond ?_
      simp only [go_sem, ↓reduceIte, Bool.false_eq_true]
      refine WS_of_skip ?_
      simp only [go_sem]
      refine WS_of_seq (WS_of_ops ?_)
      simp only [f72_r3, go_sem, ↓reduceIte, Nat.reduceEqDiff, Nat.zero_add, b.load]
      refine WS_of_ret ?_
      simp only [go_sem, f72_a, ↓reduceIte, Nat.reduceEqDiff, c1, c1', decide_false, Bool.not_false, or_true, decide_true, true_and, false_and]
      exact ⟨⟨v, b, c, d⟩, KeepA.refl _ _⟩

/-- Num -/
theorem num_spec {h : H} {r : Nat} {s : RS} (wf : h.Wf) (a : Rd h r s) (hl : s.1.length < 4294967296) :
    WCall E0 67 [.ptr r 0] h fun x h' => x = .val (.int .u64 ((rNum s).1 : Int)) ∧ Rd h' r (rNum s).2 ∧ KeepA [r] h h' := by
  refine WCall_ws (ovn 67) U67 (by simp [f67_a]) ?_
  show WS E0 f67_c [] _ _ _
  refine WS_of_seq (WS_of_ops ?_)
  simp only [f67_r0, go_sem, ↓reduceIte]
  refine WS_of_seq (WS_of_seq (WS_of_ops ?_))
  simp only [f67_r1, go_sem, ↓reduceIte, Nat.reduceEqDiff]
  refine (err_spec a).mono ?_
  rintro x h' ⟨rfl, rfl⟩
  simp only [go_sem, ↓reduceIte, Nat.reduceEqDiff]
  refine WS_of_cond ?_
  simp only [go_sem, ↓reduceIte, Nat.reduceEqDiff]
  by_cases c1 : s.2 = 0
  case neg =>
    have c1' : ¬ ((s.2 : Nat) : Int) = 0 := by omega
    simp only [c1', decide_false, Bool.not_false, ↓reduceIte]
    refine WS_of_seq (WS_of_ops ?_)
    simp only [f67_r2, go_sem, ↓reduceIte, Nat.reduceEqDiff]
    refine WS_of_ret ?_
    have e : rNum s = (0, s) := by simp [rNum, c1]
    simp only [go_sem, f67_a, ↓reduceIte, Nat.reduceEqDiff, e]
    exact ⟨rfl, a, KeepA.refl _ _⟩
  have c1' : ((s.2 : Nat) : Int) = 0 := by omega
  simp only [c1', decide_true, Bool.not_true, Bool.false_eq_true, ↓reduceIte]
  refine WS_of_skip ?_
  simp only [go_sem]
  refine WS_of_seq (WS_of_ops ?_)
  have a0 := a
  obtain ⟨v, b, c, d⟩ := a0
  simp only [f67_r3, go_sem, ↓reduceIte, Nat.reduceEqDiff, Nat.zero_add, b.load]
  refine (take_spec c (by omega)).mono ?_
  rintro x h1 ⟨rfl, rfl⟩
  simp only [go_sem, ↓reduceIte, Nat.reduceEqDiff]
  refine WS_of_seq (WS_of_seq (WS_of_ops ?_))
  have ed : (!decide (((takeB s.1).2.2 : Int) = 0)) = decide ((takeB s.1).2.2 ≠ 0) := by
    by_cases q : (takeB s.1).2.2 = 0
    · simp [q]
    · have : ¬ ((takeB s.1).2.2 : Int) = 0 := by omega
      simp [q]
  simp only [f67_r4, go_sem, ↓reduceIte, Nat.reduceEqDiff, ed]
  refine (fails_spec wf a (decide ((takeB s.1).2.2 ≠ 0)) (takeB s.1).2.2 (by simp)).mono ?_
  rintro x h2 ⟨rfl, r2, k2⟩
  simp only [go_sem, ↓reduceIte, Nat.reduceEqDiff]
  refine WS_of_cond ?_
  simp only [go_sem, ↓reduceIte, Nat.reduceEqDiff]
  by_cases c2 : (takeB s.1).2.2 = 0
  case neg =>
    simp only [c1, c2, ne_eq, not_true_eq_false, not_false_eq_true, decide_true, or_true, ↓reduceIte, true_and] at r2 ⊢
    refine WS_of_seq (WS_of_ops ?_)
    simp only [f67_r5, go_sem, ↓reduceIte, Nat.reduceEqDiff]
    refine WS_of_ret ?_
    have e : rNum s = (0, (s.1, (takeB s.1).2.2)) := by simp [rNum, c1, c2]
    simp only [go_sem, f67_a, ↓reduceIte, Nat.reduceEqDiff, e]
    exact ⟨rfl, r2, k2⟩
  simp only [c1, c2, ne_eq, not_true_eq_false, decide_false, Bool.false_eq_true, or_false, and_false, ↓reduceIte] at r2 ⊢
  refine WS_of_skip ?_
  simp only [go_sem]
  refine WS_of_seq (WS_of_ops ?_)
  have wf2 := k2.wf wf
  obtain ⟨v', b', c', d'⟩ := r2
  obtain ⟨q1, q2, q3, q4⟩ := takeB_ok s.1 c2
  obtain ⟨w, ew, bw, sw⟩ := Bytes.drop c' q3 .i64
  have w1 : w.one = true := by
    have := bw.len
    cases w <;> first | rfl | cases this
  have wc : w.cells = [w] := by cases w <;> first | rfl | cases w1
  obtain ⟨h3, e3, b3, k3⟩ := b'.put wf2 (i := 0) (n := 1) (v := w) (by rw [wc]; rfl) (by rw [wc]; simp [w1]) (by simp)
  simp only [f67_r6, go_sem, ↓reduceIte, Nat.reduceEqDiff, Nat.zero_add, b'.load, ew, e3]
  refine WS_of_seq (WS_of_ops ?_)
  simp only [f67_r7, go_sem, ↓reduceIte, Nat.reduceEqDiff]
  refine WS_of_ret ?_
  have e : rNum s = ((takeB s.1).1, (s.1.drop (takeB s.1).2.1, 0)) := by simp [rNum, c1, c2]
  simp only [go_sem, f67_a, ↓reduceIte, Nat.reduceEqDiff, e, true_and]
  rw [wc] at b3
  have ko := KeepA.box k3 wf2 (Nat.le_of_lt (b'.lt wf2))
  refine ⟨⟨w, b3, bw.keep ko (sw _ d'), (sw _ d').keep ko fun o ho => ho⟩, ?_⟩
  exact KeepA.then wf k2 k3 fun g hg => .inl hg
end Go.Proofs.Ytmfbememiffkjaa.Ev.C
