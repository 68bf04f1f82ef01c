/- The references of layer 1: numbers, texts and lists as texts, and what is taken, walked. -/
import Derived.Test.YthhibhhpcjggnabTPlainB
import Derived.Test.YthhibhhpcjggnabEv27
namespace Go.Proofs.Ythhibhhpcjggnab.Ev.C
open Go Go.Proofs.Ythhibhhpcjggnab.Ev
set_option linter.unusedSimpArgs false
set_option linter.unusedVariables false
/-- the last digits of a number -/
def digs (x i : Nat) : List UInt8 := (List.range i).map fun j => UInt8.ofNat (x / 256 ^ (i - 1 - j))
theorem digs_succ (x i : Nat) : digs x (i + 1) = UInt8.ofNat (x / 256 ^ i) :: digs x i := by
  unfold digs
  rw [List.range_succ_eq_map, List.map_cons, List.map_map]
  congr 1
  refine List.map_congr_left fun j hj => ?_
  show UInt8.ofNat (x / 256 ^ (i + 1 - 1 - (j + 1))) = _
  congr 3
  omega
theorem digs_nb (x : Nat) : digs x (nb x) = bytesB x := rfl
theorem digs_length (x i : Nat) : (digs x i).length = i := by simp [digs]
theorem refNum_spec {h : H} {x : Nat} (wf : h.Wf) (hx : x < 18446744073709551616) :
    WCall E0 13 [.int .u64 (x : Int)] h fun r h' => r = .val (.str (num x)) ∧ Keep (Old h.n) h h' := by
  have h8 := nb_le8 hx
  refine WCall_ws rfl T13 (by simp [f13_a]) ?_
  show WS E0 f13_c [] _ _ _
  refine WS_of_seq (WS_of_ops ?_)
  simp only [f13_r0, go_sem, ↓reduceIte]
  refine WS_of_seq (WS_of_ops ?_)
  simp only [f13_r1, go_sem, ↓reduceIte, Nat.reduceEqDiff]
  refine WS_of_seq (WS_of_seq (WS_of_ops ?_))
  simp only [f13_r2, go_sem, ↓reduceIte, Nat.reduceEqDiff]
  have p0 : (256 : Nat) ^ 0 = 1 := rfl
  refine WS_of_block (WS_of_loop (fun m q h1 => ∃ i, m = nb x - i ∧ i ≤ nb x ∧ Keep (Old h.n) h h1 ∧ q 3 = .str (digs x i) ∧ q 4 = .int .u64 ((x / 256 ^ i : Nat) : Int)) ?_ (nb x) ?_)
  · rintro m q h1 ⟨i, rfl, hi, k1, q3, q4⟩
    have wf1 := k1.wf wf
    show WS E0 f13_l6 _ _ _ _
    refine WS_of_seq (WS_of_seq (WS_of_ops ?_))
    simp only [f13_r3, go_sem, ↓reduceIte, Nat.reduceEqDiff, q4]
    refine WS_of_cond ?_
    simp only [go_sem, ↓reduceIte]
    by_cases hil : i < nb x
    · have hx0 : 0 < x := by
        rcases Nat.eq_zero_or_pos x with h | h
        · subst h; simp [nb] at hil
        · exact h
      have hle := nb_le hx0
      have hq : 0 < x / 256 ^ i := by
        refine Nat.div_pos (Nat.le_trans (Nat.pow_le_pow_right (by decide) (by omega)) hle) (Nat.pow_pos (by decide))
      have hlt : x / 256 ^ i < 18446744073709551616 := Nat.lt_of_le_of_lt (Nat.div_le_self _ _) hx
      have c1 : (0 : Int) < ((x / 256 ^ i : Nat) : Int) := by omega
      simp only [c1, decide_true, ↓reduceIte]
      refine WS_of_skip ?_
      simp only [go_sem]
      refine WS_of_seq (WS_of_block (WS_of_ops ?_))
      have e0 : ((256 : Int) = 0) = False := by simp
      have em : ((x / 256 ^ i : Nat) : Int).tmod 256 = ((x / 256 ^ i % 256 : Nat) : Int) := by rw [Int.tmod_eq_emod_of_nonneg (Int.natCast_nonneg _)]; rfl
      have ew : IntKind.u8.wrap ((x / 256 ^ i % 256 : Nat) : Int) = ((UInt8.ofNat (x / 256 ^ i)).toNat : Int) := by
        rw [wrap_u8_nat]; congr 1; simp
      have bs := (byte_new wf1 (UInt8.ofNat (x / 256 ^ i))).str
      have eb : ([UInt8.ofNat (x / 256 ^ i)].length + (digs x i).length ≤ big) = True := by
        simp only [digs_length, big, List.length_cons, List.length_nil, eq_iff_iff, iff_true]; omega
      simp only [f13_r4, go_sem, ↓reduceIte, Nat.reduceEqDiff, q3, q4, e0, em, ew, bs, eb, not_false_eq_true, true_and]
      refine WS_of_ops ?_
      have eq : ((x / 256 ^ i : Nat) : Int).tdiv 256 = ((x / 256 ^ (i + 1) : Nat) : Int) := by
        rw [Int.tdiv_eq_ediv_of_nonneg (Int.natCast_nonneg _), Nat.pow_succ, ← Nat.div_div_eq_div_mul]; rfl
      have hlt2 : x / 256 ^ (i + 1) < 18446744073709551616 := Nat.lt_of_le_of_lt (Nat.div_le_self _ _) hx
      have eq2 : IntKind.u64.wrap ((x / 256 ^ (i + 1) : Nat) : Int) = ((x / 256 ^ (i + 1) : Nat) : Int) := wrapN hlt2
      simp only [f13_r5, go_sem, ↓reduceIte, Nat.reduceEqDiff, q4, e0, eq, eq2, not_false_eq_true, true_and]
      refine ⟨nb x - (i + 1), by omega, i + 1, rfl, by omega, k1.trans ((Keep.new (Nat.le_refl _) _).less k1.n), ?_, rfl⟩
      rw [digs_succ]; rfl
    · have hie : i = nb x := by omega
      subst hie
      have hz : x / 256 ^ nb x = 0 := Nat.div_eq_of_lt (lt_nb x)
      have c1 : ¬ (0 : Int) < ((x / 256 ^ nb x : Nat) : Int) := by rw [hz]; decide
      simp only [c1, decide_false, ↓reduceIte, Bool.false_eq_true]
      refine WS_of_exit ?_
      simp only [go_sem, ↓reduceIte]
      refine WS_of_seq (WS_of_ops ?_)
      have ew : IntKind.u8.wrap ((digs x (nb x)).length : Int) = ((UInt8.ofNat (nb x)).toNat : Int) := by rw [digs_length]; exact wrap_u8_nat _
      have bs := (byte_new wf1 (UInt8.ofNat (nb x))).str
      have eb : ([UInt8.ofNat (nb x)].length + (digs x (nb x)).length ≤ big) = True := by
        simp only [digs_length, big, List.length_cons, List.length_nil, eq_iff_iff, iff_true]; omega
      simp only [f13_r7, go_sem, ↓reduceIte, Nat.reduceEqDiff, q3, ew, bs, eb, true_and]
      refine WS_of_ret ?_
      simp only [go_sem, f13_a, ↓reduceIte, Nat.reduceEqDiff]
      exact ⟨rfl, k1.trans ((Keep.new (Nat.le_refl _) _).less k1.n)⟩
  · refine ⟨0, rfl, by omega, Keep.refl _ _, ?_, ?_⟩ <;> simp only [go_sem, ↓reduceIte, Nat.reduceEqDiff, p0, Nat.div_one] <;> rfl
/-- Text -/
theorem refText_spec {h : H} {t : List UInt8} (wf : h.Wf) (ht : t.length ≤ 1000000000000) :
    WCall E0 40 [.str t] h fun r h' => r = .val (.str (txt t)) ∧ Keep (Old h.n) h h' := by
  refine WCall_ws rfl T40 (by simp [f40_a]) ?_
  show WS E0 f40_c [] _ _ _
  refine WS_of_seq (WS_of_ops ?_)
  simp only [f40_r0, go_sem, ↓reduceIte]
  refine WS_of_seq (WS_of_ops ?_)
  have ew : IntKind.u64.wrap (t.length : Int) = (t.length : Int) := wrap_u64 (by omega) (by omega)
  simp only [f40_r1, go_sem, ↓reduceIte, Nat.reduceEqDiff, ew]
  refine (refNum_spec wf (by omega)).mono ?_
  rintro r h1 ⟨rfl, k1⟩
  have nl := num_len9 (x := t.length) (by omega)
  have eb : ((num t.length).length + t.length ≤ big) = True := by simp only [big, eq_iff_iff, iff_true]; omega
  simp only [go_sem, ↓reduceIte, Nat.reduceEqDiff, eb, true_and]
  refine WS_of_ret ?_
  simp only [go_sem, f40_a, ↓reduceIte, Nat.reduceEqDiff]
  exact ⟨rfl, k1⟩
/-- Texts -/
theorem refTexts_spec {h : H} {v : AV} {l : List (List UInt8)} {M : Nat} (wf : h.Wf) (b : Strs h v l) (sl : Slot (Old h.n) h v) (hM : M ≤ 1000000) (hl : ∀ t ∈ l, t.length ≤ M) (hbig : (M + 9) * l.length ≤ 4000000000) :
    WCall E0 18 [v] h fun x h' => x = .val (.str (txts l)) ∧ Keep (Old h.n) h h' := by
  have hll : l.length ≤ 4000000000 := by
    have : 1 * l.length ≤ (M + 9) * l.length := Nat.mul_le_mul_right _ (by omega)
    omega
  refine WCall_ws rfl T18 (by simp [f18_a]) ?_
  show WS E0 f18_c [] _ _ _
  refine WS_of_seq (WS_of_ops ?_)
  simp only [f18_r0, go_sem, ↓reduceIte]
  refine WS_of_seq (WS_of_ops ?_)
  simp only [f18_r1, go_sem, ↓reduceIte, Nat.reduceEqDiff]
  refine WS_of_seq (WS_of_seq (WS_of_ops ?_))
  simp only [f18_r2, go_sem, ↓reduceIte, Nat.reduceEqDiff]
  refine WS_of_block (WS_of_loop (fun m q h1 => ∃ j, m = l.length - j ∧ j ≤ l.length ∧ Keep (Old h.n) h h1 ∧ q 3 = .str (txts (l.take j)) ∧ q 0 = v ∧ q 4 = .int .i64 (j : Nat)) ?_ l.length ?_)
  · rintro m q h1 ⟨j, rfl, hj, k1, q3, q0, q4⟩
    have wf1 := k1.wf wf
    have b1 := b.keep k1 sl
    show WS E0 f18_l6 _ _ _ _
    refine WS_of_seq (WS_of_seq (WS_of_ops ?_))
    simp only [f18_r3, go_sem, ↓reduceIte, Nat.reduceEqDiff, q0, q4, b1.len]
    refine WS_of_cond ?_
    simp only [go_sem, ↓reduceIte]
    by_cases hjl : j < l.length
    · have e1 : (j : Int) < (l.length : Int) := by omega
      simp only [e1, decide_true, ↓reduceIte]
      refine WS_of_skip ?_
      simp only [go_sem]
      have hx := hl l[j] (List.getElem_mem hjl)
      obtain ⟨p, p1, p2⟩ := b1.at hjl .i64
      refine WS_of_seq (WS_of_block (WS_of_ops ?_))
      simp only [f18_r4, go_sem, ↓reduceIte, Nat.reduceEqDiff, q0, q3, q4, p1, p2]
      refine (refText_spec wf1 (by omega)).mono ?_
      rintro r h2 ⟨rfl, k2⟩
      have tl := txts_len (l := l.take j) hM (fun t ht => hl t (List.mem_of_mem_take ht))
      have tl2 : (M + 9) * (l.take j).length ≤ (M + 9) * l.length := Nat.mul_le_mul_left _ (by rw [List.length_take]; omega)
      have tj := txt_len (t := l[j]) (by omega)
      have eb : ((txts (l.take j)).length + (txt l[j]).length ≤ big) = True := by simp only [big, eq_iff_iff, iff_true]; omega
      simp only [go_sem, ↓reduceIte, Nat.reduceEqDiff, eb, true_and]
      refine WS_of_ops ?_
      have e9 : IntKind.i64.wrap ((j : Int) + 1) = ((j + 1 : Nat) : Int) := by rw [wrap_i64 (by omega) (by omega)]; omega
      simp only [f18_r5, go_sem, ↓reduceIte, Nat.reduceEqDiff, q4, e9]
      exact ⟨l.length - (j + 1), by omega, j + 1, rfl, by omega, k1.trans (k2.less k1.n), by rw [txts_take hjl], q0, rfl⟩
    · have hje : j = l.length := by omega
      subst hje
      simp only [Int.lt_irrefl, decide_false, Bool.false_eq_true, ↓reduceIte]
      refine WS_of_exit ?_
      simp only [go_sem, ↓reduceIte]
      rw [List.take_length] at q3
      refine WS_of_seq (WS_of_ops ?_)
      simp only [f18_r7, go_sem, ↓reduceIte, Nat.reduceEqDiff, q3]
      refine WS_of_ret ?_
      simp only [go_sem, f18_a, ↓reduceIte, Nat.reduceEqDiff]
      exact ⟨trivial, k1⟩
  · refine ⟨0, rfl, by omega, Keep.refl _ _, ?_, ?_, ?_⟩ <;> simp only [go_sem, ↓reduceIte, Nat.reduceEqDiff] <;> rfl
/-- List -/
theorem refList_spec {h : H} {v : AV} {l : List (List UInt8)} {M : Nat} (wf : h.Wf) (b : Strs h v l) (sl : Slot (Old h.n) h v) (hM : M ≤ 1000000) (hl : ∀ t ∈ l, t.length ≤ M) (hbig : (M + 9) * l.length ≤ 4000000000) :
    WCall E0 20 [v] h fun x h' => x = .val (.str (lst l)) ∧ Keep (Old h.n) h h' := by
  have hll : l.length ≤ 4000000000 := by
    have : 1 * l.length ≤ (M + 9) * l.length := Nat.mul_le_mul_right _ (by omega)
    omega
  refine WCall_ws rfl T20 (by simp [f20_a]) ?_
  show WS E0 f20_c [] _ _ _
  refine WS_of_seq (WS_of_ops ?_)
  simp only [f20_r0, go_sem, ↓reduceIte]
  refine WS_of_seq (WS_of_ops ?_)
  have ew : IntKind.u64.wrap (l.length : Int) = (l.length : Int) := wrap_u64 (by omega) (by omega)
  simp only [f20_r1, go_sem, ↓reduceIte, Nat.reduceEqDiff, b.len, ew]
  refine (refNum_spec wf (by omega)).mono ?_
  rintro r h1 ⟨rfl, k1⟩
  simp only [go_sem, ↓reduceIte, Nat.reduceEqDiff]
  refine (refTexts_spec (k1.wf wf) (b.keep k1 sl) (sl.keep k1 fun o ho => Nat.lt_of_lt_of_le ho k1.n) hM hl hbig).mono ?_
  rintro r h2 ⟨rfl, k2⟩
  have nl := num_len9 (x := l.length) (by omega)
  have tl := txts_len hM hl
  have eb : ((num l.length).length + (txts l).length ≤ big) = True := by simp only [big, eq_iff_iff, iff_true]; omega
  simp only [go_sem, ↓reduceIte, Nat.reduceEqDiff, eb, true_and]
  refine WS_of_ret ?_
  simp only [go_sem, f20_a, ↓reduceIte, Nat.reduceEqDiff]
  exact ⟨rfl, k1.then (Nat.le_refl _) k2⟩
end Go.Proofs.Ythhibhhpcjggnab.Ev.C
