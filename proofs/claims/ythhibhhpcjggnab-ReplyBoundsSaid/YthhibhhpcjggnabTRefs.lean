/- The references of layer 1: numbers, texts and lists as texts, and what is taken, walked. -/
import Derived.Test.YthhibhhpcjggnabTPlain
import Derived.Test.YthhibhhpcjggnabEv28
namespace Go.Proofs.Ythhibhhpcjggnab.Ev.C
open Go Go.Proofs.Ythhibhhpcjggnab.Ev
set_option linter.unusedSimpArgs false
set_option linter.unusedVariables false
/-- the last digits of a number -/
def digs (x i : Nat) : List UInt8 := (List.range i).map fun j => UInt8.ofNat (x / 256 ^ (i - 1 - j))
theorem digs_succ (x i : Nat) : digs x (i + 1) = UInt8.ofNat (x / 256 ^ i) :: digs x i := by
  unfold digs
  rw [List.range_succ_eq_map, List.map_cons, List.map_map]
  congr 1
  refine List.map_congr_left fun j hj => ?_
  show UInt8.ofNat (x / 256 ^ (i + 1 - 1 - (j + 1))) = _
  congr 3
  omega
theorem digs_nb (x : Nat) : digs x (nb x) = bytesB x := rfl
theorem digs_length (x i : Nat) : (digs x i).length = i := by simp [digs]
theorem refNum_spec {h : H} {x : Nat} (wf : h.Wf) (hx : x < 18446744073709551616) :
    WCall E0 13 [.int .u64 (x : Int)] h fun r h' => r = .val (.str (num x)) ∧ Keep (Old h.n) h h' := by
  have h8 := nb_le8 hx
  refine WCall_ws rfl T13 (by simp [f13_a]) ?_
  show WS E0 f13_c [] _ _ _
  refine WS_of_seq (WS_of_ops ?_)
  simp only [f13_r0, go_sem, ↓reduceIte]
  refine WS_of_seq (WS_of_ops ?_)
  simp only [f13_r1, go_sem, ↓reduceIte, Nat.reduceEqDiff]
  refine WS_of_seq (WS_of_seq (WS_of_ops ?_))
  simp only [f13_r2, go_sem, ↓reduceIte, Nat.reduceEqDiff]
  have p0 : (256 : Nat) ^ 0 = 1 := rfl
  refine WS_of_block (WS_of_loop (fun m q h1 => ∃ i, m = nb x - i ∧ i ≤ nb x ∧ Keep (Old h.n) h h1 ∧ q 3 = .str (digs x i) ∧ q 4 = .int .u64 ((x / 256 ^ i : Nat) : Int)) ?_ (nb x) ?_)
  · rintro m q h1 ⟨i, rfl, hi, k1, q3, q4⟩
    have wf1 := k1.wf wf
    show WS E0 f13_l6 _ _ _ _
    refine WS_of_seq (WS_of_seq (WS_of_ops ?_))
    simp only [f13_r3, go_sem, ↓reduceIte, Nat.reduceEqDiff, q4]
    refine WS_of_cond ?_
    simp only [go_sem, ↓reduceIte]
    by_cases hil : i < nb x
    · have hx0 : 0 < x := by
        rcases Nat.eq_zero_or_pos x with h | h
        · subst h; simp [nb] at hil
        · exact h
      have hle := nb_le hx0
      have hq : 0 < x / 256 ^ i := by
        refine Nat.div_pos (Nat.le_trans (Nat.pow_le_pow_right (by decide) (by omega)) hle) (Nat.pow_pos (by decide))
      have hlt : x / 256 ^ i < 18446744073709551616 := Nat.lt_of_le_of_lt (Nat.div_le_self _ _) hx
      have c1 : (0 : Int) < ((x / 256 ^ i : Nat) : Int) := by omega
      simp only [c1, decide_true, ↓reduceIte]
      refine WS_of_skip ?_
      simp only [go_sem]
      refine WS_of_seq (WS_of_block (WS_of_ops ?_))
      have e0 : ((256 : Int) = 0) = False := by simp
      have em : ((x / 256 ^ i : Nat) : Int).tmod 256 = ((x / 256 ^ i % 256 : Nat) : Int) := by rw [Int.tmod_eq_emod_of_nonneg (Int.natCast_nonneg _)]; rfl
      have ew : IntKind.u8.wrap ((x / 256 ^ i % 256 : Nat) : Int) = ((UInt8.ofNat (x / 256 ^ i)).toNat : Int) := by
        rw [wrap_u8_nat]; congr 1; simp
      have bs := (byte_new wf1 (UInt8.ofNat (x / 256 ^ i))).str
      have eb : ([UInt8.ofNat (x / 256 ^ i)].length + (digs x i).length ≤ big) = True := by
        simp only [digs_length, big, List.length_cons, List.length_nil, eq_iff_iff, iff_true]; omega
      simp only [f13_r4, go_sem, ↓reduceIte, Nat.reduceEqDiff, q3, q4, e0, em, ew, bs, eb, not_false_eq_true, true_and]
      refine WS_of_ops ?_
      have eq : ((x / 256 ^ i : Nat) : Int).tdiv 256 = ((x / 256 ^ (i + 1) : Nat) : Int) := by
        rw [Int.tdiv_eq_ediv_of_nonneg (Int.natCast_nonneg _), Nat.pow_succ, ← Nat.div_div_eq_div_mul]; rfl
      have hlt2 : x / 256 ^ (i + 1) < 18446744073709551616 := Nat.lt_of_le_of_lt (Nat.div_le_self _ _) hx
      have eq2 : IntKind.u64.wrap ((x / 256 ^ (i + 1) : Nat) : Int) = ((x / 256 ^ (i + 1) : Nat) : Int) := wrapN hlt2
      simp only [f13_r5, go_sem, ↓reduceIte, Nat.reduceEqDiff, q4, e0, eq, eq2, not_false_eq_true, true_and]
      refine ⟨nb x - (i + 1), by omega, i + 1, rfl, by omega, k1.trans ((Keep.new (Nat.le_refl _) _).less k1.n), ?_, rfl⟩
      rw [digs_succ]; rfl
    · have hie : i = nb x := by omega
      subst hie
      have hz : x / 256 ^ nb x = 0 := Nat.div_eq_of_lt (lt_nb x)
      have c1 : ¬ (0 : Int) < ((x / 256 ^ nb x : Nat) : Int) := by rw [hz]; decide
      simp only [c1, decide_false, ↓reduceIte, Bool.false_eq_true]
      refine WS_of_exit ?_
      simp only [go_sem, ↓reduceIte]
      refine WS_of_seq (WS_of_ops ?_)
      have ew : IntKind.u8.wrap ((digs x (nb x)).length : Int) = ((UInt8.ofNat (nb x)).toNat : Int) := by rw [digs_length]; exact wrap_u8_nat _
      have bs := (byte_new wf1 (UInt8.ofNat (nb x))).str
      have eb : ([UInt8.ofNat (nb x)].length + (digs x (nb x)).length ≤ big) = True := by
        simp only [digs_length, big, List.length_cons, List.length_nil, eq_iff_iff, iff_true]; omega
      simp only [f13_r7, go_sem, ↓reduceIte, Nat.reduceEqDiff, q3, ew, bs, eb, true_and]
      refine WS_of_ret ?_
      simp only [go_sem, f13_a, ↓reduceIte, Nat.reduceEqDiff]
      exact ⟨rfl, k1.trans ((Keep.new (Nat.le_refl _) _).less k1.n)⟩
  · refine ⟨0, rfl, by omega, Keep.refl _ _, ?_, ?_⟩ <;> simp only [go_sem, ↓reduceIte, Nat.reduceEqDiff, p0, Nat.div_one] <;> rfl
/-- Text -/
theorem refText_spec {h : H} {t : List UInt8} (wf : h.Wf) (ht : t.length ≤ 1000000000000) :
    WCall E0 40 [.str t] h fun r h' => r = .val (.str (txt t)) ∧ Keep (Old h.n) h h' := by
  refine WCall_ws rfl T40 (by simp [f40_a]) ?_
  show WS E0 f40_c [] _ _ _
  refine WS_of_seq (WS_of_ops ?_)
  simp only [f40_r0, go_sem, ↓reduceIte]
  refine WS_of_seq (WS_of_ops ?_)
  have ew : IntKind.u64.wrap (t.length : Int) = (t.length : Int) := wrap_u64 (by omega) (by omega)
  simp only [f40_r1, go_sem, ↓reduceIte, Nat.reduceEqDiff, ew]
  refine (refNum_spec wf (by omega)).mono ?_
  rintro r h1 ⟨rfl, k1⟩
  have nl := num_len9 (x := t.length) (by omega)
  have eb : ((num t.length).length + t.length ≤ big) = True := by simp only [big, eq_iff_iff, iff_true]; omega
  simp only [go_sem, ↓reduceIte, Nat.reduceEqDiff, eb, true_and]
  refine WS_of_ret ?_
  simp only [go_sem, f40_a, ↓reduceIte, Nat.reduceEqDiff]
  exact ⟨rfl, k1⟩
/-- Texts -/
theorem refTexts_spec {h : H} {v : AV} {l : List (List UInt8)} {M : Nat} (wf : h.Wf) (b : Strs h v l) (sl : Slot (Old h.n) h v) (hM : M ≤ 1000000) (hl : ∀ t ∈ l, t.length ≤ M) (hbig : (M + 9) * l.length ≤ 4000000000) :
    WCall E0 18 [v] h fun x h' => x = .val (.str (txts l)) ∧ Keep (Old h.n) h h' := by
  have hll : l.length ≤ 4000000000 := by
    have : 1 * l.length ≤ (M + 9) * l.length := Nat.mul_le_mul_right _ (by omega)
    omega
  refine WCall_ws rfl T18 (by simp [f18_a]) ?_
  show WS E0 f18_c [] _ _ _
  refine WS_of_seq (WS_of_ops ?_)
  simp only [f18_r0, go_sem, ↓reduceIte]
  refine WS_of_seq (WS_of_ops ?_)
  simp only [f18_r1, go_sem, ↓reduceIte, Nat.reduceEqDiff]
  refine WS_of_seq (WS_of_seq (WS_of_ops ?_))
  simp only [f18_r2, go_sem, ↓reduceIte, Nat.reduceEqDiff]
  refine WS_of_block (WS_of_loop (fun m q h1 => ∃ j, m = l.length - j ∧ j ≤ l.length ∧ Keep (Old h.n) h h1 ∧ q 3 = .str (txts (l.take j)) ∧ q 0 = v ∧ q 4 = .int .i64 (j : Nat)) ?_ l.length ?_)
  · rintro m q h1 ⟨j, rfl, hj, k1, q3, q0, q4⟩
    have wf1 := k1.wf wf
    have b1 := b.keep k1 sl
    show WS E0 f18_l6 _ _ _ _
    refine WS_of_seq (WS_of_seq (WS_of_ops ?_))
    simp only [f18_r3, go_sem, ↓reduceIte, Nat.reduceEqDiff, q0, q4, b1.len]
    refine WS_of_cond ?_
    simp only [go_sem, ↓reduceIte]
    by_cases hjl : j < l.length
    · have e1 : (j : Int) < (l.length : Int) := by omega
      simp only [e1, decide_true, ↓reduceIte]
      refine WS_of_skip ?_
      simp only [go_sem]
      have hx := hl l[j] (List.getElem_mem hjl)
      obtain ⟨p, p1, p2⟩ := b1.at hjl .i64
      refine WS_of_seq (WS_of_block (WS_of_ops ?_))
      simp only [f18_r4, go_sem, ↓reduceIte, Nat.reduceEqDiff, q0, q3, q4, p1, p2]
      refine (refText_spec wf1 (by omega)).mono ?_
      rintro r h2 ⟨rfl, k2⟩
      have tl := txts_len (l := l.take j) hM (fun t ht => hl t (List.mem_of_mem_take ht))
      have tl2 : (M + 9) * (l.take j).length ≤ (M + 9) * l.length := Nat.mul_le_mul_left _ (by rw [List.length_take]; omega)
      have tj := txt_len (t := l[j]) (by omega)
      have eb : ((txts (l.take j)).length + (txt l[j]).length ≤ big) = True := by simp only [big, eq_iff_iff, iff_true]; omega
      simp only [go_sem, ↓reduceIte, Nat.reduceEqDiff, eb, true_and]
      refine WS_of_ops ?_
      have e9 : IntKind.i64.wrap ((j : Int) + 1) = ((j + 1 : Nat) : Int) := by rw [wrap_i64 (by omega) (by omega)]; omega
      simp only [f18_r5, go_sem, ↓reduceIte, Nat.reduceEqDiff, q4, e9]
      exact ⟨l.length - (j + 1), by omega, j + 1, rfl, by omega, k1.trans (k2.less k1.n), by rw [txts_take hjl], q0, rfl⟩
    · have hje : j = l.length := by omega
      subst hje
      simp only [Int.lt_irrefl, decide_false, Bool.false_eq_true, ↓reduceIte]
      refine WS_of_exit ?_
      simp only [go_sem, ↓reduceIte]
      rw [List.take_length] at q3
      refine WS_of_seq (WS_of_ops ?_)
      simp only [f18_r7, go_sem, ↓reduceIte, Nat.reduceEqDiff, q3]
      refine WS_of_ret ?_
      simp only [go_sem, f18_a, ↓reduceIte, Nat.reduceEqDiff]
      exact ⟨trivial, k1⟩
  · refine ⟨0, rfl, by omega, Keep.refl _ _, ?_, ?_, ?_⟩ <;> simp only [go_sem, ↓reduceIte, Nat.reduceEqDiff] <;> rfl
/-- List -/
theorem refList_spec {h : H} {v : AV} {l : List (List UInt8)} {M : Nat} (wf : h.Wf) (b : Strs h v l) (sl : Slot (Old h.n) h v) (hM : M ≤ 1000000) (hl : ∀ t ∈ l, t.length ≤ M) (hbig : (M + 9) * l.length ≤ 4000000000) :
    WCall E0 20 [v] h fun x h' => x = .val (.str (lst l)) ∧ Keep (Old h.n) h h' := by
  have hll : l.length ≤ 4000000000 := by
    have : 1 * l.length ≤ (M + 9) * l.length := Nat.mul_le_mul_right _ (by omega)
    omega
  refine WCall_ws rfl T20 (by simp [f20_a]) ?_
  show WS E0 f20_c [] _ _ _
  refine WS_of_seq (WS_of_ops ?_)
  simp only [f20_r0, go_sem, ↓reduceIte]
  refine WS_of_seq (WS_of_ops ?_)
  have ew : IntKind.u64.wrap (l.length : Int) = (l.length : Int) := wrap_u64 (by omega) (by omega)
  simp only [f20_r1, go_sem, ↓reduceIte, Nat.reduceEqDiff, b.len, ew]
  refine (refNum_spec wf (by omega)).mono ?_
  rintro r h1 ⟨rfl, k1⟩
  simp only [go_sem, ↓reduceIte, Nat.reduceEqDiff]
  refine (refTexts_spec (k1.wf wf) (b.keep k1 sl) (sl.keep k1 fun o ho => Nat.lt_of_lt_of_le ho k1.n) hM hl hbig).mono ?_
  rintro r h2 ⟨rfl, k2⟩
  have nl := num_len9 (x := l.length) (by omega)
  have tl := txts_len hM hl
  have eb : ((num l.length).length + (txts l).length ≤ big) = True := by simp only [big, eq_iff_iff, iff_true]; omega
  simp only [go_sem, ↓reduceIte, Nat.reduceEqDiff, eb, true_and]
  refine WS_of_ret ?_
  simp only [go_sem, f20_a, ↓reduceIte, Nat.reduceEqDiff]
  exact ⟨rfl, k1.then (Nat.le_refl _) k2⟩
end Go.Proofs.Ythhibhhpcjggnab.Ev.C

/- The references of layer 1: what is taken, and read, walked. -/
namespace Go.Proofs.Ythhibhhpcjggnab.Ev.C
open Go Go.Proofs.Ythhibhhpcjggnab.Ev
set_option linter.unusedSimpArgs false
set_option linter.unusedVariables false
theorem be_take_succ {l : List UInt8} {i : Nat} (hi : i < l.length) : be (l.take (i + 1)) = be (l.take i) * 256 + l[i].toNat := by
  rw [List.take_add_one, List.getElem?_eq_getElem hi, Option.toList_some, be_snoc]
/-- Take -/
theorem refTake_spec {h : H} {s : List UInt8} (hl : s.length < 4611686018427387904) :
    WCall E0 15 [.str s] h fun r h' => h' = h ∧ r = .val (.tup [.int .u64 (takeB s).1, .int .i64 (takeB s).2.1, .int .i64 (takeB s).2.2]) := by
  refine WCall_ws rfl T15 (by simp [f15_a]) ?_
  show WS E0 f15_c [] _ _ _
  refine WS_of_seq (WS_of_ops ?_)
  simp only [f15_r0, go_sem, ↓reduceIte, Nat.reduceEqDiff]
  refine WS_of_seq (WS_of_seq (WS_of_ops ?_))
  cases s with
  | nil =>
    simp only [f15_r1, go_sem, ↓reduceIte, Nat.reduceEqDiff, decide_true]
    refine WS_of_cond ?_
    simp only [go_sem, ↓reduceIte]
    refine WS_of_seq (WS_of_ops ?_)
    simp only [f15_r2, go_sem, ↓reduceIte, Nat.reduceEqDiff]
    refine WS_of_ret ?_
    simp only [go_sem, f15_a, ↓reduceIte, Nat.reduceEqDiff, true_and]
    rfl
  | cons c r =>
    have hc := c.toNat_lt
    simp only [f15_r1, go_sem, ↓reduceIte, Nat.reduceEqDiff, reduceCtorEq, decide_false]
    refine WS_of_cond ?_
    simp only [go_sem, ↓reduceIte, Bool.false_eq_true]
    refine WS_of_skip ?_
    simp only [go_sem]
    refine WS_of_seq (WS_of_ops ?_)
    have i0 : indexStrA (.str (c :: r)) (.int .i64 0) = some (.int .u8 (c.toNat : Int)) := indexStr_at (t := c :: r) (i := 0) (by simp) .i64
    have e0 : IntKind.i64.wrap (c.toNat : Int) = (c.toNat : Int) := wrapI (by omega)
    simp only [f15_r3, go_sem, ↓reduceIte, Nat.reduceEqDiff, i0, e0]
    refine WS_of_seq (WS_of_seq (WS_of_ops ?_))
    simp only [f15_r4, go_sem, ↓reduceIte, Nat.reduceEqDiff]
    refine WS_of_cond ?_
    simp only [go_sem, ↓reduceIte]
    by_cases h1 : 8 < c.toNat
    · have h1' : (8 : Int) < (c.toNat : Int) := by omega
      simp only [h1', decide_true, ↓reduceIte]
      refine WS_of_seq (WS_of_ops ?_)
      simp only [f15_r5, go_sem, ↓reduceIte, Nat.reduceEqDiff]
      refine WS_of_ret ?_
      simp only [go_sem, f15_a, ↓reduceIte, Nat.reduceEqDiff, true_and, takeB, if_pos h1]
      rfl
    have h1' : ¬ (8 : Int) < (c.toNat : Int) := by omega
    simp only [h1', decide_false, ↓reduceIte, Bool.false_eq_true]
    refine WS_of_skip ?_
    simp only [go_sem]
    refine WS_of_seq (WS_of_seq (WS_of_ops ?_))
    have e1 : IntKind.i64.wrap ((c.toNat : Int) + 1) = ((c.toNat + 1 : Nat) : Int) := by rw [wrap_i64 (by omega) (by omega)]; omega
    simp only [f15_r6, go_sem, ↓reduceIte, Nat.reduceEqDiff, e1]
    refine WS_of_cond ?_
    simp only [go_sem, ↓reduceIte]
    by_cases h2 : r.length < c.toNat
    · have h2' : (((c :: r).length : Nat) : Int) < ((c.toNat + 1 : Nat) : Int) := by simp only [List.length_cons]; omega
      simp only [h2', decide_true, ↓reduceIte]
      refine WS_of_seq (WS_of_ops ?_)
      simp only [f15_r7, go_sem, ↓reduceIte, Nat.reduceEqDiff]
      refine WS_of_ret ?_
      simp only [go_sem, f15_a, ↓reduceIte, Nat.reduceEqDiff, true_and, takeB, if_neg h1, if_pos h2]
      rfl
    have h2' : ¬ (((c :: r).length : Nat) : Int) < ((c.toNat + 1 : Nat) : Int) := by simp only [List.length_cons]; omega
    simp only [h2', decide_false, ↓reduceIte, Bool.false_eq_true]
    refine WS_of_skip ?_
    simp only [go_sem]
    have key : ∀ z : S, z 0 = .str (c :: r) → z 5 = .int .i64 (c.toNat : Int) → WS E0 (.seq (.ops f15_r10) (.seq (.seq (.ops f15_r11) (.block 0 (.loop f15_l15))) (.seq (.ops f15_r16) .ret))) [] (atEnd f15_a.results fun x h' => h' = h ∧ x = .val (.tup [.int .u64 (be (r.take c.toNat) : Nat), .int .i64 ((1 + c.toNat : Nat) : Int), .int .i64 0]))
        z h := by
      intro z z0 z5
      refine WS_of_seq (WS_of_ops ?_)
      simp only [f15_r10, go_sem, ↓reduceIte, Nat.reduceEqDiff]
      refine WS_of_seq (WS_of_seq (WS_of_ops ?_))
      simp only [f15_r11, go_sem, ↓reduceIte, Nat.reduceEqDiff]
      refine WS_of_block (WS_of_loop (fun m q h1 => ∃ i, m = c.toNat - i ∧ i ≤ c.toNat ∧ h1 = h ∧ q 0 = .str (c :: r) ∧ q 5 = .int .i64 (c.toNat : Int) ∧ q 6 = .int .u64 (be (r.take i) : Nat) ∧ q 7 = .int .i64 ((i + 1 : Nat) : Int)) ?_ c.toNat ?_)
      · rintro m q h1 ⟨i, rfl, hi, rfl, q0, q5, q6, q7⟩
        show WS E0 f15_l15 _ _ _ _
        refine WS_of_seq (WS_of_seq (WS_of_ops ?_))
        simp only [f15_r12, go_sem, ↓reduceIte, Nat.reduceEqDiff, q5, q7]
        refine WS_of_cond ?_
        simp only [go_sem, ↓reduceIte]
        by_cases hil : i < c.toNat
        · have c1 : ((i + 1 : Nat) : Int) ≤ (c.toNat : Int) := by omega
          simp only [c1, decide_true, ↓reduceIte]
          refine WS_of_skip ?_
          simp only [go_sem]
          have hir : i < r.length := by omega
          have i1 : indexStrA (.str (c :: r)) (.int .i64 ((i + 1 : Nat) : Int)) = some (.int .u8 (r[i].toNat : Int)) := indexStr_at (t := c :: r) (i := i + 1) (by simp; omega) .i64
          have hb := be_lt (r.take i)
          have hb2 : 256 ^ (r.take i).length ≤ 256 ^ 7 := Nat.pow_le_pow_right (by decide) (by rw [List.length_take]; omega)
          have hb3 : (256 : Nat) ^ 7 = 72057594037927936 := by decide
          have hd := r[i].toNat_lt
          have e2 : IntKind.u64.wrap ((be (r.take i) : Int) * 256) = ((be (r.take i) * 256 : Nat) : Int) := by rw [wrap_u64 (by omega) (by omega)]; omega
          have e3 : IntKind.u64.wrap (r[i].toNat : Int) = (r[i].toNat : Int) := wrapN (by omega)
          have e4 : IntKind.u64.wrap (((be (r.take i) * 256 : Nat) : Int) + (r[i].toNat : Int)) = ((be (r.take (i + 1)) : Nat) : Int) := by
            rw [be_take_succ hir, wrap_u64 (by omega) (by omega)]; omega
          refine WS_of_seq (WS_of_block (WS_of_ops ?_))
          simp only [f15_r13, go_sem, ↓reduceIte, Nat.reduceEqDiff, q0, q6, q7, i1, e2, e3, e4]
          refine WS_of_ops ?_
          have e9 : IntKind.i64.wrap (((i + 1 : Nat) : Int) + 1) = ((i + 1 + 1 : Nat) : Int) := by rw [wrap_i64 (by omega) (by omega)]; omega
          simp only [f15_r14, go_sem, ↓reduceIte, Nat.reduceEqDiff, q7, e9]
          exact ⟨c.toNat - (i + 1), by omega, i + 1, rfl, by omega, trivial, q0, q5, rfl, rfl⟩
        · have hie : i = c.toNat := by omega
          subst hie
          have c1 : ¬ ((c.toNat + 1 : Nat) : Int) ≤ (c.toNat : Int) := by omega
          simp only [c1, decide_false, ↓reduceIte, Bool.false_eq_true]
          refine WS_of_exit ?_
          simp only [go_sem, ↓reduceIte]
          refine WS_of_seq (WS_of_ops ?_)
          simp only [f15_r16, go_sem, ↓reduceIte, Nat.reduceEqDiff, q5, q6, e1]
          refine WS_of_ret ?_
          simp only [go_sem, f15_a, ↓reduceIte, Nat.reduceEqDiff, true_and]
          rw [Nat.add_comm 1]
      · refine ⟨0, rfl, by omega, rfl, ?_, ?_, ?_, ?_⟩ <;> simp only [go_sem, ↓reduceIte, Nat.reduceEqDiff, z0, z5] <;> rfl
    refine WS_of_seq (WS_of_seq (WS_of_ops ?_))
    by_cases h0 : c.toNat = 0
    · have h0' : ¬ (0 : Int) < (c.toNat : Int) := by omega
      simp only [f15_r8, go_sem, ↓reduceIte, Nat.reduceEqDiff, h0', decide_false, Bool.false_eq_true]
      refine WS_of_cond ?_
      simp only [go_sem, ↓reduceIte, Bool.false_eq_true]
      refine WS_of_skip ?_
      simp only [go_sem]
      have et : takeB (c :: r) = (be (r.take c.toNat), 1 + c.toNat, 0) := by
        simp only [takeB, if_neg h1, if_neg h2]
        rw [if_neg (by rintro ⟨q, _⟩; omega)]
      rw [et]
      exact key _ rfl rfl
    · have h0' : (0 : Int) < (c.toNat : Int) := by omega
      cases r with
      | nil => simp at h2; omega
      | cons d r =>
        have i1 : indexStrA (.str (c :: d :: r)) (.int .i64 1) = some (.int .u8 (d.toNat : Int)) := indexStr_at (t := c :: d :: r) (i := 1) (by simp) .i64
        by_cases h3 : d = 0
        · subst h3
          have e3 : (((0 : UInt8).toNat : Int) = 0) = True := by simp
          simp only [f15_r8, go_sem, ↓reduceIte, Nat.reduceEqDiff, h0', i1, decide_true, e3]
          refine WS_of_cond ?_
          simp only [go_sem, ↓reduceIte]
          refine WS_of_seq (WS_of_ops ?_)
          simp only [f15_r9, go_sem, ↓reduceIte, Nat.reduceEqDiff]
          refine WS_of_ret ?_
          have et : takeB (c :: 0 :: r) = (0, 0, 11) := by
            simp only [takeB, if_neg h1, if_neg h2]
            rw [if_pos ⟨by omega, rfl⟩]
          simp only [go_sem, f15_a, ↓reduceIte, Nat.reduceEqDiff, true_and, et]
          rfl
        · have e3 : ¬ ((d.toNat : Int) = 0) := by
            intro e
            apply h3
            have : d.toNat = 0 := by omega
            exact UInt8.toNat_inj.1 this
          simp only [f15_r8, go_sem, ↓reduceIte, Nat.reduceEqDiff, h0', i1, decide_true, e3, decide_false, Bool.false_eq_true]
          refine WS_of_cond ?_
          simp only [go_sem, ↓reduceIte, Bool.false_eq_true]
          refine WS_of_skip ?_
          simp only [go_sem]
          have et : takeB (c :: d :: r) = (be ((d :: r).take c.toNat), 1 + c.toNat, 0) := by
            simp only [takeB, if_neg h1, if_neg h2]
            rw [if_neg (by rintro ⟨_, q⟩; exact h3 (by simpa using q))]
          rw [et]
          exact key _ rfl rfl
/-- the state of the reference, as a value -/
def rsA (s : RS) : AV := .agg [.str s.1, .int .i64 (s.2 : Int)]
/-- Read -/
theorem refRead_spec {h : H} {s : RS} (wf : h.Wf) (hl : s.1.length < 4611686018427387904) :
    WCall E0 23 [.agg [.str s.1, .int .i64 (s.2 : Int)]] h fun r h' => r = .val (.tup [.int .u64 (rNum s).1, rsA (rNum s).2]) ∧ Keep (Old h.n) h h' := by
  refine WCall_ws rfl T23 (by simp [f23_a]) ?_
  show WS E0 f23_c [] _ _ _
  refine WS_of_seq (WS_of_ops ?_)
  simp only [f23_r0, go_sem, ↓reduceIte, Nat.reduceEqDiff, AV.cells]
  have b1 := Box.new wf [.str s.1, .int .i64 (s.2 : Int)]
  have k1 : Keep (Old h.n) h (h.new [.str s.1, .int .i64 (s.2 : Int)]) := Keep.new (Nat.le_refl _) _
  generalize h.new [.str s.1, .int .i64 (s.2 : Int)] = h1 at b1 k1 ⊢
  have wf1 := k1.wf wf
  have b2 := Box.new wf1 [.str [], .int .i64 0]
  have k2 : Keep (Old h1.n) h1 (h1.new [.str [], .int .i64 0]) := Keep.new (Nat.le_refl _) _
  generalize h1.new [.str [], .int .i64 0] = h2 at b2 k2 ⊢
  have wf2 := k2.wf wf1
  have hlt := b1.lt wf1
  have b1' := b1.keep k2 hlt
  have k02 := k1.then (Nat.le_refl _) k2
  refine WS_of_seq (WS_of_seq (WS_of_ops ?_))
  simp only [f23_r1, go_sem, ↓reduceIte, Nat.reduceEqDiff, Nat.zero_add, b1'.load]
  refine WS_of_cond ?_
  simp only [go_sem, ↓reduceIte, Nat.reduceEqDiff]
  by_cases c1 : s.2 = 0
  case neg =>
    have c1' : ¬ ((s.2 : Nat) : Int) = 0 := by omega
    simp only [c1', decide_false, Bool.not_false, ↓reduceIte]
    obtain ⟨h3, e3, b3, k3⟩ := b2.putAll wf2 (vs := [.str s.1, .int .i64 (s.2 : Int)]) (n := 2) rfl rfl rfl
    have b1'' := b1'.keepA wf2 k3 (by simp; omega)
    refine WS_of_seq (WS_of_draw ?_)
    simp only [f23_r2, go_sem, ↓reduceIte, Nat.reduceEqDiff, b1'.loadAgg (n := 2) rfl, e3, b1''.loadAgg (n := 2) rfl, and_self, true_and, List.filter_cons, List.filter_nil, Nat.testBit, Nat.reduceShiftRight, Nat.reduceAnd, Nat.reduceBNe, Bool.not_false, Bool.not_true, Bool.false_eq_true, bne_self_eq_false]
    refine WS_of_ret ?_
    have e : rNum s = (0, s) := rNum_err c1
    simp only [go_sem, f23_a, ↓reduceIte, Nat.reduceEqDiff, b3.loadAgg (n := 2) rfl, e, rsA]
    exact ⟨rfl, k02.trans (k3.newbox wf2 (Nat.le_trans k02.n (Nat.le_refl _)) k1.n)⟩
  have c1' : ((s.2 : Nat) : Int) = 0 := by omega
  simp only [c1', decide_true, Bool.not_true, Bool.false_eq_true, ↓reduceIte]
  refine WS_of_skip ?_
  simp only [go_sem]
  refine WS_of_seq (WS_of_ops ?_)
  simp only [f23_r3, go_sem, ↓reduceIte, Nat.reduceEqDiff, Nat.zero_add, b1'.load]
  refine (refTake_spec hl).mono ?_
  rintro x h' ⟨rfl, rfl⟩
  simp only [go_sem, ↓reduceIte, Nat.reduceEqDiff]
  refine WS_of_seq (WS_of_seq (WS_of_ops ?_))
  simp only [f23_r4, go_sem, ↓reduceIte, Nat.reduceEqDiff]
  refine WS_of_cond ?_
  simp only [go_sem, ↓reduceIte, Nat.reduceEqDiff]
  by_cases c2 : (takeB s.1).2.2 = 0
  case neg =>
    have c2' : ¬ ((takeB s.1).2.2 : Int) = 0 := by omega
    simp only [c2', decide_false, Bool.not_false, ↓reduceIte]
    obtain ⟨h3, e3, b3, k3⟩ := b2.putAll wf2 (vs := [.str s.1, .int .i64 ((takeB s.1).2.2 : Int)]) (n := 2) rfl rfl rfl
    have b1'' := b1'.keepA wf2 k3 (by simp; omega)
    have ea : afill [AV.str [], AV.int .i64 0] [(0, 1, AV.str s.1), (1, 1, AV.int .i64 ((takeB s.1).2.2 : Int))] = some [.str s.1, .int .i64 ((takeB s.1).2.2 : Int)] := rfl
    refine WS_of_seq (WS_of_draw ?_)
    simp only [f23_r5, go_sem, ↓reduceIte, Nat.reduceEqDiff, Nat.zero_add, b1'.load, ea, e3, b1''.load, and_self, true_and, List.filter_cons, List.filter_nil, Nat.testBit, Nat.reduceShiftRight, Nat.reduceAnd, Nat.reduceBNe, Bool.not_false, Bool.not_true, Bool.false_eq_true, bne_self_eq_false]
    refine WS_of_ret ?_
    have e : rNum s = (0, (s.1, (takeB s.1).2.2)) := by simp [rNum, c1, c2]
    simp only [go_sem, f23_a, ↓reduceIte, Nat.reduceEqDiff, b3.loadAgg (n := 2) rfl, e, rsA]
    exact ⟨rfl, k02.trans (k3.newbox wf2 k02.n k1.n)⟩
  have c2' : ((takeB s.1).2.2 : Int) = 0 := by omega
  simp only [c2', decide_true, Bool.not_true, Bool.false_eq_true, ↓reduceIte]
  refine WS_of_skip ?_
  simp only [go_sem]
  obtain ⟨q1, q2, q3, q4⟩ := takeB_ok s.1 c2
  obtain ⟨h3, e3, b3, k3⟩ := b2.putAll wf2 (vs := [.str (s.1.drop (takeB s.1).2.1), .int .i64 0]) (n := 2) rfl rfl rfl
  have b1'' := b1'.keepA wf2 k3 (by simp; omega)
  have ea : afill [AV.str [], AV.int .i64 0] [(0, 1, AV.str (s.1.drop (takeB s.1).2.1))] = some [.str (s.1.drop (takeB s.1).2.1), .int .i64 0] := rfl
  refine WS_of_seq (WS_of_draw ?_)
  simp only [f23_r6, go_sem, ↓reduceIte, Nat.reduceEqDiff, Nat.zero_add, b1'.load, sliceT_from q3, ea, e3, b1''.load, and_self, true_and, List.filter_cons, List.filter_nil, Nat.testBit, Nat.reduceShiftRight, Nat.reduceAnd, Nat.reduceBNe, Bool.not_false, Bool.not_true, Bool.false_eq_true, bne_self_eq_false]
  refine WS_of_ret ?_
  have e : rNum s = ((takeB s.1).1, (s.1.drop (takeB s.1).2.1, 0)) := by simp [rNum, c1, c2]
  simp only [go_sem, f23_a, ↓reduceIte, Nat.reduceEqDiff, b3.loadAgg (n := 2) rfl, e, rsA]
  exact ⟨rfl, k02.trans (k3.newbox wf2 k02.n k1.n)⟩
/-- ReadText -/
theorem refReadText_spec {h : H} {s : RS} (wf : h.Wf) (hl : s.1.length < 4611686018427387904) :
    WCall E0 25 [.agg [.str s.1, .int .i64 (s.2 : Int)]] h fun r h' => r = .val (.tup [.str (rText s).1, rsA (rText s).2]) ∧ Keep (Old h.n) h h' := by
  have hb := rNum_big s
  have hl1 := rNum_len s
  have e0 : rText s = if (rNum s).2.2 ≠ 0 then ([], (rNum s).2) else if (rNum s).2.1.length < (rNum s).1 then ([], ((rNum s).2.1, 10)) else ((rNum s).2.1.take (rNum s).1, ((rNum s).2.1.drop (rNum s).1, 0)) := rfl
  refine WCall_ws rfl T25 (by simp [f25_a]) ?_
  show WS E0 f25_c [] _ _ _
  refine WS_of_seq (WS_of_ops ?_)
  simp only [f25_r0, go_sem, ↓reduceIte, Nat.reduceEqDiff, AV.cells]
  have b1 := Box.new wf [.str s.1, .int .i64 (s.2 : Int)]
  have k1 : Keep (Old h.n) h (h.new [.str s.1, .int .i64 (s.2 : Int)]) := Keep.new (Nat.le_refl _) _
  generalize h.new [.str s.1, .int .i64 (s.2 : Int)] = h1 at b1 k1 ⊢
  have wf1 := k1.wf wf
  have b2 := Box.new wf1 [.str [], .int .i64 0]
  have k2 : Keep (Old h1.n) h1 (h1.new [.str [], .int .i64 0]) := Keep.new (Nat.le_refl _) _
  generalize h1.new [.str [], .int .i64 0] = h2 at b2 k2 ⊢
  have wf2 := k2.wf wf1
  have hlt := b1.lt wf1
  have hlt2 := b2.lt wf2
  have b1' := b1.keep k2 hlt
  have k02 := k1.then (Nat.le_refl _) k2
  refine WS_of_seq (WS_of_ops ?_)
  simp only [f25_r1, go_sem, ↓reduceIte, Nat.reduceEqDiff, Nat.zero_add, b1'.loadAgg (n := 2) rfl]
  refine (refRead_spec wf2 hl).mono ?_
  rintro x h3 ⟨rfl, k3⟩
  have wf3 := k3.wf wf2
  simp only [go_sem, ↓reduceIte, Nat.reduceEqDiff, rsA]
  have b4 := Box.new wf3 [.str [], .int .i64 0]
  have k4 : Keep (Old h3.n) h3 (h3.new [.str [], .int .i64 0]) := Keep.new (Nat.le_refl _) _
  generalize h3.new [.str [], .int .i64 0] = h4 at b4 k4 ⊢
  have wf4 := k4.wf wf3
  obtain ⟨h5, e5, b5, k5⟩ := b4.putAll wf4 (vs := [.str (rNum s).2.1, .int .i64 ((rNum s).2.2 : Int)]) (n := 2) rfl rfl rfl
  have wf5 := k5.wf wf4
  have b3' := ((b2.keep k3 hlt2).keep k4 (Nat.lt_of_lt_of_le hlt2 k3.n)).keepA wf4 k5 (by have := k3.n; simp; omega)
  have h2n : h2.n ≤ h3.n := k3.n
  have k25 : Keep (Old h2.n) h2 h5 := (k3.then (Nat.le_refl _) k4).trans (k5.newbox wf4 (Nat.le_trans k3.n k4.n) h2n)
  have k05 : Keep (Old h.n) h h5 := k02.then (Nat.le_refl _) k25
  simp only [go_sem, ↓reduceIte, Nat.reduceEqDiff, e5]
  refine WS_of_seq (WS_of_seq (WS_of_ops ?_))
  simp only [f25_r2, go_sem, ↓reduceIte, Nat.reduceEqDiff, Nat.zero_add, b5.load]
  refine WS_of_cond ?_
  simp only [go_sem, ↓reduceIte, Nat.reduceEqDiff]
  by_cases c1 : (rNum s).2.2 = 0
  case neg =>
    have c1' : ¬ (((rNum s).2.2 : Nat) : Int) = 0 := by omega
    simp only [c1', decide_false, Bool.not_false, ↓reduceIte]
    obtain ⟨h6, e6, b6, k6⟩ := b3'.putAll wf5 (vs := [.str (rNum s).2.1, .int .i64 ((rNum s).2.2 : Int)]) (n := 2) rfl rfl rfl
    have b5'' := b5.keepA wf5 k6 (by simp; omega)
    refine WS_of_seq (WS_of_draw ?_)
    simp only [f25_r3, go_sem, ↓reduceIte, Nat.reduceEqDiff, b5.loadAgg (n := 2) rfl, e6, b5''.loadAgg (n := 2) rfl, and_self, true_and, List.filter_cons, List.filter_nil, Nat.testBit, Nat.reduceShiftRight, Nat.reduceAnd, Nat.reduceBNe, Bool.not_false, Bool.not_true, Bool.false_eq_true, bne_self_eq_false]
    refine WS_of_ret ?_
    rw [if_pos c1] at e0
    simp only [go_sem, f25_a, ↓reduceIte, Nat.reduceEqDiff, b6.loadAgg (n := 2) rfl, e0]
    exact ⟨trivial, k05.trans (k6.newbox wf5 k05.n k1.n)⟩
  have c1' : (((rNum s).2.2 : Nat) : Int) = 0 := by omega
  rw [if_neg (by simpa using c1)] at e0
  simp only [c1', decide_true, Bool.not_true, Bool.false_eq_true, ↓reduceIte]
  refine WS_of_skip ?_
  simp only [go_sem]
  refine WS_of_seq (WS_of_seq (WS_of_ops ?_))
  have ew : IntKind.u64.wrap ((rNum s).2.1.length : Int) = ((rNum s).2.1.length : Int) := wrapN (by omega)
  simp only [f25_r4, go_sem, ↓reduceIte, Nat.reduceEqDiff, Nat.zero_add, b5.load, ew]
  refine WS_of_cond ?_
  simp only [go_sem, ↓reduceIte, Nat.reduceEqDiff]
  by_cases c2 : (rNum s).2.1.length < (rNum s).1
  · have c2' : ((rNum s).2.1.length : Int) < ((rNum s).1 : Int) := by omega
    simp only [c2', decide_true, ↓reduceIte]
    obtain ⟨h6, e6, b6, k6⟩ := b3'.putAll wf5 (vs := [.str (rNum s).2.1, .int .i64 10]) (n := 2) rfl rfl rfl
    have b5'' := b5.keepA wf5 k6 (by simp; omega)
    have ea : afill [AV.str [], AV.int .i64 0] [(0, 1, AV.str (rNum s).2.1), (1, 1, AV.int .i64 10)] = some [.str (rNum s).2.1, .int .i64 10] := rfl
    refine WS_of_seq (WS_of_draw ?_)
    simp only [f25_r5, go_sem, ↓reduceIte, Nat.reduceEqDiff, Nat.zero_add, b5.load, ea, e6, b5''.load, and_self, true_and, List.filter_cons, List.filter_nil, Nat.testBit, Nat.reduceShiftRight, Nat.reduceAnd, Nat.reduceBNe, Bool.not_false, Bool.not_true, Bool.false_eq_true, bne_self_eq_false]
    refine WS_of_ret ?_
    rw [if_pos c2] at e0
    simp only [go_sem, f25_a, ↓reduceIte, Nat.reduceEqDiff, b6.loadAgg (n := 2) rfl, e0]
    exact ⟨rfl, k05.trans (k6.newbox wf5 k05.n k1.n)⟩
  have c2' : ¬ ((rNum s).2.1.length : Int) < ((rNum s).1 : Int) := by omega
  have hle : (rNum s).1 ≤ (rNum s).2.1.length := by omega
  rw [if_neg c2] at e0
  simp only [c2', decide_false, ↓reduceIte, Bool.false_eq_true]
  refine WS_of_skip ?_
  simp only [go_sem]
  obtain ⟨h6, e6, b6, k6⟩ := b3'.putAll wf5 (vs := [.str ((rNum s).2.1.drop (rNum s).1), .int .i64 0]) (n := 2) rfl rfl rfl
  have b5'' := b5.keepA wf5 k6 (by simp; omega)
  have ea : afill [AV.str [], AV.int .i64 0] [(0, 1, AV.str ((rNum s).2.1.drop (rNum s).1))] = some [.str ((rNum s).2.1.drop (rNum s).1), .int .i64 0] := rfl
  refine WS_of_seq (WS_of_draw ?_)
  simp only [f25_r6, go_sem, ↓reduceIte, Nat.reduceEqDiff, Nat.zero_add, b5.load, sliceT_to hle, sliceT_from hle, ea, e6, b5''.load, and_self, true_and, List.filter_cons, List.filter_nil, Nat.testBit, Nat.reduceShiftRight, Nat.reduceAnd, Nat.reduceBNe, Bool.not_false, Bool.not_true, Bool.false_eq_true, bne_self_eq_false]
  refine WS_of_ret ?_
  simp only [go_sem, f25_a, ↓reduceIte, Nat.reduceEqDiff, b6.loadAgg (n := 2) rfl, e0]
  exact ⟨rfl, k05.trans (k6.newbox wf5 k05.n k1.n)⟩
end Go.Proofs.Ythhibhhpcjggnab.Ev.C
