/- The reference of layer 1: a number as a text, and what is taken, walked. -/
import Derived.Test.YtmfbememiffkjaaTJF
import Derived.Test.YtmfbememiffkjaaTRef
namespace Go.Proofs.Ytmfbememiffkjaa.Ev.C
open Go Go.Proofs.Ytmfbememiffkjaa.Ev
set_option linter.unusedSimpArgs false
set_option linter.unusedVariables false
theorem be_take_succ {l : List UInt8} {i : Nat} (hi : i < l.length) : be (l.take (i + 1)) = be (l.take i) * 256 + l[i].toNat := by
  rw [List.take_add_one, List.getElem?_eq_getElem hi, Option.toList_some, be_snoc]
theorem rNum_err {s : RS} (h : s.2 ≠ 0) : rNum s = (0, s) := by unfold rNum; rw [if_pos h]
theorem rNum_big (s : RS) : (rNum s).1 < 18446744073709551616 := by
  unfold rNum
  split
  · simp
  · rename_i h1
    split
    · simp
    · rename_i h2; exact (takeB_ok s.1 (by simpa using h2)).2.1
/-- the last digits of a number -/
def digs (x i : Nat) : List UInt8 := (List.range i).map fun j => UInt8.ofNat (x / 256 ^ (i - 1 - j))
theorem digs_succ (x i : Nat) : digs x (i + 1) = UInt8.ofNat (x / 256 ^ i) :: digs x i := by
  unfold digs
  rw [List.range_succ_eq_map, List.map_cons, List.map_map]
  congr 1
  refine List.map_congr_left fun j hj => ?_
  show UInt8.ofNat (x / 256 ^ (i + 1 - 1 - (j + 1))) = _
  congr 3
  omega
theorem digs_nb (x : Nat) : digs x (nb x) = bytesB x := rfl
theorem digs_length (x i : Nat) : (digs x i).length = i := by simp [digs]
theorem refNum_spec {h : H} {x : Nat} (wf : h.Wf) (hx : x < 18446744073709551616) :
    WCall E0 51 [.int .u64 (x : Int)] h fun r h' => r = .val (.str (num x)) ∧ Keep (Old h.n) h h' := by
  have h8 := nb_le8 hx
  refine WCall_ws (ovn 51) U51 (by simp [f51_a]) ?_
  show WS E0 f51_c [] _ _ _
  refine WS_of_seq (WS_of_ops ?_)
  simp only [f51_r0, go_sem, ↓reduceIte]
  refine WS_of_seq (WS_of_ops ?_)
  simp only [f51_r1, go_sem, ↓reduceIte, Nat.reduceEqDiff]
  refine WS_of_seq (WS_of_seq (WS_of_ops ?_))
  simp only [f51_r2, go_sem, ↓reduceIte, Nat.reduceEqDiff]
  have p0 : (256 : Nat) ^ 0 = 1 := rfl
  refine WS_of_block (WS_of_loop (fun m q h1 => ∃ i, m = nb x - i ∧ i ≤ nb x ∧ Keep (Old h.n) h h1 ∧ q 3 = .str (digs x i) ∧ q 4 = .int .u64 ((x / 256 ^ i : Nat) : Int)) ?_ (nb x) ?_)
  · rintro m q h1 ⟨i, rfl, hi, k1, q3, q4⟩
    have wf1 := k1.wf wf
    show WS E0 f51_l6 _ _ _ _
    refine WS_of_seq (WS_of_seq (WS_of_ops ?_))
    simp only [f51_r3, go_sem, ↓reduceIte, Nat.reduceEqDiff, q4]
    refine WS_of_cond ?_
    simp only [go_sem, ↓reduceIte]
    by_cases hil : i < nb x
    · have hx0 : 0 < x := by
        rcases Nat.eq_zero_or_pos x with h | h
        · subst h; simp [nb] at hil
        · exact h
      have hle := nb_le hx0
      have hq : 0 < x / 256 ^ i := by
        refine Nat.div_pos (Nat.le_trans (Nat.pow_le_pow_right (by decide) (by omega)) hle) (Nat.pow_pos (by decide))
      have hlt : x / 256 ^ i < 18446744073709551616 := Nat.lt_of_le_of_lt (Nat.div_le_self _ _) hx
      have c1 : (0 : Int) < ((x / 256 ^ i : Nat) : Int) := by omega
      simp only [c1, decide_true, ↓reduceIte]
      refine WS_of_skip ?_
      simp only [go_sem]
      refine WS_of_seq (WS_of_block (WS_of_ops ?_))
      have e0 : ((256 : Int) = 0) = False := by simp
      have em : ((x / 256 ^ i : Nat) : Int).tmod 256 = ((x / 256 ^ i % 256 : Nat) : Int) := by rw [Int.tmod_eq_emod_of_nonneg (Int.natCast_nonneg _)]; rfl
      have ew : IntKind.u8.wrap ((x / 256 ^ i % 256 : Nat) : Int) = ((UInt8.ofNat (x / 256 ^ i)).toNat : Int) := by
        rw [wrap_u8_nat]; congr 1; simp
      have bs := (byte_new wf1 (UInt8.ofNat (x / 256 ^ i))).str
      have eb : ([UInt8.ofNat (x / 256 ^ i)].length + (digs x i).length ≤ big) = True := by
        simp only [digs_length, big, List.length_cons, List.length_nil, eq_iff_iff, iff_true]; omega
      simp only [f51_r4, go_sem, ↓reduceIte, Nat.reduceEqDiff, q3, q4, e0, em, ew, bs, eb, not_false_eq_true, true_and]
      refine WS_of_ops ?_
      have eq : ((x / 256 ^ i : Nat) : Int).tdiv 256 = ((x / 256 ^ (i + 1) : Nat) : Int) := by
        rw [Int.tdiv_eq_ediv_of_nonneg (Int.natCast_nonneg _), Nat.pow_succ, ← Nat.div_div_eq_div_mul]; rfl
      have hlt2 : x / 256 ^ (i + 1) < 18446744073709551616 := Nat.lt_of_le_of_lt (Nat.div_le_self _ _) hx
      have eq2 : IntKind.u64.wrap ((x / 256 ^ (i + 1) : Nat) : Int) = ((x / 256 ^ (i + 1) : Nat) : Int) := wrapN hlt2
      simp only [f51_r5, go_sem, ↓reduceIte, Nat.reduceEqDiff, q4, e0, eq, eq2, not_false_eq_true, true_and]
      refine ⟨nb x - (i + 1), by omega, i + 1, rfl, by omega, k1.trans ((Keep.new (Nat.le_refl _) _).less k1.n), ?_, rfl⟩
      rw [digs_succ]; rfl
    · have hie : i = nb x := by omega
      subst hie
      have hz : x / 256 ^ nb x = 0 := Nat.div_eq_of_lt (lt_nb x)
      have c1 : ¬ (0 : Int) < ((x / 256 ^ nb x : Nat) : Int) := by rw [hz]; decide
      simp only [c1, decide_false, ↓reduceIte, Bool.false_eq_true]
      refine WS_of_exit ?_
      simp only [go_sem, ↓reduceIte]
      refine WS_of_seq (WS_of_ops ?_)
      have ew : IntKind.u8.wrap ((digs x (nb x)).length : Int) = ((UInt8.ofNat (nb x)).toNat : Int) := by rw [digs_length]; exact wrap_u8_nat _
      have bs := (byte_new wf1 (UInt8.ofNat (nb x))).str
      have eb : ([UInt8.ofNat (nb x)].length + (digs x (nb x)).length ≤ big) = True := by
        simp only [digs_length, big, List.length_cons, List.length_nil, eq_iff_iff, iff_true]; omega
      simp only [f51_r7, go_sem, ↓reduceIte, Nat.reduceEqDiff, q3, ew, bs, eb, true_and]
      refine WS_of_ret ?_
      simp only [go_sem, f51_a, ↓reduceIte, Nat.reduceEqDiff]
      exact ⟨rfl, k1.trans ((Keep.new (Nat.le_refl _) _).less k1.n)⟩
  · refine ⟨0, rfl, by omega, Keep.refl _ _, ?_, ?_⟩ <;> simp only [go_sem, ↓reduceIte, Nat.reduceEqDiff, p0, Nat.div_one] <;> rfl
/-- Take -/
theorem refTake_spec {h : H} {s : List UInt8} (hl : s.length < 4611686018427387904) :
    WCall E0 61 [.str s] h fun r h' => h' = h ∧ r = .val (.tup [.int .u64 (takeB s).1, .int .i64 (takeB s).2.1, .int .i64 (takeB s).2.2]) := by
  refine WCall_ws (ovn 61) U61 (by simp [f61_a]) ?_
  show WS E0 f61_c [] _ _ _
  refine WS_of_seq (WS_of_ops ?_)
  simp only [f61_r0, go_sem, ↓reduceIte, Nat.reduceEqDiff]
  refine WS_of_seq (WS_of_seq (WS_of_ops ?_))
  cases s with
  | nil =>
    simp only [f61_r1, go_sem, ↓reduceIte, Nat.reduceEqDiff, decide_true]
    refine WS_of_cond ?_
    simp only [go_sem, ↓reduceIte]
    refine WS_of_seq (WS_of_ops ?_)
    simp only [f61_r2, go_sem, ↓reduceIte, Nat.reduceEqDiff]
    refine WS_of_ret ?_
    simp only [go_sem, f61_a, ↓reduceIte, Nat.reduceEqDiff, true_and]
    rfl
  | cons c r =>
    have hc := c.toNat_lt
    simp only [f61_r1, go_sem, ↓reduceIte, Nat.reduceEqDiff, reduceCtorEq, decide_false]
    refine WS_of_cond ?_
    simp only [go_sem, ↓reduceIte, Bool.false_eq_true]
    refine WS_of_skip ?_
    simp only [go_sem]
    refine WS_of_seq (WS_of_ops ?_)
    have i0 : indexStrA (.str (c :: r)) (.int .i64 0) = some (.int .u8 (c.toNat : Int)) := indexStr_at (t := c :: r) (i := 0) (by simp) .i64
    have e0 : IntKind.i64.wrap (c.toNat : Int) = (c.toNat : Int) := wrapI (by omega)
    simp only [f61_r3, go_sem, ↓reduceIte, Nat.reduceEqDiff, i0, e0]
    refine WS_of_seq (WS_of_seq (WS_of_ops ?_))
    simp only [f61_r4, go_sem, ↓reduceIte, Nat.reduceEqDiff]
    refine WS_of_cond ?_
    simp only [go_sem, ↓reduceIte]
    by_cases h1 : 8 < c.toNat
    · have h1' : (8 : Int) < (c.toNat : Int) := by omega
      simp only [h1', decide_true, ↓reduceIte]
      refine WS_of_seq (WS_of_ops ?_)
      simp only [f61_r5, go_sem, ↓reduceIte, Nat.reduceEqDiff]
      refine WS_of_ret ?_
      simp only [go_sem, f61_a, ↓reduceIte, Nat.reduceEqDiff, true_and, takeB, if_pos h1]
      rfl
    have h1' : ¬ (8 : Int) < (c.toNat : Int) := by omega
    simp only [h1', decide_false, ↓reduceIte, Bool.false_eq_true]
    refine WS_of_skip ?_
    simp only [go_sem]
    refine WS_of_seq (WS_of_seq (WS_of_ops ?_))
    have e1 : IntKind.i64.wrap ((c.toNat : Int) + 1) = ((c.toNat + 1 : Nat) : Int) := by rw [wrap_i64 (by omega) (by omega)]; omega
    simp only [f61_r6, go_sem, ↓reduceIte, Nat.reduceEqDiff, e1]
    refine WS_of_cond ?_
    simp only [go_sem, ↓reduceIte]
    by_cases h2 : r.length < c.toNat
    · have h2' : (((c :: r).length : Nat) : Int) < ((c.toNat + 1 : Nat) : Int) := by simp only [List.length_cons]; omega
      simp only [h2', decide_true, ↓reduceIte]
      refine WS_of_seq (WS_of_ops ?_)
      simp only [f61_r7, go_sem, ↓reduceIte, Nat.reduceEqDiff]
      refine WS_of_ret ?_
      simp only [go_sem, f61_a, ↓reduceIte, Nat.reduceEqDiff, true_and, takeB, if_neg h1, if_pos h2]
      rfl
    have h2' : ¬ (((c :: r).length : Nat) : Int) < ((c.toNat + 1 : Nat) : Int) := by simp only [List.length_cons]; omega
    simp only [h2', decide_false, ↓reduceIte, Bool.false_eq_true]
    refine WS_of_skip ?_
    simp only [go_sem]
    have key : ∀ z : S, z 0 = .str (c :: r) → z 5 = .int .i64 (c.toNat : Int) → WS E0 (.seq (.ops f61_r10) (.seq (.seq (.ops f61_r11) (.block 0 (.loop f61_l15))) (.seq (.ops f61_r16) .ret))) [] (atEnd f61_a.results fun x h' => h' = h ∧ x = .val (.tup [.int .u64 (be (r.take c.toNat) : Nat), .int .i64 ((1 + c.toNat : Nat) : Int), .int .i64 0]))
        z h := by
      intro z z0 z5
      refine WS_of_seq (WS_of_ops ?_)
      simp only [f61_r10, go_sem, ↓reduceIte, Nat.reduceEqDiff]
      refine WS_of_seq (WS_of_seq (WS_of_ops ?_))
      simp only [f61_r11, go_sem, ↓reduceIte, Nat.reduceEqDiff]
      refine WS_of_block (WS_of_loop (fun m q h1 => ∃ i, m = c.toNat - i ∧ i ≤ c.toNat ∧ h1 = h ∧ q 0 = .str (c :: r) ∧ q 5 = .int .i64 (c.toNat : Int) ∧ q 6 = .int .u64 (be (r.take i) : Nat) ∧ q 7 = .int .i64 ((i + 1 : Nat) : Int)) ?_ c.toNat ?_)
      · rintro m q h1 ⟨i, rfl, hi, rfl, q0, q5, q6, q7⟩
        show WS E0 f61_l15 _ _ _ _
        refine WS_of_seq (WS_of_seq (WS_of_ops ?_))
        simp only [f61_r12, go_sem, ↓reduceIte, Nat.reduceEqDiff, q5, q7]
        refine WS_of_cond ?_
        simp only [go_sem, ↓reduceIte]
        by_cases hil : i < c.toNat
        · have c1 : ((i + 1 : Nat) : Int) ≤ (c.toNat : Int) := by omega
          simp only [c1, decide_true, ↓reduceIte]
          refine WS_of_skip ?_
          simp only [go_sem]
          have hir : i < r.length := by omega
          have i1 : indexStrA (.str (c :: r)) (.int .i64 ((i + 1 : Nat) : Int)) = some (.int .u8 (r[i].toNat : Int)) := indexStr_at (t := c :: r) (i := i + 1) (by simp; omega) .i64
          have hb := be_lt (r.take i)
          have hb2 : 256 ^ (r.take i).length ≤ 256 ^ 7 := Nat.pow_le_pow_right (by decide) (by rw [List.length_take]; omega)
          have hb3 : (256 : Nat) ^ 7 = 72057594037927936 := by decide
          have hd := r[i].toNat_lt
          have e2 : IntKind.u64.wrap ((be (r.take i) : Int) * 256) = ((be (r.take i) * 256 : Nat) : Int) := by rw [wrap_u64 (by omega) (by omega)]; omega
          have e3 : IntKind.u64.wrap (r[i].toNat : Int) = (r[i].toNat : Int) := wrapN (by omega)
          have e4 : IntKind.u64.wrap (((be (r.take i) * 256 : Nat) : Int) + (r[i].toNat : Int)) = ((be (r.take (i + 1)) : Nat) : Int) := by
            rw [be_take_succ hir, wrap_u64 (by omega) (by omega)]; omega
          refine WS_of_seq (WS_of_block (WS_of_ops ?_))
          simp only [f61_r13, go_sem, ↓reduceIte, Nat.reduceEqDiff, q0, q6, q7, i1, e2, e3, e4]
          refine WS_of_ops ?_
          have e9 : IntKind.i64.wrap (((i + 1 : Nat) : Int) + 1) = ((i + 1 + 1 : Nat) : Int) := by rw [wrap_i64 (by omega) (by omega)]; omega
          simp only [f61_r14, go_sem, ↓reduceIte, Nat.reduceEqDiff, q7, e9]
          exact ⟨c.toNat - (i + 1), by omega, i + 1, rfl, by omega, trivial, q0, q5, rfl, rfl⟩
        · have hie : i = c.toNat := by omega
          subst hie
          have c1 : ¬ ((c.toNat + 1 : Nat) : Int) ≤ (c.toNat : Int) := by omega
          simp only [c1, decide_false, ↓reduceIte, Bool.false_eq_true]
          refine WS_of_exit ?_
          simp only [go_sem, ↓reduceIte]
          refine WS_of_seq (WS_of_ops ?_)
          simp only [f61_r16, go_sem, ↓reduceIte, Nat.reduceEqDiff, q5, q6, e1]
          refine WS_of_ret ?_
          simp only [go_sem, f61_a, ↓reduceIte, Nat.reduceEqDiff, true_and]
          rw [Nat.add_comm 1]
      · refine ⟨0, rfl, by omega, rfl, ?_, ?_, ?_, ?_⟩ <;> simp only [go_sem, ↓reduceIte, Nat.reduceEqDiff, z0, z5] <;> rfl
    refine WS_of_seq (WS_of_seq (WS_of_ops ?_))
    by_cases h0 : c.toNat = 0
    · have h0' : ¬ (0 : Int) < (c.toNat : Int) := by omega
      simp only [f61_r8, go_sem, ↓reduceIte, Nat.reduceEqDiff, h0', decide_false, Bool.false_eq_true]
      refine WS_of_cond ?_
      simp only [go_sem, ↓reduceIte, Bool.false_eq_true]
      refine WS_of_skip ?_
      simp only [go_sem]
      have et : takeB (c :: r) = (be (r.take c.toNat), 1 + c.toNat, 0) := by
        simp only [takeB, if_neg h1, if_neg h2]
        rw [if_neg (by rintro ⟨q, _⟩; omega)]
      rw [et]
      exact key _ rfl rfl
    · have h0' : (0 : Int) < (c.toNat : Int) := by omega
      cases r with
      | nil => simp at h2; omega
      | cons d r =>
        have i1 : indexStrA (.str (c :: d :: r)) (.int .i64 1) = some (.int .u8 (d.toNat : Int)) := indexStr_at (t := c :: d :: r) (i := 1) (by simp) .i64
        by_cases h3 : d = 0
        · subst h3
          have e3 : (((0 : UInt8).toNat : Int) = 0) = True := by simp
          simp only [f61_r8, go_sem, ↓reduceIte, Nat.reduceEqDiff, h0', i1, decide_true, e3]
          refine WS_of_cond ?_
          simp only [go_sem, ↓reduceIte]
          refine WS_of_seq (WS_of_ops ?_)
          simp only [f61_r9, go_sem, ↓reduceIte, Nat.reduceEqDiff]
          refine WS_of_ret ?_
          have et : takeB (c :: 0 :: r) = (0, 0, 11) := by
            simp only [takeB, if_neg h1, if_neg h2]
            rw [if_pos ⟨by omega, rfl⟩]
          simp only [go_sem, f61_a, ↓reduceIte, Nat.reduceEqDiff, true_and, et]
          rfl
        · have e3 : ¬ ((d.toNat : Int) = 0) := by
            intro e
            apply h3
            have : d.toNat = 0 := by omega
            exact UInt8.toNat_inj.1 this
          simp only [f61_r8, go_sem, ↓reduceIte, Nat.reduceEqDiff, h0', i1, decide_true, e3, decide_false, Bool.false_eq_true]
          refine WS_of_cond ?_
          simp only [go_sem, ↓reduceIte, Bool.false_eq_true]
          refine WS_of_skip ?_
          simp only [go_sem]
          have et : takeB (c :: d :: r) = (be ((d :: r).take c.toNat), 1 + c.toNat, 0) := by
            simp only [takeB, if_neg h1, if_neg h2]
            rw [if_neg (by rintro ⟨_, q⟩; exact h3 (by simpa using q))]
          rw [et]
          exact key _ rfl rfl
/-- the state of the reference, as a value -/
def rsA (s : RS) : AV := .agg [.str s.1, .int .i64 (s.2 : Int)]
/-- Read -/
theorem refRead_spec {h : H} {s : RS} (wf : h.Wf) (hl : s.1.length < 4611686018427387904) :
    WCall E0 54 [.agg [.str s.1, .int .i64 (s.2 : Int)]] h fun r h' => r = .val (.tup [.int .u64 (rNum s).1, rsA (rNum s).2]) ∧ Keep (Old h.n) h h' := by
  refine WCall_ws (ovn 54) U54 (by simp [f54_a]) ?_
  show WS E0 f54_c [] _ _ _
  refine WS_of_seq (WS_of_ops ?_)
  simp only [f54_r0, go_sem, ↓reduceIte, Nat.reduceEqDiff, AV.cells]
  have b1 := Box.new wf [.str s.1, .int .i64 (s.2 : Int)]
  have k1 : Keep (Old h.n) h (h.new [.str s.1, .int .i64 (s.2 : Int)]) := Keep.new (Nat.le_refl _) _
  generalize h.new [.str s.1, .int .i64 (s.2 : Int)] = h1 at b1 k1 ⊢
  have wf1 := k1.wf wf
  have b2 := Box.new wf1 [.str [], .int .i64 0]
  have k2 : Keep (Old h1.n) h1 (h1.new [.str [], .int .i64 0]) := Keep.new (Nat.le_refl _) _
  generalize h1.new [.str [], .int .i64 0] = h2 at b2 k2 ⊢
  have wf2 := k2.wf wf1
  have hlt := b1.lt wf1
  have b1' := b1.keep k2 hlt
  have k02 := k1.then (Nat.le_refl _) k2
  refine WS_of_seq (WS_of_seq (WS_of_ops ?_))
  simp only [f54_r1, go_sem, ↓reduceIte, Nat.reduceEqDiff, Nat.zero_add, b1'.load]
  refine WS_of_cond ?_
  simp only [go_sem, ↓reduceIte, Nat.reduceEqDiff]
  by_cases c1 : s.2 = 0
  case neg =>
    have c1' : ¬ ((s.2 : Nat) : Int) = 0 := by omega
    simp only [c1', decide_false, Bool.not_false, ↓reduceIte]
    obtain ⟨h3, e3, b3, k3⟩ := b2.putAll wf2 (vs := [.str s.1, .int .i64 (s.2 : Int)]) (n := 2) rfl rfl rfl
    have b1'' := b1'.keepA wf2 k3 (by simp; omega)
    refine WS_of_seq (WS_of_draw ?_)
    simp only [f54_r2, go_sem, ↓reduceIte, Nat.reduceEqDiff, b1'.loadAgg (n := 2) rfl, e3, b1''.loadAgg (n := 2) rfl, and_self, true_and, List.filter_cons, List.filter_nil, Nat.testBit, Nat.reduceShiftRight, Nat.reduceAnd, Nat.reduceBNe, Bool.not_false, Bool.not_true, Bool.false_eq_true, bne_self_eq_false]
    refine WS_of_ret ?_
    have e : rNum s = (0, s) := rNum_err c1
    simp only [go_sem, f54_a, ↓reduceIte, Nat.reduceEqDiff, b3.loadAgg (n := 2) rfl, e, rsA]
    exact ⟨rfl, k02.trans (k3.newbox wf2 (Nat.le_trans k02.n (Nat.le_refl _)) k1.n)⟩
  have c1' : ((s.2 : Nat) : Int) = 0 := by omega
  simp only [c1', decide_true, Bool.not_true, Bool.false_eq_true, ↓reduceIte]
  refine WS_of_skip ?_
  simp only [go_sem]
  refine WS_of_seq (WS_of_ops ?_)
  simp only [f54_r3, go_sem, ↓reduceIte, Nat.reduceEqDiff, Nat.zero_add, b1'.load]
  refine (refTake_spec hl).mono ?_
  rintro x h' ⟨rfl, rfl⟩
  simp only [go_sem, ↓reduceIte, Nat.reduceEqDiff]
  refine WS_of_seq (WS_of_seq (WS_of_ops ?_))
  simp only [f54_r4, go_sem, ↓reduceIte, Nat.reduceEqDiff]
  refine WS_of_cond ?_
  simp only [go_sem, ↓reduceIte, Nat.reduceEqDiff]
  by_cases c2 : (takeB s.1).2.2 = 0
  case neg =>
    have c2' : ¬ ((takeB s.1).2.2 : Int) = 0 := by omega
    simp only [c2', decide_false, Bool.not_false, ↓reduceIte]
    obtain ⟨h3, e3, b3, k3⟩ := b2.putAll wf2 (vs := [.str s.1, .int .i64 ((takeB s.1).2.2 : Int)]) (n := 2) rfl rfl rfl
    have b1'' := b1'.keepA wf2 k3 (by simp; omega)
    have ea : afill [AV.str [], AV.int .i64 0] [(0, 1, AV.str s.1), (1, 1, AV.int .i64 ((takeB s.1).2.2 : Int))] = some [.str s.1, .int .i64 ((takeB s.1).2.2 : Int)] := rfl
    refine WS_of_seq (WS_of_draw ?_)
    simp only [f54_r5, go_sem, ↓reduceIte, Nat.reduceEqDiff, Nat.zero_add, b1'.load, ea, e3, b1''.load, and_self, true_and, List.filter_cons, List.filter_nil, Nat.testBit, Nat.reduceShiftRight, Nat.reduceAnd, Nat.reduceBNe, Bool.not_false, Bool.not_true, Bool.false_eq_true, bne_self_eq_false]
    refine WS_of_ret ?_
    have e : rNum s = (0, (s.1, (takeB s.1).2.2)) := by simp [rNum, c1, c2]
    simp only [go_sem, f54_a, ↓reduceIte, Nat.reduceEqDiff, b3.loadAgg (n := 2) rfl, e, rsA]
    exact ⟨rfl, k02.trans (k3.newbox wf2 k02.n k1.n)⟩
  have c2' : ((takeB s.1).2.2 : Int) = 0 := by omega
  simp only [c2', decide_true, Bool.not_true, Bool.false_eq_true, ↓reduceIte]
  refine WS_of_skip ?_
  simp only [go_sem]
  obtain ⟨q1, q2, q3, q4⟩ := takeB_ok s.1 c2
  obtain ⟨h3, e3, b3, k3⟩ := b2.putAll wf2 (vs := [.str (s.1.drop (takeB s.1).2.1), .int .i64 0]) (n := 2) rfl rfl rfl
  have b1'' := b1'.keepA wf2 k3 (by simp; omega)
  have ea : afill [AV.str [], AV.int .i64 0] [(0, 1, AV.str (s.1.drop (takeB s.1).2.1))] = some [.str (s.1.drop (takeB s.1).2.1), .int .i64 0] := rfl
  refine WS_of_seq (WS_of_draw ?_)
  simp only [f54_r6, go_sem, ↓reduceIte, Nat.reduceEqDiff, Nat.zero_add, b1'.load, sliceT_from q3, ea, e3, b1''.load, and_self, true_and, List.filter_cons, List.filter_nil, Nat.testBit, Nat.reduceShiftRight, Nat.reduceAnd, Nat.reduceBNe, Bool.not_false, Bool.not_true, Bool.false_eq_true, bne_self_eq_false]
  refine WS_of_ret ?_
  have e : rNum s = ((takeB s.1).1, (s.1.drop (takeB s.1).2.1, 0)) := by simp [rNum, c1, c2]
  simp only [go_sem, f54_a, ↓reduceIte, Nat.reduceEqDiff, b3.loadAgg (n := 2) rfl, e, rsA]
  exact ⟨rfl, k02.trans (k3.newbox wf2 k02.n k1.n)⟩
end Go.Proofs.Ytmfbememiffkjaa.Ev.C

/- Numbers that were put are taken again: the plain law. -/
namespace Go.Proofs.Ytmfbememiffkjaa.Ev.C
open Go Go.Proofs.Ytmfbememiffkjaa.Ev
theorem takeB_num {x : Nat} (hx : x < 18446744073709551616) (rest : List UInt8) : takeB (num x ++ rest) = (x, (num x).length, 0) := by
  have h8 := nb_le8 hx
  have e1 : (UInt8.ofNat (nb x)).toNat = nb x := by simp; omega
  have hl : (bytesB x).length = nb x := bytesB_length x
  rw [num_length]
  show takeB (UInt8.ofNat (nb x) :: (bytesB x ++ rest)) = _
  simp only [takeB, e1]
  rw [if_neg (by omega), if_neg (by rw [List.length_append, hl]; omega), if_neg]
  · rw [List.take_append_of_le_length (by omega), List.take_of_length_le (by omega), be_bytesB, Nat.add_comm]
  · rintro ⟨h0, hh⟩
    obtain ⟨k, hk⟩ : ∃ k, nb x = k + 1 := ⟨nb x - 1, by omega⟩
    have hx0 : 0 < x := by
      rcases Nat.eq_zero_or_pos x with h | h
      · subst h; simp [nb] at h0
      · exact h
    have hle := nb_le hx0
    have hlt := lt_nb x
    have hd : bytesB x = UInt8.ofNat (x / 256 ^ (nb x - 1 - 0)) :: (List.range k).map (fun i => UInt8.ofNat (x / 256 ^ (nb x - 1 - (i + 1)))) := by
      unfold bytesB
      rw [hk, List.range_succ_eq_map, List.map_cons, List.map_map]
      rfl
    rw [hd] at hh
    simp only [List.cons_append, List.head?_cons, Option.some.injEq, Nat.sub_zero] at hh
    have hq1 : 1 ≤ x / 256 ^ (nb x - 1) := (Nat.one_le_div_iff (Nat.pow_pos (by decide))).2 hle
    have hq2 : x / 256 ^ (nb x - 1) < 256 := by
      rw [Nat.div_lt_iff_lt_mul (Nat.pow_pos (by decide)), hk, Nat.add_sub_cancel, Nat.mul_comm, ← Nat.pow_succ, Nat.succ_eq_add_one, ← hk]
      exact hlt
    have := congrArg UInt8.toNat hh
    simp at this
    omega
theorem rNum_num {x : Nat} (hx : x < 18446744073709551616) (rest : List UInt8) : rNum (num x ++ rest, 0) = (x, (rest, 0)) := by
  have e := takeB_num hx rest
  unfold rNum
  simp only [ne_eq, not_true_eq_false, if_false, e]
  rw [List.drop_append_of_le_length (Nat.le_refl _), List.drop_length, List.nil_append]
end Go.Proofs.Ytmfbememiffkjaa.Ev.C

/- A journal, by plain definition; its small functions, walked. -/
namespace Go.Proofs.Ytmfbememiffkjaa.Ev.C
open Go Go.Proofs.Ytmfbememiffkjaa.Ev
set_option linter.unusedSimpArgs false
set_option linter.unusedVariables false
def jsize (n : Nat) : Nat := 1 + (n + 62) / 63
/-- a sector as a head -/
def hd (b : Sec) : (Nat × Nat × Nat) × Bool :=
  if b.head? = some 1 then
    let r1 := rNum (b.drop 1, 0); let r2 := rNum r1.2; let r3 := rNum r2.2
    ((r1.1, r2.1, r3.1), decide (r3.2.2 = 0))
  else ((0, 0, 0), false)
def headB (e k n : Nat) : Sec := 1 :: (num e ++ (num k ++ num n))
theorem rNum_len (s : RS) : (rNum s).2.1.length ≤ s.1.length := by
  unfold rNum
  split
  · exact Nat.le_refl _
  · split
    · exact Nat.le_refl _
    · simp
theorem hd_big (b : Sec) : (hd b).1.1 < 18446744073709551616 ∧ (hd b).1.2.1 < 18446744073709551616 ∧ (hd b).1.2.2 < 18446744073709551616 := by
  unfold hd
  split
  · exact ⟨rNum_big _, rNum_big _, rNum_big _⟩
  · simp
theorem size_spec {h : H} {n : Int} (hn : n < 4611686018427387904) (hm : -4611686018427387904 ≤ n) : WCall E0 40 [.int .i64 n] h fun r h' => h' = h ∧ r = .val (.int .i64 (jsize n.toNat : Int)) := by
  refine WCall_ws (ovn 40) U40 (by simp [f40_a]) ?_
  show WS E0 f40_c [] _ _ _
  refine WS_of_seq (WS_of_ops ?_)
  simp only [f40_r0, go_sem, ↓reduceIte]
  refine WS_of_seq (WS_of_ops ?_)
  have hmax : (if 0 > n then (0 : Int) else n) = (n.toNat : Int) := by split <;> omega
  have w1 : IntKind.i64.wrap ((n.toNat : Int) + 63) = ((n.toNat + 63 : Nat) : Int) := by rw [wrap_i64 (by omega) (by omega)]; omega
  have w2 : IntKind.i64.wrap (((n.toNat + 63 : Nat) : Int) - 1) = ((n.toNat + 62 : Nat) : Int) := by rw [wrap_i64 (by omega) (by omega)]; omega
  have w3 : Int.tdiv ((n.toNat + 62 : Nat) : Int) 63 = (((n.toNat + 62) / 63 : Nat) : Int) := by rw [Int.ofNat_tdiv]; rfl
  have w4 : IntKind.i64.wrap (((n.toNat + 62) / 63 : Nat) : Int) = (((n.toNat + 62) / 63 : Nat) : Int) := wrap_i64 (by omega) (by omega)
  have w5 : IntKind.i64.wrap (1 + (((n.toNat + 62) / 63 : Nat) : Int)) = (jsize n.toNat : Int) := by rw [wrap_i64 (by omega) (by omega)]; unfold jsize; omega
  simp only [f40_r1, go_sem, ↓reduceIte, Nat.reduceEqDiff, hmax, w1, w2, w3, w4, w5, (by decide : ¬ (63 : Int) = 0)]
  refine WS_of_ret ?_
  simp only [f40_a, go_sem, ↓reduceIte, Nat.reduceEqDiff]
  exact ⟨trivial, trivial⟩
/-- what a sector tells -/
theorem hd_spec {h : H} {v : AV} {b : Sec} (wf : h.Wf) (bv : Bytes h v b) (sl : Slot (Old h.n) h v) (hb : b.length = 64) :
    WCall E0 60 [v] h fun r h' => r = .val (.tup [.agg [.int .u64 ((hd b).1.1 : Int), .int .u64 ((hd b).1.2.1 : Int), .int .u64 ((hd b).1.2.2 : Int)], .bool (hd b).2]) ∧ Keep (Old h.n) h h' := by
  refine WCall_ws (ovn 60) U60 (by simp [f60_a]) ?_
  show WS E0 f60_c [] _ _ _
  refine WS_of_seq (WS_of_ops ?_)
  have k1 : Keep (Old h.n) h (h.new [.int .u64 0, .int .u64 0, .int .u64 0]) := Keep.new (Nat.le_refl _) _
  have b1 : Box h.n [.int .u64 0, .int .u64 0, .int .u64 0] (h.new [.int .u64 0, .int .u64 0, .int .u64 0]) := Box.new wf _
  have n1 : (h.new [.int .u64 0, .int .u64 0, .int .u64 0]).n = h.n + 1 := rfl
  simp only [f60_r0, go_sem, ↓reduceIte, Nat.reduceEqDiff]
  generalize h.new [.int .u64 0, .int .u64 0, .int .u64 0] = h1 at k1 b1 n1 ⊢
  have wf1 := k1.wf wf
  have bv1 := bv.keep k1 sl
  obtain ⟨p, ep, lp⟩ := Sl.at bv1 (i := 0) (by omega) .i64
  have hb0 : b[0]? = some (b[0]'(by omega)) := List.getElem?_eq_getElem (by omega)
  have lp' : loadA h1 false 1 p = some (.int .u8 ((b[0]'(by omega)).toNat : Int)) := by rw [lp]; simp [byteCells, hb0]
  have hh : b.head? = some (b[0]'(by omega)) := by rw [← hb0]; cases b <;> rfl
  refine WS_of_seq (WS_of_seq (WS_of_ops ?_))
  simp only [Int.natCast_zero] at ep
  by_cases c : b[0]'(by omega) = 1
  · have c' : ((b[0]'(by omega)).toNat : Int) = 1 := by rw [c]; rfl
    have hd1 : hd b = (((rNum (b.drop 1, 0)).1, (rNum (rNum (b.drop 1, 0)).2).1, (rNum (rNum (rNum (b.drop 1, 0)).2).2).1), decide ((rNum (rNum (rNum (b.drop 1, 0)).2).2).2.2 = 0)) := by
      unfold hd; rw [hh, c, if_pos rfl]
    simp only [f60_r1, go_sem, ↓reduceIte, Nat.reduceEqDiff, ep, lp', c', decide_true, Bool.not_true]
    refine WS_of_cond ?_
    simp only [go_sem, ↓reduceIte, Bool.false_eq_true]
    refine WS_of_skip ?_
    simp only [go_sem]
    obtain ⟨v1, e1, s1, sl1⟩ := Bytes.drop bv1 (k := 1) (by omega) .i64
    have e1 : sliceSA 1 (some (.int .i64 1)) none v = some v1 := e1
    refine WS_of_seq (WS_of_ops ?_)
    simp only [f60_r3, go_sem, ↓reduceIte, Nat.reduceEqDiff, e1]
    have sl' : Slot (Old h1.n) h1 v1 := sl1 _ (sl.keep k1 fun q hq => Nat.lt_of_lt_of_le hq k1.n)
    have hdl : (b.drop 1).length < 4294967296 := by simp; omega
    refine (open_spec wf1 s1 sl' hdl).mono ?_
    rintro r h2 ⟨o, rfl, r2, ho, k2⟩
    have wf2 := k2.wf wf1
    simp only [go_sem, ↓reduceIte, Nat.reduceEqDiff]
    refine WS_of_seq (WS_of_ops ?_)
    simp only [f60_r4, go_sem, ↓reduceIte, Nat.reduceEqDiff]
    have t1 := rNum_len (b.drop 1, 0)
    have t2 := rNum_len (rNum (b.drop 1, 0)).2
    have t3 := rNum_len (rNum (rNum (b.drop 1, 0)).2).2
    simp only at t1
    refine (num_spec wf2 r2 (by simpa using hdl)).mono ?_
    rintro r h3 ⟨rfl, r3, k3⟩
    have wf3 := k3.wf wf2
    simp only [go_sem, ↓reduceIte, Nat.reduceEqDiff]
    refine (num_spec wf3 r3 (by omega)).mono ?_
    rintro r h4 ⟨rfl, r4, k4⟩
    have wf4 := k4.wf wf3
    simp only [go_sem, ↓reduceIte, Nat.reduceEqDiff]
    refine (num_spec wf4 r4 (by omega)).mono ?_
    rintro r h5 ⟨rfl, r5, k5⟩
    have wf5 := k5.wf wf4
    rw [hd1]
    generalize (rNum (b.drop 1, 0)).1 = x1 at *
    generalize (rNum (rNum (b.drop 1, 0)).2).1 = x2 at *
    generalize (rNum (rNum (rNum (b.drop 1, 0)).2).2).1 = x3 at *
    generalize (rNum (rNum (rNum (b.drop 1, 0)).2).2).2 = s5 at *
    have ef : afill [AV.int .u64 0, .int .u64 0, .int .u64 0] [(0, 1, .int .u64 (x1 : Int)), (1, 1, .int .u64 (x2 : Int)), (2, 1, .int .u64 (x3 : Int))] = some [.int .u64 (x1 : Int), .int .u64 (x2 : Int), .int .u64 (x3 : Int)] := rfl
    have k25 : Keep (Old h1.n) h2 h5 := by
      have n2 := k2.n
      have n3 := k3.n
      have n4 := k4.n
      exact ((k3.old wf2 n2 (by simpa using ho)).trans (k4.old wf3 (by omega) (by simpa using ho))).trans (k5.old wf4 (by omega) (by simpa using ho))
    have k15 : Keep (Old h1.n) h1 h5 := k2.trans k25
    have b5 := b1.keep k15 (b1.lt wf1)
    have kn : Keep (Old h5.n) h5 (h5.new [.int .u64 0, .int .u64 0, .int .u64 0]) := Keep.new (Nat.le_refl _) _
    have bn : Box h5.n [.int .u64 0, .int .u64 0, .int .u64 0] (h5.new [.int .u64 0, .int .u64 0, .int .u64 0]) := Box.new wf5 _
    have wfn := kn.wf wf5
    obtain ⟨h6, e6, b6, k6⟩ := bn.putAll (n := 3) (vs := [.int .u64 (x1 : Int), .int .u64 (x2 : Int), .int .u64 (x3 : Int)]) wfn rfl rfl rfl
    have k56 : Keep (Old h5.n) h5 h6 := kn.trans (k6.newbox wfn kn.n (Nat.le_refl _))
    have wf6 := k56.wf wf5
    have ho5 : o < h5.n := by
      obtain ⟨_, bo, _⟩ := r5
      exact bo.lt wf5
    have r6 : Rd h6 o s5 := r5.keep (k56.weaken fun q hq => by have : q < o + 1 := hq; show q < _; omega)
    have b56 := b5.keep k56 (b5.lt wf5)
    simp only [go_sem, ↓reduceIte, Nat.reduceEqDiff, ef, e6]
    have la : loadA h6 true 3 (.ptr h5.n 0) = some (.agg [.int .u64 (x1 : Int), .int .u64 (x2 : Int), .int .u64 (x3 : Int)]) := b6.loadAgg rfl
    obtain ⟨h7, e7, b7, k7⟩ := b56.putAll (n := 3) (vs := [.int .u64 (x1 : Int), .int .u64 (x2 : Int), .int .u64 (x3 : Int)]) wf6 rfl rfl rfl
    refine WS_of_seq (WS_of_draw ?_)
    simp only [f60_r5, go_sem, ↓reduceIte, Nat.reduceEqDiff, and_self, true_and, List.filter_cons, List.filter_nil, Nat.testBit, Nat.reduceShiftRight, Nat.reduceAnd, Nat.reduceBNe, Bool.not_false, Bool.not_true, Bool.false_eq_true, bne_self_eq_false, eq_self, la]
    refine (err_spec r6).mono ?_
    rintro r h8 ⟨rfl, rfl⟩
    simp only [go_sem, ↓reduceIte, Nat.reduceEqDiff, and_self, true_and, List.filter_cons, List.filter_nil, Nat.testBit, Nat.reduceShiftRight, Nat.reduceAnd, Nat.reduceBNe, Bool.not_false, Bool.not_true, Bool.false_eq_true, bne_self_eq_false, eq_self, la, e7]
    refine WS_of_ret ?_
    have hdec : decide ((s5.2 : Int) = 0) = decide (s5.2 = 0) := decide_eq_decide.2 (by omega)
    simp only [f60_a, go_sem, ↓reduceIte, Nat.reduceEqDiff, b7.loadAgg (n := 3) rfl, hdec]
    have n1' := k1.n
    exact ⟨trivial, ((k1.trans (k15.weaken fun q hq => Nat.lt_of_lt_of_le hq n1')).trans (k56.weaken fun q hq => by have := k15.n; have : q < h.n := hq; show q < _; omega)).trans (k7.newbox wf6 (by have := k15.n; have := k56.n; omega) (Nat.le_refl _))⟩
  · have c' : ¬ ((b[0]'(by omega)).toNat : Int) = 1 := fun e => c (by
      apply UInt8.toNat_inj.1
      show (b[0]'(by omega)).toNat = 1
      omega)
    have hd0 : hd b = ((0, 0, 0), false) := by
      unfold hd; rw [hh, if_neg (by simpa using c)]
    simp only [f60_r1, go_sem, ↓reduceIte, Nat.reduceEqDiff, ep, lp', c', decide_false, Bool.not_false]
    refine WS_of_cond ?_
    simp only [go_sem, ↓reduceIte]
    have ef : afill [AV.int .u64 0, .int .u64 0, .int .u64 0] [] = some [.int .u64 0, .int .u64 0, .int .u64 0] := rfl
    obtain ⟨h2, e2, b2, k2⟩ := b1.putAll (n := 3) (vs := [.int .u64 0, .int .u64 0, .int .u64 0]) wf1 rfl rfl rfl
    refine WS_of_seq (WS_of_ops ?_)
    simp only [f60_r2, go_sem, ↓reduceIte, Nat.reduceEqDiff, ef, e2]
    refine WS_of_ret ?_
    simp only [f60_a, go_sem, ↓reduceIte, Nat.reduceEqDiff, b2.loadAgg (n := 3) rfl, hd0]
    exact ⟨rfl, k1.trans (k2.newbox wf1 k1.n (Nat.le_refl _))⟩
end Go.Proofs.Ytmfbememiffkjaa.Ev.C

/- A journal in memory; what is left, a record put, walked. -/
namespace Go.Proofs.Ytmfbememiffkjaa.Ev.C
open Go Go.Proofs.Ytmfbememiffkjaa.Ev
set_option linter.unusedSimpArgs false
set_option linter.unusedVariables false
structure LogIs (h : H) (ol o fr to ep : Nat) (gl : List Nat) (rv : AV) (us : List AV) : Prop where
  b : Box ol [.ptr o 0, .int .i64 (fr : Int), .int .i64 (to : Int), .int .u64 (ep : Int), rv] h
  rs : Sl h 1 rv us.length us
  og : (rv = .nils ∧ us = [] ∧ gl = [ol]) ∨ ∃ g, g ≠ ol ∧ Grp g h rv ∧ gl = [ol, g]
  bd : fr ≤ 1000000 ∧ to ≤ 1000000 ∧ us.length ≤ 1000000
/-- the records: each apart from what is written -/
def Recs (F : List Nat) (h : H) (us : List AV) (K : List Sec) : Prop := us.length = K.length ∧ ∀ (i : Nat) (u : AV), us[i]? = some u → Bytes h u (K.getD i []) ∧ Slot (Apart F h) h u
theorem Recs.next {F F' : List Nat} {h h' : H} {us : List AV} {K : List Sec} (r : Recs F h us K) (wf : h.Wf) (k : KeepA F h h') (hn : Next F F' h) : Recs F' h' us K :=
  ⟨r.1, fun i u hu => ⟨(r.2 i u hu).1.keep k (r.2 i u hu).2, Slot.next wf (r.2 i u hu).2 k hn⟩⟩
theorem LogIs.root {h : H} {ol o fr to ep : Nat} {gl : List Nat} {rv : AV} {us : List AV} (l : LogIs h ol o fr to ep gl rv us) : ∀ g ∈ gl, Root g h := by
  rcases l.og with ⟨_, _, rfl⟩ | ⟨g, _, gg, rfl⟩
  · simpa using l.b.root
  · simpa using ⟨l.b.root, gg.root⟩
theorem LogIs.lt {h : H} {ol o fr to ep : Nat} {gl : List Nat} {rv : AV} {us : List AV} (l : LogIs h ol o fr to ep gl rv us) (wf : h.Wf) : ∀ g ∈ gl, g < h.n := fun g hg => by
  obtain ⟨cs, e⟩ := l.root g hg
  exact wf.ob _ _ e
theorem LogIs.mem {h : H} {ol o fr to ep : Nat} {gl : List Nat} {rv : AV} {us : List AV} (l : LogIs h ol o fr to ep gl rv us) : ol ∈ gl := by
  rcases l.og with ⟨_, _, rfl⟩ | ⟨g, _, gg, rfl⟩ <;> simp
/-- other groups are written -/
theorem LogIs.apart {h h' : H} {ol o fr to ep : Nat} {gl gs : List Nat} {rv : AV} {us : List AV} (l : LogIs h ol o fr to ep gl rv us) (wf : h.Wf) (k : KeepA gs h h') (hd : ∀ g ∈ gl, g ∉ gs) (hr : ∀ g ∈ gs, Root g h) : LogIs h' ol o fr to ep gl rv us := by
  have b := l.b.keepA wf k (hd _ l.mem)
  rcases l.og with ⟨rfl, rfl, e⟩ | ⟨g, ne, gg, e⟩
  · exact ⟨b, l.rs.keep k (by trivial), .inl ⟨rfl, rfl, e⟩, l.bd⟩
  · have s := gg.away wf (hd g (by rw [e]; simp)) hr
    exact ⟨b, l.rs.keep k s, .inr ⟨g, ne, gg.keep s k, e⟩, l.bd⟩
theorem LogIs.keep {h h' : H} {ol o fr to ep : Nat} {gl : List Nat} {rv : AV} {us : List AV} (l : LogIs h ol o fr to ep gl rv us) (wf : h.Wf) (k : Keep (Old h.n) h h') : LogIs h' ol o fr to ep gl rv us := by
  have b := l.b.keep k (l.b.lt wf)
  rcases l.og with ⟨rfl, rfl, e⟩ | ⟨g, ne, gg, e⟩
  · exact ⟨b, l.rs.keep k (by trivial), .inl ⟨rfl, rfl, e⟩, l.bd⟩
  · have s := (gg.own wf (Nat.zero_le _)).slot wf
    exact ⟨b, l.rs.keep k s, .inr ⟨g, ne, gg.keep s k, e⟩, l.bd⟩
theorem room_spec {h : H} {ol o fr to ep : Nat} {gl : List Nat} {rv : AV} {us : List AV} (l : LogIs h ol o fr to ep gl rv us) : WCall E0 37 [.ptr ol 0] h fun r h' => h' = h ∧ r = .val (.int .i64 ((to : Int) - fr)) := by
  refine WCall_ws (ovn 37) U37 (by simp [f37_a]) ?_
  show WS E0 f37_c [] _ _ _
  refine WS_of_seq (WS_of_ops ?_)
  simp only [f37_r0, go_sem, ↓reduceIte]
  refine WS_of_seq (WS_of_seq (WS_of_ops ?_))
  simp only [f37_r1, go_sem, ↓reduceIte, Nat.reduceEqDiff]
  refine WS_of_cond ?_
  simp only [go_sem, ↓reduceIte, Bool.false_eq_true]
  refine WS_of_skip ?_
  simp only [go_sem]
  have hb := l.bd
  have hw : IntKind.i64.wrap ((to : Int) - fr) = (to : Int) - fr := wrap_i64 (by omega) (by omega)
  refine WS_of_seq (WS_of_draw ?_)
  simp only [f37_r3, go_sem, ↓reduceIte, Nat.reduceEqDiff, and_self, true_and, List.filter_cons, List.filter_nil, Nat.testBit, Nat.reduceShiftRight, Nat.reduceAnd, Nat.reduceBNe, Bool.not_false, Bool.not_true, Bool.false_eq_true, bne_self_eq_false, eq_self, Nat.zero_add, l.b.load, List.getElem?_cons_zero, List.getElem?_cons_succ, hw]
  refine WS_of_ret ?_
  simp only [f37_a, go_sem, ↓reduceIte, Nat.reduceEqDiff]
  exact ⟨trivial, trivial⟩
theorem room_nil {h : H} : WCall E0 37 [.nilp] h fun r h' => h' = h ∧ r = .val (.int .i64 0) := by
  refine WCall_ws (ovn 37) U37 (by simp [f37_a]) ?_
  show WS E0 f37_c [] _ _ _
  refine WS_of_seq (WS_of_ops ?_)
  simp only [f37_r0, go_sem, ↓reduceIte]
  refine WS_of_seq (WS_of_seq (WS_of_ops ?_))
  simp only [f37_r1, go_sem, ↓reduceIte, Nat.reduceEqDiff]
  refine WS_of_cond ?_
  simp only [go_sem, ↓reduceIte]
  refine WS_of_seq (WS_of_ops ?_)
  simp only [f37_r2, go_sem, ↓reduceIte, Nat.reduceEqDiff]
  refine WS_of_ret ?_
  simp only [f37_a, go_sem, ↓reduceIte, Nat.reduceEqDiff]
  exact ⟨trivial, trivial⟩
/-- a record is put behind the others -/
theorem jput_spec {h : H} {ol o fr to ep : Nat} {gl : List Nat} {rv v : AV} {us : List AV} {b : Sec} (wf : h.Wf) (l : LogIs h ol o fr to ep gl rv us) (bv : Bytes h v b) (sl : Slot (Apart gl h) h v) (hb : b.length ≤ 100000) (hfr : fr + jsize b.length ≤ 1000000) (hul : us.length < 1000000) :
    WCall E0 53 [.ptr ol 0, v] h fun r h' => ∃ gl' rv', r = .val (.tup []) ∧ LogIs h' ol o (fr + jsize b.length) to ep gl' rv' (us ++ [v]) ∧ KeepA gl h h' ∧ Next gl gl' h := by
  refine WCall_ws (ovn 53) U53 (by simp [f53_a]) ?_
  show WS E0 f53_c [] _ _ _
  have hv := one_of_len bv.len
  have hmem := l.mem
  have ef : afill (zeros [AV.nils] (1 * 1)) [(0, 1, v)] = some [v] := by
    have hz : zeros [AV.nils] (1 * 1) = [AV.nils] := rfl
    simp only [hz, afill, hv.2]
    rfl
  have kn : Keep (Old h.n) h (h.new [v]) := Keep.new (Nat.le_refl _) _
  have wfn := kn.wf wf
  have sb : Sl (h.new [v]) 1 (.slice h.n 0 1 1) 1 [v] := by
    have := Sl.new (es := 1) (n := 1) wf (vs := [v]) (by simp)
    simpa using this
  have lo : lenSA v = some b.length := bv.len
  refine WS_of_seq (WS_of_ops ?_)
  -- the append
  obtain ⟨rv', h2, g, ea, s2, hg, g2, kg, hgl⟩ : ∃ rv' h2 g, appendA (h.new [v]) 1 rv (.slice h.n 0 1 1) = some (rv', h2) ∧ Sl h2 1 rv' (us.length + 1) (us ++ [v]) ∧ g ≠ ol ∧ Grp g h2 rv' ∧ KeepA gl h h2 ∧ (g ∈ gl ∨ h.n ≤ g) ∧ Box ol [.ptr o 0, .int .i64 (fr : Int), .int .i64 (to : Int), .int .u64 (ep : Int), rv] h2 := by
    have hol := l.b.lt wf
    have bn := l.b.keep kn hol
    rcases l.og with ⟨rfl, rfl, e⟩ | ⟨g, ne, gg, e⟩
    · obtain ⟨v', h2, e2, s2, o2, k2⟩ := append_own (N := h.n + 1) wfn (Nat.le_refl _) (Sl.nil (h.new [v]) 1) (by trivial) sb (by simp [hv.1]) (by omega)
      rcases o2.grp with rfl | ⟨g, hg, g2⟩
      · have := not_nils s2; omega
      · refine ⟨v', h2, g, e2, s2, by omega, g2, ?_, ⟨.inr (by omega), bn.keep k2 (by show _ < _; omega)⟩⟩
        exact KeepA.of (kn.trans (k2.weaken fun q hq => by have : q < h.n := hq; show q < _; omega))
    · have slw := (gg.own wf (Nat.zero_le _)).slot wf
      obtain ⟨v', h2, e2, s2, g2, k2⟩ := append_grp wfn (l.rs.keep kn slw) (gg.keep slw kn) sb (by simp [hv.1]) (by have := l.bd; omega)
      refine ⟨v', h2, g, e2, s2, ne, g2, ?_, ⟨.inl (by rw [e]; simp), bn.keepA wfn k2 (by simp [Ne.symm ne])⟩⟩
      exact (KeepA.of (gs := gl) kn).then wf k2 (fun x hx => by simp only [List.mem_cons, List.not_mem_nil, or_false] at hx; subst hx; exact .inl (by rw [e]; simp))
  obtain ⟨hgl, b2⟩ := hgl
  have wf2 := kg.wf wf
  have hr' := one_of_len s2.len
  obtain ⟨h3, e3, b3, k3⟩ := b2.put wf2 (i := 4) (n := 1) (v := rv') (by rw [hr'.2]; rfl) (by rw [hr'.2]; simp [hr'.1]) (by simp)
  have wf3 := k3.wf wf2
  have hs3 : splice [AV.ptr o 0, .int .i64 (fr : Int), .int .i64 (to : Int), .int .u64 (ep : Int), rv] 4 rv'.cells = [.ptr o 0, .int .i64 (fr : Int), .int .i64 (to : Int), .int .u64 (ep : Int), rv'] := by rw [hr'.2]; rfl
  rw [hs3] at b3
  have lload := l.b.load
  simp only [f53_r0, go_sem, ↓reduceIte, Nat.reduceEqDiff, Nat.zero_add, lload, List.getElem?_cons_zero, List.getElem?_cons_succ, ef, ea, e3]
  have hjs : jsize b.length ≤ 1000000 := by omega
  have hw : IntKind.i64.wrap ((fr : Int) + (jsize b.length : Int)) = ((fr + jsize b.length : Nat) : Int) := by rw [wrap_i64 (by omega) (by omega)]; omega
  obtain ⟨h4, e4, b4, k4⟩ := b3.put wf3 (i := 1) (n := 1) (v := .int .i64 ((fr + jsize b.length : Nat) : Int)) rfl rfl (by simp)
  refine WS_of_draw ?_
  simp only [f53_r1, go_sem, ↓reduceIte, Nat.reduceEqDiff, and_self, true_and, List.filter_cons, List.filter_nil, Nat.testBit, Nat.reduceShiftRight, Nat.reduceAnd, Nat.reduceBNe, Bool.not_false, Bool.not_true, Bool.false_eq_true, bne_self_eq_false, eq_self, Nat.zero_add, b3.load, List.getElem?_cons_zero, List.getElem?_cons_succ, lo]
  refine (size_spec (n := (b.length : Int)) (by omega) (by omega)).mono ?_
  rintro r h5 ⟨rfl, rfl⟩
  simp only [go_sem, ↓reduceIte, Nat.reduceEqDiff, and_self, true_and, List.filter_cons, List.filter_nil, Nat.testBit, Nat.reduceShiftRight, Nat.reduceAnd, Nat.reduceBNe, Bool.not_false, Bool.not_true, Bool.false_eq_true, bne_self_eq_false, eq_self, Nat.zero_add, b3.load, List.getElem?_cons_zero, List.getElem?_cons_succ, lo, Int.toNat_natCast, hw, e4]
  have hro : ∀ {hh : H}, (∀ x ∈ [ol], Root x hh) ↔ Root ol hh := by simp
  have a2 := g2.away (gs := [ol]) wf2 (by simp [hg]) (hro.2 b2.root)
  have g3 := g2.keep a2 k3
  have s3 := s2.keep k3 a2
  have a3 := g3.away (gs := [ol]) wf3 (by simp [hg]) (hro.2 b3.root)
  refine ⟨[ol, g], rv', rfl, ⟨b4, ?_, .inr ⟨g, hg, g3.keep a3 k4, rfl⟩, by have := l.bd; simp; omega⟩, ?_, ?_⟩
  · have := s3.keep k4 a3
    simpa using this
  · exact (kg.then wf k3 (fun x hx => by simp only [List.mem_cons, List.not_mem_nil, or_false] at hx; subst hx; exact .inl hmem)).then wf k4 (fun x hx => by simp only [List.mem_cons, List.not_mem_nil, or_false] at hx; subst hx; exact .inl hmem)
  · intro x hx
    simp only [List.mem_cons, List.not_mem_nil, or_false] at hx
    rcases hx with rfl | rfl
    · exact .inl hmem
    · exact hgl
end Go.Proofs.Ytmfbememiffkjaa.Ev.C
