/- Answers out of bytes: Take, walked. -/
import Derived.Test.YthhibhhpcjggnabTRep3
namespace Go.Proofs.Ythhibhhpcjggnab.Ev.C
open Go Go.Proofs.Ythhibhhpcjggnab.Ev
set_option linter.unusedSimpArgs false
set_option linter.unusedVariables false
theorem small_spec {h : H} {p r : Nat} {s : RS} (wf : h.Wf) (bp : Box p [.ptr r 0] h) (a : Rd h r s) (hl : s.1.length < 4294967296) :
    WCall E0 45 [.ptr p 0] h fun x h' => x = .val (.int .i64 (smallN (rNum s).1)) ∧ Rd h' r (rNum s).2 ∧ KeepA [r] h h' := by
  refine WCall_ws rfl T45 (by simp [f45_a]) ?_
  show WS E0 f45_c [] _ _ _
  refine WS_of_seq (WS_of_ops ?_)
  simp only [f45_r0, go_sem, ↓reduceIte]
  refine WS_of_seq (WS_of_ops ?_)
  simp only [f45_r1, go_sem, ↓reduceIte, Nat.reduceEqDiff, bp.load]
  refine (num_spec wf a hl).mono ?_
  rintro x h1 ⟨rfl, a1, k1⟩
  have ew : IntKind.i64.wrap (if (2147483649 : Int) < ((rNum s).1 : Int) then 2147483649 else ((rNum s).1 : Int)) = smallN (rNum s).1 := by
    unfold smallN
    rw [wrap_i64 (by split <;> omega) (by split <;> omega)]
    split <;> omega
  simp only [go_sem, ↓reduceIte, Nat.reduceEqDiff, ew]
  refine WS_of_ret ?_
  simp only [go_sem, f45_a, ↓reduceIte, Nat.reduceEqDiff, true_and]
  exact ⟨a1, k1⟩
theorem equal_spec {h : H} {v w : AV} {s t : List UInt8} (a : Bytes h v s) (b : Bytes h w t) : WCall E0 46 [v, w] h fun x h' => h' = h ∧ x = .val (.bool (decide (s = t))) := by
  refine WCall_ws rfl T46 (by simp [f46_a]) ?_
  show WS E0 f46_c [] _ _ _
  refine WS_of_seq (WS_of_ops ?_)
  simp only [f46_r0, go_sem, ↓reduceIte]
  refine WS_of_seq (WS_of_ops ?_)
  simp only [f46_r1, go_sem, ↓reduceIte, Nat.reduceEqDiff, a.str, b.str]
  refine WS_of_ret ?_
  simp only [go_sem, f46_a, ↓reduceIte, Nat.reduceEqDiff, true_and]
theorem rText_size (s : RS) : (rText s).1.length ≤ s.1.length := by
  have := rNum_len s
  unfold rText
  split
  · exact Nat.zero_le _
  · split
    · exact Nat.zero_le _
    · simp only [List.length_take]; omega
theorem rTexts_len0 : ∀ (n : Nat) (acc : List (List UInt8)) (s : RS), (rTexts n acc s).2.1.length ≤ s.1.length
  | 0, acc, s => Nat.le_refl _
  | n + 1, acc, s => by
    have := rText_len s
    simp only [rTexts]
    split
    · exact this
    · exact Nat.le_trans (rTexts_len0 n _ _) this
theorem rList_len0 (most : Int) (s : RS) : (rList most s).2.1.length ≤ s.1.length := by
  have := rNum_len s
  unfold rList
  split
  · exact this
  · split
    · exact this
    · exact Nat.le_trans (rTexts_len0 _ _ _) this
theorem rTexts_size : ∀ (n : Nat) (acc : List (List UInt8)) (s : RS) (M : Nat), s.1.length ≤ M → (∀ t ∈ acc, t.length ≤ M) → ∀ t ∈ (rTexts n acc s).1, t.length ≤ M
  | 0, acc, s, M, hs, ha => ha
  | n + 1, acc, s, M, hs, ha => by
    have h1 := rText_size s
    have h2 := rText_len s
    simp only [rTexts]
    split
    · intro t ht; cases ht
    · refine rTexts_size n _ _ M (by omega) fun t ht => ?_
      rcases List.mem_append.1 ht with ht | ht
      · exact ha t ht
      · rw [List.mem_singleton.1 ht]; omega
theorem rTexts_num : ∀ (n : Nat) (acc : List (List UInt8)) (s : RS), (rTexts n acc s).1.length ≤ acc.length + n
  | 0, acc, s => Nat.le_refl _
  | n + 1, acc, s => by
    simp only [rTexts]
    split
    · exact Nat.zero_le _
    · have := rTexts_num n (acc ++ [(rText s).1]) (rText s).2
      simp only [List.length_append, List.length_cons, List.length_nil] at this
      omega
theorem rList_size (most : Int) (s : RS) {M : Nat} (hs : s.1.length ≤ M) : ∀ t ∈ (rList most s).1, t.length ≤ M := by
  have h1 := rNum_len s
  unfold rList
  split
  · intro t ht; cases ht
  · split
    · intro t ht; cases ht
    · exact rTexts_size _ _ _ M (by omega) (by simp)
theorem rList_num (most : Nat) (s : RS) : (rList (most : Int) s).1.length ≤ most := by
  unfold rList
  split
  · exact Nat.zero_le _
  · split
    · exact Nat.zero_le _
    · rename_i h
      have := rTexts_num (rNum s).1 [] (rNum s).2
      simp only [List.length_nil, Nat.zero_add] at this
      omega
def zeroR : Rep := ⟨0, 0, 0, false, [], []⟩
def TakeR (R : Rep) (S : RS) (bs : List UInt8) (r : Rep) (e : Int) : Prop :=
  (e = 0 ∧ r = R ∧ mayR r = true ∧ putR r = bs) ∨ (e ≠ 0 ∧ r = zeroR ∧ ¬ (rEnd S = 0 ∧ mayR R = true ∧ putR R = bs))
theorem zero_rep (h : H) : IsRep h zeroR .nils .nils := ⟨Strs.nil h, Bytes.nil h, trivial, trivial, by decide, by decide⟩
theorem zero_few : FewR 100000 zeroR := ⟨fun t ht => absurd ht (by simp [zeroR]), Nat.zero_le _, Nat.zero_le _⟩
abbrev zrow : List AV := [.int .i64 0, .int .i64 0, .int .i64 0, .bool false, .nils, .nils]
theorem takeRep_tail {h g : H} {A P Q r : Nat} {v vl vm : AV} {bs : List UInt8} {R : Rep} {S : RS} {z : Nat → AV} (wf : h.Wf) (b : Bytes h v bs) (sl : Slot (Old h.n) h v) (hf : FewR 100000 R) (k : Keep (Old h.n) h g)
    (hA : h.n ≤ A) (hAP : A < P) (hPQ : P < Q) (hAr : A < r) (bA : Box A zrow g) (bP : Box P [.ptr r 0] g) (bQ : Box Q (repL R vl vm) g) (a : Rd g r S) (q : IsRep g R vl vm) (sl1 : Slot (Apart [A] g) g vl) (sl2 : Slot (Apart [A] g) g vm)
    (z0 : z 0 = v) (z2 : z 2 = .ptr A 0) (z4 : z 4 = .ptr P 0) (z6 : z 6 = .ptr Q 0) :
    WS E0 (.seq (.block 0 (.seq (.ops f37_r7) (.cond (.tmp 30) (.seq (.ops f37_r8) .ret) (.seq (.ops f37_r9) (.cond (.tmp 37) (.seq (.ops f37_r10) .ret) .skip))))) (.seq (.ops f37_r11) .ret)) []
      (atEnd f37_a.results fun x h' => ∃ r vl vm e, x = .val (.tup [.agg (repL r vl vm), .int .i64 e]) ∧ IsRep h' r vl vm ∧ FewR 100000 r ∧ Keep (Old h.n) h h' ∧ TakeR R S bs r e) z g := by
  have wg := k.wf wf
  have ea : afill zrow [] = some zrow := rfl
  refine WS_of_seq (WS_of_block (WS_of_seq (WS_of_ops ?_)))
  simp only [f37_r7, go_sem, ↓reduceIte, Nat.reduceEqDiff, z4, bP.load, List.getElem?_cons_zero]
  refine (end_spec a).mono ?_
  rintro x h' ⟨eh, rfl⟩
  have eh := eh.symm
  subst eh
  simp only [go_sem, ↓reduceIte, Nat.reduceEqDiff]
  refine WS_of_cond ?_
  simp only [go_sem, ↓reduceIte, Nat.reduceEqDiff]
  by_cases c1 : rEnd S = 0
  case neg =>
    have c1' : ¬ (((rEnd S) : Nat) : Int) = 0 := by omega
    simp only [c1', decide_false, Bool.not_false, ↓reduceIte]
    obtain ⟨g1, e1, b1, k1⟩ := bA.putAll wg (vs := zrow) (n := 6) rfl rfl rfl
    refine WS_of_seq (WS_of_ops ?_)
    simp only [f37_r8, go_sem, ↓reduceIte, Nat.reduceEqDiff, z2, z4, bP.load, List.getElem?_cons_zero, ea]
    refine (end_spec a).mono ?_
    rintro x h2 ⟨rfl, rfl⟩
    simp only [go_sem, ↓reduceIte, Nat.reduceEqDiff, z2, e1]
    refine WS_of_ret ?_
    simp only [go_sem, f37_a, ↓reduceIte, Nat.reduceEqDiff, z2, b1.loadAgg (n := 6) rfl]
    exact ⟨zeroR, .nils, .nils, _, rfl, zero_rep _, zero_few, k.trans (k1.newbox wg k.n hA), .inr ⟨c1', rfl, fun hh => c1 hh.1⟩⟩
  have c1' : (((rEnd S) : Nat) : Int) = 0 := by omega
  simp only [c1', decide_true, Bool.not_true, ↓reduceIte, Bool.false_eq_true]
  have no : ¬ (mayR R = true ∧ putR R = bs) → ∀ (g2 : H) (z : Nat → AV), z 2 = .ptr A 0 → Keep (Old h.n) h g2 → Box A zrow g2 → ∀ k0, WS E0 (.seq (.ops f37_r10) .ret) k0
      (atEnd f37_a.results fun x h' => ∃ r vl vm e, x = .val (.tup [.agg (repL r vl vm), .int .i64 e]) ∧ IsRep h' r vl vm ∧ FewR 100000 r ∧ Keep (Old h.n) h h' ∧ TakeR R S bs r e) z g2 := by
    intro hn g2 z z2 k2 bA2 k0
    have wg2 := k2.wf wf
    obtain ⟨g1, e1, b1, k1⟩ := bA2.putAll wg2 (vs := zrow) (n := 6) rfl rfl rfl
    refine WS_of_seq (WS_of_ops ?_)
    simp only [f37_r10, go_sem, ↓reduceIte, Nat.reduceEqDiff, z2, ea, e1]
    refine WS_of_ret ?_
    simp only [go_sem, f37_a, ↓reduceIte, Nat.reduceEqDiff, z2, b1.loadAgg (n := 6) rfl]
    exact ⟨zeroR, .nils, .nils, _, rfl, zero_rep _, zero_few, k2.trans (k1.newbox wg2 k2.n hA), .inr ⟨by decide, rfl, fun hh => hn hh.2⟩⟩
  refine WS_of_seq (WS_of_ops ?_)
  simp only [f37_r9, go_sem, ↓reduceIte, Nat.reduceEqDiff, z6, bQ.loadAgg (n := 6) rfl]
  refine (may_spec wg q (by have := hf.2; omega)).mono ?_
  rintro x g2 ⟨rfl, k2⟩
  have wg2 := k2.wf wg
  have bA2 := bA.keep k2 (bA.lt wg)
  have bQ2 := bQ.keep k2 (bQ.lt wg)
  have q2 := q.keep k2
  have k02 : Keep (Old h.n) h g2 := k.then (Nat.le_refl _) k2
  cases c2 : mayR R
  · simp only [go_sem, ↓reduceIte, Nat.reduceEqDiff, Bool.not_false, Bool.true_eq_false]
    refine WS_of_cond ?_
    simp only [go_sem, ↓reduceIte]
    refine no (by rw [c2]; simp) _ _ ?_ k02 bA2 _
    simp only [go_sem, ↓reduceIte, Nat.reduceEqDiff, z2]
  simp only [go_sem, ↓reduceIte, Nat.reduceEqDiff, Bool.not_true, z6, bQ2.loadAgg (n := 6) rfl]
  refine (putR_spec (M := 100000) wg2 q2 (Nat.le_refl _) hf).mono ?_
  rintro x g3 ⟨w, rfl, pw, ow, k3⟩
  have wg3 := k3.wf wg2
  have k03 : Keep (Old h.n) h g3 := k02.then (Nat.le_refl _) k3
  have bA3 := bA2.keep k3 (bA2.lt wg2)
  have bQ3 := bQ2.keep k3 (bQ2.lt wg2)
  have q3 := q2.keep k3
  simp only [go_sem, ↓reduceIte, Nat.reduceEqDiff, z0]
  refine (equal_spec pw (b.keep k03 sl)).mono ?_
  rintro x h' ⟨eh, rfl⟩
  have eh := eh.symm
  subst eh
  by_cases c3 : putR R = bs
  case neg =>
    simp only [go_sem, ↓reduceIte, Nat.reduceEqDiff, c3, decide_false, Bool.not_false, Bool.false_eq_true]
    refine WS_of_cond ?_
    simp only [go_sem, ↓reduceIte]
    refine no (fun hh => c3 hh.2) _ _ ?_ k03 bA3 _
    simp only [go_sem, ↓reduceIte, Nat.reduceEqDiff, z2]
  simp only [go_sem, ↓reduceIte, Nat.reduceEqDiff, c3, decide_true, Bool.not_true, Bool.false_eq_true]
  refine WS_of_cond ?_
  simp only [go_sem, ↓reduceIte, Bool.false_eq_true]
  refine WS_of_skip ?_
  simp only [go_sem]
  obtain ⟨g4, e4, b4, k4⟩ := bA3.putAll wg3 (vs := repL R vl vm) (n := 6) rfl (by have := q.onel; have := q.onem; simp only [List.all_cons, List.all_nil, *]; rfl) rfl
  refine WS_of_seq (WS_of_ops ?_)
  simp only [f37_r11, go_sem, ↓reduceIte, Nat.reduceEqDiff, z2, z6, bQ3.loadAgg (n := 6) rfl, e4]
  refine WS_of_ret ?_
  simp only [go_sem, f37_a, ↓reduceIte, Nat.reduceEqDiff, z2, b4.loadAgg (n := 6) rfl]
  refine ⟨_, vl, vm, _, rfl, ?_, hf, k03.trans (k4.newbox wg3 k03.n hA), .inl ⟨rfl, rfl, c2, c3⟩⟩
  have kg3 : Keep (Old g.n) g g3 := k2.then (Nat.le_refl _) k3
  have s1 := sl1.keepA (KeepA.of kg3)
  have s2 := sl2.keepA (KeepA.of kg3)
  have up : ∀ o, Apart [A] g3 o → Old g4.n o := fun o ho => Nat.lt_of_lt_of_le ho.1 k4.n
  exact ⟨q3.list.keep k4 s1, q3.more.keep k4 s2, s1.keep k4 up, s2.keep k4 up, q3.hl, q3.hm⟩
theorem take_rep {h : H} {v : AV} {bs : List UInt8} {n1 n2 n3 n4 : Nat} {s1 s2 s3 s4 s5 s6 : RS} {L : List (List UInt8)} {T : List UInt8} (f1 : rNum (bs, 0) = (n1, s1)) (f2 : rNum s1 = (n2, s2)) (f3 : rNum s2 = (n3, s3)) (f4 : rNum s3 = (n4, s4)) (f5 : rList 64 s4 = (L, s5)) (f6 : rText s5 = (T, s6)) (wf : h.Wf) (b : Bytes h v bs) (sl : Slot (Old h.n) h v) (hl : bs.length ≤ 100000) :
    WCall E0 37 [v] h fun x h' => ∃ r vl vm e, x = .val (.tup [.agg (repL r vl vm), .int .i64 e]) ∧ IsRep h' r vl vm ∧ FewR 100000 r ∧ Keep (Old h.n) h h' ∧ TakeR ⟨smallN n1, smallN n2, smallN n3, decide (n4 = 1), L, T⟩ s6 bs r e := by
  refine WCall_ws rfl T37 (by simp [f37_a]) ?_
  show WS E0 f37_c [] _ _ _
  refine WS_of_seq (WS_of_ops ?_)
  simp only [f37_r0, go_sem, ↓reduceIte, Nat.reduceEqDiff]
  have bA := Box.new wf [.int .i64 0, .int .i64 0, .int .i64 0, .bool false, .nils, .nils]
  have kA : Keep (Old h.n) h (h.new [.int .i64 0, .int .i64 0, .int .i64 0, .bool false, .nils, .nils]) := Keep.new (Nat.le_refl _) _
  generalize h.new [.int .i64 0, .int .i64 0, .int .i64 0, .bool false, .nils, .nils] = h0 at bA kA ⊢
  have wf0 := kA.wf wf
  have ltA := bA.lt wf0
  refine WS_of_seq (WS_of_ops ?_)
  simp only [f37_r1, go_sem, ↓reduceIte, Nat.reduceEqDiff]
  refine (open_spec wf0 (b.keep kA sl) (sl.keep kA fun o ho => Nat.lt_of_lt_of_le ho kA.n) (by omega)).mono ?_
  rintro x h1 ⟨r, rfl, a1, hr, k1⟩
  have wf1 := k1.wf wf0
  have hr1 : r < h1.n := by obtain ⟨v, b, c, d⟩ := a1; exact b.lt wf1
  simp only [go_sem, ↓reduceIte, Nat.reduceEqDiff]
  have bP := Box.new wf1 [.nilp]
  have kP : Keep (Old h1.n) h1 (h1.new [.nilp]) := Keep.new (Nat.le_refl _) _
  generalize h1.new [.nilp] = h2 at bP kP ⊢
  have wf2 := kP.wf wf1
  have ltP := bP.lt wf2
  obtain ⟨h3, e3, bP3, k3⟩ := bP.put wf2 (i := 0) (n := 1) (v := .ptr r 0) rfl rfl (by simp)
  have bP3' : Box h1.n [.ptr r 0] h3 := bP3
  have wf3 := k3.wf wf2
  have k13 : Keep (Old h1.n) h1 h3 := kP.trans (k3.newbox wf2 kP.n (Nat.le_refl _))
  have a3 := a1.keep (k13.less (by omega))
  simp only [go_sem, ↓reduceIte, Nat.reduceEqDiff, e3]
  refine WS_of_seq (WS_of_ops ?_)
  simp only [f37_r2, go_sem, ↓reduceIte, Nat.reduceEqDiff]
  refine WS_of_seq (WS_of_draw ?_)
  simp only [f37_r3, go_sem, ↓reduceIte, Nat.reduceEqDiff, bP3'.load, List.getElem?_cons_zero, and_self, true_and, List.filter_cons, List.filter_nil, Nat.testBit, Nat.reduceShiftRight, Nat.reduceAnd, Nat.reduceBNe, Bool.not_false, Bool.not_true, Bool.false_eq_true, bne_self_eq_false]
  have bQ := Box.new wf3 [.int .i64 0, .int .i64 0, .int .i64 0, .bool false, .nils, .nils]
  have kQ : Keep (Old h3.n) h3 (h3.new [.int .i64 0, .int .i64 0, .int .i64 0, .bool false, .nils, .nils]) := Keep.new (Nat.le_refl _) _
  generalize h3.new [.int .i64 0, .int .i64 0, .int .i64 0, .bool false, .nils, .nils] = h4 at bQ kQ ⊢
  have wf4 := kQ.wf wf3
  have nh01 : h0.n ≤ h1.n := k1.n
  have nh13 : h1.n ≤ h3.n := k13.n
  have ltQ := bQ.lt wf4
  have bP4 := bP3'.keep kQ (bP3'.lt wf3)
  have a4 := a3.keep (kQ.less (by have := bP3'.lt wf3; omega))
  have ltP3 := bP3'.lt wf3
  simp only [go_sem, ↓reduceIte, Nat.reduceEqDiff, bP4.load, List.getElem?_cons_zero, and_self, true_and, List.filter_cons, List.filter_nil, Nat.testBit, Nat.reduceShiftRight, Nat.reduceAnd, Nat.reduceBNe, Bool.not_false, Bool.not_true, Bool.false_eq_true, bne_self_eq_false]
  have len0 : ((bs, 0) : RS).1.length ≤ 100000 := hl
  refine (small_spec wf4 bP4 a4 (by omega)).mono ?_
  rintro x h5 ⟨rfl, a5, k5⟩
  rw [f1] at a5 ⊢
  simp only at a5
  have wf5 := k5.wf wf4
  have bP5 := bP4.keepA wf4 k5 (by simp; omega)
  have bQ5 := bQ.keepA wf4 k5 (by simp; omega)
  have l5 := rNum_len (bs, 0)
  rw [f1] at l5
  simp only at l5
  simp only [go_sem, ↓reduceIte, Nat.reduceEqDiff, bP5.load, List.getElem?_cons_zero, and_self, true_and, List.filter_cons, List.filter_nil, Nat.testBit, Nat.reduceShiftRight, Nat.reduceAnd, Nat.reduceBNe, Bool.not_false, Bool.not_true, Bool.false_eq_true, bne_self_eq_false]
  refine (small_spec wf5 bP5 a5 (by omega)).mono ?_
  rintro x h6 ⟨rfl, a6, k6⟩
  rw [f2] at a6 ⊢
  simp only at a6
  have wf6 := k6.wf wf5
  have bP6 := bP5.keepA wf5 k6 (by simp; omega)
  have bQ6 := bQ5.keepA wf5 k6 (by simp; omega)
  have l6 := rNum_len s1
  rw [f2] at l6
  simp only at l6
  simp only [go_sem, ↓reduceIte, Nat.reduceEqDiff, bP6.load, List.getElem?_cons_zero, and_self, true_and, List.filter_cons, List.filter_nil, Nat.testBit, Nat.reduceShiftRight, Nat.reduceAnd, Nat.reduceBNe, Bool.not_false, Bool.not_true, Bool.false_eq_true, bne_self_eq_false]
  refine (small_spec wf6 bP6 a6 (by omega)).mono ?_
  rintro x h7 ⟨rfl, a7, k7⟩
  rw [f3] at a7 ⊢
  simp only at a7
  have wf7 := k7.wf wf6
  have bP7 := bP6.keepA wf6 k7 (by simp; omega)
  have bQ7 := bQ6.keepA wf6 k7 (by simp; omega)
  have l7 := rNum_len s2
  rw [f3] at l7
  simp only at l7
  simp only [go_sem, ↓reduceIte, Nat.reduceEqDiff, bP7.load, List.getElem?_cons_zero, and_self, true_and, List.filter_cons, List.filter_nil, Nat.testBit, Nat.reduceShiftRight, Nat.reduceAnd, Nat.reduceBNe, Bool.not_false, Bool.not_true, Bool.false_eq_true, bne_self_eq_false]
  refine (num_spec wf7 a7 (by omega)).mono ?_
  rintro x h8 ⟨rfl, a8, k8⟩
  rw [f4] at a8 ⊢
  simp only at a8
  have wf8 := k8.wf wf7
  have bP8 := bP7.keepA wf7 k8 (by simp; omega)
  have bQ8 := bQ7.keepA wf7 k8 (by simp; omega)
  have l8 := rNum_len s3
  rw [f4] at l8
  simp only at l8
  simp only [go_sem, ↓reduceIte, Nat.reduceEqDiff, bP8.load, List.getElem?_cons_zero, and_self, true_and, List.filter_cons, List.filter_nil, Nat.testBit, Nat.reduceShiftRight, Nat.reduceAnd, Nat.reduceBNe, Bool.not_false, Bool.not_true, Bool.false_eq_true, bne_self_eq_false]
  refine (list_spec wf8 a8 (by omega) (by omega) (by omega)).mono ?_
  rintro x h9 ⟨vl, rfl, p9, o9, a9, k9⟩
  rw [f5] at p9 a9
  simp only at p9 a9
  have wf9 := k9.wf wf8
  have bP9 := bP8.keepA wf8 k9 (by simp; omega)
  have bQ9 := bQ8.keepA wf8 k9 (by simp; omega)
  have l9 := rList_len0 64 s4
  rw [f5] at l9
  simp only at l9
  have o1 : vl.one = true := (AV.one_of_len p9.len).1
  have hd : decide ((n4 : Int) = 1) = decide (n4 = 1) := by
    congr 1
    simp only [eq_iff_iff]; omega
  have lnum := rList_num 64 s4
  rw [show ((64 : Nat) : Int) = 64 from rfl, f5] at lnum
  simp only at lnum
  have hf : FewR 100000 ⟨smallN n1, smallN n2, smallN n3, decide (n4 = 1), L, T⟩ := by
    refine ⟨?_, ?_⟩
    · have := rList_size 64 s4 (M := 100000) (by omega)
      rw [f5] at this; exact this
    · show T.length ≤ 100000 ∧ L.length ≤ 4000000
      have := rText_size s5
      rw [f6] at this
      simp only at this
      omega
  have ea : afill [AV.int .i64 0, .int .i64 0, .int .i64 0, .bool false, .nils, .nils] [(0, 1, AV.int .i64 (smallN n1)), (1, 1, AV.int .i64 (smallN n2)), (2, 1, AV.int .i64 (smallN n3)),
      (3, 1, AV.bool (decide (n4 = 1))), (4, 1, vl)] = some (repL ⟨smallN n1, smallN n2, smallN n3, decide (n4 = 1), L, T⟩ vl .nils) := by
    revert o1; cases vl <;> intro o1 <;> first | rfl | cases o1
  obtain ⟨h10, e10, bQ10, k10⟩ := bQ9.putAll wf9 (vs := repL ⟨smallN n1, smallN n2, smallN n3, decide (n4 = 1), L, T⟩ vl .nils) (n := 6) rfl (by simp only [List.all_cons, List.all_nil, o1]; rfl) rfl
  have wf10 := k10.wf wf9
  have nQ : h3.n < h8.n := bQ8.lt wf8
  have nP : h1.n < h8.n := bP8.lt wf8
  have sQ : Slot (Apart [h3.n] h9) h9 vl := o9.away wf9 (by simp; exact ⟨nQ, bQ9.root⟩)
  have p10 := p9.keep k10 sQ
  have o10 := o9.keep sQ k10
  have bP10 := bP9.keepA wf9 k10 (by simp; omega)
  have a10 := a9.keep (k10.old wf9 (N := r + 1) (by have := bQ9.lt wf9; omega) (by simp; omega))
  simp only [go_sem, ↓reduceIte, Nat.reduceEqDiff, hd, ea, e10, bP9.load, bP10.load, List.getElem?_cons_zero, and_self, true_and, List.filter_cons, List.filter_nil, Nat.testBit, Nat.reduceShiftRight, Nat.reduceAnd, Nat.reduceBNe, Bool.not_false, Bool.not_true, Bool.false_eq_true, bne_self_eq_false]
  refine WS_of_seq (WS_of_seq (WS_of_ops ?_))
  simp only [f37_r4, go_sem, ↓reduceIte, Nat.reduceEqDiff, bP10.load, List.getElem?_cons_zero]
  refine (text_spec wf10 a10 (by omega)).mono ?_
  rintro x h11 ⟨rfl, a11, k11⟩
  rw [f6] at a11 ⊢
  simp only at a11
  have wf11 := k11.wf wf10
  have rt10 : Root r h10 := by obtain ⟨v, b, c, d⟩ := a10; exact b.root
  have sR : Slot (Apart [r] h10) h10 vl := o10.away wf10 (by simp; exact ⟨by omega, rt10⟩)
  have p11 := p10.keep k11 sR
  have o11 := o10.keep sR k11
  have bP11 := bP10.keepA wf10 k11 (by simp; omega)
  have bQ11 := bQ10.keepA wf10 k11 (by simp; omega)
  have hhA : h.n < h0.n := ltA
  have chain : ∀ {g g' : H}, g.Wf → KeepA [r] g g' → h0.n ≤ g.n → Keep (Old h0.n) g g' := fun w k n => k.old w n (by simpa using hr)
  have m4 : h0.n ≤ h4.n := by have := kQ.n; omega
  have m5 : h0.n ≤ h5.n := Nat.le_trans m4 k5.n
  have m6 : h0.n ≤ h6.n := Nat.le_trans m5 k6.n
  have m7 : h0.n ≤ h7.n := Nat.le_trans m6 k7.n
  have m8 : h0.n ≤ h8.n := Nat.le_trans m7 k8.n
  have m9 : h0.n ≤ h9.n := Nat.le_trans m8 k9.n
  have m10 : h0.n ≤ h10.n := Nat.le_trans m9 k10.n
  have k011 : Keep (Old h0.n) h0 h11 :=
    (((((((((k1.trans (k13.less nh01)).trans (kQ.less (by omega))).trans (chain wf4 k5 m4)).trans (chain wf5 k6 m5)).trans (chain wf6 k7 m6)).trans (chain wf7 k8 m7)).trans (chain wf8 k9 m8)).trans (k10.newbox wf9 m9 (by omega))).trans (chain wf10 k11 m10))
  have bA11 := bA.keep k011 ltA
  have kh11 : Keep (Old h.n) h h11 := kA.then (Nat.le_refl _) k011
  have ltQ11 := bQ11.lt wf11
  have ltP11 := bP11.lt wf11
  have rtA := bA11.root
  have sA11 : Slot (Apart [h.n] h11) h11 vl := o11.away wf11 (by simp; exact ⟨by omega, rtA⟩)
  simp only [go_sem, ↓reduceIte, Nat.reduceEqDiff]
  refine WS_of_seq (WS_of_ops ?_)
  simp only [f37_r5, go_sem, ↓reduceIte, Nat.reduceEqDiff]
  refine WS_of_cond ?_
  simp only [go_sem, ↓reduceIte, Nat.reduceEqDiff]
  by_cases ct : T = []
  · subst ct
    simp only [decide_true, Bool.not_true, ↓reduceIte, Bool.false_eq_true]
    refine WS_of_skip ?_
    simp only [go_sem]
    refine takeRep_tail (A := h.n) (P := h1.n) (Q := h3.n) (r := r) (vl := vl) (vm := .nils) wf b sl hf kh11 (Nat.le_refl _) (by omega) (by omega) (by omega) bA11 bP11 bQ11 a11 ?_ sA11 trivial ?_ ?_ ?_ ?_
    · refine ⟨p11, ?_, o11.slot wf11, trivial, ?_, ?_⟩
      · exact Bytes.nil _
      · show L.length < 9223372036854775808
        omega
      · show ([] : List UInt8).length < 9223372036854775808
        decide
    all_goals simp only [go_sem, ↓reduceIte, Nat.reduceEqDiff]
  · simp only [ct, decide_false, Bool.not_false, ↓reduceIte]
    refine WS_of_ops ?_
    have bM := Box.new wf11 (byteCells T)
    have kM : Keep (Old h11.n) h11 (h11.new (byteCells T)) := Keep.new (Nat.le_refl _) _
    simp only [f37_r6, go_sem, ↓reduceIte, Nat.reduceEqDiff, Nat.zero_add]
    generalize h11.new (byteCells T) = h12 at bM kM ⊢
    have wf12 := kM.wf wf11
    have bQ12 := bQ11.keep kM ltQ11
    obtain ⟨h13, e13, bQ13, k13'⟩ := bQ12.put wf12 (i := 5) (n := 1) (v := .slice h11.n 0 T.length 1) rfl rfl (by simp)
    have bQ13' : Box h3.n (repL ⟨smallN n1, smallN n2, smallN n3, decide (n4 = 1), L, T⟩ vl (.slice h11.n 0 T.length 1)) h13 := bQ13
    have wf13 := k13'.wf wf12
    have bM13 := bM.keepA wf12 k13' (by simp; omega)
    have bA12 := bA11.keep kM (bA11.lt wf11)
    have bA13 := bA12.keepA wf12 k13' (by simp; omega)
    have bP13 := (bP11.keep kM ltP11).keepA wf12 k13' (by simp; omega)
    have a12 := a11.keep (kM.less (by omega))
    have a13 := a12.keep (k13'.old wf12 (N := r + 1) (by have := kM.n; omega) (by simp; omega))
    have o12 := o11.keep (o11.slot wf11) kM
    have p12 := p11.keep kM (o11.slot wf11)
    have sQ12 : Slot (Apart [h3.n] h12) h12 vl := o12.away wf12 (by simp; exact ⟨nQ, bQ12.root⟩)
    have p13 := p12.keep k13' sQ12
    have o13 := o12.keep sQ12 k13'
    have sA13 : Slot (Apart [h.n] h13) h13 vl := o13.away wf13 (by simp; exact ⟨by omega, bA13.root⟩)
    have nM := bM13.lt wf13
    have apM : Apart [h.n] h13 h11.n := bM13.apart wf13 (by simp; omega)
    have k013 : Keep (Old h.n) h h13 := (kh11.then (Nat.le_refl _) kM).trans (k13'.newbox wf12 (Nat.le_trans kh11.n kM.n) (by omega))
    simp only [go_sem, ↓reduceIte, Nat.reduceEqDiff, e13]
    refine takeRep_tail (A := h.n) (P := h1.n) (Q := h3.n) (r := r) (vl := vl) wf b sl hf k013 (Nat.le_refl _) (by omega) (by omega) (by omega) bA13 bP13 bQ13' a13 ?_ sA13 ?_ ?_ ?_ ?_ ?_
    · refine ⟨p13, ?_, o13.slot wf13, bM13.slot wf13 _ _ _, ?_, ?_⟩
      · exact bM13.bytes
      · show L.length < 9223372036854775808
        omega
      · have := hf.2
        show T.length < 9223372036854775808
        simp only at this; omega
    · exact ⟨apM, fun cs g e => by rw [bM13.get] at e; cases e; exact apM⟩
    all_goals simp only [go_sem, ↓reduceIte, Nat.reduceEqDiff]
end Go.Proofs.Ythhibhhpcjggnab.Ev.C
