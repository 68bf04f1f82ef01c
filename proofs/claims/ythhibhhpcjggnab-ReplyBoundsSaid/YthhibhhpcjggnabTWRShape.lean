/- The walk of ReplyShape. -/
import Derived.Test.YthhibhhpcjggnabTWRPuts
namespace Go.Proofs.Ythhibhhpcjggnab.Ev.C
open Go Go.Proofs.Ythhibhhpcjggnab.Ev
set_option linter.unusedSimpArgs false
set_option linter.unusedVariables false
/-- an error's bytes -/
def failB (a steps : Nat) : List UInt8 := body ⟨a, 0, steps, false, [], []⟩
def failT (steps : Nat) : List UInt8 := num 0 ++ (num steps ++ (num (isN false) ++ (lst [] ++ txt [])))
theorem fail_may {a steps : Nat} (ha : a ≤ 2147483648) (hs : steps ≤ 2147483648) : mayR ⟨a, 0, steps, false, [], []⟩ = true := by
  refine mayR_iff.2 ⟨⟨?_, ?_⟩, ⟨?_, ?_⟩, ⟨?_, ?_⟩, ?_, .inr ?_⟩
  · show (0 : Int) ≤ (a : Int); omega
  · show (a : Int) ≤ 2147483648; omega
  · show (0 : Int) ≤ 0; omega
  · show (0 : Int) ≤ 2147483648; omega
  · show (0 : Int) ≤ (steps : Int); omega
  · show (steps : Int) ≤ 2147483648; omega
  · show (0 : Nat) ≤ 64; omega
  · rfl
theorem num_small {a : Nat} (h0 : 0 < a) (h1 : a < 256) : num a = [1, UInt8.ofNat a] := by
  have hn : nb a = 1 := nb_uniq (m := 1) (by simpa using h1) (by simp; omega)
  show UInt8.ofNat (nb a) :: bytesB a = _
  unfold bytesB
  rw [hn]
  simp
theorem failB_eq {a steps : Nat} (h0 : 0 < a) (h1 : a < 256) : failB a steps = 1 :: UInt8.ofNat a :: failT steps := by
  show num (a : Int).toNat ++ (num (0 : Int).toNat ++ (num (steps : Int).toNat ++ _)) = _
  rw [show ((a : Int).toNat) = a from by omega, num_small h0 h1, show ((steps : Int).toNat) = steps from by omega]
  rfl
theorem failB_put {a steps : Nat} (ha : a ≤ 2147483648) (hs : steps ≤ 2147483648) : putR ⟨a, 0, steps, false, [], []⟩ = failB a steps := by
  unfold putR; rw [if_pos (fail_may ha hs)]; rfl
theorem fail_few (a steps : Int) (M : Nat) : FewR M ⟨a, 0, steps, false, [], []⟩ := ⟨fun t ht => absurd ht (by simp), Nat.zero_le _, Nat.zero_le _⟩
theorem fail_isrep (h : H) (a steps : Int) : IsRep h ⟨a, 0, steps, false, [], []⟩ .nils .nils := ⟨Strs.nil h, Bytes.nil h, trivial, trivial, by show (0 : Nat) < _; omega, by show (0 : Nat) < _; omega⟩
theorem putR_ne {r : Rep} (hc : r.code = 0) (a steps : Nat) (h0 : 0 < a) (h1 : a < 256) : ¬ putR r = failB a steps := by
  rw [failB_eq h0 h1]
  unfold putR
  split
  · intro e
    have e1 : body r = 0 :: (num r.rev.toNat ++ (num r.steps.toNat ++ (num (isN r.is) ++ (lst r.list ++ txt r.more)))) := by
      unfold body
      rw [hc]
      rfl
    rw [e1] at e
    have := (List.cons.inj e).1
    revert this; decide
  · intro e; cases e
theorem rshape_answer {vl vm : AV} {h : H} {r : Rep} {a b steps : Nat} (wf : h.Wf) (ha : a < 256) (hb : b < 256) (hs : steps < 65536) (ar : IsRep h r vl vm) :
    WCall E0 10 [.int .u8 (a : Int), .int .u8 (b : Int), .int .u16 (steps : Int), .agg (repL r vl vm)] h fun x _ => x = .val (.bool true) := by
  refine WCall_ws rfl T10 (by simp [f10_a]) ?_
  show WS E0 f10_c [] _ _ _
  refine WS_of_seq (WS_of_ops ?_)
  simp only [f10_r0, go_sem, ↓reduceIte, Nat.reduceEqDiff, AV.cells]
  have b1 := Box.new wf (repL r vl vm)
  have k1 : Keep (Old h.n) h (h.new (repL r vl vm)) := Keep.new (Nat.le_refl _) _
  generalize h.new (repL r vl vm) = h1 at b1 k1 ⊢
  have wf1 := k1.wf wf
  have a1 := ar.keep k1
  have hlt := b1.lt wf1
  refine WS_of_seq (WS_of_ops ?_)
  simp only [f10_r1, go_sem, ↓reduceIte, Nat.reduceEqDiff]
  refine WCall_ov (g := yes) rfl rfl ?_
  simp only [go_sem, ↓reduceIte, Nat.reduceEqDiff]
  refine WS_of_seq (WS_of_seq (WS_of_ops ?_))
  simp only [f10_r2, go_sem, ↓reduceIte, Nat.reduceEqDiff]
  refine WS_of_cond ?_
  simp only [go_sem, ↓reduceIte, Nat.reduceEqDiff, Bool.not_true, Bool.false_eq_true]
  refine WS_of_skip ?_
  simp only [go_sem]
  refine WS_of_seq (WS_of_ops ?_)
  simp only [f10_r4, go_sem, ↓reduceIte, Nat.reduceEqDiff, b1.loadAgg (n := 6) rfl]
  refine (few_spec wf1 a1).mono ?_
  rintro x h2 ⟨⟨fw, rfl, hfw⟩, k2⟩
  have wf2 := k2.wf wf1
  have a2 := a1.keep k2
  have b2 := b1.keep k2 hlt
  have hlt2 := b2.lt wf2
  simp only [go_sem, ↓reduceIte, Nat.reduceEqDiff]
  have out : ∀ (z : S) k, WS E0 (.seq (.ops f10_r6) .ret) k (atEnd f10_a.results fun x _ => x = .val (.bool true)) z h2 := by
    intro z k
    refine WS_of_seq (WS_of_ops ?_)
    simp only [f10_r6, go_sem, ↓reduceIte]
    refine WS_of_ret ?_
    simp only [go_sem, f10_a, ↓reduceIte, Nat.reduceEqDiff]
  refine WS_of_seq (WS_of_seq (WS_of_ops ?_))
  cases fw with
  | false =>
    simp only [f10_r5, go_sem, ↓reduceIte, Nat.reduceEqDiff, Bool.not_false, Bool.true_eq_false]
    refine WS_of_cond ?_
    simp only [go_sem, ↓reduceIte]
    exact out _ _
  | true =>
  have hw := hfw rfl
  have hf := few_of hw
  by_cases d1 : a = 0
  · have d1' : ((a : Int) = 0) = True := by simp [d1]
    simp only [f10_r5, go_sem, ↓reduceIte, Nat.reduceEqDiff, Bool.not_true, d1', decide_true, Bool.true_eq_false, Bool.false_eq_true]
    refine WS_of_cond ?_
    simp only [go_sem, ↓reduceIte]
    exact out _ _
  have d1' : ((a : Int) = 0) = False := by simp [d1]
  by_cases d2 : b = 0
  · have d2' : ((b : Int) = 0) = True := by simp [d2]
    simp only [f10_r5, go_sem, ↓reduceIte, Nat.reduceEqDiff, Bool.not_true, d1', d2', decide_true, decide_false, Bool.true_eq_false, Bool.false_eq_true]
    refine WS_of_cond ?_
    simp only [go_sem, ↓reduceIte]
    exact out _ _
  have d2' : ((b : Int) = 0) = False := by simp [d2]
  simp only [f10_r5, go_sem, ↓reduceIte, Nat.reduceEqDiff, Bool.not_true, d1', d2', decide_true, decide_false, Bool.true_eq_false, Bool.false_eq_true]
  refine WS_of_cond ?_
  simp only [go_sem, ↓reduceIte, Bool.false_eq_true]
  refine WS_of_skip ?_
  simp only [go_sem]
  have wa : IntKind.i64.wrap (a : Int) = (a : Int) := wrapI (by omega)
  have wb : IntKind.i64.wrap (b : Int) = (b : Int) := wrapI (by omega)
  have ws : IntKind.i64.wrap (steps : Int) = (steps : Int) := wrapI (by omega)
  refine WS_of_seq (WS_of_ops ?_)
  simp only [f10_r7, go_sem, ↓reduceIte, Nat.reduceEqDiff, wa, ws]
  refine (fail_spec wf2).mono ?_
  rintro x h3 ⟨rfl, k3⟩
  have wf3 := k3.wf wf2
  simp only [go_sem, ↓reduceIte, Nat.reduceEqDiff]
  refine (putR_spec (M := 0) wf3 (fail_isrep _ _ _) (by omega) (fail_few _ _ _)).mono ?_
  rintro x h4 ⟨v4, rfl, p4, o4, k4⟩
  rw [failB_put (by omega) (by omega), failB_eq (by omega) ha] at p4
  have wf4 := k4.wf wf3
  simp only [go_sem, ↓reduceIte, Nat.reduceEqDiff]
  refine WS_of_seq (WS_of_ops ?_)
  simp only [f10_r8, go_sem, ↓reduceIte, Nat.reduceEqDiff, wb, ws]
  refine (fail_spec wf4).mono ?_
  rintro x h5 ⟨rfl, k5⟩
  have wf5 := k5.wf wf4
  simp only [go_sem, ↓reduceIte, Nat.reduceEqDiff]
  refine (putR_spec (M := 0) wf5 (fail_isrep _ _ _) (by omega) (fail_few _ _ _)).mono ?_
  rintro x h6 ⟨v6, rfl, p6, o6, k6⟩
  rw [failB_put (by omega) (by omega), failB_eq (by omega) hb] at p6
  have wf6 := k6.wf wf5
  have s4 := o4.slot wf4
  have k46 := k5.then (Nat.le_refl _) k6
  have p46 := p4.keep k46 s4
  have k26 := (k3.then (Nat.le_refl _) k4).then (Nat.le_refl _) k46
  have b6 := b2.keep k26 hlt2
  have a6 := a2.keep k26
  simp only [go_sem, ↓reduceIte, Nat.reduceEqDiff]
  have hl : ∀ c : UInt8, (((1 :: c :: failT steps : List UInt8).length : Nat) : Int) = (((failT steps).length + 2 : Nat) : Int) := fun c => rfl
  have l3 : ¬ ((((failT steps).length + 2 : Nat) : Int) < 3) := by
    have : 0 < (failT steps).length := by
      have := num_pos 0
      unfold failT
      rw [List.length_append]; omega
    omega
  obtain ⟨q0, q01, q02⟩ := Sl.at p46 (i := 0) (by simp) .i64
  obtain ⟨q1, q11, q12⟩ := Sl.at p46 (i := 1) (by simp) .i64
  obtain ⟨q2, q21, q22⟩ := Sl.at p6 (i := 1) (by simp) .i64
  have g0 : (byteCells (1 :: UInt8.ofNat a :: failT steps))[0]? = some (.int .u8 1) := rfl
  have g1 : (byteCells (1 :: UInt8.ofNat a :: failT steps))[1]? = some (.int .u8 (a : Int)) := by
    show some (AV.int .u8 ((UInt8.ofNat a).toNat : Int)) = _
    rw [show (UInt8.ofNat a).toNat = a from by simp; omega]
  have g2 : (byteCells (1 :: UInt8.ofNat b :: failT steps))[1]? = some (.int .u8 (b : Int)) := by
    show some (AV.int .u8 ((UInt8.ofNat b).toNat : Int)) = _
    rw [show (UInt8.ofNat b).toNat = b from by simp; omega]
  rw [g0] at q02; rw [g1] at q12; rw [g2] at q22
  have z0 : ((0 : Nat) : Int) = 0 := rfl
  have z1 : ((1 : Nat) : Int) = 1 := rfl
  rw [z0] at q01; rw [z1] at q11 q21
  obtain ⟨c1, ec1, bc1, _⟩ := p46.drop (k := 2) (by simp) .i64
  obtain ⟨c2, ec2, bc2, _⟩ := p6.drop (k := 2) (by simp) .i64
  have z2 : ((2 : Nat) : Int) = 2 := rfl
  rw [z2] at ec1 ec2
  have t1 : List.drop 2 (1 :: UInt8.ofNat a :: failT steps) = failT steps := rfl
  have t2 : List.drop 2 (1 :: UInt8.ofNat b :: failT steps) = failT steps := rfl
  rw [t1] at bc1; rw [t2] at bc2
  refine WS_of_seq (WS_of_seq (WS_of_draw ?_))
  simp only [f10_r9, go_sem, ↓reduceIte, Nat.reduceEqDiff, p46.len, p6.len, hl, l3, decide_true, decide_false, q01, q02, q11, q12, q21, q22, ec1, ec2, bc1.str, bc2.str, and_self, true_and, List.filter_cons, List.filter_nil, Nat.testBit, Nat.reduceShiftRight, Nat.reduceAnd, Nat.reduceBNe, Bool.not_false, Bool.not_true, Bool.false_eq_true, bne_self_eq_false]
  refine WS_of_cond ?_
  simp only [go_sem, ↓reduceIte, Bool.false_eq_true]
  refine WS_of_skip ?_
  simp only [go_sem]
  refine WS_of_seq (WS_of_seq (WS_of_ops ?_))
  simp only [f10_r11, go_sem, ↓reduceIte, Nat.reduceEqDiff, Nat.zero_add, b6.load, List.getElem?_cons_zero]
  refine WS_of_cond ?_
  simp only [go_sem, ↓reduceIte, Nat.reduceEqDiff]
  by_cases d3 : r.code = 0
  case neg =>
    simp only [d3, decide_false, Bool.not_false, ↓reduceIte]
    refine WS_of_seq (WS_of_ops ?_)
    simp only [f10_r12, go_sem, ↓reduceIte]
    refine WS_of_ret ?_
    simp only [go_sem, f10_a, ↓reduceIte, Nat.reduceEqDiff]
  simp only [d3, decide_true, Bool.not_true, ↓reduceIte, Bool.false_eq_true]
  refine WS_of_skip ?_
  simp only [go_sem]
  refine WS_of_seq (WS_of_ops ?_)
  simp only [f10_r13, go_sem, ↓reduceIte, Nat.reduceEqDiff, b6.loadAgg (n := 6) rfl]
  refine (putR_spec wf6 a6 (by omega) hf).mono ?_
  rintro x h7 ⟨v7, rfl, p7, o7, k7⟩
  have p47 := p46.keep k7 (s4.keep k46 fun o ho => Nat.lt_of_lt_of_le ho k46.n)
  have p67 := p6.keep k7 (o6.slot wf6)
  have n1 : (putR r = 1 :: UInt8.ofNat a :: failT steps) = False := by
    have := putR_ne d3 a steps (by omega) ha
    rw [failB_eq (by omega) ha] at this
    simp [this]
  have n2 : (putR r = 1 :: UInt8.ofNat b :: failT steps) = False := by
    have := putR_ne d3 b steps (by omega) hb
    rw [failB_eq (by omega) hb] at this
    simp [this]
  simp only [go_sem, ↓reduceIte, Nat.reduceEqDiff]
  refine WS_of_seq (WS_of_ops ?_)
  simp only [f10_r14, go_sem, ↓reduceIte, Nat.reduceEqDiff, p7.str, p47.str, p67.str, n1, n2, decide_false, Bool.not_false]
  refine WS_of_ret ?_
  simp only [go_sem, f10_a, ↓reduceIte, Nat.reduceEqDiff]
end Go.Proofs.Ythhibhhpcjggnab.Ev.C
