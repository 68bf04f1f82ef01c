/- The walk of ReplyBounds. -/
import Derived.Test.YthhibhhpcjggnabTWRShape
namespace Go.Proofs.Ythhibhhpcjggnab.Ev.C
open Go Go.Proofs.Ythhibhhpcjggnab.Ev
set_option linter.unusedSimpArgs false
set_option linter.unusedVariables false
theorem zeros_str (n : Nat) : zeros [AV.str []] n = strCells (List.replicate n []) := by
  rw [strCells, List.map_replicate]
  refine List.ext_getElem (by simp [zeros]) fun i h1 h2 => ?_
  simp [zeros, Nat.mod_one]
theorem make_strs {h : H} {k : Nat} (hk : k ≤ 1000) : makeSliceA h 1 16 [AV.str []] (.int .i64 (k : Int)) (.int .i64 (k : Int)) = some (.slice h.n 0 k 1, h.new (strCells (List.replicate k []))) := by
  simp only [makeSliceA]
  rw [if_pos ⟨by omega, Int.le_refl _, by omega, by omega⟩, Int.toNat_natCast, Nat.mul_one, zeros_str]
theorem Box.strsL {r : Nat} {l : List (List UInt8)} {h : H} (b : Box r (strCells l) h) : Strs h (.slice r 0 l.length 1) l := by
  refine ⟨rfl, ?_⟩
  simp only [H.firstCells, b.row]
  rw [if_pos ⟨trivial, Nat.le_refl _⟩, if_pos (by simp [strCells])]
  simp only [List.drop_zero, Nat.mul_one]
  rw [List.take_of_length_le (by simp [strCells])]
theorem pos_putR (r : Rep) : decide ((0 : Int) < ((putR r).length : Int)) = mayR r := by
  cases hm : mayR r
  · simp [putR, hm]
  · have := body_pos r
    simp [putR, hm]
    omega
theorem rbounds_answer {h : H} {code rev steps : Int} {n : Nat} (wf : h.Wf) (hn : n < 256) :
    WCall E0 11 [.int .i64 code, .int .i64 rev, .int .i64 steps, .int .u8 (n : Int)] h fun x _ => x = .val (.bool true) := by
  refine WCall_ws rfl T11 (by simp [f11_a]) ?_
  show WS E0 f11_c [] _ _ _
  refine WS_of_seq (WS_of_ops ?_)
  simp only [f11_r0, go_sem, ↓reduceIte, Nat.reduceEqDiff]
  refine WS_of_seq (WS_of_ops ?_)
  simp only [f11_r1, go_sem, ↓reduceIte, Nat.reduceEqDiff]
  refine WCall_ov (g := yes) rfl rfl ?_
  simp only [go_sem, ↓reduceIte, Nat.reduceEqDiff]
  refine WS_of_seq (WS_of_seq (WS_of_ops ?_))
  simp only [f11_r2, go_sem, ↓reduceIte, Nat.reduceEqDiff]
  refine WS_of_cond ?_
  simp only [go_sem, ↓reduceIte, Nat.reduceEqDiff, Bool.not_true, Bool.false_eq_true]
  refine WS_of_skip ?_
  simp only [go_sem]
  have wn : IntKind.i64.wrap (n : Int) = (n : Int) := wrapI (by omega)
  have e70 : ((70 : Int) = 0) = False := by simp
  have em : (n : Int).tmod 70 = ((n % 70 : Nat) : Int) := by rw [Int.tmod_eq_emod_of_nonneg (by omega)]; rfl
  have hk : n % 70 < 70 := Nat.mod_lt _ (by decide)
  generalize n % 70 = k at em hk
  refine WS_of_seq (WS_of_ops ?_)
  simp only [f11_r4, go_sem, ↓reduceIte, Nat.reduceEqDiff, wn, e70, em, not_false_eq_true, true_and]
  refine WS_of_seq (WS_of_ops ?_)
  have mk := make_strs (h := h) (k := k) (by omega)
  simp only [f11_r5, go_sem, ↓reduceIte, Nat.reduceEqDiff, mk]
  have b1 := Box.new wf (strCells (List.replicate k []))
  have k1 : Keep (Old h.n) h (h.new (strCells (List.replicate k []))) := Keep.new (Nat.le_refl _) _
  generalize h.new (strCells (List.replicate k [])) = h1 at b1 k1 ⊢
  have wf1 := k1.wf wf
  have ltb := b1.lt wf1
  have ea : afill [AV.int .i64 0, .int .i64 0, .int .i64 0, .bool false, .nils, .nils] [(1, 1, AV.int .i64 rev), (2, 1, AV.int .i64 steps), (4, 1, AV.slice h.n 0 k 1)] = some (repL ⟨0, rev, steps, false, List.replicate k [], []⟩ (.slice h.n 0 k 1) .nils) := rfl
  simp only [go_sem, ↓reduceIte, Nat.reduceEqDiff, ea]
  have b2 := Box.new wf1 [.int .i64 0, .int .i64 0, .int .i64 0, .bool false, .nils, .nils]
  have k2 : Keep (Old h1.n) h1 (h1.new [.int .i64 0, .int .i64 0, .int .i64 0, .bool false, .nils, .nils]) := Keep.new (Nat.le_refl _) _
  generalize h1.new [.int .i64 0, .int .i64 0, .int .i64 0, .bool false, .nils, .nils] = h2 at b2 k2 ⊢
  have wf2 := k2.wf wf1
  obtain ⟨h3, e3, b3, k3⟩ := b2.putAll wf2 (vs := repL ⟨0, rev, steps, false, List.replicate k [], []⟩ (.slice h.n 0 k 1) .nils) (n := 6) rfl rfl rfl
  have wf3 := k3.wf wf2
  have b13 := (b1.keep k2 ltb).keepA wf2 k3 (by simp; omega)
  have lt3 := b3.lt wf3
  have str : Strs h3 (.slice h.n 0 k 1) (List.replicate k []) := by
    have := Box.strsL b13
    rw [List.length_replicate] at this
    exact this
  have ir : IsRep h3 ⟨0, rev, steps, false, List.replicate k [], []⟩ (.slice h.n 0 k 1) .nils :=
    ⟨str, Bytes.nil _, b13.slot wf3 _ _ _, trivial, by show (List.replicate k ([] : List UInt8)).length < _; rw [List.length_replicate]; omega, by show (0 : Nat) < _; omega⟩
  have hf : FewR 0 ⟨0, rev, steps, false, List.replicate k [], []⟩ := by
    refine ⟨fun t ht => ?_, Nat.zero_le _, ?_⟩
    · have := List.eq_of_mem_replicate ht
      rw [this]; exact Nat.le_refl _
    · show (List.replicate k ([] : List UInt8)).length ≤ _
      rw [List.length_replicate]; omega
  have hmay : mayR ⟨0, rev, steps, false, List.replicate k [], []⟩ = (inB rev && inB steps && decide (k ≤ 64)) := by
    have : inB 0 = true := rfl
    simp only [mayR, this, Bool.true_and, List.length_replicate, decide_true, Bool.true_or, Bool.and_true]
  simp only [go_sem, ↓reduceIte, Nat.reduceEqDiff, e3]
  refine WS_of_seq (WS_of_ops ?_)
  simp only [f11_r6, go_sem, ↓reduceIte, Nat.reduceEqDiff]
  refine in38.mono ?_
  rintro x g ⟨rfl, rfl⟩
  simp only [go_sem, ↓reduceIte, Nat.reduceEqDiff]
  refine WS_of_seq (WS_of_ops ?_)
  simp only [f11_r7, go_sem, ↓reduceIte, Nat.reduceEqDiff]
  refine in38.mono ?_
  rintro x g ⟨rfl, rfl⟩
  simp only [go_sem, ↓reduceIte, Nat.reduceEqDiff]
  refine WS_of_seq (WS_of_ops ?_)
  simp only [f11_r8, go_sem, ↓reduceIte, Nat.reduceEqDiff]
  refine in38.mono ?_
  rintro x g ⟨rfl, rfl⟩
  simp only [go_sem, ↓reduceIte, Nat.reduceEqDiff]
  have rest : ∀ z : S, z 0 = .int .i64 code → z 2 = .int .i64 steps → z 11 = .ptr h1.n 0 → z 13 = .bool (inB steps) → z 14 = .bool (inB code) → z 15 = .bool (inB rev && inB steps && decide (k ≤ 64)) →
      WS E0 (.seq (.ops f11_r10) (.seq (.ops f11_r11) .ret)) [] (atEnd f11_a.results fun x _ => x = .val (.bool true)) z g := by
    intro z z0 z2 z11 z13 z14 z15
    refine WS_of_seq (WS_of_ops ?_)
    simp only [f11_r10, go_sem, ↓reduceIte, Nat.reduceEqDiff, z0, z2]
    refine (fail_spec wf3).mono ?_
    rintro x h4 ⟨rfl, k4⟩
    have wf4 := k4.wf wf3
    simp only [go_sem, ↓reduceIte, Nat.reduceEqDiff]
    have b5 := Box.new wf4 [.int .i64 0, .int .i64 0, .int .i64 0, .bool false, .nils, .nils]
    have k5 : Keep (Old h4.n) h4 (h4.new [.int .i64 0, .int .i64 0, .int .i64 0, .bool false, .nils, .nils]) := Keep.new (Nat.le_refl _) _
    generalize h4.new [.int .i64 0, .int .i64 0, .int .i64 0, .bool false, .nils, .nils] = h5 at b5 k5 ⊢
    have wf5 := k5.wf wf4
    obtain ⟨h6, e6, b6, k6⟩ := b5.putAll wf5 (vs := frow code steps) (n := 6) rfl rfl rfl
    have wf6 := k6.wf wf5
    have k36 := (k4.then (Nat.le_refl _) k5).trans (k6.newbox wf5 (Nat.le_trans k4.n k5.n) k4.n)
    have ir6 := ir.keep k36
    have b36 := b3.keep k36 lt3
    have lt6 := b6.lt wf6
    simp only [go_sem, ↓reduceIte, Nat.reduceEqDiff, e6]
    refine WS_of_seq (WS_of_ops ?_)
    simp only [f11_r11, go_sem, ↓reduceIte, Nat.reduceEqDiff, z11, b36.loadAgg (n := 6) rfl]
    refine (putR_spec wf6 ir6 (by omega) hf).mono ?_
    rintro x h7 ⟨v7, rfl, p7, o7, k7⟩
    have wf7 := k7.wf wf6
    have b7 := b6.keep k7 lt6
    have hmf : mayR ⟨code, 0, steps, false, [], []⟩ = (inB code && inB steps) := by
      have i0 : inB 0 = true := rfl
      have e0 : emptyR ⟨code, 0, steps, false, [], []⟩ = true := rfl
      simp only [mayR, i0, e0, Bool.and_true, List.length_nil, Nat.zero_le, decide_true, Bool.or_true]
    have bb : ∀ c : Bool, (c == c) = true := fun c => by cases c <;> rfl
    have p0 := pos_putR ⟨0, rev, steps, false, List.replicate k [], []⟩
    have p1 := pos_putR ⟨code, 0, steps, false, [], []⟩
    rw [hmay] at p0
    rw [hmf] at p1
    simp only [go_sem, ↓reduceIte, Nat.reduceEqDiff, p7.len, p0, z15, bb, b7.loadAgg (n := 6) rfl]
    refine (putR_spec (M := 0) wf7 (fail_isrep _ _ _) (by omega) (fail_few _ _ _)).mono ?_
    rintro x h8 ⟨v8, rfl, p8, o8, k8⟩
    simp only [go_sem, ↓reduceIte, Nat.reduceEqDiff, p8.len, p1, z14]
    cases hc : inB code
    · simp only [go_sem, ↓reduceIte, Nat.reduceEqDiff, Bool.false_eq_true, Bool.false_and, bb]
      refine WS_of_ret ?_
      simp only [go_sem, f11_a, ↓reduceIte, Nat.reduceEqDiff]
    · simp only [go_sem, ↓reduceIte, Nat.reduceEqDiff, z13, Bool.true_and, bb]
      refine WS_of_ret ?_
      simp only [go_sem, f11_a, ↓reduceIte, Nat.reduceEqDiff]
      first | rfl | skip
  refine WS_of_seq (WS_of_ops ?_)
  cases hr : inB rev
  · simp only [f11_r9, go_sem, ↓reduceIte, Nat.reduceEqDiff, hr, Bool.false_eq_true]
    refine rest _ rfl rfl ?_ ?_ ?_ ?_ <;> simp only [go_sem, ↓reduceIte, Nat.reduceEqDiff, hr, Bool.false_and]
  cases hs : inB steps
  · simp only [f11_r9, go_sem, ↓reduceIte, Nat.reduceEqDiff, hr, hs, Bool.false_eq_true]
    refine rest _ rfl rfl ?_ ?_ ?_ ?_ <;> simp only [go_sem, ↓reduceIte, Nat.reduceEqDiff, hr, hs, Bool.false_and, Bool.and_false]
  have hk64 : decide ((k : Int) ≤ 64) = decide (k ≤ 64) := by
    congr 1
    simp only [eq_iff_iff]; omega
  simp only [f11_r9, go_sem, ↓reduceIte, Nat.reduceEqDiff, hr, hs, hk64]
  refine rest _ rfl rfl ?_ ?_ ?_ ?_ <;> simp only [go_sem, ↓reduceIte, Nat.reduceEqDiff, hr, hs, Bool.true_and]
end Go.Proofs.Ythhibhhpcjggnab.Ev.C
