/- StrataLevels. -/
import Derived.Test.YtaahagjaldgmoaaDoorTRef
namespace Go.Proofs.YtaahagjaldgmoaaDoor.Ev.C
open Go Go.Proofs.YtaahagjaldgmoaaDoor.Ev
set_option linter.unusedSimpArgs false
set_option linter.unusedVariables false
theorem levels_answer {h : H} (ks : KStart h) (wf : h.Wf) {n : Nat} (hn : n < 256) {v : AV} {l : List Ed} (b : Eds h v l) (bs : Slot (Old h.n) h v) :
    WCall E0 n_doormanlaw10_StrataLevels [.int .u8 (n : Int), v] h fun r _ => r = .val (.bool true) := by
  refine WCall_ws (ovn _) (tT T_doormanlaw10_StrataLevels) (by simp [doormanlaw10_StrataLevels_a]) ?_
  refine WS_of_seq (WS_of_ops ?_)
  simp only [doormanlaw10_StrataLevels_r0, go_sem, ↓reduceIte, Nat.reduceEqDiff, enterS, List.getD_cons_zero, List.getD_cons_succ, AV.cells]
  refine WS_of_seq (WS_of_ops ?_)
  simp only [doormanlaw10_StrataLevels_r1, go_sem, ↓reduceIte, Nat.reduceEqDiff]
  refine (awake_call ks).mono ?_
  rintro _ g0 ⟨rfl, rfl⟩
  simp only [go_sem, ↓reduceIte, Nat.reduceEqDiff]
  refine WS_of_seq (WS_of_seq (WS_of_ops ?_))
  simp only [doormanlaw10_StrataLevels_r2, go_sem, ↓reduceIte, Nat.reduceEqDiff, Bool.not_true]
  refine WS_of_cond ?_
  simp only [go_sem, ↓reduceIte, Bool.false_eq_true]
  refine WS_of_skip ?_
  simp only [go_sem]
  have hkk : Int.tmod (IntKind.i64.wrap (n : Int)) 16 = ((n % 16 : Nat) : Int) := rem_small hn (by decide) (by decide)
  have hk30 : n % 16 < 16 := Nat.mod_lt _ (by decide)
  generalize n % 16 = k at hkk hk30
  refine WS_of_seq (WS_of_ops ?_)
  simp only [doormanlaw10_StrataLevels_r4, go_sem, ↓reduceIte, Nat.reduceEqDiff, enterS, List.getD_cons_zero, List.getD_cons_succ, show ¬ ((16 : Int) = 0) by decide, hkk]
  refine WS_of_seq (WS_of_seq (WS_of_ops ?_))
  simp only [doormanlaw10_StrataLevels_r5, go_sem, ↓reduceIte, Nat.reduceEqDiff, wanted, beq_self_eq_true, enterS, List.getD_cons_zero, List.getD_cons_succ, b.len]
  refine WS_of_cond ?_
  simp only [go_sem, ↓reduceIte]
  by_cases h0 : (60 : Int) < (l.length : Int)
  · simp only [h0, decide_true, ↓reduceIte]
    refine WS_of_seq (WS_of_ops ?_)
    simp only [doormanlaw10_StrataLevels_r6, go_sem, ↓reduceIte, Nat.reduceEqDiff]
    refine WS_of_ret ?_
    simp only [go_sem, doormanlaw10_StrataLevels_a, ↓reduceIte, Nat.reduceEqDiff]
  simp only [h0, decide_false, Bool.false_eq_true, ↓reduceIte]
  refine WS_of_skip ?_
  simp only [go_sem]
  have hlen : l.length ≤ 60 := by omega
  refine WS_of_seq (WS_of_ops ?_)
  simp only [doormanlaw10_StrataLevels_r7, go_sem, ↓reduceIte, Nat.reduceEqDiff, enterS, List.getD_cons_zero, List.getD_cons_succ]
  refine (levels_at std0 (by omega) b bs (by omega) wf).mono ?_
  rintro _ g1 ⟨k1, a, e, rfl, res1⟩
  have wf1 := k1.wf wf
  have bb1 : Eds g1 v l := Sl.keep b k1 bs
  have bs1 : Slot (Old g1.n) g1 v := bs.keep k1 fun _ hh => Nat.lt_of_lt_of_le hh k1.n
  simp only [go_sem, ↓reduceIte, Nat.reduceEqDiff, extractA, List.getElem?_cons_zero, List.getElem?_cons_succ]
  refine WS_of_seq (WS_of_ops ?_)
  simp only [doormanlaw10_StrataLevels_r8, go_sem, ↓reduceIte, Nat.reduceEqDiff, enterS, List.getD_cons_zero, List.getD_cons_succ]
  refine (edges_spec std0 bb1 bs1 (by omega) wf1).mono ?_
  rintro _ g2 ⟨k2, w, rfl, bw, bws⟩
  have wf2 := k2.wf wf1
  have res2 := res1.keep wf1 k2
  simp only [go_sem, ↓reduceIte, Nat.reduceEqDiff]
  -- are all edges within?
  refine WS_of_seq (WS_of_seq (WS_of_ops ?_))
  simp only [doormanlaw10_StrataLevels_r9, go_sem, ↓reduceIte, Nat.reduceEqDiff]
  refine WS_of_block (WS_of_loop (fun c z g => g = g2 ∧ ∃ i, c = l.length - i ∧ i ≤ l.length ∧ (∀ e ∈ l.take i, off k e = false) ∧ z 6 = .int .i64 (k : Int) ∧ z 7 = a ∧ z 8 = .int .i64 e ∧ z 9 = w ∧ z 10 = .int .i64 (i : Int)) ?_ l.length ?_)
  case refine_2 => exact ⟨rfl, 0, by simp, by omega, by simp, rfl, rfl, rfl, rfl, rfl⟩
  rintro c z g ⟨rfl, i, rfl, hi, hin, z6, z7, z8, z9, z10⟩
  show WS E0 doormanlaw10_StrataLevels_l14 _ _ _ _
  refine WS_of_seq (WS_of_seq (WS_of_ops ?_))
  simp only [doormanlaw10_StrataLevels_r10, go_sem, ↓reduceIte, Nat.reduceEqDiff, z9, z10, bw.len]
  refine WS_of_cond ?_
  simp only [go_sem, ↓reduceIte]
  by_cases hil : i < l.length
  case pos =>
    have hil' : ((i : Int) < (l.length : Int)) := by omega
    simp only [hil', decide_true, ↓reduceIte]
    refine WS_of_skip ?_
    simp only [go_sem]
    refine WS_of_seq (WS_of_block (WS_of_seq (WS_of_ops ?_)))
    obtain ⟨po, pj, e1, c0, c1, c2, e2⟩ := bw.at hil
    have hmemi := List.getElem_mem hil
    have hbad : off (k : Int) l[i] = true → e = 1 ∧ lenSA a = some 0 := by
      intro ho
      rcases res2 with ⟨_, rfl, rfl⟩ | ⟨hb, _⟩ | ⟨hb, _⟩
      · exact ⟨rfl, rfl⟩
      · exact absurd ⟨_, hmemi, ho⟩ hb
      · exact absurd ⟨_, hmemi, ho⟩ hb
    have htk : l.take (i + 1) = l.take i ++ [l[i]] := by rw [List.take_add_one, List.getElem?_eq_getElem hil]; rfl
    generalize hx : l[i] = x at c0 c1 c2 e2 hbad htk
    simp only [doormanlaw10_StrataLevels_r11, go_sem, ↓reduceIte, Nat.reduceEqDiff, wanted, beq_self_eq_true, z9, z10, e1, fieldAddrA, c0]
    by_cases h1 : x.1 < 0
    ·
      simp only [h1, decide_true, go_sem, ↓reduceIte, Nat.reduceEqDiff, beq_self_eq_true, wanted, show (true == false) = false from rfl, Bool.false_eq_true, pickA]
      refine WS_of_cond ?_
      simp only [go_sem, ↓reduceIte]
      refine WS_of_seq (WS_of_ops ?_)
      obtain ⟨he1, he2⟩ := hbad (by simp [off, h1])
      simp only [doormanlaw10_StrataLevels_r12, go_sem, ↓reduceIte, Nat.reduceEqDiff, z7, z8, he1, he2, decide_true, wanted, beq_self_eq_true, pickA, Option.map_some]
      refine WS_of_ret ?_
      simp only [go_sem, doormanlaw10_StrataLevels_a, ↓reduceIte, Nat.reduceEqDiff, decide_true]
      try rfl
    simp only [h1, decide_false, go_sem, ↓reduceIte, Nat.reduceEqDiff, beq_self_eq_true, wanted, pickA, Bool.false_eq_true, z6, z9, z10, e1, fieldAddrA, c0, c1]
    by_cases h2 : (k : Int) ≤ x.1
    ·
      simp only [h2, decide_true, go_sem, ↓reduceIte, Nat.reduceEqDiff, beq_self_eq_true, wanted, show (true == false) = false from rfl, Bool.false_eq_true, pickA]
      refine WS_of_cond ?_
      simp only [go_sem, ↓reduceIte]
      refine WS_of_seq (WS_of_ops ?_)
      obtain ⟨he1, he2⟩ := hbad (by simp [off, h2])
      simp only [doormanlaw10_StrataLevels_r12, go_sem, ↓reduceIte, Nat.reduceEqDiff, z7, z8, he1, he2, decide_true, wanted, beq_self_eq_true, pickA, Option.map_some]
      refine WS_of_ret ?_
      simp only [go_sem, doormanlaw10_StrataLevels_a, ↓reduceIte, Nat.reduceEqDiff, decide_true]
      try rfl
    simp only [h2, decide_false, go_sem, ↓reduceIte, Nat.reduceEqDiff, beq_self_eq_true, wanted, pickA, Bool.false_eq_true, z6, z9, z10, e1, fieldAddrA, c0, c1]
    by_cases h3 : x.2.1 < 0
    ·
      simp only [h3, decide_true, go_sem, ↓reduceIte, Nat.reduceEqDiff, beq_self_eq_true, wanted, show (true == false) = false from rfl, Bool.false_eq_true, pickA]
      refine WS_of_cond ?_
      simp only [go_sem, ↓reduceIte]
      refine WS_of_seq (WS_of_ops ?_)
      obtain ⟨he1, he2⟩ := hbad (by simp [off, h3])
      simp only [doormanlaw10_StrataLevels_r12, go_sem, ↓reduceIte, Nat.reduceEqDiff, z7, z8, he1, he2, decide_true, wanted, beq_self_eq_true, pickA, Option.map_some]
      refine WS_of_ret ?_
      simp only [go_sem, doormanlaw10_StrataLevels_a, ↓reduceIte, Nat.reduceEqDiff, decide_true]
      try rfl
    simp only [h3, decide_false, go_sem, ↓reduceIte, Nat.reduceEqDiff, beq_self_eq_true, wanted, pickA, Bool.false_eq_true, z6, z9, z10, e1, fieldAddrA, c0, c1]
    by_cases h4 : (k : Int) ≤ x.2.1
    ·
      simp only [h4, decide_true, go_sem, ↓reduceIte, Nat.reduceEqDiff, beq_self_eq_true, wanted, show (true == false) = false from rfl, Bool.false_eq_true, pickA]
      refine WS_of_cond ?_
      simp only [go_sem, ↓reduceIte]
      refine WS_of_seq (WS_of_ops ?_)
      obtain ⟨he1, he2⟩ := hbad (by simp [off, h4])
      simp only [doormanlaw10_StrataLevels_r12, go_sem, ↓reduceIte, Nat.reduceEqDiff, z7, z8, he1, he2, decide_true, wanted, beq_self_eq_true, pickA, Option.map_some]
      refine WS_of_ret ?_
      simp only [go_sem, doormanlaw10_StrataLevels_a, ↓reduceIte, Nat.reduceEqDiff, decide_true]
      try rfl
    simp only [h4, decide_false, go_sem, ↓reduceIte, Nat.reduceEqDiff, beq_self_eq_true, wanted, pickA, Bool.false_eq_true, z6, z9, z10, e1, fieldAddrA, c0, c1]
    have hoff : off (k : Int) x = false := by simp [off, h1, h2, h3, h4]
    refine WS_of_cond ?_
    simp only [go_sem, ↓reduceIte, Bool.false_eq_true]
    refine WS_of_skip ?_
    simp only [go_sem]
    refine WS_of_ops ?_
    simp only [doormanlaw10_StrataLevels_r13, go_sem, ↓reduceIte, Nat.reduceEqDiff, z10]
    refine ⟨l.length - (i + 1), by omega, trivial, i + 1, rfl, by omega, ?_, z6, z7, z8, z9, ?_⟩
    · intro e he
      rw [htk] at he
      rcases List.mem_append.1 he with he | he
      · exact hin e he
      · rw [List.mem_singleton.1 he]; exact hoff
    · rw [show ((i : Int) + 1) = ((i + 1 : Nat) : Int) from rfl, wrapI (by omega)]
  have hie : i = l.length := by omega
  subst hie
  simp only [Int.lt_irrefl, decide_false, Bool.false_eq_true, ↓reduceIte]
  refine WS_of_exit ?_
  simp only [go_sem, ↓reduceIte]
  rw [List.take_length] at hin
  have hnb : ¬ Bad k l := by
    rintro ⟨y, hy, ho⟩
    rw [hin y hy] at ho; cases ho
  refine WS_of_seq (WS_of_ops ?_)
  simp only [doormanlaw10_StrataLevels_r15, go_sem, ↓reduceIte, Nat.reduceEqDiff, z6, z9]
  refine (cycle_spec std0 bw bws (by omega) (by omega) hin wf2).mono ?_
  rintro _ g3 ⟨k3, t, rfl, ht⟩
  have wf3 := k3.wf wf2
  have res3 := res2.keep wf2 k3
  simp only [go_sem, ↓reduceIte, Nat.reduceEqDiff]
  refine WS_of_seq (WS_of_seq (WS_of_ops ?_))
  simp only [doormanlaw10_StrataLevels_r16, go_sem, ↓reduceIte, Nat.reduceEqDiff]
  refine WS_of_cond ?_
  simp only [go_sem, ↓reduceIte]
  cases t
  case true =>
    have hcyc := ht.1 rfl
    obtain ⟨rfl, rfl⟩ : a = .nils ∧ e = 33 := by
      rcases res3 with ⟨hb, _⟩ | ⟨_, _, h1, h2⟩ | ⟨_, _, f, _, _, hL, _⟩
      · exact absurd hb hnb
      · exact ⟨h1, h2⟩
      · exact (hcyc.noSol hL.sol).elim
    refine WS_of_seq (WS_of_ops ?_)
    simp only [doormanlaw10_StrataLevels_r17, go_sem, ↓reduceIte, Nat.reduceEqDiff, z7, z8, decide_true, wanted, beq_self_eq_true, pickA, lenSA, Option.map_some]
    refine WS_of_ret ?_
    simp only [go_sem, doormanlaw10_StrataLevels_a, ↓reduceIte, Nat.reduceEqDiff]
    try rfl
  have hnc : ¬ NotCycle l := fun hh => by have := ht.2 hh; cases this
  obtain ⟨r0, f, hf, hL, rfl, rfl⟩ : ∃ r0 f, CBox natC r0 f g3 ∧ Least k l f ∧ a = .slice r0 0 k 1 ∧ e = 0 := by
    rcases res3 with ⟨hb, _⟩ | ⟨_, hs, _⟩ | ⟨_, r0, f, _, hf, hL, h1, h2⟩
    · exact absurd hb hnb
    · exact (hs.jac hin hnc).elim
    · exact ⟨r0, f, hf, hL, h1, h2⟩
  simp only [Bool.false_eq_true, ↓reduceIte]
  refine WS_of_skip ?_
  simp only [go_sem]
  refine WS_of_seq (WS_of_ops ?_)
  simp only [doormanlaw10_StrataLevels_r18, go_sem, ↓reduceIte, Nat.reduceEqDiff, z6, z9]
  have bw3 : Eds g3 w l := Sl.keep bw k3 bws
  have bws3 : Slot (Old g3.n) g3 w := bws.keep k3 fun _ hh => Nat.lt_of_lt_of_le hh k3.n
  refine (reflevels_spec std0 bw3 bws3 (by omega) (by omega) hin wf3).mono ?_
  rintro _ g4 ⟨k4, r1, f', rfl, hf', fl', _, hf4⟩
  have hf3 : CBox natC r0 f g4 := hf.keep k4 (hf.lt wf3)
  simp only [go_sem, ↓reduceIte, Nat.reduceEqDiff]
  refine WS_of_seq (WS_of_seq (WS_of_ops ?_))
  simp only [doormanlaw10_StrataLevels_r19, go_sem, ↓reduceIte, Nat.reduceEqDiff, z6, z7, z8, lenSA, Option.map_some, decide_true, Bool.not_true, wanted, beq_self_eq_true, pickA, show (true == false) = false from rfl, Bool.false_eq_true]
  refine WS_of_cond ?_
  simp only [go_sem, ↓reduceIte, Bool.false_eq_true]
  refine WS_of_skip ?_
  simp only [go_sem]
  refine WS_of_seq (WS_of_seq (WS_of_ops ?_))
  simp only [doormanlaw10_StrataLevels_r21, go_sem, ↓reduceIte, Nat.reduceEqDiff]
  refine WS_of_block (WS_of_loop (fun m z g' => g' = g4 ∧ ∃ i, m = k - i ∧ i ≤ k ∧ z 6 = .int .i64 (k : Int) ∧ z 7 = .slice r0 0 k 1 ∧ z 12 = .slice r1 0 k 1 ∧ z 13 = .int .i64 (i : Int)) ?_ k ?_)
  case refine_2 => exact ⟨rfl, 0, by simp, by omega, z6, z7, rfl, rfl⟩
  clear z6 z7 z8 z9 z10
  rintro m z g' ⟨rfl, i, rfl, hi, z6, z7, z12, z13⟩
  show WS E0 doormanlaw10_StrataLevels_l26 _ _ _ _
  refine WS_of_seq (WS_of_seq (WS_of_ops ?_))
  simp only [doormanlaw10_StrataLevels_r22, go_sem, ↓reduceIte, Nat.reduceEqDiff, z6, z13]
  refine WS_of_cond ?_
  simp only [go_sem, ↓reduceIte]
  by_cases hik : i < k
  case neg =>
    have : ¬ ((i : Int) < (k : Int)) := by omega
    simp only [this, decide_false, Bool.false_eq_true, ↓reduceIte]
    refine WS_of_exit ?_
    simp only [go_sem, ↓reduceIte]
    refine WS_of_seq (WS_of_ops ?_)
    simp only [doormanlaw10_StrataLevels_r27, go_sem, ↓reduceIte, Nat.reduceEqDiff]
    refine WS_of_ret ?_
    simp only [go_sem, doormanlaw10_StrataLevels_a, ↓reduceIte, Nat.reduceEqDiff]
  have hik' : ((i : Int) < (k : Int)) := by omega
  simp only [hik', decide_true, ↓reduceIte]
  refine WS_of_skip ?_
  simp only [go_sem]
  have qa := hf3.at (i := i) (n := k) (by rw [hL.len]; exact hik) hL.len.symm .i64
  have qb := hf'.at (i := i) (n := k) (by omega) fl'.symm .i64
  rw [lv_get (by rw [hL.len]; exact hik), hL.jac hin hnc i hik] at qa
  rw [lv_get (by omega), hf4 i hik] at qb
  refine WS_of_seq (WS_of_block (WS_of_seq (WS_of_draw ?_)))
  simp only [doormanlaw10_StrataLevels_r23, go_sem, ↓reduceIte, Nat.reduceEqDiff, wanted, beq_self_eq_true, z7, z12, z13, qa.1, qa.2, qb.1, qb.2, decide_true, Bool.not_true, and_self]
  refine ⟨trivial, WS_of_cond ?_⟩
  simp only [go_sem, ↓reduceIte, Bool.false_eq_true]
  refine WS_of_skip ?_
  simp only [go_sem]
  refine WS_of_ops ?_
  simp only [doormanlaw10_StrataLevels_r25, go_sem, ↓reduceIte, Nat.reduceEqDiff, z13]
  refine ⟨k - (i + 1), by omega, trivial, i + 1, rfl, by omega, z6, z7, z12, ?_⟩
  rw [show ((i : Int) + 1) = ((i + 1 : Nat) : Int) from rfl, wrapI (by omega)]
end Go.Proofs.YtaahagjaldgmoaaDoor.Ev.C
