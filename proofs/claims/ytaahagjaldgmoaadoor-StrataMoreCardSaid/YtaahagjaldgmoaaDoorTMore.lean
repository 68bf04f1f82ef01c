/- StrataMore. -/
import Derived.Test.YtaahagjaldgmoaaDoorTLevels
namespace Go.Proofs.YtaahagjaldgmoaaDoor.Ev.C
open Go Go.Proofs.YtaahagjaldgmoaaDoor.Ev
set_option linter.unusedSimpArgs false
set_option linter.unusedVariables false
theorem rem_small {n m : Nat} (hn : n < 256) (hm : m < 256) (h0 : 0 < m) : Int.tmod (IntKind.i64.wrap (n : Int)) (m : Int) = ((n % m : Nat) : Int) := by
  rw [wrapI (by omega)]
  exact (Int.ofNat_tmod n m).symm
theorem more_answer {h : H} (ks : KStart h) (wf : h.Wf) {n : Nat} (hn : n < 256) {v : AV} {l : List Ed} (b : Eds h v l) (bs : Slot (Old h.n) h v) {x : Ed} :
    WCall E0 n_doormanlaw10_StrataMore [.int .u8 (n : Int), v, .agg (edC x)] h fun r _ => r = .val (.bool true) := by
  have b0 := Box.new wf (edC x)
  have k0 : Keep (Old h.n) h (h.new (edC x)) := Keep.new (Nat.le_refl _) _
  have wf0 := k0.wf wf
  refine WCall_ws (ovn _) (tT T_doormanlaw10_StrataMore) (by simp [doormanlaw10_StrataMore_a]) ?_
  refine WS_of_seq (WS_of_ops ?_)
  simp only [doormanlaw10_StrataMore_r0, go_sem, ↓reduceIte, Nat.reduceEqDiff, enterS, List.getD_cons_zero, List.getD_cons_succ, AV.cells]
  generalize hg0 : h.new (edC x) = g0 at b0 k0 wf0
  have ks0 : KStart g0 := ⟨by rw [k0.get 0 (wf.ob _ _ ks.glob)]; exact ks.glob, by rw [k0.get 1 (wf.ob _ _ ks.row)]; exact ks.row⟩
  refine WS_of_seq (WS_of_ops ?_)
  simp only [doormanlaw10_StrataMore_r1, go_sem, ↓reduceIte, Nat.reduceEqDiff]
  refine (awake_call ks0).mono ?_
  rintro _ g0 ⟨rfl, rfl⟩
  simp only [go_sem, ↓reduceIte, Nat.reduceEqDiff]
  refine WS_of_seq (WS_of_seq (WS_of_ops ?_))
  simp only [doormanlaw10_StrataMore_r2, go_sem, ↓reduceIte, Nat.reduceEqDiff, Bool.not_true]
  refine WS_of_cond ?_
  simp only [go_sem, ↓reduceIte, Bool.false_eq_true]
  refine WS_of_skip ?_
  simp only [go_sem]
  have hkk : Int.tmod (IntKind.i64.wrap (n : Int)) 30 = ((n % 30 : Nat) : Int) := rem_small hn (by decide) (by decide)
  have hk30 : n % 30 < 30 := Nat.mod_lt _ (by decide)
  generalize n % 30 = k at hkk hk30
  refine WS_of_seq (WS_of_ops ?_)
  simp only [doormanlaw10_StrataMore_r4, go_sem, ↓reduceIte, Nat.reduceEqDiff, enterS, List.getD_cons_zero, List.getD_cons_succ, show ¬ ((30 : Int) = 0) by decide, hkk]
  refine WS_of_seq (WS_of_seq (WS_of_ops ?_))
  have c0 : loadA g0 false 1 (.ptr h.n 0) = some (intC x.1) := b0.load 1 0
  have c1 : loadA g0 false 1 (.ptr h.n 1) = some (intC x.2.1) := b0.load 1 1
  have c2 : loadA g0 false 1 (.ptr h.n 2) = some (.bool x.2.2) := b0.load 1 2
  have bs0 : Slot (Old g0.n) g0 v := bs.keep k0 fun _ hh => Nat.lt_of_lt_of_le hh k0.n
  have bb0 : Eds g0 v l := Sl.keep b k0 bs
  simp only [doormanlaw10_StrataMore_r5, go_sem, ↓reduceIte, Nat.reduceEqDiff, wanted, beq_self_eq_true, enterS, List.getD_cons_zero, List.getD_cons_succ, b.len, c0]
  by_cases h0 : (60 : Int) < (l.length : Int)
  ·
    simp only [h0, decide_true, go_sem, ↓reduceIte, Nat.reduceEqDiff, beq_self_eq_true, wanted, show (true == false) = false from rfl, Bool.false_eq_true, pickA]
    refine WS_of_cond ?_
    simp only [go_sem, ↓reduceIte]
    refine WS_of_seq (WS_of_ops ?_)
    simp only [doormanlaw10_StrataMore_r6, go_sem, ↓reduceIte, Nat.reduceEqDiff]
    refine WS_of_ret ?_
    simp only [go_sem, doormanlaw10_StrataMore_a, ↓reduceIte, Nat.reduceEqDiff]
  simp only [h0, decide_false, go_sem, ↓reduceIte, Nat.reduceEqDiff, beq_self_eq_true, wanted, pickA, c0, fieldAddrA, Nat.zero_add, Bool.false_eq_true]
  by_cases h1 : x.1 < 0
  ·
    simp only [h1, decide_true, go_sem, ↓reduceIte, Nat.reduceEqDiff, beq_self_eq_true, wanted, show (true == false) = false from rfl, Bool.false_eq_true, pickA]
    refine WS_of_cond ?_
    simp only [go_sem, ↓reduceIte]
    refine WS_of_seq (WS_of_ops ?_)
    simp only [doormanlaw10_StrataMore_r6, go_sem, ↓reduceIte, Nat.reduceEqDiff]
    refine WS_of_ret ?_
    simp only [go_sem, doormanlaw10_StrataMore_a, ↓reduceIte, Nat.reduceEqDiff]
  simp only [h1, decide_false, go_sem, ↓reduceIte, Nat.reduceEqDiff, beq_self_eq_true, wanted, pickA, c0, fieldAddrA, Nat.zero_add, Bool.false_eq_true]
  by_cases h2 : (k : Int) ≤ x.1
  ·
    simp only [h2, decide_true, go_sem, ↓reduceIte, Nat.reduceEqDiff, beq_self_eq_true, wanted, show (true == false) = false from rfl, Bool.false_eq_true, pickA]
    refine WS_of_cond ?_
    simp only [go_sem, ↓reduceIte]
    refine WS_of_seq (WS_of_ops ?_)
    simp only [doormanlaw10_StrataMore_r6, go_sem, ↓reduceIte, Nat.reduceEqDiff]
    refine WS_of_ret ?_
    simp only [go_sem, doormanlaw10_StrataMore_a, ↓reduceIte, Nat.reduceEqDiff]
  simp only [h2, decide_false, go_sem, ↓reduceIte, Nat.reduceEqDiff, beq_self_eq_true, wanted, pickA, c1, fieldAddrA, Nat.zero_add, Bool.false_eq_true]
  by_cases h3 : x.2.1 < 0
  ·
    simp only [h3, decide_true, go_sem, ↓reduceIte, Nat.reduceEqDiff, beq_self_eq_true, wanted, show (true == false) = false from rfl, Bool.false_eq_true, pickA]
    refine WS_of_cond ?_
    simp only [go_sem, ↓reduceIte]
    refine WS_of_seq (WS_of_ops ?_)
    simp only [doormanlaw10_StrataMore_r6, go_sem, ↓reduceIte, Nat.reduceEqDiff]
    refine WS_of_ret ?_
    simp only [go_sem, doormanlaw10_StrataMore_a, ↓reduceIte, Nat.reduceEqDiff]
  simp only [h3, decide_false, go_sem, ↓reduceIte, Nat.reduceEqDiff, beq_self_eq_true, wanted, pickA, c1, fieldAddrA, Nat.zero_add, Bool.false_eq_true]
  by_cases h4 : (k : Int) ≤ x.2.1
  ·
    simp only [h4, decide_true, go_sem, ↓reduceIte, Nat.reduceEqDiff, beq_self_eq_true, wanted, show (true == false) = false from rfl, Bool.false_eq_true, pickA]
    refine WS_of_cond ?_
    simp only [go_sem, ↓reduceIte]
    refine WS_of_seq (WS_of_ops ?_)
    simp only [doormanlaw10_StrataMore_r6, go_sem, ↓reduceIte, Nat.reduceEqDiff]
    refine WS_of_ret ?_
    simp only [go_sem, doormanlaw10_StrataMore_a, ↓reduceIte, Nat.reduceEqDiff]
  simp only [h4, decide_false]
  have hoff : off (k : Int) x = false := by simp [off, h1, h2, h3, h4]
  refine WS_of_cond ?_
  simp only [go_sem, ↓reduceIte, Bool.false_eq_true]
  refine WS_of_skip ?_
  simp only [go_sem]
  have hlen : l.length ≤ 60 := by omega
  -- levels of the edges
  refine WS_of_seq (WS_of_ops ?_)
  simp only [doormanlaw10_StrataMore_r7, go_sem, ↓reduceIte, Nat.reduceEqDiff, enterS, List.getD_cons_zero, List.getD_cons_succ]
  refine (levels_at std0 (by omega) bb0 bs0 (by omega) wf0).mono ?_
  rintro _ g1 ⟨k1, a, e, rfl, res1⟩
  have wf1 := k1.wf wf0
  have b1 : Box h.n (edC x) g1 := b0.keep k1 (b0.lt wf0)
  have bb1 : Eds g1 v l := Sl.keep bb0 k1 bs0
  have bs1 : Slot (Old g1.n) g1 v := bs0.keep k1 fun _ hh => Nat.lt_of_lt_of_le hh k1.n
  have d1 : loadA g1 true 3 (.ptr h.n 0) = some (.agg (edC x)) := b1.loadAgg rfl
  simp only [go_sem, ↓reduceIte, Nat.reduceEqDiff, extractA, List.getElem?_cons_zero, List.getElem?_cons_succ]
  -- one edge more
  refine WS_of_seq (WS_of_ops ?_)
  simp only [doormanlaw10_StrataMore_r8, go_sem, ↓reduceIte, Nat.reduceEqDiff]
  refine WS_of_seq (WS_of_ops ?_)
  obtain ⟨v2, g2, e2, s2, o2, k2⟩ := Eds.push (N := g1.n) (v := .nils) (l := []) wf1 (Nat.le_refl _) (Sl.nil g1 3) trivial x (by simp)
  simp only [doormanlaw10_StrataMore_r9, go_sem, ↓reduceIte, Nat.reduceEqDiff, d1, parts, List.map_cons, List.map_nil, afill_ed, e2]
  have wf2 := k2.wf wf1
  have bb2 : Eds g2 v l := Sl.keep bb1 k2 bs1
  refine WS_of_seq (WS_of_ops ?_)
  obtain ⟨v3, g3, e3, s3, o3, k3⟩ := append_own (N := g1.n) wf2 k2.n s2 o2 bb2 (by simp [edC, AV.one]) (by simp; omega)
  simp only [doormanlaw10_StrataMore_r10, go_sem, ↓reduceIte, Nat.reduceEqDiff, enterS, List.getD_cons_zero, List.getD_cons_succ, e3]
  have k13 := k2.trans k3
  have wf3 := k3.wf wf2
  have bb3 : Eds g3 v3 (x :: l) := by
    have : (x :: l).length = [x].length + l.length := by simp; omega
    show Sl g3 3 v3 (x :: l).length _
    rw [this]
    simpa using s3
  refine WS_of_seq (WS_of_ops ?_)
  simp only [doormanlaw10_StrataMore_r11, go_sem, ↓reduceIte, Nat.reduceEqDiff]
  refine (levels_at std0 (by omega) bb3 (o3.slot wf3) (by simp; omega) wf3).mono ?_
  rintro _ g4 ⟨k4, a', e', rfl, res2⟩
  have wf4 := k4.wf wf3
  have k14 := k13.trans (k4.less k13.n)
  have res1' := res1.keep wf1 k14
  have b4 : Box h.n (edC x) g4 := b1.keep k14 (b1.lt wf1)
  simp only [go_sem, ↓reduceIte, Nat.reduceEqDiff, extractA, List.getElem?_cons_zero, List.getElem?_cons_succ]
  refine WS_of_seq (WS_of_seq (WS_of_ops ?_))
  simp only [doormanlaw10_StrataMore_r12, go_sem, ↓reduceIte, Nat.reduceEqDiff]
  refine WS_of_cond ?_
  simp only [go_sem, ↓reduceIte]
  by_cases he0 : e = 0
  case neg =>
    simp only [he0, decide_false, Bool.not_false, ↓reduceIte]
    refine WS_of_seq (WS_of_ops ?_)
    simp only [doormanlaw10_StrataMore_r13, go_sem, ↓reduceIte, Nat.reduceEqDiff]
    refine WS_of_ret ?_
    simp only [go_sem, doormanlaw10_StrataMore_a, ↓reduceIte, Nat.reduceEqDiff]
    have : e' = e := by
      rcases res1' with ⟨hb, _, rfl⟩ | ⟨hb, hn, _, rfl⟩ | ⟨hb, _, _, _, _, _, _, rfl⟩
      · rcases res2 with ⟨_, _, rfl⟩ | ⟨hb2, _⟩ | ⟨hb2, _⟩
        · rfl
        · exact absurd (hb.imp fun e he => ⟨List.mem_cons_of_mem _ he.1, he.2⟩) hb2
        · exact absurd (hb.imp fun e he => ⟨List.mem_cons_of_mem _ he.1, he.2⟩) hb2
      · rcases res2 with ⟨⟨y, hy, ho⟩, _⟩ | ⟨_, _, _, rfl⟩ | ⟨_, _, f, _, _, hf, _⟩
        · rcases List.mem_cons.1 hy with rfl | hy
          · rw [hoff] at ho; cases ho
          · exact absurd ⟨y, hy, ho⟩ hb
        · rfl
        · obtain ⟨i, hi⟩ := hn (lv f) fun y hy => hf.sol y (List.mem_cons_of_mem _ hy)
          have := hf.le i
          omega
      · exact absurd rfl he0
    rw [this]; simp
  obtain ⟨hb, r0, f, hr0, hf, hL, rfl, rfl⟩ : ¬ Bad k l ∧ ∃ r0 f, g0.n ≤ r0 ∧ CBox natC r0 f g4 ∧ Least k l f ∧ a = .slice r0 0 k 1 ∧ e = 0 := by
    rcases res1' with ⟨_, _, rfl⟩ | ⟨_, _, _, rfl⟩ | r
    · cases he0
    · cases he0
    · exact r
  simp only [decide_true, Bool.not_true, Bool.false_eq_true, ↓reduceIte]
  refine WS_of_skip ?_
  simp only [go_sem]
  refine WS_of_seq (WS_of_seq (WS_of_ops ?_))
  simp only [doormanlaw10_StrataMore_r14, go_sem, ↓reduceIte, Nat.reduceEqDiff]
  refine WS_of_cond ?_
  simp only [go_sem, ↓reduceIte]
  have hb2 : ¬ Bad k (x :: l) := by
    rintro ⟨y, hy, ho⟩
    rcases List.mem_cons.1 hy with rfl | hy
    · rw [hoff] at ho; cases ho
    · exact hb ⟨y, hy, ho⟩
  by_cases he1 : e' = 0
  case neg =>
    simp only [he1, decide_false, Bool.not_false, ↓reduceIte]
    refine WS_of_seq (WS_of_ops ?_)
    simp only [doormanlaw10_StrataMore_r15, go_sem, ↓reduceIte, Nat.reduceEqDiff]
    refine WS_of_ret ?_
    simp only [go_sem, doormanlaw10_StrataMore_a, ↓reduceIte, Nat.reduceEqDiff]
    rcases res2 with ⟨hb', _⟩ | ⟨_, _, _, rfl⟩ | ⟨_, _, _, _, _, _, _, rfl⟩
    · exact absurd hb' hb2
    · rfl
    · exact absurd rfl he1
  obtain ⟨_, r1, f', hr1, hf', hL', rfl, rfl⟩ : ¬ Bad k (x :: l) ∧ ∃ r0 f, g3.n ≤ r0 ∧ CBox natC r0 f g4 ∧ Least k (x :: l) f ∧ a' = .slice r0 0 k 1 ∧ e' = 0 := by
    rcases res2 with ⟨_, _, rfl⟩ | ⟨_, _, _, rfl⟩ | r
    · cases he1
    · cases he1
    · exact r
  simp only [decide_true, Bool.not_true, Bool.false_eq_true, ↓reduceIte]
  refine WS_of_skip ?_
  simp only [go_sem]
  obtain ⟨xa, xc, xw, rfl, ha, hc⟩ := off_in hoff
  have p0 : loadA g4 false 1 (.ptr h.n 0) = some (intC xa) := b4.load 1 0
  have p1 : loadA g4 false 1 (.ptr h.n 1) = some (intC xc) := b4.load 1 1
  have p2 : loadA g4 false 1 (.ptr h.n 2) = some (.bool xw) := b4.load 1 2
  have ia := hf.at (i := xa) (n := k) (by rw [hL.len]; exact ha) hL.len.symm .i64
  have ic := hf.at (i := xc) (n := k) (by rw [hL.len]; exact hc) hL.len.symm .i64
  rw [lv_get (by rw [hL.len]; exact ha)] at ia
  rw [lv_get (by rw [hL.len]; exact hc)] at ic
  let calm : Bool := (!xw && decide (lv f xc ≤ lv f xa)) || (xw && decide (lv f xc < lv f xa))
  refine WS_mid (fun z g => g = g4 ∧ z 8 = intC k ∧ z 9 = .slice r0 0 k 1 ∧ z 12 = .slice r1 0 k 1 ∧ z 14 = .bool calm) ?_ ?_
  · refine WS_of_draw ?_
    cases xw
    · by_cases hcmp : lv f xc ≤ lv f xa
      · have hcmp' : (lv f xc : Int) ≤ (lv f xa : Int) := by omega
        simp only [doormanlaw10_StrataMore_r16, go_sem, ↓reduceIte, Nat.reduceEqDiff, wanted, beq_self_eq_true, p0, p1, p2, ia.1, ia.2, ic.1, ic.2, fieldAddrA, Nat.zero_add, Bool.not_false, pickA, Bool.not_true, Bool.false_eq_true, show (true == false) = false from rfl, show (false == true) = false from rfl, hcmp', decide_true, decide_false, undefA]
        simp [calm, hcmp]
      · have hcmp' : ¬ (lv f xc : Int) ≤ (lv f xa : Int) := by omega
        simp only [doormanlaw10_StrataMore_r16, go_sem, ↓reduceIte, Nat.reduceEqDiff, wanted, beq_self_eq_true, p0, p1, p2, ia.1, ia.2, ic.1, ic.2, fieldAddrA, Nat.zero_add, Bool.not_false, pickA, Bool.not_true, Bool.false_eq_true, show (true == false) = false from rfl, show (false == true) = false from rfl, hcmp', decide_true, decide_false, undefA]
        simp [calm, hcmp]
    · by_cases hcmp : lv f xc < lv f xa
      · have hcmp' : (lv f xc : Int) < (lv f xa : Int) := by omega
        simp only [doormanlaw10_StrataMore_r16, go_sem, ↓reduceIte, Nat.reduceEqDiff, wanted, beq_self_eq_true, p0, p1, p2, ia.1, ia.2, ic.1, ic.2, fieldAddrA, Nat.zero_add, Bool.not_false, pickA, Bool.not_true, Bool.false_eq_true, show (true == false) = false from rfl, show (false == true) = false from rfl, hcmp', decide_true, decide_false, undefA]
        simp [calm, hcmp]
      · have hcmp' : ¬ (lv f xc : Int) < (lv f xa : Int) := by omega
        simp only [doormanlaw10_StrataMore_r16, go_sem, ↓reduceIte, Nat.reduceEqDiff, wanted, beq_self_eq_true, p0, p1, p2, ia.1, ia.2, ic.1, ic.2, fieldAddrA, Nat.zero_add, Bool.not_false, pickA, Bool.not_true, Bool.false_eq_true, show (true == false) = false from rfl, show (false == true) = false from rfl, hcmp', decide_true, decide_false, undefA]
        simp [calm, hcmp]
  have hup : ∀ i, lv f i ≤ lv f' i := hL.least (lv f') fun y hy => hL'.sol y (List.mem_cons_of_mem _ hy)
  have hcalm : calm = true → ∀ i, lv f i = lv f' i := by
    intro hc i
    have hsol : Sol (((xa : Int), (xc : Int), xw) :: l) (lv f) := by
      intro y hy
      rcases List.mem_cons.1 hy with rfl | hy
      · simp only [Int.toNat_natCast]
        simp only [calm, Bool.or_eq_true, Bool.and_eq_true, Bool.not_eq_true', decide_eq_true_eq] at hc
        rcases hc with ⟨rfl, hc⟩ | ⟨rfl, hc⟩
        · simpa [wt] using hc
        · simp only [wt, if_true]; omega
      · exact hL.sol y hy
    have h5 := hL'.least (lv f) hsol i
    have h6 := hup i
    omega
  clear_value calm
  rintro z g ⟨rfl, z8, z9, z12, z14⟩
  refine WS_of_seq (WS_of_seq (WS_of_ops ?_))
  simp only [doormanlaw10_StrataMore_r17, go_sem, ↓reduceIte, Nat.reduceEqDiff]
  refine WS_of_block (WS_of_loop (fun m z g' => g' = g ∧ ∃ i, m = k - i ∧ i ≤ k ∧ z 8 = intC k ∧ z 9 = .slice r0 0 k 1 ∧ z 12 = .slice r1 0 k 1 ∧ z 14 = .bool calm ∧ z 15 = .int .i64 (i : Int)) ?_ k ?_)
  case refine_2 => exact ⟨rfl, 0, by simp, by omega, z8, z9, z12, z14, rfl⟩
  clear z8 z9 z12 z14
  rintro m z g' ⟨rfl, i, rfl, hi, z8, z9, z12, z14, z15⟩
  show WS E0 doormanlaw10_StrataMore_l22 _ _ _ _
  refine WS_of_seq (WS_of_seq (WS_of_ops ?_))
  simp only [doormanlaw10_StrataMore_r18, go_sem, ↓reduceIte, Nat.reduceEqDiff, z8, z15]
  refine WS_of_cond ?_
  simp only [go_sem, ↓reduceIte]
  by_cases hik : i < k
  case neg =>
    have : ¬ ((i : Int) < (k : Int)) := by omega
    simp only [this, decide_false, Bool.false_eq_true, ↓reduceIte]
    refine WS_of_exit ?_
    simp only [go_sem, ↓reduceIte]
    refine WS_of_seq (WS_of_ops ?_)
    simp only [doormanlaw10_StrataMore_r23, go_sem, ↓reduceIte, Nat.reduceEqDiff]
    refine WS_of_ret ?_
    simp only [go_sem, doormanlaw10_StrataMore_a, ↓reduceIte, Nat.reduceEqDiff]
  have hik' : ((i : Int) < (k : Int)) := by omega
  simp only [hik', decide_true, ↓reduceIte]
  refine WS_of_skip ?_
  simp only [go_sem]
  have qa := hf.at (i := i) (n := k) (by rw [hL.len]; exact hik) hL.len.symm .i64
  have qb := hf'.at (i := i) (n := k) (by rw [hL'.len]; exact hik) hL'.len.symm .i64
  rw [lv_get (by rw [hL.len]; exact hik)] at qa
  rw [lv_get (by rw [hL'.len]; exact hik)] at qb
  have hgt : ¬ ((lv f' i : Int) < (lv f i : Int)) := by have := hup i; omega
  refine WS_of_seq (WS_of_block (WS_of_seq (WS_of_draw ?_)))
  cases calm
  · simp only [doormanlaw10_StrataMore_r19, go_sem, ↓reduceIte, Nat.reduceEqDiff, wanted, beq_self_eq_true, z8, z9, z12, z14, z15, qa.1, qa.2, qb.1, qb.2, hgt, decide_false, pickA, undefA, show (true == false) = false from rfl, show (false == true) = false from rfl, Bool.false_eq_true, and_self]
    refine ⟨trivial, WS_of_cond ?_⟩
    simp only [go_sem, ↓reduceIte, Bool.false_eq_true]
    refine WS_of_skip ?_
    simp only [go_sem]
    refine WS_of_ops ?_
    simp only [doormanlaw10_StrataMore_r21, go_sem, ↓reduceIte, Nat.reduceEqDiff, z15]
    refine ⟨k - (i + 1), by omega, trivial, i + 1, rfl, by omega, z8, z9, z12, z14, ?_⟩
    rw [show ((i : Int) + 1) = ((i + 1 : Nat) : Int) from rfl, wrapI (by omega)]
  · have heq : (lv f i : Int) = (lv f' i : Int) := by rw [hcalm rfl i]
    simp only [doormanlaw10_StrataMore_r19, go_sem, ↓reduceIte, Nat.reduceEqDiff, wanted, beq_self_eq_true, z8, z9, z12, z14, z15, qa.1, qa.2, qb.1, qb.2, hgt, heq, decide_true, Bool.not_true, decide_false, pickA, undefA, show (true == false) = false from rfl, show (false == true) = false from rfl, Bool.false_eq_true, and_self, Int.lt_irrefl]
    refine ⟨trivial, WS_of_cond ?_⟩
    simp only [go_sem, ↓reduceIte, Bool.false_eq_true]
    refine WS_of_skip ?_
    simp only [go_sem]
    refine WS_of_ops ?_
    simp only [doormanlaw10_StrataMore_r21, go_sem, ↓reduceIte, Nat.reduceEqDiff, z15]
    refine ⟨k - (i + 1), by omega, trivial, i + 1, rfl, by omega, z8, z9, z12, z14, ?_⟩
    rw [show ((i : Int) + 1) = ((i + 1 : Nat) : Int) from rfl, wrapI (by omega)]
end Go.Proofs.YtaahagjaldgmoaaDoor.Ev.C
