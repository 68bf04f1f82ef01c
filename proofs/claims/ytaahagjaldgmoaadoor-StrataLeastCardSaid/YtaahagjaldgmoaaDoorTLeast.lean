/- StrataLeast. -/
import Derived.Test.YtaahagjaldgmoaaDoorTLevels
import Derived.Test.YtaahagjaldgmoaaDoorTPlain2
namespace Go.Proofs.YtaahagjaldgmoaaDoor.Ev.C
open Go Go.Proofs.YtaahagjaldgmoaaDoor.Ev
set_option linter.unusedSimpArgs false
set_option linter.unusedVariables false
theorem least_answer {h : H} (ks : KStart h) (wf : h.Wf) {n : Nat} (hn : n < 256) {v : AV} {l : List Ed} (b : Eds h v l) (bs : Slot (Old h.n) h v) :
    WCall E0 n_doormanlaw10_StrataLeast [.int .u8 (n : Int), v] h fun r _ => r = .val (.bool true) := by
  refine WCall_ws (ovn _) (tT T_doormanlaw10_StrataLeast) (by simp [doormanlaw10_StrataLeast_a]) ?_
  refine WS_of_seq (WS_of_ops ?_)
  simp only [doormanlaw10_StrataLeast_r0, go_sem, ↓reduceIte, Nat.reduceEqDiff, enterS, List.getD_cons_zero, List.getD_cons_succ, AV.cells]
  refine WS_of_seq (WS_of_ops ?_)
  simp only [doormanlaw10_StrataLeast_r1, go_sem, ↓reduceIte, Nat.reduceEqDiff]
  refine (awake_call ks).mono ?_
  rintro _ g0 ⟨rfl, rfl⟩
  simp only [go_sem, ↓reduceIte, Nat.reduceEqDiff]
  refine WS_of_seq (WS_of_seq (WS_of_ops ?_))
  simp only [doormanlaw10_StrataLeast_r2, go_sem, ↓reduceIte, Nat.reduceEqDiff, Bool.not_true]
  refine WS_of_cond ?_
  simp only [go_sem, ↓reduceIte, Bool.false_eq_true]
  refine WS_of_skip ?_
  simp only [go_sem]
  have hkk : Int.tmod (IntKind.i64.wrap (n : Int)) 30 = ((n % 30 : Nat) : Int) := rem_small hn (by decide) (by decide)
  have hk30 : n % 30 < 30 := Nat.mod_lt _ (by decide)
  generalize n % 30 = k at hkk hk30
  refine WS_of_seq (WS_of_ops ?_)
  simp only [doormanlaw10_StrataLeast_r4, go_sem, ↓reduceIte, Nat.reduceEqDiff, enterS, List.getD_cons_zero, List.getD_cons_succ, show ¬ ((30 : Int) = 0) by decide, hkk]
  refine WS_of_seq (WS_of_seq (WS_of_ops ?_))
  simp only [doormanlaw10_StrataLeast_r5, go_sem, ↓reduceIte, Nat.reduceEqDiff, wanted, beq_self_eq_true, enterS, List.getD_cons_zero, List.getD_cons_succ, b.len]
  refine WS_of_cond ?_
  simp only [go_sem, ↓reduceIte]
  by_cases h0 : (100 : Int) < (l.length : Int)
  · simp only [h0, decide_true, ↓reduceIte]
    refine WS_of_seq (WS_of_ops ?_)
    simp only [doormanlaw10_StrataLeast_r6, go_sem, ↓reduceIte, Nat.reduceEqDiff]
    refine WS_of_ret ?_
    simp only [go_sem, doormanlaw10_StrataLeast_a, ↓reduceIte, Nat.reduceEqDiff]
  simp only [h0, decide_false, Bool.false_eq_true, ↓reduceIte]
  refine WS_of_skip ?_
  simp only [go_sem]
  have hlen : l.length ≤ 100 := by omega
  refine WS_of_seq (WS_of_ops ?_)
  simp only [doormanlaw10_StrataLeast_r7, go_sem, ↓reduceIte, Nat.reduceEqDiff, enterS, List.getD_cons_zero, List.getD_cons_succ]
  refine (levels_at std0 (by omega) b bs (by omega) wf).mono ?_
  rintro _ g1 ⟨k1, a, e, rfl, res1⟩
  have wf1 := k1.wf wf
  have bb1 : Eds g1 v l := Sl.keep b k1 bs
  have bs1 : Slot (Old g1.n) g1 v := bs.keep k1 fun _ hh => Nat.lt_of_lt_of_le hh k1.n
  simp only [go_sem, ↓reduceIte, Nat.reduceEqDiff, extractA, List.getElem?_cons_zero, List.getElem?_cons_succ]
  refine WS_of_seq (WS_of_ops ?_)
  simp only [doormanlaw10_StrataLeast_r8, go_sem, ↓reduceIte, Nat.reduceEqDiff]
  -- are all edges within?
  refine WS_of_seq (WS_of_seq (WS_of_ops ?_))
  simp only [doormanlaw10_StrataLeast_r9, go_sem, ↓reduceIte, Nat.reduceEqDiff]
  refine WS_of_block (WS_of_loop (fun c z g => g = g1 ∧ ∃ i, c = l.length - i ∧ i ≤ l.length ∧ (∀ e ∈ l.take i, off k e = false) ∧ z 1 = v ∧ z 6 = .int .i64 (k : Int) ∧ z 7 = a ∧ z 8 = .int .i64 e ∧ z 9 = .int .i64 (((l.take i).filter (·.2.2)).length : Int) ∧ z 10 = .int .i64 (i : Int)) ?_ l.length ?_)
  case refine_2 => exact ⟨rfl, 0, by simp, by omega, by simp, rfl, rfl, rfl, rfl, rfl, rfl⟩
  rintro c z g ⟨rfl, i, rfl, hi, hin, z1, z6, z7, z8, z9, z10⟩
  show WS E0 doormanlaw10_StrataLeast_l16 _ _ _ _
  refine WS_of_seq (WS_of_seq (WS_of_ops ?_))
  simp only [doormanlaw10_StrataLeast_r10, go_sem, ↓reduceIte, Nat.reduceEqDiff, z1, z10, b.len]
  refine WS_of_cond ?_
  simp only [go_sem, ↓reduceIte]
  by_cases hil : i < l.length
  case pos =>
    have hil' : ((i : Int) < (l.length : Int)) := by omega
    simp only [hil', decide_true, ↓reduceIte]
    refine WS_of_skip ?_
    simp only [go_sem]
    refine WS_of_seq (WS_of_block (WS_of_seq (WS_of_seq (WS_of_ops ?_))))
    obtain ⟨po, pj, e1, c0, c1, c2, e2⟩ := bb1.at hil
    have hmemi := List.getElem_mem hil
    have hbad : off (k : Int) l[i] = true → e = 1 := by
      intro ho
      rcases res1 with ⟨_, _, rfl⟩ | ⟨hb, _⟩ | ⟨hb, _⟩
      · rfl
      · exact absurd ⟨_, hmemi, ho⟩ hb
      · exact absurd ⟨_, hmemi, ho⟩ hb
    have htk : l.take (i + 1) = l.take i ++ [l[i]] := by rw [List.take_add_one, List.getElem?_eq_getElem hil]; rfl
    generalize hx : l[i] = x at c0 c1 c2 e2 hbad htk
    simp only [doormanlaw10_StrataLeast_r11, go_sem, ↓reduceIte, Nat.reduceEqDiff, wanted, beq_self_eq_true, z1, z10, e1, fieldAddrA, c0]
    by_cases h1 : x.1 < 0
    ·
      simp only [h1, decide_true, go_sem, ↓reduceIte, Nat.reduceEqDiff, beq_self_eq_true, wanted, show (true == false) = false from rfl, Bool.false_eq_true, pickA]
      refine WS_of_cond ?_
      simp only [go_sem, ↓reduceIte]
      refine WS_of_seq (WS_of_ops ?_)
      have he1 := hbad (by simp [off, h1])
      simp only [doormanlaw10_StrataLeast_r12, go_sem, ↓reduceIte, Nat.reduceEqDiff, z8, he1]
      refine WS_of_ret ?_
      simp only [go_sem, doormanlaw10_StrataLeast_a, ↓reduceIte, Nat.reduceEqDiff, decide_true]
    simp only [h1, decide_false, go_sem, ↓reduceIte, Nat.reduceEqDiff, beq_self_eq_true, wanted, pickA, Bool.false_eq_true, z1, z6, z10, e1, fieldAddrA, c0, c1]
    by_cases h2 : (k : Int) ≤ x.1
    ·
      simp only [h2, decide_true, go_sem, ↓reduceIte, Nat.reduceEqDiff, beq_self_eq_true, wanted, show (true == false) = false from rfl, Bool.false_eq_true, pickA]
      refine WS_of_cond ?_
      simp only [go_sem, ↓reduceIte]
      refine WS_of_seq (WS_of_ops ?_)
      have he1 := hbad (by simp [off, h2])
      simp only [doormanlaw10_StrataLeast_r12, go_sem, ↓reduceIte, Nat.reduceEqDiff, z8, he1]
      refine WS_of_ret ?_
      simp only [go_sem, doormanlaw10_StrataLeast_a, ↓reduceIte, Nat.reduceEqDiff, decide_true]
    simp only [h2, decide_false, go_sem, ↓reduceIte, Nat.reduceEqDiff, beq_self_eq_true, wanted, pickA, Bool.false_eq_true, z1, z6, z10, e1, fieldAddrA, c0, c1]
    by_cases h3 : x.2.1 < 0
    ·
      simp only [h3, decide_true, go_sem, ↓reduceIte, Nat.reduceEqDiff, beq_self_eq_true, wanted, show (true == false) = false from rfl, Bool.false_eq_true, pickA]
      refine WS_of_cond ?_
      simp only [go_sem, ↓reduceIte]
      refine WS_of_seq (WS_of_ops ?_)
      have he1 := hbad (by simp [off, h3])
      simp only [doormanlaw10_StrataLeast_r12, go_sem, ↓reduceIte, Nat.reduceEqDiff, z8, he1]
      refine WS_of_ret ?_
      simp only [go_sem, doormanlaw10_StrataLeast_a, ↓reduceIte, Nat.reduceEqDiff, decide_true]
    simp only [h3, decide_false, go_sem, ↓reduceIte, Nat.reduceEqDiff, beq_self_eq_true, wanted, pickA, Bool.false_eq_true, z1, z6, z10, e1, fieldAddrA, c0, c1]
    by_cases h4 : (k : Int) ≤ x.2.1
    ·
      simp only [h4, decide_true, go_sem, ↓reduceIte, Nat.reduceEqDiff, beq_self_eq_true, wanted, show (true == false) = false from rfl, Bool.false_eq_true, pickA]
      refine WS_of_cond ?_
      simp only [go_sem, ↓reduceIte]
      refine WS_of_seq (WS_of_ops ?_)
      have he1 := hbad (by simp [off, h4])
      simp only [doormanlaw10_StrataLeast_r12, go_sem, ↓reduceIte, Nat.reduceEqDiff, z8, he1]
      refine WS_of_ret ?_
      simp only [go_sem, doormanlaw10_StrataLeast_a, ↓reduceIte, Nat.reduceEqDiff, decide_true]
    simp only [h4, decide_false, go_sem, ↓reduceIte, Nat.reduceEqDiff, beq_self_eq_true, wanted, pickA, Bool.false_eq_true, z1, z6, z10, e1, fieldAddrA, c0, c1]
    have hoff : off (k : Int) x = false := by simp [off, h1, h2, h3, h4]
    refine WS_of_cond ?_
    simp only [go_sem, ↓reduceIte, Bool.false_eq_true]
    refine WS_of_skip ?_
    simp only [go_sem]
    refine WS_of_seq (WS_of_ops ?_)
    simp only [doormanlaw10_StrataLeast_r13, go_sem, ↓reduceIte, Nat.reduceEqDiff, z1, z10, e1, fieldAddrA, c2]
    have hin' : ∀ e ∈ l.take (i + 1), off k e = false := by
      intro e he
      rw [htk] at he
      rcases List.mem_append.1 he with he | he
      · exact hin e he
      · rw [List.mem_singleton.1 he]; exact hoff
    have hfl : ((l.take i).filter (·.2.2)).length ≤ 100 := Nat.le_trans (List.length_filter_le _ _) (by simp; omega)
    have hcnt : ((l.take (i + 1)).filter (·.2.2)).length = ((l.take i).filter (·.2.2)).length + wt x.2.2 := by
      rw [htk, List.filter_append, List.length_append]
      cases hx2 : x.2.2 <;> simp [List.filter_cons, hx2, wt]
    refine WS_of_cond ?_
    cases hx2 : x.2.2
    · simp only [go_sem, ↓reduceIte, Bool.false_eq_true]
      refine WS_of_skip ?_
      simp only [go_sem]
      refine WS_of_ops ?_
      simp only [doormanlaw10_StrataLeast_r15, go_sem, ↓reduceIte, Nat.reduceEqDiff, z10]
      refine ⟨l.length - (i + 1), by omega, trivial, i + 1, rfl, by omega, hin', z1, z6, z7, z8, ?_, ?_⟩
      · rw [z9, hcnt, hx2]; rfl
      · rw [show ((i : Int) + 1) = ((i + 1 : Nat) : Int) from rfl, wrapI (by omega)]
    · simp only [go_sem, ↓reduceIte]
      refine WS_of_ops ?_
      simp only [doormanlaw10_StrataLeast_r14, go_sem, ↓reduceIte, Nat.reduceEqDiff, z9]
      refine WS_of_ops ?_
      simp only [doormanlaw10_StrataLeast_r15, go_sem, ↓reduceIte, Nat.reduceEqDiff, z10]
      refine ⟨l.length - (i + 1), by omega, trivial, i + 1, rfl, by omega, hin', z1, z6, z7, z8, ?_, ?_⟩
      · rw [show ∀ q : Nat, ((q : Int) + 1) = ((q + 1 : Nat) : Int) from fun _ => rfl, wrapI (by omega), hcnt, hx2]; rfl
      · rw [show ((i : Int) + 1) = ((i + 1 : Nat) : Int) from rfl, wrapI (by omega)]
  have hie : i = l.length := by omega
  subst hie
  simp only [Int.lt_irrefl, decide_false, Bool.false_eq_true, ↓reduceIte]
  refine WS_of_exit ?_
  simp only [go_sem, ↓reduceIte]
  rw [List.take_length] at hin z9
  have hnb : ¬ Bad k l := by
    rintro ⟨y, hy, ho⟩
    rw [hin y hy] at ho; cases ho
  refine WS_of_seq (WS_of_seq (WS_of_ops ?_))
  simp only [doormanlaw10_StrataLeast_r17, go_sem, ↓reduceIte, Nat.reduceEqDiff, z8]
  refine WS_of_cond ?_
  simp only [go_sem, ↓reduceIte]
  rcases res1 with ⟨hb, _⟩ | ⟨_, hs, rfl, rfl⟩ | ⟨_, r0, f, hr0, hf, hL, rfl, rfl⟩
  · exact absurd hb hnb
  · have hp := hs.nots
    have hp' : (0 : Int) < ((l.filter (·.2.2)).length : Int) := by omega
    simp only [show ¬ ((33 : Int) = 0) by decide, decide_false, Bool.not_false, ↓reduceIte]
    refine WS_of_seq (WS_of_ops ?_)
    simp only [doormanlaw10_StrataLeast_r18, go_sem, ↓reduceIte, Nat.reduceEqDiff, z8, z9, decide_true, wanted, beq_self_eq_true, hp', pickA]
    refine WS_of_ret ?_
    simp only [go_sem, doormanlaw10_StrataLeast_a, ↓reduceIte, Nat.reduceEqDiff]
  simp only [decide_true, Bool.not_true, Bool.false_eq_true, ↓reduceIte]
  refine WS_of_skip ?_
  simp only [go_sem]
  refine WS_of_seq (WS_of_seq (WS_of_ops ?_))
  simp only [doormanlaw10_StrataLeast_r19, go_sem, ↓reduceIte, Nat.reduceEqDiff, z6, z7, lenSA, Option.map_some, decide_true, Bool.not_true]
  refine WS_of_cond ?_
  simp only [go_sem, ↓reduceIte, Bool.false_eq_true]
  refine WS_of_skip ?_
  simp only [go_sem]
  refine WS_of_seq (WS_of_ops ?_)
  have hmk := CBox.make (mk := AV.bool) (h := g) wf1 (n := k) (bytes := 1) (z := false) (by omega) (by decide)
  simp only [doormanlaw10_StrataLeast_r21, go_sem, ↓reduceIte, Nat.reduceEqDiff, z6, hmk]
  have ask : CBox AV.bool g.n (List.replicate k false) (g.new ((List.replicate k false).map AV.bool)) := Box.new wf1 _
  have k2 : Keep (Old g.n) g (g.new ((List.replicate k false).map AV.bool)) := Keep.new (Nat.le_refl _) _
  have wf2 := k2.wf wf1
  have f2 := hf.keep k2 (hf.lt wf1)
  have bb2 : Eds (g.new ((List.replicate k false).map AV.bool)) v l := Sl.keep bb1 k2 bs1
  have hr2 : r0 ≠ g.n := by have := hf.lt wf1; omega
  have hrn := hf.lt wf1
  generalize g.new ((List.replicate k false).map AV.bool) = g2 at ask k2 wf2 f2 bb2
  generalize hra : g.n = ra at ask hr2
  -- which ones are asked for
  refine WS_mid (fun z g' => Keep (Old g.n) g g' ∧ ∃ al, CBox AV.bool ra al g' ∧ al.length = k ∧ (∀ e ∈ l, lv f e.1.toNat = lv f e.2.1.toNat + wt e.2.2 → al[e.1.toNat]? = some true) ∧ z 6 = .int .i64 (k : Int) ∧ z 7 = .slice r0 0 k 1 ∧ z 9 = .int .i64 ((l.filter (·.2.2)).length : Int) ∧ z 11 = .slice ra 0 k 1) ?_ ?_
  · refine WS_of_seq (WS_of_ops ?_)
    simp only [doormanlaw10_StrataLeast_r22, go_sem, ↓reduceIte, Nat.reduceEqDiff]
    refine WS_of_block (WS_of_loop (fun c z g' => Keep (Old g.n) g g' ∧ ∃ i al, c = l.length - i ∧ i ≤ l.length ∧ CBox AV.bool ra al g' ∧ al.length = k ∧ (∀ e ∈ l.take i, lv f e.1.toNat = lv f e.2.1.toNat + wt e.2.2 → al[e.1.toNat]? = some true) ∧ z 1 = v ∧ z 6 = .int .i64 (k : Int) ∧ z 7 = .slice r0 0 k 1 ∧ z 9 = .int .i64 ((l.filter (·.2.2)).length : Int) ∧ z 11 = .slice ra 0 k 1 ∧ z 12 = .int .i64 (i : Int)) ?_ l.length ?_)
    case refine_2 => exact ⟨k2, 0, _, by simp, by omega, ask, by simp, by simp, z1, z6, z7, z9, rfl, rfl⟩
    clear z1 z6 z7 z8 z9 z10 ask f2 bb2 hmk k2 wf2
    rintro c z g' ⟨kg, i, al, rfl, hi, ask, hasl, hask, z1, z6, z7, z9, z11, z12⟩
    have wg := kg.wf wf1
    have fg : CBox natC r0 f _ := hf.keep kg (hf.lt wf1)
    show WS E0 doormanlaw10_StrataLeast_l32 _ _ _ _
    refine WS_of_seq (WS_of_seq (WS_of_ops ?_))
    simp only [doormanlaw10_StrataLeast_r23, go_sem, ↓reduceIte, Nat.reduceEqDiff, z1, z12, b.len]
    refine WS_of_cond ?_
    simp only [go_sem, ↓reduceIte]
    by_cases hil : i < l.length
    case neg =>
      have hie : i = l.length := by omega
      subst hie
      simp only [Int.lt_irrefl, decide_false, Bool.false_eq_true, ↓reduceIte]
      refine WS_of_exit ?_
      simp only [go_sem, ↓reduceIte]
      rw [List.take_length] at hask
      exact ⟨trivial, kg, al, ask, hasl, hask, z6, z7, z9, z11⟩
    have hil' : ((i : Int) < (l.length : Int)) := by omega
    simp only [hil', decide_true, ↓reduceIte]
    refine WS_of_skip ?_
    simp only [go_sem]
    obtain ⟨po, pj, e1, c0, c1, c2, e2⟩ := Eds.at (Sl.keep bb1 kg bs1) hil
    have hmemi := List.getElem_mem hil
    have htk : l.take (i + 1) = l.take i ++ [l[i]] := by rw [List.take_add_one, List.getElem?_eq_getElem hil]; rfl
    obtain ⟨xa, xc, xw, hx, ha, hc⟩ := off_in (hin _ hmemi)
    rw [hx] at c0 c1 c2 hmemi htk
    have hsol := hL.sol _ hmemi
    simp only [Int.toNat_natCast] at hsol
    have hle := hL.le xc
    have ia := fg.at (i := xa) (n := k) (by rw [hL.len]; exact ha) hL.len.symm .i64
    have ic := fg.at (i := xc) (n := k) (by rw [hL.len]; exact hc) hL.len.symm .i64
    rw [lv_get (by rw [hL.len]; exact ha)] at ia
    rw [lv_get (by rw [hL.len]; exact hc)] at ic
    refine WS_of_seq (WS_of_block (WS_of_seq (WS_of_ops ?_)))
    simp only [doormanlaw10_StrataLeast_r24, go_sem, ↓reduceIte, Nat.reduceEqDiff, z1, z7, z12, e1, fieldAddrA, c1, ic.1, ic.2]
    refine WS_mid (fun z' g4 => g4 = g' ∧ z' 1 = v ∧ z' 6 = .int .i64 (k : Int) ∧ z' 7 = .slice r0 0 k 1 ∧ z' 9 = .int .i64 ((l.filter (·.2.2)).length : Int) ∧ z' 11 = .slice ra 0 k 1 ∧ z' 12 = .int .i64 (i : Int) ∧ z' 13 = natC (lv f xc + wt xw)) ?_ ?_
    · refine WS_of_seq (WS_of_ops ?_)
      simp only [doormanlaw10_StrataLeast_r25, go_sem, ↓reduceIte, Nat.reduceEqDiff, z1, z12, e1, fieldAddrA, c2]
      refine WS_of_cond ?_
      cases xw
      · simp only [go_sem, ↓reduceIte, Bool.false_eq_true]
        refine WS_of_skip ?_
        simp only [go_sem]
        exact ⟨trivial, trivial, z1, z6, z7, z9, z11, z12, rfl⟩
      · simp only [go_sem, ↓reduceIte]
        refine WS_of_ops ?_
        simp only [doormanlaw10_StrataLeast_r26, go_sem, ↓reduceIte, Nat.reduceEqDiff]
        refine ⟨trivial, trivial, z1, z6, z7, z9, z11, z12, ?_⟩
        rw [show ((lv f xc : Int) + 1) = ((lv f xc + 1 : Nat) : Int) from rfl, wrapI (by omega)]
        rfl
    clear z1 z6 z7 z9 z11 z12
    rintro z' g4 ⟨rfl, z1, z6, z7, z9, z11, z12, z13⟩
    have hge : ¬ ((lv f xa : Int) < ((lv f xc + wt xw : Nat) : Int)) := by omega
    refine WS_of_seq (WS_of_seq (WS_of_ops ?_))
    simp only [doormanlaw10_StrataLeast_r27, go_sem, ↓reduceIte, Nat.reduceEqDiff, z1, z7, z12, z13, e1, fieldAddrA, c0, ia.1, ia.2, hge, decide_false]
    refine WS_of_cond ?_
    simp only [go_sem, ↓reduceIte, Bool.false_eq_true]
    refine WS_of_skip ?_
    simp only [go_sem]
    refine WS_of_seq (WS_of_ops ?_)
    simp only [doormanlaw10_StrataLeast_r29, go_sem, ↓reduceIte, Nat.reduceEqDiff, z1, z7, z12, z13, e1, fieldAddrA, c0, ia.1, ia.2]
    refine WS_of_cond ?_
    simp only [go_sem, ↓reduceIte]
    by_cases htight : lv f xa = lv f xc + wt xw
    · have ht' : (lv f xa : Int) = ((lv f xc + wt xw : Nat) : Int) := by omega
      simp only [ht', decide_true, ↓reduceIte]
      refine WS_of_ops ?_
      have ja := ask.at (i := xa) (n := k) (by rw [hasl]; exact ha) hasl.symm .i64
      obtain ⟨g5, e5, f5, k5⟩ := ask.put bool1 wg (i := xa) (by rw [hasl]; exact ha) true
      simp only [doormanlaw10_StrataLeast_r30, go_sem, ↓reduceIte, Nat.reduceEqDiff, z1, z11, z12, e1, fieldAddrA, c0, ja.1, e5]
      refine WS_of_ops ?_
      simp only [doormanlaw10_StrataLeast_r31, go_sem, ↓reduceIte, Nat.reduceEqDiff, z12]
      refine ⟨l.length - (i + 1), by omega, kg.trans (k5.old wg (N := g.n) kg.n (by simp; omega)), i + 1, _, rfl, by omega, f5, by simp [hasl], ?_, z1, z6, z7, z9, z11, ?_⟩
      · intro y hy ht
        rw [htk] at hy
        rcases List.mem_append.1 hy with hy | hy
        · have := hask y hy ht
          rw [List.getElem?_set]
          split
          · rename_i h; subst h; simp only [hasl, ha, if_true]
          · exact this
        · rw [List.mem_singleton.1 hy]
          simp only [Int.toNat_natCast]
          rw [List.getElem?_set_self (by rw [hasl]; exact ha)]
      · rw [show ((i : Int) + 1) = ((i + 1 : Nat) : Int) from rfl, wrapI (by omega)]
    · have ht' : ¬ (lv f xa : Int) = ((lv f xc + wt xw : Nat) : Int) := by omega
      simp only [ht', decide_false, Bool.false_eq_true, ↓reduceIte]
      refine WS_of_skip ?_
      simp only [go_sem]
      refine WS_of_ops ?_
      simp only [doormanlaw10_StrataLeast_r31, go_sem, ↓reduceIte, Nat.reduceEqDiff, z12]
      refine ⟨l.length - (i + 1), by omega, kg, i + 1, al, rfl, by omega, ask, hasl, ?_, z1, z6, z7, z9, z11, ?_⟩
      · intro y hy ht
        rw [htk] at hy
        rcases List.mem_append.1 hy with hy | hy
        · exact hask y hy ht
        · rw [List.mem_singleton.1 hy] at ht
          simp only [Int.toNat_natCast] at ht
          exact absurd ht htight
      · rw [show ((i : Int) + 1) = ((i + 1 : Nat) : Int) from rfl, wrapI (by omega)]
  clear z1 z6 z7 z8 z9 z10 ask f2 bb2 hmk k2 wf2
  rintro z g' ⟨kg, al, ask, hasl, hask, z6, z7, z9, z11⟩
  have wg := kg.wf wf1
  have fg : CBox natC r0 f _ := hf.keep kg (hf.lt wf1)
  refine WS_mid (fun z g4 => g4 = g') ?_ ?_
  · refine WS_of_seq (WS_of_ops ?_)
    simp only [doormanlaw10_StrataLeast_r33, go_sem, ↓reduceIte, Nat.reduceEqDiff]
    refine WS_of_block (WS_of_loop (fun c z g4 => g4 = g' ∧ ∃ i, c = k - i ∧ i ≤ k ∧ z 6 = .int .i64 (k : Int) ∧ z 7 = .slice r0 0 k 1 ∧ z 9 = .int .i64 ((l.filter (·.2.2)).length : Int) ∧ z 11 = .slice ra 0 k 1 ∧ z 14 = .int .i64 (i : Int)) ?_ k ?_)
    case refine_2 => exact ⟨rfl, 0, by simp, by omega, z6, z7, z9, z11, rfl⟩
    clear z6 z7 z9 z11
    rintro c z g4 ⟨rfl, i, rfl, hi, z6, z7, z9, z11, z14⟩
    show WS E0 doormanlaw10_StrataLeast_l38 _ _ _ _
    refine WS_of_seq (WS_of_seq (WS_of_ops ?_))
    simp only [doormanlaw10_StrataLeast_r34, go_sem, ↓reduceIte, Nat.reduceEqDiff, z6, z14]
    refine WS_of_cond ?_
    simp only [go_sem, ↓reduceIte]
    by_cases hik : i < k
    case neg =>
      have : ¬ ((i : Int) < (k : Int)) := by omega
      simp only [this, decide_false, Bool.false_eq_true, ↓reduceIte]
      refine WS_of_exit ?_
      simp only [go_sem, ↓reduceIte]
      exact ⟨trivial, trivial⟩
    have hik' : ((i : Int) < (k : Int)) := by omega
    simp only [hik', decide_true, ↓reduceIte]
    refine WS_of_skip ?_
    simp only [go_sem]
    have ia := fg.at (i := i) (n := k) (by rw [hL.len]; exact hik) hL.len.symm .i64
    rw [lv_get (by rw [hL.len]; exact hik)] at ia
    have ja := ask.at (i := i) (n := k) (by rw [hasl]; exact hik) hasl.symm .i64
    have n1 : ¬ ((lv f i : Int) < 0) := by omega
    have n2 : ¬ (((l.filter (·.2.2)).length : Int) < (lv f i : Int)) := by have := hL.nots i; omega
    refine WS_of_seq (WS_of_block (WS_of_seq (WS_of_ops ?_)))
    by_cases hpos : 0 < lv f i
    · have n3 : (0 : Int) < (lv f i : Int) := by omega
      have n4 : al[i]'(by rw [hasl]; exact hik) = true := by
        obtain ⟨y, hy, h1, h2⟩ := hL.tight hpos
        have := hask y hy (by rw [h1]; exact h2)
        rw [h1, List.getElem?_eq_getElem (by rw [hasl]; exact hik)] at this
        exact Option.some.inj this
      rw [n4] at ja
      simp only [doormanlaw10_StrataLeast_r35, go_sem, ↓reduceIte, Nat.reduceEqDiff, wanted, beq_self_eq_true, z7, z9, z11, z14, ia.1, ia.2, ja.1, ja.2, n1, n2, n3, decide_true, decide_false, pickA, show (true == false) = false from rfl, show (false == true) = false from rfl, Bool.false_eq_true, Bool.not_true]
      refine WS_of_cond ?_
      simp only [go_sem, ↓reduceIte, Bool.false_eq_true]
      refine WS_of_skip ?_
      simp only [go_sem]
      refine WS_of_ops ?_
      simp only [doormanlaw10_StrataLeast_r37, go_sem, ↓reduceIte, Nat.reduceEqDiff, z14]
      refine ⟨k - (i + 1), by omega, trivial, i + 1, rfl, by omega, z6, z7, z9, z11, ?_⟩
      rw [show ((i : Int) + 1) = ((i + 1 : Nat) : Int) from rfl, wrapI (by omega)]
    · have n3 : ¬ (0 : Int) < (lv f i : Int) := by omega
      simp only [doormanlaw10_StrataLeast_r35, go_sem, ↓reduceIte, Nat.reduceEqDiff, wanted, beq_self_eq_true, z7, z9, z11, z14, ia.1, ia.2, ja.1, ja.2, n1, n2, n3, decide_true, decide_false, pickA, undefA, show (true == false) = false from rfl, show (false == true) = false from rfl, Bool.false_eq_true, Bool.not_true]
      refine WS_of_cond ?_
      simp only [go_sem, ↓reduceIte, Bool.false_eq_true]
      refine WS_of_skip ?_
      simp only [go_sem]
      refine WS_of_ops ?_
      simp only [doormanlaw10_StrataLeast_r37, go_sem, ↓reduceIte, Nat.reduceEqDiff, z14]
      refine ⟨k - (i + 1), by omega, trivial, i + 1, rfl, by omega, z6, z7, z9, z11, ?_⟩
      rw [show ((i : Int) + 1) = ((i + 1 : Nat) : Int) from rfl, wrapI (by omega)]
  clear z6 z7 z9 z11
  rintro z g4 rfl
  refine WS_of_seq (WS_of_ops ?_)
  simp only [doormanlaw10_StrataLeast_r39, go_sem, ↓reduceIte, Nat.reduceEqDiff]
  refine (levels_spec std0 (v := .nils) (l := []) (n := -1) (Sl.nil g4 3) trivial (by simp) wg).mono ?_
  rintro _ g5 ⟨k5, ⟨_, rfl⟩ | ⟨hno, _⟩⟩
  · simp only [go_sem, ↓reduceIte, Nat.reduceEqDiff, extractA, List.getElem?_cons_zero, List.getElem?_cons_succ]
    refine WS_of_seq (WS_of_ops ?_)
    simp only [doormanlaw10_StrataLeast_r40, go_sem, ↓reduceIte, Nat.reduceEqDiff, decide_true]
    refine WS_of_ret ?_
    simp only [go_sem, doormanlaw10_StrataLeast_a, ↓reduceIte, Nat.reduceEqDiff]
  · exact absurd (.inl (by decide)) hno
end Go.Proofs.YtaahagjaldgmoaaDoor.Ev.C
