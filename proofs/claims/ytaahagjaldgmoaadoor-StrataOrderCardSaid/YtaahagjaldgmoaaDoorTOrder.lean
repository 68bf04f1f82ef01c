/- StrataOrder. -/
import Derived.Test.YtaahagjaldgmoaaDoorTLevels
namespace Go.Proofs.YtaahagjaldgmoaaDoor.Ev.C
open Go Go.Proofs.YtaahagjaldgmoaaDoor.Ev
set_option linter.unusedSimpArgs false
set_option linter.unusedVariables false
theorem order_answer {h : H} (ks : KStart h) (wf : h.Wf) {n by' : Nat} (hn : n < 256) (hby : by' < 256) {v : AV} {l : List Ed} (b : Eds h v l) (bs : Slot (Old h.n) h v) :
    WCall E0 n_doormanlaw10_StrataOrder [.int .u8 (n : Int), v, .int .u8 (by' : Int)] h fun r _ => r = .val (.bool true) := by
  refine WCall_ws (ovn _) (tT T_doormanlaw10_StrataOrder) (by simp [doormanlaw10_StrataOrder_a]) ?_
  refine WS_of_seq (WS_of_ops ?_)
  simp only [doormanlaw10_StrataOrder_r0, go_sem, ↓reduceIte, Nat.reduceEqDiff, enterS, List.getD_cons_zero, List.getD_cons_succ, AV.cells]
  refine WS_of_seq (WS_of_ops ?_)
  simp only [doormanlaw10_StrataOrder_r1, go_sem, ↓reduceIte, Nat.reduceEqDiff]
  refine (awake_call ks).mono ?_
  rintro _ g0 ⟨rfl, rfl⟩
  simp only [go_sem, ↓reduceIte, Nat.reduceEqDiff]
  refine WS_of_seq (WS_of_seq (WS_of_ops ?_))
  simp only [doormanlaw10_StrataOrder_r2, go_sem, ↓reduceIte, Nat.reduceEqDiff, Bool.not_true]
  refine WS_of_cond ?_
  simp only [go_sem, ↓reduceIte, Bool.false_eq_true]
  refine WS_of_skip ?_
  simp only [go_sem]
  have hkk : Int.tmod (IntKind.i64.wrap (n : Int)) 30 = ((n % 30 : Nat) : Int) := rem_small hn (by decide) (by decide)
  have hk30 : n % 30 < 30 := Nat.mod_lt _ (by decide)
  generalize n % 30 = k at hkk hk30
  refine WS_of_seq (WS_of_ops ?_)
  simp only [doormanlaw10_StrataOrder_r4, go_sem, ↓reduceIte, Nat.reduceEqDiff, enterS, List.getD_cons_zero, List.getD_cons_succ, show ¬ ((30 : Int) = 0) by decide, hkk]
  refine WS_of_seq (WS_of_seq (WS_of_ops ?_))
  simp only [doormanlaw10_StrataOrder_r5, go_sem, ↓reduceIte, Nat.reduceEqDiff, wanted, beq_self_eq_true, enterS, List.getD_cons_zero, List.getD_cons_succ, b.len]
  by_cases h0 : (60 : Int) < (l.length : Int)
  · simp only [h0, decide_true, go_sem, ↓reduceIte, Nat.reduceEqDiff, beq_self_eq_true, wanted, show (true == false) = false from rfl, Bool.false_eq_true, pickA]
    refine WS_of_cond ?_
    simp only [go_sem, ↓reduceIte]
    refine WS_of_seq (WS_of_ops ?_)
    simp only [doormanlaw10_StrataOrder_r6, go_sem, ↓reduceIte, Nat.reduceEqDiff]
    refine WS_of_ret ?_
    simp only [go_sem, doormanlaw10_StrataOrder_a, ↓reduceIte, Nat.reduceEqDiff]
  simp only [h0, decide_false, go_sem, ↓reduceIte, Nat.reduceEqDiff, beq_self_eq_true, wanted, pickA, b.len]
  by_cases h1 : (l.length : Int) = 0
  · simp only [h1, decide_true, go_sem, ↓reduceIte, Nat.reduceEqDiff, beq_self_eq_true, wanted, show (true == false) = false from rfl, Bool.false_eq_true, pickA]
    refine WS_of_cond ?_
    simp only [go_sem, ↓reduceIte]
    refine WS_of_seq (WS_of_ops ?_)
    simp only [doormanlaw10_StrataOrder_r6, go_sem, ↓reduceIte, Nat.reduceEqDiff]
    refine WS_of_ret ?_
    simp only [go_sem, doormanlaw10_StrataOrder_a, ↓reduceIte, Nat.reduceEqDiff]
  simp only [h1, decide_false, Bool.false_eq_true, ↓reduceIte]
  refine WS_of_cond ?_
  simp only [go_sem, ↓reduceIte, Bool.false_eq_true]
  refine WS_of_skip ?_
  simp only [go_sem]
  have hlen : l.length ≤ 60 := by omega
  have hlen0 : 0 < l.length := by omega
  refine WS_of_seq (WS_of_ops ?_)
  simp only [doormanlaw10_StrataOrder_r7, go_sem, ↓reduceIte, Nat.reduceEqDiff]
  -- the first round of edges
  refine WS_mid (fun z g => Keep (Old g0.n) g0 g ∧ ∃ m vm, Eds g vm m ∧ Own g0.n g vm ∧ m.length = l.length ∧ (∀ e ∈ m, e ∈ l) ∧ z 1 = v ∧ z 8 = .int .i64 (k : Int) ∧ z 9 = vm) ?_ ?_
  · refine WS_of_seq (WS_of_ops ?_)
    simp only [doormanlaw10_StrataOrder_r8, go_sem, ↓reduceIte, Nat.reduceEqDiff]
    refine WS_of_block (WS_of_loop (fun c z g => Keep (Old g0.n) g0 g ∧ ∃ i m vm, c = l.length - i ∧ i ≤ l.length ∧ Eds g vm m ∧ Own g0.n g vm ∧ m.length = i ∧ (∀ e ∈ m, e ∈ l) ∧ z 1 = v ∧ z 2 = .int .u8 (by' : Int) ∧ z 8 = .int .i64 (k : Int) ∧ z 9 = vm ∧ z 10 = .int .i64 (i : Int)) ?_ l.length ?_)
    case refine_2 => exact ⟨Keep.refl _ _, 0, [], .nils, by simp, by omega, Sl.nil g0 3, trivial, rfl, by simp, rfl, rfl, rfl, rfl, rfl⟩
    rintro c z g ⟨kg, i, m, vm, rfl, hi, sm, om, hml, hmem, z1, z2, z8, z9, z10⟩
    have wg := kg.wf wf
    show WS E0 doormanlaw10_StrataOrder_l12 _ _ _ _
    refine WS_of_seq (WS_of_seq (WS_of_ops ?_))
    simp only [doormanlaw10_StrataOrder_r9, go_sem, ↓reduceIte, Nat.reduceEqDiff, z1, z10, b.len]
    refine WS_of_cond ?_
    simp only [go_sem, ↓reduceIte]
    by_cases hil : i < l.length
    case neg =>
      have hie : i = l.length := by omega
      have : ¬ ((i : Int) < (l.length : Int)) := by omega
      simp only [this, decide_false, Bool.false_eq_true, ↓reduceIte]
      refine WS_of_exit ?_
      simp only [go_sem, ↓reduceIte]
      exact ⟨trivial, kg, m, vm, sm, om, by omega, hmem, z1, z8, z9⟩
    have hil' : ((i : Int) < (l.length : Int)) := by omega
    simp only [hil', decide_true, ↓reduceIte]
    refine WS_of_skip ?_
    simp only [go_sem]
    refine WS_of_seq (WS_of_block (WS_of_ops ?_))
    have hlt : (i + by') % l.length < l.length := Nat.mod_lt _ hlen0
    obtain ⟨po, pj, e1, _, _, _, e2⟩ := Eds.at (Sl.keep b kg bs) hlt
    have hidx : Int.tmod (IntKind.i64.wrap ((i : Int) + IntKind.i64.wrap (by' : Int))) (l.length : Int) = (((i + by') % l.length : Nat) : Int) := by
      rw [wrapI (n := by') (by omega), show ((i : Int) + (by' : Int)) = ((i + by' : Nat) : Int) from rfl, wrapI (by omega)]
      exact (Int.ofNat_tmod _ _).symm
    obtain ⟨v2, g2, e3, s2, o2, k2⟩ := Eds.push (N := g0.n) wg kg.n sm om l[(i + by') % l.length] (by omega)
    simp only [doormanlaw10_StrataOrder_r10, go_sem, ↓reduceIte, Nat.reduceEqDiff, z1, z2, z9, z10, b.len, h1, hidx, e1, e2, parts, List.map_cons, List.map_nil, afill_ed, e3]
    refine WS_of_ops ?_
    simp only [doormanlaw10_StrataOrder_r11, go_sem, ↓reduceIte, Nat.reduceEqDiff, z10]
    refine ⟨l.length - (i + 1), by omega, kg.trans k2, i + 1, _, v2, rfl, by omega, s2, o2, by simp [hml], ?_, z1, z2, z8, rfl, ?_⟩
    · intro e he
      rcases List.mem_append.1 he with he | he
      · exact hmem e he
      · rw [List.mem_singleton.1 he]; exact List.getElem_mem hlt
    · rw [show ((i : Int) + 1) = ((i + 1 : Nat) : Int) from rfl, wrapI (by omega)]
  rintro z g1 ⟨kg1, m1, vm1, sm1, om1, hml1, hmem1, z1, z8, z9⟩
  -- the second round, back
  refine WS_mid (fun z g => Keep (Old g0.n) g0 g ∧ ∃ m vm, Eds g vm m ∧ Own g0.n g vm ∧ m.length ≤ 120 ∧ (∀ e, e ∈ m ↔ e ∈ l) ∧ z 1 = v ∧ z 8 = .int .i64 (k : Int) ∧ z 9 = vm) ?_ ?_
  · refine WS_of_seq (WS_of_ops ?_)
    have hw : IntKind.i64.wrap ((l.length : Int) - 1) = (l.length : Int) - 1 := wrap_i64 (by omega) (by omega)
    simp only [doormanlaw10_StrataOrder_r13, go_sem, ↓reduceIte, Nat.reduceEqDiff, z1, b.len, hw]
    refine WS_of_block (WS_of_loop (fun c z g => Keep (Old g0.n) g0 g ∧ ∃ i m vm, c = i ∧ i ≤ l.length ∧ Eds g vm m ∧ Own g0.n g vm ∧ m.length = l.length + (l.length - i) ∧ (∀ e ∈ m, e ∈ l) ∧ (∀ (j : Nat) (hj : j < l.length), i ≤ j → l[j] ∈ m) ∧ z 1 = v ∧ z 8 = .int .i64 (k : Int) ∧ z 9 = vm ∧ z 11 = .int .i64 ((i : Int) - 1)) ?_ l.length ?_)
    case refine_2 => exact ⟨kg1, l.length, m1, vm1, rfl, by omega, sm1, om1, by omega, hmem1, fun j hj h2 => by omega, z1, z8, z9, rfl⟩
    clear z1 z8 z9
    rintro c z g ⟨kg, i, m, vm, rfl, hi, sm, om, hml, hmem, hall, z1, z8, z9, z11⟩
    have wg := kg.wf wf
    show WS E0 doormanlaw10_StrataOrder_l17 _ _ _ _
    refine WS_of_seq (WS_of_seq (WS_of_ops ?_))
    simp only [doormanlaw10_StrataOrder_r14, go_sem, ↓reduceIte, Nat.reduceEqDiff, z11]
    refine WS_of_cond ?_
    simp only [go_sem, ↓reduceIte]
    by_cases hil : 0 < c
    case neg =>
      have : ¬ ((0 : Int) ≤ (c : Int) - 1) := by omega
      simp only [this, decide_false, Bool.false_eq_true, ↓reduceIte]
      refine WS_of_exit ?_
      simp only [go_sem, ↓reduceIte]
      refine ⟨trivial, kg, m, vm, sm, om, by omega, fun e => ⟨hmem e, fun he => ?_⟩, z1, z8, z9⟩
      obtain ⟨j, hj, rfl⟩ := List.getElem_of_mem he
      exact hall j hj (by omega)
    have hil' : ((0 : Int) ≤ (c : Int) - 1) := by omega
    simp only [hil', decide_true, ↓reduceIte]
    refine WS_of_skip ?_
    simp only [go_sem]
    refine WS_of_seq (WS_of_block (WS_of_ops ?_))
    have hlt : c - 1 < l.length := by omega
    obtain ⟨po, pj, e1, _, _, _, e2⟩ := Eds.at (Sl.keep b kg bs) hlt
    have hc1 : ((c : Int) - 1) = ((c - 1 : Nat) : Int) := by omega
    rw [hc1] at z11
    obtain ⟨v2, g2, e3, s2, o2, k2⟩ := Eds.push (N := g0.n) wg kg.n sm om l[c - 1] (by omega)
    simp only [doormanlaw10_StrataOrder_r15, go_sem, ↓reduceIte, Nat.reduceEqDiff, z1, z9, z11, e1, e2, parts, List.map_cons, List.map_nil, afill_ed, e3]
    refine WS_of_ops ?_
    simp only [doormanlaw10_StrataOrder_r16, go_sem, ↓reduceIte, Nat.reduceEqDiff, z11]
    refine ⟨c - 1, by omega, kg.trans k2, c - 1, _, v2, rfl, by omega, s2, o2, by simp [hml]; omega, ?_, ?_, z1, z8, rfl, ?_⟩
    · intro e he
      rcases List.mem_append.1 he with he | he
      · exact hmem e he
      · rw [List.mem_singleton.1 he]; exact List.getElem_mem hlt
    · intro j hj hcj
      by_cases hjc : j = c - 1
      · subst hjc; exact List.mem_append_right _ (List.mem_singleton.2 rfl)
      · exact List.mem_append_left _ (hall j hj (by omega))
    · rw [wrap_i64 (by omega) (by omega)]
  clear z1 z8 z9
  rintro z g2 ⟨kg2, m, vm, sm, om, hml, hmem, z1, z8, z9⟩
  have wf2 := kg2.wf wf
  have bb2 : Eds g2 v l := Sl.keep b kg2 bs
  have bs2 : Slot (Old g2.n) g2 v := bs.keep kg2 fun _ hh => Nat.lt_of_lt_of_le hh kg2.n
  have sl2 := om.slot wf2
  refine WS_of_seq (WS_of_ops ?_)
  simp only [doormanlaw10_StrataOrder_r18, go_sem, ↓reduceIte, Nat.reduceEqDiff, z1, z8]
  refine (levels_at std0 (by omega) bb2 bs2 (by omega) wf2).mono ?_
  rintro _ g3 ⟨k3, a, e, rfl, res1⟩
  have wf3 := k3.wf wf2
  simp only [go_sem, ↓reduceIte, Nat.reduceEqDiff, extractA, List.getElem?_cons_zero, List.getElem?_cons_succ]
  refine WS_of_seq (WS_of_ops ?_)
  simp only [doormanlaw10_StrataOrder_r19, go_sem, ↓reduceIte, Nat.reduceEqDiff, z8, z9]
  refine (levels_at std0 (by omega) (Sl.keep sm k3 sl2) (sl2.keep k3 fun _ hh => Nat.lt_of_lt_of_le hh k3.n) (by omega) wf3).mono ?_
  rintro _ g4 ⟨k4, a', e', rfl, res2⟩
  have wf4 := k4.wf wf3
  have res1' := res1.keep wf3 k4
  simp only [go_sem, ↓reduceIte, Nat.reduceEqDiff, extractA, List.getElem?_cons_zero, List.getElem?_cons_succ]
  have hsame : e' = e ∧ ((a = .nils ∧ a' = .nils) ∨ ∃ r0 f r1 f', CBox natC r0 f g4 ∧ CBox natC r1 f' g4 ∧ f.length = k ∧ f'.length = k ∧ (∀ i, lv f i = lv f' i) ∧ a = .slice r0 0 k 1 ∧ a' = .slice r1 0 k 1) := by
    rcases res1' with ⟨hb, rfl, rfl⟩ | ⟨hb, hs, rfl, rfl⟩ | ⟨hb, r0, f, _, hf, hL, rfl, rfl⟩
    · rcases res2 with ⟨_, rfl, rfl⟩ | ⟨hb2, _⟩ | ⟨hb2, _⟩
      · exact ⟨rfl, .inl ⟨rfl, rfl⟩⟩
      · exact absurd (hb.congr hmem) hb2
      · exact absurd (hb.congr hmem) hb2
    · rcases res2 with ⟨hb2, _⟩ | ⟨_, _, rfl, rfl⟩ | ⟨_, r1, f', _, _, hL', _⟩
      · exact absurd (hb2.congr fun e => (hmem e).symm) hb
      · exact ⟨rfl, .inl ⟨rfl, rfl⟩⟩
      · exact (hL'.noSol (hs.congr hmem)).elim
    · rcases res2 with ⟨hb2, _⟩ | ⟨_, hs, _⟩ | ⟨_, r1, f', _, hf', hL', rfl, rfl⟩
      · exact absurd (hb2.congr fun e => (hmem e).symm) hb
      · exact (hL.noSol (hs.congr fun e => (hmem e).symm)).elim
      · exact ⟨rfl, .inr ⟨r0, f, r1, f', hf, hf', hL.len, hL'.len, fun i => (hL.congr hmem).unique hL' i, rfl, rfl⟩⟩
  obtain ⟨rfl, hsame⟩ := hsame
  obtain ⟨c, hla, hla', hca⟩ : ∃ c : Nat, lenSA a = some c ∧ lenSA a' = some c ∧ (a = .nils → c = 0) ∧ (∀ r0 x, a = .slice r0 0 x 1 → c = x) := by
    rcases hsame with ⟨rfl, rfl⟩ | ⟨r0, f, r1, f', _, _, _, _, _, rfl, rfl⟩
    · exact ⟨0, rfl, rfl, fun _ => rfl, fun _ _ hh => (by cases hh)⟩
    · exact ⟨k, rfl, rfl, fun hh => (by cases hh), fun _ _ hh => (by cases hh; rfl)⟩
  refine WS_of_seq (WS_of_seq (WS_of_ops ?_))
  simp only [doormanlaw10_StrataOrder_r20, go_sem, ↓reduceIte, Nat.reduceEqDiff, hla, hla', decide_true, Bool.not_true, wanted, beq_self_eq_true, pickA, show (true == false) = false from rfl, Bool.false_eq_true]
  refine WS_of_cond ?_
  simp only [go_sem, ↓reduceIte, Bool.false_eq_true]
  refine WS_of_skip ?_
  simp only [go_sem]
  refine WS_of_seq (WS_of_seq (WS_of_ops ?_))
  simp only [doormanlaw10_StrataOrder_r22, go_sem, ↓reduceIte, Nat.reduceEqDiff]
  refine WS_of_block (WS_of_loop (fun m z g' => g' = g4 ∧ ∃ i, m = c - i ∧ i ≤ c ∧ z 12 = a ∧ z 14 = a' ∧ z 16 = .int .i64 (i : Int)) ?_ c ?_)
  case refine_2 => exact ⟨rfl, 0, by simp, by omega, rfl, rfl, rfl⟩
  clear z1 z8 z9
  rintro m z g' ⟨rfl, i, rfl, hi, z12, z14, z16⟩
  show WS E0 doormanlaw10_StrataOrder_l27 _ _ _ _
  refine WS_of_seq (WS_of_seq (WS_of_ops ?_))
  simp only [doormanlaw10_StrataOrder_r23, go_sem, ↓reduceIte, Nat.reduceEqDiff, z12, z16, hla]
  refine WS_of_cond ?_
  simp only [go_sem, ↓reduceIte]
  by_cases hik : i < c
  case neg =>
    have : ¬ ((i : Int) < (c : Int)) := by omega
    simp only [this, decide_false, Bool.false_eq_true, ↓reduceIte]
    refine WS_of_exit ?_
    simp only [go_sem, ↓reduceIte]
    refine WS_of_seq (WS_of_ops ?_)
    simp only [doormanlaw10_StrataOrder_r28, go_sem, ↓reduceIte, Nat.reduceEqDiff]
    refine WS_of_ret ?_
    simp only [go_sem, doormanlaw10_StrataOrder_a, ↓reduceIte, Nat.reduceEqDiff]
  have hik' : ((i : Int) < (c : Int)) := by omega
  simp only [hik', decide_true, ↓reduceIte]
  refine WS_of_skip ?_
  simp only [go_sem]
  obtain ⟨r0, f, r1, f', hf, hf', hfl, hfl', hff, rfl, rfl⟩ : ∃ r0 f r1 f', CBox natC r0 f g' ∧ CBox natC r1 f' g' ∧ f.length = k ∧ f'.length = k ∧ (∀ i, lv f i = lv f' i) ∧ a = .slice r0 0 k 1 ∧ a' = .slice r1 0 k 1 := by
    rcases hsame with ⟨rfl, rfl⟩ | hh
    · have := hca.1 rfl; omega
    · exact hh
  have hck := hca.2 r0 k rfl
  subst hck
  have qa := hf.at (i := i) (n := c) (by rw [hfl]; exact hik) hfl.symm .i64
  have qb := hf'.at (i := i) (n := c) (by rw [hfl']; exact hik) hfl'.symm .i64
  rw [lv_get (by rw [hfl]; exact hik), hff i] at qa
  rw [lv_get (by rw [hfl']; exact hik)] at qb
  refine WS_of_seq (WS_of_block (WS_of_seq (WS_of_draw ?_)))
  simp only [doormanlaw10_StrataOrder_r24, go_sem, ↓reduceIte, Nat.reduceEqDiff, wanted, beq_self_eq_true, z12, z14, z16, qa.1, qa.2, qb.1, qb.2, decide_true, Bool.not_true, and_self]
  refine ⟨trivial, WS_of_cond ?_⟩
  simp only [go_sem, ↓reduceIte, Bool.false_eq_true]
  refine WS_of_skip ?_
  simp only [go_sem]
  refine WS_of_ops ?_
  simp only [doormanlaw10_StrataOrder_r26, go_sem, ↓reduceIte, Nat.reduceEqDiff, z16]
  refine ⟨c - (i + 1), by omega, trivial, i + 1, rfl, by omega, z12, z14, ?_⟩
  rw [show ((i : Int) + 1) = ((i + 1 : Nat) : Int) from rfl, wrapI (by omega)]
end Go.Proofs.YtaahagjaldgmoaaDoor.Ev.C
