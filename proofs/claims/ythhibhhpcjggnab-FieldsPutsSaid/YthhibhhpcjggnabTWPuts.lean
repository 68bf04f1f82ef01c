/- The walk of FieldsPuts. -/
import Derived.Test.YthhibhhpcjggnabTRefs2
namespace Go.Proofs.Ythhibhhpcjggnab.Ev.C
open Go Go.Proofs.Ythhibhhpcjggnab.Ev
set_option linter.unusedSimpArgs false
set_option linter.unusedVariables false
theorem puts_tail {h0 h : H} {x0 x1 x2 : AV} {l : List Nat} {t : List (List UInt8)} {bs : List UInt8} (wf0 : h0.Wf) (k0 : Keep (Old h0.n) h0 h) (b0 : U64s h0 x0 l) (t0 : Slot (Old h0.n) h0 x0) (b1 : Strs h0 x1 t) (t1 : Slot (Old h0.n) h0 x1) (b2 : Bytes h0 x2 bs) (t2 : Slot (Old h0.n) h0 x2)
    (hl : ∀ x ∈ l, x < 18446744073709551616) (hll : l.length ≤ 200) (htl : t.length ≤ 40) (hts : ∀ u ∈ t, u.length ≤ 400) (hbl : bs.length ≤ 1000)
    {s : S} (s0 : s 0 = x0) (s1 : s 1 = x1) (s2 : s 2 = x2) (s8 : s 8 = .str (l.flatMap num)) :
    WS E0 ((ACode.ops f3_r18).seq ((ACode.ops f3_r19).seq ((ACode.draw f3_r20).seq ACode.ret))) [] (atEnd f3_a.results fun r _ => r = .val (.bool true)) s h := by
  have wf := k0.wf wf0
  have c2 := b2.keep k0 t2
  refine WS_of_seq (WS_of_ops ?_)
  simp only [f3_r18, go_sem, ↓reduceIte, Nat.reduceEqDiff, s2]
  refine (take_spec c2 (by omega)).mono ?_
  rintro r h' ⟨rfl, rfl⟩
  simp only [go_sem, ↓reduceIte, Nat.reduceEqDiff]
  refine WS_of_seq (WS_of_ops ?_)
  simp only [f3_r19, go_sem, ↓reduceIte, Nat.reduceEqDiff, s2, c2.str]
  refine (refTake_spec (by omega)).mono ?_
  rintro r h1 ⟨rfl, rfl⟩
  simp only [go_sem, ↓reduceIte, Nat.reduceEqDiff]
  have c0 := Sl.keep b0 k0 t0
  have slk : ∀ {x h'}, Slot (Old h0.n) h0 x → Keep (Old h0.n) h0 h' → Slot (Old h'.n) h' x := fun sx k => sx.keep k fun o ho => Nat.lt_of_lt_of_le ho k.n
  refine WS_of_seq (WS_of_draw ?_)
  simp only [f3_r20, go_sem, ↓reduceIte, Nat.reduceEqDiff, s0, s1, s8, and_self, true_and, List.filter_cons, List.filter_nil, Nat.testBit, Nat.reduceShiftRight, Nat.reduceAnd, Nat.reduceBNe, Bool.not_false, Bool.not_true, Bool.false_eq_true, bne_self_eq_false]
  refine (put_spec wf c0 (slk t0 k0) hl (by omega)).mono ?_
  rintro r h2 ⟨v2, rfl, d2, o2, k2⟩
  have wf2 := k2.wf wf
  have k02 := k0.then (Nat.le_refl _) k2
  simp only [go_sem, ↓reduceIte, Nat.reduceEqDiff, d2.str, decide_true, s0, s1, s8, and_self, true_and, List.filter_cons, List.filter_nil, Nat.testBit, Nat.reduceShiftRight, Nat.reduceAnd, Nat.reduceBNe, Bool.not_false, Bool.not_true, Bool.false_eq_true, bne_self_eq_false]
  refine (texts_spec wf2 (b1.keep k02 t1) (slk t1 k02) (M := 400) (by omega) hts (by omega)).mono ?_
  rintro r h3 ⟨v3, rfl, d3, o3, k3⟩
  have wf3 := k3.wf wf2
  have k03 := k02.then (Nat.le_refl _) k3
  have e2 := (d2.keep k3 (o2.slot wf2))
  simp only [go_sem, ↓reduceIte, Nat.reduceEqDiff, d3.str, e2.str, decide_true, s0, s1, s8, and_self, true_and, List.filter_cons, List.filter_nil, Nat.testBit, Nat.reduceShiftRight, Nat.reduceAnd, Nat.reduceBNe, Bool.not_false, Bool.not_true, Bool.false_eq_true, bne_self_eq_false]
  refine (refTexts_spec wf3 (b1.keep k03 t1) (slk t1 k03) (M := 400) (by omega) hts (by omega)).mono ?_
  rintro r h4 ⟨rfl, k4⟩
  have wf4 := k4.wf wf3
  have k04 := k03.then (Nat.le_refl _) k4
  have e3 := (d3.keep k4 (o3.slot wf3))
  simp only [go_sem, ↓reduceIte, Nat.reduceEqDiff, e3.str, decide_true, s0, s1, s8, and_self, true_and, List.filter_cons, List.filter_nil, Nat.testBit, Nat.reduceShiftRight, Nat.reduceAnd, Nat.reduceBNe, Bool.not_false, Bool.not_true, Bool.false_eq_true, bne_self_eq_false]
  refine (lists_spec wf4 (b1.keep k04 t1) (slk t1 k04) (M := 400) (by omega) hts (by omega)).mono ?_
  rintro r h5 ⟨v5, rfl, d5, o5, k5⟩
  have wf5 := k5.wf wf4
  have k05 := k04.then (Nat.le_refl _) k5
  have e4 := (e3.keep k5 ((o3.slot wf3).keep k4 fun o ho => Nat.lt_of_lt_of_le ho k4.n))
  simp only [go_sem, ↓reduceIte, Nat.reduceEqDiff, d5.str, e4.str, decide_true, s0, s1, s8, and_self, true_and, List.filter_cons, List.filter_nil, Nat.testBit, Nat.reduceShiftRight, Nat.reduceAnd, Nat.reduceBNe, Bool.not_false, Bool.not_true, Bool.false_eq_true, bne_self_eq_false]
  refine (refList_spec wf5 (b1.keep k05 t1) (slk t1 k05) (M := 400) (by omega) hts (by omega)).mono ?_
  rintro r h6 ⟨rfl, k6⟩
  have e5 := (d5.keep k6 (o5.slot wf5))
  simp only [go_sem, ↓reduceIte, Nat.reduceEqDiff, e5.str, decide_true, s0, s1, s8, and_self, true_and, List.filter_cons, List.filter_nil, Nat.testBit, Nat.reduceShiftRight, Nat.reduceAnd, Nat.reduceBNe, Bool.not_false, Bool.not_true, Bool.false_eq_true, bne_self_eq_false]
  refine WS_of_ret ?_
  simp only [go_sem, f3_a, ↓reduceIte, Nat.reduceEqDiff]
theorem puts_answer {x0 x1 x2 : AV} {h : H} {l : List Nat} {t : List (List UInt8)} {bs : List UInt8} (wf : h.Wf) (b0 : U64s h x0 l) (t0 : Slot (Old h.n) h x0) (b1 : Strs h x1 t) (t1 : Slot (Old h.n) h x1) (b2 : Bytes h x2 bs) (t2 : Slot (Old h.n) h x2)
    (hl : ∀ x ∈ l, x < 18446744073709551616) (hll : l.length < 9223372036854775808) (htl : t.length < 9223372036854775808) (hts : ∀ u ∈ t, u.length ≤ 9223372036854775807) (hbl : bs.length < 9223372036854775808) :
    WCall E0 3 [x0, x1, x2] h fun r _ => r = .val (.bool true) := by
  refine WCall_ws rfl T3 (by simp [f3_a]) ?_
  show WS E0 f3_c [] _ _ _
  refine WS_of_seq (WS_of_ops ?_)
  simp only [f3_r0, go_sem, ↓reduceIte]
  refine WS_of_seq (WS_of_ops ?_)
  simp only [f3_r1, go_sem, ↓reduceIte, Nat.reduceEqDiff]
  refine WCall_ov (g := fun args h => match args with | [] => some (.val (.bool true), h) | _ => none) rfl rfl ?_
  simp only [go_sem, ↓reduceIte, Nat.reduceEqDiff]
  refine WS_of_seq (WS_of_seq (WS_of_ops ?_))
  simp only [f3_r2, go_sem, ↓reduceIte, Nat.reduceEqDiff]
  refine WS_of_cond ?_
  simp only [go_sem, ↓reduceIte, Nat.reduceEqDiff, Bool.not_true, Bool.false_eq_true]
  refine WS_of_skip ?_
  simp only [go_sem]
  refine WS_of_seq (WS_of_seq (WS_of_ops ?_))
  by_cases c1 : 200 < l.length
  · have c1' : (200 : Int) < (l.length : Int) := by omega
    simp only [f3_r4, go_sem, ↓reduceIte, Nat.reduceEqDiff, b0.len, c1', decide_true, Bool.true_eq_false]
    refine WS_of_cond ?_
    simp only [go_sem, ↓reduceIte]
    refine WS_of_seq (WS_of_ops ?_)
    simp only [f3_r5, go_sem, ↓reduceIte]
    refine WS_of_ret ?_
    simp only [go_sem, f3_a, ↓reduceIte, Nat.reduceEqDiff]
  have c1' : ¬ (200 : Int) < (l.length : Int) := by omega
  by_cases c2 : 40 < t.length
  · have c2' : (40 : Int) < (t.length : Int) := by omega
    simp only [f3_r4, go_sem, ↓reduceIte, Nat.reduceEqDiff, b0.len, b1.len, c1', c2', decide_true, decide_false, Bool.true_eq_false, Bool.false_eq_true]
    refine WS_of_cond ?_
    simp only [go_sem, ↓reduceIte]
    refine WS_of_seq (WS_of_ops ?_)
    simp only [f3_r5, go_sem, ↓reduceIte]
    refine WS_of_ret ?_
    simp only [go_sem, f3_a, ↓reduceIte, Nat.reduceEqDiff]
  have c2' : ¬ (40 : Int) < (t.length : Int) := by omega
  by_cases c3 : 1000 < bs.length
  · have c3' : (1000 : Int) < (bs.length : Int) := by omega
    simp only [f3_r4, go_sem, ↓reduceIte, Nat.reduceEqDiff, b0.len, b1.len, b2.len, c1', c2', c3', decide_true, decide_false, Bool.false_eq_true]
    refine WS_of_cond ?_
    simp only [go_sem, ↓reduceIte]
    refine WS_of_seq (WS_of_ops ?_)
    simp only [f3_r5, go_sem, ↓reduceIte]
    refine WS_of_ret ?_
    simp only [go_sem, f3_a, ↓reduceIte, Nat.reduceEqDiff]
  have c3' : ¬ (1000 : Int) < (bs.length : Int) := by omega
  simp only [f3_r4, go_sem, ↓reduceIte, Nat.reduceEqDiff, b0.len, b1.len, b2.len, c1', c2', c3', decide_false, Bool.false_eq_true]
  refine WS_of_cond ?_
  simp only [go_sem, ↓reduceIte, Bool.false_eq_true]
  refine WS_of_skip ?_
  simp only [go_sem]
  refine WS_of_seq (WS_of_ops ?_)
  simp only [f3_r6, go_sem, ↓reduceIte, Nat.reduceEqDiff]
  refine WS_of_seq (WS_of_seq (WS_of_ops ?_))
  simp only [f3_r7, go_sem, ↓reduceIte, Nat.reduceEqDiff]
  refine WS_of_block (WS_of_loop (fun m z h1 => ∃ j, m = l.length - j ∧ j ≤ l.length ∧ Keep (Old h.n) h h1 ∧
    z 0 = x0 ∧ z 1 = x1 ∧ z 2 = x2 ∧ z 8 = .str ((l.take j).flatMap num) ∧ z 9 = .int .i64 (j : Nat)) ?_ l.length ?_)
  · rintro m z h1 ⟨j, rfl, hj, k1, z0, z1, z2, z8, z9⟩
    have wf1 := k1.wf wf
    have d0 := Sl.keep b0 k1 t0
    have d1 := b1.keep k1 t1
    show WS E0 f3_l11 _ _ _ _
    refine WS_of_seq (WS_of_seq (WS_of_ops ?_))
    simp only [f3_r8, go_sem, ↓reduceIte, Nat.reduceEqDiff, z0, z9, d0.len, List.length_map]
    refine WS_of_cond ?_
    simp only [go_sem, ↓reduceIte]
    by_cases hjl : j < l.length
    · have e1 : (j : Int) < (l.length : Int) := by omega
      simp only [e1, decide_true, ↓reduceIte]
      refine WS_of_skip ?_
      simp only [go_sem]
      obtain ⟨p, p1, p2⟩ := U64s.at d0 hjl .i64
      refine WS_of_seq (WS_of_block (WS_of_ops ?_))
      simp only [f3_r9, go_sem, ↓reduceIte, Nat.reduceEqDiff, z0, z8, z9, p1, p2]
      refine (refNum_spec wf1 (hl _ (List.getElem_mem hjl))).mono ?_
      rintro r h2 ⟨rfl, k2⟩
      have fl := flat_length (l := l.take j) (fun x hx => hl x (List.mem_of_mem_take hx))
      have nl := num_len9 (hl _ (List.getElem_mem hjl))
      have eb : (((l.take j).flatMap num).length + (num l[j]).length ≤ big) = True := by
        rw [List.length_take] at fl
        simp only [big, eq_iff_iff, iff_true]; omega
      simp only [go_sem, ↓reduceIte, Nat.reduceEqDiff, eb, true_and]
      refine WS_of_ops ?_
      have e9 : IntKind.i64.wrap ((j : Int) + 1) = ((j + 1 : Nat) : Int) := by rw [wrap_i64 (by omega) (by omega)]; omega
      simp only [f3_r10, go_sem, ↓reduceIte, Nat.reduceEqDiff, z9, e9]
      refine ⟨l.length - (j + 1), by omega, j + 1, rfl, by omega, k1.trans (k2.less k1.n), z0, z1, z2, ?_, rfl⟩
      rw [List.take_add_one, List.getElem?_eq_getElem hjl, Option.toList_some, List.flatMap_append]
      simp
    · have hje : j = l.length := by omega
      subst hje
      rw [List.take_length] at z8
      simp only [Int.lt_irrefl, decide_false, Bool.false_eq_true, ↓reduceIte]
      refine WS_of_exit ?_
      simp only [go_sem, ↓reduceIte]
      refine WS_of_seq (WS_of_seq (WS_of_ops ?_))
      simp only [f3_r12, go_sem, ↓reduceIte, Nat.reduceEqDiff]
      refine WS_of_block (WS_of_loop (fun m y h2 => ∃ i, m = t.length - i ∧ i ≤ t.length ∧ h2 = h1 ∧ (∀ u ∈ t.take i, u.length ≤ 400) ∧
        y 0 = x0 ∧ y 1 = x1 ∧ y 2 = x2 ∧ y 8 = .str (l.flatMap num) ∧ y 10 = .int .i64 (i : Nat)) ?_ t.length ?_)
      · rintro m y h2 ⟨i, rfl, hi, rfl, hsm, y0, y1, y2, y8, y10⟩
        show WS E0 f3_l17 _ _ _ _
        refine WS_of_seq (WS_of_seq (WS_of_ops ?_))
        simp only [f3_r13, go_sem, ↓reduceIte, Nat.reduceEqDiff, y1, y10, d1.len]
        refine WS_of_cond ?_
        simp only [go_sem, ↓reduceIte]
        by_cases hil : i < t.length
        · have e1 : (i : Int) < (t.length : Int) := by omega
          simp only [e1, decide_true, ↓reduceIte]
          refine WS_of_skip ?_
          simp only [go_sem]
          obtain ⟨p, p1, p2⟩ := d1.at hil .i64
          refine WS_of_seq (WS_of_block (WS_of_seq (WS_of_ops ?_)))
          simp only [f3_r14, go_sem, ↓reduceIte, Nat.reduceEqDiff, y1, y10, p1, p2]
          refine WS_of_cond ?_
          simp only [go_sem, ↓reduceIte]
          by_cases c4 : 400 < t[i].length
          · have c4' : (400 : Int) < (t[i].length : Int) := by omega
            simp only [c4', decide_true, ↓reduceIte]
            refine WS_of_seq (WS_of_ops ?_)
            simp only [f3_r15, go_sem, ↓reduceIte]
            refine WS_of_ret ?_
            simp only [go_sem, f3_a, ↓reduceIte, Nat.reduceEqDiff]
          have c4' : ¬ (400 : Int) < (t[i].length : Int) := by omega
          simp only [c4', decide_false, ↓reduceIte, Bool.false_eq_true]
          refine WS_of_skip ?_
          simp only [go_sem]
          refine WS_of_ops ?_
          have e9 : IntKind.i64.wrap ((i : Int) + 1) = ((i + 1 : Nat) : Int) := by rw [wrap_i64 (by omega) (by omega)]; omega
          simp only [f3_r16, go_sem, ↓reduceIte, Nat.reduceEqDiff, y10, e9]
          refine ⟨t.length - (i + 1), by omega, i + 1, rfl, by omega, trivial, ?_, y0, y1, y2, y8, rfl⟩
          intro u hu
          rw [List.take_add_one, List.getElem?_eq_getElem hil, Option.toList_some] at hu
          rcases List.mem_append.1 hu with hu | hu
          · exact hsm u hu
          · rw [List.mem_singleton.1 hu]; omega
        · have hie : i = t.length := by omega
          subst hie
          rw [List.take_length] at hsm
          simp only [Int.lt_irrefl, decide_false, Bool.false_eq_true, ↓reduceIte]
          refine WS_of_exit ?_
          simp only [go_sem, ↓reduceIte]
          exact puts_tail wf k1 b0 t0 b1 t1 b2 t2 hl (by omega) (by omega) hsm (by omega) y0 y1 y2 y8
      · refine ⟨0, rfl, by omega, rfl, by simp, ?_, ?_, ?_, ?_, ?_⟩ <;> simp only [go_sem, ↓reduceIte, Nat.reduceEqDiff, z0, z1, z2, z8] <;> rfl
  · refine ⟨0, rfl, by omega, Keep.refl _ _, ?_, ?_, ?_, ?_, ?_⟩ <;> simp only [go_sem, ↓reduceIte, Nat.reduceEqDiff] <;> rfl
end Go.Proofs.Ythhibhhpcjggnab.Ev.C
