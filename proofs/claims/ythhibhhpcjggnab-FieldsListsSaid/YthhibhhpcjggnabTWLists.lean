/- The walk of FieldsLists. -/
import Derived.Test.YthhibhhpcjggnabTPlainL
namespace Go.Proofs.Ythhibhhpcjggnab.Ev.C
open Go Go.Proofs.Ythhibhhpcjggnab.Ev
set_option linter.unusedSimpArgs false
set_option linter.unusedVariables false
theorem Strs.one_slot {h : H} (wf : h.Wf) (s : List UInt8) : Slot (Old (h.new [AV.str s]).n) (h.new [AV.str s]) (.slice h.n 0 1 1) :=
  ⟨by simp [H.new], fun cs g e => by rw [get_new] at e; cases e; simp [H.new]⟩
theorem lists_answer {x0 : AV} {h : H} {l : List (List UInt8)} {most : Int} (wf : h.Wf) (b0 : Strs h x0 l) (t0 : Slot (Old h.n) h x0) (hlen : l.length < 9223372036854775808)
    (hs : ∀ t ∈ l, t.length ≤ 9223372036854775807) (hm1 : -128 ≤ most) (hm2 : most ≤ 127) :
    WCall E0 7 [x0, .int .i8 most] h fun r _ => r = .val (.bool true) := by
  refine WCall_ws rfl T7 (by simp [f7_a]) ?_
  show WS E0 f7_c [] _ _ _
  refine WS_of_seq (WS_of_ops ?_)
  simp only [f7_r0, go_sem, ↓reduceIte]
  refine WS_of_seq (WS_of_ops ?_)
  simp only [f7_r1, go_sem, ↓reduceIte, Nat.reduceEqDiff]
  refine WCall_ov (g := fun args h => match args with | [] => some (.val (.bool true), h) | _ => none) rfl rfl ?_
  simp only [go_sem, ↓reduceIte, Nat.reduceEqDiff]
  refine WS_of_seq (WS_of_seq (WS_of_ops ?_))
  simp only [f7_r2, go_sem, ↓reduceIte, Nat.reduceEqDiff]
  refine WS_of_cond ?_
  simp only [go_sem, ↓reduceIte, Nat.reduceEqDiff, Bool.not_true, Bool.false_eq_true]
  refine WS_of_skip ?_
  simp only [go_sem]
  refine WS_of_seq (WS_of_seq (WS_of_ops ?_))
  simp only [f7_r4, go_sem, ↓reduceIte, Nat.reduceEqDiff, b0.len]
  refine WS_of_cond ?_
  simp only [go_sem, ↓reduceIte]
  by_cases c1 : 30 < l.length
  · have c1' : (30 : Int) < (l.length : Int) := by omega
    simp only [c1', decide_true, ↓reduceIte]
    refine WS_of_seq (WS_of_ops ?_)
    simp only [f7_r5, go_sem, ↓reduceIte]
    refine WS_of_ret ?_
    simp only [go_sem, f7_a, ↓reduceIte, Nat.reduceEqDiff]
  have c1' : ¬ (30 : Int) < (l.length : Int) := by omega
  simp only [c1', decide_false, ↓reduceIte, Bool.false_eq_true]
  refine WS_of_skip ?_
  simp only [go_sem]
  refine WS_of_seq (WS_of_ops ?_)
  have ew : IntKind.u64.wrap (l.length : Int) = (l.length : Int) := wrap_u64 (by omega) (by omega)
  simp only [f7_r6, go_sem, ↓reduceIte, Nat.reduceEqDiff, b0.len, ew]
  refine put_one wf (by omega) fun v1 h1 b1 o1 k1 => ?_
  simp only [go_sem, ↓reduceIte, Nat.reduceEqDiff, b1.str]
  refine WS_of_seq (WS_of_ops ?_)
  simp only [f7_r7, go_sem, ↓reduceIte, Nat.reduceEqDiff]
  refine WS_of_seq (WS_of_seq (WS_of_ops ?_))
  simp only [f7_r8, go_sem, ↓reduceIte, Nat.reduceEqDiff]
  refine WS_of_block (WS_of_loop (fun m s1 h2 => ∃ j, m = l.length - j ∧ j ≤ l.length ∧ (∀ t ∈ l.take j, t.length ≤ 300) ∧ Keep (Old h.n) h h2 ∧
    s1 6 = .str (num l.length ++ txts (l.take j)) ∧ s1 7 = .int .i64 ((txts (l.take j)).length : Nat) ∧ s1 8 = .int .i64 (j : Nat) ∧ s1 0 = x0 ∧ s1 1 = .int .i8 most) ?_ l.length ?_)
  · rintro m s1 h2 ⟨j, rfl, hj, hsm, qk, q6, q7, q8, q0, q1⟩
    have wf2 := qk.wf wf
    have b2 := b0.keep qk t0
    have sl2 := t0.keep qk (K' := Old h2.n) fun o ho => Nat.lt_of_lt_of_le ho qk.n
    have nl := num_len9 (x := l.length) (by omega)
    have tl := txts_len (l := l.take j) (M := 300) (by omega) hsm
    have tl2 : (l.take j).length ≤ 30 := by rw [List.length_take]; omega
    show WS E0 f7_l16 _ _ _ _
    refine WS_of_seq (WS_of_seq (WS_of_ops ?_))
    simp only [f7_r9, go_sem, ↓reduceIte, Nat.reduceEqDiff, q0, q8, b2.len]
    refine WS_of_cond ?_
    simp only [go_sem, ↓reduceIte]
    by_cases hjl : j < l.length
    · have e1 : (j : Int) < (l.length : Int) := by omega
      simp only [e1, decide_true, ↓reduceIte]
      refine WS_of_skip ?_
      simp only [go_sem]
      obtain ⟨p, p1, p2⟩ := b2.at hjl .i64
      have hsj := hs l[j] (List.getElem_mem hjl)
      refine WS_of_seq (WS_of_block (WS_of_seq (WS_of_seq (WS_of_ops ?_))))
      simp only [f7_r10, go_sem, ↓reduceIte, Nat.reduceEqDiff, q0, q8, p1, p2]
      refine WS_of_cond ?_
      simp only [go_sem, ↓reduceIte]
      by_cases c3 : 300 < l[j].length
      · have c3' : (300 : Int) < (l[j].length : Int) := by omega
        simp only [c3', decide_true, ↓reduceIte]
        refine WS_of_seq (WS_of_ops ?_)
        simp only [f7_r11, go_sem, ↓reduceIte]
        refine WS_of_ret ?_
        simp only [go_sem, f7_a, ↓reduceIte, Nat.reduceEqDiff]
      have c3' : ¬ (300 : Int) < (l[j].length : Int) := by omega
      simp only [c3', decide_false, ↓reduceIte, Bool.false_eq_true]
      refine WS_of_skip ?_
      simp only [go_sem]
      refine WS_of_seq (WS_of_ops ?_)
      simp only [f7_r12, go_sem, ↓reduceIte, Nat.reduceEqDiff, q0, q8, p1, p2]
      have kn : Keep (Old h2.n) h2 (h2.new [AV.str l[j]]) := Keep.new (Nat.le_refl _) _
      refine (texts_spec (M := 300) (kn.wf wf2) (Strs.one wf2 l[j]) (Strs.one_slot wf2 _) (by omega) (by simp; omega) (by simp)).mono ?_
      rintro x h3 ⟨w, rfl, b3, o3, k3⟩
      have et : txts [l[j]] = txt l[j] := by simp [txts]
      rw [et] at b3
      simp only [go_sem, ↓reduceIte, Nat.reduceEqDiff, b3.str]
      refine WS_of_seq (WS_of_ops ?_)
      have tj := txt_len (t := l[j]) (by omega)
      have eb : ((num l.length ++ txts (l.take j)).length + (txt l[j]).length ≤ big) = True := by
        simp only [List.length_append, big, eq_iff_iff, iff_true]; omega
      simp only [f7_r13, go_sem, ↓reduceIte, Nat.reduceEqDiff, q6, eb, true_and]
      refine WS_of_ops ?_
      have e7 : IntKind.i64.wrap (((txts (l.take j)).length : Int) + ((txt l[j]).length : Int)) = ((txts (l.take (j + 1))).length : Int) := by
        rw [txts_take hjl, List.length_append, wrap_i64 (by omega) (by omega)]; omega
      simp only [f7_r14, go_sem, ↓reduceIte, Nat.reduceEqDiff, q7, e7]
      refine WS_of_ops ?_
      have e9 : IntKind.i64.wrap ((j : Int) + 1) = ((j + 1 : Nat) : Int) := by rw [wrap_i64 (by omega) (by omega)]; omega
      simp only [f7_r15, go_sem, ↓reduceIte, Nat.reduceEqDiff, q8, e9]
      refine ⟨l.length - (j + 1), by omega, j + 1, rfl, by omega, ?_, ?_, ?_, rfl, rfl, q0, q1⟩
      · intro t ht
        rw [List.take_add_one, List.getElem?_eq_getElem hjl, Option.toList_some] at ht
        rcases List.mem_append.1 ht with ht | ht
        · exact hsm t ht
        · rw [List.mem_singleton.1 ht]; omega
      · exact qk.trans ((kn.less qk.n).trans (k3.less (Nat.le_trans qk.n kn.n)))
      · rw [txts_take hjl, List.append_assoc]
    · have hje : j = l.length := by omega
      subst hje
      simp only [Int.lt_irrefl, decide_false, Bool.false_eq_true, ↓reduceIte]
      rw [List.take_length] at hsm q6 q7 tl
      refine WS_of_exit ?_
      simp only [go_sem, ↓reduceIte]
      refine WS_of_seq (WS_of_ops ?_)
      simp only [f7_r17, go_sem, ↓reduceIte, Nat.reduceEqDiff, q0]
      refine (lists_spec wf2 b2 sl2 (M := 300) (by omega) hsm (by omega)).mono ?_
      rintro x h3 ⟨w, rfl, b3, o3, k3⟩
      have wf3 := k3.wf wf2
      simp only [go_sem, ↓reduceIte, Nat.reduceEqDiff]
      refine WS_of_seq (WS_of_ops ?_)
      simp only [f7_r18, go_sem, ↓reduceIte, Nat.reduceEqDiff]
      have ll : (lst l).length ≤ 10000 := by simp only [lst, List.length_append]; omega
      refine (open_spec wf3 b3 (o3.slot wf3) (by omega)).mono ?_
      rintro x h4 ⟨o, rfl, r4, ho, k4⟩
      have wf4 := k4.wf wf3
      have b4 := b3.keep k4 (o3.slot wf3)
      simp only [go_sem, ↓reduceIte, Nat.reduceEqDiff]
      refine WS_of_seq (WS_of_ops ?_)
      have em : IntKind.i64.wrap most = most := wrap_i64 (by omega) (by omega)
      simp only [f7_r19, go_sem, ↓reduceIte, Nat.reduceEqDiff, q1, em]
      refine (list_spec wf4 r4 (by simp only; omega) (by omega) (by omega)).mono ?_
      rintro x h5 ⟨g, rfl, b5, o5, r5, k5⟩
      have ko := k5.old wf4 (N := h3.n) k4.n (by simpa using ho)
      have b6 := b3.keep (k4.trans ko) (o3.slot wf3)
      have er := rList_lst (l := l) (by omega) (fun t ht => by have := hsm t ht; omega) [] most
      rw [List.append_nil, List.append_nil] at er
      rw [er] at b5 r5
      simp only [go_sem, ↓reduceIte, Nat.reduceEqDiff]
      refine WS_of_seq (WS_of_ops ?_)
      have emx : (if (0 : Int) > most then 0 else most) = max most 0 := by split <;> omega
      simp only [f7_r20, go_sem, ↓reduceIte, Nat.reduceEqDiff, q0, q1, b2.len, em, emx]
      refine WS_of_seq (WS_of_seq (WS_of_ops ?_))
      have es : (lst l = num l.length ++ txts l) = True := by simp [lst]
      simp only [f7_r21, go_sem, ↓reduceIte, Nat.reduceEqDiff, b6.str, q6, es, decide_true, Bool.not_true]
      refine (err_spec r5).mono ?_
      rintro x h' ⟨rfl, rfl⟩
      by_cases cf : max most 0 < (l.length : Int)
      · rw [if_pos cf] at b5 r5
        have cf' : ¬ ((l.length : Int) ≤ max most 0) := by omega
        have e13 : ¬ (((13 : Nat) : Int) = 0) := by omega
        simp only [go_sem, ↓reduceIte, Nat.reduceEqDiff, if_pos cf, cf', decide_false, e13, BEq.rfl, Bool.not_true, Bool.false_eq_true]
        refine WS_of_cond ?_
        simp only [go_sem, ↓reduceIte, Bool.false_eq_true]
        refine WS_of_skip ?_
        simp only [go_sem]
        refine WS_of_seq (WS_of_seq (WS_of_ops ?_))
        simp only [f7_r23, go_sem, ↓reduceIte, Nat.reduceEqDiff, Bool.not_false]
        refine WS_of_cond ?_
        simp only [go_sem, ↓reduceIte]
        refine WS_of_seq (WS_of_ops ?_)
        simp only [f7_r24, go_sem, ↓reduceIte, Nat.reduceEqDiff]
        refine (err_spec r5).mono ?_
        rintro x h' ⟨rfl, rfl⟩
        have e13' : ((((13 : Nat) : Int) = 13)) = True := by simp
        have e00 : ((((0 : Nat) : Int) = 0)) = True := by simp
        simp only [go_sem, ↓reduceIte, Nat.reduceEqDiff, e13', decide_true, b5.len, List.length_nil, e00]
        refine (left_spec r5).mono ?_
        rintro x h' ⟨rfl, rfl⟩
        simp only [go_sem, ↓reduceIte, Nat.reduceEqDiff, q7, decide_true]
        refine WS_of_ret ?_
        simp only [go_sem, f7_a, ↓reduceIte, Nat.reduceEqDiff]
      · rw [if_neg cf] at b5 r5
        have cf' : ((l.length : Int) ≤ max most 0) := by omega
        have e00 : ((((0 : Nat) : Int) = 0)) = True := by simp
        simp only [go_sem, ↓reduceIte, Nat.reduceEqDiff, if_neg cf, cf', decide_true, e00, BEq.rfl, Bool.not_true, Bool.false_eq_true]
        refine WS_of_cond ?_
        simp only [go_sem, ↓reduceIte, Bool.false_eq_true]
        refine WS_of_skip ?_
        simp only [go_sem]
        refine WS_of_seq (WS_of_seq (WS_of_ops ?_))
        simp only [f7_r23, go_sem, ↓reduceIte, Nat.reduceEqDiff, Bool.not_true]
        refine WS_of_cond ?_
        simp only [go_sem, ↓reduceIte, Bool.false_eq_true]
        refine WS_of_skip ?_
        simp only [go_sem]
        have b7 := b2.keep (k3.trans ((k4.less k3.n).trans (ko.less k3.n))) sl2
        refine WS_of_seq (WS_of_ops ?_)
        simp only [f7_r25, go_sem, ↓reduceIte, Nat.reduceEqDiff, b5.len, q0, b7.len, decide_true]
        refine (left_spec r5).mono ?_
        rintro x h' ⟨rfl, rfl⟩
        simp only [go_sem, ↓reduceIte, Nat.reduceEqDiff, List.length_nil, e00, decide_true]
        refine WS_of_ret ?_
        simp only [go_sem, f7_a, ↓reduceIte, Nat.reduceEqDiff]
  · refine ⟨0, rfl, by omega, by simp, k1, ?_, ?_, ?_, ?_, ?_⟩ <;> simp only [go_sem, ↓reduceIte, Nat.reduceEqDiff] <;> first | rfl | simp [txts]
end Go.Proofs.Ythhibhhpcjggnab.Ev.C
