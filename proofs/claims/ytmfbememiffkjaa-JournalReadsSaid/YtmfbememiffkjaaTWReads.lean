/- The law JournalReads, walked. -/
import Derived.Test.YtmfbememiffkjaaTJE
namespace Go.Proofs.Ytmfbememiffkjaa.Ev.C
open Go Go.Proofs.Ytmfbememiffkjaa.Ev
set_option linter.unusedSimpArgs false
set_option linter.unusedVariables false
structure Lay where
  kind : Nat
  epoch : Nat
  nr : Nat
  size : Nat
  b : List UInt8
def LayR (h : H) (us : List AV) (a : Lay) : Prop :=
  ∃ ub, us = [.int .u8 (a.kind : Int), .int .u8 (a.epoch : Int), .int .u8 (a.nr : Int), .int .u16 (a.size : Int), ub] ∧ BytesR h [ub] a.b ∧ a.kind < 256 ∧ a.epoch < 256 ∧ a.nr < 256 ∧ a.size < 65536
theorem LayR.stab (h h' : H) (us : List AV) (a : Lay) (r : LayR h us a) (k : Keep (Old h.n) h h') : LayR h' us a := by
  obtain ⟨ub, e, rb, w⟩ := r
  exact ⟨ub, e, BytesR.stab _ _ _ _ rb k, w⟩
theorem LayR.conv (h : H) (us : List AV) (a : Int × Int × Int × Int × List UInt8 × Unit)
    (r : ∃ u1 u2, us = u1 ++ u2 ∧ u1.length = 1 ∧ (u1 = [.int .u8 a.1] ∧ (Lit.int .u8 a.1).wf = true) ∧ ∃ u3 u4, u2 = u3 ++ u4 ∧ u3.length = 1 ∧ (u3 = [.int .u8 a.2.1] ∧ (Lit.int .u8 a.2.1).wf = true) ∧
      ∃ u5 u6, u4 = u5 ++ u6 ∧ u5.length = 1 ∧ (u5 = [.int .u8 a.2.2.1] ∧ (Lit.int .u8 a.2.2.1).wf = true) ∧ ∃ u7 u8, u6 = u7 ++ u8 ∧ u7.length = 1 ∧ (u7 = [.int .u16 a.2.2.2.1] ∧ (Lit.int .u16 a.2.2.2.1).wf = true) ∧
      ∃ u9 u10, u8 = u9 ++ u10 ∧ u9.length = 1 ∧ BytesR h u9 a.2.2.2.2.1 ∧ u10 = []) : ∃ b, LayR h us b := by
  obtain ⟨u1, u2, rfl, -, ⟨rfl, w1⟩, u3, u4, rfl, -, ⟨rfl, w2⟩, u5, u6, rfl, -, ⟨rfl, w3⟩, u7, u8, rfl, -, ⟨rfl, w4⟩, u9, u10, rfl, h9, r9, rfl⟩ := r
  obtain ⟨x1, y1⟩ := u8_arg w1
  obtain ⟨x2, y2⟩ := u8_arg w2
  obtain ⟨x3, y3⟩ := u8_arg w3
  obtain ⟨x4, y4⟩ := u16_arg w4
  match u9, h9 with
  | [ub], _ =>
    refine ⟨⟨a.1.toNat, a.2.1.toNat, a.2.2.1.toNat, a.2.2.2.1.toNat, a.2.2.2.2.1⟩, ub, ?_, r9, ?_, ?_, ?_, ?_⟩
    · simp only [Int.toNat_of_nonneg x1, Int.toNat_of_nonneg x2, Int.toNat_of_nonneg x3, Int.toNat_of_nonneg x4]; rfl
    all_goals (simp only; omega)
theorem lays_get {h : H} {v : AV} {al : List Lay} (s : SliceR 5 LayR h [v] al) {i : Nat} (hi : i < al.length) :
    ∃ o q ub, indexAddrA 5 v (.int .i64 (i : Int)) = some (.ptr o q) ∧ (Bytes h ub al[i].b ∧ Slot (Old h.n) h ub) ∧ (al[i].kind < 256 ∧ al[i].epoch < 256 ∧ al[i].nr < 256 ∧ al[i].size < 65536) ∧
      ∀ h', Keep (Old h.n) h h' → loadA h' false 1 (.ptr o (q + 0)) = some (.int .u8 (al[i].kind : Int)) ∧ loadA h' false 1 (.ptr o (q + 1)) = some (.int .u8 (al[i].epoch : Int)) ∧ loadA h' false 1 (.ptr o (q + 2)) = some (.int .u8 (al[i].nr : Int)) ∧
        loadA h' false 1 (.ptr o (q + 3)) = some (.int .u16 (al[i].size : Int)) ∧ loadA h' false 1 (.ptr o (q + 4)) = some ub := by
  obtain ⟨o, q, us, e, hl, ⟨ub, rfl, rb, w⟩, ld⟩ := s.get (by decide) hi .i64
  exact ⟨o, q, ub, e, bytesR_get rb, w, fun h' k => ⟨ld h' k 0 _ rfl, ld h' k 1 _ rfl, ld h' k 2 _ rfl, ld h' k 3 _ rfl, ld h' k 4 _ rfl⟩⟩
theorem jrun_small {sc : Nat → Sec} {to ep : Nat} (hl : ∀ i, i < to → (sc i).length = 64) : ∀ (f fr : Nat) (K : List Sec), (∀ b ∈ K, b.length ≤ 4096) → ∀ b ∈ (jrun sc to ep f fr K).1, b.length ≤ 4096
  | 0, fr, K, h => h
  | f + 1, fr, K, h => by
    unfold jrun
    cases e : jnext sc fr to ep K.length with
    | none => exact h
    | some b =>
      refine jrun_small hl f _ _ fun x hx => ?_
      rcases List.mem_append.1 hx with y | y
      · exact h x y
      · simp only [List.mem_cons, List.not_mem_nil, or_false] at y
        subst y
        exact (jnext_some e hl).2.1
theorem sectors_fun {D : Dk} (ok : D.Ok) : (fun i => ((List.range D.kept.length).map (findS D)).getD i []) = findS D := by
  funext i
  by_cases c : i < D.kept.length
  · rw [List.getD_eq_getElem?_getD]
    simp [c]
  · rw [List.getD_eq_getElem?_getD]
    simp only [List.getElem?_map, List.getElem?_range, c]
    have : findS D i = [] := by
      unfold findS
      have hn : D.waits.reverse.find? (fun w => w.1 == i) = none := by
        rw [List.find?_eq_none]
        intro w hw
        have := (ok.w w (by simpa using hw)).1
        simp only [beq_iff_eq]
        omega
      rw [hn, List.getD_eq_getElem?_getD, List.getElem?_eq_none (by omega)]
      rfl
    rw [this, List.getElem?_eq_none (by simp; omega)]
    rfl
abbrev BRr : AOut → H → Prop := fun r _ => r = .val (.bool true)
structure RdA (h0 : H) (n o j : Nat) (h2 : H) : Prop where
  k : Keep (Old h0.n) h0 h2
  ex : ∃ D gs, DiskAt h2 o gs D ∧ Live n j D ∧ ∀ g ∈ gs, h0.n ≤ g
theorem reads_answer {h : H} {x0 : AV} {l : List Lay} {ep from' to' : Nat} (wf : h.Wf) (sa : SliceR 5 LayR h [x0] l) (hep : ep < 256) (hfr : from' < 256) (hto : to' < 256) :
    WCall E0 8 [x0, .int .u8 (ep : Int), .int .u8 (from' : Int), .int .u8 (to' : Int)] h BRr := by
  refine WCall_ws (ovn 8) U8 (by simp [f8_a]) ?_
  show WS E0 f8_c [] _ _ _
  have hl := sa.len.1
  have hmx : l.length ≤ maxLen := sa.len.2
  simp only [maxLen] at hmx
  refine WS_of_seq (WS_of_ops ?_)
  simp only [f8_r0, go_sem, ↓reduceIte]
  refine WS_of_seq (WS_of_ops ?_)
  simp only [f8_r1, go_sem, ↓reduceIte, Nat.reduceEqDiff]
  refine WCall_ov (g := yes) rfl rfl ?_
  simp only [go_sem, ↓reduceIte, Nat.reduceEqDiff]
  refine WS_of_seq (WS_of_seq (WS_of_ops ?_))
  simp only [f8_r2, go_sem, ↓reduceIte, Nat.reduceEqDiff]
  refine WS_of_cond ?_
  simp only [go_sem, ↓reduceIte, Nat.reduceEqDiff, Bool.not_true, Bool.false_eq_true]
  refine WS_of_skip ?_
  simp only [go_sem]
  refine WS_of_seq (WS_of_seq (WS_of_ops ?_))
  by_cases cl : 30 < l.length
  · have cl' : (30 : Int) < (l.length : Int) := by omega
    simp only [f8_r4, go_sem, ↓reduceIte, Nat.reduceEqDiff, hl, cl', decide_true, Bool.true_eq_false]
    refine WS_of_cond ?_
    simp only [go_sem, ↓reduceIte]
    refine WS_of_seq (WS_of_ops ?_)
    simp only [f8_r5, go_sem, ↓reduceIte, Nat.reduceEqDiff]
    refine WS_of_ret ?_
    simp only [f8_a, go_sem, ↓reduceIte, Nat.reduceEqDiff]
  have cl' : ¬ (30 : Int) < (l.length : Int) := by omega
  by_cases c0 : l.length = 0
  · have c0' : decide ((l.length : Int) = 0) = true := decide_eq_true (by omega)
    simp only [f8_r4, go_sem, ↓reduceIte, Nat.reduceEqDiff, hl, cl', c0', decide_false, Bool.false_eq_true]
    refine WS_of_cond ?_
    simp only [go_sem, ↓reduceIte]
    refine WS_of_seq (WS_of_ops ?_)
    simp only [f8_r5, go_sem, ↓reduceIte, Nat.reduceEqDiff]
    refine WS_of_ret ?_
    simp only [f8_a, go_sem, ↓reduceIte, Nat.reduceEqDiff]
  have c0' : decide ((l.length : Int) = 0) = false := decide_eq_false (by omega)
  simp only [f8_r4, go_sem, ↓reduceIte, Nat.reduceEqDiff, hl, cl', c0', decide_false, Bool.false_eq_true]
  refine WS_of_cond ?_
  simp only [go_sem, ↓reduceIte, Bool.false_eq_true]
  refine WS_of_skip ?_
  simp only [go_sem]
  refine WS_of_seq (WS_of_ops ?_)
  simp only [f8_r6, go_sem, ↓reduceIte, Nat.reduceEqDiff, hl]
  refine (new_spec wf (n := l.length) (by omega) (by omega)).mono ?_
  rintro r h1 ⟨o, gs1, rfl, d1, k1, hg1⟩
  have wf1 := k1.wf wf
  simp only [go_sem, ↓reduceIte, Nat.reduceEqDiff, List.getElem?_cons_zero, List.getElem?_cons_succ]
  refine WS_of_seq (WS_of_seq (WS_of_ops ?_))
  simp only [f8_r7, go_sem, ↓reduceIte, Nat.reduceEqDiff, decide_true, Bool.not_true]
  refine WS_of_cond ?_
  simp only [go_sem, ↓reduceIte, Bool.false_eq_true]
  refine WS_of_skip ?_
  simp only [go_sem]
  refine WS_of_seq (WS_of_seq (WS_of_ops ?_))
  simp only [f8_r9, go_sem, ↓reduceIte, Nat.reduceEqDiff]
  refine WS_of_block (WS_of_loop (fun m s h2 => ∃ j, j + m = l.length ∧ s 0 = x0 ∧ s 1 = .int .u8 (ep : Int) ∧ s 2 = .int .u8 (from' : Int) ∧ s 3 = .int .u8 (to' : Int) ∧ s 10 = .ptr o 0 ∧ s 12 = .int .i64 (j : Int) ∧ RdA h l.length o j h2) ?_ l.length ?_)
  · rintro m s0 h2 ⟨j, hj, s0, s1, s2, s3, s10, s12, ea⟩
    have wf2 := ea.k.wf wf
    obtain ⟨D, gs, d2, lv, hgs⟩ := ea.ex
    show WS E0 f8_l21 [] _ _ _
    refine WS_of_seq (WS_of_seq (WS_of_ops ?_))
    by_cases c : j < l.length
    case neg =>
      have c1 : ¬ (j : Int) < (l.length : Int) := by omega
      simp only [f8_r10, go_sem, ↓reduceIte, Nat.reduceEqDiff, s0, s12, hl, c1, decide_false]
      refine WS_of_cond ?_
      simp only [go_sem, ↓reduceIte, Bool.false_eq_true]
      refine WS_of_exit ?_
      simp only [go_sem, ↓reduceIte]
      have w1 : IntKind.i64.wrap (from' : Int) = (from' : Int) := wrap_i64 (by omega) (by omega)
      have w2 : IntKind.i64.wrap ((l.length : Int) + 1) = ((l.length + 1 : Nat) : Int) := by rw [wrap_i64 (by omega) (by omega)]; omega
      have w3 : Int.tmod (from' : Int) ((l.length + 1 : Nat) : Int) = ((from' % (l.length + 1) : Nat) : Int) := by rw [Int.tmod_eq_emod_of_nonneg (by omega)]; omega
      have w4 : ¬ ((l.length + 1 : Nat) : Int) = 0 := by omega
      generalize ha : from' % (l.length + 1) = a at w3
      have hal : a ≤ l.length := by have := Nat.mod_lt from' (show 0 < l.length + 1 by omega); omega
      have w5 : IntKind.i64.wrap (to' : Int) = (to' : Int) := wrap_i64 (by omega) (by omega)
      have w6 : IntKind.i64.wrap ((l.length : Int) - (a : Int)) = ((l.length - a : Nat) : Int) := by rw [wrap_i64 (by omega) (by omega)]; omega
      have w7 : IntKind.i64.wrap (((l.length - a : Nat) : Int) + 1) = ((l.length - a + 1 : Nat) : Int) := by rw [wrap_i64 (by omega) (by omega)]; omega
      have w8 : Int.tmod (to' : Int) ((l.length - a + 1 : Nat) : Int) = ((to' % (l.length - a + 1) : Nat) : Int) := by rw [Int.tmod_eq_emod_of_nonneg (by omega)]; omega
      have w9 : ¬ ((l.length - a + 1 : Nat) : Int) = 0 := by omega
      generalize ht : to' % (l.length - a + 1) = t at w8
      have htl : t ≤ l.length - a := by have := Nat.mod_lt to' (show 0 < l.length - a + 1 by omega); omega
      have w10 : IntKind.i64.wrap ((a : Int) + (t : Int)) = ((a + t : Nat) : Int) := by rw [wrap_i64 (by omega) (by omega)]; omega
      have w11 : IntKind.u64.wrap (ep : Int) = (ep : Int) := wrap_u64 (by omega) (by omega)
      have hkl := lv.kl
      have ok := d2.ok
      have hsl : ∀ i, i < a + t → (findS D i).length = 64 := fun i hi => findS_len ok (by omega)
      have hsm : ∀ b ∈ (jopen (findS D) a (a + t) ep).1, b.length ≤ 4096 := jrun_small hsl _ _ _ (by simp)
      refine WS_of_seq (WS_of_ops ?_)
      simp only [f8_r22, go_sem, ↓reduceIte, Nat.reduceEqDiff, s2, w1, s0, hl, w2, w3, w4]
      refine WS_of_seq (WS_of_ops ?_)
      simp only [f8_r23, go_sem, ↓reduceIte, Nat.reduceEqDiff, s3, w5, s0, hl, w6, w7, w8, w9, w10]
      have op := JW.first (N := h.n) (K := (jopen (findS D) a (a + t) ep).1) (p := (jopen (findS D) a (a + t) ep).2) (fr := a) (to := a + t) (ep := ep) wf2 ⟨gs, d2, hgs⟩ ea.k.n lv.de (by omega) (by omega) (by have := lv.wl; omega) (by omega) rfl
      refine WS_of_seq (WS_of_ops ?_)
      simp only [f8_r24, go_sem, ↓reduceIte, Nat.reduceEqDiff, s10, s1, w11]
      refine op.mono ?_
      rintro r h3 ⟨ol, rfl, jw, k3, hp⟩
      have wf3 := k3.wf wf2
      have d3 := d2.keep wf2 k3
      simp only [go_sem, ↓reduceIte, Nat.reduceEqDiff, List.getElem?_cons_zero, List.getElem?_cons_succ]
      refine WS_of_seq (WS_of_ops ?_)
      simp only [f8_r25, go_sem, ↓reduceIte, Nat.reduceEqDiff, s10, s1, w11]
      refine (sectors_spec wf3 d3 lv.de (by have := lv.wl; omega)).mono ?_
      rintro r h4 ⟨v4, rfl, st4, ow4, k4⟩
      have wf4 := k4.wf wf3
      have rr := rrecords_spec (fr := a) (to := a + t) (ep := ep) wf4 st4 (ow4.slot wf4) (fun b hb => by
        obtain ⟨i, hi, rfl⟩ := List.mem_map.1 hb
        exact findS_len ok (List.mem_range.1 hi)) (by omega) (by simp; omega) (by simp; omega) (by omega)
      rw [sectors_fun ok] at rr
      simp only [go_sem, ↓reduceIte, Nat.reduceEqDiff, s1, w11]
      refine rr.mono ?_
      rintro r h5 ⟨v5, rfl, st5, ow5, k5, hp5, hl5⟩
      have wf5 := k5.wf wf4
      have jw5 := (jw.keep wf3 k4).keep wf4 k5
      simp only [go_sem, ↓reduceIte, Nat.reduceEqDiff, List.getElem?_cons_zero, List.getElem?_cons_succ]
      refine WS_of_seq (WS_of_ops ?_)
      simp only [f8_r26, go_sem, ↓reduceIte, Nat.reduceEqDiff, decide_true]
      refine (jw5.records wf5 (by omega) (fun x hx => by have := hsm x hx; omega)).mono ?_
      rintro r h6 ⟨v6, vs6, rfl, br6, k6⟩
      have wf6 := k6.wf wf5
      simp only [go_sem, ↓reduceIte, Nat.reduceEqDiff]
      refine (same_spec br6 (st5.keep k6 (ow5.slot wf5)) (by omega) (by omega)).mono ?_
      rintro r h7 ⟨hh, rfl⟩
      have hh' := hh.symm
      subst hh'
      simp only [go_sem, ↓reduceIte, Nat.reduceEqDiff, decide_true]
      refine ((jw5.keep wf5 k6).room).mono ?_
      rintro r h7 ⟨hh, rfl⟩
      have hh' := hh.symm
      subst hh'
      have w12 : IntKind.i64.wrap (((a + t : Nat) : Int) - ((jopen (findS D) a (a + t) ep).2 : Int)) = ((a + t : Nat) : Int) - ((jopen (findS D) a (a + t) ep).2 : Int) := wrap_i64 (by omega) (by omega)
      simp only [go_sem, ↓reduceIte, Nat.reduceEqDiff, w12, decide_true]
      refine WS_of_ret ?_
      simp only [f8_a, go_sem, ↓reduceIte, Nat.reduceEqDiff]
    have c1 : (j : Int) < (l.length : Int) := by omega
    simp only [f8_r10, go_sem, ↓reduceIte, Nat.reduceEqDiff, s0, s12, hl, c1, decide_true]
    refine WS_of_cond ?_
    simp only [go_sem, ↓reduceIte]
    refine WS_of_skip ?_
    simp only [go_sem]
    obtain ⟨q0, q, ub, ei, ⟨bb, sb⟩, ⟨wk, we, wn, ws⟩, ld⟩ := lays_get sa c
    obtain ⟨ld0, ld1, ld2, ld3, ld4⟩ := ld h2 ea.k
    have bb2 := bb.keep ea.k sb
    have hbl : lenSA ub = some l[j].b.length := bb2.len
    have hbs := bb2.str
    refine WS_of_seq (WS_of_block (WS_of_seq (WS_of_seq (WS_of_ops ?_))))
    by_cases c6 : 60 < l[j].b.length
    · have c6' : (60 : Int) < (l[j].b.length : Int) := by omega
      simp only [f8_r11, go_sem, ↓reduceIte, Nat.reduceEqDiff, s0, s12, ei, ld4, hbl, c6', decide_true]
      refine WS_of_cond ?_
      simp only [go_sem, ↓reduceIte]
      refine WS_of_seq (WS_of_ops ?_)
      simp only [f8_r12, go_sem, ↓reduceIte, Nat.reduceEqDiff]
      refine WS_of_ret ?_
      simp only [f8_a, go_sem, ↓reduceIte, Nat.reduceEqDiff]
    have c6' : ¬ (60 : Int) < (l[j].b.length : Int) := by omega
    simp only [f8_r11, go_sem, ↓reduceIte, Nat.reduceEqDiff, s0, s12, ei, ld4, hbl, c6', decide_false]
    refine WS_of_cond ?_
    simp only [go_sem, ↓reduceIte, Bool.false_eq_true]
    refine WS_of_skip ?_
    simp only [go_sem]
    refine WS_of_seq (WS_of_ops ?_)
    simp only [f8_r13, go_sem, ↓reduceIte, Nat.reduceEqDiff, s0, s12, ei, ld4, hbs]
    have hrem : Int.tmod (l[j].kind : Int) 3 = ((l[j].kind % 3 : Nat) : Int) := by rw [Int.tmod_eq_emod_of_nonneg (by omega)]; omega
    refine WS_of_seq (WS_of_seq (WS_of_ops ?_))
    simp only [f8_r14, go_sem, ↓reduceIte, Nat.reduceEqDiff, s0, s12, ei, ld0, hrem, (by decide : ¬ (3 : Int) = 0)]
    refine WS_of_block (WS_of_seq (WS_of_ops ?_))
    by_cases k0 : l[j].kind % 3 = 0
    · have k0' : ((l[j].kind % 3 : Nat) : Int) = 0 := by omega
      simp only [f8_r15, go_sem, ↓reduceIte, Nat.reduceEqDiff, k0', decide_true]
      refine WS_of_cond ?_
      simp only [go_sem, ↓reduceIte]
      have v1 : IntKind.u64.wrap (l[j].epoch : Int) = (l[j].epoch : Int) := wrap_u64 (by omega) (by omega)
      have v2 : IntKind.u64.wrap (l[j].nr : Int) = (l[j].nr : Int) := wrap_u64 (by omega) (by omega)
      have v3 : IntKind.i64.wrap (l[j].size : Int) = (l[j].size : Int) := wrap_i64 (by omega) (by omega)
      refine WS_of_draw ?_
      simp only [f8_r16, go_sem, ↓reduceIte, Nat.reduceEqDiff, and_self, true_and, List.filter_cons, List.filter_nil, Nat.testBit, Nat.reduceShiftRight, Nat.reduceAnd, Nat.reduceBNe, Bool.not_false, Bool.not_true, Bool.false_eq_true, bne_self_eq_false, eq_self, s0, s12, ei, ld1, ld2, ld3, v1, v2, v3]
      refine (rhead_spec (ep := l[j].epoch) (k := l[j].nr) (n := l[j].size) wf2 (by omega) (by omega) (by omega)).mono ?_
      rintro r h3 ⟨rfl, k3⟩
      have wf3 := k3.wf wf2
      have ea3 : RdA h l.length o j h3 := ⟨ea.k.then (Nat.le_refl _) k3, D, gs, d2.keep wf2 k3, lv, hgs⟩
      have d3 := d2.keep wf2 k3
      obtain ⟨ld10, ld11, ld12, ld13, ld14⟩ := ld h3 ea3.k
      clear bb2 hbl hbs
      simp only [go_sem, ↓reduceIte, Nat.reduceEqDiff, and_self, true_and, List.filter_cons, List.filter_nil, Nat.testBit, Nat.reduceShiftRight, Nat.reduceAnd, Nat.reduceBNe, Bool.not_false, Bool.not_true, Bool.false_eq_true, bne_self_eq_false, eq_self, s0, s12, ei, ld1, ld2, ld3, ld11, ld12, ld13, v1, v2, v3]
      generalize hD : pad (headB l[j].epoch l[j].nr l[j].size) = tA
      refine WS_of_ops ?_
      have knA : Keep (Old h3.n) h3 (h3.new (byteCells tA)) := Keep.new (Nat.le_refl _) _
      have wfnA := knA.wf wf3
      have bnA : Bytes (h3.new (byteCells tA)) (.slice h3.n 0 tA.length 1) tA := by
        have := Sl.new (es := 1) (n := tA.length) wf3 (vs := byteCells tA) (by simp [byteCells])
        rw [List.take_of_length_le (by simp [byteCells])] at this
        exact this
      have onA : Own h3.n (h3.new (byteCells tA)) (.slice h3.n 0 tA.length 1) := Own.new wf3 (Nat.le_refl _) (by simp [byteCells])
      have dnA := d3.keep wf3 knA
      have snA := own_apart wfnA onA knA (gs := gs) (fun g hg => ⟨d3.lt wf3 g hg, d3.root g hg⟩)
      simp only [f8_r19, go_sem, ↓reduceIte, Nat.reduceEqDiff, s10, s12]
      refine (write_spec wfnA dnA (j : Int) bnA snA (by have := lv.wl; omega)).mono ?_
      rintro r h4 ⟨gs4, rfl, d4, k4, n4⟩
      have wf4 := k4.wf wfnA
      have kF : Keep (Old h.n) h h4 := (ea3.k.trans (knA.weaken fun q hq => Nat.lt_of_lt_of_le hq ea3.k.n)).trans (k4.old wfnA (Nat.le_trans ea3.k.n knA.n) hgs)
      have lv4 := (lv.write (j : Int) tA).1
      simp only [go_sem, ↓reduceIte, Nat.reduceEqDiff]
      refine WS_of_ops ?_
      have hw : IntKind.i64.wrap ((j : Int) + 1) = ((j + 1 : Nat) : Int) := by rw [wrap_i64 (by omega) (by omega)]; omega
      simp only [f8_r20, go_sem, ↓reduceIte, Nat.reduceEqDiff, s12, hw]
      refine ⟨m - 1, by omega, j + 1, by omega, s0, s1, s2, s3, s10, rfl, kF, _, gs4, d4, lv4, fun g hg => ?_⟩
      rcases n4 g hg with x | x
      · exact hgs g x
      · exact Nat.le_trans (Nat.le_trans ea3.k.n knA.n) x
    have k0' : ¬ ((l[j].kind % 3 : Nat) : Int) = 0 := by omega
    simp only [f8_r15, go_sem, ↓reduceIte, Nat.reduceEqDiff, k0', decide_false]
    refine WS_of_cond ?_
    simp only [go_sem, ↓reduceIte, Bool.false_eq_true]
    refine WS_of_seq (WS_of_ops ?_)
    by_cases k2 : l[j].kind % 3 = 2
    · have k2' : ((l[j].kind % 3 : Nat) : Int) = 2 := by omega
      simp only [f8_r17, go_sem, ↓reduceIte, Nat.reduceEqDiff, k2', decide_true]
      refine WS_of_cond ?_
      simp only [go_sem, ↓reduceIte]
      refine WS_of_ops ?_
      simp only [f8_r18, go_sem, ↓reduceIte, Nat.reduceEqDiff]
      refine ⟨by rw [bigv]; simp only [List.length_cons, List.length_nil]; omega, ?_⟩
      generalize ([0] ++ l[j].b : Sec) = tB
      refine WS_of_ops ?_
      have knB : Keep (Old h2.n) h2 (h2.new (byteCells tB)) := Keep.new (Nat.le_refl _) _
      have wfnB := knB.wf wf2
      have bnB : Bytes (h2.new (byteCells tB)) (.slice h2.n 0 tB.length 1) tB := by
        have := Sl.new (es := 1) (n := tB.length) wf2 (vs := byteCells tB) (by simp [byteCells])
        rw [List.take_of_length_le (by simp [byteCells])] at this
        exact this
      have onB : Own h2.n (h2.new (byteCells tB)) (.slice h2.n 0 tB.length 1) := Own.new wf2 (Nat.le_refl _) (by simp [byteCells])
      have dnB := d2.keep wf2 knB
      have snB := own_apart wfnB onB knB (gs := gs) (fun g hg => ⟨d2.lt wf2 g hg, d2.root g hg⟩)
      simp only [f8_r19, go_sem, ↓reduceIte, Nat.reduceEqDiff, s10, s12]
      refine (write_spec wfnB dnB (j : Int) bnB snB (by have := lv.wl; omega)).mono ?_
      rintro r h4 ⟨gs4, rfl, d4, k4, n4⟩
      have wf4 := k4.wf wfnB
      have kF : Keep (Old h.n) h h4 := (ea.k.trans (knB.weaken fun q hq => Nat.lt_of_lt_of_le hq ea.k.n)).trans (k4.old wfnB (Nat.le_trans ea.k.n knB.n) hgs)
      have lv4 := (lv.write (j : Int) tB).1
      simp only [go_sem, ↓reduceIte, Nat.reduceEqDiff]
      refine WS_of_ops ?_
      have hw : IntKind.i64.wrap ((j : Int) + 1) = ((j + 1 : Nat) : Int) := by rw [wrap_i64 (by omega) (by omega)]; omega
      simp only [f8_r20, go_sem, ↓reduceIte, Nat.reduceEqDiff, s12, hw]
      refine ⟨m - 1, by omega, j + 1, by omega, s0, s1, s2, s3, s10, rfl, kF, _, gs4, d4, lv4, fun g hg => ?_⟩
      rcases n4 g hg with x | x
      · exact hgs g x
      · exact Nat.le_trans (Nat.le_trans ea.k.n knB.n) x
    have k2' : ¬ ((l[j].kind % 3 : Nat) : Int) = 2 := by omega
    simp only [f8_r17, go_sem, ↓reduceIte, Nat.reduceEqDiff, k2', decide_false]
    refine WS_of_cond ?_
    simp only [go_sem, ↓reduceIte, Bool.false_eq_true]
    refine WS_of_skip ?_
    simp only [go_sem]
    generalize l[j].b = tC
    refine WS_of_ops ?_
    have knC : Keep (Old h2.n) h2 (h2.new (byteCells tC)) := Keep.new (Nat.le_refl _) _
    have wfnC := knC.wf wf2
    have bnC : Bytes (h2.new (byteCells tC)) (.slice h2.n 0 tC.length 1) tC := by
      have := Sl.new (es := 1) (n := tC.length) wf2 (vs := byteCells tC) (by simp [byteCells])
      rw [List.take_of_length_le (by simp [byteCells])] at this
      exact this
    have onC : Own h2.n (h2.new (byteCells tC)) (.slice h2.n 0 tC.length 1) := Own.new wf2 (Nat.le_refl _) (by simp [byteCells])
    have dnC := d2.keep wf2 knC
    have snC := own_apart wfnC onC knC (gs := gs) (fun g hg => ⟨d2.lt wf2 g hg, d2.root g hg⟩)
    simp only [f8_r19, go_sem, ↓reduceIte, Nat.reduceEqDiff, s10, s12]
    refine (write_spec wfnC dnC (j : Int) bnC snC (by have := lv.wl; omega)).mono ?_
    rintro r h4 ⟨gs4, rfl, d4, k4, n4⟩
    have wf4 := k4.wf wfnC
    have kF : Keep (Old h.n) h h4 := (ea.k.trans (knC.weaken fun q hq => Nat.lt_of_lt_of_le hq ea.k.n)).trans (k4.old wfnC (Nat.le_trans ea.k.n knC.n) hgs)
    have lv4 := (lv.write (j : Int) tC).1
    simp only [go_sem, ↓reduceIte, Nat.reduceEqDiff]
    refine WS_of_ops ?_
    have hw : IntKind.i64.wrap ((j : Int) + 1) = ((j + 1 : Nat) : Int) := by rw [wrap_i64 (by omega) (by omega)]; omega
    simp only [f8_r20, go_sem, ↓reduceIte, Nat.reduceEqDiff, s12, hw]
    refine ⟨m - 1, by omega, j + 1, by omega, s0, s1, s2, s3, s10, rfl, kF, _, gs4, d4, lv4, fun g hg => ?_⟩
    rcases n4 g hg with x | x
    · exact hgs g x
    · exact Nat.le_trans (Nat.le_trans ea.k.n knC.n) x
  · exact ⟨0, by simp, rfl, rfl, rfl, rfl, rfl, rfl, k1, _, gs1, d1, ⟨by simp [Dk.new], by simp [Dk.new], rfl, rfl⟩, hg1⟩
end Go.Proofs.Ytmfbememiffkjaa.Ev.C
