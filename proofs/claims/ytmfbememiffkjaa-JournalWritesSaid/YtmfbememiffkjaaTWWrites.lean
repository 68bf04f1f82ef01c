/- The law JournalWrites, walked. -/
import Derived.Test.YtmfbememiffkjaaTJE
namespace Go.Proofs.Ytmfbememiffkjaa.Ev.C
open Go Go.Proofs.Ytmfbememiffkjaa.Ev
set_option linter.unusedSimpArgs false
set_option linter.unusedVariables false
abbrev BRw : AOut → H → Prop := fun r _ => r = .val (.bool true)
def secs (n : Nat) (f : Nat → Sec) : List Sec := (List.range n).map f
theorem secs_len (n : Nat) (f : Nat → Sec) : (secs n f).length = n := by simp [secs]
theorem secs_set {n i : Nat} {f : Nat → Sec} {x : Sec} (hi : i < n) : (secs n f).set i x = secs n fun k => if k = i then x else f k := by
  apply List.ext_getElem?
  intro k
  rw [List.getElem?_set]
  unfold secs
  simp only [List.length_map, List.length_range, List.getElem?_map]
  by_cases c : k < n
  · by_cases e : i = k
    · subst e; simp [hi]
    · rw [if_neg e]
      have : ¬ k = i := fun h => e h.symm
      simp [c, this]
  · have : ¬ i = k := by omega
    rw [if_neg this]
    simp [c]
theorem secs_congr {n : Nat} {f g : Nat → Sec} (h : ∀ i, i < n → f i = g i) : secs n f = secs n g := by
  unfold secs
  exact List.map_congr_left fun i hi => h i (List.mem_range.1 hi)
theorem take_succ'' {z : List Sec} {j : Nat} (c : j < z.length) : z.take (j + 1) = z.take j ++ [z[j]] := by rw [List.take_add_one, List.getElem?_eq_getElem c]; rfl
theorem jsize_few' {b : Sec} (h : b.length ≤ 300) : 1 ≤ jsize b.length ∧ jsize b.length ≤ 6 := by unfold jsize; omega
structure WrI (h0 : H) (ep fr0 T : Nat) (o ol at' j : Nat) (gv wv : AV) (K : List Sec) (D : Dk) (E1 E2 F : List Nat) (h2 : H) : Prop where
  k : Keep (Old h0.n) h0 h2
  a : J3 h0.n E1 E2 F h2 ol o at' T ep K D gv K wv (secs (T + 3) (findS D))
  cm : Calm (T + 3) D
  li : Lies (findS D) ep fr0 0 K at'
  le : at' ≤ T
  kl : K.length ≤ j
  fo : Foreign (findS D) ep at' (T + 3)
  sm : ∀ b ∈ K, b.length ≤ 300
structure WrS (s : S) (x3 : AV) (ep fr T o ol at' j : Nat) (gv wv : AV) : Prop where
  s1 : s 1 = .int .u8 (fr : Int)
  s2 : s 2 = .int .u64 (ep : Int)
  s3 : s 3 = x3
  s11 : s 11 = .int .i64 (T : Int)
  s12 : s 12 = .ptr o 0
  s14 : s 14 = .ptr ol 0
  s16 : s 16 = wv
  s17 : s 17 = .int .i64 (at' : Int)
  s18 : s 18 = gv
  s19 : s 19 = .int .i64 (j : Int)
theorem writes_tail {h0 h5 : H} {x3 gv wv sv : AV} {l : List Sec} {ep fr fr0 T o ol at' j : Nat} {K : List Sec} {D : Dk} {E1 E2 F : List Nat} {k : List Fr1} {Q : Post} {s : S} (wf0 : h0.Wf) (sa : SliceR 1 BytesR h0 [x3] l) (hj : j < l.length) (hT : T < 1000) (hjl : j < 100) (h3 : l[j].length ≤ 300)
    (i : WrI h0 ep fr0 T o ol at' (j + 1) gv wv K D E1 E2 F h5) (ss : WrS s x3 ep fr T o ol at' j gv wv) (s20 : s 20 = sv) (hsv : lenSA sv = some (jsize l[j].length))
    (next : ∀ (s' : S) (h6 : H), WrS s' x3 ep fr T o ol at' j gv wv → WrI h0 ep fr0 T o ol at' (j + 1) gv wv K D E1 E2 F h6 → WNext E0 k Q s' h6) :
    WS E0 (.seq (.ops f11_r31) (.seq (.ops f11_r32) (.cond (.tmp 159) (.seq (.ops f11_r33) .ret) .skip))) k Q s h5 := by
  have wf5 := i.k.wf wf0
  refine WS_of_seq (WS_of_ops ?_)
  simp only [f11_r31, go_sem, ↓reduceIte, Nat.reduceEqDiff, ss.s14]
  have hkl := i.kl
  refine (i.a.j.records wf5 (by omega) (fun x hx => by have := i.sm x hx; omega)).mono ?_
  rintro r h6 ⟨v6, vs6, rfl, br6, k6⟩
  have wf6 := k6.wf wf5
  have a6 := i.a.keep wf5 k6
  simp only [go_sem, ↓reduceIte, Nat.reduceEqDiff, ss.s18]
  refine (same_spec br6 a6.g.1 (by omega) (by omega)).mono ?_
  rintro r h7 ⟨hh, rfl⟩
  have hh' := hh.symm
  subst hh'
  have k06 := i.k.then (Nat.le_refl _) k6
  obtain ⟨o1, q1, v1, e1, b1, sl1, -, lo1⟩ := rec_get sa k06 hj
  have lo := lo1 _ k06
  have hbl : lenSA v1 = some l[j].length := b1.len
  have hle := i.le
  have w1 : IntKind.i64.wrap ((T : Int) - (at' : Int)) = (T : Int) - (at' : Int) := wrap_i64 (by omega) (by omega)
  simp only [go_sem, ↓reduceIte, Nat.reduceEqDiff, decide_true]
  refine WS_of_seq (WS_of_ops ?_)
  simp only [f11_r32, go_sem, ↓reduceIte, Nat.reduceEqDiff, Bool.not_true, Bool.false_eq_true, ss.s14]
  refine (a6.j.room).mono ?_
  rintro r h7 ⟨hh, rfl⟩
  have hh' := hh.symm
  subst hh'
  simp only [go_sem, ↓reduceIte, Nat.reduceEqDiff, Bool.not_true, Bool.false_eq_true, ss.s11, ss.s17, w1, decide_true, ss.s3, ss.s19, e1, lo, hbl]
  refine (size_spec (n := (l[j].length : Int)) (by omega) (by omega)).mono ?_
  rintro r h7 ⟨hh, rfl⟩
  have hh' := hh.symm
  subst hh'
  simp only [go_sem, ↓reduceIte, Nat.reduceEqDiff, Bool.not_true, Bool.false_eq_true, Int.toNat_natCast, s20, hsv, decide_true]
  refine WS_of_cond ?_
  simp only [go_sem, ↓reduceIte, Bool.false_eq_true]
  refine WS_of_skip ?_
  refine next _ _ ⟨ss.s1, ss.s2, ss.s3, ss.s11, ss.s12, ss.s14, ss.s16, ss.s17, ss.s18, ss.s19⟩ ⟨k06, a6, i.cm, i.li, i.le, i.kl, i.fo, i.sm⟩
theorem writes_answer {h : H} {x3 : AV} {l : List Sec} {rm fr ep : Nat} (wf : h.Wf) (sa : SliceR 1 BytesR h [x3] l) (hrm : rm < 256) (hfr : fr < 256) (hep : ep < 18446744073709551616) :
    WCall E0 11 [.int .u8 (rm : Int), .int .u8 (fr : Int), .int .u64 (ep : Int), x3] h BRw := by
  refine WCall_ws (ovn 11) U11 (by simp [f11_a]) ?_
  show WS E0 f11_c [] _ _ _
  refine WS_of_seq (WS_of_ops ?_)
  simp only [f11_r0, go_sem, ↓reduceIte]
  refine WS_of_seq (WS_of_ops ?_)
  simp only [f11_r1, go_sem, ↓reduceIte, Nat.reduceEqDiff]
  refine WCall_ov (g := yes) rfl rfl ?_
  simp only [go_sem, ↓reduceIte, Nat.reduceEqDiff]
  refine WS_of_seq (WS_of_seq (WS_of_ops ?_))
  simp only [f11_r2, go_sem, ↓reduceIte, Nat.reduceEqDiff]
  refine WS_of_cond ?_
  simp only [go_sem, ↓reduceIte, Nat.reduceEqDiff, Bool.not_true, Bool.false_eq_true]
  refine WS_of_skip ?_
  simp only [go_sem]
  refine WS_of_seq (WS_of_ops ?_)
  simp only [f11_r4, go_sem, ↓reduceIte, Nat.reduceEqDiff]
  refine (jfew_spec sa).mono ?_
  rintro r h1 ⟨hh, fa, rfl, hfa⟩
  have hh' := hh.symm
  subst hh'
  simp only [go_sem, ↓reduceIte, Nat.reduceEqDiff]
  refine WS_of_seq (WS_of_seq (WS_of_ops ?_))
  cases fa with
  | false =>
    simp only [f11_r5, go_sem, ↓reduceIte, Nat.reduceEqDiff, Bool.not_false]
    refine WS_of_cond ?_
    simp only [go_sem, ↓reduceIte]
    refine WS_of_seq (WS_of_ops ?_)
    simp only [f11_r6, go_sem, ↓reduceIte, Nat.reduceEqDiff]
    refine WS_of_ret ?_
    simp only [f11_a, go_sem, ↓reduceIte, Nat.reduceEqDiff]
  | true =>
  obtain ⟨hl, hl3⟩ := hfa rfl
  simp only [f11_r5, go_sem, ↓reduceIte, Nat.reduceEqDiff, Bool.not_true]
  refine WS_of_cond ?_
  simp only [go_sem, ↓reduceIte, Bool.false_eq_true]
  refine WS_of_skip ?_
  simp only [go_sem]
  have hal := sa.len.1
  obtain ⟨fr0, hf0⟩ : ∃ x, x = fr % 4 := ⟨_, rfl⟩
  obtain ⟨r0, hr0⟩ : ∃ x, x = rm % 30 := ⟨_, rfl⟩
  have w1 : IntKind.i64.wrap (fr : Int) = (fr : Int) := wrap_i64 (by omega) (by omega)
  have w2 : IntKind.i64.wrap (rm : Int) = (rm : Int) := wrap_i64 (by omega) (by omega)
  have w3 : Int.tmod (fr : Int) 4 = (fr0 : Int) := by rw [Int.tmod_eq_emod_of_nonneg (by omega)]; omega
  have w4 : Int.tmod (rm : Int) 30 = (r0 : Int) := by rw [Int.tmod_eq_emod_of_nonneg (by omega)]; omega
  have w5 : IntKind.i64.wrap ((fr0 : Int) + (r0 : Int)) = ((fr0 + r0 : Nat) : Int) := by rw [wrap_i64 (by omega) (by omega)]; omega
  obtain ⟨T, hT⟩ : ∃ T, T = fr0 + r0 := ⟨_, rfl⟩
  rw [← hT] at w5
  have w6 : IntKind.i64.wrap ((T : Int) + 3) = ((T + 3 : Nat) : Int) := by rw [wrap_i64 (by omega) (by omega)]; omega
  refine WS_of_seq (WS_of_ops ?_)
  simp only [f11_r7, go_sem, ↓reduceIte, Nat.reduceEqDiff, w1, w2, w3, w4, w5, (by decide : ¬ (4 : Int) = 0), (by decide : ¬ (30 : Int) = 0)]
  refine WS_of_seq (WS_of_ops ?_)
  simp only [f11_r8, go_sem, ↓reduceIte, Nat.reduceEqDiff, w6]
  refine (new_st wf (n := T + 3) (by omega) (by omega)).mono ?_
  rintro r h1 ⟨o, rfl, d1, k1⟩
  have wf1 := k1.wf wf
  simp only [go_sem, ↓reduceIte, Nat.reduceEqDiff, List.getElem?_cons_zero, List.getElem?_cons_succ]
  refine WS_of_seq (WS_of_seq (WS_of_ops ?_))
  simp only [f11_r9, go_sem, ↓reduceIte, Nat.reduceEqDiff, decide_true, Bool.not_true]
  refine WS_of_cond ?_
  simp only [go_sem, ↓reduceIte, Bool.false_eq_true]
  refine WS_of_skip ?_
  simp only [go_sem]
  have hkl : (Dk.new (T + 3)).kept.length = T + 3 := by simp [Dk.new]
  obtain ⟨gs1, dd1, hg1⟩ := d1
  have op1 := open_st (N := h.n) (E := []) (fr := fr0) (to := T) (ep := ep) wf1 dd1 hg1 (by simp) k1.n rfl (by omega) (by rw [hkl]; omega) (by simp [Dk.new]) hep (jopen_new (by omega))
  refine WS_of_seq (WS_of_ops ?_)
  simp only [f11_r11, go_sem, ↓reduceIte, Nat.reduceEqDiff, w1, w3, (by decide : ¬ (4 : Int) = 0)]
  refine op1.mono ?_
  rintro r h2 ⟨ol, F, rfl, j2, k2, -, -⟩
  have wf2 := k2.wf wf1
  have k02 : Keep (Old h.n) h h2 := k1.then (Nat.le_refl _) k2
  simp only [go_sem, ↓reduceIte, Nat.reduceEqDiff, List.getElem?_cons_zero, List.getElem?_cons_succ]
  refine WS_of_seq (WS_of_seq (WS_of_ops ?_))
  simp only [f11_r12, go_sem, ↓reduceIte, Nat.reduceEqDiff, decide_true, Bool.not_true]
  refine WS_of_cond ?_
  simp only [go_sem, ↓reduceIte, Bool.false_eq_true]
  refine WS_of_skip ?_
  simp only [go_sem]
  have dd2 : DiskAt h2 o gs1 (Dk.new (T + 3)) := dd1.keep wf1 k2
  refine WS_of_seq (WS_of_ops ?_)
  simp only [f11_r14, go_sem, ↓reduceIte, Nat.reduceEqDiff]
  refine (sectors_spec wf2 dd2 rfl (by simp [Dk.new])).mono ?_
  rintro r h3 ⟨wv, rfl, st3, ow3, k3⟩
  rw [hkl] at st3
  have wf3 := k3.wf wf2
  have k03 : Keep (Old h.n) h h3 := k02.then (Nat.le_refl _) k3
  obtain ⟨E2, w3', hE2⟩ := Want.of_own (N := h.n) st3 ow3 k02.n (fun e => by have := congrArg List.length e; simp at this)
  simp only [go_sem, ↓reduceIte, Nat.reduceEqDiff]
  refine WS_of_seq (WS_of_ops ?_)
  simp only [f11_r15, go_sem, ↓reduceIte, Nat.reduceEqDiff, w1, w3, (by decide : ¬ (4 : Int) = 0)]
  refine WS_of_seq (WS_of_ops ?_)
  simp only [f11_r16, go_sem, ↓reduceIte, Nat.reduceEqDiff]
  refine WS_of_seq (WS_of_seq (WS_of_ops ?_))
  simp only [f11_r17, go_sem, ↓reduceIte, Nat.reduceEqDiff]
  refine WS_of_block (WS_of_loop (fun m s h2 => ∃ j at' gv K D E1 E2 F, j + m = l.length ∧ WrS s x3 ep fr T o ol at' j gv wv ∧ WrI h ep fr0 T o ol at' j gv wv K D E1 E2 F h2) ?_ l.length ?_)
  · rintro m s0 h2 ⟨j, at', gv, K, D, E1, E2, F, hj, ss, ii⟩
    show WS E0 f11_l35 [] _ _ _
    have wf2 := ii.k.wf wf
    have hle := ii.le
    have hKj := ii.kl
    refine WS_of_seq (WS_of_seq (WS_of_ops ?_))
    by_cases c : j < l.length
    case neg =>
      have c1 : ¬ (j : Int) < (l.length : Int) := by omega
      simp only [f11_r18, go_sem, ↓reduceIte, Nat.reduceEqDiff, ss.s3, ss.s19, hal, c1, decide_false]
      refine WS_of_cond ?_
      simp only [go_sem, ↓reduceIte, Bool.false_eq_true]
      refine WS_of_exit ?_
      simp only [go_sem, ↓reduceIte]

      have cm := ii.cm
      obtain ⟨gl, gs, rv, us, hF, -, dd, -, -, -⟩ := ii.a.j
      refine WS_of_seq (WS_of_ops ?_)
      simp only [f11_r36, go_sem, ↓reduceIte, Nat.reduceEqDiff, ss.s12]
      refine (sectors_spec wf2 dd cm.de (by rw [cm.wa]; simp)).mono ?_
      rintro r h3 ⟨nv, rfl, nst, now, k3⟩
      rw [cm.kl] at nst
      have wf3 := k3.wf wf2
      have a3 := ii.a.keep wf2 k3
      have k03 := ii.k.then (Nat.le_refl _) k3
      have hnl : lenSA nv = some (T + 3) := by have := nst.len; simpa using this
      simp only [go_sem, ↓reduceIte, Nat.reduceEqDiff]
      refine WS_of_seq (WS_of_seq (WS_of_ops ?_))
      simp only [f11_r37, go_sem, ↓reduceIte, Nat.reduceEqDiff]
      refine WS_of_block (WS_of_loop (fun m s h5 => ∃ q, q + m = T + 3 ∧ WrS s x3 ep fr T o ol at' j gv wv ∧ s 24 = nv ∧ s 25 = .int .i64 (q : Int) ∧ h5 = h3) ?_ (T + 3) ?_)
      · rintro m2 s2 h5 ⟨q, hq, ss5, s24, s25, rfl⟩
        show WS E0 f11_l42 [] _ _ _
        refine WS_of_seq (WS_of_seq (WS_of_ops ?_))
        by_cases cq : q < T + 3
        · have cq' : (q : Int) < ((T + 3 : Nat) : Int) := by omega
          simp only [f11_r38, go_sem, ↓reduceIte, Nat.reduceEqDiff, s24, s25, hnl, cq', decide_true]
          refine WS_of_cond ?_
          simp only [go_sem, ↓reduceIte]
          refine WS_of_skip ?_
          simp only [go_sem]
          obtain ⟨p1, ep1, lp1⟩ := Strs.at nst (i := q) (by simpa using cq) .i64
          obtain ⟨p2, ep2, lp2⟩ := Strs.at a3.w.1 (i := q) (by rw [secs_len]; exact cq) .i64
          have hr1 : ((List.range (T + 3)).map (findS D))[q]'(by simpa using cq) = findS D q := by simp
          have hr2 : (secs (T + 3) (findS D))[q]'(by rw [secs_len]; exact cq) = findS D q := by simp [secs]
          rw [hr1] at lp1
          rw [hr2] at lp2
          have w9 : IntKind.i64.wrap ((q : Int) + 1) = ((q + 1 : Nat) : Int) := by rw [wrap_i64 (by omega) (by omega)]; omega
          refine WS_of_seq (WS_of_block (WS_of_seq (WS_of_draw ?_)))
          simp only [f11_r39, go_sem, ↓reduceIte, Nat.reduceEqDiff, and_self, true_and, List.filter_cons, List.filter_nil, Nat.testBit, Nat.reduceShiftRight, Nat.reduceAnd, Nat.reduceBNe, Bool.not_false, Bool.not_true, Bool.false_eq_true, bne_self_eq_false, eq_self, ss5.s16, s24, s25, ep1, ep2, lp1, lp2, decide_true]
          refine WS_of_cond ?_
          simp only [go_sem, ↓reduceIte, Bool.false_eq_true]
          refine WS_of_skip ?_
          simp only [go_sem]
          refine WS_of_ops ?_
          simp only [f11_r41, go_sem, ↓reduceIte, Nat.reduceEqDiff, s25, w9]
          exact ⟨m2 - 1, by omega, q + 1, by omega, ⟨ss5.s1, ss5.s2, ss5.s3, ss5.s11, ss5.s12, ss5.s14, ss5.s16, ss5.s17, ss5.s18, ss5.s19⟩, s24, rfl, trivial⟩
        · have cq' : ¬ (q : Int) < ((T + 3 : Nat) : Int) := by omega
          simp only [f11_r38, go_sem, ↓reduceIte, Nat.reduceEqDiff, s24, s25, hnl, cq', decide_false]
          refine WS_of_cond ?_
          simp only [go_sem, ↓reduceIte, Bool.false_eq_true]
          refine WS_of_exit ?_
          simp only [go_sem, ↓reduceIte]
          obtain ⟨gl3, gs3, rv3, us3, hF3, -, dd3, -, -, hge3⟩ := a3.j
          have hno : jnext (findS D) at' T ep K.length = none := ii.fo.none (Nat.le_refl _) (by omega)
          have op := open_st (N := h.n) (E := E1) (fr := fr0) (to := T) (ep := ep) wf3 dd3 (fun g hg => hge3 g (by rw [hF3]; simp [hg])) (fun g hg => ⟨a3.g.root g hg, fun hm => a3.d1 g hg (by rw [hF3]; simp [hm])⟩) k03.n cm.de (by omega) (by rw [cm.kl]; omega) (by rw [cm.wa]; simp) hep (jopen_lies hep ii.li ii.le (fun b hb => by have := ii.sm b hb; omega) (by omega) hno)
          refine WS_of_seq (WS_of_ops ?_)
          simp only [f11_r43, go_sem, ↓reduceIte, Nat.reduceEqDiff, ss5.s12, ss5.s1, ss5.s11, ss5.s2, w1, w3, (by decide : ¬ (4 : Int) = 0)]
          refine op.mono ?_
          rintro r h6 ⟨yl, F6, rfl, y6, k6, -, -⟩
          have wf6 := k6.wf wf3
          have a6 := a3.keep wf3 k6
          simp only [go_sem, ↓reduceIte, Nat.reduceEqDiff, List.getElem?_cons_zero, List.getElem?_cons_succ]
          refine WS_of_seq (WS_of_ops ?_)
          simp only [f11_r44, go_sem, ↓reduceIte, Nat.reduceEqDiff, decide_true]
          refine (y6.records wf6 (by omega) (fun x hx => by have := ii.sm x hx; omega)).mono ?_
          rintro r h7 ⟨v7, vs7, rfl, br7, k7⟩
          have wf7 := k7.wf wf6
          have a7 := a6.keep wf6 k7
          have y7 := y6.keep wf6 k7
          simp only [go_sem, ↓reduceIte, Nat.reduceEqDiff, ss5.s18]
          refine (same_spec br7 a7.g.1 (by omega) (by omega)).mono ?_
          rintro r h8 ⟨hh, rfl⟩
          have hh' := hh.symm
          subst hh'
          have w10 : IntKind.i64.wrap ((T : Int) - (at' : Int)) = (T : Int) - (at' : Int) := wrap_i64 (by omega) (by omega)
          simp only [go_sem, ↓reduceIte, Nat.reduceEqDiff, decide_true]
          refine (y7.room).mono ?_
          rintro r h8 ⟨hh, rfl⟩
          have hh' := hh.symm
          subst hh'
          obtain ⟨gl7, gs7, rv7, us7, hF7, -, dd7, -, -, -⟩ := y7
          simp only [go_sem, ↓reduceIte, Nat.reduceEqDiff, ss5.s11, ss5.s17, w10, decide_true, ss5.s12]
          refine (waiting_spec dd7).mono ?_
          rintro r h8 ⟨hh, rfl⟩
          have hwl : ((D.waits.length : Nat) : Int) = 0 := by rw [cm.wa]; rfl
          simp only [go_sem, ↓reduceIte, Nat.reduceEqDiff, hwl, decide_true]
          refine WS_of_ret ?_
          simp only [f11_a, go_sem, ↓reduceIte, Nat.reduceEqDiff]
      · exact ⟨0, by simp, ⟨ss.s1, ss.s2, ss.s3, ss.s11, ss.s12, ss.s14, ss.s16, ss.s17, ss.s18, ss.s19⟩, rfl, rfl, rfl⟩
    have c1 : (j : Int) < (l.length : Int) := by omega
    simp only [f11_r18, go_sem, ↓reduceIte, Nat.reduceEqDiff, ss.s3, ss.s19, hal, c1, decide_true]
    refine WS_of_cond ?_
    simp only [go_sem, ↓reduceIte]
    refine WS_of_skip ?_
    simp only [go_sem]
    have h300 := hl3 _ (List.getElem_mem c)
    have hjs := jsize_few' h300
    obtain ⟨o1, q1, v1, e1, b1, sl1, -, lo1⟩ := rec_get sa ii.k c
    have lo := lo1 _ ii.k
    have hs := b1.str
    have hgl : lenSA gv = some K.length := ii.a.g.1.len
    have wk : IntKind.u64.wrap (K.length : Int) = (K.length : Int) := wrap_u64 (by omega) (by omega)
    -- the document's sectors
    refine WS_of_seq (WS_of_block (WS_of_seq (WS_of_ops ?_)))
    simp only [f11_r19, go_sem, ↓reduceIte, Nat.reduceEqDiff, ss.s2, ss.s18, hgl, wk, ss.s3, ss.s19, e1, lo, hs]
    refine (rsectors_spec (ep := ep) (k := K.length) (b := l[j]) wf2 hep (by omega) (by omega)).mono ?_
    rintro r h3 ⟨sv, rfl, sts, ows, k3⟩
    have wf3 := k3.wf wf2
    have k03 := ii.k.then (Nat.le_refl _) k3
    have a3 := ii.a.keep wf2 k3
    have ssl := own_apart wf3 ows k3 (ii.a.all wf2)
    have lo3 := lo1 _ k03
    have sl3 : Slot (Old h.n) h3 v1 := sl1.keep (k3.weaken fun q hq => Nat.lt_of_lt_of_le hq ii.k.n) fun _ x => x
    have b3 := b1.keep k3 (sl1.mono fun q hq => Nat.lt_of_lt_of_le hq ii.k.n)
    have hsvl : lenSA sv = some (jsize l[j].length) := by have := sts.len; simpa using this
    have w7 : IntKind.i64.wrap ((at' : Int) + (jsize l[j].length : Int)) = ((at' + jsize l[j].length : Nat) : Int) := by rw [wrap_i64 (by omega) (by omega)]; omega
    simp only [go_sem, ↓reduceIte, Nat.reduceEqDiff]
    have cm := ii.cm
    by_cases cf : at' + jsize l[j].length ≤ T
    case neg =>
      have hD' : jappend D at' T ep K.length l[j] = (D, 21) := by
        unfold jappend
        rw [if_neg (by omega), if_pos (by omega)]
      have ap := a3.append wf3 k03.n b3 sl3 (by omega) (by omega) (by omega) (by rw [cm.wa]; simp) (by omega) hep hD'
      refine WS_of_seq (WS_of_ops ?_)
      simp only [f11_r20, go_sem, ↓reduceIte, Nat.reduceEqDiff, ss.s14, ss.s3, ss.s19, e1, lo3]
      refine ap.mono ?_
      rintro r h4 ⟨F', rfl, a4, k4, n4⟩
      simp only [(by decide : ¬ (21 : Nat) = 0), if_false] at a4
      have wf4 := k4.wf wf3
      have k04 := k03.trans (k4.old wf3 k03.n ii.a.j.geF)
      have cf' : ¬ ((at' + jsize l[j].length : Nat) : Int) ≤ (T : Int) := by omega
      simp only [go_sem, ↓reduceIte, Nat.reduceEqDiff]
      refine WS_of_seq (WS_of_seq (WS_of_ops ?_))
      simp only [f11_r21, go_sem, ↓reduceIte, Nat.reduceEqDiff, (by decide : ¬ ((21 : Nat) : Int) = 0), (by decide : ((21 : Nat) : Int) = 21), decide_false, ss.s17, hsvl, w7, ss.s11, cf', beq_self_eq_true, Bool.not_true, Bool.not_false, Bool.false_eq_true, decide_true]
      refine WS_of_cond ?_
      simp only [go_sem, ↓reduceIte, Bool.false_eq_true]
      refine WS_of_skip ?_
      simp only [go_sem]
      refine WS_of_seq (WS_of_seq (WS_of_ops ?_))
      simp only [f11_r23, go_sem, ↓reduceIte, Nat.reduceEqDiff, (by decide : ¬ ((21 : Nat) : Int) = 0), decide_false]
      refine WS_of_cond ?_
      simp only [go_sem, ↓reduceIte, Bool.false_eq_true]
      refine WS_of_skip ?_
      simp only [go_sem]
      refine writes_tail (x3 := x3) (gv := gv) (wv := wv) (fr := fr) wf sa c (by omega) (by omega) h300 ⟨k04, a4, cm, ii.li, ii.le, by omega, ii.fo, ii.sm⟩ ⟨ss.s1, ss.s2, ss.s3, ss.s11, ss.s12, ss.s14, ss.s16, ss.s17, ss.s18, ss.s19⟩ rfl hsvl ?_
      intro s' h6 ss6 i6
      simp only [go_sem]
      refine WS_of_ops ?_
      have hw : IntKind.i64.wrap ((j : Int) + 1) = ((j + 1 : Nat) : Int) := by rw [wrap_i64 (by omega) (by omega)]; omega
      simp only [f11_r34, go_sem, ↓reduceIte, Nat.reduceEqDiff, ss6.s19, hw]
      exact ⟨m - 1, by omega, j + 1, at', gv, K, D, E1, E2, F', by omega, ⟨ss6.s1, ss6.s2, ss6.s3, ss6.s11, ss6.s12, ss6.s14, ss6.s16, ss6.s17, ss6.s18, rfl⟩, i6⟩
    obtain ⟨D', hD', cm', fD⟩ := cm.append (p := at') (to := T) (ep := ep) (k := K.length) (b := l[j]) (by omega) cf (by omega) hep (by omega)
    have ap := a3.append wf3 k03.n b3 sl3 (by omega) (by omega) (by omega) (by rw [cm.wa]; simp) (by omega) hep hD'
    refine WS_of_seq (WS_of_ops ?_)
    simp only [f11_r20, go_sem, ↓reduceIte, Nat.reduceEqDiff, ss.s14, ss.s3, ss.s19, e1, lo3]
    refine ap.mono ?_
    rintro r h4 ⟨F', rfl, a4, k4, n4⟩
    simp only [if_pos] at a4
    have wf4 := k4.wf wf3
    have k04 := k03.trans (k4.old wf3 k03.n ii.a.j.geF)
    have ssl4 : Slot (Apart (F' ++ (E1 ++ E2)) h4) h4 sv := Slot.next wf3 ssl (k4.mono fun g hg => List.mem_append_left _ hg) fun g hg => by
      rcases List.mem_append.1 hg with x | x
      · exact (n4 g x).imp (fun y => List.mem_append_left _ y) id
      · exact .inl (List.mem_append_right _ x)
    have sts4 := sts.keep k4 (apart_less ssl (fun g hg => List.mem_append_left _ hg))
    have cf' : ((at' + jsize l[j].length : Nat) : Int) ≤ (T : Int) := by omega
    simp only [go_sem, ↓reduceIte, Nat.reduceEqDiff]
    refine WS_of_seq (WS_of_seq (WS_of_ops ?_))
    simp only [f11_r21, go_sem, ↓reduceIte, Nat.reduceEqDiff, (by decide : ((0 : Nat) : Int) = 0), decide_false, ss.s17, hsvl, w7, ss.s11, cf', beq_self_eq_true, Bool.not_true, Bool.not_false, Bool.false_eq_true, decide_true]
    refine WS_of_cond ?_
    simp only [go_sem, ↓reduceIte, Bool.false_eq_true]
    refine WS_of_skip ?_
    simp only [go_sem]
    refine WS_of_seq (WS_of_seq (WS_of_ops ?_))
    simp only [f11_r23, go_sem, ↓reduceIte, Nat.reduceEqDiff, (by decide : ((0 : Nat) : Int) = 0), decide_true]
    refine WS_of_cond ?_
    simp only [go_sem, ↓reduceIte]
    refine WS_of_seq (WS_of_seq (WS_of_ops ?_))
    simp only [f11_r24, go_sem, ↓reduceIte, Nat.reduceEqDiff]
    refine WS_of_block (WS_of_loop (fun m s h5 => ∃ q, q + m = jsize l[j].length ∧ WrS s x3 ep fr T o ol at' j gv wv ∧ s 20 = sv ∧ s 22 = .int .i64 (q : Int) ∧ Keep (Old h.n) h h5 ∧
      J3 h.n E1 E2 F' h5 ol o (at' + jsize l[j].length) T ep (K ++ [l[j]]) D' gv K wv (secs (T + 3) fun i => if at' ≤ i ∧ i < at' + q then recAt ep K.length l[j] (i - at') else findS D i) ∧
      Strs h5 sv ((List.range (jsize l[j].length)).map (recAt ep K.length l[j])) ∧ Slot (Apart (F' ++ (E1 ++ E2)) h5) h5 sv) ?_ (jsize l[j].length) ?_)
    · rintro m2 s2 h5 ⟨q, hq, ss5, s20, s22, k05, a5, st5, sl5⟩
      show WS E0 f11_l28 [] _ _ _
      have wf5 := k05.wf wf
      refine WS_of_seq (WS_of_seq (WS_of_ops ?_))
      by_cases cq : q < jsize l[j].length
      · have cq' : (q : Int) < (jsize l[j].length : Int) := by omega
        simp only [f11_r25, go_sem, ↓reduceIte, Nat.reduceEqDiff, s20, s22, hsvl, cq', decide_true]
        refine WS_of_cond ?_
        simp only [go_sem, ↓reduceIte]
        refine WS_of_skip ?_
        simp only [go_sem]
        obtain ⟨p5, ep5, lp5⟩ := Strs.at st5 (i := q) (by simpa using cq) .i64
        have hrq : ((List.range (jsize l[j].length)).map (recAt ep K.length l[j]))[q]'(by simpa using cq) = recAt ep K.length l[j] q := by simp
        rw [hrq] at lp5
        obtain ⟨pw, h6, epw, es6, a6, k6⟩ := a5.put wf5 (i := at' + q) (by rw [secs_len]; omega) (recAt ep K.length l[j] q)
        have w8 : IntKind.i64.wrap ((at' : Int) + (q : Int)) = ((at' + q : Nat) : Int) := by rw [wrap_i64 (by omega) (by omega)]; omega
        have w9 : IntKind.i64.wrap ((q : Int) + 1) = ((q + 1 : Nat) : Int) := by rw [wrap_i64 (by omega) (by omega)]; omega
        refine WS_of_seq (WS_of_block (WS_of_ops ?_))
        simp only [f11_r26, go_sem, ↓reduceIte, Nat.reduceEqDiff, ss5.s16, ss5.s17, s22, w8, s20, ep5, lp5, epw, es6]
        refine WS_of_ops ?_
        simp only [f11_r27, go_sem, ↓reduceIte, Nat.reduceEqDiff, s22, w9]
        refine ⟨m2 - 1, by omega, q + 1, by omega, ⟨ss5.s1, ss5.s2, ss5.s3, ss5.s11, ss5.s12, ss5.s14, ss5.s16, ss5.s17, ss5.s18, ss5.s19⟩, s20, rfl, k05.trans (k6.old wf5 k05.n a5.w.ge), ?_, st5.keep k6 (apart_less sl5 (fun g hg => by simp [hg])), sl5.keepA (k6.mono fun g hg => by simp [hg])⟩
        rw [secs_set (by omega)] at a6
        refine (secs_congr (n := T + 3) (fun i hi => ?_)) ▸ a6
        by_cases e : i = at' + q
        · subst e
          rw [if_pos rfl, if_pos (by omega), show at' + q - at' = q by omega]
        · rw [if_neg e]
          by_cases e2 : at' ≤ i ∧ i < at' + q
          · rw [if_pos e2, if_pos (by omega)]
          · rw [if_neg e2, if_neg (by omega)]
      · have cq' : ¬ (q : Int) < (jsize l[j].length : Int) := by omega
        simp only [f11_r25, go_sem, ↓reduceIte, Nat.reduceEqDiff, s20, s22, hsvl, cq', decide_false]
        refine WS_of_cond ?_
        simp only [go_sem, ↓reduceIte, Bool.false_eq_true]
        refine WS_of_exit ?_
        simp only [go_sem, ↓reduceIte]
        obtain rfl : q = jsize l[j].length := by omega
        have a5' : J3 h.n E1 E2 F' h5 ol o (at' + jsize l[j].length) T ep (K ++ [l[j]]) D' gv K wv (secs (T + 3) (findS D')) := (secs_congr (n := T + 3) (fun i hi => (fD i hi).symm)) ▸ a5
        refine WS_of_seq (WS_of_ops ?_)
        simp only [f11_r29, go_sem, ↓reduceIte, Nat.reduceEqDiff, ss5.s17, s20, hsvl, w7]
        have lo5 := lo1 _ k05
        obtain ⟨o1', q1', v1', e1', b1', sl1', -, lo1'⟩ := rec_get sa k05 c
        rw [e1] at e1'
        obtain ⟨rfl, rfl⟩ : o1 = o1' ∧ q1 = q1' := by cases e1'; exact ⟨rfl, rfl⟩
        have lo5' := lo1' _ k05
        rw [lo5] at lo5'
        obtain rfl : v1 = v1' := by cases lo5'; rfl
        have hs5 := b1'.str
        obtain ⟨gv', h6, E1', e6, a6, k6⟩ := a5'.got wf5 k05.n (by omega) l[j]
        have ef : afill (zeros [AV.str []] (1 * 1)) [(0, 1, AV.str l[j])] = some [.str l[j]] := rfl
        refine WS_of_ops ?_
        simp only [f11_r30, go_sem, ↓reduceIte, Nat.reduceEqDiff, ss5.s18, ss5.s3, ss5.s19, e1, lo5, hs5, ef, e6]
        refine writes_tail (fr0 := fr0) (x3 := x3) (gv := gv') (wv := wv) (fr := fr) wf sa c (by omega) (by omega) h300 ⟨k05.trans k6, a6, cm', ?_, cf, by simp; omega, ?_, ?_⟩ ⟨ss5.s1, ss5.s2, ss5.s3, ss5.s11, ss5.s12, ss5.s14, ss5.s16, rfl, rfl, ss5.s19⟩ s20 hsvl ?_
        · refine Lies.snoc (ii.li.congr fun i hi1 hi2 => ?_) fun i hi => ?_
          · rw [fD i (by omega), if_neg (by omega)]
          · rw [fD (at' + i) (by omega), if_pos (by omega), Nat.zero_add, show at' + i - at' = i by omega]
        · intro i hi1 hi2 ht
          rw [fD i hi2, if_neg (by omega)] at ht ⊢
          exact ii.fo i (by omega) hi2 ht
        · intro b hb
          rcases List.mem_append.1 hb with x | x
          · exact ii.sm b x
          · simp only [List.mem_cons, List.not_mem_nil, or_false] at x
            subst x
            exact h300
        intro s' h7 ss7 i7
        simp only [go_sem]
        refine WS_of_ops ?_
        have hw : IntKind.i64.wrap ((j : Int) + 1) = ((j + 1 : Nat) : Int) := by rw [wrap_i64 (by omega) (by omega)]; omega
        simp only [f11_r34, go_sem, ↓reduceIte, Nat.reduceEqDiff, ss7.s19, hw]
        exact ⟨m - 1, by omega, j + 1, at' + jsize l[j].length, gv', K ++ [l[j]], D', E1', E2, F', by omega, ⟨ss7.s1, ss7.s2, ss7.s3, ss7.s11, ss7.s12, ss7.s14, ss7.s16, ss7.s17, ss7.s18, rfl⟩, i7⟩
    · refine ⟨0, by simp, ⟨ss.s1, ss.s2, ss.s3, ss.s11, ss.s12, ss.s14, ss.s16, ss.s17, ss.s18, ss.s19⟩, rfl, rfl, k04, ?_, sts4, ssl4⟩
      refine (secs_congr (n := T + 3) (fun i hi => ?_)) ▸ a4
      rw [if_neg (by omega)]
  · refine ⟨0, fr0, .nils, [], Dk.new (T + 3), [], E2, F, by simp, ⟨rfl, rfl, rfl, rfl, rfl, rfl, rfl, rfl, rfl, rfl⟩, k03, ⟨(j2.keep wf2 k3).empty, Want.nil _ _, w3', by simp, fun g hg hm => ?_, by simp⟩, Calm.new _, rfl, by omega, by simp, fun i h1 h2 => Foreign.new (T + 3) ep i (by omega) h2, by simp⟩
    have := hE2 g hg
    have := j2.ltF wf2 g hm
    omega
end Go.Proofs.Ytmfbememiffkjaa.Ev.C
