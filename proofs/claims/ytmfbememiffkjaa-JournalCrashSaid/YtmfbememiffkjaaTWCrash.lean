/- The law JournalCrash, walked. -/
import Derived.Test.YtmfbememiffkjaaTJE
namespace Go.Proofs.Ytmfbememiffkjaa.Ev.C
open Go Go.Proofs.Ytmfbememiffkjaa.Ev
set_option linter.unusedSimpArgs false
set_option linter.unusedVariables false
abbrev BRc : AOut → H → Prop := fun r _ => r = .val (.bool true)
theorem jsize_few3 {b : Sec} (h : b.length ≤ 300) : 1 ≤ jsize b.length ∧ jsize b.length ≤ 6 := by unfold jsize; omega
/-- records that lie on a disk, and none behind them -/
structure Has (n : Nat) (D : Dk) (K : List Sec) (p : Nat) : Prop where
  li : Lies (findS D) 9 3 0 K p
  fo : Foreign (findS D) 9 p n
theorem Has.open {D : Dk} {K : List Sec} {p : Nat} (a : Has 200 D K p) (hp : p ≤ 200) (hb : ∀ b ∈ K, b.length ≤ 300) (hl : K.length ≤ 100) : jopen (findS D) 3 200 9 = (K, p) :=
  jopen_lies (by decide) a.li hp (fun b h => by have := hb b h; omega) (by omega) (a.fo.none (Nat.le_refl _) (Nat.le_refl _))
theorem Has.more {n : Nat} {D D' : Dk} {K : List Sec} {p : Nat} {b : Sec} (a : Has n D K p) (hn : p + jsize b.length ≤ n) (h : ∀ i, i < n → findS D' i = if p ≤ i ∧ i < p + jsize b.length then recAt 9 K.length b (i - p) else findS D i) : Has n D' (K ++ [b]) (p + jsize b.length) := by
  refine ⟨Lies.snoc (a.li.congr fun i h1 h2 => ?_) fun i hi => ?_, fun i h1 h2 ht => ?_⟩
  · rw [h i (by omega), if_neg (by omega)]
  · rw [h (p + i) (by omega), if_pos (by omega), Nat.zero_add, show p + i - p = i by omega]
  · rw [h i h2, if_neg (by omega)] at ht ⊢
    exact a.fo i (by omega) h2 ht
theorem Has.lost {n : Nat} {D D' : Dk} {K : List Sec} {p : Nat} {b : Sec} (a : Has n D K p) (hn : p + jsize b.length ≤ n) (h : ∀ i, i < n → findS D' i = findS D i ∨ (p < i ∧ i < p + jsize b.length ∧ findS D' i = recAt 9 K.length b (i - p))) : Has n D' K p := by
  refine ⟨a.li.congr fun i h1 h2 => ?_, fun i h1 h2 ht => ?_⟩
  · rcases h i (by omega) with x | ⟨x, _⟩
    · exact x
    · omega
  · rcases h i h2 with x | ⟨x, _, y⟩
    · rw [x] at ht ⊢
      exact a.fo i h1 h2 ht
    · rw [y] at ht
      unfold recAt at ht
      rw [if_neg (by omega), hd_part] at ht
      exact absurd ht (by simp)
/-- what is there behind a restart -/
theorem restarted {D0 D : Dk} {K : List Sec} {p : Nat} {dd : Bool} {b : Sec} (a : Has 200 D0 K p) (al : Alive 200 D0) (hp : p + 6 ≤ 200) (h : (dd = false ∧ D = D0) ∨ (dd = true ∧ Stopped D0 D p 9 K.length b ∧ b.length ≤ 300)) (keep : List Bool) :
    Calm 200 (D.restart keep) ∧ (Has 200 (D.restart keep) K p ∨ (dd = true ∧ b.length ≤ 300 ∧ Has 200 (D.restart keep) (K ++ [b]) (p + jsize b.length))) := by
  rcases h with ⟨_, rfl⟩ | ⟨hd, st, hb⟩
  · have e : D.restart keep = ⟨D.kept, [], 0, false⟩ := by
      unfold Dk.restart
      rw [al.wa]
      have : keepAll D.kept [] keep = D.kept := by cases keep <;> rfl
      rw [this]
    have hf : ∀ i, findS (D.restart keep) i = findS D i := fun i => by rw [e, findS_no rfl, findS_no al.wa]
    refine ⟨by rw [e]; exact ⟨rfl, rfl, rfl, al.kl⟩, .inl ⟨a.li.congr fun i _ _ => hf i, fun i h1 h2 ht => ?_⟩⟩
    rw [hf] at ht ⊢
    exact a.fo i h1 h2 ht
  · have hj := jsize_few3 hb
    obtain ⟨cm, x | x⟩ := st.restart al (by omega) keep
    · exact ⟨cm, .inl (a.lost (by omega) x)⟩
    · exact ⟨cm, .inr ⟨hd, hb, a.more (by omega) x⟩⟩
theorem crash_tail {h0 h5 : H} {mv gv : AV} {more : Sec} {c yl p : Nat} {K : List Sec} {R : Dk} {s : S} (wf0 : h0.Wf) (k05 : Keep (Old h0.n) h0 h5) (bm : Bytes h0 mv more) (sm : Slot (Old h0.n) h0 mv) (hm : more.length ≤ 300)
    (s3 : s 3 = mv) (s15 : s 15 = gv) (s21 : s 21 = .ptr c 0) (s22 : s 22 = .ptr yl 0) (jw : JW h0.n h5 yl c p 200 9 K R gv K) (cm : Calm 200 R) (hs : Has 200 R K p) (hp : p + 6 ≤ 200) (hK : ∀ b ∈ K, b.length ≤ 300) (hKl : K.length ≤ 50) :
    WS E0 (.seq (.ops f12_r43) (.seq (.ops f12_r44) (.seq (.ops f12_r45) (.seq (.ops f12_r46) .ret)))) [] (atEnd f12_a.results BRc) s h5 := by
  have wf5 := k05.wf wf0
  have hj := jsize_few3 hm
  have bm5 := bm.keep k05 sm
  have sm5 : Slot (Old h0.n) h5 mv := sm.keep k05 fun _ x => x
  obtain ⟨D', hD', cm', fD⟩ := cm.append (p := p) (to := 200) (ep := 9) (k := K.length) (b := more) (by omega) (by omega) (Nat.le_refl _) (by decide) (by omega)
  have hs' := hs.more (by omega) fD
  refine WS_of_seq (WS_of_ops ?_)
  simp only [f12_r43, go_sem, ↓reduceIte, Nat.reduceEqDiff, s22, s3]
  refine (jw.append wf5 k05.n bm5 sm5 (by omega) (by omega) (by omega) (by rw [cm.wa]; simp) (by omega) (by decide) hD').mono ?_
  rintro r h6 ⟨rfl, jw6, k6⟩
  simp only [if_pos] at jw6
  have wf6 := k6.wf wf5
  have k06 := k05.trans k6
  have hK' : ∀ b ∈ K ++ [more], b.length ≤ 300 := fun b hb => by
    rcases List.mem_append.1 hb with x | x
    · exact hK b x
    · simp only [List.mem_cons, List.not_mem_nil, or_false] at x; subst x; exact hm
  have hKl' : (K ++ [more]).length ≤ 51 := by simp; omega
  simp only [go_sem, ↓reduceIte, Nat.reduceEqDiff]
  refine WS_of_seq (WS_of_ops ?_)
  simp only [f12_r44, go_sem, ↓reduceIte, Nat.reduceEqDiff, s21]
  refine (jw6.again (fr := 3) (to := 200) (ep := 9) wf6 k06.n cm'.de (by omega) (by rw [cm'.kl]; omega) (by rw [cm'.wa]; simp) (by decide) (hs'.open (by omega) hK' (by omega))).mono ?_
  rintro r h7 ⟨zl, rfl, jw7, k7, -⟩
  have wf7 := k7.wf wf6
  have k07 := k06.then (Nat.le_refl _) k7
  have bm7 := bm.keep k07 sm
  have hstr := bm7.str
  obtain ⟨gv', h8, e8, jw8, k8⟩ := jw7.want wf7 k07.n (by omega) more
  have wf8 := k8.wf wf7
  have ef : afill (zeros [AV.str []] (1 * 1)) [(0, 1, AV.str more)] = some [.str more] := rfl
  simp only [go_sem, ↓reduceIte, Nat.reduceEqDiff, List.getElem?_cons_zero, List.getElem?_cons_succ]
  refine WS_of_seq (WS_of_ops ?_)
  simp only [f12_r45, go_sem, ↓reduceIte, Nat.reduceEqDiff, s15, s3, hstr, ef, e8]
  refine WS_of_seq (WS_of_ops ?_)
  simp only [f12_r46, go_sem, ↓reduceIte, Nat.reduceEqDiff, (by decide : ((0 : Nat) : Int) = 0), decide_true]
  refine (jw8.records wf8 (by omega) (fun x hx => by have := hK' x hx; omega)).mono ?_
  rintro r h9 ⟨v9, vs9, rfl, br9, k9⟩
  have wf9 := k9.wf wf8
  have jw9 := jw8.keep wf8 k9
  simp only [go_sem, ↓reduceIte, Nat.reduceEqDiff]
  refine (same_spec br9 (jw9.strs wf9).1 (by omega) (by omega)).mono ?_
  rintro r h10 ⟨hh, rfl⟩
  simp only [go_sem, ↓reduceIte, Nat.reduceEqDiff, decide_true]
  refine WS_of_ret ?_
  simp only [f12_a, go_sem, ↓reduceIte, Nat.reduceEqDiff]
theorem arm_st {N : Nat} {h : H} {ol o fr to ep : Nat} {D : Dk} (wf : h.Wf) (j : JW N h ol o fr to ep [] D .nils []) (hN : N ≤ h.n) (n : Int) (hn : n < 9223372036854775808) :
    WCall E0 21 [.ptr o 0, .int .i64 n] h fun r h' => r = .val (.tup []) ∧ JW N h' ol o fr to ep [] (D.arm n) .nils [] ∧ Keep (Old N) h h' := by
  obtain ⟨E, F, j, w, dd⟩ := j
  obtain ⟨gl, gs, rv, us, rfl, l, d, r, hd, hg⟩ := j
  refine (arm_spec wf d n hn).mono ?_
  rintro x h' ⟨rfl, d', k'⟩
  refine ⟨rfl, ⟨[], gl ++ gs, ⟨gl, gs, rv, us, rfl, l.apart wf k' hd d.root, d', ⟨r.1, fun i u hu => ?_⟩, hd, hg⟩, Want.nil _ _, by simp⟩, k'.old wf hN fun g x => hg g (by simp [x])⟩
  have := (List.getElem?_eq_some_iff.1 hu).1
  have h0 : us.length = 0 := by rw [r.1]; rfl
  omega
structure CrI (h0 : H) (dd : Bool) (inn gv : AV) (o ol j : Nat) (h2 : H) : Prop where
  k : Keep (Old h0.n) h0 h2
  ex : ∃ K D0 D p b, JW h0.n h2 ol o p 200 9 K D gv K ∧ Has 200 D0 K p ∧ Alive 200 D0 ∧ p ≤ 3 + 6 * K.length ∧ K.length ≤ j ∧ (∀ b ∈ K, b.length ≤ 300) ∧ D.waits.length ≤ 100 ∧ D.dead = dd ∧
    ((dd = false ∧ D = D0) ∨ (dd = true ∧ Stopped D0 D p 9 K.length b ∧ b.length ≤ 300)) ∧ (dd = true → inn = .str b)
structure CrS (s : S) (x0 x2 x3 : AV) (o ol j : Nat) (dd : Bool) (inn gv : AV) : Prop where
  s0 : s 0 = x0
  s2 : s 2 = x2
  s3 : s 3 = x3
  s11 : s 11 = .ptr o 0
  s13 : s 13 = .ptr ol 0
  s15 : s 15 = gv
  s16 : s 16 = inn
  s17 : s 17 = .bool dd
  s18 : s 18 = .int .i64 (j : Int)
theorem crash_answer {h : H} {x0 x2 x3 : AV} {l : List Sec} {n : Nat} {keep : List Bool} {more : Sec} (wf : h.Wf) (sa : SliceR 1 BytesR h [x0] l) (hn : n < 256) (sk : BoolsR h [x2] keep) (sm : BytesR h [x3] more) :
    WCall E0 12 [x0, .int .u8 (n : Int), x2, x3] h BRc := by
  refine WCall_ws (ovn 12) U12 (by simp [f12_a]) ?_
  show WS E0 f12_c [] _ _ _
  obtain ⟨bk, slk⟩ := boolsR_get sk
  obtain ⟨bm, slm⟩ := bytesR_get sm
  have hkl : lenSA x2 = some keep.length := bk.len
  have hml : lenSA x3 = some more.length := bm.len
  have early : ∀ {k : List Fr1} {s : S} {h : H}, WS E0 (.seq (.ops f12_r6) .ret) k (atEnd f12_a.results BRc) s h := by
    intro k s h
    refine WS_of_seq (WS_of_ops ?_)
    simp only [f12_r6, go_sem, ↓reduceIte, Nat.reduceEqDiff]
    refine WS_of_ret ?_
    simp only [f12_a, go_sem, ↓reduceIte, Nat.reduceEqDiff]
  refine WS_of_seq (WS_of_ops ?_)
  simp only [f12_r0, go_sem, ↓reduceIte]
  refine WS_of_seq (WS_of_ops ?_)
  simp only [f12_r1, go_sem, ↓reduceIte, Nat.reduceEqDiff]
  refine WCall_ov (g := yes) rfl rfl ?_
  simp only [go_sem, ↓reduceIte, Nat.reduceEqDiff]
  refine WS_of_seq (WS_of_seq (WS_of_ops ?_))
  simp only [f12_r2, go_sem, ↓reduceIte, Nat.reduceEqDiff]
  refine WS_of_cond ?_
  simp only [go_sem, ↓reduceIte, Nat.reduceEqDiff, Bool.not_true, Bool.false_eq_true]
  refine WS_of_skip ?_
  simp only [go_sem]
  refine WS_of_seq (WS_of_ops ?_)
  simp only [f12_r4, go_sem, ↓reduceIte, Nat.reduceEqDiff]
  refine (jfew_spec sa).mono ?_
  rintro r h1 ⟨hh, fa, rfl, hfa⟩
  have hh' := hh.symm
  subst hh'
  simp only [go_sem, ↓reduceIte, Nat.reduceEqDiff]
  refine WS_of_seq (WS_of_seq (WS_of_ops ?_))
  cases fa with
  | false =>
    simp only [f12_r5, go_sem, ↓reduceIte, Nat.reduceEqDiff, Bool.not_false, Bool.true_eq_false]
    refine WS_of_cond ?_
    simp only [go_sem, ↓reduceIte]
    exact early
  | true =>
  obtain ⟨hl, hl3⟩ := hfa rfl
  by_cases ck : 60 < keep.length
  · have ck' : (60 : Int) < (keep.length : Int) := by omega
    simp only [f12_r5, go_sem, ↓reduceIte, Nat.reduceEqDiff, Bool.not_true, Bool.true_eq_false, Bool.false_eq_true, hkl, ck', decide_true]
    refine WS_of_cond ?_
    simp only [go_sem, ↓reduceIte]
    exact early
  have ck' : ¬ (60 : Int) < (keep.length : Int) := by omega
  by_cases cm : 300 < more.length
  · have cm' : (300 : Int) < (more.length : Int) := by omega
    simp only [f12_r5, go_sem, ↓reduceIte, Nat.reduceEqDiff, Bool.not_true, Bool.true_eq_false, Bool.false_eq_true, hkl, ck', hml, cm', decide_true, decide_false]
    refine WS_of_cond ?_
    simp only [go_sem, ↓reduceIte]
    exact early
  have cm' : ¬ (300 : Int) < (more.length : Int) := by omega
  simp only [f12_r5, go_sem, ↓reduceIte, Nat.reduceEqDiff, Bool.not_true, Bool.true_eq_false, Bool.false_eq_true, hkl, ck', hml, cm', decide_true, decide_false]
  refine WS_of_cond ?_
  simp only [go_sem, ↓reduceIte, Bool.false_eq_true]
  refine WS_of_skip ?_
  simp only [go_sem]
  refine WS_of_seq (WS_of_ops ?_)
  simp only [f12_r7, go_sem, ↓reduceIte, Nat.reduceEqDiff]
  refine (new_st wf (n := 200) (by decide) (by decide)).mono ?_
  rintro r h1 ⟨o, rfl, d1, k1⟩
  have wf1 := k1.wf wf
  simp only [go_sem, ↓reduceIte, Nat.reduceEqDiff, List.getElem?_cons_zero, List.getElem?_cons_succ]
  refine WS_of_seq (WS_of_seq (WS_of_ops ?_))
  simp only [f12_r8, go_sem, ↓reduceIte, Nat.reduceEqDiff, decide_true, Bool.not_true]
  refine WS_of_cond ?_
  simp only [go_sem, ↓reduceIte, Bool.false_eq_true]
  refine WS_of_skip ?_
  simp only [go_sem]
  have hkl2 : (Dk.new 200).kept.length = 200 := List.length_replicate
  refine WS_of_seq (WS_of_ops ?_)
  simp only [f12_r10, go_sem, ↓reduceIte, Nat.reduceEqDiff]
  refine (JW.first (fr := 3) (to := 200) (ep := 9) wf1 d1 k1.n rfl (by omega) (by rw [hkl2]; omega) (by simp [Dk.new]) (by decide) (jopen_new (by omega))).mono ?_
  rintro r h2 ⟨ol, rfl, j2, k2, -⟩
  have wf2 := k2.wf wf1
  have k02 := k1.then (Nat.le_refl _) k2
  simp only [go_sem, ↓reduceIte, Nat.reduceEqDiff, List.getElem?_cons_zero, List.getElem?_cons_succ]
  refine WS_of_seq (WS_of_seq (WS_of_ops ?_))
  simp only [f12_r11, go_sem, ↓reduceIte, Nat.reduceEqDiff, decide_true, Bool.not_true]
  refine WS_of_cond ?_
  simp only [go_sem, ↓reduceIte, Bool.false_eq_true]
  refine WS_of_skip ?_
  simp only [go_sem]
  have wn : IntKind.i64.wrap (n : Int) = (n : Int) := wrap_i64 (by omega) (by omega)
  refine WS_of_seq (WS_of_ops ?_)
  simp only [f12_r13, go_sem, ↓reduceIte, Nat.reduceEqDiff, wn]
  refine (arm_st wf2 j2 k02.n (n : Int) (by omega)).mono ?_
  rintro r h3 ⟨rfl, j3, k3⟩
  have k03 := k02.trans k3
  have wf3 := k3.wf wf2
  have harm : (Dk.new 200).arm (n : Int) = { Dk.new 200 with armed := n } := by
    unfold Dk.arm
    rw [if_neg (by simp [Dk.new]), Int.toNat_natCast]
  rw [harm] at j3
  have hal0 : Alive 200 { Dk.new 200 with armed := n } := ⟨rfl, rfl, List.length_replicate⟩
  have hfs : ∀ i, findS { Dk.new 200 with armed := n } i = findS (Dk.new 200) i := fun i => rfl
  have hhas : Has 200 { Dk.new 200 with armed := n } [] 3 := ⟨rfl, fun i h1 h2 ht => by rw [hfs] at ht ⊢; exact Foreign.new 200 9 i (by omega) h2 ht⟩
  simp only [go_sem, ↓reduceIte, Nat.reduceEqDiff]
  refine WS_of_seq (WS_of_ops ?_)
  simp only [f12_r14, go_sem, ↓reduceIte, Nat.reduceEqDiff]
  refine WS_of_seq (WS_of_ops ?_)
  simp only [f12_r15, go_sem, ↓reduceIte, Nat.reduceEqDiff]
  refine WS_of_seq (WS_of_ops ?_)
  simp only [f12_r16, go_sem, ↓reduceIte, Nat.reduceEqDiff]
  refine WS_of_seq (WS_of_seq (WS_of_ops ?_))
  simp only [f12_r17, go_sem, ↓reduceIte, Nat.reduceEqDiff]
  have hal := sa.len.1
  refine WS_of_block (WS_of_loop (fun m s h2 => ∃ j dd inn gv, j + m = l.length ∧ CrS s x0 x2 x3 o ol j dd inn gv ∧ CrI h dd inn gv o ol j h2) ?_ l.length ?_)
  · rintro m s0 h2 ⟨j, dd, inn, gv, hj, ss, ii⟩
    show WS E0 f12_l27 [] _ _ _
    have wf2 := ii.k.wf wf
    have k02 := ii.k
    obtain ⟨K, D0, D, p, b, jw, hs, alv, hp, hKj, hK3, hwl, hdd, hmode, hin⟩ := ii.ex
    have exit : ∀ {t : S}, CrS t x0 x2 x3 o ol j dd inn gv → WS E0 (.seq (.ops f12_r28) (.seq (.seq (.ops f12_r29) (.cond (.tmp 112) (.seq (.ops f12_r30) .ret) .skip)) (.seq (.ops f12_r31) (.seq (.ops f12_r32) (.seq (.seq (.ops f12_r33) (.cond (.tmp 122) (.seq (.ops f12_r34) .ret) .skip)) (.seq (.ops f12_r35) (.seq (.seq (.ops f12_r36) (.cond (.tmp 128) (.seq (.seq (.ops f12_r37) (.cond (.tmp 130) (.seq (.ops f12_r38) .ret) .skip)) (.seq (.ops f12_r39) (.seq (.ops f12_r40) (.seq (.ops f12_r41) (.cond (.tmp 140) (.seq (.ops f12_r42) .ret) .skip))))) .skip)) (.seq (.ops f12_r43) (.seq (.ops f12_r44) (.seq (.ops f12_r45) (.seq (.ops f12_r46) .ret)))))))))))
        [] (atEnd f12_a.results BRc) t h2 := by
      intro t ts
      refine WS_of_seq (WS_of_ops ?_)
      simp only [f12_r28, go_sem, ↓reduceIte, Nat.reduceEqDiff, ts.s13]
      refine (jw.records wf2 (by omega) (fun x hx => by have := hK3 x hx; omega)).mono ?_
      rintro r h3 ⟨v3, vs3, rfl, br3, k3⟩
      have wf3 := k3.wf wf2
      have jw3 := jw.keep wf2 k3
      have k03 := k02.then (Nat.le_refl _) k3
      simp only [go_sem, ↓reduceIte, Nat.reduceEqDiff, ts.s15]
      refine (same_spec br3 (jw3.strs wf3).1 (by omega) (by omega)).mono ?_
      rintro r h4 ⟨hh, rfl⟩
      have hh' := hh.symm
      subst hh'
      obtain ⟨E, F, jj, ww, dis⟩ := jw3
      obtain ⟨gl, gs, rv, us, rfl, ll, dk, rr, hd0, hge⟩ := jj
      simp only [go_sem, ↓reduceIte, Nat.reduceEqDiff, decide_true]
      refine WS_of_seq (WS_of_seq (WS_of_ops ?_))
      simp only [f12_r29, go_sem, ↓reduceIte, Nat.reduceEqDiff, ts.s11, ts.s17]
      refine (dead_spec dk).mono ?_
      rintro r h4 ⟨hh, rfl⟩
      have hh' := hh.symm
      subst hh'
      simp only [go_sem, ↓reduceIte, Nat.reduceEqDiff, hdd, beq_self_eq_true, Bool.not_true, Bool.false_eq_true]
      refine WS_of_cond ?_
      simp only [go_sem, ↓reduceIte, Bool.false_eq_true]
      refine WS_of_skip ?_
      simp only [go_sem]
      obtain ⟨cmR, hasR⟩ := restarted hs alv (by omega) hmode keep
      have bk3 : Bools h3 x2 keep := bk.keep k03 slk
      have slk3 : Slot (Old h3.n) h3 x2 := (slk.keep k03 fun _ x => x).mono fun q hq => Nat.lt_of_lt_of_le hq k03.n
      refine WS_of_seq (WS_of_ops ?_)
      simp only [f12_r31, go_sem, ↓reduceIte, Nat.reduceEqDiff, ts.s11, ts.s2]
      refine (restart_spec wf3 dk bk3 slk3 (by omega) (by omega)).mono ?_
      rintro r h4 ⟨cc, gs4, rfl, d4, k4, hg4⟩
      have wf4 := k4.wf wf3
      have k04 := k03.then (Nat.le_refl _) k4
      have ww4 := ww.keep wf3 k4
      have hE4 : ∀ g ∈ E, Root g h4 ∧ g ∉ gs4 := fun g hg => ⟨ww4.root g hg, fun hm => by have := hg4 g hm; have := ww.lt wf3 g hg; omega⟩
      simp only [go_sem, ↓reduceIte, Nat.reduceEqDiff]
      obtain ⟨K', p', hs', hp', hK'3, hK'l, hcase⟩ : ∃ K' p', Has 200 (D.restart keep) K' p' ∧ p' + 6 ≤ 200 ∧ (∀ x ∈ K', x.length ≤ 300) ∧ K'.length ≤ 50 ∧ (K' = K ∨ (dd = true ∧ K' = K ++ [b])) := by
        rcases hasR with a | ⟨a1, a2, a3⟩
        · exact ⟨K, p, a, by omega, hK3, by omega, .inl rfl⟩
        · have := jsize_few3 a2
          refine ⟨K ++ [b], _, a3, by omega, fun x hx => ?_, by simp; omega, .inr ⟨a1, rfl⟩⟩
          rcases List.mem_append.1 hx with y | y
          · exact hK3 x y
          · simp only [List.mem_cons, List.not_mem_nil, or_false] at y; subst y; exact a2
      refine WS_of_seq (WS_of_ops ?_)
      simp only [f12_r32, go_sem, ↓reduceIte, Nat.reduceEqDiff]
      refine (open_st (N := h.n) (E := E) (fr := 3) (to := 200) (ep := 9) wf4 d4 (fun g hg => Nat.le_trans k03.n (hg4 g hg)) hE4 k04.n cmR.de (by omega) (by rw [cmR.kl]; omega) (by rw [cmR.wa]; simp) (by decide) (hs'.open (by omega) hK'3 (by omega))).mono ?_
      rintro r h5 ⟨yl, F5, rfl, j5, k5, -, hd5⟩
      have wf5 := k5.wf wf4
      have k05 := k04.then (Nat.le_refl _) k5
      have jw5 : JW h.n h5 yl cc p' 200 9 K' (D.restart keep) gv K := ⟨E, F5, j5, ww4.keep wf4 k5, hd5⟩
      simp only [go_sem, ↓reduceIte, Nat.reduceEqDiff, List.getElem?_cons_zero, List.getElem?_cons_succ]
      refine WS_of_seq (WS_of_seq (WS_of_ops ?_))
      simp only [f12_r33, go_sem, ↓reduceIte, Nat.reduceEqDiff, decide_true, Bool.not_true]
      refine WS_of_cond ?_
      simp only [go_sem, ↓reduceIte, Bool.false_eq_true]
      refine WS_of_skip ?_
      simp only [go_sem]
      refine WS_of_seq (WS_of_ops ?_)
      simp only [f12_r35, go_sem, ↓reduceIte, Nat.reduceEqDiff]
      refine (jw5.records wf5 (by omega) (fun x hx => by have := hK'3 x hx; omega)).mono ?_
      rintro r h6 ⟨v6, vs6, rfl, br6, k6⟩
      have wf6 := k6.wf wf5
      have jw6 := jw5.keep wf5 k6
      have k06 := k05.then (Nat.le_refl _) k6
      simp only [go_sem, ↓reduceIte, Nat.reduceEqDiff, ts.s15]
      refine (same_spec br6 (jw6.strs wf6).1 (by omega) (by omega)).mono ?_
      rintro r h7 ⟨hh, rfl⟩
      have hh' := hh.symm
      subst hh'
      rcases hcase with rfl | ⟨hdt, rfl⟩
      · simp only [go_sem, ↓reduceIte, Nat.reduceEqDiff, decide_true]
        refine WS_of_seq (WS_of_seq (WS_of_ops ?_))
        simp only [f12_r36, go_sem, ↓reduceIte, Nat.reduceEqDiff, Bool.not_true]
        refine WS_of_cond ?_
        simp only [go_sem, ↓reduceIte, Bool.false_eq_true]
        refine WS_of_skip ?_
        simp only [go_sem]
        exact crash_tail wf k06 bm slm (by omega) ts.s3 ts.s15 rfl rfl jw6 cmR hs' hp' hK'3 hK'l
      · subst hdt
        have hne : decide (K ++ [b] = K) = false := decide_eq_false fun e => by
          have := congrArg List.length e
          simp at this
        simp only [go_sem, ↓reduceIte, Nat.reduceEqDiff, hne]
        refine WS_of_seq (WS_of_seq (WS_of_ops ?_))
        simp only [f12_r36, go_sem, ↓reduceIte, Nat.reduceEqDiff, Bool.not_false]
        refine WS_of_cond ?_
        simp only [go_sem, ↓reduceIte]
        refine WS_of_seq (WS_of_seq (WS_of_ops ?_))
        simp only [f12_r37, go_sem, ↓reduceIte, Nat.reduceEqDiff, ts.s17, Bool.not_true]
        refine WS_of_cond ?_
        simp only [go_sem, ↓reduceIte, Bool.false_eq_true]
        refine WS_of_skip ?_
        simp only [go_sem]
        obtain ⟨gv7, h7, e7, jw7, k7⟩ := jw6.want wf6 k06.n (by omega) b
        have wf7 := k7.wf wf6
        have k07 := k06.trans k7
        have hin' := hin rfl
        have ef : afill (zeros [AV.str []] (1 * 1)) [(0, 1, AV.str b)] = some [.str b] := rfl
        refine WS_of_seq (WS_of_ops ?_)
        simp only [f12_r39, go_sem, ↓reduceIte, Nat.reduceEqDiff, ts.s15, ts.s16, hin', ef, e7]
        refine WS_of_seq (WS_of_ops ?_)
        simp only [f12_r40, go_sem, ↓reduceIte, Nat.reduceEqDiff]
        refine (jw7.records wf7 (by omega) (fun x hx => by have := hK'3 x hx; omega)).mono ?_
        rintro r h8 ⟨v8, vs8, rfl, br8, k8⟩
        have wf8 := k8.wf wf7
        have jw8 := jw7.keep wf7 k8
        have k08 := k07.then (Nat.le_refl _) k8
        simp only [go_sem, ↓reduceIte, Nat.reduceEqDiff]
        refine (same_spec br8 (jw8.strs wf8).1 (by omega) (by omega)).mono ?_
        rintro r h9 ⟨hh, rfl⟩
        have hh' := hh.symm
        subst hh'
        simp only [go_sem, ↓reduceIte, Nat.reduceEqDiff, decide_true]
        refine WS_of_seq (WS_of_ops ?_)
        simp only [f12_r41, go_sem, ↓reduceIte, Nat.reduceEqDiff, Bool.not_true]
        refine WS_of_cond ?_
        simp only [go_sem, ↓reduceIte, Bool.false_eq_true]
        refine WS_of_skip ?_
        simp only [go_sem]
        exact crash_tail wf k08 bm slm (by omega) ts.s3 rfl rfl rfl jw8 cmR hs' hp' hK'3 hK'l
    refine WS_of_seq (WS_of_seq (WS_of_ops ?_))
    by_cases c : j < l.length
    case neg =>
      have c1 : ¬ (j : Int) < (l.length : Int) := by omega
      simp only [f12_r18, go_sem, ↓reduceIte, Nat.reduceEqDiff, ss.s0, ss.s18, hal, c1, decide_false, Bool.false_eq_true]
      refine WS_of_cond ?_
      simp only [go_sem, ↓reduceIte, Bool.false_eq_true]
      refine WS_of_exit ?_
      simp only [go_sem, ↓reduceIte]
      refine exit ⟨ss.s0, ss.s2, ss.s3, ss.s11, ss.s13, ss.s15, ss.s16, ss.s17, ss.s18⟩
    have c1 : (j : Int) < (l.length : Int) := by omega
    cases dd with
    | true =>
      simp only [f12_r18, go_sem, ↓reduceIte, Nat.reduceEqDiff, ss.s0, ss.s18, hal, c1, decide_true, ss.s17, Bool.not_true, Bool.false_eq_true]
      refine WS_of_cond ?_
      simp only [go_sem, ↓reduceIte, Bool.false_eq_true]
      refine WS_of_exit ?_
      simp only [go_sem, ↓reduceIte]
      refine exit ⟨ss.s0, ss.s2, ss.s3, ss.s11, ss.s13, ss.s15, ss.s16, ss.s17, ss.s18⟩
    | false =>
    clear exit
    obtain rfl : D = D0 := by
      rcases hmode with ⟨_, e⟩ | ⟨e, _⟩
      · exact e
      · exact absurd e (by decide)
    simp only [f12_r18, go_sem, ↓reduceIte, Nat.reduceEqDiff, ss.s0, ss.s18, hal, c1, decide_true, ss.s17, Bool.not_false]
    refine WS_of_cond ?_
    simp only [go_sem, ↓reduceIte]
    refine WS_of_skip ?_
    simp only [go_sem]
    have h300 := hl3 _ (List.getElem_mem c)
    have hjs := jsize_few3 h300
    obtain ⟨o1, q1, v1, e1, b1, sl1, -, lo1⟩ := rec_get sa k02 c
    have lo := lo1 _ k02
    have hw : IntKind.i64.wrap ((j : Int) + 1) = ((j + 1 : Nat) : Int) := by rw [wrap_i64 (by omega) (by omega)]; omega
    refine WS_of_seq (WS_of_block (WS_of_seq (WS_of_ops ?_)))
    simp only [f12_r19, go_sem, ↓reduceIte, Nat.reduceEqDiff, ss.s13, ss.s0, ss.s18, e1, lo]
    rcases jappend_alive alv (fr := p) (to := 200) (ep := 9) (k := K.length) (b := l[j]) (by omega) (by omega) (Nat.le_refl _) (by decide) (by omega) with ⟨D', hD', al', hk'⟩ | ⟨D', hD', st'⟩
    · -- appended
      refine (jw.append wf2 k02.n b1 sl1 (by omega) (by omega) (by omega) (by omega) (by omega) (by decide) hD').mono ?_
      rintro r h3 ⟨rfl, jw3, k3⟩
      simp only [if_pos] at jw3
      have wf3 := k3.wf wf2
      have k03 := k02.trans k3
      have b3 := b1.keep k3 sl1
      have lo3 := lo1 _ k03
      have hstr := b3.str
      obtain ⟨gv', h4, e4, jw4, k4⟩ := jw3.want wf3 k03.n (by omega) l[j]
      have ef : afill (zeros [AV.str []] (1 * 1)) [(0, 1, AV.str l[j])] = some [.str l[j]] := rfl
      simp only [go_sem, ↓reduceIte, Nat.reduceEqDiff]
      refine WS_of_seq (WS_of_seq (WS_of_ops ?_))
      simp only [f12_r20, go_sem, ↓reduceIte, Nat.reduceEqDiff, (by decide : ((0 : Nat) : Int) = 0), decide_true, Bool.not_true, Bool.false_eq_true]
      refine WS_of_cond ?_
      simp only [go_sem, ↓reduceIte, Bool.false_eq_true]
      refine WS_of_skip ?_
      simp only [go_sem]
      refine WS_of_seq (WS_of_ops ?_)
      simp only [f12_r22, go_sem, ↓reduceIte, Nat.reduceEqDiff, (by decide : ¬ (0 : Int) = 20), (by decide : ((0 : Nat) : Int) = 0), decide_false]
      refine WS_of_seq (WS_of_ops ?_)
      simp only [f12_r23, go_sem, ↓reduceIte, Nat.reduceEqDiff]
      refine WS_of_cond ?_
      simp only [go_sem, ↓reduceIte, Bool.false_eq_true]
      refine WS_of_ops ?_
      simp only [f12_r25, go_sem, ↓reduceIte, Nat.reduceEqDiff, ss.s15, ss.s0, ss.s18, e1, lo3, hstr, ef, e4]
      refine WS_of_ops ?_
      simp only [f12_r26, go_sem, ↓reduceIte, Nat.reduceEqDiff, ss.s18, hw]
      refine ⟨m - 1, by omega, j + 1, false, inn, gv', by omega, ⟨ss.s0, ss.s2, ss.s3, ss.s11, ss.s13, rfl, ss.s16, rfl, rfl⟩, k03.trans k4, K ++ [l[j]], D', D', _, b, jw4, hs.more (by omega) (alv.find al' hk'), al', by simp; omega, by simp; omega, ?_, by rw [al'.wa]; simp, al'.de, .inl ⟨rfl, rfl⟩, fun e => absurd e (by decide)⟩
      intro x hx
      rcases List.mem_append.1 hx with y | y
      · exact hK3 x y
      · simp only [List.mem_cons, List.not_mem_nil, or_false] at y; subst y; exact h300
    · -- the disk stops
      refine (jw.append wf2 k02.n b1 sl1 (by omega) (by omega) (by omega) (by omega) (by omega) (by decide) hD').mono ?_
      rintro r h3 ⟨rfl, jw3, k3⟩
      simp only [(by decide : ¬ (20 : Nat) = 0), if_false] at jw3
      have wf3 := k3.wf wf2
      have k03 := k02.trans k3
      have b3 := b1.keep k3 sl1
      have lo3 := lo1 _ k03
      have hstr := b3.str
      simp only [go_sem, ↓reduceIte, Nat.reduceEqDiff]
      refine WS_of_seq (WS_of_seq (WS_of_ops ?_))
      simp only [f12_r20, go_sem, ↓reduceIte, Nat.reduceEqDiff, (by decide : ¬ ((20 : Nat) : Int) = 0), (by decide : ((20 : Nat) : Int) = 20), decide_true, decide_false, Bool.not_true, Bool.not_false]
      refine WS_of_cond ?_
      simp only [go_sem, ↓reduceIte, Bool.false_eq_true]
      refine WS_of_skip ?_
      simp only [go_sem]
      refine WS_of_seq (WS_of_ops ?_)
      simp only [f12_r22, go_sem, ↓reduceIte, Nat.reduceEqDiff, (by decide : ((20 : Nat) : Int) = 20), decide_true]
      refine WS_of_seq (WS_of_ops ?_)
      simp only [f12_r23, go_sem, ↓reduceIte, Nat.reduceEqDiff]
      refine WS_of_cond ?_
      simp only [go_sem, ↓reduceIte]
      refine WS_of_ops ?_
      simp only [f12_r24, go_sem, ↓reduceIte, Nat.reduceEqDiff, ss.s0, ss.s18, e1, lo3, hstr]
      refine WS_of_ops ?_
      simp only [f12_r26, go_sem, ↓reduceIte, Nat.reduceEqDiff, ss.s18, hw]
      refine ⟨m - 1, by omega, j + 1, true, .str l[j], gv, by omega, ⟨ss.s0, ss.s2, ss.s3, ss.s11, ss.s13, ss.s15, rfl, rfl, rfl⟩, k03, K, D, D', p, l[j], jw3, hs, alv, hp, by omega, hK3, ?_, st'.1, .inr ⟨rfl, st', h300⟩, fun _ => rfl⟩
      rcases st'.2 with ⟨q, _, e⟩ | ⟨_, e | e⟩
      · rw [e, List.length_take]
        have : (partsW p l[j]).length = nchunk l[j].length := by rw [partsW_eq]; simp
        have := nchunk_jsize l[j].length
        omega
      · rw [e]; simp
      · rw [e]; simp
  · exact ⟨0, false, .str [], .nils, by simp, ⟨rfl, rfl, rfl, rfl, rfl, rfl, rfl, rfl, rfl⟩, k03, [], _, _, 3, [], j3, hhas, hal0, by simp, by simp, by simp, by simp [Dk.new], rfl, .inl ⟨rfl, rfl⟩, fun e => absurd e (by decide)⟩
end Go.Proofs.Ytmfbememiffkjaa.Ev.C
