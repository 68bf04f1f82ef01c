/- The law DevicePlays, walked. -/
import Derived.Test.YtmfbememiffkjaaTPPlays
namespace Go.Proofs.Ytmfbememiffkjaa.Ev.C
open Go Go.Proofs.Ytmfbememiffkjaa.Ev
set_option linter.unusedSimpArgs false
set_option linter.unusedVariables false
abbrev PR : AOut → H → Prop := fun r _ => r = .val (.bool true)
abbrev KC : ACode := .seq (.seq (.ops f3_r47) (.block 5 (.loop f3_l54))) (.seq (.draw f3_r55) (.cond (.tmp 208) (.seq (.ops f3_r56) .ret) .skip))
theorem write_len (D : Dk) (i : Int) (b : Sec) : (D.write i b).1.kept.length = D.kept.length ∧ (D.write i b).1.waits.length ≤ D.waits.length + 1 := by
  unfold Dk.write
  split
  · exact ⟨rfl, by simp only; omega⟩
  split
  · exact ⟨by rw [Dk.counted_kept], by rw [Dk.counted_waits]; omega⟩
  · exact ⟨by simp only; rw [Dk.counted_kept], by simp only [List.length_append, Dk.counted_waits]; simp⟩
theorem flush_len {D : Dk} (ok : D.Ok) : D.flush.1.kept.length = D.kept.length ∧ D.flush.1.waits.length ≤ D.waits.length := by
  unfold Dk.flush
  split
  · exact ⟨by rw [Dk.counted_kept], by rw [Dk.counted_waits]; exact Nat.le_refl _⟩
  · refine ⟨?_, by simp⟩
    have := (foldS_ok (ws := D.counted.waits) ok.counted.k64 (fun w hw => (ok.counted.w w hw).2)).1
    show (D.counted.waits.foldl putS D.counted.kept).length = _
    rw [this, Dk.counted_kept]
theorem arm_len (D : Dk) (n : Int) : (D.arm n).kept.length = D.kept.length ∧ (D.arm n).waits.length = D.waits.length := by
  unfold Dk.arm; split <;> exact ⟨rfl, rfl⟩
theorem restart_len {D : Dk} (ok : D.Ok) (bs : List Bool) : (D.restart bs).kept.length = D.kept.length ∧ (D.restart bs).waits.length = 0 :=
  ⟨(keepAll_ok (ws := D.waits) (bs := bs) ok.k64 (fun w hw => (ok.w w hw).2)).1, rfl⟩
/-- a round's state -/
structure PS (x1 : AV) (n j o bw : Nat) (s : S) : Prop where
  s1 : s 1 = x1
  s7 : s 7 = .int .i64 (n : Int)
  s8 : s 8 = .ptr o 0
  s10 : s 10 = .ptr bw 0
  s11 : s 11 = .int .i64 (j : Int)
def PlaysI (hA : H) (x1 : AV) (n bw : Nat) (al : List Act) : Nat → S → H → Prop := fun m s h => ∃ j o gs D kv wv, j + m = al.length ∧ PS x1 n j o bw s ∧ Play hA h o bw gs D kv wv ∧ D.kept.length = n ∧ D.waits.length ≤ j
theorem plays_check {hA h0 : H} (wfA : hA.Wf) {x1 : AV} {n j m o bw : Nat} {gs : List Nat} {D : Dk} {kv wv : AV} {al : List Act} {s : S} {Q : AEx → S → H → Prop} (hn : n ≤ 6) (hjm : j + m = al.length) (hj : j < al.length) (hal : al.length ≤ 60)
    (p : Play hA h0 o bw gs D kv wv) (hk : D.kept.length = n) (hw : D.waits.length ≤ j + 1) (ps : PS x1 n j o bw s) (hQ : ∀ s h, (∃ m', m' < m ∧ PlaysI hA x1 n bw al m' s h) → Q .normal s h) :
    WS E0 KC [.blk 1, .code (.ops f3_r57)] Q s h0 := by
  have wf := p.k.wf wfA
  refine WS_of_seq (WS_of_seq (WS_of_ops ?_))
  simp only [f3_r47, go_sem, ↓reduceIte, Nat.reduceEqDiff]
  refine WS_of_block (WS_of_loop (fun m s h => ∃ i, i + m = n ∧ s 26 = .int .i64 (i : Int) ∧ PS x1 n j o bw s ∧ Keep (Old h0.n) h0 h) ?_ n ?_)
  · rintro m' s h ⟨i, him, s26, ⟨s1, s7, s8, s10, s11⟩, k⟩
    show WS E0 f3_l54 [] _ _ _
    have wfh := k.wf wf
    have ph := p.keep wf k
    refine WS_of_seq (WS_of_seq (WS_of_ops ?_))
    by_cases c : i < n
    · have c' : (i : Int) < (n : Int) := by omega
      simp only [f3_r48, go_sem, ↓reduceIte, Nat.reduceEqDiff, s26, s7, c', decide_true]
      refine WS_of_cond ?_
      simp only [go_sem, ↓reduceIte]
      refine WS_of_skip ?_
      simp only [go_sem]
      refine WS_of_seq (WS_of_block (WS_of_seq (WS_of_ops ?_)))
      simp only [f3_r49, go_sem, ↓reduceIte, Nat.reduceEqDiff, s26, s8]
      refine (read_spec wfh ph.d (i : Int) (by omega)).mono ?_
      rintro r h1 ⟨v, rfl, bv, ov, k1⟩
      have wf1 := k1.wf wfh
      have p1 := ph.keep wfh k1
      simp only [go_sem, ↓reduceIte, Nat.reduceEqDiff, List.getElem?_cons_zero, List.getElem?_cons_succ]
      refine WS_of_seq (WS_of_ops ?_)
      simp only [f3_r50, go_sem, ↓reduceIte, Nat.reduceEqDiff, s26, s10, p1.b.loadAgg (n := 4) rfl]
      refine (rread_spec wf1 p1.r (i : Int) (by omega) (by omega)).mono ?_
      rintro r h2 ⟨rfl, k2⟩
      have bv2 : Bytes h2 v _ := bv.keep k2 (ov.slot wf1)
      simp only [go_sem, ↓reduceIte, Nat.reduceEqDiff, List.getElem?_cons_zero, List.getElem?_cons_succ]
      refine WS_of_seq (WS_of_ops ?_)
      simp only [f3_r51, go_sem, ↓reduceIte, Nat.reduceEqDiff, bv2.str, decide_true, Bool.not_true]
      refine WS_of_cond ?_
      simp only [go_sem, ↓reduceIte, Bool.false_eq_true]
      refine WS_of_skip ?_
      simp only [go_sem]
      refine WS_of_ops ?_
      have hwi : IntKind.i64.wrap ((i : Int) + 1) = ((i + 1 : Nat) : Int) := by rw [wrap_i64 (by omega) (by omega)]; omega
      simp only [f3_r53, go_sem, ↓reduceIte, Nat.reduceEqDiff, s26, hwi]
      exact ⟨m' - 1, by omega, i + 1, by omega, rfl, ⟨s1, s7, s8, s10, s11⟩, (k.trans (k1.weaken fun q hq => Nat.lt_of_lt_of_le hq k.n)).trans (k2.weaken fun q hq => by have := k.n; have := k1.n; have : q < h0.n := hq; show q < _; omega)⟩
    · have c' : ¬ (i : Int) < (n : Int) := by omega
      simp only [f3_r48, go_sem, ↓reduceIte, Nat.reduceEqDiff, s26, s7, c', decide_false]
      refine WS_of_cond ?_
      simp only [go_sem, ↓reduceIte, Bool.false_eq_true]
      refine WS_of_exit ?_
      simp only [go_sem, ↓reduceIte]
      have hwj : IntKind.i64.wrap ((j : Int) + 1) = ((j + 1 : Nat) : Int) := by rw [wrap_i64 (by omega) (by omega)]; omega
      have lb := ph.b.load
      have lw := ph.r.ws.len
      refine WS_of_seq (WS_of_draw ?_)
      simp only [f3_r55, go_sem, ↓reduceIte, Nat.reduceEqDiff, and_self, true_and, List.filter_cons, List.filter_nil, Nat.testBit, Nat.reduceShiftRight, Nat.reduceAnd, Nat.reduceBNe, Bool.not_false, Bool.not_true, Bool.false_eq_true, bne_self_eq_false, eq_self, Nat.zero_add, s8, s10, s7, lb, List.getElem?_cons_zero, List.getElem?_cons_succ]
      refine (dead_spec ph.d).mono ?_
      rintro r h1 ⟨rfl, rfl⟩
      simp only [go_sem, ↓reduceIte, Nat.reduceEqDiff, and_self, true_and, List.filter_cons, List.filter_nil, Nat.testBit, Nat.reduceShiftRight, Nat.reduceAnd, Nat.reduceBNe, Bool.not_false, Bool.not_true, Bool.false_eq_true, bne_self_eq_false, eq_self, Nat.zero_add, s8, s10, s7, lb, List.getElem?_cons_zero, List.getElem?_cons_succ, beq_self_eq_true, lw]
      refine (waiting_spec ph.d).mono ?_
      rintro r h2 ⟨rfl, rfl⟩
      simp only [go_sem, ↓reduceIte, Nat.reduceEqDiff, and_self, true_and, List.filter_cons, List.filter_nil, Nat.testBit, Nat.reduceShiftRight, Nat.reduceAnd, Nat.reduceBNe, Bool.not_false, Bool.not_true, Bool.false_eq_true, bne_self_eq_false, eq_self, Nat.zero_add, s8, s10, s7, lb, List.getElem?_cons_zero, List.getElem?_cons_succ, beq_self_eq_true, lw, decide_true]
      refine (len_spec ph.d).mono ?_
      rintro r h3 ⟨rfl, rfl⟩
      simp only [go_sem, ↓reduceIte, Nat.reduceEqDiff, and_self, true_and, List.filter_cons, List.filter_nil, Nat.testBit, Nat.reduceShiftRight, Nat.reduceAnd, Nat.reduceBNe, Bool.not_false, Bool.not_true, Bool.false_eq_true, bne_self_eq_false, eq_self, Nat.zero_add, s8, s10, s7, lb, List.getElem?_cons_zero, List.getElem?_cons_succ, beq_self_eq_true, lw, hk, decide_true]
      refine WS_of_cond ?_
      simp only [go_sem, ↓reduceIte, Bool.false_eq_true]
      refine WS_of_skip ?_
      simp only [go_sem]
      refine WS_of_ops ?_
      simp only [f3_r57, go_sem, ↓reduceIte, Nat.reduceEqDiff, s11, hwj]
      exact hQ _ _ ⟨m - 1, by omega, j + 1, o, gs, D, kv, wv, by omega, ⟨s1, s7, s8, s10, rfl⟩, ph, hk, hw⟩
  · exact ⟨0, by omega, rfl, ⟨ps.s1, ps.s7, ps.s8, ps.s10, ps.s11⟩, Keep.refl _ _⟩
/-- a round: the act in a box of its own -/
structure Rnd (hA h1 : H) (x1 : AV) (n j o bw ba : Nat) (gs : List Nat) (D : Dk) (kv wv ub uk : AV) (a : Act) (s : S) : Prop where
  p : Play hA h1 o bw gs D kv wv
  bx : Box ba [.int .u8 (a.kind : Int), .int .i64 a.at', ub, uk] h1
  nba : ba ∉ bw :: gs
  bb : Bytes hA ub a.b
  sb : Slot (Old hA.n) hA ub
  bk : Bools hA uk a.keep
  sk : Slot (Old hA.n) hA uk
  at1 : -9223372036854775808 ≤ a.at' ∧ a.at' < 9223372036854775808
  fb : a.b.length ≤ 80 ∧ a.keep.length ≤ 60
  ps : PS x1 n j o bw s
  s12 : s 12 = .ptr ba 0
  kl : D.kept.length = n
  wl : D.waits.length ≤ j
abbrev KT : List Fr1 := [.blk 2, .code KC, .blk 1, .code (.ops f3_r57)]
theorem plays_write {hA h1 : H} (wfA : hA.Wf) {x1 : AV} {n j m o bw ba : Nat} {gs : List Nat} {D : Dk} {kv wv ub uk : AV} {a : Act} {al : List Act} {s : S} {Q : AEx → S → H → Prop} (hn : n ≤ 6) (hjm : j + m = al.length) (hj : j < al.length) (hal : al.length ≤ 60)
    (r : Rnd hA h1 x1 n j o bw ba gs D kv wv ub uk a s) (hQ : ∀ s h, (∃ m', m' < m ∧ PlaysI hA x1 n bw al m' s h) → Q .normal s h) :
    WS E0 (.seq (.ops f3_r17) (.seq (.ops f3_r18) (.seq (.ops f3_r19) (.seq (.ops f3_r20) (.cond (.tmp 119) (.seq (.ops f3_r21) .ret) .skip))))) KT Q s h1 := by
  obtain ⟨p, bx, nba, bb, sb, -, -, hat, fb, ⟨s1, s7, s8, s10, s11⟩, s12, kl, wl⟩ := r
  have wf1 := p.k.wf wfA
  refine WS_of_seq (WS_of_ops ?_)
  simp only [f3_r17, go_sem, ↓reduceIte, Nat.reduceEqDiff, Nat.zero_add, s8, s12, bx.load, List.getElem?_cons_zero, List.getElem?_cons_succ]
  have hgs : ∀ g ∈ gs, hA.n ≤ g := fun g hg => p.hg g (by simp [hg])
  have sb1 : Slot (Old hA.n) h1 ub := sb.keep p.k fun q hq => hq
  refine (write_spec wf1 p.d a.at' (bb.keep p.k sb) (sb1.apart wf1 p.k.n hgs) (by omega)).mono ?_
  rintro rr h2 ⟨gs2, rfl, d2, k2, n2⟩
  have wf2 := k2.wf wf1
  have bx2 := bx.keepA wf1 k2 (fun hm => nba (by simp [hm]))
  have hA2 : Keep (Old hA.n) hA h2 := p.k.trans (k2.old wf1 p.k.n hgs)
  have bb2 := bb.keep hA2 sb
  have bw2 := p.b.keepA wf1 k2 p.nb
  have r2 : RefIs h2 kv wv D := by
    have s1 := apart_less (gs' := gs) p.sk (fun g hg => by simp [hg])
    have s2 := apart_less (gs' := gs) p.sw (fun g hg => by simp [hg])
    exact ⟨p.r.ks.keep k2 s1, (s1.keepA k2).old, p.r.ws.keep k2 s2, (s2.keepA k2).old, p.r.ok, p.r.da⟩
  simp only [go_sem, ↓reduceIte, Nat.reduceEqDiff]
  refine WS_of_seq (WS_of_ops ?_)
  simp only [f3_r18, go_sem, ↓reduceIte, Nat.reduceEqDiff, Nat.zero_add, s10, s12, bw2.loadAgg (n := 4) rfl, bx2.load, List.getElem?_cons_zero, List.getElem?_cons_succ, bb2.str]
  refine (rwrite_spec wf2 r2 a.at' (by omega) (by omega) (by omega)).mono ?_
  rintro rr h3 ⟨cs, rfl, rt, k3⟩
  have wf3 := k3.wf wf2
  have kn : Keep (Old h3.n) h3 (h3.new [.nils, .nils, .int .i64 0, .bool false]) := Keep.new (Nat.le_refl _) _
  have bn : Box h3.n [.nils, .nils, .int .i64 0, .bool false] (h3.new [.nils, .nils, .int .i64 0, .bool false]) := Box.new wf3 _
  have wfn := kn.wf wf3
  obtain ⟨kv', wv', rfl, rr3, fk, fw⟩ := rt
  obtain ⟨h5, e5, b5, k5⟩ := bn.putAll (n := 4) (vs := dcells kv' wv' (D.write a.at' a.b).1) wfn rfl (rr3.all _ _) rfl
  have k35 : Keep (Old h3.n) h3 h5 := kn.trans (k5.newbox wfn kn.n (Nat.le_refl _))
  obtain ⟨h6, kv6, wv6, e6, ec, p6, k6⟩ := p.step wfA k2 d2 n2 ⟨kv', wv', rfl, rr3, fk, fw⟩ k3 k35
  simp only [go_sem, ↓reduceIte, Nat.reduceEqDiff, List.getElem?_cons_zero, List.getElem?_cons_succ, e5]
  refine WS_of_seq (WS_of_ops ?_)
  simp only [f3_r19, go_sem, ↓reduceIte, Nat.reduceEqDiff, s10, b5.loadAgg (n := 4) rfl, e6]
  refine WS_of_seq (WS_of_ops ?_)
  simp only [f3_r20, go_sem, ↓reduceIte, Nat.reduceEqDiff, decide_true, Bool.not_true]
  refine WS_of_cond ?_
  simp only [go_sem, ↓reduceIte, Bool.false_eq_true]
  refine WS_of_skip ?_
  simp only [go_sem]
  obtain ⟨hl1, hl2⟩ := write_len D a.at' a.b
  refine plays_check wfA hn hjm hj hal p6 (by rw [hl1]; exact kl) (by omega) ⟨?_, ?_, ?_, ?_, ?_⟩ hQ
  · exact s1
  · exact s7
  · exact s8
  · exact s10
  · exact s11
theorem plays_flush {hA h1 : H} (wfA : hA.Wf) {x1 : AV} {n j m o bw ba : Nat} {gs : List Nat} {D : Dk} {kv wv ub uk : AV} {a : Act} {al : List Act} {s : S} {Q : AEx → S → H → Prop} (hn : n ≤ 6) (hjm : j + m = al.length) (hj : j < al.length) (hal : al.length ≤ 60)
    (r : Rnd hA h1 x1 n j o bw ba gs D kv wv ub uk a s) (hQ : ∀ s h, (∃ m', m' < m ∧ PlaysI hA x1 n bw al m' s h) → Q .normal s h) :
    WS E0 (.seq (.ops f3_r23) (.seq (.ops f3_r24) (.seq (.ops f3_r25) (.seq (.ops f3_r26) (.cond (.tmp 132) (.seq (.ops f3_r27) .ret) .skip))))) KT Q s h1 := by
  obtain ⟨p, bx, nba, bb, sb, -, -, hat, fb, ⟨s1, s7, s8, s10, s11⟩, s12, kl, wl⟩ := r
  have wf1 := p.k.wf wfA
  refine WS_of_seq (WS_of_ops ?_)
  simp only [f3_r23, go_sem, ↓reduceIte, Nat.reduceEqDiff, s8]
  have hgs : ∀ g ∈ gs, hA.n ≤ g := fun g hg => p.hg g (by simp [hg])
  refine (flush_spec wf1 p.d (by omega)).mono ?_
  rintro rr h2 ⟨gs2, rfl, d2, k2, n2⟩
  have wf2 := k2.wf wf1
  have bw2 := p.b.keepA wf1 k2 p.nb
  have r2 : RefIs h2 kv wv D := by
    have s1 := apart_less (gs' := gs) p.sk (fun g hg => by simp [hg])
    have s2 := apart_less (gs' := gs) p.sw (fun g hg => by simp [hg])
    exact ⟨p.r.ks.keep k2 s1, (s1.keepA k2).old, p.r.ws.keep k2 s2, (s2.keepA k2).old, p.r.ok, p.r.da⟩
  simp only [go_sem, ↓reduceIte, Nat.reduceEqDiff]
  refine WS_of_seq (WS_of_ops ?_)
  simp only [f3_r24, go_sem, ↓reduceIte, Nat.reduceEqDiff, s10, bw2.loadAgg (n := 4) rfl]
  refine (rflush_spec wf2 r2 (by omega) (by omega)).mono ?_
  rintro rr h3 ⟨cs, rfl, rt, k3⟩
  have wf3 := k3.wf wf2
  have kn : Keep (Old h3.n) h3 (h3.new [.nils, .nils, .int .i64 0, .bool false]) := Keep.new (Nat.le_refl _) _
  have bn : Box h3.n [.nils, .nils, .int .i64 0, .bool false] (h3.new [.nils, .nils, .int .i64 0, .bool false]) := Box.new wf3 _
  have wfn := kn.wf wf3
  obtain ⟨kv', wv', rfl, rr3, fk, fw⟩ := rt
  obtain ⟨h5, e5, b5, k5⟩ := bn.putAll (n := 4) (vs := dcells kv' wv' D.flush.1) wfn rfl (rr3.all _ _) rfl
  have k35 : Keep (Old h3.n) h3 h5 := kn.trans (k5.newbox wfn kn.n (Nat.le_refl _))
  obtain ⟨h6, kv6, wv6, e6, ec, p6, k6⟩ := p.step wfA k2 d2 (fun g hg => .inl (n2 g hg)) ⟨kv', wv', rfl, rr3, fk, fw⟩ k3 k35
  simp only [go_sem, ↓reduceIte, Nat.reduceEqDiff, List.getElem?_cons_zero, List.getElem?_cons_succ, e5]
  refine WS_of_seq (WS_of_ops ?_)
  simp only [f3_r25, go_sem, ↓reduceIte, Nat.reduceEqDiff, s10, b5.loadAgg (n := 4) rfl, e6]
  refine WS_of_seq (WS_of_ops ?_)
  simp only [f3_r26, go_sem, ↓reduceIte, Nat.reduceEqDiff, decide_true, Bool.not_true]
  refine WS_of_cond ?_
  simp only [go_sem, ↓reduceIte, Bool.false_eq_true]
  refine WS_of_skip ?_
  simp only [go_sem]
  obtain ⟨hl1, hl2⟩ := flush_len p.d.ok
  refine plays_check wfA hn hjm hj hal p6 (by rw [hl1]; exact kl) (by omega) ⟨?_, ?_, ?_, ?_, ?_⟩ hQ
  · exact s1
  · exact s7
  · exact s8
  · exact s10
  · exact s11
theorem plays_arm {hA h1 : H} (wfA : hA.Wf) {x1 : AV} {n j m o bw ba : Nat} {gs : List Nat} {D : Dk} {kv wv ub uk : AV} {a : Act} {al : List Act} {s : S} {Q : AEx → S → H → Prop} (hn : n ≤ 6) (hjm : j + m = al.length) (hj : j < al.length) (hal : al.length ≤ 60)
    (r : Rnd hA h1 x1 n j o bw ba gs D kv wv ub uk a s) (hQ : ∀ s h, (∃ m', m' < m ∧ PlaysI hA x1 n bw al m' s h) → Q .normal s h) :
    WS E0 (.seq (.ops f3_r29) (.ops f3_r30)) KT Q s h1 := by
  obtain ⟨p, bx, nba, bb, sb, -, -, hat, fb, ⟨s1, s7, s8, s10, s11⟩, s12, kl, wl⟩ := r
  have wf1 := p.k.wf wfA
  refine WS_of_seq (WS_of_ops ?_)
  simp only [f3_r29, go_sem, ↓reduceIte, Nat.reduceEqDiff, Nat.zero_add, s8, s12, bx.load, List.getElem?_cons_zero, List.getElem?_cons_succ]
  refine (arm_spec wf1 p.d a.at' hat.2).mono ?_
  rintro rr h2 ⟨rfl, d2, k2⟩
  have wf2 := k2.wf wf1
  have bx2 := bx.keepA wf1 k2 (fun hm => nba (by simp [hm]))
  have bw2 := p.b.keepA wf1 k2 p.nb
  have r2 : RefIs h2 kv wv D := by
    have s1 := apart_less (gs' := gs) p.sk (fun g hg => by simp [hg])
    have s2 := apart_less (gs' := gs) p.sw (fun g hg => by simp [hg])
    exact ⟨p.r.ks.keep k2 s1, (s1.keepA k2).old, p.r.ws.keep k2 s2, (s2.keepA k2).old, p.r.ok, p.r.da⟩
  simp only [go_sem, ↓reduceIte, Nat.reduceEqDiff]
  refine WS_of_ops ?_
  simp only [f3_r30, go_sem, ↓reduceIte, Nat.reduceEqDiff, Nat.zero_add, s10, s12, bw2.loadAgg (n := 4) rfl, bx2.load, List.getElem?_cons_zero, List.getElem?_cons_succ]
  refine (rarm_spec wf2 r2 a.at' hat.2).mono ?_
  rintro rr h3 ⟨cs, rfl, rt, k3⟩
  obtain ⟨h6, kv6, wv6, e6, ec, p6, k6⟩ := p.step wfA k2 d2 (Next.refl _ _) rt k3 (Keep.refl _ _)
  simp only [go_sem, ↓reduceIte, Nat.reduceEqDiff, s10, e6]
  obtain ⟨hl1, hl2⟩ := arm_len D a.at'
  refine plays_check wfA hn hjm hj hal p6 (by rw [hl1]; exact kl) (by omega) ⟨?_, ?_, ?_, ?_, ?_⟩ hQ
  · exact s1
  · exact s7
  · exact s8
  · exact s10
  · exact s11
theorem plays_restart {hA h1 : H} (wfA : hA.Wf) {x1 : AV} {n j m o bw ba : Nat} {gs : List Nat} {D : Dk} {kv wv ub uk : AV} {a : Act} {al : List Act} {s : S} {Q : AEx → S → H → Prop} (hn : n ≤ 6) (hjm : j + m = al.length) (hj : j < al.length) (hal : al.length ≤ 60)
    (r : Rnd hA h1 x1 n j o bw ba gs D kv wv ub uk a s) (hQ : ∀ s h, (∃ m', m' < m ∧ PlaysI hA x1 n bw al m' s h) → Q .normal s h) :
    WS E0 (.seq (.ops f3_r32) (.seq (.ops f3_r33) (.seq (.ops f3_r34) (.seq (.ops f3_r35) (.seq (.ops f3_r36) (.cond (.tmp 163) (.seq (.ops f3_r37) .ret) .skip)))))) KT Q s h1 := by
  obtain ⟨p, bx, nba, bb, sb, bk, sk, hat, fb, ⟨s1, s7, s8, s10, s11⟩, s12, kl, wl⟩ := r
  have wf1 := p.k.wf wfA
  refine WS_of_seq (WS_of_ops ?_)
  simp only [f3_r32, go_sem, ↓reduceIte, Nat.reduceEqDiff, s8]
  refine WS_of_seq (WS_of_ops ?_)
  simp only [f3_r33, go_sem, ↓reduceIte, Nat.reduceEqDiff, s8]
  refine (waiting_spec p.d).mono ?_
  rintro rr h1' ⟨rfl, rfl⟩
  simp only [go_sem, ↓reduceIte, Nat.reduceEqDiff]
  refine WS_of_seq (WS_of_ops ?_)
  simp only [f3_r34, go_sem, ↓reduceIte, Nat.reduceEqDiff, Nat.zero_add, s8, s12, bx.load, List.getElem?_cons_zero, List.getElem?_cons_succ]
  have sk1 : Slot (Old h1'.n) h1' uk := sk.keep p.k fun q hq => Nat.lt_of_lt_of_le hq p.k.n
  refine (restart_spec wf1 p.d (bs := a.keep) (bk.keep p.k sk) sk1 (by omega) (by omega)).mono ?_
  rintro rr h2 ⟨o2, gs2, rfl, d2, k2, n2⟩
  have wf2 := k2.wf wf1
  have bx2 := bx.keep k2 (bx.lt wf1)
  have bw2 := p.b.keep k2 (p.b.lt wf1)
  have r2 := p.r.keep k2
  have hA2 : Keep (Old hA.n) hA h2 := p.k.trans (k2.weaken fun q hq => Nat.lt_of_lt_of_le hq p.k.n)
  have bk2 : Bools h2 uk a.keep := bk.keep hA2 sk
  have sk2 : Slot (Old h2.n) h2 uk := sk.keep hA2 fun q hq => Nat.lt_of_lt_of_le hq hA2.n
  simp only [go_sem, ↓reduceIte, Nat.reduceEqDiff]
  refine WS_of_seq (WS_of_ops ?_)
  simp only [f3_r35, go_sem, ↓reduceIte, Nat.reduceEqDiff, Nat.zero_add, s10, s12, bw2.loadAgg (n := 4) rfl, bx2.load, List.getElem?_cons_zero, List.getElem?_cons_succ]
  refine (rrestart_spec wf2 r2 bk2 sk2 (by omega) (by omega)).mono ?_
  rintro rr h3 ⟨cs, rfl, rt, k3⟩
  obtain ⟨h6, kv6, wv6, e6, ec, p6, k6⟩ := p.step wfA (KeepA.of k2) d2 (fun g hg => .inr (n2 g hg)) rt k3 (Keep.refl _ _)
  simp only [go_sem, ↓reduceIte, Nat.reduceEqDiff, s10, e6]
  -- the old disk is as it was
  have wf3 := k3.wf wf2
  have dold : DiskAt h6 o gs D := ((p.d.keep wf1 k2).keep wf2 k3).apart wf3 p.nb ((bw2.keep k3 (bw2.lt wf2)).root) k6
  refine WS_of_seq (WS_of_ops ?_)
  simp only [f3_r36, go_sem, ↓reduceIte, Nat.reduceEqDiff]
  refine (waiting_spec dold).mono ?_
  rintro rr h7 ⟨rfl, rfl⟩
  simp only [go_sem, ↓reduceIte, Nat.reduceEqDiff, decide_true, Bool.not_true]
  refine WS_of_cond ?_
  simp only [go_sem, ↓reduceIte, Bool.false_eq_true]
  refine WS_of_skip ?_
  simp only [go_sem]
  obtain ⟨hl1, hl2⟩ := restart_len p.d.ok a.keep
  refine plays_check wfA hn hjm hj hal p6 (by rw [hl1]; exact kl) (by omega) ⟨?_, ?_, ?_, ?_, ?_⟩ hQ
  · exact s1
  · exact s7
  · rfl
  · exact s10
  · exact s11
theorem wrap_u8_one (x : UInt8) : IntKind.u8.wrap ((x.toNat : Int) + 1) = ((x + 1).toNat : Int) := by
  have h := x.toNat_lt
  have e : (x + 1).toNat = (x.toNat + 1) % 256 := by rw [UInt8.toNat_add]; rfl
  rw [e]
  by_cases c : x.toNat = 255
  · rw [c]; rfl
  · rw [wrap_u8 (by omega) (by omega), Nat.mod_eq_of_lt (by omega)]
    omega
theorem plays_read {hA h1 : H} (wfA : hA.Wf) {x1 : AV} {n j m o bw ba : Nat} {gs : List Nat} {D : Dk} {kv wv ub uk : AV} {a : Act} {al : List Act} {s : S} {Q : AEx → S → H → Prop} (hn : n ≤ 6) (hjm : j + m = al.length) (hj : j < al.length) (hal : al.length ≤ 60)
    (r : Rnd hA h1 x1 n j o bw ba gs D kv wv ub uk a s) (hQ : ∀ s h, (∃ m', m' < m ∧ PlaysI hA x1 n bw al m' s h) → Q .normal s h) :
    WS E0 (.seq (.ops f3_r38) (.seq (.ops f3_r39) (.seq (.seq (.ops f3_r40) (.cond (.tmp 85) (.seq (.ops f3_r41) .ret) .skip)) (.seq (.ops f3_r42) (.block 3 (.loop f3_l46)))))) KT Q s h1 := by
  obtain ⟨p, bx, nba, bb, sb, bk, sk, hat, fb, ⟨s1, s7, s8, s10, s11⟩, s12, kl, wl⟩ := r
  have wf1 := p.k.wf wfA
  refine WS_of_seq (WS_of_ops ?_)
  simp only [f3_r38, go_sem, ↓reduceIte, Nat.reduceEqDiff, Nat.zero_add, s8, s12, bx.load, List.getElem?_cons_zero, List.getElem?_cons_succ]
  refine (read_spec wf1 p.d a.at' (by omega)).mono ?_
  rintro rr h2 ⟨v, rfl, bv, ov, k2⟩
  have wf2 := k2.wf wf1
  have p2 := p.keep wf1 k2
  have bx2 := bx.keep k2 (bx.lt wf1)
  simp only [go_sem, ↓reduceIte, Nat.reduceEqDiff, List.getElem?_cons_zero, List.getElem?_cons_succ]
  refine WS_of_seq (WS_of_ops ?_)
  simp only [f3_r39, go_sem, ↓reduceIte, Nat.reduceEqDiff, Nat.zero_add, s10, s12, p2.b.loadAgg (n := 4) rfl, bx2.load, List.getElem?_cons_zero, List.getElem?_cons_succ]
  refine (rread_spec wf2 p2.r a.at' (by omega) (by omega)).mono ?_
  rintro rr h3 ⟨rfl, k3⟩
  have wf3 := k3.wf wf2
  have slv := ov.slot wf2
  have bv3 : Bytes h3 v _ := bv.keep k3 slv
  have ov3 := ov.keep slv k3
  simp only [go_sem, ↓reduceIte, Nat.reduceEqDiff, List.getElem?_cons_zero, List.getElem?_cons_succ]
  refine WS_of_seq (WS_of_seq (WS_of_ops ?_))
  simp only [f3_r40, go_sem, ↓reduceIte, Nat.reduceEqDiff, bv3.str, decide_true, Bool.not_true]
  refine WS_of_cond ?_
  simp only [go_sem, ↓reduceIte, Bool.false_eq_true]
  refine WS_of_skip ?_
  simp only [go_sem]
  refine WS_of_seq (WS_of_ops ?_)
  simp only [f3_r42, go_sem, ↓reduceIte, Nat.reduceEqDiff]
  have k13 : Keep (Old h1.n) h1 h3 := k2.trans (k3.weaken fun q hq => Nat.lt_of_lt_of_le hq k2.n)
  have hbl : (D.read a.at').1.length < 1000000 := by
    have hok := p.d.ok
    unfold Dk.read
    split
    · simp
    · split
      · simp
      · rename_i h1 h2
        have hh : D.has a.at' = true := by cases e : D.has a.at' with
          | true => rfl
          | false => exact absurd e h1
        obtain ⟨i, hi, hi2⟩ := has_iff.1 hh
        rw [hi, Int.toNat_natCast]
        have := findS_len hok hi2
        simp only
        omega
  generalize (D.read a.at').1 = bs0 at bv3 hbl
  refine WS_of_block (WS_of_loop (fun m s h => ∃ i bs, i + m = bs0.length ∧ bs.length = bs0.length ∧ s 25 = .int .i64 (i : Int) ∧ s 21 = v ∧ PS x1 n j o bw s ∧ Keep (Old h1.n) h1 h ∧ Bytes h v bs ∧ (v = .nils ∨ ∃ g, h1.n ≤ g ∧ Grp g h v)) ?_ bs0.length ?_)
  · rintro m' s h ⟨i, bs, him, hbs, s25, s21, ⟨s1, s7, s8, s10, s11⟩, k, b, own⟩
    show WS E0 f3_l46 [] _ _ _
    have wfh := k.wf wf1
    have bl := b.len
    refine WS_of_seq (WS_of_seq (WS_of_ops ?_))
    by_cases c : i < bs.length
    · have c' : (i : Int) < (bs.length : Int) := by omega
      simp only [f3_r43, go_sem, ↓reduceIte, Nat.reduceEqDiff, s25, s21, bl, c', decide_true]
      refine WS_of_cond ?_
      simp only [go_sem, ↓reduceIte]
      refine WS_of_skip ?_
      simp only [go_sem]
      rcases own with rfl | ⟨g, hg, gg⟩
      · have := not_nils b; omega
      obtain ⟨q, h4, eq, lq, sq, b4, g4, k4⟩ := Bytes.put wfh b gg c (bs[i] + 1)
      refine WS_of_seq (WS_of_block (WS_of_ops ?_))
      simp only [f3_r44, go_sem, ↓reduceIte, Nat.reduceEqDiff, s25, s21, eq, lq, wrap_u8_one, sq]
      refine WS_of_ops ?_
      have hwi : IntKind.i64.wrap ((i : Int) + 1) = ((i + 1 : Nat) : Int) := by rw [wrap_i64 (by omega) (by omega)]; omega
      simp only [f3_r45, go_sem, ↓reduceIte, Nat.reduceEqDiff, s25, hwi]
      exact ⟨m' - 1, by omega, i + 1, _, by omega, by rw [List.length_set]; exact hbs, rfl, s21, ⟨s1, s7, s8, s10, s11⟩, k.trans (k4.old wfh k.n (by simpa using hg)), b4, .inr ⟨g, hg, g4⟩⟩
    · have c' : ¬ (i : Int) < (bs.length : Int) := by omega
      simp only [f3_r43, go_sem, ↓reduceIte, Nat.reduceEqDiff, s25, s21, bl, c', decide_false]
      refine WS_of_cond ?_
      simp only [go_sem, ↓reduceIte, Bool.false_eq_true]
      refine WS_of_exit ?_
      simp only [go_sem, ↓reduceIte]
      refine plays_check wfA hn hjm hj hal (p.keep wf1 k) kl (by omega) ⟨?_, ?_, ?_, ?_, ?_⟩ hQ
      · exact s1
      · exact s7
      · exact s8
      · exact s10
      · exact s11
  · exact ⟨0, bs0, by omega, rfl, rfl, rfl, ⟨s1, s7, s8, s10, s11⟩, k13, bv3, ov3.grp⟩
theorem plays_answer {h0 : H} (wf : h0.Wf) {q : Nat} {x1 : AV} {al : List Act} (hq : q < 256) (t : SliceR 4 ActR h0 [x1] al) : WCall E0 3 [.int .u8 (q : Int), x1] h0 fun r _ => r = .val (.bool true) := by
  refine WCall_ws (ovn 3) U3 (by simp [f3_a]) ?_
  show WS E0 f3_c [] _ _ _
  refine WS_of_seq (WS_of_ops ?_)
  simp only [f3_r0, go_sem, ↓reduceIte]
  refine WS_of_seq (WS_of_ops ?_)
  simp only [f3_r1, go_sem, ↓reduceIte, Nat.reduceEqDiff]
  refine WCall_ov (g := yes) rfl rfl ?_
  simp only [go_sem, ↓reduceIte, Nat.reduceEqDiff]
  refine WS_of_seq (WS_of_seq (WS_of_ops ?_))
  simp only [f3_r2, go_sem, ↓reduceIte, Nat.reduceEqDiff]
  refine WS_of_cond ?_
  simp only [go_sem, ↓reduceIte, Nat.reduceEqDiff, Bool.not_true, Bool.false_eq_true]
  refine WS_of_skip ?_
  simp only [go_sem]
  refine WS_of_seq (WS_of_ops ?_)
  simp only [f3_r4, go_sem, ↓reduceIte, Nat.reduceEqDiff]
  refine (few_spec t).mono ?_
  rintro r h1 ⟨hh, rfl⟩
  have hh' := hh.symm
  subst hh'
  simp only [go_sem, ↓reduceIte, Nat.reduceEqDiff]
  refine WS_of_seq (WS_of_ops ?_)
  have hc : IntKind.i64.wrap (q : Int) = (q : Int) := wrap_i64 (by omega) (by omega)
  have hm : Int.tmod (q : Int) 6 = ((q % 6 : Nat) : Int) := by rw [Int.ofNat_tmod]; rfl
  have hw : IntKind.i64.wrap (((q % 6 : Nat) : Int) + 1) = ((q % 6 + 1 : Nat) : Int) := by rw [wrap_i64 (by omega) (by omega)]; omega
  simp only [f3_r5, go_sem, ↓reduceIte, Nat.reduceEqDiff, hc, hm, hw, (by decide : ¬ (6 : Int) = 0)]
  refine WS_of_seq (WS_of_seq (WS_of_ops ?_))
  cases hf : few al with
  | false =>
    simp only [f3_r6, go_sem, ↓reduceIte, Nat.reduceEqDiff, Bool.not_false]
    refine WS_of_cond ?_
    simp only [go_sem, ↓reduceIte]
    refine WS_of_seq (WS_of_ops ?_)
    simp only [f3_r7, go_sem, ↓reduceIte, Nat.reduceEqDiff]
    refine WS_of_ret ?_
    simp only [f3_a, go_sem, ↓reduceIte, Nat.reduceEqDiff]
  | true =>
  obtain ⟨hl, hfew⟩ := few_of hf
  simp only [f3_r6, go_sem, ↓reduceIte, Nat.reduceEqDiff, Bool.not_true]
  refine WS_of_cond ?_
  simp only [go_sem, ↓reduceIte, Bool.false_eq_true]
  refine WS_of_skip ?_
  simp only [go_sem]
  refine WS_of_seq (WS_of_ops ?_)
  simp only [f3_r8, go_sem, ↓reduceIte, Nat.reduceEqDiff]
  generalize hn : q % 6 + 1 = n
  have hn1 : 1 ≤ n := by omega
  have hn6 : n ≤ 6 := by omega
  refine (new_spec wf (n := n) (by omega) (by omega)).mono ?_
  rintro r h2 ⟨o, gs, rfl, d2, k2, hg2⟩
  have wf2 := k2.wf wf
  simp only [go_sem, ↓reduceIte, Nat.reduceEqDiff, List.getElem?_cons_zero, List.getElem?_cons_succ]
  refine WS_of_seq (WS_of_seq (WS_of_ops ?_))
  simp only [f3_r9, go_sem, ↓reduceIte, Nat.reduceEqDiff, decide_true, Bool.not_true]
  refine WS_of_cond ?_
  simp only [go_sem, ↓reduceIte, Nat.reduceEqDiff, Bool.false_eq_true]
  refine WS_of_skip ?_
  simp only [go_sem]
  refine WS_of_seq (WS_of_ops ?_)
  simp only [f3_r11, go_sem, ↓reduceIte, Nat.reduceEqDiff]
  refine (rnew_spec wf2 (n := n) (by omega) (by omega)).mono ?_
  rintro r h3 ⟨cs, rfl, ⟨kv, wv, rfl, r3, fk, fw⟩, k3⟩
  have wf3 := k3.wf wf2
  have kn : Keep (Old h3.n) h3 (h3.new [.nils, .nils, .int .i64 0, .bool false]) := Keep.new (Nat.le_refl _) _
  have bn : Box h3.n [.nils, .nils, .int .i64 0, .bool false] (h3.new [.nils, .nils, .int .i64 0, .bool false]) := Box.new wf3 _
  have wfn := kn.wf wf3
  obtain ⟨h5, e5, b5, k5⟩ := bn.putAll (n := 4) (vs := dcells kv wv (Dk.new n)) wfn rfl (r3.all _ _) rfl
  have k35 : Keep (Old h3.n) h3 h5 := kn.trans (k5.newbox wfn kn.n (Nat.le_refl _))
  have wf5 := k35.wf wf3
  simp only [go_sem, ↓reduceIte, Nat.reduceEqDiff, e5]
  have hlt : ∀ g ∈ gs, g < h2.n := d2.lt wf2
  have d3 := d2.keep wf2 k3
  have d5 := d3.keep wf3 k35
  have k05 : Keep (Old h0.n) h0 h5 := (k2.trans (k3.weaken fun q hq => Nat.lt_of_lt_of_le hq k2.n)).trans (k35.weaken fun q hq => by have := k2.n; have := k3.n; have : q < h0.n := hq; show q < _; omega)
  have hroot2 : ∀ g ∈ gs, g < h2.n ∧ Root g h2 := fun g hg => ⟨hlt g hg, d2.root g hg⟩
  have ap : ∀ {v : AV}, (v = .nils ∨ Own h2.n h3 v) → Slot (Old h3.n) h3 v → Slot (Apart (h3.n :: gs) h5) h5 v := by
    intro v f sl
    have s3 := from_apart wf3 f k3 hroot2 (show Slot (Apart gs h2) h2 .nils from trivial)
    refine (Slot.next wf3 s3 (KeepA.of k35) fun g hg => ?_)
    rcases List.mem_cons.1 hg with rfl | hg
    · exact .inr (Nat.le_refl _)
    · exact .inl hg
  have P0 : Play h0 h5 o h3.n gs (Dk.new n) kv wv := by
    refine ⟨d5, b5, r3.keep k35, ap fk r3.sk, ap fw r3.sw, fun hm => by have := hlt _ hm; have := k3.n; omega, fun g hg => ?_, k05⟩
    rcases List.mem_cons.1 hg with rfl | hg
    · have := k2.n; have := k3.n; omega
    · exact hg2 g hg
  refine WS_of_seq (WS_of_seq (WS_of_ops ?_))
  simp only [f3_r12, go_sem, ↓reduceIte, Nat.reduceEqDiff]
  refine WS_of_block (WS_of_loop (PlaysI h0 x1 n h3.n al) ?_ al.length ?_)
  · rintro m s h ⟨j, o', gs', D, kv', wv', hjm, ⟨s1, s7, s8, s10, s11⟩, p, hk, hwl⟩
    show WS E0 f3_l58 [] _ _ _
    have wfh := p.k.wf wf
    have tl := t.len
    refine WS_of_seq (WS_of_seq (WS_of_ops ?_))
    by_cases c : j < al.length
    · have c' : (j : Int) < (al.length : Int) := by omega
      simp only [f3_r13, go_sem, ↓reduceIte, Nat.reduceEqDiff, s11, s1, tl.1, c', decide_true]
      refine WS_of_cond ?_
      simp only [go_sem, ↓reduceIte]
      refine WS_of_skip ?_
      simp only [go_sem]
      obtain ⟨pp, ub, uk, e, ⟨bb, sb⟩, ⟨bk, sk⟩, hat, ld⟩ := acts_agg t c
      have ld1 := ld h p.k
      have hub := one_of_len bb.len
      have huk := one_of_len bk.len
      have ka : Keep (Old h.n) h (h.new [.int .u8 0, .int .i64 0, .nils, .nils]) := Keep.new (Nat.le_refl _) _
      have ba : Box h.n [.int .u8 0, .int .i64 0, .nils, .nils] (h.new [.int .u8 0, .int .i64 0, .nils, .nils]) := Box.new wfh _
      have wfa := ka.wf wfh
      have hall : ([.int .u8 (al[j].kind : Int), .int .i64 al[j].at', ub, uk] : List AV).all AV.one = true := by
        simp only [List.all_cons, hub.1, huk.1, List.all_nil]; rfl
      obtain ⟨h6, e6, b6, k6⟩ := ba.putAll (n := 4) (vs := [.int .u8 (al[j].kind : Int), .int .i64 al[j].at', ub, uk]) wfa rfl hall rfl
      have k16 : Keep (Old h.n) h h6 := ka.trans (k6.newbox wfa ka.n (Nat.le_refl _))
      have p6 := p.keep wfh k16
      refine WS_of_seq (WS_of_block (WS_of_seq (WS_of_ops ?_)))
      simp only [f3_r14, go_sem, ↓reduceIte, Nat.reduceEqDiff, s1, s11, e, ld1, e6]
      refine WS_of_seq (WS_of_seq (WS_of_ops ?_))
      simp only [f3_r15, go_sem, ↓reduceIte, Nat.reduceEqDiff, Nat.zero_add, b6.load, List.getElem?_cons_zero]
      have hnba : h.n ∉ h3.n :: gs' := fun hm => by
        rcases List.mem_cons.1 hm with hm | hm
        · have := p.b.lt wfh; omega
        · have := p.d.lt wfh _ hm; omega
      have R : ∀ {s' : S}, s' 1 = x1 → s' 7 = .int .i64 (n : Int) → s' 8 = .ptr o' 0 → s' 10 = .ptr h3.n 0 → s' 11 = .int .i64 (j : Int) → s' 12 = .ptr h.n 0 → Rnd h0 h6 x1 n j o' h3.n h.n gs' D kv' wv' ub uk al[j] s' :=
        fun a1 a7 a8 a10 a11 a12 => ⟨p6, b6, hnba, bb, sb, bk, sk, hat.2, hfew _ (List.getElem_mem c), ⟨a1, a7, a8, a10, a11⟩, a12, hk, hwl⟩
      refine WS_of_block (WS_of_seq (WS_of_ops ?_))
      by_cases c0 : (al[j].kind : Int) = 0
      · simp only [f3_r16, go_sem, ↓reduceIte, Nat.reduceEqDiff, c0, decide_true]
        refine WS_of_cond ?_
        simp only [go_sem, ↓reduceIte]
        refine plays_write wf hn6 hjm c hl (R ?_ ?_ ?_ ?_ ?_ ?_) (fun s h x => x)
        · exact s1
        · exact s7
        · exact s8
        · exact s10
        · exact s11
        · rfl
      simp only [f3_r16, go_sem, ↓reduceIte, Nat.reduceEqDiff, c0, decide_false]
      refine WS_of_cond ?_
      simp only [go_sem, ↓reduceIte, Bool.false_eq_true]
      refine WS_of_seq (WS_of_ops ?_)
      by_cases c1 : (al[j].kind : Int) = 1
      · simp only [f3_r22, go_sem, ↓reduceIte, Nat.reduceEqDiff, c1, decide_true]
        refine WS_of_cond ?_
        simp only [go_sem, ↓reduceIte]
        refine plays_flush wf hn6 hjm c hl (R ?_ ?_ ?_ ?_ ?_ ?_) (fun s h x => x)
        · exact s1
        · exact s7
        · exact s8
        · exact s10
        · exact s11
        · rfl
      simp only [f3_r22, go_sem, ↓reduceIte, Nat.reduceEqDiff, c1, decide_false]
      refine WS_of_cond ?_
      simp only [go_sem, ↓reduceIte, Bool.false_eq_true]
      refine WS_of_seq (WS_of_ops ?_)
      by_cases c2 : (al[j].kind : Int) = 2
      · simp only [f3_r28, go_sem, ↓reduceIte, Nat.reduceEqDiff, c2, decide_true]
        refine WS_of_cond ?_
        simp only [go_sem, ↓reduceIte]
        refine plays_arm wf hn6 hjm c hl (R ?_ ?_ ?_ ?_ ?_ ?_) (fun s h x => x)
        · exact s1
        · exact s7
        · exact s8
        · exact s10
        · exact s11
        · rfl
      simp only [f3_r28, go_sem, ↓reduceIte, Nat.reduceEqDiff, c2, decide_false]
      refine WS_of_cond ?_
      simp only [go_sem, ↓reduceIte, Bool.false_eq_true]
      refine WS_of_seq (WS_of_ops ?_)
      by_cases c3 : (al[j].kind : Int) = 3
      · simp only [f3_r31, go_sem, ↓reduceIte, Nat.reduceEqDiff, c3, decide_true]
        refine WS_of_cond ?_
        simp only [go_sem, ↓reduceIte]
        refine plays_restart wf hn6 hjm c hl (R ?_ ?_ ?_ ?_ ?_ ?_) (fun s h x => x)
        · exact s1
        · exact s7
        · exact s8
        · exact s10
        · exact s11
        · rfl
      simp only [f3_r31, go_sem, ↓reduceIte, Nat.reduceEqDiff, c3, decide_false]
      refine WS_of_cond ?_
      simp only [go_sem, ↓reduceIte, Bool.false_eq_true]
      refine plays_read wf hn6 hjm c hl (R ?_ ?_ ?_ ?_ ?_ ?_) (fun s h x => x)
      · exact s1
      · exact s7
      · exact s8
      · exact s10
      · exact s11
      · rfl
    · have c' : ¬ (j : Int) < (al.length : Int) := by omega
      simp only [f3_r13, go_sem, ↓reduceIte, Nat.reduceEqDiff, s11, s1, tl.1, c', decide_false]
      refine WS_of_cond ?_
      simp only [go_sem, ↓reduceIte, Bool.false_eq_true]
      refine WS_of_exit ?_
      simp only [go_sem, ↓reduceIte]
      refine WS_of_seq (WS_of_ops ?_)
      simp only [f3_r59, go_sem, ↓reduceIte, Nat.reduceEqDiff]
      refine WS_of_ret ?_
      simp only [f3_a, go_sem, ↓reduceIte, Nat.reduceEqDiff]
  · exact ⟨0, o, gs, Dk.new n, kv, wv, by omega, ⟨rfl, rfl, rfl, rfl, rfl⟩, P0, by simp [Dk.new], by simp [Dk.new]⟩
end Go.Proofs.Ytmfbememiffkjaa.Ev.C
