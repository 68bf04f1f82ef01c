/- The reference of the law 03, walked: its small functions. -/
import Derived.Test.YtmfbememiffkjaaTActK
namespace Go.Proofs.Ytmfbememiffkjaa.Ev.C
open Go Go.Proofs.Ytmfbememiffkjaa.Ev
set_option linter.unusedSimpArgs false
set_option linter.unusedVariables false
def rcell (w : Nat × Sec) : List AV := [.int .i64 (w.1 : Int), .str w.2]
abbrev rcells (l : List (Nat × Sec)) : List AV := l.flatMap rcell
theorem rcells_one (l : List (Nat × Sec)) : (rcells l).all AV.one = true := by
  rw [List.all_eq_true]
  intro x hx
  obtain ⟨w, _, hw⟩ := List.mem_flatMap.1 hx
  simp only [rcell, List.mem_cons, List.not_mem_nil, or_false] at hw
  rcases hw with rfl | rfl <;> rfl
/-- the reference's disk: four cells -/
structure RefIs (h : H) (kv wv : AV) (D : Dk) : Prop where
  ks : Strs h kv D.kept
  sk : Slot (Old h.n) h kv
  ws : Sl h 2 wv D.waits.length (rcells D.waits)
  sw : Slot (Old h.n) h wv
  ok : D.Ok
  da : D.dead = true → D.armed = 0
abbrev dcells (kv wv : AV) (D : Dk) : List AV := [kv, wv, .int .i64 (D.armed : Int), .bool D.dead]
def RefD (h : H) (cs : List AV) (D : Dk) : Prop := ∃ kv wv, cs = dcells kv wv D ∧ RefIs h kv wv D
theorem RefIs.keep {h h' : H} {kv wv : AV} {D : Dk} (r : RefIs h kv wv D) (k : Keep (Old h.n) h h') : RefIs h' kv wv D :=
  ⟨r.ks.keep k r.sk, r.sk.keep k fun o ho => Nat.lt_of_lt_of_le ho k.n, r.ws.keep k r.sw, r.sw.keep k fun o ho => Nat.lt_of_lt_of_le ho k.n, r.ok, r.da⟩
theorem RefD.keep {h h' : H} {cs : List AV} {D : Dk} (r : RefD h cs D) (k : Keep (Old h.n) h h') : RefD h' cs D := by
  obtain ⟨kv, wv, e, r⟩ := r
  exact ⟨kv, wv, e, r.keep k⟩
/-- what a call of the reference makes of a disk: each slice the old one or a new one -/
def RefTo (h h' : H) (kv wv : AV) (cs : List AV) (D : Dk) : Prop := ∃ kv' wv', cs = dcells kv' wv' D ∧ RefIs h' kv' wv' D ∧ (kv' = kv ∨ Own h.n h' kv') ∧ (wv' = wv ∨ Own h.n h' wv')
theorem from_apart {h h' : H} (wf' : h'.Wf) {v v' : AV} (f : v' = v ∨ Own h.n h' v') (k : Keep (Old h.n) h h') {gs : List Nat} (hg : ∀ g ∈ gs, g < h.n ∧ Root g h) (s : Slot (Apart gs h) h v) : Slot (Apart gs h') h' v' := by
  rcases f with rfl | o
  · exact s.keepA (KeepA.of k)
  · exact o.away wf' fun g hgm => ⟨(hg g hgm).1, (hg g hgm).2.keep k (hg g hgm).1⟩
theorem RefIs.one {h : H} {kv wv : AV} {D : Dk} (r : RefIs h kv wv D) : (kv.cells = [kv] ∧ kv.one = true) ∧ wv.cells = [wv] ∧ wv.one = true :=
  ⟨⟨(one_of_len r.ks.len).2, (one_of_len r.ks.len).1⟩, (one_of_len r.ws.len).2, (one_of_len r.ws.len).1⟩
theorem RefIs.all {h : H} {kv wv : AV} {D : Dk} (r : RefIs h kv wv D) (x : Int) (b : Bool) : ([kv, wv, .int .i64 x, .bool b] : List AV).all AV.one = true := by
  simp only [List.all_cons, r.one.1.2, r.one.2.2, List.all_nil]
  rfl
theorem agg_cells (cs : List AV) : (AV.agg cs).cells = cs := rfl

abbrev zsec0 : Sec := List.replicate 64 0
theorem rpad_spec {h : H} {b : Sec} (hb : b.length < 1000000) : WCall E0 42 [.str b] h fun r h' => h' = h ∧ r = .val (.str (pad b)) := by
  refine WCall_ws (ovn 42) U42 (by simp [f42_a]) ?_
  show WS E0 f42_c [] _ _ _
  refine WS_of_seq (WS_of_ops ?_)
  simp only [f42_r0, go_sem, ↓reduceIte]
  refine WS_of_seq (WS_of_block (WS_of_loop (fun m s h' => ∃ i, i + m = (pad b).length ∧ b.length ≤ i ∧ s 0 = .str (b ++ List.replicate (i - b.length) 0) ∧ h' = h) ?_ ((pad b).length - b.length) ?_))
  · rintro m s h' ⟨i, him, hbi, s0, rfl⟩
    show WS E0 f42_l3 [] _ _ _
    have hlen : (b ++ List.replicate (i - b.length) 0).length = i := by simp; omega
    have hpl : (pad b).length = b.length + (64 - b.length) := by simp [pad]
    refine WS_of_seq (WS_of_seq (WS_of_ops ?_))
    by_cases ci : i < 64
    · have ci' : (i : Int) < 64 := by omega
      simp only [f42_r1, go_sem, ↓reduceIte, Nat.reduceEqDiff, s0, hlen, ci', decide_true]
      refine WS_of_cond ?_
      simp only [go_sem, ↓reduceIte]
      refine WS_of_skip ?_
      simp only [go_sem]
      refine WS_of_block (WS_of_ops ?_)
      have hbig : i + 1 ≤ big := by unfold big; omega
      have happ : b ++ List.replicate (i - b.length) 0 ++ [0] = b ++ List.replicate (i + 1 - b.length) 0 := by
        rw [List.append_assoc, show i + 1 - b.length = i - b.length + 1 by omega, List.replicate_succ']
      simp only [f42_r2, go_sem, ↓reduceIte, Nat.reduceEqDiff, s0, hlen, List.length_singleton, List.length_cons, List.length_nil, Nat.zero_add, hbig, happ]
      exact ⟨m - 1, by omega, i + 1, by omega, by omega, rfl, trivial⟩
    · have ci' : ¬ (i : Int) < 64 := by omega
      have ei : i - b.length = 64 - b.length := by omega
      rw [ei] at s0 hlen
      have hp : b ++ List.replicate (64 - b.length) 0 = pad b := rfl
      rw [hp] at s0 hlen
      simp only [f42_r1, go_sem, ↓reduceIte, Nat.reduceEqDiff, s0, hlen, ci', decide_false]
      refine WS_of_cond ?_
      simp only [go_sem, ↓reduceIte, Bool.false_eq_true]
      refine WS_of_exit ?_
      simp only [go_sem, ↓reduceIte, Nat.reduceEqDiff]
      refine WS_of_seq (WS_of_ops ?_)
      simp only [f42_r4, go_sem, ↓reduceIte, Nat.reduceEqDiff, s0]
      refine WS_of_ret ?_
      simp only [f42_a, go_sem, ↓reduceIte, Nat.reduceEqDiff]
      exact ⟨trivial, trivial⟩
  · exact ⟨b.length, by simp [pad], Nat.le_refl _, (show AV.str b = .str (b ++ List.replicate (b.length - b.length) 0) by simp), rfl⟩

theorem RefIs.counted {h : H} {kv wv : AV} {D : Dk} (r : RefIs h kv wv D) : RefIs h kv wv D.counted := by
  refine ⟨by rw [Dk.counted_kept]; exact r.ks, r.sk, by rw [Dk.counted_waits]; exact r.ws, r.sw, r.ok.counted, ?_⟩
  intro hd
  rw [Dk.counted_armed]
  rw [Dk.counted_dead] at hd
  split at hd
  · simp at hd; omega
  · have := r.da hd; omega
theorem rcounted_spec {h : H} {kv wv : AV} {D : Dk} (wf : h.Wf) (r : RefIs h kv wv D) : WCall E0 45 [.agg (dcells kv wv D)] h fun r h' => r = .val (.agg (dcells kv wv D.counted)) ∧ Keep (Old h.n) h h' := by
  refine WCall_ws (ovn 45) U45 (by simp [f45_a]) ?_
  show WS E0 f45_c [] _ _ _
  have hone := r.one
  refine WS_of_seq (WS_of_ops ?_)
  have k1 : Keep (Old h.n) h (h.new (dcells kv wv D)) := Keep.new (Nat.le_refl _) _
  have b1 : Box h.n (dcells kv wv D) (h.new (dcells kv wv D)) := Box.new wf _
  have n1 : (h.new (dcells kv wv D)).n = h.n + 1 := rfl
  simp only [f45_r0, go_sem, ↓reduceIte, Nat.reduceEqDiff, agg_cells]
  generalize h.new (dcells kv wv D) = h1 at k1 b1 n1 ⊢
  have wf1 := k1.wf wf
  have k2 : Keep (Old h1.n) h1 (h1.new [.nils, .nils, .int .i64 0, .bool false]) := Keep.new (Nat.le_refl _) _
  have b2 : Box h1.n [.nils, .nils, .int .i64 0, .bool false] (h1.new [.nils, .nils, .int .i64 0, .bool false]) := Box.new wf1 _
  generalize h1.new [.nils, .nils, .int .i64 0, .bool false] = h2 at k2 b2 ⊢
  have wf2 := k2.wf wf1
  have b12 := b1.keep k2 (b1.lt wf1)
  have k02 : Keep (Old h.n) h h2 := k1.trans (k2.weaken fun q hq => by have : q < h.n := hq; show q < _; omega)
  -- the end
  have fin' : ∀ {h3 : H} {s : S}, h3.Wf → Keep (Old h.n) h h3 → Box h.n (dcells kv wv D.counted) h3 → (∃ x, Box h1.n x h3 ∧ x.length = 4) → s 1 = .ptr h.n 0 → s 2 = .ptr h1.n 0 →
      WS E0 (.seq (.ops f45_r5) .ret) [] (atEnd f45_a.results fun r h' => r = .val (.agg (dcells kv wv D.counted)) ∧ Keep (Old h.n) h h') s h3 := by
    intro h3 s wf3 k03 bb ⟨x, bx, hx⟩ s1 s2
    obtain ⟨h4, e4, b4, k4⟩ := bx.putAll (n := 4) (vs := dcells kv wv D.counted) wf3 rfl (r.all _ _) hx.symm
    refine WS_of_seq (WS_of_ops ?_)
    simp only [f45_r5, go_sem, ↓reduceIte, Nat.reduceEqDiff, s1, s2, bb.loadAgg (n := 4) rfl, e4]
    refine WS_of_ret ?_
    simp only [f45_a, go_sem, ↓reduceIte, Nat.reduceEqDiff, s2, b4.loadAgg (n := 4) rfl]
    have k04 : Keep (Old h.n) h h4 := k03.trans (k4.newbox wf3 k03.n (by omega))
    exact ⟨trivial, k04⟩
  refine WS_of_seq (WS_of_seq (WS_of_ops ?_))
  by_cases c1 : D.armed = 1
  · have c1' : (D.armed : Int) = 1 := by omega
    simp only [f45_r1, go_sem, ↓reduceIte, Nat.reduceEqDiff, Nat.zero_add, b12.load, List.getElem?_cons_zero, List.getElem?_cons_succ, c1', decide_true]
    refine WS_of_cond ?_
    simp only [go_sem, ↓reduceIte]
    refine WS_of_ops ?_
    obtain ⟨h3, e3, b3, k3⟩ := b12.put wf2 (i := 3) (n := 1) (v := .bool true) rfl rfl (by simp)
    have wf3 := k3.wf wf2
    have b23 := b2.keepA wf2 k3 (by simp; omega)
    simp only [f45_r2, go_sem, ↓reduceIte, Nat.reduceEqDiff, Nat.zero_add, e3]
    refine WS_of_seq (WS_of_seq (WS_of_ops ?_))
    have hs3 : splice (dcells kv wv D) 3 (AV.bool true).cells = [kv, wv, .int .i64 (D.armed : Int), .bool true] := rfl
    rw [hs3] at b3
    have c2' : (0 : Int) < (D.armed : Int) := by omega
    simp only [f45_r3, go_sem, ↓reduceIte, Nat.reduceEqDiff, Nat.zero_add, b3.load, List.getElem?_cons_zero, List.getElem?_cons_succ, c2', decide_true]
    refine WS_of_cond ?_
    simp only [go_sem, ↓reduceIte]
    refine WS_of_ops ?_
    obtain ⟨h4, e4, b4, k4⟩ := b3.put wf3 (i := 2) (n := 1) (v := .int .i64 0) rfl rfl (by simp)
    have wf4 := k4.wf wf3
    have b24 := b23.keepA wf3 k4 (by simp; omega)
    have hw : IntKind.i64.wrap ((D.armed : Int) - 1) = 0 := by rw [c1']; rfl
    simp only [f45_r4, go_sem, ↓reduceIte, Nat.reduceEqDiff, Nat.zero_add, b3.load, List.getElem?_cons_zero, List.getElem?_cons_succ, hw, e4]
    have hc : D.counted = { D with armed := 0, dead := true } := by unfold Dk.counted; rw [if_pos (by omega), c1]; rfl
    have x3 := k02.trans (k3.newbox wf2 k02.n (by omega))
    have x4 := x3.trans (k4.newbox wf3 x3.n (by omega))
    exact fin' wf4 x4 (by rw [hc]; exact b4) ⟨_, b24, rfl⟩ rfl rfl
  · have c1' : ¬ (D.armed : Int) = 1 := by omega
    simp only [f45_r1, go_sem, ↓reduceIte, Nat.reduceEqDiff, Nat.zero_add, b12.load, List.getElem?_cons_zero, List.getElem?_cons_succ, c1', decide_false]
    refine WS_of_cond ?_
    simp only [go_sem, ↓reduceIte, Bool.false_eq_true]
    refine WS_of_skip ?_
    simp only [go_sem]
    refine WS_of_seq (WS_of_seq (WS_of_ops ?_))
    by_cases c2 : 0 < D.armed
    · have c2' : (0 : Int) < (D.armed : Int) := by omega
      simp only [f45_r3, go_sem, ↓reduceIte, Nat.reduceEqDiff, Nat.zero_add, b12.load, List.getElem?_cons_zero, List.getElem?_cons_succ, c2', decide_true]
      refine WS_of_cond ?_
      simp only [go_sem, ↓reduceIte]
      refine WS_of_ops ?_
      obtain ⟨h4, e4, b4, k4⟩ := b12.put wf2 (i := 2) (n := 1) (v := .int .i64 ((D.armed - 1 : Nat) : Int)) rfl rfl (by simp)
      have wf4 := k4.wf wf2
      have b24 := b2.keepA wf2 k4 (by simp; omega)
      have ha := r.ok.arm
      have hw : IntKind.i64.wrap ((D.armed : Int) - 1) = ((D.armed - 1 : Nat) : Int) := by rw [wrap_i64 (by omega) (by omega)]; omega
      simp only [f45_r4, go_sem, ↓reduceIte, Nat.reduceEqDiff, Nat.zero_add, b12.load, List.getElem?_cons_zero, List.getElem?_cons_succ, hw, e4]
      have hdd : D.dead = false := by
        cases e : D.dead with
        | false => rfl
        | true => have := r.da e; omega
      have hc : D.counted = { D with armed := D.armed - 1, dead := D.dead } := by
        unfold Dk.counted; rw [if_pos (by omega), hdd]
        have : decide (D.armed = 1) = false := by simpa using c1
        rw [this]
      have x4 := k02.trans (k4.newbox wf2 k02.n (by omega))
      exact fin' wf4 x4 (by rw [hc]; exact b4) ⟨_, b24, rfl⟩ rfl rfl
    · have c2' : ¬ (0 : Int) < (D.armed : Int) := by omega
      simp only [f45_r3, go_sem, ↓reduceIte, Nat.reduceEqDiff, Nat.zero_add, b12.load, List.getElem?_cons_zero, List.getElem?_cons_succ, c2', decide_false]
      refine WS_of_cond ?_
      simp only [go_sem, ↓reduceIte, Bool.false_eq_true]
      refine WS_of_skip ?_
      simp only [go_sem]
      exact fin' wf2 k02 (by rw [Dk.counted_zero (by omega)]; exact b12) ⟨_, b2, rfl⟩ rfl rfl
end Go.Proofs.Ytmfbememiffkjaa.Ev.C

/- The reference of the law 03, walked: arming, one sector put, a new disk. -/
namespace Go.Proofs.Ytmfbememiffkjaa.Ev.C
open Go Go.Proofs.Ytmfbememiffkjaa.Ev
set_option linter.unusedSimpArgs false
set_option linter.unusedVariables false
theorem rarm_spec {h : H} {kv wv : AV} {D : Dk} (wf : h.Wf) (r : RefIs h kv wv D) (n : Int) (hn : n < 9223372036854775808) : WCall E0 22 [.agg (dcells kv wv D), .int .i64 n] h fun r h' => ∃ cs', r = .val (.agg cs') ∧ RefTo h h' kv wv cs' (D.arm n) ∧ Keep (Old h.n) h h' := by
  refine WCall_ws (ovn 22) U22 (by simp [f22_a]) ?_
  show WS E0 f22_c [] _ _ _
  refine WS_of_seq (WS_of_ops ?_)
  have k1 : Keep (Old h.n) h (h.new (dcells kv wv D)) := Keep.new (Nat.le_refl _) _
  have b1 : Box h.n (dcells kv wv D) (h.new (dcells kv wv D)) := Box.new wf _
  have n1 : (h.new (dcells kv wv D)).n = h.n + 1 := rfl
  simp only [f22_r0, go_sem, ↓reduceIte, Nat.reduceEqDiff, agg_cells]
  generalize h.new (dcells kv wv D) = h1 at k1 b1 n1 ⊢
  have wf1 := k1.wf wf
  have k2 : Keep (Old h1.n) h1 (h1.new [.nils, .nils, .int .i64 0, .bool false]) := Keep.new (Nat.le_refl _) _
  have b2 : Box h1.n [.nils, .nils, .int .i64 0, .bool false] (h1.new [.nils, .nils, .int .i64 0, .bool false]) := Box.new wf1 _
  generalize h1.new [.nils, .nils, .int .i64 0, .bool false] = h2 at k2 b2 ⊢
  have wf2 := k2.wf wf1
  have b12 := b1.keep k2 (b1.lt wf1)
  have k02 : Keep (Old h.n) h h2 := k1.trans (k2.weaken fun q hq => by have : q < h.n := hq; show q < _; omega)
  refine WS_of_seq (WS_of_seq (WS_of_ops ?_))
  cases hd : D.dead with
  | true =>
    simp only [f22_r1, go_sem, ↓reduceIte, Nat.reduceEqDiff, Nat.zero_add, b12.load, List.getElem?_cons_zero, List.getElem?_cons_succ, hd]
    refine WS_of_cond ?_
    simp only [go_sem, ↓reduceIte]
    obtain ⟨h4, e4, b4, k4⟩ := b2.putAll (n := 4) (vs := dcells kv wv D) wf2 rfl (r.all _ _) rfl
    refine WS_of_seq (WS_of_ops ?_)
    simp only [f22_r2, go_sem, ↓reduceIte, Nat.reduceEqDiff, b12.loadAgg (n := 4) rfl, e4]
    refine WS_of_ret ?_
    simp only [f22_a, go_sem, ↓reduceIte, Nat.reduceEqDiff, b4.loadAgg (n := 4) rfl]
    have k04 : Keep (Old h.n) h h4 := k02.trans (k4.newbox wf2 k02.n (by omega))
    have hD : D.arm n = D := by unfold Dk.arm; rw [if_pos hd]
    rw [hD]
    exact ⟨_, rfl, ⟨kv, wv, rfl, r.keep k04, .inl rfl, .inl rfl⟩, k04⟩
  | false =>
    simp only [f22_r1, go_sem, ↓reduceIte, Nat.reduceEqDiff, Nat.zero_add, b12.load, List.getElem?_cons_zero, List.getElem?_cons_succ, hd]
    refine WS_of_cond ?_
    simp only [go_sem, ↓reduceIte, Bool.false_eq_true]
    refine WS_of_skip ?_
    simp only [go_sem]
    have hD : D.arm n = { D with armed := n.toNat } := by unfold Dk.arm; rw [if_neg (by rw [hd]; simp)]
    -- the end
    have fin' : ∀ {s : S}, s 1 = .int .i64 (n.toNat : Int) → s 2 = .ptr h.n 0 → s 4 = .ptr h1.n 0 → WS E0 (.seq (.ops f22_r5) (.seq (.ops f22_r6) .ret)) [] (atEnd f22_a.results fun r h' => ∃ cs', r = .val (.agg cs') ∧ RefTo h h' kv wv cs' (D.arm n) ∧ Keep (Old h.n) h h') s h2 := by
      intro s s1 s2 s4
      obtain ⟨h3, e3, b3, k3⟩ := b12.put wf2 (i := 2) (n := 1) (v := .int .i64 (n.toNat : Int)) rfl rfl (by simp)
      have wf3 := k3.wf wf2
      have b23 := b2.keepA wf2 k3 (by simp; omega)
      have hs3 : splice (dcells kv wv D) 2 (AV.int .i64 (n.toNat : Int)).cells = dcells kv wv { D with armed := n.toNat } := rfl
      rw [hs3] at b3
      refine WS_of_seq (WS_of_ops ?_)
      simp only [f22_r5, go_sem, ↓reduceIte, Nat.reduceEqDiff, Nat.zero_add, s1, s2, e3]
      obtain ⟨h4, e4, b4, k4⟩ := b23.putAll (n := 4) (vs := dcells kv wv { D with armed := n.toNat }) wf3 rfl (r.all _ _) rfl
      refine WS_of_seq (WS_of_ops ?_)
      simp only [f22_r6, go_sem, ↓reduceIte, Nat.reduceEqDiff, s2, s4, b3.loadAgg (n := 4) rfl, e4]
      refine WS_of_ret ?_
      simp only [f22_a, go_sem, ↓reduceIte, Nat.reduceEqDiff, s4, b4.loadAgg (n := 4) rfl]
      have k03 : Keep (Old h.n) h h3 := k02.trans (k3.newbox wf2 k02.n (by omega))
      have k04 : Keep (Old h.n) h h4 := k03.trans (k4.newbox wf3 k03.n (by omega))
      have r4 := r.keep k04
      refine ⟨_, rfl, ⟨kv, wv, by rw [hD], ?_, .inl rfl, .inl rfl⟩, k04⟩
      have := r.ok.arm' (n := n) hn
      rw [hD] at this ⊢
      exact ⟨r4.ks, r4.sk, r4.ws, r4.sw, this, fun x => by simp only [hd] at x; cases x⟩
    refine WS_of_seq (WS_of_seq (WS_of_ops ?_))
    by_cases c : n < 0
    · simp only [f22_r3, go_sem, ↓reduceIte, Nat.reduceEqDiff, c, decide_true]
      refine WS_of_cond ?_
      simp only [go_sem, ↓reduceIte]
      refine WS_of_ops ?_
      simp only [f22_r4, go_sem, ↓reduceIte, Nat.reduceEqDiff]
      exact fin' (by rw [Int.toNat_of_nonpos (by omega)]; rfl) rfl rfl
    · simp only [f22_r3, go_sem, ↓reduceIte, Nat.reduceEqDiff, c, decide_false]
      refine WS_of_cond ?_
      simp only [go_sem, ↓reduceIte, Bool.false_eq_true]
      refine WS_of_skip ?_
      simp only [go_sem]
      exact fin' (by rw [Int.toNat_of_nonneg (by omega)]; rfl) rfl rfl

/-- one sector put -/
theorem rput_spec {h : H} {kv : AV} {K : List Sec} {w : Nat × Sec} (wf : h.Wf) (ks : Strs h kv K) (sk : Slot (Old h.n) h kv) (hK : K.length < 1000000) :
    WCall E0 47 [kv, .agg (rcell w)] h fun r h' => ∃ v, r = .val v ∧ Strs h' v (putS K w) ∧ Own h.n h' v ∧ Keep (Old h.n) h h' := by
  refine WCall_ws (ovn 47) U47 (by simp [f47_a]) ?_
  show WS E0 f47_c [] _ _ _
  refine WS_of_seq (WS_of_ops ?_)
  have k1 : Keep (Old h.n) h (h.new (rcell w)) := Keep.new (Nat.le_refl _) _
  have b1 : Box h.n (rcell w) (h.new (rcell w)) := Box.new wf _
  have n1 : (h.new (rcell w)).n = h.n + 1 := rfl
  simp only [f47_r0, go_sem, ↓reduceIte, Nat.reduceEqDiff, agg_cells]
  generalize h.new (rcell w) = h1 at k1 b1 n1 ⊢
  have wf1 := k1.wf wf
  refine WS_of_seq (WS_of_ops ?_)
  simp only [f47_r1, go_sem, ↓reduceIte, Nat.reduceEqDiff]
  refine WS_of_seq (WS_of_seq (WS_of_ops ?_))
  simp only [f47_r2, go_sem, ↓reduceIte, Nat.reduceEqDiff]
  refine WS_of_block (WS_of_loop (fun m s h2 => ∃ j v, j + m = K.length ∧ s 6 = .int .i64 (j : Int) ∧ s 0 = kv ∧ s 3 = .ptr h.n 0 ∧ s 5 = v ∧ Strs h2 v ((putS K w).take j) ∧ Own h1.n h2 v ∧ Keep (Old h1.n) h1 h2) ?_ K.length ?_)
  · rintro m s h2 ⟨j, v, hjm, s6, s0, s3, s5, sv, ov, k2⟩
    show WS E0 f47_l8 [] _ _ _
    have wf2 := k2.wf wf1
    have k02 : Keep (Old h.n) h h2 := k1.trans (k2.weaken fun q hq => by have : q < h.n := hq; show q < _; omega)
    have ks2 := ks.keep k02 sk
    have b2 := b1.keep k2 (b1.lt wf1)
    refine WS_of_seq (WS_of_seq (WS_of_ops ?_))
    by_cases c : j < K.length
    · have c' : (j : Int) < (K.length : Int) := by omega
      simp only [f47_r3, go_sem, ↓reduceIte, Nat.reduceEqDiff, s6, s0, ks.len, c', decide_true]
      refine WS_of_cond ?_
      simp only [go_sem, ↓reduceIte]
      refine WS_of_skip ?_
      simp only [go_sem]
      have hw : IntKind.i64.wrap ((j : Int) + 1) = ((j + 1 : Nat) : Int) := by rw [wrap_i64 (by omega) (by omega)]; omega
      have l0 : loadA h2 false 1 (.ptr h.n 0) = some (.int .i64 (w.1 : Int)) := by rw [b2.load]; rfl
      have l1 : loadA h2 false 1 (.ptr h.n 1) = some (.str w.2) := by rw [b2.load]; rfl
      have hpl : j < (putS K w).length := by rw [putS_len]; exact c
      have htk : (putS K w).take (j + 1) = (putS K w).take j ++ [(putS K w)[j]] := (List.take_append_getElem hpl).symm
      have hvl : ((putS K w).take j).length = j := by rw [List.length_take]; omega
      -- an append
      have app : ∀ (x : Sec), (putS K w)[j] = x → ∃ v' h4, afill (zeros [AV.str []] (1 * 1)) [(0, 1, AV.str x)] = some [.str x] ∧ appendA (h2.new [.str x]) 1 v (.slice h2.n 0 1 1) = some (v', h4) ∧ Strs h4 v' ((putS K w).take (j + 1)) ∧ Own h1.n h4 v' ∧ Keep (Old h1.n) h1 h4 := by
        intro x hx
        have kn : Keep (Old h2.n) h2 (h2.new [.str x]) := Keep.new (Nat.le_refl _) _
        have sn : Strs (h2.new [.str x]) (.slice h2.n 0 1 1) [x] := Strs.one wf2 x
        have wfn := kn.wf wf2
        have slv := ov.slot wf2
        obtain ⟨v', h4, e4, s4, o4, k4⟩ := Strs.app (N := h1.n) wfn (Nat.le_trans k2.n kn.n) (sv.keep kn slv) (ov.keep slv kn) sn (by rw [hvl]; simp; omega)
        refine ⟨v', h4, rfl, e4, ?_, o4, (k2.trans (kn.weaken fun q hq => Nat.lt_of_lt_of_le hq k2.n)).trans k4⟩
        rw [htk, hx]
        exact s4
      refine WS_of_seq (WS_of_block (WS_of_seq (WS_of_ops ?_)))
      simp only [f47_r4, go_sem, ↓reduceIte, Nat.reduceEqDiff, Nat.zero_add, s6, s3, l0]
      refine WS_of_cond ?_
      by_cases ce : w.1 = j
      · have ce' : (j : Int) = (w.1 : Int) := by omega
        obtain ⟨v', h4, ef, e4, s4, o4, k4⟩ := app w.2 (by simp [putS, ce])
        simp only [go_sem, ↓reduceIte, ce', decide_true]
        refine WS_of_ops ?_
        simp only [f47_r5, go_sem, ↓reduceIte, Nat.reduceEqDiff, Nat.zero_add, s3, s5, l1, ef, e4]
        refine WS_of_ops ?_
        rw [← ce'] at *
        simp only [f47_r7, go_sem, ↓reduceIte, Nat.reduceEqDiff, s6, hw]
        exact ⟨m - 1, by omega, j + 1, v', by omega, rfl, s0, s3, rfl, s4, o4, k4⟩
      · have ce' : ¬ (j : Int) = (w.1 : Int) := by omega
        obtain ⟨v', h4, ef, e4, s4, o4, k4⟩ := app K[j] (by simp [putS, List.getElem_set, ce])
        obtain ⟨p, ep, lp⟩ := ks2.at c .i64
        simp only [go_sem, ↓reduceIte, ce', decide_false, Bool.false_eq_true]
        refine WS_of_ops ?_
        simp only [f47_r6, go_sem, ↓reduceIte, Nat.reduceEqDiff, s0, s3, s5, s6, ep, lp, ef, e4]
        refine WS_of_ops ?_
        simp only [f47_r7, go_sem, ↓reduceIte, Nat.reduceEqDiff, s6, hw]
        exact ⟨m - 1, by omega, j + 1, v', by omega, rfl, s0, s3, rfl, s4, o4, k4⟩
    · have c' : ¬ (j : Int) < (K.length : Int) := by omega
      obtain rfl : j = K.length := by omega
      simp only [f47_r3, go_sem, ↓reduceIte, Nat.reduceEqDiff, s6, s0, ks.len, c', decide_false]
      refine WS_of_cond ?_
      simp only [go_sem, ↓reduceIte, Bool.false_eq_true]
      refine WS_of_exit ?_
      simp only [go_sem, ↓reduceIte]
      refine WS_of_seq (WS_of_ops ?_)
      simp only [f47_r9, go_sem, ↓reduceIte, Nat.reduceEqDiff, s5]
      refine WS_of_ret ?_
      simp only [f47_a, go_sem, ↓reduceIte, Nat.reduceEqDiff]
      rw [List.take_of_length_le (by rw [putS_len]; exact Nat.le_refl _)] at sv
      exact ⟨_, rfl, sv, ov.less (by omega), k02⟩
  · exact ⟨0, .nils, by omega, rfl, rfl, rfl, rfl, Strs.nil _, trivial, Keep.refl _ _⟩
end Go.Proofs.Ytmfbememiffkjaa.Ev.C

/- The reference of the law 03, walked: a new disk, a write. -/
namespace Go.Proofs.Ytmfbememiffkjaa.Ev.C
open Go Go.Proofs.Ytmfbememiffkjaa.Ev
set_option linter.unusedSimpArgs false
set_option linter.unusedVariables false
theorem rnew_spec {h : H} (wf : h.Wf) {n : Nat} (hn1 : 1 ≤ n) (hn : n ≤ 1000) : WCall E0 16 [.int .i64 (n : Int)] h fun r h' => ∃ cs, r = .val (.agg cs) ∧ RefTo h h' .nils .nils cs (Dk.new n) ∧ Keep (Old h.n) h h' := by
  refine WCall_ws (ovn 16) U16 (by simp [f16_a]) ?_
  show WS E0 f16_c [] _ _ _
  refine WS_of_seq (WS_of_ops ?_)
  have k1 : Keep (Old h.n) h (h.new [.nils, .nils, .int .i64 0, .bool false]) := Keep.new (Nat.le_refl _) _
  have b1 : Box h.n [.nils, .nils, .int .i64 0, .bool false] (h.new [.nils, .nils, .int .i64 0, .bool false]) := Box.new wf _
  have n1 : (h.new [.nils, .nils, .int .i64 0, .bool false]).n = h.n + 1 := rfl
  simp only [f16_r0, go_sem, ↓reduceIte, Nat.reduceEqDiff]
  generalize h.new [.nils, .nils, .int .i64 0, .bool false] = h1 at k1 b1 n1 ⊢
  have wf1 := k1.wf wf
  refine WS_of_seq (WS_of_ops ?_)
  have k2 : Keep (Old h1.n) h1 (h1.new [.nils, .nils, .int .i64 0, .bool false]) := Keep.new (Nat.le_refl _) _
  have b2 : Box h1.n [.nils, .nils, .int .i64 0, .bool false] (h1.new [.nils, .nils, .int .i64 0, .bool false]) := Box.new wf1 _
  have n2 : (h1.new [.nils, .nils, .int .i64 0, .bool false]).n = h1.n + 1 := rfl
  have ef : afill [AV.nils, .nils, .int .i64 0, .bool false] [] = some [.nils, .nils, .int .i64 0, .bool false] := rfl
  obtain ⟨h3, e3, b3, k3⟩ := b2.putAll (n := 4) (vs := [.nils, .nils, .int .i64 0, .bool false]) (k2.wf wf1) rfl rfl rfl
  have wf2 := k2.wf wf1
  simp only [f16_r1, go_sem, ↓reduceIte, Nat.reduceEqDiff, ef, e3]
  generalize h1.new [.nils, .nils, .int .i64 0, .bool false] = h2 at k2 b2 n2 e3 k3 wf2
  have wf3 := k3.wf wf2
  have b13 := (b1.keep k2 (b1.lt wf1)).keepA wf2 k3 (by simp; omega)
  have k03 : Keep (Old h.n) h h3 := (k1.trans (k2.weaken fun q hq => by have : q < h.n := hq; show q < _; omega)).trans (k3.newbox wf2 (by omega) (by omega))
  refine WS_of_seq (WS_of_ops ?_)
  simp only [f16_r2, go_sem, ↓reduceIte, Nat.reduceEqDiff]
  refine (rpad_spec (by simp)).mono ?_
  rintro r h4 ⟨rfl, rfl⟩
  have hz : pad [] = zsec0 := rfl
  simp only [go_sem, ↓reduceIte, Nat.reduceEqDiff, hz]
  refine WS_of_seq (WS_of_seq (WS_of_ops ?_))
  simp only [f16_r3, go_sem, ↓reduceIte, Nat.reduceEqDiff]
  refine WS_of_block (WS_of_loop (fun m s h5 => ∃ j v, j + m = n ∧ s 5 = .int .i64 (j : Int) ∧ s 0 = .int .i64 (n : Int) ∧ s 4 = .str zsec0 ∧ s 3 = .ptr h1.n 0 ∧ s 2 = .ptr h.n 0 ∧ Box h1.n [v, .nils, .int .i64 0, .bool false] h5 ∧ (∃ x, Box h.n x h5 ∧ x.length = 4) ∧ Strs h5 v (List.replicate j zsec0) ∧ Own (h1.n + 1) h5 v ∧ Keep (Old h.n) h h5 ∧ h1.n + 1 ≤ h5.n) ?_ n ?_)
  · rintro m s h5 ⟨j, v, hjm, s5, s0, s4, s3, s2, bb, ⟨x, bx, hx⟩, sv, ov, k, hle⟩
    show WS E0 f16_l7 [] _ _ _
    have wf5 := k.wf wf
    refine WS_of_seq (WS_of_seq (WS_of_ops ?_))
    by_cases c : j < n
    · have c' : (j : Int) < (n : Int) := by omega
      simp only [f16_r4, go_sem, ↓reduceIte, Nat.reduceEqDiff, s5, s0, c', decide_true]
      refine WS_of_cond ?_
      simp only [go_sem, ↓reduceIte]
      refine WS_of_skip ?_
      simp only [go_sem]
      have kn : Keep (Old h5.n) h5 (h5.new [.str zsec0]) := Keep.new (Nat.le_refl _) _
      have sn : Strs (h5.new [.str zsec0]) (.slice h5.n 0 1 1) [zsec0] := Strs.one wf5 _
      have wfn := kn.wf wf5
      have slv := ov.slot wf5
      obtain ⟨v', h6, e6, s6, o6, k6⟩ := Strs.app (N := h1.n + 1) wfn (Nat.le_trans hle kn.n) (sv.keep kn slv) (ov.keep slv kn) sn (by simp; omega)
      have wf6 := k6.wf wfn
      have k56 : Keep (Old (h1.n + 1)) h5 h6 := (kn.weaken fun q hq => Nat.lt_of_lt_of_le hq hle).trans k6
      have b6 := bb.keep k56 (Nat.lt_succ_self _)
      have bx6 := bx.keep k56 (by show _ < _; omega)
      have hv := one_of_len s6.len
      have ef : afill (zeros [AV.str []] (1 * 1)) [(0, 1, AV.str zsec0)] = some [.str zsec0] := rfl
      obtain ⟨h7, e7, b7, k7⟩ := b6.put wf6 (i := 0) (n := 1) (v := v') (by rw [hv.2]; rfl) (by rw [hv.2]; simp [hv.1]) (by simp)
      have hs7 : splice [v, .nils, .int .i64 0, .bool false] 0 v'.cells = [v', .nils, .int .i64 0, .bool false] := by rw [hv.2]; rfl
      rw [hs7] at b7
      have bx7 := bx6.keepA wf6 k7 (by simp; omega)
      have sv7 := o6.away (gs := [h1.n]) wf6 (fun g hg => by
        simp only [List.mem_cons, List.not_mem_nil, or_false] at hg
        subst hg
        exact ⟨Nat.lt_succ_self _, b6.root⟩)
      refine WS_of_seq (WS_of_block (WS_of_ops ?_))
      simp only [f16_r5, go_sem, ↓reduceIte, Nat.reduceEqDiff, Nat.zero_add, s3, s4, bb.load, List.getElem?_cons_zero, ef, e6, e7]
      refine WS_of_ops ?_
      have hw : IntKind.i64.wrap ((j : Int) + 1) = ((j + 1 : Nat) : Int) := by rw [wrap_i64 (by omega) (by omega)]; omega
      simp only [f16_r6, go_sem, ↓reduceIte, Nat.reduceEqDiff, s5, hw]
      refine ⟨m - 1, by omega, j + 1, v', by omega, rfl, s0, s4, s3, s2, b7, ⟨_, bx7, hx⟩, ?_, o6.keep sv7 k7, (k.trans (k56.weaken fun q hq => by have : q < h.n := hq; show q < _; omega)).trans (k7.newbox wf6 (by have := k.n; have := k56.n; omega) (by omega)), Nat.le_trans hle (Nat.le_trans k56.n k7.n)⟩
      have := s6.keep k7 sv7
      rw [List.replicate_succ']
      exact this
    · have c' : ¬ (j : Int) < (n : Int) := by omega
      obtain rfl : j = n := by omega
      simp only [f16_r4, go_sem, ↓reduceIte, Nat.reduceEqDiff, s5, s0, c', decide_false]
      refine WS_of_cond ?_
      simp only [go_sem, ↓reduceIte, Bool.false_eq_true]
      refine WS_of_exit ?_
      simp only [go_sem, ↓reduceIte]
      have hv := one_of_len sv.len
      obtain ⟨h6, e6, b6, k6⟩ := bx.putAll (n := 4) (vs := [v, .nils, .int .i64 0, .bool false]) wf5 rfl (by simp only [List.all_cons, hv.1, List.all_nil]; rfl) hx.symm
      have sv6 := ov.away (gs := [h.n]) wf5 (fun g hg => by
        simp only [List.mem_cons, List.not_mem_nil, or_false] at hg
        subst hg
        exact ⟨by omega, bx.root⟩)
      refine WS_of_seq (WS_of_ops ?_)
      simp only [f16_r8, go_sem, ↓reduceIte, Nat.reduceEqDiff, s3, s2, bb.loadAgg (n := 4) rfl, e6]
      refine WS_of_ret ?_
      simp only [f16_a, go_sem, ↓reduceIte, Nat.reduceEqDiff, s2, b6.loadAgg (n := 4) rfl]
      have wf6 := k6.wf wf5
      exact ⟨_, rfl, ⟨v, .nils, rfl, ⟨by
        have := sv.keep k6 sv6
        show Sl h6 1 v (List.replicate j zsec0).length _
        exact this, ((ov.keep sv6 k6).slot wf6), Sl.nil _ _, trivial, Dk.new_ok hn1 (by omega), fun x => by cases x⟩, .inr ((ov.keep sv6 k6).less (by omega)), .inl rfl⟩, k.trans (k6.newbox wf5 k.n (Nat.le_refl _))⟩
  · exact ⟨0, .nils, by omega, rfl, rfl, rfl, rfl, rfl, b3, ⟨_, b13, rfl⟩, Strs.nil _, trivial, k03, by have := k3.n; omega⟩

theorem rwrite_spec {h : H} {kv wv : AV} {D : Dk} {b : Sec} (wf : h.Wf) (r : RefIs h kv wv D) (i : Int) (hb : b.length < 1000000) (hw : D.waits.length < 1000000) (hkl : D.kept.length < 1000000) :
    WCall E0 18 [.agg (dcells kv wv D), .int .i64 i, .str b] h fun r h' => ∃ cs', r = .val (.tup [.agg cs', .int .i64 ((D.write i b).2 : Int)]) ∧ RefTo h h' kv wv cs' (D.write i b).1 ∧ Keep (Old h.n) h h' := by
  refine WCall_ws (ovn 18) U18 (by simp [f18_a]) ?_
  show WS E0 f18_c [] _ _ _
  refine WS_of_seq (WS_of_ops ?_)
  have k1 : Keep (Old h.n) h (h.new (dcells kv wv D)) := Keep.new (Nat.le_refl _) _
  have b1 : Box h.n (dcells kv wv D) (h.new (dcells kv wv D)) := Box.new wf _
  have n1 : (h.new (dcells kv wv D)).n = h.n + 1 := rfl
  simp only [f18_r0, go_sem, ↓reduceIte, Nat.reduceEqDiff, agg_cells]
  generalize h.new (dcells kv wv D) = h1 at k1 b1 n1 ⊢
  have wf1 := k1.wf wf
  have k2 : Keep (Old h1.n) h1 (h1.new [.nils, .nils, .int .i64 0, .bool false]) := Keep.new (Nat.le_refl _) _
  have b2 : Box h1.n [.nils, .nils, .int .i64 0, .bool false] (h1.new [.nils, .nils, .int .i64 0, .bool false]) := Box.new wf1 _
  generalize h1.new [.nils, .nils, .int .i64 0, .bool false] = h2 at k2 b2 ⊢
  have wf2 := k2.wf wf1
  have b12 := b1.keep k2 (b1.lt wf1)
  have k02 : Keep (Old h.n) h h2 := k1.trans (k2.weaken fun q hq => by have : q < h.n := hq; show q < _; omega)
  have r2 := r.keep k02
  -- the results: what stands in the first box is given back
  have give : ∀ {h3 : H} {kv' wv' : AV} {D' : Dk} (wf3 : h3.Wf) (bb : Box h.n (dcells kv' wv' D') h3) (rr : RefIs h3 kv' wv' D') (sa : Slot (Apart [h1.n] h3) h3 kv') (sb : Slot (Apart [h1.n] h3) h3 wv') (fk : kv' = kv ∨ Own h.n h3 kv') (fw : wv' = wv ∨ Own h.n h3 wv') (bx : ∃ x, Box h1.n x h3 ∧ x.length = 4) (k03 : Keep (Old h.n) h h3),
      ∃ h4, loadA h3 true 4 (.ptr h.n 0) = some (.agg (dcells kv' wv' D')) ∧ storeA h3 4 (.ptr h1.n 0) (.agg (dcells kv' wv' D')) = some h4 ∧ loadA h4 true 4 (.ptr h1.n 0) = some (.agg (dcells kv' wv' D')) ∧ RefTo h h4 kv wv (dcells kv' wv' D') D' ∧ Keep (Old h.n) h h4 := by
    rintro h3 kv' wv' D' wf3 bb rr sa sb fk fw ⟨x, bx, hx⟩ k03
    obtain ⟨h4, e4, b4, k4⟩ := bx.putAll (n := 4) (vs := dcells kv' wv' D') wf3 rfl (rr.all _ _) hx.symm
    have kb := bb.lt wf3
    exact ⟨h4, bb.loadAgg rfl, e4, b4.loadAgg rfl, ⟨kv', wv', rfl, ⟨rr.ks.keep k4 sa, (sa.keepA k4).old, rr.ws.keep k4 sb, (sb.keepA k4).old, rr.ok, rr.da⟩, fk.imp id (fun o => o.keep sa k4), fw.imp id (fun o => o.keep sb k4)⟩, k03.trans (k4.newbox wf3 k03.n (by omega))⟩
  have slots : ∀ {h3 : H} (wf3 : h3.Wf) (k03 : Keep (Old h.n) h h3), Slot (Apart [h1.n] h3) h3 kv ∧ Slot (Apart [h1.n] h3) h3 wv ∧ Slot (Apart [h.n] h3) h3 kv ∧ Slot (Apart [h.n] h3) h3 wv := fun wf3 k03 =>
    have s1 := r.sk.keep k03 fun q hq => hq
    have s2 := r.sw.keep k03 fun q hq => hq
    ⟨s1.apart wf3 k03.n (by simp; omega), s2.apart wf3 k03.n (by simp; omega), s1.apart wf3 k03.n (by simp), s2.apart wf3 k03.n (by simp)⟩
  refine WS_of_seq (WS_of_seq (WS_of_ops ?_))
  have bad : D.has i = false ∨ 64 < b.length → ∀ {k : List Fr1} {s : S}, s 3 = .ptr h.n 0 → s 6 = .ptr h1.n 0 → WS E0 (.seq (.ops f18_r2) .ret) k (atEnd f18_a.results fun r h' => ∃ cs', r = .val (.tup [.agg cs', .int .i64 ((D.write i b).2 : Int)]) ∧ RefTo h h' kv wv cs' (D.write i b).1 ∧ Keep (Old h.n) h h') s h2 := by
    intro hc k s s3 s6
    obtain ⟨sa, sb, -, -⟩ := slots wf2 k02
    obtain ⟨h4, e1, e2, e3, rr, k4⟩ := give wf2 b12 r2 sa sb (.inl rfl) (.inl rfl) ⟨_, b2, rfl⟩ k02
    refine WS_of_seq (WS_of_ops ?_)
    simp only [f18_r2, go_sem, ↓reduceIte, Nat.reduceEqDiff, s3, s6, e1, e2]
    refine WS_of_ret ?_
    simp only [f18_a, go_sem, ↓reduceIte, Nat.reduceEqDiff, s6, e3]
    rw [Dk.write_bad hc]
    exact ⟨_, rfl, rr, k4⟩
  have hks : lenSA kv = some D.kept.length := r.ks.len
  have goalgood : ¬ (D.has i = false ∨ 64 < b.length) → ∀ {s : S}, s 3 = .ptr h.n 0 → s 6 = .ptr h1.n 0 → s 1 = .int .i64 i → s 2 = .str b →
      WS E0 (.seq (.ops f18_r3) (.seq (.seq (.ops f18_r4) (.cond (.tmp 27) (.seq (.ops f18_r5) .ret) .skip)) (.seq (.ops f18_r6) (.seq (.ops f18_r7) (.seq (.ops f18_r8) (.seq (.ops f18_r9) (.seq (.ops f18_r10) .ret))))))) []
        (atEnd f18_a.results fun r h' => ∃ cs', r = .val (.tup [.agg cs', .int .i64 ((D.write i b).2 : Int)]) ∧ RefTo h h' kv wv cs' (D.write i b).1 ∧ Keep (Old h.n) h h') s h2 := by
    intro hc s s3 s6 s1 s2
    have hh : D.has i = true := by cases e : D.has i with
      | true => rfl
      | false => exact absurd (.inl e) hc
    have hbl : b.length ≤ 64 := by omega
    refine WS_of_seq (WS_of_ops ?_)
    simp only [f18_r3, go_sem, ↓reduceIte, Nat.reduceEqDiff, s3, b12.loadAgg (n := 4) rfl]
    refine (rcounted_spec wf2 r2).mono ?_
    rintro rr h3 ⟨rfl, k3⟩
    have wf3 := k3.wf wf2
    have k03 : Keep (Old h.n) h h3 := k02.trans (k3.weaken fun q hq => by have : q < h.n := hq; have := k02.n; show q < _; omega)
    have b13 := b12.keep k3 (b12.lt wf2)
    have b23 := b2.keep k3 (b2.lt wf2)
    have r3 := (r.keep k03).counted
    obtain ⟨h4, e4, b4, k4⟩ := b13.putAll (n := 4) (vs := dcells kv wv D.counted) wf3 rfl (r3.all _ _) rfl
    have wf4 := k4.wf wf3
    have k04 : Keep (Old h.n) h h4 := k03.trans (k4.newbox wf3 k03.n (Nat.le_refl _))
    have b24 := b23.keepA wf3 k4 (by simp; omega)
    have r4 := (r.keep k04).counted
    simp only [go_sem, ↓reduceIte, Nat.reduceEqDiff, s3, e4]
    refine WS_of_seq (WS_of_seq (WS_of_ops ?_))
    cases hd : D.counted.dead with
    | true =>
      simp only [f18_r4, go_sem, ↓reduceIte, Nat.reduceEqDiff, Nat.zero_add, s3, b4.load, List.getElem?_cons_zero, List.getElem?_cons_succ, hd]
      refine WS_of_cond ?_
      simp only [go_sem, ↓reduceIte]
      obtain ⟨sa, sb, -, -⟩ := slots wf4 k04
      obtain ⟨h5, f1, f2, f3, rr, k5⟩ := give wf4 b4 r4 sa sb (.inl rfl) (.inl rfl) ⟨_, b24, rfl⟩ k04
      refine WS_of_seq (WS_of_ops ?_)
      simp only [f18_r5, go_sem, ↓reduceIte, Nat.reduceEqDiff, s3, s6, f1, f2]
      refine WS_of_ret ?_
      simp only [f18_a, go_sem, ↓reduceIte, Nat.reduceEqDiff, s6, f3]
      rw [Dk.write_dead hh hbl hd]
      exact ⟨_, rfl, rr, k5⟩
    | false =>
      simp only [f18_r4, go_sem, ↓reduceIte, Nat.reduceEqDiff, Nat.zero_add, s3, b4.load, List.getElem?_cons_zero, List.getElem?_cons_succ, hd]
      refine WS_of_cond ?_
      simp only [go_sem, ↓reduceIte, Bool.false_eq_true]
      refine WS_of_skip ?_
      simp only [go_sem]
      refine WS_of_seq (WS_of_ops ?_)
      simp only [f18_r6, go_sem, ↓reduceIte, Nat.reduceEqDiff]
      refine WS_of_seq (WS_of_ops ?_)
      have hcw := Dk.counted_waits D
      obtain ⟨w5, h5, e5, s5, o5, k5⟩ := append_own (N := h4.n) wf4 (Nat.le_refl _) (Sl.nil h4 2) (by trivial) r4.ws (rcells_one _) (by rw [hcw]; omega)
      have wf5 := k5.wf wf4
      simp only [f18_r7, go_sem, ↓reduceIte, Nat.reduceEqDiff, Nat.zero_add, s3, b4.load, List.getElem?_cons_zero, List.getElem?_cons_succ, e5]
      refine WS_of_seq (WS_of_ops ?_)
      simp only [f18_r8, go_sem, ↓reduceIte, Nat.reduceEqDiff, s1, s2]
      refine (rpad_spec hb).mono ?_
      rintro rr h6 ⟨rfl, rfl⟩
      have ef : afill [AV.int .i64 0, .str []] [(0, 1, .int .i64 i), (1, 1, .str (pad b))] = some [.int .i64 i, .str (pad b)] := rfl
      have eg : afill (zeros [AV.int .i64 0, .str []] (1 * 2)) [(0, 2, .agg [.int .i64 i, .str (pad b)])] = some [.int .i64 i, .str (pad b)] := rfl
      have k7 : Keep (Old h6.n) h6 (h6.new [.int .i64 i, .str (pad b)]) := Keep.new (Nat.le_refl _) _
      have sn : Sl (h6.new [.int .i64 i, .str (pad b)]) 2 (.slice h6.n 0 1 2) 1 [.int .i64 i, .str (pad b)] := by
        have := Sl.new (es := 2) (n := 1) wf5 (vs := [.int .i64 i, .str (pad b)]) (by simp)
        simpa using this
      have wf7 := k7.wf wf5
      have sl5 := o5.slot wf5
      obtain ⟨w8, h8, e8, s8, o8, k8⟩ := append_own (N := h4.n) wf7 (Nat.le_trans k5.n k7.n) (s5.keep k7 sl5) (o5.keep sl5 k7) sn (by simp [AV.one]) (by rw [hcw]; omega)
      have wf8 := k8.wf wf7
      simp only [go_sem, ↓reduceIte, Nat.reduceEqDiff, s1, s2, ef, eg, e8]
      have k48 : Keep (Old h4.n) h4 h8 := (k5.trans (k7.weaken fun q hq => Nat.lt_of_lt_of_le hq k5.n)).trans k8
      have k08 : Keep (Old h.n) h h8 := k04.trans (k48.weaken fun q hq => Nat.lt_of_lt_of_le hq k04.n)
      have b8 := b4.keep k48 (b4.lt wf4)
      have b28 := b24.keep k48 (b24.lt wf4)
      have hv8 := one_of_len s8.len
      have hl1 := b4.lt wf4
      have hl2 := b24.lt wf4
      refine WS_of_seq (WS_of_ops ?_)
      obtain ⟨h9, e9, b9, k9⟩ := b8.put wf8 (i := 1) (n := 1) (v := w8) (by rw [hv8.2]; rfl) (by rw [hv8.2]; simp [hv8.1]) (by simp)
      have wf9 := k9.wf wf8
      obtain ⟨n, rfl, hn⟩ := has_iff.1 hh
      have hwr : D.write (n : Int) b = ({ D.counted with waits := D.waits ++ [(n, pad b)] }, 0) := by rw [Dk.write_good hh hbl hd, Int.toNat_natCast]
      have hs9 : splice (dcells kv wv D.counted) 1 w8.cells = dcells kv w8 { D.counted with waits := D.waits ++ [(n, pad b)] } := by rw [hv8.2]; rfl
      rw [hs9] at b9
      simp only [f18_r9, go_sem, ↓reduceIte, Nat.reduceEqDiff, Nat.zero_add, s3, e9]
      have aw : ∀ g, (g = h.n ∨ g = h1.n) → Slot (Apart [g] h8) h8 w8 := fun g hg => o8.away wf8 fun x hx => by
        simp only [List.mem_cons, List.not_mem_nil, or_false] at hx
        subst hx
        rcases hg with rfl | rfl
        · exact ⟨hl1, b8.root⟩
        · exact ⟨hl2, b28.root⟩
      have s9 := s8.keep k9 (aw _ (.inl rfl))
      have b29 := b28.keepA wf8 k9 (by simp; omega)
      have k09 : Keep (Old h.n) h h9 := k08.trans (k9.newbox wf8 k08.n (Nat.le_refl _))
      have o9 := o8.keep (aw _ (.inl rfl)) k9
      have aw9 : Slot (Apart [h1.n] h9) h9 w8 := o9.away wf9 fun x hx => by
        simp only [List.mem_cons, List.not_mem_nil, or_false] at hx
        subst hx
        exact ⟨hl2, b29.root⟩
      have r9 := r.keep k09
      have rok := r.ok.write (n : Int) b
      rw [hwr] at rok
      have rr9 : RefIs h9 kv w8 { D.counted with waits := D.waits ++ [(n, pad b)] } := by
        refine ⟨by show Strs h9 kv D.counted.kept; rw [Dk.counted_kept]; exact r9.ks, r9.sk, ?_, o9.slot wf9, rok, fun x => by simp only [hd] at x; cases x⟩
        have e : rcells (D.waits ++ [(n, pad b)]) = rcells D.waits ++ [.int .i64 (n : Int), .str (pad b)] := by simp [rcell]
        show Sl h9 2 w8 (D.waits ++ [(n, pad b)]).length (rcells (D.waits ++ [(n, pad b)]))
        rw [e]
        rw [hcw] at s9
        simpa using s9
      obtain ⟨sa, -, -, -⟩ := slots wf9 k09
      obtain ⟨h10, f1, f2, f3, rr, k10⟩ := give wf9 b9 rr9 sa aw9 (.inl rfl) (.inr (o9.less (by have := k04.n; omega))) ⟨_, b29, rfl⟩ k09
      refine WS_of_seq (WS_of_ops ?_)
      simp only [f18_r10, go_sem, ↓reduceIte, Nat.reduceEqDiff, s3, s6, f1, f2]
      refine WS_of_ret ?_
      simp only [f18_a, go_sem, ↓reduceIte, Nat.reduceEqDiff, s6, f3]
      rw [hwr]
      exact ⟨_, rfl, rr, k10⟩
  have hasL : D.has i = (decide (0 ≤ i) && decide (i < (D.kept.length : Int))) := rfl
  by_cases c1 : i < 0
  · simp only [f18_r1, go_sem, ↓reduceIte, Nat.reduceEqDiff, c1, decide_true, Bool.true_eq_false]
    refine WS_of_cond ?_
    simp only [go_sem, ↓reduceIte]
    refine bad (.inl (by rw [hasL]; simp; omega)) ?_ ?_ <;> rfl
  by_cases c2 : (D.kept.length : Int) ≤ i
  · simp only [f18_r1, go_sem, ↓reduceIte, Nat.reduceEqDiff, Nat.zero_add, b12.load, List.getElem?_cons_zero, hks, c1, c2, decide_true, decide_false, Bool.true_eq_false, Bool.false_eq_true]
    refine WS_of_cond ?_
    simp only [go_sem, ↓reduceIte]
    refine bad (.inl (by rw [hasL]; simp; omega)) ?_ ?_ <;> rfl
  by_cases c3 : (64 : Int) < (b.length : Int)
  · simp only [f18_r1, go_sem, ↓reduceIte, Nat.reduceEqDiff, Nat.zero_add, b12.load, List.getElem?_cons_zero, hks, c1, c2, c3, decide_true, decide_false, Bool.true_eq_false, Bool.false_eq_true]
    refine WS_of_cond ?_
    simp only [go_sem, ↓reduceIte]
    refine bad (.inr (by omega)) ?_ ?_ <;> rfl
  · simp only [f18_r1, go_sem, ↓reduceIte, Nat.reduceEqDiff, Nat.zero_add, b12.load, List.getElem?_cons_zero, hks, c1, c2, c3, decide_true, decide_false, Bool.true_eq_false, Bool.false_eq_true]
    refine WS_of_cond ?_
    simp only [go_sem, ↓reduceIte, Bool.false_eq_true]
    refine WS_of_skip ?_
    simp only [go_sem]
    refine goalgood (by rw [hasL]; simp; omega) ?_ ?_ ?_ ?_ <;> rfl
end Go.Proofs.Ytmfbememiffkjaa.Ev.C

/- The reference of the law 03, walked: a flush, a restart, a read. -/
namespace Go.Proofs.Ytmfbememiffkjaa.Ev.C
open Go Go.Proofs.Ytmfbememiffkjaa.Ev
set_option linter.unusedSimpArgs false
set_option linter.unusedVariables false
theorem waits_get {h : H} {wv : AV} {ws : List (Nat × Sec)} (s : Sl h 2 wv ws.length (rcells ws)) {j : Nat} (hj : j < ws.length) :
    ∃ o q, indexAddrA 2 wv (.int .i64 (j : Int)) = some (.ptr o q) ∧ ∀ h', Sl h' 2 wv ws.length (rcells ws) → loadA h' true 2 (.ptr o q) = some (.agg (rcell ws[j])) ∧ loadA h' false 1 (.ptr o (q + 0)) = some (.int .i64 (ws[j].1 : Int)) ∧ loadA h' false 1 (.ptr o (q + 1)) = some (.str ws[j].2) := by
  obtain ⟨o, i, row, rfl, ea, _, _, _⟩ := s.addr hj (by decide) .i64
  refine ⟨o, _, ea, fun h' s' => ?_⟩
  obtain ⟨o', i', row', eo, ea', hrow, hle, hcs⟩ := s'.addr hj (by decide) .i64
  cases eo
  have hm := mul_in (es := 2) hj
  have hc := flat_at (f := rcell) (es := 2) (l := ws) hj (fun _ _ => rfl)
  rw [show ws.flatMap rcell = (row'.drop i).take (ws.length * 2) from hcs, cut_in hj] at hc
  have hget : ∀ f, f < 2 → row'[i + j * 2 + f]? = (rcell ws[j])[f]? := by
    intro f hf
    rw [← hc, List.getElem?_take, if_pos hf, List.getElem?_drop]
  refine ⟨?_, ?_, ?_⟩
  · simp only [loadA, hrow, if_true]
    rw [if_pos (by omega), hc]
  · simp only [loadA, hrow, Bool.false_eq_true, if_false]
    rw [hget 0 (by decide)]; rfl
  · simp only [loadA, hrow, Bool.false_eq_true, if_false]
    rw [hget 1 (by decide)]; rfl
def fnd (ws : List (Nat × Sec)) (K : List Sec) (n : Nat) : Sec := match ws.reverse.find? (fun w => w.1 == n) with | some w => w.2 | none => K.getD n []
theorem fnd_succ {ws : List (Nat × Sec)} {K : List Sec} {n j : Nat} (hj : j < ws.length) : fnd (ws.take (j + 1)) K n = if ws[j].1 = n then ws[j].2 else fnd (ws.take j) K n := by
  unfold fnd
  rw [← List.take_append_getElem hj, List.reverse_append, List.reverse_singleton, List.singleton_append, List.find?_cons]
  by_cases c : ws[j].1 = n
  · simp [c]
  · have : (ws[j].1 == n) = false := by simpa using c
    rw [this, if_neg c]
theorem rread_spec {h : H} {kv wv : AV} {D : Dk} (wf : h.Wf) (r : RefIs h kv wv D) (i : Int) (hw : D.waits.length < 1000000) (hkl : D.kept.length < 1000000) :
    WCall E0 27 [.agg (dcells kv wv D), .int .i64 i] h fun r h' => r = .val (.tup [.str (D.read i).1, .int .i64 ((D.read i).2 : Int)]) ∧ Keep (Old h.n) h h' := by
  refine WCall_ws (ovn 27) U27 (by simp [f27_a]) ?_
  show WS E0 f27_c [] _ _ _
  refine WS_of_seq (WS_of_ops ?_)
  have k1 : Keep (Old h.n) h (h.new (dcells kv wv D)) := Keep.new (Nat.le_refl _) _
  have b1 : Box h.n (dcells kv wv D) (h.new (dcells kv wv D)) := Box.new wf _
  simp only [f27_r0, go_sem, ↓reduceIte, Nat.reduceEqDiff, agg_cells]
  generalize h.new (dcells kv wv D) = h1 at k1 b1 ⊢
  have wf1 := k1.wf wf
  have r1 := r.keep k1
  have hks : lenSA kv = some D.kept.length := r.ks.len
  refine WS_of_seq (WS_of_seq (WS_of_ops ?_))
  have hasL : D.has i = (decide (0 ≤ i) && decide (i < (D.kept.length : Int))) := rfl
  have bad : D.has i = false → ∀ {k : List Fr1} {s : S}, WS E0 (.seq (.ops f27_r2) .ret) k (atEnd f27_a.results fun r h' => r = .val (.tup [.str (D.read i).1, .int .i64 ((D.read i).2 : Int)]) ∧ Keep (Old h.n) h h') s h1 := by
    intro hc k s
    refine WS_of_seq (WS_of_ops ?_)
    simp only [f27_r2, go_sem, ↓reduceIte, Nat.reduceEqDiff]
    refine WS_of_ret ?_
    have hr : D.read i = ([], 1) := by simp [Dk.read, hc]
    simp only [f27_a, go_sem, ↓reduceIte, Nat.reduceEqDiff, hr]
    exact ⟨rfl, k1⟩
  by_cases c1 : i < 0
  · simp only [f27_r1, go_sem, ↓reduceIte, Nat.reduceEqDiff, c1, decide_true, Bool.true_eq_false]
    refine WS_of_cond ?_
    simp only [go_sem, ↓reduceIte]
    exact bad (by rw [hasL]; simp; omega)
  by_cases c2 : (D.kept.length : Int) ≤ i
  · simp only [f27_r1, go_sem, ↓reduceIte, Nat.reduceEqDiff, Nat.zero_add, b1.load, List.getElem?_cons_zero, hks, c1, c2, decide_true, decide_false, Bool.true_eq_false, Bool.false_eq_true]
    refine WS_of_cond ?_
    simp only [go_sem, ↓reduceIte]
    exact bad (by rw [hasL]; simp; omega)
  have hh : D.has i = true := by rw [hasL]; simp; omega
  obtain ⟨n, rfl, hn⟩ := has_iff.1 hh
  simp only [f27_r1, go_sem, ↓reduceIte, Nat.reduceEqDiff, Nat.zero_add, b1.load, List.getElem?_cons_zero, hks, c1, c2, decide_true, decide_false, Bool.true_eq_false, Bool.false_eq_true]
  refine WS_of_cond ?_
  simp only [go_sem, ↓reduceIte, Bool.false_eq_true]
  refine WS_of_skip ?_
  simp only [go_sem]
  refine WS_of_seq (WS_of_seq (WS_of_ops ?_))
  cases hd : D.dead with
  | true =>
    simp only [f27_r3, go_sem, ↓reduceIte, Nat.reduceEqDiff, Nat.zero_add, b1.load, List.getElem?_cons_zero, List.getElem?_cons_succ, hd]
    refine WS_of_cond ?_
    simp only [go_sem, ↓reduceIte]
    refine WS_of_seq (WS_of_ops ?_)
    simp only [f27_r4, go_sem, ↓reduceIte, Nat.reduceEqDiff]
    refine WS_of_ret ?_
    have hr : D.read (n : Int) = ([], 20) := by simp [Dk.read, hh, hd]
    simp only [f27_a, go_sem, ↓reduceIte, Nat.reduceEqDiff, hr]
    exact ⟨rfl, k1⟩
  | false =>
    simp only [f27_r3, go_sem, ↓reduceIte, Nat.reduceEqDiff, Nat.zero_add, b1.load, List.getElem?_cons_zero, List.getElem?_cons_succ, hd]
    refine WS_of_cond ?_
    simp only [go_sem, ↓reduceIte, Bool.false_eq_true]
    refine WS_of_skip ?_
    simp only [go_sem]
    have hr : D.read (n : Int) = (fnd D.waits D.kept n, 0) := by simp [Dk.read, hh, hd]; rfl
    rw [hr]
    obtain ⟨p, ep, lp⟩ := r1.ks.at hn .i64
    refine WS_of_seq (WS_of_ops ?_)
    simp only [f27_r5, go_sem, ↓reduceIte, Nat.reduceEqDiff, Nat.zero_add, b1.load, List.getElem?_cons_zero, ep, lp]
    refine WS_of_seq (WS_of_seq (WS_of_ops ?_))
    simp only [f27_r6, go_sem, ↓reduceIte, Nat.reduceEqDiff]
    refine WS_of_block (WS_of_loop (fun m s h2 => ∃ j, j + m = D.waits.length ∧ s 7 = .int .i64 (j : Int) ∧ s 1 = .int .i64 (n : Int) ∧ s 2 = .ptr h.n 0 ∧ s 6 = .str (fnd (D.waits.take j) D.kept n) ∧ h2 = h1) ?_ D.waits.length ?_)
    · rintro m s h2 ⟨j, hjm, s7, s1, s2, s6, rfl⟩
      show WS E0 f27_l11 [] _ _ _
      have hws := r1.ws.len
      refine WS_of_seq (WS_of_seq (WS_of_ops ?_))
      by_cases c : j < D.waits.length
      · have c' : (j : Int) < (D.waits.length : Int) := by omega
        simp only [f27_r7, go_sem, ↓reduceIte, Nat.reduceEqDiff, Nat.zero_add, b1.load, List.getElem?_cons_zero, List.getElem?_cons_succ, s7, s2, hws, c', decide_true]
        refine WS_of_cond ?_
        simp only [go_sem, ↓reduceIte]
        refine WS_of_skip ?_
        simp only [go_sem]
        obtain ⟨o, q, ea, ld⟩ := waits_get r1.ws c
        obtain ⟨l1, l2, l3⟩ := ld _ r1.ws
        have hw : IntKind.i64.wrap ((j : Int) + 1) = ((j + 1 : Nat) : Int) := by rw [wrap_i64 (by omega) (by omega)]; omega
        have hfs := fnd_succ (K := D.kept) (n := n) c
        refine WS_of_seq (WS_of_block (WS_of_seq (WS_of_ops ?_)))
        simp only [f27_r8, go_sem, ↓reduceIte, Nat.reduceEqDiff, Nat.zero_add, b1.load, List.getElem?_cons_zero, List.getElem?_cons_succ, s7, s2, s1, ea, l2]
        refine WS_of_cond ?_
        by_cases ce : D.waits[j].1 = n
        · have ce' : (D.waits[j].1 : Int) = (n : Int) := by omega
          rw [if_pos ce] at hfs
          simp only [go_sem, ↓reduceIte, ce', decide_true]
          refine WS_of_ops ?_
          simp only [f27_r9, go_sem, ↓reduceIte, Nat.reduceEqDiff, Nat.zero_add, b1.load, List.getElem?_cons_zero, List.getElem?_cons_succ, s7, s2, s1, ea, l3]
          refine WS_of_ops ?_
          simp only [f27_r10, go_sem, ↓reduceIte, Nat.reduceEqDiff, s7, hw]
          exact ⟨m - 1, by omega, j + 1, by omega, rfl, s1, s2, by rw [hfs], trivial⟩
        · have ce' : ¬ (D.waits[j].1 : Int) = (n : Int) := by omega
          rw [if_neg ce] at hfs
          simp only [go_sem, ↓reduceIte, ce', decide_false, Bool.false_eq_true]
          refine WS_of_skip ?_
          simp only [go_sem]
          refine WS_of_ops ?_
          simp only [f27_r10, go_sem, ↓reduceIte, Nat.reduceEqDiff, s7, hw]
          exact ⟨m - 1, by omega, j + 1, by omega, rfl, s1, s2, by rw [hfs]; exact s6, trivial⟩
      · have c' : ¬ (j : Int) < (D.waits.length : Int) := by omega
        obtain rfl : j = D.waits.length := by omega
        rw [List.take_length] at s6
        simp only [f27_r7, go_sem, ↓reduceIte, Nat.reduceEqDiff, Nat.zero_add, b1.load, List.getElem?_cons_zero, List.getElem?_cons_succ, s7, s2, hws, c', decide_false]
        refine WS_of_cond ?_
        simp only [go_sem, ↓reduceIte, Bool.false_eq_true]
        refine WS_of_exit ?_
        simp only [go_sem, ↓reduceIte]
        refine WS_of_seq (WS_of_ops ?_)
        simp only [f27_r12, go_sem, ↓reduceIte, Nat.reduceEqDiff, s6]
        refine WS_of_ret ?_
        simp only [f27_a, go_sem, ↓reduceIte, Nat.reduceEqDiff]
        exact ⟨rfl, k1⟩
    · refine ⟨0, by omega, rfl, rfl, rfl, ?_, rfl⟩
      have : fnd (D.waits.take 0) D.kept n = D.kept[n] := by
        show D.kept.getD n [] = _
        rw [List.getD_eq_getElem?_getD, List.getElem?_eq_getElem hn, Option.getD_some]
      rw [this]
      rfl

/-- what a flush's or a restart's loop keeps: the sectors so far in a box -/
structure PutI (h h2 : H) (r1 r2 : Nat) (kv0 wv : AV) (K : List Sec) (a : Nat) (dd : Bool) (rest : AV) : Prop where
  ex : ∃ kv, Box r1 [kv, rest, .int .i64 (a : Int), .bool dd] h2 ∧ Strs h2 kv K ∧ Slot (Apart [r1, r2] h2) h2 kv ∧ (kv = kv0 ∨ Own h.n h2 kv)
  b2 : ∃ x, Box r2 x h2 ∧ x.length = 4
  k : Keep (Old h.n) h h2
theorem apart_less {gs gs' : List Nat} {h : H} {v : AV} (s : Slot (Apart gs h) h v) (hs : ∀ g ∈ gs', g ∈ gs) : Slot (Apart gs' h) h v :=
  s.mono fun o ho => ⟨ho.1, fun hm => ho.2.1 (hs _ hm), fun cs g e hm => ho.2.2 cs g e (hs _ hm)⟩
theorem rflush_spec {h : H} {kv wv : AV} {D : Dk} (wf : h.Wf) (r : RefIs h kv wv D) (hw : D.waits.length < 1000000) (hkl : D.kept.length < 1000000) :
    WCall E0 20 [.agg (dcells kv wv D)] h fun r h' => ∃ cs', r = .val (.tup [.agg cs', .int .i64 (D.flush.2 : Int)]) ∧ RefTo h h' kv wv cs' D.flush.1 ∧ Keep (Old h.n) h h' := by
  refine WCall_ws (ovn 20) U20 (by simp [f20_a]) ?_
  show WS E0 f20_c [] _ _ _
  refine WS_of_seq (WS_of_ops ?_)
  have k1 : Keep (Old h.n) h (h.new (dcells kv wv D)) := Keep.new (Nat.le_refl _) _
  have b1 : Box h.n (dcells kv wv D) (h.new (dcells kv wv D)) := Box.new wf _
  have n1 : (h.new (dcells kv wv D)).n = h.n + 1 := rfl
  simp only [f20_r0, go_sem, ↓reduceIte, Nat.reduceEqDiff, agg_cells]
  generalize h.new (dcells kv wv D) = h1 at k1 b1 n1 ⊢
  have wf1 := k1.wf wf
  have k2 : Keep (Old h1.n) h1 (h1.new [.nils, .nils, .int .i64 0, .bool false]) := Keep.new (Nat.le_refl _) _
  have b2 : Box h1.n [.nils, .nils, .int .i64 0, .bool false] (h1.new [.nils, .nils, .int .i64 0, .bool false]) := Box.new wf1 _
  generalize h1.new [.nils, .nils, .int .i64 0, .bool false] = h2 at k2 b2 ⊢
  have wf2 := k2.wf wf1
  have b12 := b1.keep k2 (b1.lt wf1)
  have k02 : Keep (Old h.n) h h2 := k1.trans (k2.weaken fun q hq => by have : q < h.n := hq; show q < _; omega)
  have r2 := r.keep k02
  have slots : ∀ {h3 : H} (wf3 : h3.Wf) (k03 : Keep (Old h.n) h h3), Slot (Apart [h.n, h1.n] h3) h3 kv ∧ Slot (Apart [h.n, h1.n] h3) h3 wv := fun wf3 k03 =>
    ⟨(r.sk.keep k03 fun q hq => hq).apart wf3 k03.n (by simp; omega), (r.sw.keep k03 fun q hq => hq).apart wf3 k03.n (by simp; omega)⟩
  -- what stands in the first box is given back
  have give : ∀ {h3 : H} {kv' wv' : AV} {D' : Dk} (wf3 : h3.Wf) (bb : Box h.n (dcells kv' wv' D') h3) (rr : RefIs h3 kv' wv' D') (sa : Slot (Apart [h.n, h1.n] h3) h3 kv') (sb : Slot (Apart [h.n, h1.n] h3) h3 wv') (fk : kv' = kv ∨ Own h.n h3 kv') (fw : wv' = wv ∨ Own h.n h3 wv') (bx : ∃ x, Box h1.n x h3 ∧ x.length = 4) (k03 : Keep (Old h.n) h h3),
      ∃ h4, loadA h3 true 4 (.ptr h.n 0) = some (.agg (dcells kv' wv' D')) ∧ storeA h3 4 (.ptr h1.n 0) (.agg (dcells kv' wv' D')) = some h4 ∧ loadA h4 true 4 (.ptr h1.n 0) = some (.agg (dcells kv' wv' D')) ∧ RefTo h h4 kv wv (dcells kv' wv' D') D' ∧ Keep (Old h.n) h h4 := by
    rintro h3 kv' wv' D' wf3 bb rr sa sb fk fw ⟨x, bx, hx⟩ k03
    obtain ⟨h4, e4, b4, k4⟩ := bx.putAll (n := 4) (vs := dcells kv' wv' D') wf3 rfl (rr.all _ _) hx.symm
    have kb := bb.lt wf3
    have sa' := apart_less (gs' := [h1.n]) sa (by simp)
    have sb' := apart_less (gs' := [h1.n]) sb (by simp)
    exact ⟨h4, bb.loadAgg rfl, e4, b4.loadAgg rfl, ⟨kv', wv', rfl, ⟨rr.ks.keep k4 sa', (sa'.keepA k4).old, rr.ws.keep k4 sb', (sb'.keepA k4).old, rr.ok, rr.da⟩, fk.imp id (fun o => o.keep sa' k4), fw.imp id (fun o => o.keep sb' k4)⟩, k03.trans (k4.newbox wf3 k03.n (by omega))⟩
  refine WS_of_seq (WS_of_ops ?_)
  simp only [f20_r1, go_sem, ↓reduceIte, Nat.reduceEqDiff, b12.loadAgg (n := 4) rfl]
  refine (rcounted_spec wf2 r2).mono ?_
  rintro rr h3 ⟨rfl, k3⟩
  have wf3 := k3.wf wf2
  have k03 : Keep (Old h.n) h h3 := k02.trans (k3.weaken fun q hq => by have : q < h.n := hq; have := k02.n; show q < _; omega)
  have b13 := b12.keep k3 (b12.lt wf2)
  have b23 := b2.keep k3 (b2.lt wf2)
  have r3 := (r.keep k03).counted
  obtain ⟨h4, e4, b4, k4⟩ := b13.putAll (n := 4) (vs := dcells kv wv D.counted) wf3 rfl (r3.all _ _) rfl
  have wf4 := k4.wf wf3
  have k04 : Keep (Old h.n) h h4 := k03.trans (k4.newbox wf3 k03.n (Nat.le_refl _))
  have b24 := b23.keepA wf3 k4 (by simp; omega)
  have r4 := (r.keep k04).counted
  simp only [go_sem, ↓reduceIte, Nat.reduceEqDiff, e4]
  refine WS_of_seq (WS_of_seq (WS_of_ops ?_))
  cases hd : D.counted.dead with
  | true =>
    simp only [f20_r2, go_sem, ↓reduceIte, Nat.reduceEqDiff, Nat.zero_add, b4.load, List.getElem?_cons_zero, List.getElem?_cons_succ, hd]
    refine WS_of_cond ?_
    simp only [go_sem, ↓reduceIte]
    obtain ⟨sa, sb⟩ := slots wf4 k04
    obtain ⟨h5, f1, f2, f3, rr, k5⟩ := give wf4 b4 r4 sa sb (.inl rfl) (.inl rfl) ⟨_, b24, rfl⟩ k04
    refine WS_of_seq (WS_of_ops ?_)
    simp only [f20_r3, go_sem, ↓reduceIte, Nat.reduceEqDiff, f1, f2]
    refine WS_of_ret ?_
    simp only [f20_a, go_sem, ↓reduceIte, Nat.reduceEqDiff, f3]
    have hf : D.flush = (D.counted, 20) := by unfold Dk.flush; rw [if_pos hd]
    rw [hf]
    exact ⟨_, rfl, rr, k5⟩
  | false =>
    simp only [f20_r2, go_sem, ↓reduceIte, Nat.reduceEqDiff, Nat.zero_add, b4.load, List.getElem?_cons_zero, List.getElem?_cons_succ, hd]
    refine WS_of_cond ?_
    simp only [go_sem, ↓reduceIte, Bool.false_eq_true]
    refine WS_of_skip ?_
    simp only [go_sem]
    refine WS_of_seq (WS_of_seq (WS_of_ops ?_))
    simp only [f20_r4, go_sem, ↓reduceIte, Nat.reduceEqDiff]
    have hcw := Dk.counted_waits D
    have hck := Dk.counted_kept D
    have hrw : ∀ {h5 : H}, Keep (Old h.n) h h5 → Sl h5 2 wv D.waits.length (rcells D.waits) := fun k => r.ws.keep k r.sw
    have hlt1 := b4.lt wf4
    refine WS_of_block (WS_of_loop (fun m s h5 => ∃ j, j + m = D.waits.length ∧ s 4 = .int .i64 (j : Int) ∧ s 1 = .ptr h.n 0 ∧ s 2 = .ptr h1.n 0 ∧ PutI h h5 h.n h1.n kv wv ((D.waits.take j).foldl putS D.kept) D.counted.armed false wv ∧ h1.n + 1 ≤ h5.n) ?_ D.waits.length ?_)
    · rintro m s h5 ⟨j, hjm, s4, s1, s2, ⟨⟨kvj, bb, sk, ak, fk⟩, ⟨x, bx, hx⟩, k⟩, hle⟩
      show WS E0 f20_l8 [] _ _ _
      have wf5 := k.wf wf
      have rw5 := hrw k
      refine WS_of_seq (WS_of_seq (WS_of_ops ?_))
      by_cases c : j < D.waits.length
      · have c' : (j : Int) < (D.waits.length : Int) := by omega
        simp only [f20_r5, go_sem, ↓reduceIte, Nat.reduceEqDiff, Nat.zero_add, bb.load, List.getElem?_cons_zero, List.getElem?_cons_succ, s4, s1, rw5.len, c', decide_true]
        refine WS_of_cond ?_
        simp only [go_sem, ↓reduceIte]
        refine WS_of_skip ?_
        simp only [go_sem]
        obtain ⟨o, q, ea, ld⟩ := waits_get rw5 c
        obtain ⟨l1, -, -⟩ := ld _ rw5
        have hKl : ((D.waits.take j).foldl putS D.kept).length = D.kept.length := by
          have := (foldS_ok (ws := D.waits.take j) r.ok.k64 (fun w hw => (r.ok.w w (List.mem_of_mem_take hw)).2)).1
          exact this
        refine WS_of_seq (WS_of_block (WS_of_draw ?_))
        simp only [f20_r6, go_sem, ↓reduceIte, Nat.reduceEqDiff, and_self, true_and, List.filter_cons, List.filter_nil, Nat.testBit, Nat.reduceShiftRight, Nat.reduceAnd, Nat.reduceBNe, Bool.not_false, Bool.not_true, Bool.false_eq_true, bne_self_eq_false, eq_self, Nat.zero_add, bb.load, List.getElem?_cons_zero, List.getElem?_cons_succ, s4, s1, ea, l1]
        refine (rput_spec wf5 sk ak.old (by rw [hKl]; exact hkl)).mono ?_
        rintro rr h6 ⟨v6, rfl, sk6, o6, k6⟩
        have wf6 := k6.wf wf5
        have k06 : Keep (Old h.n) h h6 := k.trans (k6.weaken fun q hq => Nat.lt_of_lt_of_le hq k.n)
        have b6 := bb.keep k6 (bb.lt wf5)
        have bx6 := bx.keep k6 (bx.lt wf5)
        have hv6 := one_of_len sk6.len
        obtain ⟨h7, e7, b7, k7⟩ := b6.put wf6 (i := 0) (n := 1) (v := v6) (by rw [hv6.2]; rfl) (by rw [hv6.2]; simp [hv6.1]) (by simp)
        have hs7 : splice [kvj, wv, .int .i64 (D.counted.armed : Int), .bool false] 0 v6.cells = [v6, wv, .int .i64 (D.counted.armed : Int), .bool false] := by rw [hv6.2]; rfl
        rw [hs7] at b7
        have rw6 := hrw k06
        obtain ⟨l1', -, -⟩ := ld _ rw6
        have a6 : Slot (Apart [h.n, h1.n] h6) h6 v6 := o6.away wf6 fun g hg => by
          simp only [List.mem_cons, List.not_mem_nil, or_false] at hg
          rcases hg with rfl | rfl
          · exact ⟨by omega, b6.root⟩
          · exact ⟨by omega, bx6.root⟩
        have a6' := apart_less (gs' := [h.n]) a6 (by simp)
        have bx7 := bx6.keepA wf6 k7 (by simp; omega)
        have wf7 := k7.wf wf6
        simp only [go_sem, ↓reduceIte, Nat.reduceEqDiff, and_self, true_and, List.filter_cons, List.filter_nil, Nat.testBit, Nat.reduceShiftRight, Nat.reduceAnd, Nat.reduceBNe, Bool.not_false, Bool.not_true, Bool.false_eq_true, bne_self_eq_false, eq_self, Nat.zero_add, bb.load, b6.load, List.getElem?_cons_zero, List.getElem?_cons_succ, s4, s1, ea, l1, l1', e7]
        refine WS_of_ops ?_
        have hwj : IntKind.i64.wrap ((j : Int) + 1) = ((j + 1 : Nat) : Int) := by rw [wrap_i64 (by omega) (by omega)]; omega
        simp only [f20_r7, go_sem, ↓reduceIte, Nat.reduceEqDiff, s4, hwj]
        have hfs := foldl_take_succ (k := D.kept) c
        have o7 := o6.keep a6' k7
        have k07 : Keep (Old h.n) h h7 := k06.trans (k7.newbox wf6 k06.n (Nat.le_refl _))
        refine ⟨m - 1, by omega, j + 1, by omega, rfl, s1, s2, ⟨⟨v6, b7, by rw [hfs]; exact sk6.keep k7 a6', ?_, .inr (o7.less k.n)⟩, ⟨x, bx7, hx⟩, k07⟩, by have := k6.n; have := k7.n; omega⟩
        exact o7.away wf7 fun g hg => by
          simp only [List.mem_cons, List.not_mem_nil, or_false] at hg
          rcases hg with rfl | rfl
          · exact ⟨by omega, b7.root⟩
          · exact ⟨by omega, bx7.root⟩
      · have c' : ¬ (j : Int) < (D.waits.length : Int) := by omega
        obtain rfl : j = D.waits.length := by omega
        rw [List.take_length] at sk
        simp only [f20_r5, go_sem, ↓reduceIte, Nat.reduceEqDiff, Nat.zero_add, bb.load, List.getElem?_cons_zero, List.getElem?_cons_succ, s4, s1, rw5.len, c', decide_false]
        refine WS_of_cond ?_
        simp only [go_sem, ↓reduceIte, Bool.false_eq_true]
        refine WS_of_exit ?_
        simp only [go_sem, ↓reduceIte]
        have hf : D.flush = ({ D.counted with kept := D.waits.foldl putS D.kept, waits := [] }, 0) := by
          unfold Dk.flush; rw [if_neg (by rw [hd]; simp), hcw, hck]
        have hfo := r.ok.flush
        rw [hf] at hfo
        obtain ⟨h6, e6, b6, k6⟩ := bb.put wf5 (i := 1) (n := 1) (v := .nils) rfl rfl (by simp)
        have wf6 := k6.wf wf5
        have hs6 : splice [kvj, wv, .int .i64 (D.counted.armed : Int), .bool false] 1 AV.nils.cells = dcells kvj .nils { D.counted with kept := D.waits.foldl putS D.kept, waits := [] } := by rw [← hd]; rfl
        rw [hs6] at b6
        have ak' := apart_less (gs' := [h.n]) ak (by simp)
        have bx6 := bx.keepA wf5 k6 (by simp; omega)
        refine WS_of_seq (WS_of_ops ?_)
        simp only [f20_r9, go_sem, ↓reduceIte, Nat.reduceEqDiff, Nat.zero_add, s1, e6]
        have sk6 := sk.keep k6 ak'
        have k06 : Keep (Old h.n) h h6 := k.trans (k6.newbox wf5 k.n (Nat.le_refl _))
        have ak6 : Slot (Apart [h.n, h1.n] h6) h6 kvj := Slot.keepN wf5 ak k6 ak'
        have rr6 : RefIs h6 kvj .nils { D.counted with kept := D.waits.foldl putS D.kept, waits := [] } :=
          ⟨sk6, ak6.old, Sl.nil _ _, trivial, hfo, fun x => by simp only [hd] at x; cases x⟩
        obtain ⟨h7, f1, f2, f3, rr, k7⟩ := give wf6 b6 rr6 ak6 trivial (fk.imp id fun o => o.keep ak' k6) (.inr trivial) ⟨_, bx6, hx⟩ k06
        refine WS_of_seq (WS_of_ops ?_)
        simp only [f20_r10, go_sem, ↓reduceIte, Nat.reduceEqDiff, s1, s2, f1, f2]
        refine WS_of_ret ?_
        simp only [f20_a, go_sem, ↓reduceIte, Nat.reduceEqDiff, s2, f3]
        rw [hf]
        exact ⟨_, rfl, rr, k7⟩
    · obtain ⟨sa, -⟩ := slots wf4 k04
      refine ⟨0, by omega, rfl, rfl, rfl, ⟨⟨kv, by rw [← hd]; exact b4, r4.ks.keep (Keep.refl _ _) r4.sk |> fun x => by rw [← hck]; exact x, sa, .inl rfl⟩, ⟨_, b24, rfl⟩, k04⟩, ?_⟩
      have := b24.lt wf4
      omega
end Go.Proofs.Ytmfbememiffkjaa.Ev.C

/- The reference of the law 03, walked: a restart. -/
namespace Go.Proofs.Ytmfbememiffkjaa.Ev.C
open Go Go.Proofs.Ytmfbememiffkjaa.Ev
set_option linter.unusedSimpArgs false
set_option linter.unusedVariables false
theorem keepAll_step {K : List Sec} {ws : List (Nat × Sec)} {bs : List Bool} {j : Nat} (h1 : j < ws.length) (h2 : j < bs.length) : keepAll K (ws.drop j) (bs.drop j) = keepAll (if bs[j] then putS K ws[j] else K) (ws.drop (j + 1)) (bs.drop (j + 1)) := by
  rw [List.drop_eq_getElem_cons h1, List.drop_eq_getElem_cons h2]
  rfl
theorem keepAll_end {K : List Sec} {ws : List (Nat × Sec)} {bs : List Bool} {j : Nat} (h : ws.length ≤ j ∨ bs.length ≤ j) : keepAll K (ws.drop j) (bs.drop j) = K := by
  rcases h with h | h
  · rw [List.drop_eq_nil_of_le h]; cases bs.drop j <;> rfl
  · rw [List.drop_eq_nil_of_le h]; exact keepAll_nil K _
theorem rrestart_spec {h : H} {kv wv : AV} {D : Dk} {bv : AV} {bs : List Bool} (wf : h.Wf) (r : RefIs h kv wv D) (bb : Bools h bv bs) (sb : Slot (Old h.n) h bv) (hw : D.waits.length < 1000000) (hkl : D.kept.length < 1000000) :
    WCall E0 25 [.agg (dcells kv wv D), bv] h fun r h' => ∃ cs', r = .val (.agg cs') ∧ RefTo h h' kv wv cs' (D.restart bs) ∧ Keep (Old h.n) h h' := by
  refine WCall_ws (ovn 25) U25 (by simp [f25_a]) ?_
  show WS E0 f25_c [] _ _ _
  refine WS_of_seq (WS_of_ops ?_)
  have k1 : Keep (Old h.n) h (h.new (dcells kv wv D)) := Keep.new (Nat.le_refl _) _
  have b1 : Box h.n (dcells kv wv D) (h.new (dcells kv wv D)) := Box.new wf _
  have n1 : (h.new (dcells kv wv D)).n = h.n + 1 := rfl
  simp only [f25_r0, go_sem, ↓reduceIte, Nat.reduceEqDiff, agg_cells]
  generalize h.new (dcells kv wv D) = h1 at k1 b1 n1 ⊢
  have wf1 := k1.wf wf
  have k2 : Keep (Old h1.n) h1 (h1.new [.nils, .nils, .int .i64 0, .bool false]) := Keep.new (Nat.le_refl _) _
  have b2 : Box h1.n [.nils, .nils, .int .i64 0, .bool false] (h1.new [.nils, .nils, .int .i64 0, .bool false]) := Box.new wf1 _
  have n2 : (h1.new [.nils, .nils, .int .i64 0, .bool false]).n = h1.n + 1 := rfl
  generalize h1.new [.nils, .nils, .int .i64 0, .bool false] = h2 at k2 b2 n2 ⊢
  have wf2 := k2.wf wf1
  have b12 := b1.keep k2 (b1.lt wf1)
  have k02 : Keep (Old h.n) h h2 := k1.trans (k2.weaken fun q hq => by have : q < h.n := hq; show q < _; omega)
  have k3 : Keep (Old h2.n) h2 (h2.new [.nils, .nils, .int .i64 0, .bool false]) := Keep.new (Nat.le_refl _) _
  have b3 : Box h2.n [.nils, .nils, .int .i64 0, .bool false] (h2.new [.nils, .nils, .int .i64 0, .bool false]) := Box.new wf2 _
  have hone := r.one
  have ef : afill [AV.nils, .nils, .int .i64 0, .bool false] [(0, 1, kv)] = some [kv, .nils, .int .i64 0, .bool false] := by
    simp only [afill, hone.1.1]
    rfl
  have hall : ([kv, .nils, .int .i64 0, .bool false] : List AV).all AV.one = true := by simp only [List.all_cons, hone.1.2, List.all_nil]; rfl
  obtain ⟨h4, e4, b4, k4⟩ := b3.putAll (n := 4) (vs := [kv, .nils, .int .i64 0, .bool false]) (k3.wf wf2) rfl hall rfl
  have wf3 := k3.wf wf2
  have n3 : (h2.new [.nils, .nils, .int .i64 0, .bool false]).n = h2.n + 1 := rfl
  refine WS_of_seq (WS_of_ops ?_)
  simp only [f25_r1, go_sem, ↓reduceIte, Nat.reduceEqDiff, Nat.zero_add, b12.load, List.getElem?_cons_zero, ef, e4]
  generalize h2.new [.nils, .nils, .int .i64 0, .bool false] = h3 at k3 b3 e4 b4 k4 wf3 n3
  have wf4 := k4.wf wf3
  have b14 := (b12.keep k3 (b12.lt wf2)).keepA wf3 k4 (by simp; omega)
  have b24 := (b2.keep k3 (b2.lt wf2)).keepA wf3 k4 (by simp; omega)
  have k04 : Keep (Old h.n) h h4 := (k02.trans (k3.weaken fun q hq => by have : q < h.n := hq; have := k02.n; show q < _; omega)).trans (k4.newbox wf3 (by have := k02.n; have := k3.n; omega) (by have := k02.n; omega))
  have n4 := k4.n
  refine WS_of_seq (WS_of_seq (WS_of_ops ?_))
  simp only [f25_r2, go_sem, ↓reduceIte, Nat.reduceEqDiff]
  refine WS_of_block (WS_of_loop (fun m s h5 => ∃ j K kvj, j + m = D.waits.length ∧ s 6 = .int .i64 (j : Int) ∧ s 1 = bv ∧ s 2 = .ptr h.n 0 ∧ s 4 = .ptr h1.n 0 ∧ s 5 = .ptr h2.n 0 ∧ Box h2.n [kvj, .nils, .int .i64 0, .bool false] h5 ∧ Strs h5 kvj K ∧ Slot (Apart [h1.n, h2.n] h5) h5 kvj ∧ (kvj = kv ∨ Own h.n h5 kvj) ∧
    Box h.n (dcells kv wv D) h5 ∧ (∃ x, Box h1.n x h5 ∧ x.length = 4) ∧ Keep (Old h.n) h h5 ∧ h2.n + 1 ≤ h5.n ∧ K.length = D.kept.length ∧ keepAll K (D.waits.drop j) (bs.drop j) = keepAll D.kept D.waits bs) ?_ D.waits.length ?_)
  · rintro m s h5 ⟨j, K, kvj, hjm, s6, s1, s2, s4, s5, bk, sk, ak, fk, bd, ⟨x, bx, hx⟩, k, hle, hKl, hka⟩
    show WS E0 f25_l7 [] _ _ _
    have wf5 := k.wf wf
    have r5 := r.keep k
    have bb5 : Bools h5 bv bs := bb.keep k sb
    -- the end
    have ends : K = keepAll D.kept D.waits bs → ∀ {s : S}, s 4 = .ptr h1.n 0 → s 5 = .ptr h2.n 0 → WS E0 (.seq (.ops f25_r8) .ret) [] (atEnd f25_a.results fun r h' => ∃ cs', r = .val (.agg cs') ∧ RefTo h h' kv wv cs' (D.restart bs) ∧ Keep (Old h.n) h h') s h5 := by
      intro hK s s4 s5
      have hv := one_of_len sk.len
      have hall : ([kvj, .nils, .int .i64 0, .bool false] : List AV).all AV.one = true := by simp only [List.all_cons, hv.1, List.all_nil]; rfl
      obtain ⟨h6, e6, b6, k6⟩ := bx.putAll (n := 4) (vs := [kvj, .nils, .int .i64 0, .bool false]) wf5 rfl hall hx.symm
      have ak' := apart_less (gs' := [h1.n]) ak (by simp)
      refine WS_of_seq (WS_of_ops ?_)
      simp only [f25_r8, go_sem, ↓reduceIte, Nat.reduceEqDiff, s4, s5, bk.loadAgg (n := 4) rfl, e6]
      refine WS_of_ret ?_
      simp only [f25_a, go_sem, ↓reduceIte, Nat.reduceEqDiff, s4, b6.loadAgg (n := 4) rfl]
      refine ⟨_, rfl, ⟨kvj, .nils, rfl, ⟨?_, (ak'.keepA k6).old, Sl.nil _ _, trivial, r.ok.restart bs, fun x => by cases x⟩, fk.imp id (fun o => o.keep ak' k6), .inr trivial⟩, k.trans (k6.newbox wf5 k.n (by omega))⟩
      show Strs h6 kvj (keepAll D.kept D.waits bs)
      rw [← hK]
      exact sk.keep k6 ak'
    refine WS_of_seq (WS_of_seq (WS_of_ops ?_))
    by_cases c : j < D.waits.length
    · have c' : (j : Int) < (D.waits.length : Int) := by omega
      by_cases c2 : j < bs.length
      · have c2' : (j : Int) < (bs.length : Int) := by omega
        simp only [f25_r3, go_sem, ↓reduceIte, Nat.reduceEqDiff, Nat.zero_add, bd.load, List.getElem?_cons_zero, List.getElem?_cons_succ, s6, s1, s2, r5.ws.len, bb5.len, c', c2', decide_true]
        refine WS_of_cond ?_
        simp only [go_sem, ↓reduceIte]
        refine WS_of_skip ?_
        simp only [go_sem]
        obtain ⟨p, ep, lp⟩ := Bools.at bb5 c2 .i64
        have hst := keepAll_step (K := K) c c2
        rw [hka] at hst
        have hwj : IntKind.i64.wrap ((j : Int) + 1) = ((j + 1 : Nat) : Int) := by rw [wrap_i64 (by omega) (by omega)]; omega
        refine WS_of_seq (WS_of_block (WS_of_seq (WS_of_ops ?_)))
        simp only [f25_r4, go_sem, ↓reduceIte, Nat.reduceEqDiff, s1, s6, ep, lp]
        refine WS_of_cond ?_
        cases hb : bs[j] with
        | false =>
          rw [hb] at hst
          simp only [go_sem, ↓reduceIte, Bool.false_eq_true]
          refine WS_of_skip ?_
          simp only [go_sem]
          refine WS_of_ops ?_
          simp only [f25_r6, go_sem, ↓reduceIte, Nat.reduceEqDiff, s6, hwj]
          exact ⟨m - 1, by omega, j + 1, K, kvj, by omega, rfl, s1, s2, s4, s5, bk, sk, ak, fk, bd, ⟨x, bx, hx⟩, k, hle, hKl, hst.symm⟩
        | true =>
          rw [hb] at hst
          simp only [go_sem, ↓reduceIte]
          obtain ⟨o, q, ea, ld⟩ := waits_get r5.ws c
          obtain ⟨l1, -, -⟩ := ld _ r5.ws
          refine WS_of_draw ?_
          simp only [f25_r5, go_sem, ↓reduceIte, Nat.reduceEqDiff, and_self, true_and, List.filter_cons, List.filter_nil, Nat.testBit, Nat.reduceShiftRight, Nat.reduceAnd, Nat.reduceBNe, Bool.not_false, Bool.not_true, Bool.false_eq_true, bne_self_eq_false, eq_self, Nat.zero_add, bk.load, bd.load, List.getElem?_cons_zero, List.getElem?_cons_succ, s6, s2, s5, ea, l1]
          refine (rput_spec wf5 sk ak.old (by rw [hKl]; exact hkl)).mono ?_
          rintro rr h6 ⟨v6, rfl, sk6, o6, k6⟩
          have wf6 := k6.wf wf5
          have k06 : Keep (Old h.n) h h6 := k.trans (k6.weaken fun q hq => Nat.lt_of_lt_of_le hq k.n)
          have bk6 := bk.keep k6 (bk.lt wf5)
          have bx6 := bx.keep k6 (bx.lt wf5)
          have bd6 := bd.keep k6 (bd.lt wf5)
          have hv6 := one_of_len sk6.len
          obtain ⟨h7, e7, b7, k7⟩ := bk6.put wf6 (i := 0) (n := 1) (v := v6) (by rw [hv6.2]; rfl) (by rw [hv6.2]; simp [hv6.1]) (by simp)
          have hs7 : splice [kvj, .nils, .int .i64 0, .bool false] 0 v6.cells = [v6, .nils, .int .i64 0, .bool false] := by rw [hv6.2]; rfl
          rw [hs7] at b7
          obtain ⟨l1', -, -⟩ := ld _ (r.keep k06).ws
          have a6 : Slot (Apart [h1.n, h2.n] h6) h6 v6 := o6.away wf6 fun g hg => by
            simp only [List.mem_cons, List.not_mem_nil, or_false] at hg
            rcases hg with rfl | rfl
            · exact ⟨by omega, bx6.root⟩
            · exact ⟨by omega, bk6.root⟩
          have a6' := apart_less (gs' := [h2.n]) a6 (by simp)
          have bx7 := bx6.keepA wf6 k7 (by simp; omega)
          have bd7 := bd6.keepA wf6 k7 (by simp; omega)
          have wf7 := k7.wf wf6
          simp only [go_sem, ↓reduceIte, Nat.reduceEqDiff, and_self, true_and, List.filter_cons, List.filter_nil, Nat.testBit, Nat.reduceShiftRight, Nat.reduceAnd, Nat.reduceBNe, Bool.not_false, Bool.not_true, Bool.false_eq_true, bne_self_eq_false, eq_self, Nat.zero_add, bk.load, bd.load, bk6.load, bd6.load, List.getElem?_cons_zero, List.getElem?_cons_succ, s6, s2, s5, ea, l1, l1', e7]
          refine WS_of_ops ?_
          simp only [f25_r6, go_sem, ↓reduceIte, Nat.reduceEqDiff, s6, hwj]
          have o7 := o6.keep a6' k7
          have k07 : Keep (Old h.n) h h7 := k06.trans (k7.newbox wf6 k06.n (by omega))
          refine ⟨m - 1, by omega, j + 1, putS K D.waits[j], v6, by omega, rfl, s1, s2, s4, s5, b7, sk6.keep k7 a6', ?_, .inr (o7.less k.n), bd7, ⟨x, bx7, hx⟩, k07, by have := k6.n; have := k7.n; omega, by rw [putS_len]; exact hKl, hst.symm⟩
          exact o7.away wf7 fun g hg => by
            simp only [List.mem_cons, List.not_mem_nil, or_false] at hg
            rcases hg with rfl | rfl
            · exact ⟨by omega, bx7.root⟩
            · exact ⟨by omega, b7.root⟩
      · have c2' : ¬ (j : Int) < (bs.length : Int) := by omega
        simp only [f25_r3, go_sem, ↓reduceIte, Nat.reduceEqDiff, Nat.zero_add, bd.load, List.getElem?_cons_zero, List.getElem?_cons_succ, s6, s1, s2, r5.ws.len, bb5.len, c', c2', decide_true, decide_false]
        refine WS_of_cond ?_
        simp only [go_sem, ↓reduceIte, Bool.false_eq_true]
        refine WS_of_exit ?_
        simp only [go_sem, ↓reduceIte]
        rw [keepAll_end (.inr (by omega))] at hka
        refine ends hka ?_ ?_
        · exact s4
        · exact s5
    · have c' : ¬ (j : Int) < (D.waits.length : Int) := by omega
      simp only [f25_r3, go_sem, ↓reduceIte, Nat.reduceEqDiff, Nat.zero_add, bd.load, List.getElem?_cons_zero, List.getElem?_cons_succ, s6, s1, s2, r5.ws.len, c', decide_false, Bool.false_eq_true]
      refine WS_of_cond ?_
      simp only [go_sem, ↓reduceIte, Bool.false_eq_true]
      refine WS_of_exit ?_
      simp only [go_sem, ↓reduceIte]
      rw [keepAll_end (.inl (by omega))] at hka
      refine ends hka ?_ ?_
      · exact s4
      · exact s5
  · have sa : Slot (Apart [h1.n, h2.n] h4) h4 kv := (r.sk.keep k04 fun q hq => hq).apart wf4 k04.n (by simp; omega)
    exact ⟨0, D.kept, kv, by omega, rfl, rfl, rfl, rfl, rfl, b4, (r.keep k04).ks, sa, .inl rfl, b14, ⟨_, b24, rfl⟩, k04, by omega, rfl, rfl⟩
end Go.Proofs.Ytmfbememiffkjaa.Ev.C
