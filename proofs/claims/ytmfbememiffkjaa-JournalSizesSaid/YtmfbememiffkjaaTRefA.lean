/- The reference of the law 03, walked: its small functions. -/
import Derived.Test.YtmfbememiffkjaaTActK
namespace Go.Proofs.Ytmfbememiffkjaa.Ev.C
open Go Go.Proofs.Ytmfbememiffkjaa.Ev
set_option linter.unusedSimpArgs false
set_option linter.unusedVariables false
def rcell (w : Nat × Sec) : List AV := [.int .i64 (w.1 : Int), .str w.2]
abbrev rcells (l : List (Nat × Sec)) : List AV := l.flatMap rcell
theorem rcells_one (l : List (Nat × Sec)) : (rcells l).all AV.one = true := by
  rw [List.all_eq_true]
  intro x hx
  obtain ⟨w, _, hw⟩ := List.mem_flatMap.1 hx
  simp only [rcell, List.mem_cons, List.not_mem_nil, or_false] at hw
  rcases hw with rfl | rfl <;> rfl
/-- the reference's disk: four cells -/
structure RefIs (h : H) (kv wv : AV) (D : Dk) : Prop where
  ks : Strs h kv D.kept
  sk : Slot (Old h.n) h kv
  ws : Sl h 2 wv D.waits.length (rcells D.waits)
  sw : Slot (Old h.n) h wv
  ok : D.Ok
  da : D.dead = true → D.armed = 0
abbrev dcells (kv wv : AV) (D : Dk) : List AV := [kv, wv, .int .i64 (D.armed : Int), .bool D.dead]
def RefD (h : H) (cs : List AV) (D : Dk) : Prop := ∃ kv wv, cs = dcells kv wv D ∧ RefIs h kv wv D
theorem RefIs.keep {h h' : H} {kv wv : AV} {D : Dk} (r : RefIs h kv wv D) (k : Keep (Old h.n) h h') : RefIs h' kv wv D :=
  ⟨r.ks.keep k r.sk, r.sk.keep k fun o ho => Nat.lt_of_lt_of_le ho k.n, r.ws.keep k r.sw, r.sw.keep k fun o ho => Nat.lt_of_lt_of_le ho k.n, r.ok, r.da⟩
theorem RefD.keep {h h' : H} {cs : List AV} {D : Dk} (r : RefD h cs D) (k : Keep (Old h.n) h h') : RefD h' cs D := by
  obtain ⟨kv, wv, e, r⟩ := r
  exact ⟨kv, wv, e, r.keep k⟩
/-- what a call of the reference makes of a disk: each slice the old one or a new one -/
def RefTo (h h' : H) (kv wv : AV) (cs : List AV) (D : Dk) : Prop := ∃ kv' wv', cs = dcells kv' wv' D ∧ RefIs h' kv' wv' D ∧ (kv' = kv ∨ Own h.n h' kv') ∧ (wv' = wv ∨ Own h.n h' wv')
theorem from_apart {h h' : H} (wf' : h'.Wf) {v v' : AV} (f : v' = v ∨ Own h.n h' v') (k : Keep (Old h.n) h h') {gs : List Nat} (hg : ∀ g ∈ gs, g < h.n ∧ Root g h) (s : Slot (Apart gs h) h v) : Slot (Apart gs h') h' v' := by
  rcases f with rfl | o
  · exact s.keepA (KeepA.of k)
  · exact o.away wf' fun g hgm => ⟨(hg g hgm).1, (hg g hgm).2.keep k (hg g hgm).1⟩
theorem RefIs.one {h : H} {kv wv : AV} {D : Dk} (r : RefIs h kv wv D) : (kv.cells = [kv] ∧ kv.one = true) ∧ wv.cells = [wv] ∧ wv.one = true :=
  ⟨⟨(one_of_len r.ks.len).2, (one_of_len r.ks.len).1⟩, (one_of_len r.ws.len).2, (one_of_len r.ws.len).1⟩
theorem RefIs.all {h : H} {kv wv : AV} {D : Dk} (r : RefIs h kv wv D) (x : Int) (b : Bool) : ([kv, wv, .int .i64 x, .bool b] : List AV).all AV.one = true := by
  simp only [List.all_cons, r.one.1.2, r.one.2.2, List.all_nil]
  rfl
theorem agg_cells (cs : List AV) : (AV.agg cs).cells = cs := rfl

abbrev zsec0 : Sec := List.replicate 64 0
theorem rpad_spec {h : H} {b : Sec} (hb : b.length < 1000000) : WCall E0 42 [.str b] h fun r h' => h' = h ∧ r = .val (.str (pad b)) := by
  refine WCall_ws (ovn 42) U42 (by simp [f42_a]) ?_
  show WS E0 f42_c [] _ _ _
  refine WS_of_seq (WS_of_ops ?_)
  simp only [f42_r0, go_sem, ↓reduceIte]
  refine WS_of_seq (WS_of_block (WS_of_loop (fun m s h' => ∃ i, i + m = (pad b).length ∧ b.length ≤ i ∧ s 0 = .str (b ++ List.replicate (i - b.length) 0) ∧ h' = h) ?_ ((pad b).length - b.length) ?_))
  · rintro m s h' ⟨i, him, hbi, s0, rfl⟩
    show WS E0 f42_l3 [] _ _ _
    have hlen : (b ++ List.replicate (i - b.length) 0).length = i := by simp; omega
    have hpl : (pad b).length = b.length + (64 - b.length) := by simp [pad]
    refine WS_of_seq (WS_of_seq (WS_of_ops ?_))
    by_cases ci : i < 64
    · have ci' : (i : Int) < 64 := by omega
      simp only [f42_r1, go_sem, ↓reduceIte, Nat.reduceEqDiff, s0, hlen, ci', decide_true]
      refine WS_of_cond ?_
      simp only [go_sem, ↓reduceIte]
      refine WS_of_skip ?_
      simp only [go_sem]
      refine WS_of_block (WS_of_ops ?_)
      have hbig : i + 1 ≤ big := by unfold big; omega
      have happ : b ++ List.replicate (i - b.length) 0 ++ [0] = b ++ List.replicate (i + 1 - b.length) 0 := by
        rw [List.append_assoc, show i + 1 - b.length = i - b.length + 1 by omega, List.replicate_succ']
      simp only [f42_r2, go_sem, ↓reduceIte, Nat.reduceEqDiff, s0, hlen, List.length_singleton, List.length_cons, List.length_nil, Nat.zero_add, hbig, happ]
      exact ⟨m - 1, by omega, i + 1, by omega, by omega, rfl, trivial⟩
    · have ci' : ¬ (i : Int) < 64 := by omega
      have ei : i - b.length = 64 - b.length := by omega
      rw [ei] at s0 hlen
      have hp : b ++ List.replicate (64 - b.length) 0 = pad b := rfl
      rw [hp] at s0 hlen
      simp only [f42_r1, go_sem, ↓reduceIte, Nat.reduceEqDiff, s0, hlen, ci', decide_false]
      refine WS_of_cond ?_
      simp only [go_sem, ↓reduceIte, Bool.false_eq_true]
      refine WS_of_exit ?_
      simp only [go_sem, ↓reduceIte, Nat.reduceEqDiff]
      refine WS_of_seq (WS_of_ops ?_)
      simp only [f42_r4, go_sem, ↓reduceIte, Nat.reduceEqDiff, s0]
      refine WS_of_ret ?_
      simp only [f42_a, go_sem, ↓reduceIte, Nat.reduceEqDiff]
      exact ⟨trivial, trivial⟩
  · exact ⟨b.length, by simp [pad], Nat.le_refl _, (show AV.str b = .str (b ++ List.replicate (b.length - b.length) 0) by simp), rfl⟩

theorem RefIs.counted {h : H} {kv wv : AV} {D : Dk} (r : RefIs h kv wv D) : RefIs h kv wv D.counted := by
  refine ⟨by rw [Dk.counted_kept]; exact r.ks, r.sk, by rw [Dk.counted_waits]; exact r.ws, r.sw, r.ok.counted, ?_⟩
  intro hd
  rw [Dk.counted_armed]
  rw [Dk.counted_dead] at hd
  split at hd
  · simp at hd; omega
  · have := r.da hd; omega
theorem rcounted_spec {h : H} {kv wv : AV} {D : Dk} (wf : h.Wf) (r : RefIs h kv wv D) : WCall E0 45 [.agg (dcells kv wv D)] h fun r h' => r = .val (.agg (dcells kv wv D.counted)) ∧ Keep (Old h.n) h h' := by
  refine WCall_ws (ovn 45) U45 (by simp [f45_a]) ?_
  show WS E0 f45_c [] _ _ _
  have hone := r.one
  refine WS_of_seq (WS_of_ops ?_)
  have k1 : Keep (Old h.n) h (h.new (dcells kv wv D)) := Keep.new (Nat.le_refl _) _
  have b1 : Box h.n (dcells kv wv D) (h.new (dcells kv wv D)) := Box.new wf _
  have n1 : (h.new (dcells kv wv D)).n = h.n + 1 := rfl
  simp only [f45_r0, go_sem, ↓reduceIte, Nat.reduceEqDiff, agg_cells]
  generalize h.new (dcells kv wv D) = h1 at k1 b1 n1 ⊢
  have wf1 := k1.wf wf
  have k2 : Keep (Old h1.n) h1 (h1.new [.nils, .nils, .int .i64 0, .bool false]) := Keep.new (Nat.le_refl _) _
  have b2 : Box h1.n [.nils, .nils, .int .i64 0, .bool false] (h1.new [.nils, .nils, .int .i64 0, .bool false]) := Box.new wf1 _
  generalize h1.new [.nils, .nils, .int .i64 0, .bool false] = h2 at k2 b2 ⊢
  have wf2 := k2.wf wf1
  have b12 := b1.keep k2 (b1.lt wf1)
  have k02 : Keep (Old h.n) h h2 := k1.trans (k2.weaken fun q hq => by have : q < h.n := hq; show q < _; omega)
  -- the end
  have fin' : ∀ {h3 : H} {s : S}, h3.Wf → Keep (Old h.n) h h3 → Box h.n (dcells kv wv D.counted) h3 → (∃ x, Box h1.n x h3 ∧ x.length = 4) → s 1 = .ptr h.n 0 → s 2 = .ptr h1.n 0 →
      WS E0 (.seq (.ops f45_r5) .ret) [] (atEnd f45_a.results fun r h' => r = .val (.agg (dcells kv wv D.counted)) ∧ Keep (Old h.n) h h') s h3 := by
    intro h3 s wf3 k03 bb ⟨x, bx, hx⟩ s1 s2
    obtain ⟨h4, e4, b4, k4⟩ := bx.putAll (n := 4) (vs := dcells kv wv D.counted) wf3 rfl (r.all _ _) hx.symm
    refine WS_of_seq (WS_of_ops ?_)
    simp only [f45_r5, go_sem, ↓reduceIte, Nat.reduceEqDiff, s1, s2, bb.loadAgg (n := 4) rfl, e4]
    refine WS_of_ret ?_
    simp only [f45_a, go_sem, ↓reduceIte, Nat.reduceEqDiff, s2, b4.loadAgg (n := 4) rfl]
    have k04 : Keep (Old h.n) h h4 := k03.trans (k4.newbox wf3 k03.n (by omega))
    exact ⟨trivial, k04⟩
  refine WS_of_seq (WS_of_seq (WS_of_ops ?_))
  by_cases c1 : D.armed = 1
  · have c1' : (D.armed : Int) = 1 := by omega
    simp only [f45_r1, go_sem, ↓reduceIte, Nat.reduceEqDiff, Nat.zero_add, b12.load, List.getElem?_cons_zero, List.getElem?_cons_succ, c1', decide_true]
    refine WS_of_cond ?_
    simp only [go_sem, ↓reduceIte]
    refine WS_of_ops ?_
    obtain ⟨h3, e3, b3, k3⟩ := b12.put wf2 (i := 3) (n := 1) (v := .bool true) rfl rfl (by simp)
    have wf3 := k3.wf wf2
    have b23 := b2.keepA wf2 k3 (by simp; omega)
    simp only [f45_r2, go_sem, ↓reduceIte, Nat.reduceEqDiff, Nat.zero_add, e3]
    refine WS_of_seq (WS_of_seq (WS_of_ops ?_))
    have hs3 : splice (dcells kv wv D) 3 (AV.bool true).cells = [kv, wv, .int .i64 (D.armed : Int), .bool true] := rfl
    rw [hs3] at b3
    have c2' : (0 : Int) < (D.armed : Int) := by omega
    simp only [f45_r3, go_sem, ↓reduceIte, Nat.reduceEqDiff, Nat.zero_add, b3.load, List.getElem?_cons_zero, List.getElem?_cons_succ, c2', decide_true]
    refine WS_of_cond ?_
    simp only [go_sem, ↓reduceIte]
    refine WS_of_ops ?_
    obtain ⟨h4, e4, b4, k4⟩ := b3.put wf3 (i := 2) (n := 1) (v := .int .i64 0) rfl rfl (by simp)
    have wf4 := k4.wf wf3
    have b24 := b23.keepA wf3 k4 (by simp; omega)
    have hw : IntKind.i64.wrap ((D.armed : Int) - 1) = 0 := by rw [c1']; rfl
    simp only [f45_r4, go_sem, ↓reduceIte, Nat.reduceEqDiff, Nat.zero_add, b3.load, List.getElem?_cons_zero, List.getElem?_cons_succ, hw, e4]
    have hc : D.counted = { D with armed := 0, dead := true } := by unfold Dk.counted; rw [if_pos (by omega), c1]; rfl
    have x3 := k02.trans (k3.newbox wf2 k02.n (by omega))
    have x4 := x3.trans (k4.newbox wf3 x3.n (by omega))
    exact fin' wf4 x4 (by rw [hc]; exact b4) ⟨_, b24, rfl⟩ rfl rfl
  · have c1' : ¬ (D.armed : Int) = 1 := by omega
    simp only [f45_r1, go_sem, ↓reduceIte, Nat.reduceEqDiff, Nat.zero_add, b12.load, List.getElem?_cons_zero, List.getElem?_cons_succ, c1', decide_false]
    refine WS_of_cond ?_
    simp only [go_sem, ↓reduceIte, Bool.false_eq_true]
    refine WS_of_skip ?_
    simp only [go_sem]
    refine WS_of_seq (WS_of_seq (WS_of_ops ?_))
    by_cases c2 : 0 < D.armed
    · have c2' : (0 : Int) < (D.armed : Int) := by omega
      simp only [f45_r3, go_sem, ↓reduceIte, Nat.reduceEqDiff, Nat.zero_add, b12.load, List.getElem?_cons_zero, List.getElem?_cons_succ, c2', decide_true]
      refine WS_of_cond ?_
      simp only [go_sem, ↓reduceIte]
      refine WS_of_ops ?_
      obtain ⟨h4, e4, b4, k4⟩ := b12.put wf2 (i := 2) (n := 1) (v := .int .i64 ((D.armed - 1 : Nat) : Int)) rfl rfl (by simp)
      have wf4 := k4.wf wf2
      have b24 := b2.keepA wf2 k4 (by simp; omega)
      have ha := r.ok.arm
      have hw : IntKind.i64.wrap ((D.armed : Int) - 1) = ((D.armed - 1 : Nat) : Int) := by rw [wrap_i64 (by omega) (by omega)]; omega
      simp only [f45_r4, go_sem, ↓reduceIte, Nat.reduceEqDiff, Nat.zero_add, b12.load, List.getElem?_cons_zero, List.getElem?_cons_succ, hw, e4]
      have hdd : D.dead = false := by
        cases e : D.dead with
        | false => rfl
        | true => have := r.da e; omega
      have hc : D.counted = { D with armed := D.armed - 1, dead := D.dead } := by
        unfold Dk.counted; rw [if_pos (by omega), hdd]
        have : decide (D.armed = 1) = false := by simpa using c1
        rw [this]
      have x4 := k02.trans (k4.newbox wf2 k02.n (by omega))
      exact fin' wf4 x4 (by rw [hc]; exact b4) ⟨_, b24, rfl⟩ rfl rfl
    · have c2' : ¬ (0 : Int) < (D.armed : Int) := by omega
      simp only [f45_r3, go_sem, ↓reduceIte, Nat.reduceEqDiff, Nat.zero_add, b12.load, List.getElem?_cons_zero, List.getElem?_cons_succ, c2', decide_false]
      refine WS_of_cond ?_
      simp only [go_sem, ↓reduceIte, Bool.false_eq_true]
      refine WS_of_skip ?_
      simp only [go_sem]
      exact fin' wf2 k02 (by rw [Dk.counted_zero (by omega)]; exact b12) ⟨_, b2, rfl⟩ rfl rfl
end Go.Proofs.Ytmfbememiffkjaa.Ev.C

/- The reference of the law 03, walked: arming, one sector put, a new disk. -/
namespace Go.Proofs.Ytmfbememiffkjaa.Ev.C
open Go Go.Proofs.Ytmfbememiffkjaa.Ev
set_option linter.unusedSimpArgs false
set_option linter.unusedVariables false
theorem rarm_spec {h : H} {kv wv : AV} {D : Dk} (wf : h.Wf) (r : RefIs h kv wv D) (n : Int) (hn : n < 9223372036854775808) : WCall E0 22 [.agg (dcells kv wv D), .int .i64 n] h fun r h' => ∃ cs', r = .val (.agg cs') ∧ RefTo h h' kv wv cs' (D.arm n) ∧ Keep (Old h.n) h h' := by
  refine WCall_ws (ovn 22) U22 (by simp [f22_a]) ?_
  show WS E0 f22_c [] _ _ _
  refine WS_of_seq (WS_of_ops ?_)
  have k1 : Keep (Old h.n) h (h.new (dcells kv wv D)) := Keep.new (Nat.le_refl _) _
  have b1 : Box h.n (dcells kv wv D) (h.new (dcells kv wv D)) := Box.new wf _
  have n1 : (h.new (dcells kv wv D)).n = h.n + 1 := rfl
  simp only [f22_r0, go_sem, ↓reduceIte, Nat.reduceEqDiff, agg_cells]
  generalize h.new (dcells kv wv D) = h1 at k1 b1 n1 ⊢
  have wf1 := k1.wf wf
  have k2 : Keep (Old h1.n) h1 (h1.new [.nils, .nils, .int .i64 0, .bool false]) := Keep.new (Nat.le_refl _) _
  have b2 : Box h1.n [.nils, .nils, .int .i64 0, .bool false] (h1.new [.nils, .nils, .int .i64 0, .bool false]) := Box.new wf1 _
  generalize h1.new [.nils, .nils, .int .i64 0, .bool false] = h2 at k2 b2 ⊢
  have wf2 := k2.wf wf1
  have b12 := b1.keep k2 (b1.lt wf1)
  have k02 : Keep (Old h.n) h h2 := k1.trans (k2.weaken fun q hq => by have : q < h.n := hq; show q < _; omega)
  refine WS_of_seq (WS_of_seq (WS_of_ops ?_))
  cases hd : D.dead with
  | true =>
    simp only [f22_r1, go_sem, ↓reduceIte, Nat.reduceEqDiff, Nat.zero_add, b12.load, List.getElem?_cons_zero, List.getElem?_cons_succ, hd]
    refine WS_of_cond ?_
    simp only [go_sem, ↓reduceIte]
    obtain ⟨h4, e4, b4, k4⟩ := b2.putAll (n := 4) (vs := dcells kv wv D) wf2 rfl (r.all _ _) rfl
    refine WS_of_seq (WS_of_ops ?_)
    simp only [f22_r2, go_sem, ↓reduceIte, Nat.reduceEqDiff, b12.loadAgg (n := 4) rfl, e4]
    refine WS_of_ret ?_
    simp only [f22_a, go_sem, ↓reduceIte, Nat.reduceEqDiff, b4.loadAgg (n := 4) rfl]
    have k04 : Keep (Old h.n) h h4 := k02.trans (k4.newbox wf2 k02.n (by omega))
    have hD : D.arm n = D := by unfold Dk.arm; rw [if_pos hd]
    rw [hD]
    exact ⟨_, rfl, ⟨kv, wv, rfl, r.keep k04, .inl rfl, .inl rfl⟩, k04⟩
  | false =>
    simp only [f22_r1, go_sem, ↓reduceIte, Nat.reduceEqDiff, Nat.zero_add, b12.load, List.getElem?_cons_zero, List.getElem?_cons_succ, hd]
    refine WS_of_cond ?_
    simp only [go_sem, ↓reduceIte, Bool.false_eq_true]
    refine WS_of_skip ?_
    simp only [go_sem]
    have hD : D.arm n = { D with armed := n.toNat } := by unfold Dk.arm; rw [if_neg (by rw [hd]; simp)]
    -- the end
    have fin' : ∀ {s : S}, s 1 = .int .i64 (n.toNat : Int) → s 2 = .ptr h.n 0 → s 4 = .ptr h1.n 0 → WS E0 (.seq (.ops f22_r5) (.seq (.ops f22_r6) .ret)) [] (atEnd f22_a.results fun r h' => ∃ cs', r = .val (.agg cs') ∧ RefTo h h' kv wv cs' (D.arm n) ∧ Keep (Old h.n) h h') s h2 := by
      intro s s1 s2 s4
      obtain ⟨h3, e3, b3, k3⟩ := b12.put wf2 (i := 2) (n := 1) (v := .int .i64 (n.toNat : Int)) rfl rfl (by simp)
      have wf3 := k3.wf wf2
      have b23 := b2.keepA wf2 k3 (by simp; omega)
      have hs3 : splice (dcells kv wv D) 2 (AV.int .i64 (n.toNat : Int)).cells = dcells kv wv { D with armed := n.toNat } := rfl
      rw [hs3] at b3
      refine WS_of_seq (WS_of_ops ?_)
      simp only [f22_r5, go_sem, ↓reduceIte, Nat.reduceEqDiff, Nat.zero_add, s1, s2, e3]
      obtain ⟨h4, e4, b4, k4⟩ := b23.putAll (n := 4) (vs := dcells kv wv { D with armed := n.toNat }) wf3 rfl (r.all _ _) rfl
      refine WS_of_seq (WS_of_ops ?_)
      simp only [f22_r6, go_sem, ↓reduceIte, Nat.reduceEqDiff, s2, s4, b3.loadAgg (n := 4) rfl, e4]
      refine WS_of_ret ?_
      simp only [f22_a, go_sem, ↓reduceIte, Nat.reduceEqDiff, s4, b4.loadAgg (n := 4) rfl]
      have k03 : Keep (Old h.n) h h3 := k02.trans (k3.newbox wf2 k02.n (by omega))
      have k04 : Keep (Old h.n) h h4 := k03.trans (k4.newbox wf3 k03.n (by omega))
      have r4 := r.keep k04
      refine ⟨_, rfl, ⟨kv, wv, by rw [hD], ?_, .inl rfl, .inl rfl⟩, k04⟩
      have := r.ok.arm' (n := n) hn
      rw [hD] at this ⊢
      exact ⟨r4.ks, r4.sk, r4.ws, r4.sw, this, fun x => by simp only [hd] at x; cases x⟩
    refine WS_of_seq (WS_of_seq (WS_of_ops ?_))
    by_cases c : n < 0
    · simp only [f22_r3, go_sem, ↓reduceIte, Nat.reduceEqDiff, c, decide_true]
      refine WS_of_cond ?_
      simp only [go_sem, ↓reduceIte]
      refine WS_of_ops ?_
      simp only [f22_r4, go_sem, ↓reduceIte, Nat.reduceEqDiff]
      exact fin' (by rw [Int.toNat_of_nonpos (by omega)]; rfl) rfl rfl
    · simp only [f22_r3, go_sem, ↓reduceIte, Nat.reduceEqDiff, c, decide_false]
      refine WS_of_cond ?_
      simp only [go_sem, ↓reduceIte, Bool.false_eq_true]
      refine WS_of_skip ?_
      simp only [go_sem]
      exact fin' (by rw [Int.toNat_of_nonneg (by omega)]; rfl) rfl rfl

/-- one sector put -/
theorem rput_spec {h : H} {kv : AV} {K : List Sec} {w : Nat × Sec} (wf : h.Wf) (ks : Strs h kv K) (sk : Slot (Old h.n) h kv) (hK : K.length < 1000000) :
    WCall E0 47 [kv, .agg (rcell w)] h fun r h' => ∃ v, r = .val v ∧ Strs h' v (putS K w) ∧ Own h.n h' v ∧ Keep (Old h.n) h h' := by
  refine WCall_ws (ovn 47) U47 (by simp [f47_a]) ?_
  show WS E0 f47_c [] _ _ _
  refine WS_of_seq (WS_of_ops ?_)
  have k1 : Keep (Old h.n) h (h.new (rcell w)) := Keep.new (Nat.le_refl _) _
  have b1 : Box h.n (rcell w) (h.new (rcell w)) := Box.new wf _
  have n1 : (h.new (rcell w)).n = h.n + 1 := rfl
  simp only [f47_r0, go_sem, ↓reduceIte, Nat.reduceEqDiff, agg_cells]
  generalize h.new (rcell w) = h1 at k1 b1 n1 ⊢
  have wf1 := k1.wf wf
  refine WS_of_seq (WS_of_ops ?_)
  simp only [f47_r1, go_sem, ↓reduceIte, Nat.reduceEqDiff]
  refine WS_of_seq (WS_of_seq (WS_of_ops ?_))
  simp only [f47_r2, go_sem, ↓reduceIte, Nat.reduceEqDiff]
  refine WS_of_block (WS_of_loop (fun m s h2 => ∃ j v, j + m = K.length ∧ s 6 = .int .i64 (j : Int) ∧ s 0 = kv ∧ s 3 = .ptr h.n 0 ∧ s 5 = v ∧ Strs h2 v ((putS K w).take j) ∧ Own h1.n h2 v ∧ Keep (Old h1.n) h1 h2) ?_ K.length ?_)
  · rintro m s h2 ⟨j, v, hjm, s6, s0, s3, s5, sv, ov, k2⟩
    show WS E0 f47_l8 [] _ _ _
    have wf2 := k2.wf wf1
    have k02 : Keep (Old h.n) h h2 := k1.trans (k2.weaken fun q hq => by have : q < h.n := hq; show q < _; omega)
    have ks2 := ks.keep k02 sk
    have b2 := b1.keep k2 (b1.lt wf1)
    refine WS_of_seq (WS_of_seq (WS_of_ops ?_))
    by_cases c : j < K.length
    · have c' : (j : Int) < (K.length : Int) := by omega
      simp only [f47_r3, go_sem, ↓reduceIte, Nat.reduceEqDiff, s6, s0, ks.len, c', decide_true]
      refine WS_of_cond ?_
      simp only [go_sem, ↓reduceIte]
      refine WS_of_skip ?_
      simp only [go_sem]
      have hw : IntKind.i64.wrap ((j : Int) + 1) = ((j + 1 : Nat) : Int) := by rw [wrap_i64 (by omega) (by omega)]; omega
      have l0 : loadA h2 false 1 (.ptr h.n 0) = some (.int .i64 (w.1 : Int)) := by rw [b2.load]; rfl
      have l1 : loadA h2 false 1 (.ptr h.n 1) = some (.str w.2) := by rw [b2.load]; rfl
      have hpl : j < (putS K w).length := by rw [putS_len]; exact c
      have htk : (putS K w).take (j + 1) = (putS K w).take j ++ [(putS K w)[j]] := (List.take_append_getElem hpl).symm
      have hvl : ((putS K w).take j).length = j := by rw [List.length_take]; omega
      -- an append
      have app : ∀ (x : Sec), (putS K w)[j] = x → ∃ v' h4, afill (zeros [AV.str []] (1 * 1)) [(0, 1, AV.str x)] = some [.str x] ∧ appendA (h2.new [.str x]) 1 v (.slice h2.n 0 1 1) = some (v', h4) ∧ Strs h4 v' ((putS K w).take (j + 1)) ∧ Own h1.n h4 v' ∧ Keep (Old h1.n) h1 h4 := by
        intro x hx
        have kn : Keep (Old h2.n) h2 (h2.new [.str x]) := Keep.new (Nat.le_refl _) _
        have sn : Strs (h2.new [.str x]) (.slice h2.n 0 1 1) [x] := Strs.one wf2 x
        have wfn := kn.wf wf2
        have slv := ov.slot wf2
        obtain ⟨v', h4, e4, s4, o4, k4⟩ := Strs.app (N := h1.n) wfn (Nat.le_trans k2.n kn.n) (sv.keep kn slv) (ov.keep slv kn) sn (by rw [hvl]; simp; omega)
        refine ⟨v', h4, rfl, e4, ?_, o4, (k2.trans (kn.weaken fun q hq => Nat.lt_of_lt_of_le hq k2.n)).trans k4⟩
        rw [htk, hx]
        exact s4
      refine WS_of_seq (WS_of_block (WS_of_seq (WS_of_ops ?_)))
      simp only [f47_r4, go_sem, ↓reduceIte, Nat.reduceEqDiff, Nat.zero_add, s6, s3, l0]
      refine WS_of_cond ?_
      by_cases ce : w.1 = j
      · have ce' : (j : Int) = (w.1 : Int) := by omega
        obtain ⟨v', h4, ef, e4, s4, o4, k4⟩ := app w.2 (by simp [putS, ce])
        simp only [go_sem, ↓reduceIte, ce', decide_true]
        refine WS_of_ops ?_
        simp only [f47_r5, go_sem, ↓reduceIte, Nat.reduceEqDiff, Nat.zero_add, s3, s5, l1, ef, e4]
        refine WS_of_ops ?_
        rw [← ce'] at *
        simp only [f47_r7, go_sem, ↓reduceIte, Nat.reduceEqDiff, s6, hw]
        exact ⟨m - 1, by omega, j + 1, v', by omega, rfl, s0, s3, rfl, s4, o4, k4⟩
      · have ce' : ¬ (j : Int) = (w.1 : Int) := by omega
        obtain ⟨v', h4, ef, e4, s4, o4, k4⟩ := app K[j] (by simp [putS, List.getElem_set, ce])
        obtain ⟨p, ep, lp⟩ := ks2.at c .i64
        simp only [go_sem, ↓reduceIte, ce', decide_false, Bool.false_eq_true]
        refine WS_of_ops ?_
        simp only [f47_r6, go_sem, ↓reduceIte, Nat.reduceEqDiff, s0, s3, s5, s6, ep, lp, ef, e4]
        refine WS_of_ops ?_
        simp only [f47_r7, go_sem, ↓reduceIte, Nat.reduceEqDiff, s6, hw]
        exact ⟨m - 1, by omega, j + 1, v', by omega, rfl, s0, s3, rfl, s4, o4, k4⟩
    · have c' : ¬ (j : Int) < (K.length : Int) := by omega
      obtain rfl : j = K.length := by omega
      simp only [f47_r3, go_sem, ↓reduceIte, Nat.reduceEqDiff, s6, s0, ks.len, c', decide_false]
      refine WS_of_cond ?_
      simp only [go_sem, ↓reduceIte, Bool.false_eq_true]
      refine WS_of_exit ?_
      simp only [go_sem, ↓reduceIte]
      refine WS_of_seq (WS_of_ops ?_)
      simp only [f47_r9, go_sem, ↓reduceIte, Nat.reduceEqDiff, s5]
      refine WS_of_ret ?_
      simp only [f47_a, go_sem, ↓reduceIte, Nat.reduceEqDiff]
      rw [List.take_of_length_le (by rw [putS_len]; exact Nat.le_refl _)] at sv
      exact ⟨_, rfl, sv, ov.less (by omega), k02⟩
  · exact ⟨0, .nils, by omega, rfl, rfl, rfl, rfl, Strs.nil _, trivial, Keep.refl _ _⟩
end Go.Proofs.Ytmfbememiffkjaa.Ev.C

/- The reference of the law 03, walked: a new disk, a write. -/
namespace Go.Proofs.Ytmfbememiffkjaa.Ev.C
open Go Go.Proofs.Ytmfbememiffkjaa.Ev
set_option linter.unusedSimpArgs false
set_option linter.unusedVariables false
theorem rnew_spec {h : H} (wf : h.Wf) {n : Nat} (hn1 : 1 ≤ n) (hn : n ≤ 1000) : WCall E0 16 [.int .i64 (n : Int)] h fun r h' => ∃ cs, r = .val (.agg cs) ∧ RefTo h h' .nils .nils cs (Dk.new n) ∧ Keep (Old h.n) h h' := by
  refine WCall_ws (ovn 16) U16 (by simp [f16_a]) ?_
  show WS E0 f16_c [] _ _ _
  refine WS_of_seq (WS_of_ops ?_)
  have k1 : Keep (Old h.n) h (h.new [.nils, .nils, .int .i64 0, .bool false]) := Keep.new (Nat.le_refl _) _
  have b1 : Box h.n [.nils, .nils, .int .i64 0, .bool false] (h.new [.nils, .nils, .int .i64 0, .bool false]) := Box.new wf _
  have n1 : (h.new [.nils, .nils, .int .i64 0, .bool false]).n = h.n + 1 := rfl
  simp only [f16_r0, go_sem, ↓reduceIte, Nat.reduceEqDiff]
  generalize h.new [.nils, .nils, .int .i64 0, .bool false] = h1 at k1 b1 n1 ⊢
  have wf1 := k1.wf wf
  refine WS_of_seq (WS_of_ops ?_)
  have k2 : Keep (Old h1.n) h1 (h1.new [.nils, .nils, .int .i64 0, .bool false]) := Keep.new (Nat.le_refl _) _
  have b2 : Box h1.n [.nils, .nils, .int .i64 0, .bool false] (h1.new [.nils, .nils, .int .i64 0, .bool false]) := Box.new wf1 _
  have n2 : (h1.new [.nils, .nils, .int .i64 0, .bool false]).n = h1.n + 1 := rfl
  have ef : afill [AV.nils, .nils, .int .i64 0, .bool false] [] = some [.nils, .nils, .int .i64 0, .bool false] := rfl
  obtain ⟨h3, e3, b3, k3⟩ := b2.putAll (n := 4) (vs := [.nils, .nils, .int .i64 0, .bool false]) (k2.wf wf1) rfl rfl rfl
  have wf2 := k2.wf wf1
  simp only [f16_r1, go_sem, ↓reduceIte, Nat.reduceEqDiff, ef, e3]
  generalize h1.new [.nils, .nils, .int .i64 0, .bool false] = h2 at k2 b2 n2 e3 k3 wf2
  have wf3 := k3.wf wf2
  have b13 := (b1.keep k2 (b1.lt wf1)).keepA wf2 k3 (by simp; omega)
  have k03 : Keep (Old h.n) h h3 := (k1.trans (k2.weaken fun q hq => by have : q < h.n := hq; show q < _; omega)).trans (k3.newbox wf2 (by omega) (by omega))
  refine WS_of_seq (WS_of_ops ?_)
  simp only [f16_r2, go_sem, ↓reduceIte, Nat.reduceEqDiff]
  refine (rpad_spec (by simp)).mono ?_
  rintro r h4 ⟨rfl, rfl⟩
  have hz : pad [] = zsec0 := rfl
  simp only [go_sem, ↓reduceIte, Nat.reduceEqDiff, hz]
  refine WS_of_seq (WS_of_seq (WS_of_ops ?_))
  simp only [f16_r3, go_sem, ↓reduceIte, Nat.reduceEqDiff]
  refine WS_of_block (WS_of_loop (fun m s h5 => ∃ j v, j + m = n ∧ s 5 = .int .i64 (j : Int) ∧ s 0 = .int .i64 (n : Int) ∧ s 4 = .str zsec0 ∧ s 3 = .ptr h1.n 0 ∧ s 2 = .ptr h.n 0 ∧ Box h1.n [v, .nils, .int .i64 0, .bool false] h5 ∧ (∃ x, Box h.n x h5 ∧ x.length = 4) ∧ Strs h5 v (List.replicate j zsec0) ∧ Own (h1.n + 1) h5 v ∧ Keep (Old h.n) h h5 ∧ h1.n + 1 ≤ h5.n) ?_ n ?_)
  · rintro m s h5 ⟨j, v, hjm, s5, s0, s4, s3, s2, bb, ⟨x, bx, hx⟩, sv, ov, k, hle⟩
    show WS E0 f16_l7 [] _ _ _
    have wf5 := k.wf wf
    refine WS_of_seq (WS_of_seq (WS_of_ops ?_))
    by_cases c : j < n
    · have c' : (j : Int) < (n : Int) := by omega
      simp only [f16_r4, go_sem, ↓reduceIte, Nat.reduceEqDiff, s5, s0, c', decide_true]
      refine WS_of_cond ?_
      simp only [go_sem, ↓reduceIte]
      refine WS_of_skip ?_
      simp only [go_sem]
      have kn : Keep (Old h5.n) h5 (h5.new [.str zsec0]) := Keep.new (Nat.le_refl _) _
      have sn : Strs (h5.new [.str zsec0]) (.slice h5.n 0 1 1) [zsec0] := Strs.one wf5 _
      have wfn := kn.wf wf5
      have slv := ov.slot wf5
      obtain ⟨v', h6, e6, s6, o6, k6⟩ := Strs.app (N := h1.n + 1) wfn (Nat.le_trans hle kn.n) (sv.keep kn slv) (ov.keep slv kn) sn (by simp; omega)
      have wf6 := k6.wf wfn
      have k56 : Keep (Old (h1.n + 1)) h5 h6 := (kn.weaken fun q hq => Nat.lt_of_lt_of_le hq hle).trans k6
      have b6 := bb.keep k56 (Nat.lt_succ_self _)
      have bx6 := bx.keep k56 (by show _ < _; omega)
      have hv := one_of_len s6.len
      have ef : afill (zeros [AV.str []] (1 * 1)) [(0, 1, AV.str zsec0)] = some [.str zsec0] := rfl
      obtain ⟨h7, e7, b7, k7⟩ := b6.put wf6 (i := 0) (n := 1) (v := v') (by rw [hv.2]; rfl) (by rw [hv.2]; simp [hv.1]) (by simp)
      have hs7 : splice [v, .nils, .int .i64 0, .bool false] 0 v'.cells = [v', .nils, .int .i64 0, .bool false] := by rw [hv.2]; rfl
      rw [hs7] at b7
      have bx7 := bx6.keepA wf6 k7 (by simp; omega)
      have sv7 := o6.away (gs := [h1.n]) wf6 (fun g hg => by
        simp only [List.mem_cons, List.not_mem_nil, or_false] at hg
        subst hg
        exact ⟨Nat.lt_succ_self _, b6.root⟩)
      refine WS_of_seq (WS_of_block (WS_of_ops ?_))
      simp only [f16_r5, go_sem, ↓reduceIte, Nat.reduceEqDiff, Nat.zero_add, s3, s4, bb.load, List.getElem?_cons_zero, ef, e6, e7]
      refine WS_of_ops ?_
      have hw : IntKind.i64.wrap ((j : Int) + 1) = ((j + 1 : Nat) : Int) := by rw [wrap_i64 (by omega) (by omega)]; omega
      simp only [f16_r6, go_sem, ↓reduceIte, Nat.reduceEqDiff, s5, hw]
      refine ⟨m - 1, by omega, j + 1, v', by omega, rfl, s0, s4, s3, s2, b7, ⟨_, bx7, hx⟩, ?_, o6.keep sv7 k7, (k.trans (k56.weaken fun q hq => by have : q < h.n := hq; show q < _; omega)).trans (k7.newbox wf6 (by have := k.n; have := k56.n; omega) (by omega)), Nat.le_trans hle (Nat.le_trans k56.n k7.n)⟩
      have := s6.keep k7 sv7
      rw [List.replicate_succ']
      exact this
    · have c' : ¬ (j : Int) < (n : Int) := by omega
      obtain rfl : j = n := by omega
      simp only [f16_r4, go_sem, ↓reduceIte, Nat.reduceEqDiff, s5, s0, c', decide_false]
      refine WS_of_cond ?_
      simp only [go_sem, ↓reduceIte, Bool.false_eq_true]
      refine WS_of_exit ?_
      simp only [go_sem, ↓reduceIte]
      have hv := one_of_len sv.len
      obtain ⟨h6, e6, b6, k6⟩ := bx.putAll (n := 4) (vs := [v, .nils, .int .i64 0, .bool false]) wf5 rfl (by simp only [List.all_cons, hv.1, List.all_nil]; rfl) hx.symm
      have sv6 := ov.away (gs := [h.n]) wf5 (fun g hg => by
        simp only [List.mem_cons, List.not_mem_nil, or_false] at hg
        subst hg
        exact ⟨by omega, bx.root⟩)
      refine WS_of_seq (WS_of_ops ?_)
      simp only [f16_r8, go_sem, ↓reduceIte, Nat.reduceEqDiff, s3, s2, bb.loadAgg (n := 4) rfl, e6]
      refine WS_of_ret ?_
      simp only [f16_a, go_sem, ↓reduceIte, Nat.reduceEqDiff, s2, b6.loadAgg (n := 4) rfl]
      have wf6 := k6.wf wf5
      exact ⟨_, rfl, ⟨v, .nils, rfl, ⟨by
        have := sv.keep k6 sv6
        show Sl h6 1 v (List.replicate j zsec0).length _
        exact this, ((ov.keep sv6 k6).slot wf6), Sl.nil _ _, trivial, Dk.new_ok hn1 (by omega), fun x => by cases x⟩, .inr ((ov.keep sv6 k6).less (by omega)), .inl rfl⟩, k.trans (k6.newbox wf5 k.n (Nat.le_refl _))⟩
  · exact ⟨0, .nils, by omega, rfl, rfl, rfl, rfl, rfl, b3, ⟨_, b13, rfl⟩, Strs.nil _, trivial, k03, by have := k3.n; omega⟩

theorem rwrite_spec {h : H} {kv wv : AV} {D : Dk} {b : Sec} (wf : h.Wf) (r : RefIs h kv wv D) (i : Int) (hb : b.length < 1000000) (hw : D.waits.length < 1000000) (hkl : D.kept.length < 1000000) :
    WCall E0 18 [.agg (dcells kv wv D), .int .i64 i, .str b] h fun r h' => ∃ cs', r = .val (.tup [.agg cs', .int .i64 ((D.write i b).2 : Int)]) ∧ RefTo h h' kv wv cs' (D.write i b).1 ∧ Keep (Old h.n) h h' := by
  refine WCall_ws (ovn 18) U18 (by simp [f18_a]) ?_
  show WS E0 f18_c [] _ _ _
  refine WS_of_seq (WS_of_ops ?_)
  have k1 : Keep (Old h.n) h (h.new (dcells kv wv D)) := Keep.new (Nat.le_refl _) _
  have b1 : Box h.n (dcells kv wv D) (h.new (dcells kv wv D)) := Box.new wf _
  have n1 : (h.new (dcells kv wv D)).n = h.n + 1 := rfl
  simp only [f18_r0, go_sem, ↓reduceIte, Nat.reduceEqDiff, agg_cells]
  generalize h.new (dcells kv wv D) = h1 at k1 b1 n1 ⊢
  have wf1 := k1.wf wf
  have k2 : Keep (Old h1.n) h1 (h1.new [.nils, .nils, .int .i64 0, .bool false]) := Keep.new (Nat.le_refl _) _
  have b2 : Box h1.n [.nils, .nils, .int .i64 0, .bool false] (h1.new [.nils, .nils, .int .i64 0, .bool false]) := Box.new wf1 _
  generalize h1.new [.nils, .nils, .int .i64 0, .bool false] = h2 at k2 b2 ⊢
  have wf2 := k2.wf wf1
  have b12 := b1.keep k2 (b1.lt wf1)
  have k02 : Keep (Old h.n) h h2 := k1.trans (k2.weaken fun q hq => by have : q < h.n := hq; show q < _; omega)
  have r2 := r.keep k02
  -- the results: what stands in the first box is given back
  have give : ∀ {h3 : H} {kv' wv' : AV} {D' : Dk} (wf3 : h3.Wf) (bb : Box h.n (dcells kv' wv' D') h3) (rr : RefIs h3 kv' wv' D') (sa : Slot (Apart [h1.n] h3) h3 kv') (sb : Slot (Apart [h1.n] h3) h3 wv') (fk : kv' = kv ∨ Own h.n h3 kv') (fw : wv' = wv ∨ Own h.n h3 wv') (bx : ∃ x, Box h1.n x h3 ∧ x.length = 4) (k03 : Keep (Old h.n) h h3),
      ∃ h4, loadA h3 true 4 (.ptr h.n 0) = some (.agg (dcells kv' wv' D')) ∧ storeA h3 4 (.ptr h1.n 0) (.agg (dcells kv' wv' D')) = some h4 ∧ loadA h4 true 4 (.ptr h1.n 0) = some (.agg (dcells kv' wv' D')) ∧ RefTo h h4 kv wv (dcells kv' wv' D') D' ∧ Keep (Old h.n) h h4 := by
    rintro h3 kv' wv' D' wf3 bb rr sa sb fk fw ⟨x, bx, hx⟩ k03
    obtain ⟨h4, e4, b4, k4⟩ := bx.putAll (n := 4) (vs := dcells kv' wv' D') wf3 rfl (rr.all _ _) hx.symm
    have kb := bb.lt wf3
    exact ⟨h4, bb.loadAgg rfl, e4, b4.loadAgg rfl, ⟨kv', wv', rfl, ⟨rr.ks.keep k4 sa, (sa.keepA k4).old, rr.ws.keep k4 sb, (sb.keepA k4).old, rr.ok, rr.da⟩, fk.imp id (fun o => o.keep sa k4), fw.imp id (fun o => o.keep sb k4)⟩, k03.trans (k4.newbox wf3 k03.n (by omega))⟩
  have slots : ∀ {h3 : H} (wf3 : h3.Wf) (k03 : Keep (Old h.n) h h3), Slot (Apart [h1.n] h3) h3 kv ∧ Slot (Apart [h1.n] h3) h3 wv ∧ Slot (Apart [h.n] h3) h3 kv ∧ Slot (Apart [h.n] h3) h3 wv := fun wf3 k03 =>
    have s1 := r.sk.keep k03 fun q hq => hq
    have s2 := r.sw.keep k03 fun q hq => hq
    ⟨s1.apart wf3 k03.n (by simp; omega), s2.apart wf3 k03.n (by simp; omega), s1.apart wf3 k03.n (by simp), s2.apart wf3 k03.n (by simp)⟩
  refine WS_of_seq (WS_of_seq (WS_of_ops ?_))
  have bad : D.has i = false ∨ 64 < b.length → ∀ {k : List Fr1} {s : S}, s 3 = .ptr h.n 0 → s 6 = .ptr h1.n 0 → WS E0 (.seq (.ops f18_r2) .ret) k (atEnd f18_a.results fun r h' => ∃ cs', r = .val (.tup [.agg cs', .int .i64 ((D.write i b).2 : Int)]) ∧ RefTo h h' kv wv cs' (D.write i b).1 ∧ Keep (Old h.n) h h') s h2 := by
    intro hc k s s3 s6
    obtain ⟨sa, sb, -, -⟩ := slots wf2 k02
    obtain ⟨h4, e1, e2, e3, rr, k4⟩ := give wf2 b12 r2 sa sb (.inl rfl) (.inl rfl) ⟨_, b2, rfl⟩ k02
    refine WS_of_seq (WS_of_ops ?_)
    simp only [f18_r2, go_sem, ↓reduceIte, Nat.reduceEqDiff, s3, s6, e1, e2]
    refine WS_of_ret ?_
    simp only [f18_a, go_sem, ↓reduceIte, Nat.reduceEqDiff, s6, e3]
    rw [Dk.write_bad hc]
    exact ⟨_, rfl, rr, k4⟩
  have hks : lenSA kv = some D.kept.length := r.ks.len
  have goalgood : ¬ (D.has i = false ∨ 64 < b.length) → ∀ {s : S}, s 3 = .ptr h.n 0 → s 6 = .ptr h1.n 0 → s 1 = .int .i64 i → s 2 = .str b →
      WS E0 (.seq (.ops f18_r3) (.seq (.seq (.ops f18_r4) (.cond (.tmp 27) (.seq (.ops f18_r5) .ret) .skip)) (.seq (.ops f18_r6) (.seq (.ops f18_r7) (.seq (.ops f18_r8) (.seq (.ops f18_r9) (.seq (.ops f18_r10) .ret))))))) []
        (atEnd f18_a.results fun r h' => ∃ cs', r = .val (.tup [.agg cs', .int .i64 ((D.write i b).2 : Int)]) ∧ RefTo h h' kv wv cs' (D.write i b).1 ∧ Keep (Old h.n) h h') s h2 := by
    intro hc s s3 s6 s1 s2
    have hh : D.has i = true := by cases e : D.has i with
      | true => rfl
      | false => exact absurd (.inl e) hc
    have hbl : b.length ≤ 64 := by omega
    refine WS_of_seq (WS_of_ops ?_)
    simp only [f18_r3, go_sem, ↓reduceIte, Nat.reduceEqDiff, s3, b12.loadAgg (n := 4) rfl]
    refine (rcounted_spec wf2 r2).mono ?_
    rintro rr h3 ⟨rfl, k3⟩
    have wf3 := k3.wf wf2
    have k03 : Keep (Old h.n) h h3 := k02.trans (k3.weaken fun q hq => by have : q < h.n := hq; have := k02.n; show q < _; omega)
    have b13 := b12.keep k3 (b12.lt wf2)
    have b23 := b2.keep k3 (b2.lt wf2)
    have r3 := (r.keep k03).counted
    obtain ⟨h4, e4, b4, k4⟩ := b13.putAll (n := 4) (vs := dcells kv wv D.counted) wf3 rfl (r3.all _ _) rfl
    have wf4 := k4.wf wf3
    have k04 : Keep (Old h.n) h h4 := k03.trans (k4.newbox wf3 k03.n (Nat.le_refl _))
    have b24 := b23.keepA wf3 k4 (by simp; omega)
    have r4 := (r.keep k04).counted
    simp only [go_sem, ↓reduceIte, Nat.reduceEqDiff, s3, e4]
    refine WS_of_seq (WS_of_seq (WS_of_ops ?_))
    cases hd : D.counted.dead with
    | true =>
      simp only [f18_r4, go_sem, ↓reduceIte, Nat.reduceEqDiff, Nat.zero_add, s3, b4.load, List.getElem?_cons_zero, List.getElem?_cons_succ, hd]
      refine WS_of_cond ?_
      simp only [go_sem, ↓reduceIte]
      obtain ⟨sa, sb, -, -⟩ := slots wf4 k04
      obtain ⟨h5, f1, f2, f3, rr, k5⟩ := give wf4 b4 r4 sa sb (.inl rfl) (.inl rfl) ⟨_, b24, rfl⟩ k04
      refine WS_of_seq (WS_of_ops ?_)
      simp only [f18_r5, go_sem, ↓reduceIte, Nat.reduceEqDiff, s3, s6, f1, f2]
      refine WS_of_ret ?_
      simp only [f18_a, go_sem, ↓reduceIte, Nat.reduceEqDiff, s6, f3]
      rw [Dk.write_dead hh hbl hd]
      exact ⟨_, rfl, rr, k5⟩
    | false =>
      simp only [f18_r4, go_sem, ↓reduceIte, Nat.reduceEqDiff, Nat.zero_add, s3, b4.load, List.getElem?_cons_zero, List.getElem?_cons_succ, hd]
      refine WS_of_cond ?_
      simp only [go_sem, ↓reduceIte, Bool.false_eq_true]
      refine WS_of_skip ?_
      simp only [go_sem]
      refine WS_of_seq (WS_of_ops ?_)
      simp only [f18_r6, go_sem, ↓reduceIte, Nat.reduceEqDiff]
      refine WS_of_seq (WS_of_ops ?_)
      have hcw := Dk.counted_waits D
      obtain ⟨w5, h5, e5, s5, o5, k5⟩ := append_own (N := h4.n) wf4 (Nat.le_refl _) (Sl.nil h4 2) (by trivial) r4.ws (rcells_one _) (by rw [hcw]; omega)
      have wf5 := k5.wf wf4
      simp only [f18_r7, go_sem, ↓reduceIte, Nat.reduceEqDiff, Nat.zero_add, s3, b4.load, List.getElem?_cons_zero, List.getElem?_cons_succ, e5]
      refine WS_of_seq (WS_of_ops ?_)
      simp only [f18_r8, go_sem, ↓reduceIte, Nat.reduceEqDiff, s1, s2]
      refine (rpad_spec hb).mono ?_
      rintro rr h6 ⟨rfl, rfl⟩
      have ef : afill [AV.int .i64 0, .str []] [(0, 1, .int .i64 i), (1, 1, .str (pad b))] = some [.int .i64 i, .str (pad b)] := rfl
      have eg : afill (zeros [AV.int .i64 0, .str []] (1 * 2)) [(0, 2, .agg [.int .i64 i, .str (pad b)])] = some [.int .i64 i, .str (pad b)] := rfl
      have k7 : Keep (Old h6.n) h6 (h6.new [.int .i64 i, .str (pad b)]) := Keep.new (Nat.le_refl _) _
      have sn : Sl (h6.new [.int .i64 i, .str (pad b)]) 2 (.slice h6.n 0 1 2) 1 [.int .i64 i, .str (pad b)] := by
        have := Sl.new (es := 2) (n := 1) wf5 (vs := [.int .i64 i, .str (pad b)]) (by simp)
        simpa using this
      have wf7 := k7.wf wf5
      have sl5 := o5.slot wf5
      obtain ⟨w8, h8, e8, s8, o8, k8⟩ := append_own (N := h4.n) wf7 (Nat.le_trans k5.n k7.n) (s5.keep k7 sl5) (o5.keep sl5 k7) sn (by simp [AV.one]) (by rw [hcw]; omega)
      have wf8 := k8.wf wf7
      simp only [go_sem, ↓reduceIte, Nat.reduceEqDiff, s1, s2, ef, eg, e8]
      have k48 : Keep (Old h4.n) h4 h8 := (k5.trans (k7.weaken fun q hq => Nat.lt_of_lt_of_le hq k5.n)).trans k8
      have k08 : Keep (Old h.n) h h8 := k04.trans (k48.weaken fun q hq => Nat.lt_of_lt_of_le hq k04.n)
      have b8 := b4.keep k48 (b4.lt wf4)
      have b28 := b24.keep k48 (b24.lt wf4)
      have hv8 := one_of_len s8.len
      have hl1 := b4.lt wf4
      have hl2 := b24.lt wf4
      refine WS_of_seq (WS_of_ops ?_)
      obtain ⟨h9, e9, b9, k9⟩ := b8.put wf8 (i := 1) (n := 1) (v := w8) (by rw [hv8.2]; rfl) (by rw [hv8.2]; simp [hv8.1]) (by simp)
      have wf9 := k9.wf wf8
      obtain ⟨n, rfl, hn⟩ := has_iff.1 hh
      have hwr : D.write (n : Int) b = ({ D.counted with waits := D.waits ++ [(n, pad b)] }, 0) := by rw [Dk.write_good hh hbl hd, Int.toNat_natCast]
      have hs9 : splice (dcells kv wv D.counted) 1 w8.cells = dcells kv w8 { D.counted with waits := D.waits ++ [(n, pad b)] } := by rw [hv8.2]; rfl
      rw [hs9] at b9
      simp only [f18_r9, go_sem, ↓reduceIte, Nat.reduceEqDiff, Nat.zero_add, s3, e9]
      have aw : ∀ g, (g = h.n ∨ g = h1.n) → Slot (Apart [g] h8) h8 w8 := fun g hg => o8.away wf8 fun x hx => by
        simp only [List.mem_cons, List.not_mem_nil, or_false] at hx
        subst hx
        rcases hg with rfl | rfl
        · exact ⟨hl1, b8.root⟩
        · exact ⟨hl2, b28.root⟩
      have s9 := s8.keep k9 (aw _ (.inl rfl))
      have b29 := b28.keepA wf8 k9 (by simp; omega)
      have k09 : Keep (Old h.n) h h9 := k08.trans (k9.newbox wf8 k08.n (Nat.le_refl _))
      have o9 := o8.keep (aw _ (.inl rfl)) k9
      have aw9 : Slot (Apart [h1.n] h9) h9 w8 := o9.away wf9 fun x hx => by
        simp only [List.mem_cons, List.not_mem_nil, or_false] at hx
        subst hx
        exact ⟨hl2, b29.root⟩
      have r9 := r.keep k09
      have rok := r.ok.write (n : Int) b
      rw [hwr] at rok
      have rr9 : RefIs h9 kv w8 { D.counted with waits := D.waits ++ [(n, pad b)] } := by
        refine ⟨by show Strs h9 kv D.counted.kept; rw [Dk.counted_kept]; exact r9.ks, r9.sk, ?_, o9.slot wf9, rok, fun x => by simp only [hd] at x; cases x⟩
        have e : rcells (D.waits ++ [(n, pad b)]) = rcells D.waits ++ [.int .i64 (n : Int), .str (pad b)] := by simp [rcell]
        show Sl h9 2 w8 (D.waits ++ [(n, pad b)]).length (rcells (D.waits ++ [(n, pad b)]))
        rw [e]
        rw [hcw] at s9
        simpa using s9
      obtain ⟨sa, -, -, -⟩ := slots wf9 k09
      obtain ⟨h10, f1, f2, f3, rr, k10⟩ := give wf9 b9 rr9 sa aw9 (.inl rfl) (.inr (o9.less (by have := k04.n; omega))) ⟨_, b29, rfl⟩ k09
      refine WS_of_seq (WS_of_ops ?_)
      simp only [f18_r10, go_sem, ↓reduceIte, Nat.reduceEqDiff, s3, s6, f1, f2]
      refine WS_of_ret ?_
      simp only [f18_a, go_sem, ↓reduceIte, Nat.reduceEqDiff, s6, f3]
      rw [hwr]
      exact ⟨_, rfl, rr, k10⟩
  have hasL : D.has i = (decide (0 ≤ i) && decide (i < (D.kept.length : Int))) := rfl
  by_cases c1 : i < 0
  · simp only [f18_r1, go_sem, ↓reduceIte, Nat.reduceEqDiff, c1, decide_true, Bool.true_eq_false]
    refine WS_of_cond ?_
    simp only [go_sem, ↓reduceIte]
    refine bad (.inl (by rw [hasL]; simp; omega)) ?_ ?_ <;> rfl
  by_cases c2 : (D.kept.length : Int) ≤ i
  · simp only [f18_r1, go_sem, ↓reduceIte, Nat.reduceEqDiff, Nat.zero_add, b12.load, List.getElem?_cons_zero, hks, c1, c2, decide_true, decide_false, Bool.true_eq_false, Bool.false_eq_true]
    refine WS_of_cond ?_
    simp only [go_sem, ↓reduceIte]
    refine bad (.inl (by rw [hasL]; simp; omega)) ?_ ?_ <;> rfl
  by_cases c3 : (64 : Int) < (b.length : Int)
  · simp only [f18_r1, go_sem, ↓reduceIte, Nat.reduceEqDiff, Nat.zero_add, b12.load, List.getElem?_cons_zero, hks, c1, c2, c3, decide_true, decide_false, Bool.true_eq_false, Bool.false_eq_true]
    refine WS_of_cond ?_
    simp only [go_sem, ↓reduceIte]
    refine bad (.inr (by omega)) ?_ ?_ <;> rfl
  · simp only [f18_r1, go_sem, ↓reduceIte, Nat.reduceEqDiff, Nat.zero_add, b12.load, List.getElem?_cons_zero, hks, c1, c2, c3, decide_true, decide_false, Bool.true_eq_false, Bool.false_eq_true]
    refine WS_of_cond ?_
    simp only [go_sem, ↓reduceIte, Bool.false_eq_true]
    refine WS_of_skip ?_
    simp only [go_sem]
    refine goalgood (by rw [hasL]; simp; omega) ?_ ?_ ?_ ?_ <;> rfl
end Go.Proofs.Ytmfbememiffkjaa.Ev.C
