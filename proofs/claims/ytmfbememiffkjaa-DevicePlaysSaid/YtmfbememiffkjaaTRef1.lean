/- The reference of the law 03, walked: its small functions. -/
import Derived.Test.YtmfbememiffkjaaTPKeeps
namespace Go.Proofs.Ytmfbememiffkjaa.Ev.C
open Go Go.Proofs.Ytmfbememiffkjaa.Ev
set_option linter.unusedSimpArgs false
set_option linter.unusedVariables false
def rcell (w : Nat × Sec) : List AV := [.int .i64 (w.1 : Int), .str w.2]
abbrev rcells (l : List (Nat × Sec)) : List AV := l.flatMap rcell
theorem rcells_one (l : List (Nat × Sec)) : (rcells l).all AV.one = true := by
  rw [List.all_eq_true]
  intro x hx
  obtain ⟨w, _, hw⟩ := List.mem_flatMap.1 hx
  simp only [rcell, List.mem_cons, List.not_mem_nil, or_false] at hw
  rcases hw with rfl | rfl <;> rfl
/-- the reference's disk: four cells -/
structure RefIs (h : H) (kv wv : AV) (D : Dk) : Prop where
  ks : Strs h kv D.kept
  sk : Slot (Old h.n) h kv
  ws : Sl h 2 wv D.waits.length (rcells D.waits)
  sw : Slot (Old h.n) h wv
  ok : D.Ok
  da : D.dead = true → D.armed = 0
abbrev dcells (kv wv : AV) (D : Dk) : List AV := [kv, wv, .int .i64 (D.armed : Int), .bool D.dead]
def RefD (h : H) (cs : List AV) (D : Dk) : Prop := ∃ kv wv, cs = dcells kv wv D ∧ RefIs h kv wv D
theorem RefIs.keep {h h' : H} {kv wv : AV} {D : Dk} (r : RefIs h kv wv D) (k : Keep (Old h.n) h h') : RefIs h' kv wv D :=
  ⟨r.ks.keep k r.sk, r.sk.keep k fun o ho => Nat.lt_of_lt_of_le ho k.n, r.ws.keep k r.sw, r.sw.keep k fun o ho => Nat.lt_of_lt_of_le ho k.n, r.ok, r.da⟩
theorem RefD.keep {h h' : H} {cs : List AV} {D : Dk} (r : RefD h cs D) (k : Keep (Old h.n) h h') : RefD h' cs D := by
  obtain ⟨kv, wv, e, r⟩ := r
  exact ⟨kv, wv, e, r.keep k⟩
/-- what a call of the reference makes of a disk: each slice the old one or a new one -/
def RefTo (h h' : H) (kv wv : AV) (cs : List AV) (D : Dk) : Prop := ∃ kv' wv', cs = dcells kv' wv' D ∧ RefIs h' kv' wv' D ∧ (kv' = kv ∨ Own h.n h' kv') ∧ (wv' = wv ∨ Own h.n h' wv')
theorem from_apart {h h' : H} (wf' : h'.Wf) {v v' : AV} (f : v' = v ∨ Own h.n h' v') (k : Keep (Old h.n) h h') {gs : List Nat} (hg : ∀ g ∈ gs, g < h.n ∧ Root g h) (s : Slot (Apart gs h) h v) : Slot (Apart gs h') h' v' := by
  rcases f with rfl | o
  · exact s.keepA (KeepA.of k)
  · exact o.away wf' fun g hgm => ⟨(hg g hgm).1, (hg g hgm).2.keep k (hg g hgm).1⟩
theorem RefIs.one {h : H} {kv wv : AV} {D : Dk} (r : RefIs h kv wv D) : (kv.cells = [kv] ∧ kv.one = true) ∧ wv.cells = [wv] ∧ wv.one = true :=
  ⟨⟨(one_of_len r.ks.len).2, (one_of_len r.ks.len).1⟩, (one_of_len r.ws.len).2, (one_of_len r.ws.len).1⟩
theorem RefIs.all {h : H} {kv wv : AV} {D : Dk} (r : RefIs h kv wv D) (x : Int) (b : Bool) : ([kv, wv, .int .i64 x, .bool b] : List AV).all AV.one = true := by
  simp only [List.all_cons, r.one.1.2, r.one.2.2, List.all_nil]
  rfl
theorem agg_cells (cs : List AV) : (AV.agg cs).cells = cs := rfl

abbrev zsec0 : Sec := List.replicate 64 0
theorem rpad_spec {h : H} {b : Sec} (hb : b.length < 1000000) : WCall E0 42 [.str b] h fun r h' => h' = h ∧ r = .val (.str (pad b)) := by
  refine WCall_ws (ovn 42) U42 (by simp [f42_a]) ?_
  show WS E0 f42_c [] _ _ _
  refine WS_of_seq (WS_of_ops ?_)
  simp only [f42_r0, go_sem, ↓reduceIte]
  refine WS_of_seq (WS_of_block (WS_of_loop (fun m s h' => ∃ i, i + m = (pad b).length ∧ b.length ≤ i ∧ s 0 = .str (b ++ List.replicate (i - b.length) 0) ∧ h' = h) ?_ ((pad b).length - b.length) ?_))
  · rintro m s h' ⟨i, him, hbi, s0, rfl⟩
    show WS E0 f42_l3 [] _ _ _
    have hlen : (b ++ List.replicate (i - b.length) 0).length = i := by simp; omega
    have hpl : (pad b).length = b.length + (64 - b.length) := by simp [pad]
    refine WS_of_seq (WS_of_seq (WS_of_ops ?_))
    by_cases ci : i < 64
    · have ci' : (i : Int) < 64 := by omega
      simp only [f42_r1, go_sem, ↓reduceIte, Nat.reduceEqDiff, s0, hlen, ci', decide_true]
      refine WS_of_cond ?_
      simp only [go_sem, ↓reduceIte]
      refine WS_of_skip ?_
      simp only [go_sem]
      refine WS_of_block (WS_of_ops ?_)
      have hbig : i + 1 ≤ big := by unfold big; omega
      have happ : b ++ List.replicate (i - b.length) 0 ++ [0] = b ++ List.replicate (i + 1 - b.length) 0 := by
        rw [List.append_assoc, show i + 1 - b.length = i - b.length + 1 by omega, List.replicate_succ']
      simp only [f42_r2, go_sem, ↓reduceIte, Nat.reduceEqDiff, s0, hlen, List.length_singleton, List.length_cons, List.length_nil, Nat.zero_add, hbig, happ]
      exact ⟨m - 1, by omega, i + 1, by omega, by omega, rfl, trivial⟩
    · have ci' : ¬ (i : Int) < 64 := by omega
      have ei : i - b.length = 64 - b.length := by omega
      rw [ei] at s0 hlen
      have hp : b ++ List.replicate (64 - b.length) 0 = pad b := rfl
      rw [hp] at s0 hlen
      simp only [f42_r1, go_sem, ↓reduceIte, Nat.reduceEqDiff, s0, hlen, ci', decide_false]
      refine WS_of_cond ?_
      simp only [go_sem, ↓reduceIte, Bool.false_eq_true]
      refine WS_of_exit ?_
      simp only [go_sem, ↓reduceIte, Nat.reduceEqDiff]
      refine WS_of_seq (WS_of_ops ?_)
      simp only [f42_r4, go_sem, ↓reduceIte, Nat.reduceEqDiff, s0]
      refine WS_of_ret ?_
      simp only [f42_a, go_sem, ↓reduceIte, Nat.reduceEqDiff]
      exact ⟨trivial, trivial⟩
  · exact ⟨b.length, by simp [pad], Nat.le_refl _, (show AV.str b = .str (b ++ List.replicate (b.length - b.length) 0) by simp), rfl⟩

theorem RefIs.counted {h : H} {kv wv : AV} {D : Dk} (r : RefIs h kv wv D) : RefIs h kv wv D.counted := by
  refine ⟨by rw [Dk.counted_kept]; exact r.ks, r.sk, by rw [Dk.counted_waits]; exact r.ws, r.sw, r.ok.counted, ?_⟩
  intro hd
  rw [Dk.counted_armed]
  rw [Dk.counted_dead] at hd
  split at hd
  · simp at hd; omega
  · have := r.da hd; omega
theorem rcounted_spec {h : H} {kv wv : AV} {D : Dk} (wf : h.Wf) (r : RefIs h kv wv D) : WCall E0 45 [.agg (dcells kv wv D)] h fun r h' => r = .val (.agg (dcells kv wv D.counted)) ∧ Keep (Old h.n) h h' := by
  refine WCall_ws (ovn 45) U45 (by simp [f45_a]) ?_
  show WS E0 f45_c [] _ _ _
  have hone := r.one
  refine WS_of_seq (WS_of_ops ?_)
  have k1 : Keep (Old h.n) h (h.new (dcells kv wv D)) := Keep.new (Nat.le_refl _) _
  have b1 : Box h.n (dcells kv wv D) (h.new (dcells kv wv D)) := Box.new wf _
  have n1 : (h.new (dcells kv wv D)).n = h.n + 1 := rfl
  simp only [f45_r0, go_sem, ↓reduceIte, Nat.reduceEqDiff, agg_cells]
  generalize h.new (dcells kv wv D) = h1 at k1 b1 n1 ⊢
  have wf1 := k1.wf wf
  have k2 : Keep (Old h1.n) h1 (h1.new [.nils, .nils, .int .i64 0, .bool false]) := Keep.new (Nat.le_refl _) _
  have b2 : Box h1.n [.nils, .nils, .int .i64 0, .bool false] (h1.new [.nils, .nils, .int .i64 0, .bool false]) := Box.new wf1 _
  generalize h1.new [.nils, .nils, .int .i64 0, .bool false] = h2 at k2 b2 ⊢
  have wf2 := k2.wf wf1
  have b12 := b1.keep k2 (b1.lt wf1)
  have k02 : Keep (Old h.n) h h2 := k1.trans (k2.weaken fun q hq => by have : q < h.n := hq; show q < _; omega)
  -- the end
  have fin' : ∀ {h3 : H} {s : S}, h3.Wf → Keep (Old h.n) h h3 → Box h.n (dcells kv wv D.counted) h3 → (∃ x, Box h1.n x h3 ∧ x.length = 4) → s 1 = .ptr h.n 0 → s 2 = .ptr h1.n 0 →
      WS E0 (.seq (.ops f45_r5) .ret) [] (atEnd f45_a.results fun r h' => r = .val (.agg (dcells kv wv D.counted)) ∧ Keep (Old h.n) h h') s h3 := by
    intro h3 s wf3 k03 bb ⟨x, bx, hx⟩ s1 s2
    obtain ⟨h4, e4, b4, k4⟩ := bx.putAll (n := 4) (vs := dcells kv wv D.counted) wf3 rfl (r.all _ _) hx.symm
    refine WS_of_seq (WS_of_ops ?_)
    simp only [f45_r5, go_sem, ↓reduceIte, Nat.reduceEqDiff, s1, s2, bb.loadAgg (n := 4) rfl, e4]
    refine WS_of_ret ?_
    simp only [f45_a, go_sem, ↓reduceIte, Nat.reduceEqDiff, s2, b4.loadAgg (n := 4) rfl]
    have k04 : Keep (Old h.n) h h4 := k03.trans (k4.newbox wf3 k03.n (by omega))
    exact ⟨trivial, k04⟩
  refine WS_of_seq (WS_of_seq (WS_of_ops ?_))
  by_cases c1 : D.armed = 1
  · have c1' : (D.armed : Int) = 1 := by omega
    simp only [f45_r1, go_sem, ↓reduceIte, Nat.reduceEqDiff, Nat.zero_add, b12.load, List.getElem?_cons_zero, List.getElem?_cons_succ, c1', decide_true]
    refine WS_of_cond ?_
    simp only [go_sem, ↓reduceIte]
    refine WS_of_ops ?_
    obtain ⟨h3, e3, b3, k3⟩ := b12.put wf2 (i := 3) (n := 1) (v := .bool true) rfl rfl (by simp)
    have wf3 := k3.wf wf2
    have b23 := b2.keepA wf2 k3 (by simp; omega)
    simp only [f45_r2, go_sem, ↓reduceIte, Nat.reduceEqDiff, Nat.zero_add, e3]
    refine WS_of_seq (WS_of_seq (WS_of_ops ?_))
    have hs3 : splice (dcells kv wv D) 3 (AV.bool true).cells = [kv, wv, .int .i64 (D.armed : Int), .bool true] := rfl
    rw [hs3] at b3
    have c2' : (0 : Int) < (D.armed : Int) := by omega
    simp only [f45_r3, go_sem, ↓reduceIte, Nat.reduceEqDiff, Nat.zero_add, b3.load, List.getElem?_cons_zero, List.getElem?_cons_succ, c2', decide_true]
    refine WS_of_cond ?_
    simp only [go_sem, ↓reduceIte]
    refine WS_of_ops ?_
    obtain ⟨h4, e4, b4, k4⟩ := b3.put wf3 (i := 2) (n := 1) (v := .int .i64 0) rfl rfl (by simp)
    have wf4 := k4.wf wf3
    have b24 := b23.keepA wf3 k4 (by simp; omega)
    have hw : IntKind.i64.wrap ((D.armed : Int) - 1) = 0 := by rw [c1']; rfl
    simp only [f45_r4, go_sem, ↓reduceIte, Nat.reduceEqDiff, Nat.zero_add, b3.load, List.getElem?_cons_zero, List.getElem?_cons_succ, hw, e4]
    have hc : D.counted = { D with armed := 0, dead := true } := by unfold Dk.counted; rw [if_pos (by omega), c1]; rfl
    have x3 := k02.trans (k3.newbox wf2 k02.n (by omega))
    have x4 := x3.trans (k4.newbox wf3 x3.n (by omega))
    exact fin' wf4 x4 (by rw [hc]; exact b4) ⟨_, b24, rfl⟩ rfl rfl
  · have c1' : ¬ (D.armed : Int) = 1 := by omega
    simp only [f45_r1, go_sem, ↓reduceIte, Nat.reduceEqDiff, Nat.zero_add, b12.load, List.getElem?_cons_zero, List.getElem?_cons_succ, c1', decide_false]
    refine WS_of_cond ?_
    simp only [go_sem, ↓reduceIte, Bool.false_eq_true]
    refine WS_of_skip ?_
    simp only [go_sem]
    refine WS_of_seq (WS_of_seq (WS_of_ops ?_))
    by_cases c2 : 0 < D.armed
    · have c2' : (0 : Int) < (D.armed : Int) := by omega
      simp only [f45_r3, go_sem, ↓reduceIte, Nat.reduceEqDiff, Nat.zero_add, b12.load, List.getElem?_cons_zero, List.getElem?_cons_succ, c2', decide_true]
      refine WS_of_cond ?_
      simp only [go_sem, ↓reduceIte]
      refine WS_of_ops ?_
      obtain ⟨h4, e4, b4, k4⟩ := b12.put wf2 (i := 2) (n := 1) (v := .int .i64 ((D.armed - 1 : Nat) : Int)) rfl rfl (by simp)
      have wf4 := k4.wf wf2
      have b24 := b2.keepA wf2 k4 (by simp; omega)
      have ha := r.ok.arm
      have hw : IntKind.i64.wrap ((D.armed : Int) - 1) = ((D.armed - 1 : Nat) : Int) := by rw [wrap_i64 (by omega) (by omega)]; omega
      simp only [f45_r4, go_sem, ↓reduceIte, Nat.reduceEqDiff, Nat.zero_add, b12.load, List.getElem?_cons_zero, List.getElem?_cons_succ, hw, e4]
      have hdd : D.dead = false := by
        cases e : D.dead with
        | false => rfl
        | true => have := r.da e; omega
      have hc : D.counted = { D with armed := D.armed - 1, dead := D.dead } := by
        unfold Dk.counted; rw [if_pos (by omega), hdd]
        have : decide (D.armed = 1) = false := by simpa using c1
        rw [this]
      have x4 := k02.trans (k4.newbox wf2 k02.n (by omega))
      exact fin' wf4 x4 (by rw [hc]; exact b4) ⟨_, b24, rfl⟩ rfl rfl
    · have c2' : ¬ (0 : Int) < (D.armed : Int) := by omega
      simp only [f45_r3, go_sem, ↓reduceIte, Nat.reduceEqDiff, Nat.zero_add, b12.load, List.getElem?_cons_zero, List.getElem?_cons_succ, c2', decide_false]
      refine WS_of_cond ?_
      simp only [go_sem, ↓reduceIte, Bool.false_eq_true]
      refine WS_of_skip ?_
      simp only [go_sem]
      exact fin' wf2 k02 (by rw [Dk.counted_zero (by omega)]; exact b12) ⟨_, b2, rfl⟩ rfl rfl
end Go.Proofs.Ytmfbememiffkjaa.Ev.C
