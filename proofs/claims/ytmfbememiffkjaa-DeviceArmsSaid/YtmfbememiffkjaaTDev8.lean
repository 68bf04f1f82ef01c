/- A disk is read. -/
import Derived.Test.YtmfbememiffkjaaTDev7
namespace Go.Proofs.Ytmfbememiffkjaa.Ev.C
open Go Go.Proofs.Ytmfbememiffkjaa.Ev
set_option linter.unusedSimpArgs false
set_option linter.unusedVariables false
theorem wAt_rev {ws : List (Nat × Sec)} {j : Nat} (hj : j < ws.length) : wAt ws j = ws.reverse[j]'(by simpa using hj) := by
  rw [wAt_eq hj, List.getElem_reverse]
theorem findS_none {D : Dk} {i : Nat} (hn : ∀ j, j < D.waits.length → (wAt D.waits j).1 ≠ i) : findS D i = D.kept.getD i [] := by
  unfold findS
  have : D.waits.reverse.find? (fun w => w.1 == i) = none := by
    rw [List.find?_eq_none]
    intro w hw
    obtain ⟨j, hj, rfl⟩ := List.mem_iff_getElem.1 hw
    have hj' : j < D.waits.length := by simpa using hj
    have := hn j hj'
    rw [wAt_rev hj'] at this
    simpa using this
  rw [this]
theorem findS_some {D : Dk} {i j : Nat} (hj : j < D.waits.length) (hn : ∀ j', j' < j → (wAt D.waits j').1 ≠ i) (he : (wAt D.waits j).1 = i) : findS D i = (wAt D.waits j).2 := by
  unfold findS
  have : D.waits.reverse.find? (fun w => w.1 == i) = some (wAt D.waits j) := by
    rw [List.find?_eq_some_iff_getElem]
    refine ⟨by simpa using he, j, by simpa using hj, (wAt_rev hj).symm, fun j' hj' => ?_⟩
    have := hn j' hj'
    rw [wAt_rev (by omega)] at this
    simpa using this
  rw [this]
theorem findS_len {D : Dk} (ok : D.Ok) {i : Nat} (hi : i < D.kept.length) : (findS D i).length = 64 := by
  unfold findS
  split
  · rename_i w hw
    exact (ok.w w (List.mem_reverse.1 (List.mem_of_find?_eq_some hw))).2
  · rw [List.getD_eq_getElem?_getD, List.getElem?_eq_getElem hi, Option.getD_some]
    exact ok.k64 _ (List.getElem_mem _)

theorem read_nil {h : H} (wf : h.Wf) (i : Int) : WCall E0 26 [.nilp, .int .i64 i] h fun r h' => r = .val (.tup [.nils, .int .i64 1]) ∧ Keep (Old h.n) h h' := by
  refine WCall_ws (ovn 26) U26 (by simp [f26_a]) ?_
  show WS E0 f26_c [] _ _ _
  refine WS_of_seq (WS_of_ops ?_)
  have ka : Keep (Old h.n) h (h.new [.int .i64 i]) := Keep.new (Nat.le_refl _) _
  have ba : Box h.n [.int .i64 i] (h.new [.int .i64 i]) := Box.new wf _
  have na : (h.new [.int .i64 i]).n = h.n + 1 := rfl
  have hci : (AV.int .i64 i).cells = [.int .i64 i] := rfl
  simp only [f26_r0, go_sem, ↓reduceIte, Nat.reduceEqDiff, hci]
  generalize h.new [.int .i64 i] = ha at ka ba na
  have wfa := ka.wf wf
  have kb : Keep (Old ha.n) ha (ha.new [.nils]) := Keep.new (Nat.le_refl _) _
  have bb : Box ha.n [.nils] (ha.new [.nils]) := Box.new wfa _
  have nb : (ha.new [.nils]).n = ha.n + 1 := rfl
  generalize ha.new [.nils] = hb at kb bb nb
  have wfb := kb.wf wfa
  have kc : Keep (Old hb.n) hb (hb.new [.int .i64 0]) := Keep.new (Nat.le_refl _) _
  have bc : Box hb.n [.int .i64 0] (hb.new [.int .i64 0]) := Box.new wfb _
  have nc : (hb.new [.int .i64 0]).n = hb.n + 1 := rfl
  generalize hb.new [.int .i64 0] = hc at kc bc nc
  have wfc := kc.wf wfb
  have b3 := (ba.keep kb (ba.lt wfa)).keep kc (by have := ba.lt wfa; show _ < _; omega)
  have b4 := bb.keep kc (bb.lt wfb)
  have k0 : Keep (Old h.n) h hc := (ka.trans (kb.weaken fun q hq => by show _ < _; have : q < h.n := hq; omega)).trans (kc.weaken fun q hq => by show _ < _; have : q < h.n := hq; omega)
  refine WS_of_seq (WS_of_block (WS_of_seq (WS_of_ops ?_)))
  simp only [f26_r1, go_sem, ↓reduceIte, Nat.reduceEqDiff, b3.load, List.getElem?_cons_zero]
  refine (is_nil i).mono ?_
  rintro r h' ⟨rfl, rfl⟩
  simp only [go_sem, ↓reduceIte, Nat.reduceEqDiff, Bool.not_false]
  refine WS_of_cond ?_
  simp only [go_sem, ↓reduceIte]
  refine WS_of_seq (WS_of_ops ?_)
  obtain ⟨h1, e1, c1, k1⟩ := b4.put wfc (i := 0) (n := 1) (v := .nils) rfl rfl (by simp)
  have wf1 := k1.wf wfc
  have b5 := bc.keepA wfc k1 (by simp; omega)
  obtain ⟨h2, e2, c2, k2⟩ := b5.put wf1 (i := 0) (n := 1) (v := .int .i64 1) rfl rfl (by simp)
  have c4 := c1.keepA wf1 k2 (by simp; omega)
  simp only [f26_r2, go_sem, ↓reduceIte, Nat.reduceEqDiff, e1, e2]
  refine WS_of_ret ?_
  simp only [f26_a, go_sem, ↓reduceIte, Nat.reduceEqDiff, c4.load, c2.load]
  have x1 := k1.newbox wfc k0.n (by omega)
  have x2 := k2.newbox wf1 (Nat.le_trans k0.n k1.n) (by omega)
  exact ⟨rfl, (k0.trans x1).trans x2⟩

theorem read_spec {h : H} {o : Nat} {gs : List Nat} {D : Dk} (wf : h.Wf) (d : DiskAt h o gs D) (i : Int) (hw : D.waits.length < 1000000) :
    WCall E0 26 [.ptr o 0, .int .i64 i] h fun r h' => ∃ v, r = .val (.tup [v, .int .i64 ((D.read i).2 : Int)]) ∧ Bytes h' v (D.read i).1 ∧ Own h.n h' v ∧ Keep (Old h.n) h h' := by
  refine WCall_ws (ovn 26) U26 (by simp [f26_a]) ?_
  show WS E0 f26_c [] _ _ _
  refine WS_of_seq (WS_of_ops ?_)
  have ka : Keep (Old h.n) h (h.new [.int .i64 i]) := Keep.new (Nat.le_refl _) _
  have ba : Box h.n [.int .i64 i] (h.new [.int .i64 i]) := Box.new wf _
  have na : (h.new [.int .i64 i]).n = h.n + 1 := rfl
  have hci : (AV.int .i64 i).cells = [.int .i64 i] := rfl
  simp only [f26_r0, go_sem, ↓reduceIte, Nat.reduceEqDiff, hci]
  generalize h.new [.int .i64 i] = ha at ka ba na
  have wfa := ka.wf wf
  have kb : Keep (Old ha.n) ha (ha.new [.nils]) := Keep.new (Nat.le_refl _) _
  have bb : Box ha.n [.nils] (ha.new [.nils]) := Box.new wfa _
  have nb : (ha.new [.nils]).n = ha.n + 1 := rfl
  generalize ha.new [.nils] = hb at kb bb nb
  have wfb := kb.wf wfa
  have kc : Keep (Old hb.n) hb (hb.new [.int .i64 0]) := Keep.new (Nat.le_refl _) _
  have bc : Box hb.n [.int .i64 0] (hb.new [.int .i64 0]) := Box.new wfb _
  have nc : (hb.new [.int .i64 0]).n = hb.n + 1 := rfl
  generalize hb.new [.int .i64 0] = hc at kc bc nc
  have wfc := kc.wf wfb
  have b3 := (ba.keep kb (ba.lt wfa)).keep kc (by have := ba.lt wfa; show _ < _; omega)
  have b4 := bb.keep kc (bb.lt wfb)
  have k0 : Keep (Old h.n) h hc := (ka.trans (kb.weaken fun q hq => by show _ < _; have : q < h.n := hq; omega)).trans (kc.weaken fun q hq => by show _ < _; have : q < h.n := hq; omega)
  have dc := d.keep wf k0
  -- the results written and given back
  have ends : ∀ {h1 : H} (wf1 : h1.Wf) (c4 : ∃ x, Box ha.n [x] h1) (c5 : ∃ x, Box hb.n [x] h1) (v : AV) (e : Int), v.cells = [v] → v.one = true →
      ∃ h2 h3, storeA h1 1 (.ptr ha.n 0) v = some h2 ∧ storeA h2 1 (.ptr hb.n 0) (.int .i64 e) = some h3 ∧ Box ha.n [v] h3 ∧ Box hb.n [.int .i64 e] h3 ∧ KeepA [ha.n, hb.n] h1 h3 := by
    rintro h1 wf1 ⟨x, c4⟩ ⟨y, c5⟩ v e hv hv1
    obtain ⟨h2, e1, c1, k1⟩ := c4.put wf1 (i := 0) (n := 1) (v := v) (by rw [hv]; rfl) (by rw [hv]; simp [hv1]) (by simp)
    have wf2 := k1.wf wf1
    have b5 := c5.keepA wf1 k1 (by simp; omega)
    obtain ⟨h3, e2, c2, k2⟩ := b5.put wf2 (i := 0) (n := 1) (v := .int .i64 e) rfl rfl (by simp)
    rw [hv] at c1
    have c4 := c1.keepA wf2 k2 (by simp; omega)
    exact ⟨h2, h3, e1, e2, c4, c2, (k1.mono (by simp)).then wf1 (k2.mono (by simp)) (fun g hg => .inl hg)⟩
  refine WS_of_seq (WS_of_block (WS_of_seq (WS_of_ops ?_)))
  simp only [f26_r1, go_sem, ↓reduceIte, Nat.reduceEqDiff, b3.load, List.getElem?_cons_zero]
  refine (is_spec dc i).mono ?_
  rintro r h' ⟨rfl, rfl⟩
  have fine : ∀ {h3 : H}, KeepA [ha.n, hb.n] h' h3 → Keep (Old h.n) h h3 := fun k => k0.trans (k.old wfc k0.n (by simp; omega))
  cases hh : D.has i with
  | false =>
    simp only [go_sem, ↓reduceIte, Nat.reduceEqDiff, Bool.not_false]
    refine WS_of_cond ?_
    simp only [go_sem, ↓reduceIte]
    refine WS_of_seq (WS_of_ops ?_)
    obtain ⟨h1, h2, e1, e2, c4, c5, k⟩ := ends wfc ⟨_, b4⟩ ⟨_, bc⟩ .nils 1 rfl rfl
    simp only [f26_r2, go_sem, ↓reduceIte, Nat.reduceEqDiff, e1, e2]
    refine WS_of_ret ?_
    simp only [f26_a, go_sem, ↓reduceIte, Nat.reduceEqDiff, c4.load, c5.load]
    have hr : D.read i = ([], 1) := by simp [Dk.read, hh]
    rw [hr]
    exact ⟨_, rfl, Sl.nil _ _, trivial, fine k⟩
  | true =>
    obtain ⟨gk, k, wv, dc⟩ := dc
    simp only [go_sem, ↓reduceIte, Nat.reduceEqDiff, Bool.not_true]
    refine WS_of_cond ?_
    simp only [go_sem, ↓reduceIte, Bool.false_eq_true]
    refine WS_of_seq (WS_of_ops ?_)
    simp only [f26_r3, go_sem, ↓reduceIte, Nat.reduceEqDiff, Nat.zero_add, dc.box.load, List.getElem?_cons_zero, List.getElem?_cons_succ]
    refine WS_of_cond ?_
    cases hd : D.dead with
    | true =>
      simp only [go_sem, ↓reduceIte]
      refine WS_of_seq (WS_of_ops ?_)
      obtain ⟨h1, h2, e1, e2, c4, c5, k⟩ := ends wfc ⟨_, b4⟩ ⟨_, bc⟩ .nils 20 rfl rfl
      simp only [f26_r4, go_sem, ↓reduceIte, Nat.reduceEqDiff, e1, e2]
      refine WS_of_ret ?_
      simp only [f26_a, go_sem, ↓reduceIte, Nat.reduceEqDiff, c4.load, c5.load]
      have hr : D.read i = ([], 20) := by simp [Dk.read, hh, hd]
      rw [hr]
      exact ⟨_, rfl, Sl.nil _ _, trivial, fine k⟩
    | false =>
      obtain ⟨n, rfl, hn⟩ := has_iff.1 hh
      have hr : D.read (n : Int) = (findS D n, 0) := by simp [Dk.read, hh, hd]
      rw [hr]
      simp only [go_sem, ↓reduceIte, Bool.false_eq_true]
      refine WS_of_skip ?_
      simp only [go_sem]
      refine WS_of_seq (WS_of_seq (WS_of_ops ?_))
      simp only [f26_r5, go_sem, ↓reduceIte, Nat.reduceEqDiff]
      refine (last_spec wfc).mono ?_
      rintro r h1 ⟨rfl, bl, k1, n1⟩
      have wf1 := k1.wf wfc
      simp only [go_sem, ↓reduceIte]
      have d1 := dc.keep wfc k1
      have b31 := b3.keep k1 (b3.lt wfc)
      have b41 := b4.keep k1 (b4.lt wfc)
      have b51 := bc.keep k1 (bc.lt wfc)
      have h64 : ∀ w ∈ D.waits, w.2.length = 64 := fun w hw => (d1.ok.w w hw).2
      refine WS_of_block (WS_of_range (g := 58) (cs := [.ptr h'.n 0]) (by simp only [go_sem, ↓reduceIte, Nat.reduceEqDiff]) (last_iter (D := D) (o := o) (gk := gk) (k := k) (wv := wv) (gs := gs) hw)
        (fun G j h3 => Keep (Old h1.n) h1 h3 ∧ ∀ j', j' < j → (wAt D.waits j').1 ≠ n)
        (fun G p h3 => (p = none ∧ Keep (Old h1.n) h1 h3 ∧ findS D n = D.kept.getD n []) ∨
          (p = some none ∧ ∃ q c, G q ∧ Box q (c :: byteCells (findS D n)) h3 ∧ Box ha.n [.slice q 1 64 1] h3 ∧ Box hb.n [.int .i64 0] h3 ∧ h1.n ≤ q ∧ Keep (Old h.n) h h3)) ?_ ?_ ?_ ?_ ?_ ?_ ?_ ?_)
      · intro x hx
        simp only [lastXs, List.mem_map] at hx
        obtain ⟨_, _, rfl⟩ := hx
        rfl
      · exact ⟨Keep.refl _ _, fun j' hj => absurd hj (Nat.not_lt_zero _)⟩
      · rintro G j h3 ⟨k3, hne⟩
        exact ⟨k3.wf wf1, bl.keep k3 (bl.lt wf1), d1.keep wf1 k3⟩
      · rintro G j h3 h4 hG ⟨k3, hne⟩ kk
        exact ⟨k3.trans (kk.weaken fun q hq => .inl hq), hne⟩
      · rintro G p h3 h4 hG (⟨rfl, k3, hf⟩ | ⟨rfl, q, c, hq, c1, c2, c3, hle, k3⟩) kk
        · exact .inl ⟨rfl, k3.trans (kk.weaken fun q hq => .inl hq), hf⟩
        · exact .inr ⟨rfl, q, c, hq, c1.keep kk (.inr hq), c2.keep kk (.inl (by omega)), c3.keep kk (.inl (by omega)), hle, k3.trans (kk.weaken fun q hq => .inl (by have : q < h.n := hq; omega))⟩
      · rintro G j x hx h3 gi cl ⟨k3, hne⟩
        have hj : j < D.waits.length := by
          have := (List.getElem?_eq_some_iff.1 hx).1
          rwa [lastXs_len] at this
        rw [lastXs_at hj] at hx
        cases hx
        have wf3 := k3.wf wf1
        have hwl := wcell_len (h64 (wAt D.waits j) (by rw [wAt_eq hj]; exact List.getElem_mem _))
        have kn : Keep (Old h3.n) h3 (h3.new (.int .i64 0 :: ([.int .u8 0, .int .u8 0, .int .u8 0, .int .u8 0, .int .u8 0, .int .u8 0, .int .u8 0, .int .u8 0, .int .u8 0, .int .u8 0, .int .u8 0, .int .u8 0, .int .u8 0, .int .u8 0, .int .u8 0, .int .u8 0, .int .u8 0, .int .u8 0, .int .u8 0, .int .u8 0, .int .u8 0, .int .u8 0, .int .u8 0, .int .u8 0, .int .u8 0, .int .u8 0, .int .u8 0, .int .u8 0, .int .u8 0, .int .u8 0, .int .u8 0, .int .u8 0, .int .u8 0, .int .u8 0, .int .u8 0, .int .u8 0, .int .u8 0, .int .u8 0, .int .u8 0, .int .u8 0, .int .u8 0, .int .u8 0, .int .u8 0, .int .u8 0, .int .u8 0, .int .u8 0, .int .u8 0, .int .u8 0, .int .u8 0, .int .u8 0, .int .u8 0, .int .u8 0, .int .u8 0, .int .u8 0, .int .u8 0, .int .u8 0, .int .u8 0, .int .u8 0, .int .u8 0, .int .u8 0, .int .u8 0, .int .u8 0, .int .u8 0, .int .u8 0] : List AV))) := Keep.new (Nat.le_refl _) _
        have bn : Box h3.n (.int .i64 0 :: ([.int .u8 0, .int .u8 0, .int .u8 0, .int .u8 0, .int .u8 0, .int .u8 0, .int .u8 0, .int .u8 0, .int .u8 0, .int .u8 0, .int .u8 0, .int .u8 0, .int .u8 0, .int .u8 0, .int .u8 0, .int .u8 0, .int .u8 0, .int .u8 0, .int .u8 0, .int .u8 0, .int .u8 0, .int .u8 0, .int .u8 0, .int .u8 0, .int .u8 0, .int .u8 0, .int .u8 0, .int .u8 0, .int .u8 0, .int .u8 0, .int .u8 0, .int .u8 0, .int .u8 0, .int .u8 0, .int .u8 0, .int .u8 0, .int .u8 0, .int .u8 0, .int .u8 0, .int .u8 0, .int .u8 0, .int .u8 0, .int .u8 0, .int .u8 0, .int .u8 0, .int .u8 0, .int .u8 0, .int .u8 0, .int .u8 0, .int .u8 0, .int .u8 0, .int .u8 0, .int .u8 0, .int .u8 0, .int .u8 0, .int .u8 0, .int .u8 0, .int .u8 0, .int .u8 0, .int .u8 0, .int .u8 0, .int .u8 0, .int .u8 0, .int .u8 0] : List AV)) (h3.new (.int .i64 0 :: ([.int .u8 0, .int .u8 0, .int .u8 0, .int .u8 0, .int .u8 0, .int .u8 0, .int .u8 0, .int .u8 0, .int .u8 0, .int .u8 0, .int .u8 0, .int .u8 0, .int .u8 0, .int .u8 0, .int .u8 0, .int .u8 0, .int .u8 0, .int .u8 0, .int .u8 0, .int .u8 0, .int .u8 0, .int .u8 0, .int .u8 0, .int .u8 0, .int .u8 0, .int .u8 0, .int .u8 0, .int .u8 0, .int .u8 0, .int .u8 0, .int .u8 0, .int .u8 0, .int .u8 0, .int .u8 0, .int .u8 0, .int .u8 0, .int .u8 0, .int .u8 0, .int .u8 0, .int .u8 0, .int .u8 0, .int .u8 0, .int .u8 0, .int .u8 0, .int .u8 0, .int .u8 0, .int .u8 0, .int .u8 0, .int .u8 0, .int .u8 0, .int .u8 0, .int .u8 0, .int .u8 0, .int .u8 0, .int .u8 0, .int .u8 0, .int .u8 0, .int .u8 0, .int .u8 0, .int .u8 0, .int .u8 0, .int .u8 0, .int .u8 0, .int .u8 0] : List AV))) := Box.new wf3 _
        have wfn := kn.wf wf3
        have nn : (h3.new (.int .i64 0 :: ([.int .u8 0, .int .u8 0, .int .u8 0, .int .u8 0, .int .u8 0, .int .u8 0, .int .u8 0, .int .u8 0, .int .u8 0, .int .u8 0, .int .u8 0, .int .u8 0, .int .u8 0, .int .u8 0, .int .u8 0, .int .u8 0, .int .u8 0, .int .u8 0, .int .u8 0, .int .u8 0, .int .u8 0, .int .u8 0, .int .u8 0, .int .u8 0, .int .u8 0, .int .u8 0, .int .u8 0, .int .u8 0, .int .u8 0, .int .u8 0, .int .u8 0, .int .u8 0, .int .u8 0, .int .u8 0, .int .u8 0, .int .u8 0, .int .u8 0, .int .u8 0, .int .u8 0, .int .u8 0, .int .u8 0, .int .u8 0, .int .u8 0, .int .u8 0, .int .u8 0, .int .u8 0, .int .u8 0, .int .u8 0, .int .u8 0, .int .u8 0, .int .u8 0, .int .u8 0, .int .u8 0, .int .u8 0, .int .u8 0, .int .u8 0, .int .u8 0, .int .u8 0, .int .u8 0, .int .u8 0, .int .u8 0, .int .u8 0, .int .u8 0, .int .u8 0] : List AV))).n = h3.n + 1 := rfl
        obtain ⟨h4, e4, b4', k4⟩ := bn.putAll (n := 65) (vs := wcell (wAt D.waits j)) wfn hwl (wcell_one _) (by simp)
        have k34 : Keep (Old h3.n) h3 h4 := kn.trans (k4.newbox wfn kn.n (Nat.le_refl _))
        show WS E0 f26_l9 [] _ _ _
        refine WS_of_ops ?_
        simp only [f26_r6, go_sem, ↓reduceIte, Nat.reduceEqDiff, setPs, e4]
        have wf4 := k34.wf wf3
        refine ⟨trivial, k34.weaken fun q hq => hq.2.1, ?_⟩
        intro h5 n5 k45 hbad
        have hn3 : h1.n + 1 ≤ h3.n := gi.1
        have hn4 : h3.n + 1 ≤ h4.n := by rw [← nn]; exact k4.n
        have cl5 : Clean h1.n G h5 := (cl.fresh (gi.weaken) k34 wf3).same fun q cs g e => by
          by_cases hq : q = h1.n
          · subst hq; exact absurd e (hbad _ _)
          · rwa [k45.get q hq] at e
        have wf5 := k45.wf wf4
        have k35 : Keep (Old h1.n) h3 h5 := (k34.weaken fun q hq => by have : q < h1.n := hq; show q < h3.n; omega).trans (k45.weaken fun q hq => by have : q < h1.n := hq; omega)
        have k15 := k3.trans k35
        have b35 := b31.keep k15 (b31.lt wf1)
        have b45 := b41.keep k15 (b41.lt wf1)
        have b55 := b51.keep k15 (b51.lt wf1)
        have bq : Box h3.n (wcell (wAt D.waits j)) h5 := b4'.keep k45 (by omega)
        have hw0 : (wcell (wAt D.waits j))[0]? = some (.int .i64 ((wAt D.waits j).1 : Int)) := rfl
        show WS E0 f26_l10 [] _ _ _
        refine WS_of_block (WS_of_seq (WS_of_ops ?_))
        simp only [f26_r7, go_sem, ↓reduceIte, Nat.reduceEqDiff, b35.load, List.getElem?_cons_zero, bq.load, Nat.zero_add, hw0]
        refine WS_of_cond ?_
        by_cases he : (wAt D.waits j).1 = n
        · have he' : ((wAt D.waits j).1 : Int) = (n : Int) := by omega
          have ea : sliceAA h5 1 64 none none (.ptr h3.n (0 + 1)) = some (.slice h3.n 1 64 1) := by
            simp only [sliceAA, bq.get]
            rw [if_pos (by simp [hwl])]
            simp [bounds]
          obtain ⟨h6, h7, e1, e2, c4, c5, k⟩ := ends wf5 ⟨_, b45⟩ ⟨_, b55⟩ (.slice h3.n 1 64 1) 0 rfl rfl
          simp only [go_sem, ↓reduceIte, he', decide_true, beq_self_eq_true]
          refine WS_of_seq (WS_of_ops ?_)
          simp only [f26_r8, go_sem, ↓reduceIte, Nat.reduceEqDiff, ea, e1, e2]
          refine WS_of_ret ?_
          have hfind := findS_some hj hne he
          have bq7 := bq.keepA wf5 k (by simp; omega)
          refine ⟨(its_of_groups cl5 (fun g hg => .inl (by simp at hg; omega)) k).weaken fun q hq => ⟨hq.1, by have := hq.2.1; omega, hq.2.2⟩, .inr ⟨trivial, h3.n, _, .inr ⟨Nat.le_refl _, by have := k.n; omega⟩, by rw [hfind]; exact bq7, c4, c5, by omega, ?_⟩⟩
          exact ((k0.trans (k1.weaken fun q hq => by have : q < h.n := hq; show q < _; omega)).trans (k15.weaken fun q hq => by have : q < h.n := hq; show q < _; omega)).trans (k.old wf5 (by have := k15.n; omega) (by simp; omega))
        · have he' : ¬ ((wAt D.waits j).1 : Int) = (n : Int) := by omega
          simp only [go_sem, ↓reduceIte, he', decide_false, Bool.false_eq_true]
          refine WS_of_skip ?_
          simp only [go_sem]
          refine ⟨Keep.refl _ _, k15, fun j' hj' => ?_⟩
          by_cases hx : j' = j
          · subst hx; exact he
          · exact hne j' (by omega)
      · rintro G h3 ⟨k3, hne⟩
        rw [lastXs_len] at hne
        exact .inl ⟨rfl, k3, findS_none hne⟩
      · rintro G p h3 (⟨rfl, k3, hf⟩ | ⟨rfl, q, c, hq, c1, c2, c3, hle, k3⟩)
        · have wf3 := k3.wf wf1
          have d3 := d1.keep wf1 k3
          have b33 := b31.keep k3 (b31.lt wf1)
          have b43 := b41.keep k3 (b41.lt wf1)
          have b53 := b51.keep k3 (b51.lt wf1)
          obtain ⟨p, v', e1, e2, s2, sl2⟩ := d3.ks.atCut hn (by omega) .i64
          have hcut := flat_at (f := byteCells) (es := 64) (l := D.kept) hn (fun b hb => by simp [byteCells, d3.ok.k64 b hb])
          rw [hcut] at s2
          have hk64 := d3.ok.k64 _ (List.getElem_mem hn)
          have hgd : findS D n = D.kept[n] := by rw [hf, List.getD_eq_getElem?_getD, List.getElem?_eq_getElem hn, Option.getD_some]
          rw [← hgd] at s2 hk64
          have s2' : Bytes h3 v' (findS D n) := by show Sl h3 1 v' (findS D n).length _; rw [hk64]; exact s2
          simp only [go_sem]
          refine WS_of_seq (WS_of_draw ?_)
          simp only [f26_r11, go_sem, ↓reduceIte, Nat.reduceEqDiff, and_self, true_and, List.filter_cons, List.filter_nil, Nat.testBit, Nat.reduceShiftRight, Nat.reduceAnd, Nat.reduceBNe, Bool.not_false, Bool.not_true, Bool.false_eq_true, bne_self_eq_false, Nat.zero_add, d3.box.load, List.getElem?_cons_zero, b33.load, e1, e2, eq_self]
          refine (cloneb_spec wf3 s2' (sl2 _ (d3.sk wf3)) (by omega)).mono ?_
          rintro r h4 ⟨v4, rfl, s4, o4, k4⟩
          have wf4 := k4.wf wf3
          have d4 := d3.keep wf3 k4
          have b34 := b33.keep k4 (b33.lt wf3)
          have b44 := b43.keep k4 (b43.lt wf3)
          have b54 := b53.keep k4 (b53.lt wf3)
          have hv4 := one_of_len s4.len
          obtain ⟨h5, h6, f1, f2, c4, c5, k⟩ := ends wf4 ⟨_, b44⟩ ⟨_, b54⟩ v4 0 hv4.2 hv4.1
          have wf6 := k.wf wf4
          simp only [go_sem, ↓reduceIte, Nat.reduceEqDiff, and_self, true_and, List.filter_cons, List.filter_nil, Nat.testBit, Nat.reduceShiftRight, Nat.reduceAnd, Nat.reduceBNe, Bool.not_false, Bool.not_true, Bool.false_eq_true, bne_self_eq_false, Nat.zero_add, d3.box.load, d4.box.load, List.getElem?_cons_zero, b33.load, b34.load, e1, e2, eq_self, f1, f2]
          refine WS_of_ret ?_
          simp only [f26_a, go_sem, ↓reduceIte, Nat.reduceEqDiff, c4.load, c5.load, List.getElem?_cons_zero]
          have hl1 := b4.lt wfc
          have hl2 := bc.lt wfc
          have n13 := k3.n
          have sv := o4.away (gs := [ha.n, hb.n]) wf4 (fun x hx => by
            simp only [List.mem_cons, List.not_mem_nil, or_false] at hx
            rcases hx with rfl | rfl
            · exact ⟨by omega, b44.root⟩
            · exact ⟨by omega, b54.root⟩)
          refine ⟨_, rfl, s4.keep k sv, (o4.keep sv k).less (by have := k0.n; omega), ?_⟩
          exact (((k0.trans (k1.weaken fun q hq => by have : q < h.n := hq; show q < _; omega)).trans (k3.weaken fun q hq => by have : q < h.n := hq; show q < _; omega)).trans (k4.weaken fun q hq => by have : q < h.n := hq; show q < _; omega)).trans
            (k.old wf4 (by have := k4.n; have := k0.n; omega) (by simp; omega))
        · have hl := findS_len d1.ok hn
          have hcl : (byteCells (findS D n)).length = 64 := by simp [byteCells, hl]
          have sp := c1.part (i := 1) (n := 64) (by simp [hcl])
          rw [List.drop_one, List.tail_cons, List.take_of_length_le (by omega)] at sp
          simp only [f26_a, go_sem, ↓reduceIte, Nat.reduceEqDiff, c2.load, c3.load]
          refine ⟨_, rfl, ?_, c1.own (by omega) (by simp [hcl]), k3⟩
          show Sl h3 1 _ (findS D n).length _
          rw [hl]
          exact sp
end Go.Proofs.Ytmfbememiffkjaa.Ev.C
