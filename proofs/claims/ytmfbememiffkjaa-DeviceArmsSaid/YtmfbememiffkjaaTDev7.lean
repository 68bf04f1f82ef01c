/- A disk's iterators, walked. -/
import Derived.Test.YtmfbememiffkjaaTDev6
import Derived.Test.YtmfbememiffkjaaEvL4
namespace Go.Proofs.Ytmfbememiffkjaa.Ev.C
open Go Go.Proofs.Ytmfbememiffkjaa.Ev
set_option linter.unusedSimpArgs false
set_option linter.unusedVariables false
def wAt (ws : List (Nat × Sec)) (j : Nat) : Nat × Sec := ws.getD (ws.length - 1 - j) (0, [])
theorem wAt_eq {ws : List (Nat × Sec)} {j : Nat} (hj : j < ws.length) : wAt ws j = ws[ws.length - 1 - j]'(by omega) := by
  unfold wAt
  rw [List.getD_eq_getElem?_getD, List.getElem?_eq_getElem (by omega), Option.getD_some]
def backXs (ws : List (Nat × Sec)) : List (List AV) := (List.range ws.length).map fun j => [.int .i64 ((ws.length - 1 - j : Nat) : Int), .agg (wcell (wAt ws j))]
theorem backXs_at {ws : List (Nat × Sec)} {j : Nat} (hj : j < ws.length) : (backXs ws)[j]? = some [.int .i64 ((ws.length - 1 - j : Nat) : Int), .agg (wcell (wAt ws j))] := by
  simp [backXs, hj]
theorem backXs_len (ws : List (Nat × Sec)) : (backXs ws).length = ws.length := by simp [backXs]

def BackI (I : (Nat → Prop) → Nat → H → Prop) (y : AV) (r N n : Nat) : Nat → S → H → Prop := fun m s h1 => ∃ G j, j + m = n ∧ s 0 = y ∧ s 1 = .ptr r 0 ∧ s 3 = .int .i64 ((n : Int) - 1 - j) ∧ I G j h1 ∧ GIn N G h1 ∧ Clean N G h1
theorem back_iter {r N : Nat} {sv : AV} {ws : List (Nat × Sec)} (h64 : ∀ w ∈ ws, w.2.length = 64) (hn : ws.length < 9223372036854775808) :
    IterSpec E0 65 [.ptr r 0] (backXs ws) N (fun h => Box r [sv] h ∧ Sl h 65 sv ws.length (wcells ws)) := by
  intro y I R h hy hN Mm Ist Rst step fin' start
  refine WCall_ws (ovn 65) U65 (by simp [f65_a]) ?_
  show WS E0 f65_c [] _ _ _
  obtain ⟨wf, bx, sl⟩ := Mm _ _ _ start
  subst hN
  have hlen := backXs_len ws
  have hw0 : IntKind.i64.wrap ((ws.length : Int) - 1) = (ws.length : Int) - 1 := wrap_i64 (by omega) (by omega)
  refine WS_of_seq (WS_of_ops ?_)
  simp only [f65_r0, go_sem, ↓reduceIte, Nat.reduceEqDiff, Nat.zero_add, bx.load, List.getElem?_cons_zero, sl.len, hw0]
  refine WS_of_block (WS_of_loop (BackI I y r h.n ws.length) ?_ ws.length ?_)
  · rintro m s h1 ⟨G, j, hjm, s0, s1, s3, hi, gi, cl⟩
    show WS E0 f65_l4 [] _ _ _
    obtain ⟨wf1, bx1, sl1⟩ := Mm _ _ _ hi
    refine WS_of_seq (WS_of_seq (WS_of_ops ?_))
    by_cases c : j < ws.length
    · have c' : (0 : Int) ≤ (ws.length : Int) - 1 - j := by omega
      simp only [f65_r1, go_sem, ↓reduceIte, Nat.reduceEqDiff, s3, ge_iff_le, c', decide_true]
      refine WS_of_cond ?_
      simp only [go_sem, ↓reduceIte]
      refine WS_of_skip ?_
      simp only [go_sem]
      refine WS_of_seq (WS_of_block (WS_of_seq (WS_of_ops ?_)))
      have hj' : ws.length - 1 - j < ws.length := by omega
      obtain ⟨p, e1, e2⟩ := waits_at sl1 h64 hj'
      have hjc : ((ws.length : Int) - 1 - j) = ((ws.length - 1 - j : Nat) : Int) := by omega
      rw [← wAt_eq c] at e2
      rw [← hjc] at e1
      simp only [f65_r2, go_sem, ↓reduceIte, Nat.reduceEqDiff, s0, s1, s3, bx1.load, List.getElem?_cons_zero, e1, e2]
      have hx := backXs_at c
      rw [← hjc] at hx
      refine (step G j _ hx h1 hi cl gi).mono ?_
      rintro out h2 ⟨k2, ⟨rfl, hi2⟩ | ⟨rfl, hr2⟩⟩
      · simp only [go_sem, ↓reduceIte, Nat.reduceEqDiff, Bool.not_true]
        refine WS_of_cond ?_
        simp only [go_sem, ↓reduceIte, Bool.false_eq_true]
        refine WS_of_skip ?_
        simp only [go_sem]
        refine WS_of_ops ?_
        have hw : IntKind.i64.wrap ((ws.length : Int) - 1 - j - 1) = (ws.length : Int) - 1 - ((j + 1 : Nat) : Int) := by rw [wrap_i64 (by omega) (by omega)]; omega
        simp only [f65_r3, go_sem, ↓reduceIte, Nat.reduceEqDiff, s3, hw]
        exact ⟨m - 1, by omega, _, j + 1, by omega, s0, s1, rfl, hi2, gi.more k2.n, cl.round gi (Mm _ _ _ hi2).1 k2⟩
      · simp only [go_sem, ↓reduceIte, Nat.reduceEqDiff, Bool.not_false]
        refine WS_of_cond ?_
        simp only [go_sem, ↓reduceIte]
        refine WS_of_ret ?_
        simp only [f65_a, go_sem, ↓reduceIte]
        exact ⟨trivial, _, hr2⟩
    · have c' : ¬ (0 : Int) ≤ (ws.length : Int) - 1 - j := by omega
      simp only [f65_r1, go_sem, ↓reduceIte, Nat.reduceEqDiff, s3, ge_iff_le, c', decide_false]
      refine WS_of_cond ?_
      simp only [go_sem, ↓reduceIte, Bool.false_eq_true]
      refine WS_of_exit ?_
      have hj : j = (backXs ws).length := by omega
      subst hj
      simp only [f65_a, go_sem, ↓reduceIte]
      exact ⟨trivial, _, fin' _ _ hi⟩
  · exact ⟨_, 0, by omega, rfl, rfl, (show AV.int .i64 ((ws.length : Int) - 1) = .int .i64 ((ws.length : Int) - 1 - ((0 : Nat) : Int)) by simp), start, GIn.none _, Clean.start wf⟩
theorem back_spec {h : H} (wf : h.Wf) {wv : AV} (h1 : wv.cells = [wv]) : WCall E0 59 [wv] h fun r h' => r = .val (.func 65 [.ptr h.n 0]) ∧ Box h.n [wv] h' ∧ Keep (Old h.n) h h' ∧ h'.n = h.n + 1 := by
  refine WCall_ws (ovn 59) U59 (by simp [f59_a]) ?_
  show WS E0 f59_c [] _ _ _
  refine WS_of_seq (WS_of_ops ?_)
  have bn : Box h.n [wv] (h.new [wv]) := Box.new wf _
  have kn : Keep (Old h.n) h (h.new [wv]) := Keep.new (Nat.le_refl _) _
  simp only [f59_r0, go_sem, ↓reduceIte, Nat.reduceEqDiff, h1]
  refine WS_of_seq (WS_of_ops ?_)
  simp only [f59_r1, go_sem, ↓reduceIte, Nat.reduceEqDiff]
  refine WS_of_ret ?_
  simp only [f59_a, go_sem, ↓reduceIte]
  exact ⟨trivial, bn, kn, rfl⟩

def lastXs (ws : List (Nat × Sec)) : List (List AV) := (List.range ws.length).map fun j => [.agg (wcell (wAt ws j))]
theorem lastXs_at {ws : List (Nat × Sec)} {j : Nat} (hj : j < ws.length) : (lastXs ws)[j]? = some [.agg (wcell (wAt ws j))] := by
  simp [lastXs, hj]
theorem lastXs_len (ws : List (Nat × Sec)) : (lastXs ws).length = ws.length := by simp [lastXs]
theorem last_iter {r o gk N : Nat} {k wv : AV} {gs : List Nat} {D : Dk} (hwl : D.waits.length < 1000000) :
    IterSpec E0 58 [.ptr r 0] (lastXs D.waits) N (fun h => Box r [.ptr o 0] h ∧ DiskIs h o gk k wv gs D) := by
  intro y I R h hy hN Mm Ist Rst step fin' start
  refine WCall_ws (ovn 58) U58 (by simp [f58_a]) ?_
  show WS E0 f58_c [] _ _ _
  obtain ⟨wf, bx, d⟩ := Mm _ _ _ start
  subst hN
  have h64 : ∀ w ∈ D.waits, w.2.length = 64 := fun w hw => (d.ok.w w hw).2
  refine WS_of_seq (WS_of_ops ?_)
  have k1 : Keep (Old h.n) h (h.new [y]) := Keep.new (Nat.le_refl _) _
  have b1 : Box h.n [y] (h.new [y]) := Box.new wf _
  have n1 : (h.new [y]).n = h.n + 1 := rfl
  simp only [f58_r0, go_sem, ↓reduceIte, Nat.reduceEqDiff, hy]
  generalize h.new [y] = h1 at k1 b1 n1
  have wf1 := k1.wf wf
  have up : ∀ {G : Nat → Prop}, (∀ q, ¬ G q) → ∀ q, Mine h.n G q → q < h.n := fun hG q hq => hq.elim id (fun x => absurd x (hG q))
  have i1 := Ist _ _ _ _ start (k1.weaken (up fun _ x => x))
  obtain ⟨-, bx1, d1⟩ := Mm _ _ _ i1
  have hwc := one_of_len d1.ws.len
  refine WS_of_seq (WS_of_ops ?_)
  simp only [f58_r1, go_sem, ↓reduceIte, Nat.reduceEqDiff, bx1.load, List.getElem?_cons_zero, d1.box.load, Nat.zero_add, List.getElem?_cons_succ]
  refine (back_spec wf1 hwc.2).mono ?_
  rintro rr h2 ⟨rfl, b2, k2, n2⟩
  have wf2 := k2.wf wf1
  have i2 := Ist _ _ _ _ i1 (k2.weaken fun q hq => Nat.lt_of_lt_of_le (up (fun _ x => x) q hq) (by omega))
  have b12 := b1.keep k2 (b1.lt wf1)
  have cl2 : Clean h.n (fun _ => False) h2 := ((Clean.start wf).fresh (GIn.none _) k1 wf).fresh ((GIn.none h).up k1.n) k2 wf1
  simp only [go_sem, ↓reduceIte]
  refine WS_of_block (WS_of_range (g := 65) (cs := [.ptr h1.n 0]) (by simp only [go_sem, ↓reduceIte, Nat.reduceEqDiff]) (back_iter (ws := D.waits) (sv := wv) h64 (by omega))
    (fun G j h3 => ∃ Gu, I Gu j h3 ∧ Nest h.n h2.n Gu G h3 ∧ Box h.n [y] h3 ∧ Box h1.n [wv] h3)
    (fun G p h3 => (p = none ∨ p = some none) ∧ ∃ Gu, (∀ q, Gu q → G q) ∧ R Gu h3) ?_ ?_ ?_ ?_ ?_ ?_ ?_ ?_)
  · intro x hx
    simp only [backXs, List.mem_map] at hx
    obtain ⟨_, _, rfl⟩ := hx
    rfl
  · exact ⟨_, i2, Nest.start cl2 ((GIn.none h).up (by omega)) (by omega) (fun _ x => x), b12, b2⟩
  · rintro G j h3 ⟨Gu, i3, nn, b3, b4⟩
    obtain ⟨wf3, bx3, d3⟩ := Mm _ _ _ i3
    exact ⟨wf3, b4, d3.ws⟩
  · rintro G j h3 h4 hG ⟨Gu, i3, nn, b3, b4⟩ kk
    exact ⟨Gu, Ist _ _ _ _ i3 (kk.weaken nn.mine), nn.keep kk, b3.keep kk (.inl (by omega)), b4.keep kk (.inl (by omega))⟩
  · rintro G p h3 h4 hG ⟨hp, Gu, hs, hr⟩ kk
    exact ⟨hp, Gu, hs, Rst _ _ _ hr (kk.weaken fun q hq => hq.imp (fun x => by omega) (hs q))⟩
  · rintro G j x hx h3 gi cl ⟨Gu, i3, nn, b3, b4⟩
    have hj : j < D.waits.length := by
      have := (List.getElem?_eq_some_iff.1 hx).1
      rwa [backXs_len] at this
    rw [backXs_at hj] at hx
    cases hx
    obtain ⟨wf3, bx3, d3⟩ := Mm _ _ _ i3
    have hwl := wcell_len (h64 (wAt D.waits j) (by rw [wAt_eq hj]; exact List.getElem_mem _))
    have kn : Keep (Old h3.n) h3 (h3.new (.int .i64 0 :: ([.int .u8 0, .int .u8 0, .int .u8 0, .int .u8 0, .int .u8 0, .int .u8 0, .int .u8 0, .int .u8 0, .int .u8 0, .int .u8 0, .int .u8 0, .int .u8 0, .int .u8 0, .int .u8 0, .int .u8 0, .int .u8 0, .int .u8 0, .int .u8 0, .int .u8 0, .int .u8 0, .int .u8 0, .int .u8 0, .int .u8 0, .int .u8 0, .int .u8 0, .int .u8 0, .int .u8 0, .int .u8 0, .int .u8 0, .int .u8 0, .int .u8 0, .int .u8 0, .int .u8 0, .int .u8 0, .int .u8 0, .int .u8 0, .int .u8 0, .int .u8 0, .int .u8 0, .int .u8 0, .int .u8 0, .int .u8 0, .int .u8 0, .int .u8 0, .int .u8 0, .int .u8 0, .int .u8 0, .int .u8 0, .int .u8 0, .int .u8 0, .int .u8 0, .int .u8 0, .int .u8 0, .int .u8 0, .int .u8 0, .int .u8 0, .int .u8 0, .int .u8 0, .int .u8 0, .int .u8 0, .int .u8 0, .int .u8 0, .int .u8 0, .int .u8 0] : List AV))) := Keep.new (Nat.le_refl _) _
    have bn : Box h3.n (.int .i64 0 :: ([.int .u8 0, .int .u8 0, .int .u8 0, .int .u8 0, .int .u8 0, .int .u8 0, .int .u8 0, .int .u8 0, .int .u8 0, .int .u8 0, .int .u8 0, .int .u8 0, .int .u8 0, .int .u8 0, .int .u8 0, .int .u8 0, .int .u8 0, .int .u8 0, .int .u8 0, .int .u8 0, .int .u8 0, .int .u8 0, .int .u8 0, .int .u8 0, .int .u8 0, .int .u8 0, .int .u8 0, .int .u8 0, .int .u8 0, .int .u8 0, .int .u8 0, .int .u8 0, .int .u8 0, .int .u8 0, .int .u8 0, .int .u8 0, .int .u8 0, .int .u8 0, .int .u8 0, .int .u8 0, .int .u8 0, .int .u8 0, .int .u8 0, .int .u8 0, .int .u8 0, .int .u8 0, .int .u8 0, .int .u8 0, .int .u8 0, .int .u8 0, .int .u8 0, .int .u8 0, .int .u8 0, .int .u8 0, .int .u8 0, .int .u8 0, .int .u8 0, .int .u8 0, .int .u8 0, .int .u8 0, .int .u8 0, .int .u8 0, .int .u8 0, .int .u8 0] : List AV)) (h3.new (.int .i64 0 :: ([.int .u8 0, .int .u8 0, .int .u8 0, .int .u8 0, .int .u8 0, .int .u8 0, .int .u8 0, .int .u8 0, .int .u8 0, .int .u8 0, .int .u8 0, .int .u8 0, .int .u8 0, .int .u8 0, .int .u8 0, .int .u8 0, .int .u8 0, .int .u8 0, .int .u8 0, .int .u8 0, .int .u8 0, .int .u8 0, .int .u8 0, .int .u8 0, .int .u8 0, .int .u8 0, .int .u8 0, .int .u8 0, .int .u8 0, .int .u8 0, .int .u8 0, .int .u8 0, .int .u8 0, .int .u8 0, .int .u8 0, .int .u8 0, .int .u8 0, .int .u8 0, .int .u8 0, .int .u8 0, .int .u8 0, .int .u8 0, .int .u8 0, .int .u8 0, .int .u8 0, .int .u8 0, .int .u8 0, .int .u8 0, .int .u8 0, .int .u8 0, .int .u8 0, .int .u8 0, .int .u8 0, .int .u8 0, .int .u8 0, .int .u8 0, .int .u8 0, .int .u8 0, .int .u8 0, .int .u8 0, .int .u8 0, .int .u8 0, .int .u8 0, .int .u8 0] : List AV))) := Box.new wf3 _
    have wfn := kn.wf wf3
    obtain ⟨h4, e4, b4', k4⟩ := bn.putAll (n := 65) (vs := wcell (wAt D.waits j)) wfn hwl (wcell_one _) (by simp)
    have k34 : Keep (Old h3.n) h3 h4 := kn.trans (k4.newbox wfn kn.n (Nat.le_refl _))
    show WS E0 f58_l4 [] _ _ _
    refine WS_of_ops ?_
    simp only [f58_r2, go_sem, ↓reduceIte, Nat.reduceEqDiff, setPs, e4]
    have wf4 := k34.wf wf3
    refine ⟨trivial, k34.weaken fun q hq => hq.2.1, ?_⟩
    intro h5 n5 k45 hne
    have cl5 : Clean h.n Gu h5 := ((nn.clean cl).fresh nn.gi k34 wf3).same fun q cs g e => by
      by_cases hq : q = h2.n
      · subst hq; exact absurd e (hne _ _)
      · rwa [k45.get q hq] at e
    have wf5 := k45.wf wf4
    have k35 : Keep (Mine h.n Gu) h3 h5 := (k34.weaken fun q hq => by
      rcases hq with hq | hq
      · have := gi.1; omega
      · exact (gi.2 q (nn.sub q hq)).2).trans (k45.weaken fun q hq => by
      rcases hq with hq | hq
      · omega
      · have := (gi.2 q (nn.sub q hq)).1; omega)
    have i5 := Ist _ _ _ _ i3 k35
    have n34 := k34.n
    have gi5 : GIn h.n Gu h5 := nn.gi.up (by omega)
    have b5 : Box h.n [y] h5 := (b3.keep k34 (b3.lt wf3)).keep k45 (by omega)
    have b6 : Box h1.n [wv] h5 := (b4.keep k34 (b4.lt wf3)).keep k45 (by omega)
    have b7 : Box h3.n (wcell (wAt D.waits j)) h5 := b4'.keep k45 (by have := gi.1; omega)
    show WS E0 f58_l5 [] _ _ _
    refine WS_of_block (WS_of_seq (WS_of_ops ?_))
    simp only [f58_r3, go_sem, ↓reduceIte, Nat.reduceEqDiff, b5.load, List.getElem?_cons_zero, b7.loadAgg hwl]
    have hk : ∀ {h6 : H}, Keep (Its h.n Gu h5) h5 h6 → Keep (Its h2.n G h3) h5 h6 := fun kk => kk.weaken fun q hq => ⟨by have := hq.1; omega, by have := hq.2.1; omega, fun x => hq.2.2 (nn.sub q x)⟩
    refine (step Gu j _ (lastXs_at hj) h5 i5 cl5 gi5).mono ?_
    rintro out h6 ⟨k6, ⟨rfl, hi6⟩ | ⟨rfl, hr6⟩⟩
    · simp only [go_sem, ↓reduceIte, Nat.reduceEqDiff, Bool.not_true]
      refine WS_of_cond ?_
      simp only [go_sem, ↓reduceIte, Bool.false_eq_true]
      refine WS_of_skip ?_
      simp only [go_sem]
      exact ⟨hk k6, _, hi6, nn.step (by omega) cl5 k6 (Mm _ _ _ hi6).1, b5.keep k6 ⟨Nat.le_refl _, by have := gi.1; omega, fun x => by have := (gi.2 _ (nn.sub _ x)).1; omega⟩,
        b6.keep k6 ⟨by omega, by have := gi.1; omega, fun x => by have := (gi.2 _ (nn.sub _ x)).1; omega⟩⟩
    · simp only [go_sem, ↓reduceIte, Nat.reduceEqDiff, Bool.not_false]
      refine WS_of_cond ?_
      simp only [go_sem, ↓reduceIte]
      refine WS_of_ret ?_
      exact ⟨hk k6, .inr trivial, _, fun q hq => hq.imp (nn.sub q) (fun x => by omega), hr6⟩
  · rintro G h3 ⟨Gu, i3, nn, b3, b4⟩
    rw [backXs_len, ← lastXs_len] at i3
    exact ⟨.inl rfl, Gu, nn.sub, fin' _ _ i3⟩
  · rintro G p h3 ⟨rfl | rfl, Gu, hs, hr⟩
    · simp only [f58_a, go_sem, ↓reduceIte]
      exact ⟨trivial, _, hr⟩
    · simp only [f58_a, go_sem, ↓reduceIte]
      exact ⟨trivial, _, hr⟩
theorem last_spec {h : H} (wf : h.Wf) {o : Nat} : WCall E0 49 [.ptr o 0] h fun r h' => r = .val (.func 58 [.ptr h.n 0]) ∧ Box h.n [.ptr o 0] h' ∧ Keep (Old h.n) h h' ∧ h'.n = h.n + 1 := by
  refine WCall_ws (ovn 49) U49 (by simp [f49_a]) ?_
  show WS E0 f49_c [] _ _ _
  refine WS_of_seq (WS_of_ops ?_)
  have bn : Box h.n [.ptr o 0] (h.new [.ptr o 0]) := Box.new wf _
  have kn : Keep (Old h.n) h (h.new [.ptr o 0]) := Keep.new (Nat.le_refl _) _
  simp only [f49_r0, go_sem, ↓reduceIte, Nat.reduceEqDiff]
  refine WS_of_seq (WS_of_ops ?_)
  simp only [f49_r1, go_sem, ↓reduceIte, Nat.reduceEqDiff]
  refine WS_of_ret ?_
  simp only [f49_a, go_sem, ↓reduceIte]
  exact ⟨trivial, bn, kn, rfl⟩
end Go.Proofs.Ytmfbememiffkjaa.Ev.C
