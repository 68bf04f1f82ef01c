/- A disk's iterators, walked. -/
import Derived.Test.YtmfbememiffkjaaTDevB
import Derived.Test.YtmfbememiffkjaaEvL4
namespace Go.Proofs.Ytmfbememiffkjaa.Ev.C
open Go Go.Proofs.Ytmfbememiffkjaa.Ev
set_option linter.unusedSimpArgs false
set_option linter.unusedVariables false
def wAt (ws : List (Nat × Sec)) (j : Nat) : Nat × Sec := ws.getD (ws.length - 1 - j) (0, [])
theorem wAt_eq {ws : List (Nat × Sec)} {j : Nat} (hj : j < ws.length) : wAt ws j = ws[ws.length - 1 - j]'(by omega) := by
  unfold wAt
  rw [List.getD_eq_getElem?_getD, List.getElem?_eq_getElem (by omega), Option.getD_some]
def backXs (ws : List (Nat × Sec)) : List (List AV) := (List.range ws.length).map fun j => [.int .i64 ((ws.length - 1 - j : Nat) : Int), .agg (wcell (wAt ws j))]
theorem backXs_at {ws : List (Nat × Sec)} {j : Nat} (hj : j < ws.length) : (backXs ws)[j]? = some [.int .i64 ((ws.length - 1 - j : Nat) : Int), .agg (wcell (wAt ws j))] := by
  simp [backXs, hj]
theorem backXs_len (ws : List (Nat × Sec)) : (backXs ws).length = ws.length := by simp [backXs]

def BackI (I : (Nat → Prop) → Nat → H → Prop) (y : AV) (r N n : Nat) : Nat → S → H → Prop := fun m s h1 => ∃ G j, j + m = n ∧ s 0 = y ∧ s 1 = .ptr r 0 ∧ s 3 = .int .i64 ((n : Int) - 1 - j) ∧ I G j h1 ∧ GIn N G h1 ∧ Clean N G h1
theorem back_iter {r N : Nat} {sv : AV} {ws : List (Nat × Sec)} (h64 : ∀ w ∈ ws, w.2.length = 64) (hn : ws.length < 9223372036854775808) :
    IterSpec E0 65 [.ptr r 0] (backXs ws) N (fun h => Box r [sv] h ∧ Sl h 65 sv ws.length (wcells ws)) := by
  intro y I R h hy hN Mm Ist Rst step fin' start
  refine WCall_ws (ovn 65) U65 (by simp [f65_a]) ?_
  show WS E0 f65_c [] _ _ _
  obtain ⟨wf, bx, sl⟩ := Mm _ _ _ start
  subst hN
  have hlen := backXs_len ws
  have hw0 : IntKind.i64.wrap ((ws.length : Int) - 1) = (ws.length : Int) - 1 := wrap_i64 (by omega) (by omega)
  refine WS_of_seq (WS_of_ops ?_)
  simp only [f65_r0, go_sem, ↓reduceIte, Nat.reduceEqDiff, Nat.zero_add, bx.load, List.getElem?_cons_zero, sl.len, hw0]
  refine WS_of_block (WS_of_loop (BackI I y r h.n ws.length) ?_ ws.length ?_)
  · rintro m s h1 ⟨G, j, hjm, s0, s1, s3, hi, gi, cl⟩
    show WS E0 f65_l4 [] _ _ _
    obtain ⟨wf1, bx1, sl1⟩ := Mm _ _ _ hi
    refine WS_of_seq (WS_of_seq (WS_of_ops ?_))
    by_cases c : j < ws.length
    · have c' : (0 : Int) ≤ (ws.length : Int) - 1 - j := by omega
      simp only [f65_r1, go_sem, ↓reduceIte, Nat.reduceEqDiff, s3, ge_iff_le, c', decide_true]
      refine WS_of_cond ?_
      simp only [go_sem, ↓reduceIte]
      refine WS_of_skip ?_
      simp only [go_sem]
      refine WS_of_seq (WS_of_block (WS_of_seq (WS_of_ops ?_)))
      have hj' : ws.length - 1 - j < ws.length := by omega
      obtain ⟨p, e1, e2⟩ := waits_at sl1 h64 hj'
      have hjc : ((ws.length : Int) - 1 - j) = ((ws.length - 1 - j : Nat) : Int) := by omega
      rw [← wAt_eq c] at e2
      rw [← hjc] at e1
      simp only [f65_r2, go_sem, ↓reduceIte, Nat.reduceEqDiff, s0, s1, s3, bx1.load, List.getElem?_cons_zero, e1, e2]
      have hx := backXs_at c
      rw [← hjc] at hx
      refine (step G j _ hx h1 hi cl gi).mono ?_
      rintro out h2 ⟨k2, ⟨rfl, hi2⟩ | ⟨rfl, hr2⟩⟩
      · simp only [go_sem, ↓reduceIte, Nat.reduceEqDiff, Bool.not_true]
        refine WS_of_cond ?_
        simp only [go_sem, ↓reduceIte, Bool.false_eq_true]
        refine WS_of_skip ?_
        simp only [go_sem]
        refine WS_of_ops ?_
        have hw : IntKind.i64.wrap ((ws.length : Int) - 1 - j - 1) = (ws.length : Int) - 1 - ((j + 1 : Nat) : Int) := by rw [wrap_i64 (by omega) (by omega)]; omega
        simp only [f65_r3, go_sem, ↓reduceIte, Nat.reduceEqDiff, s3, hw]
        exact ⟨m - 1, by omega, _, j + 1, by omega, s0, s1, rfl, hi2, gi.more k2.n, cl.round gi (Mm _ _ _ hi2).1 k2⟩
      · simp only [go_sem, ↓reduceIte, Nat.reduceEqDiff, Bool.not_false]
        refine WS_of_cond ?_
        simp only [go_sem, ↓reduceIte]
        refine WS_of_ret ?_
        simp only [f65_a, go_sem, ↓reduceIte]
        exact ⟨trivial, _, hr2⟩
    · have c' : ¬ (0 : Int) ≤ (ws.length : Int) - 1 - j := by omega
      simp only [f65_r1, go_sem, ↓reduceIte, Nat.reduceEqDiff, s3, ge_iff_le, c', decide_false]
      refine WS_of_cond ?_
      simp only [go_sem, ↓reduceIte, Bool.false_eq_true]
      refine WS_of_exit ?_
      have hj : j = (backXs ws).length := by omega
      subst hj
      simp only [f65_a, go_sem, ↓reduceIte]
      exact ⟨trivial, _, fin' _ _ hi⟩
  · exact ⟨_, 0, by omega, rfl, rfl, (show AV.int .i64 ((ws.length : Int) - 1) = .int .i64 ((ws.length : Int) - 1 - ((0 : Nat) : Int)) by simp), start, GIn.none _, Clean.start wf⟩
theorem back_spec {h : H} (wf : h.Wf) {wv : AV} (h1 : wv.cells = [wv]) : WCall E0 59 [wv] h fun r h' => r = .val (.func 65 [.ptr h.n 0]) ∧ Box h.n [wv] h' ∧ Keep (Old h.n) h h' ∧ h'.n = h.n + 1 := by
  refine WCall_ws (ovn 59) U59 (by simp [f59_a]) ?_
  show WS E0 f59_c [] _ _ _
  refine WS_of_seq (WS_of_ops ?_)
  have bn : Box h.n [wv] (h.new [wv]) := Box.new wf _
  have kn : Keep (Old h.n) h (h.new [wv]) := Keep.new (Nat.le_refl _) _
  simp only [f59_r0, go_sem, ↓reduceIte, Nat.reduceEqDiff, h1]
  refine WS_of_seq (WS_of_ops ?_)
  simp only [f59_r1, go_sem, ↓reduceIte, Nat.reduceEqDiff]
  refine WS_of_ret ?_
  simp only [f59_a, go_sem, ↓reduceIte]
  exact ⟨trivial, bn, kn, rfl⟩

def lastXs (ws : List (Nat × Sec)) : List (List AV) := (List.range ws.length).map fun j => [.agg (wcell (wAt ws j))]
theorem lastXs_at {ws : List (Nat × Sec)} {j : Nat} (hj : j < ws.length) : (lastXs ws)[j]? = some [.agg (wcell (wAt ws j))] := by
  simp [lastXs, hj]
theorem lastXs_len (ws : List (Nat × Sec)) : (lastXs ws).length = ws.length := by simp [lastXs]
theorem last_iter {r o gk N : Nat} {k wv : AV} {gs : List Nat} {D : Dk} (hwl : D.waits.length < 1000000) :
    IterSpec E0 58 [.ptr r 0] (lastXs D.waits) N (fun h => Box r [.ptr o 0] h ∧ DiskIs h o gk k wv gs D) := by
  intro y I R h hy hN Mm Ist Rst step fin' start
  refine WCall_ws (ovn 58) U58 (by simp [f58_a]) ?_
  show WS E0 f58_c [] _ _ _
  obtain ⟨wf, bx, d⟩ := Mm _ _ _ start
  subst hN
  have h64 : ∀ w ∈ D.waits, w.2.length = 64 := fun w hw => (d.ok.w w hw).2
  refine WS_of_seq (WS_of_ops ?_)
  have k1 : Keep (Old h.n) h (h.new [y]) := Keep.new (Nat.le_refl _) _
  have b1 : Box h.n [y] (h.new [y]) := Box.new wf _
  have n1 : (h.new [y]).n = h.n + 1 := rfl
  simp only [f58_r0, go_sem, ↓reduceIte, Nat.reduceEqDiff, hy]
  generalize h.new [y] = h1 at k1 b1 n1
  have wf1 := k1.wf wf
  have up : ∀ {G : Nat → Prop}, (∀ q, ¬ G q) → ∀ q, Mine h.n G q → q < h.n := fun hG q hq => hq.elim id (fun x => absurd x (hG q))
  have i1 := Ist _ _ _ _ start (k1.weaken (up fun _ x => x))
  obtain ⟨-, bx1, d1⟩ := Mm _ _ _ i1
  have hwc := one_of_len d1.ws.len
  refine WS_of_seq (WS_of_ops ?_)
  simp only [f58_r1, go_sem, ↓reduceIte, Nat.reduceEqDiff, bx1.load, List.getElem?_cons_zero, d1.box.load, Nat.zero_add, List.getElem?_cons_succ]
  refine (back_spec wf1 hwc.2).mono ?_
  rintro rr h2 ⟨rfl, b2, k2, n2⟩
  have wf2 := k2.wf wf1
  have i2 := Ist _ _ _ _ i1 (k2.weaken fun q hq => Nat.lt_of_lt_of_le (up (fun _ x => x) q hq) (by omega))
  have b12 := b1.keep k2 (b1.lt wf1)
  have cl2 : Clean h.n (fun _ => False) h2 := ((Clean.start wf).fresh (GIn.none _) k1 wf).fresh ((GIn.none h).up k1.n) k2 wf1
  simp only [go_sem, ↓reduceIte]
  refine WS_of_block (WS_of_range (g := 65) (cs := [.ptr h1.n 0]) (by simp only [go_sem, ↓reduceIte, Nat.reduceEqDiff]) (back_iter (ws := D.waits) (sv := wv) h64 (by omega))
    (fun G j h3 => ∃ Gu, I Gu j h3 ∧ Nest h.n h2.n Gu G h3 ∧ Box h.n [y] h3 ∧ Box h1.n [wv] h3)
    (fun G p h3 => (p = none ∨ p = some none) ∧ ∃ Gu, (∀ q, Gu q → G q) ∧ R Gu h3) ?_ ?_ ?_ ?_ ?_ ?_ ?_ ?_)
  · intro x hx
    simp only [backXs, List.mem_map] at hx
    obtain ⟨_, _, rfl⟩ := hx
    rfl
  · exact ⟨_, i2, Nest.start cl2 ((GIn.none h).up (by omega)) (by omega) (fun _ x => x), b12, b2⟩
  · rintro G j h3 ⟨Gu, i3, nn, b3, b4⟩
    obtain ⟨wf3, bx3, d3⟩ := Mm _ _ _ i3
    exact ⟨wf3, b4, d3.ws⟩
  · rintro G j h3 h4 hG ⟨Gu, i3, nn, b3, b4⟩ kk
    exact ⟨Gu, Ist _ _ _ _ i3 (kk.weaken nn.mine), nn.keep kk, b3.keep kk (.inl (by omega)), b4.keep kk (.inl (by omega))⟩
  · rintro G p h3 h4 hG ⟨hp, Gu, hs, hr⟩ kk
    exact ⟨hp, Gu, hs, Rst _ _ _ hr (kk.weaken fun q hq => hq.imp (fun x => by omega) (hs q))⟩
  · rintro G j x hx h3 gi cl ⟨Gu, i3, nn, b3, b4⟩
    have hj : j < D.waits.length := by
      have := (List.getElem?_eq_some_iff.1 hx).1
      rwa [backXs_len] at this
    rw [backXs_at hj] at hx
    cases hx
    obtain ⟨wf3, bx3, d3⟩ := Mm _ _ _ i3
    have hwl := wcell_len (h64 (wAt D.waits j) (by rw [wAt_eq hj]; exact List.getElem_mem _))
    have kn : Keep (Old h3.n) h3 (h3.new (.int .i64 0 :: ([.int .u8 0, .int .u8 0, .int .u8 0, .int .u8 0, .int .u8 0, .int .u8 0, .int .u8 0, .int .u8 0, .int .u8 0, .int .u8 0, .int .u8 0, .int .u8 0, .int .u8 0, .int .u8 0, .int .u8 0, .int .u8 0, .int .u8 0, .int .u8 0, .int .u8 0, .int .u8 0, .int .u8 0, .int .u8 0, .int .u8 0, .int .u8 0, .int .u8 0, .int .u8 0, .int .u8 0, .int .u8 0, .int .u8 0, .int .u8 0, .int .u8 0, .int .u8 0, .int .u8 0, .int .u8 0, .int .u8 0, .int .u8 0, .int .u8 0, .int .u8 0, .int .u8 0, .int .u8 0, .int .u8 0, .int .u8 0, .int .u8 0, .int .u8 0, .int .u8 0, .int .u8 0, .int .u8 0, .int .u8 0, .int .u8 0, .int .u8 0, .int .u8 0, .int .u8 0, .int .u8 0, .int .u8 0, .int .u8 0, .int .u8 0, .int .u8 0, .int .u8 0, .int .u8 0, .int .u8 0, .int .u8 0, .int .u8 0, .int .u8 0, .int .u8 0] : List AV))) := Keep.new (Nat.le_refl _) _
    have bn : Box h3.n (.int .i64 0 :: ([.int .u8 0, .int .u8 0, .int .u8 0, .int .u8 0, .int .u8 0, .int .u8 0, .int .u8 0, .int .u8 0, .int .u8 0, .int .u8 0, .int .u8 0, .int .u8 0, .int .u8 0, .int .u8 0, .int .u8 0, .int .u8 0, .int .u8 0, .int .u8 0, .int .u8 0, .int .u8 0, .int .u8 0, .int .u8 0, .int .u8 0, .int .u8 0, .int .u8 0, .int .u8 0, .int .u8 0, .int .u8 0, .int .u8 0, .int .u8 0, .int .u8 0, .int .u8 0, .int .u8 0, .int .u8 0, .int .u8 0, .int .u8 0, .int .u8 0, .int .u8 0, .int .u8 0, .int .u8 0, .int .u8 0, .int .u8 0, .int .u8 0, .int .u8 0, .int .u8 0, .int .u8 0, .int .u8 0, .int .u8 0, .int .u8 0, .int .u8 0, .int .u8 0, .int .u8 0, .int .u8 0, .int .u8 0, .int .u8 0, .int .u8 0, .int .u8 0, .int .u8 0, .int .u8 0, .int .u8 0, .int .u8 0, .int .u8 0, .int .u8 0, .int .u8 0] : List AV)) (h3.new (.int .i64 0 :: ([.int .u8 0, .int .u8 0, .int .u8 0, .int .u8 0, .int .u8 0, .int .u8 0, .int .u8 0, .int .u8 0, .int .u8 0, .int .u8 0, .int .u8 0, .int .u8 0, .int .u8 0, .int .u8 0, .int .u8 0, .int .u8 0, .int .u8 0, .int .u8 0, .int .u8 0, .int .u8 0, .int .u8 0, .int .u8 0, .int .u8 0, .int .u8 0, .int .u8 0, .int .u8 0, .int .u8 0, .int .u8 0, .int .u8 0, .int .u8 0, .int .u8 0, .int .u8 0, .int .u8 0, .int .u8 0, .int .u8 0, .int .u8 0, .int .u8 0, .int .u8 0, .int .u8 0, .int .u8 0, .int .u8 0, .int .u8 0, .int .u8 0, .int .u8 0, .int .u8 0, .int .u8 0, .int .u8 0, .int .u8 0, .int .u8 0, .int .u8 0, .int .u8 0, .int .u8 0, .int .u8 0, .int .u8 0, .int .u8 0, .int .u8 0, .int .u8 0, .int .u8 0, .int .u8 0, .int .u8 0, .int .u8 0, .int .u8 0, .int .u8 0, .int .u8 0] : List AV))) := Box.new wf3 _
    have wfn := kn.wf wf3
    obtain ⟨h4, e4, b4', k4⟩ := bn.putAll (n := 65) (vs := wcell (wAt D.waits j)) wfn hwl (wcell_one _) (by simp)
    have k34 : Keep (Old h3.n) h3 h4 := kn.trans (k4.newbox wfn kn.n (Nat.le_refl _))
    show WS E0 f58_l4 [] _ _ _
    refine WS_of_ops ?_
    simp only [f58_r2, go_sem, ↓reduceIte, Nat.reduceEqDiff, setPs, e4]
    have wf4 := k34.wf wf3
    refine ⟨trivial, k34.weaken fun q hq => hq.2.1, ?_⟩
    intro h5 n5 k45 hne
    have cl5 : Clean h.n Gu h5 := ((nn.clean cl).fresh nn.gi k34 wf3).same fun q cs g e => by
      by_cases hq : q = h2.n
      · subst hq; exact absurd e (hne _ _)
      · rwa [k45.get q hq] at e
    have wf5 := k45.wf wf4
    have k35 : Keep (Mine h.n Gu) h3 h5 := (k34.weaken fun q hq => by
      rcases hq with hq | hq
      · have := gi.1; omega
      · exact (gi.2 q (nn.sub q hq)).2).trans (k45.weaken fun q hq => by
      rcases hq with hq | hq
      · omega
      · have := (gi.2 q (nn.sub q hq)).1; omega)
    have i5 := Ist _ _ _ _ i3 k35
    have n34 := k34.n
    have gi5 : GIn h.n Gu h5 := nn.gi.up (by omega)
    have b5 : Box h.n [y] h5 := (b3.keep k34 (b3.lt wf3)).keep k45 (by omega)
    have b6 : Box h1.n [wv] h5 := (b4.keep k34 (b4.lt wf3)).keep k45 (by omega)
    have b7 : Box h3.n (wcell (wAt D.waits j)) h5 := b4'.keep k45 (by have := gi.1; omega)
    show WS E0 f58_l5 [] _ _ _
    refine WS_of_block (WS_of_seq (WS_of_ops ?_))
    simp only [f58_r3, go_sem, ↓reduceIte, Nat.reduceEqDiff, b5.load, List.getElem?_cons_zero, b7.loadAgg hwl]
    have hk : ∀ {h6 : H}, Keep (Its h.n Gu h5) h5 h6 → Keep (Its h2.n G h3) h5 h6 := fun kk => kk.weaken fun q hq => ⟨by have := hq.1; omega, by have := hq.2.1; omega, fun x => hq.2.2 (nn.sub q x)⟩
    refine (step Gu j _ (lastXs_at hj) h5 i5 cl5 gi5).mono ?_
    rintro out h6 ⟨k6, ⟨rfl, hi6⟩ | ⟨rfl, hr6⟩⟩
    · simp only [go_sem, ↓reduceIte, Nat.reduceEqDiff, Bool.not_true]
      refine WS_of_cond ?_
      simp only [go_sem, ↓reduceIte, Bool.false_eq_true]
      refine WS_of_skip ?_
      simp only [go_sem]
      exact ⟨hk k6, _, hi6, nn.step (by omega) cl5 k6 (Mm _ _ _ hi6).1, b5.keep k6 ⟨Nat.le_refl _, by have := gi.1; omega, fun x => by have := (gi.2 _ (nn.sub _ x)).1; omega⟩,
        b6.keep k6 ⟨by omega, by have := gi.1; omega, fun x => by have := (gi.2 _ (nn.sub _ x)).1; omega⟩⟩
    · simp only [go_sem, ↓reduceIte, Nat.reduceEqDiff, Bool.not_false]
      refine WS_of_cond ?_
      simp only [go_sem, ↓reduceIte]
      refine WS_of_ret ?_
      exact ⟨hk k6, .inr trivial, _, fun q hq => hq.imp (nn.sub q) (fun x => by omega), hr6⟩
  · rintro G h3 ⟨Gu, i3, nn, b3, b4⟩
    rw [backXs_len, ← lastXs_len] at i3
    exact ⟨.inl rfl, Gu, nn.sub, fin' _ _ i3⟩
  · rintro G p h3 ⟨rfl | rfl, Gu, hs, hr⟩
    · simp only [f58_a, go_sem, ↓reduceIte]
      exact ⟨trivial, _, hr⟩
    · simp only [f58_a, go_sem, ↓reduceIte]
      exact ⟨trivial, _, hr⟩
theorem last_spec {h : H} (wf : h.Wf) {o : Nat} : WCall E0 49 [.ptr o 0] h fun r h' => r = .val (.func 58 [.ptr h.n 0]) ∧ Box h.n [.ptr o 0] h' ∧ Keep (Old h.n) h h' ∧ h'.n = h.n + 1 := by
  refine WCall_ws (ovn 49) U49 (by simp [f49_a]) ?_
  show WS E0 f49_c [] _ _ _
  refine WS_of_seq (WS_of_ops ?_)
  have bn : Box h.n [.ptr o 0] (h.new [.ptr o 0]) := Box.new wf _
  have kn : Keep (Old h.n) h (h.new [.ptr o 0]) := Keep.new (Nat.le_refl _) _
  simp only [f49_r0, go_sem, ↓reduceIte, Nat.reduceEqDiff]
  refine WS_of_seq (WS_of_ops ?_)
  simp only [f49_r1, go_sem, ↓reduceIte, Nat.reduceEqDiff]
  refine WS_of_ret ?_
  simp only [f49_a, go_sem, ↓reduceIte]
  exact ⟨trivial, bn, kn, rfl⟩
end Go.Proofs.Ytmfbememiffkjaa.Ev.C

/- A disk is read. -/
namespace Go.Proofs.Ytmfbememiffkjaa.Ev.C
open Go Go.Proofs.Ytmfbememiffkjaa.Ev
set_option linter.unusedSimpArgs false
set_option linter.unusedVariables false
theorem wAt_rev {ws : List (Nat × Sec)} {j : Nat} (hj : j < ws.length) : wAt ws j = ws.reverse[j]'(by simpa using hj) := by
  rw [wAt_eq hj, List.getElem_reverse]
theorem findS_none {D : Dk} {i : Nat} (hn : ∀ j, j < D.waits.length → (wAt D.waits j).1 ≠ i) : findS D i = D.kept.getD i [] := by
  unfold findS
  have : D.waits.reverse.find? (fun w => w.1 == i) = none := by
    rw [List.find?_eq_none]
    intro w hw
    obtain ⟨j, hj, rfl⟩ := List.mem_iff_getElem.1 hw
    have hj' : j < D.waits.length := by simpa using hj
    have := hn j hj'
    rw [wAt_rev hj'] at this
    simpa using this
  rw [this]
theorem findS_some {D : Dk} {i j : Nat} (hj : j < D.waits.length) (hn : ∀ j', j' < j → (wAt D.waits j').1 ≠ i) (he : (wAt D.waits j).1 = i) : findS D i = (wAt D.waits j).2 := by
  unfold findS
  have : D.waits.reverse.find? (fun w => w.1 == i) = some (wAt D.waits j) := by
    rw [List.find?_eq_some_iff_getElem]
    refine ⟨by simpa using he, j, by simpa using hj, (wAt_rev hj).symm, fun j' hj' => ?_⟩
    have := hn j' hj'
    rw [wAt_rev (by omega)] at this
    simpa using this
  rw [this]
theorem findS_len {D : Dk} (ok : D.Ok) {i : Nat} (hi : i < D.kept.length) : (findS D i).length = 64 := by
  unfold findS
  split
  · rename_i w hw
    exact (ok.w w (List.mem_reverse.1 (List.mem_of_find?_eq_some hw))).2
  · rw [List.getD_eq_getElem?_getD, List.getElem?_eq_getElem hi, Option.getD_some]
    exact ok.k64 _ (List.getElem_mem _)

theorem read_nil {h : H} (wf : h.Wf) (i : Int) : WCall E0 26 [.nilp, .int .i64 i] h fun r h' => r = .val (.tup [.nils, .int .i64 1]) ∧ Keep (Old h.n) h h' := by
  refine WCall_ws (ovn 26) U26 (by simp [f26_a]) ?_
  show WS E0 f26_c [] _ _ _
  refine WS_of_seq (WS_of_ops ?_)
  have ka : Keep (Old h.n) h (h.new [.int .i64 i]) := Keep.new (Nat.le_refl _) _
  have ba : Box h.n [.int .i64 i] (h.new [.int .i64 i]) := Box.new wf _
  have na : (h.new [.int .i64 i]).n = h.n + 1 := rfl
  have hci : (AV.int .i64 i).cells = [.int .i64 i] := rfl
  simp only [f26_r0, go_sem, ↓reduceIte, Nat.reduceEqDiff, hci]
  generalize h.new [.int .i64 i] = ha at ka ba na
  have wfa := ka.wf wf
  have kb : Keep (Old ha.n) ha (ha.new [.nils]) := Keep.new (Nat.le_refl _) _
  have bb : Box ha.n [.nils] (ha.new [.nils]) := Box.new wfa _
  have nb : (ha.new [.nils]).n = ha.n + 1 := rfl
  generalize ha.new [.nils] = hb at kb bb nb
  have wfb := kb.wf wfa
  have kc : Keep (Old hb.n) hb (hb.new [.int .i64 0]) := Keep.new (Nat.le_refl _) _
  have bc : Box hb.n [.int .i64 0] (hb.new [.int .i64 0]) := Box.new wfb _
  have nc : (hb.new [.int .i64 0]).n = hb.n + 1 := rfl
  generalize hb.new [.int .i64 0] = hc at kc bc nc
  have wfc := kc.wf wfb
  have b3 := (ba.keep kb (ba.lt wfa)).keep kc (by have := ba.lt wfa; show _ < _; omega)
  have b4 := bb.keep kc (bb.lt wfb)
  have k0 : Keep (Old h.n) h hc := (ka.trans (kb.weaken fun q hq => by show _ < _; have : q < h.n := hq; omega)).trans (kc.weaken fun q hq => by show _ < _; have : q < h.n := hq; omega)
  refine WS_of_seq (WS_of_block (WS_of_seq (WS_of_ops ?_)))
  simp only [f26_r1, go_sem, ↓reduceIte, Nat.reduceEqDiff, b3.load, List.getElem?_cons_zero]
  refine (is_nil i).mono ?_
  rintro r h' ⟨rfl, rfl⟩
  simp only [go_sem, ↓reduceIte, Nat.reduceEqDiff, Bool.not_false]
  refine WS_of_cond ?_
  simp only [go_sem, ↓reduceIte]
  refine WS_of_seq (WS_of_ops ?_)
  obtain ⟨h1, e1, c1, k1⟩ := b4.put wfc (i := 0) (n := 1) (v := .nils) rfl rfl (by simp)
  have wf1 := k1.wf wfc
  have b5 := bc.keepA wfc k1 (by simp; omega)
  obtain ⟨h2, e2, c2, k2⟩ := b5.put wf1 (i := 0) (n := 1) (v := .int .i64 1) rfl rfl (by simp)
  have c4 := c1.keepA wf1 k2 (by simp; omega)
  simp only [f26_r2, go_sem, ↓reduceIte, Nat.reduceEqDiff, e1, e2]
  refine WS_of_ret ?_
  simp only [f26_a, go_sem, ↓reduceIte, Nat.reduceEqDiff, c4.load, c2.load]
  have x1 := k1.newbox wfc k0.n (by omega)
  have x2 := k2.newbox wf1 (Nat.le_trans k0.n k1.n) (by omega)
  exact ⟨rfl, (k0.trans x1).trans x2⟩

theorem read_spec {h : H} {o : Nat} {gs : List Nat} {D : Dk} (wf : h.Wf) (d : DiskAt h o gs D) (i : Int) (hw : D.waits.length < 1000000) :
    WCall E0 26 [.ptr o 0, .int .i64 i] h fun r h' => ∃ v, r = .val (.tup [v, .int .i64 ((D.read i).2 : Int)]) ∧ Bytes h' v (D.read i).1 ∧ Own h.n h' v ∧ Keep (Old h.n) h h' := by
  refine WCall_ws (ovn 26) U26 (by simp [f26_a]) ?_
  show WS E0 f26_c [] _ _ _
  refine WS_of_seq (WS_of_ops ?_)
  have ka : Keep (Old h.n) h (h.new [.int .i64 i]) := Keep.new (Nat.le_refl _) _
  have ba : Box h.n [.int .i64 i] (h.new [.int .i64 i]) := Box.new wf _
  have na : (h.new [.int .i64 i]).n = h.n + 1 := rfl
  have hci : (AV.int .i64 i).cells = [.int .i64 i] := rfl
  simp only [f26_r0, go_sem, ↓reduceIte, Nat.reduceEqDiff, hci]
  generalize h.new [.int .i64 i] = ha at ka ba na
  have wfa := ka.wf wf
  have kb : Keep (Old ha.n) ha (ha.new [.nils]) := Keep.new (Nat.le_refl _) _
  have bb : Box ha.n [.nils] (ha.new [.nils]) := Box.new wfa _
  have nb : (ha.new [.nils]).n = ha.n + 1 := rfl
  generalize ha.new [.nils] = hb at kb bb nb
  have wfb := kb.wf wfa
  have kc : Keep (Old hb.n) hb (hb.new [.int .i64 0]) := Keep.new (Nat.le_refl _) _
  have bc : Box hb.n [.int .i64 0] (hb.new [.int .i64 0]) := Box.new wfb _
  have nc : (hb.new [.int .i64 0]).n = hb.n + 1 := rfl
  generalize hb.new [.int .i64 0] = hc at kc bc nc
  have wfc := kc.wf wfb
  have b3 := (ba.keep kb (ba.lt wfa)).keep kc (by have := ba.lt wfa; show _ < _; omega)
  have b4 := bb.keep kc (bb.lt wfb)
  have k0 : Keep (Old h.n) h hc := (ka.trans (kb.weaken fun q hq => by show _ < _; have : q < h.n := hq; omega)).trans (kc.weaken fun q hq => by show _ < _; have : q < h.n := hq; omega)
  have dc := d.keep wf k0
  -- the results written and given back
  have ends : ∀ {h1 : H} (wf1 : h1.Wf) (c4 : ∃ x, Box ha.n [x] h1) (c5 : ∃ x, Box hb.n [x] h1) (v : AV) (e : Int), v.cells = [v] → v.one = true →
      ∃ h2 h3, storeA h1 1 (.ptr ha.n 0) v = some h2 ∧ storeA h2 1 (.ptr hb.n 0) (.int .i64 e) = some h3 ∧ Box ha.n [v] h3 ∧ Box hb.n [.int .i64 e] h3 ∧ KeepA [ha.n, hb.n] h1 h3 := by
    rintro h1 wf1 ⟨x, c4⟩ ⟨y, c5⟩ v e hv hv1
    obtain ⟨h2, e1, c1, k1⟩ := c4.put wf1 (i := 0) (n := 1) (v := v) (by rw [hv]; rfl) (by rw [hv]; simp [hv1]) (by simp)
    have wf2 := k1.wf wf1
    have b5 := c5.keepA wf1 k1 (by simp; omega)
    obtain ⟨h3, e2, c2, k2⟩ := b5.put wf2 (i := 0) (n := 1) (v := .int .i64 e) rfl rfl (by simp)
    rw [hv] at c1
    have c4 := c1.keepA wf2 k2 (by simp; omega)
    exact ⟨h2, h3, e1, e2, c4, c2, (k1.mono (by simp)).then wf1 (k2.mono (by simp)) (fun g hg => .inl hg)⟩
  refine WS_of_seq (WS_of_block (WS_of_seq (WS_of_ops ?_)))
  simp only [f26_r1, go_sem, ↓reduceIte, Nat.reduceEqDiff, b3.load, List.getElem?_cons_zero]
  refine (is_spec dc i).mono ?_
  rintro r h' ⟨rfl, rfl⟩
  have fine : ∀ {h3 : H}, KeepA [ha.n, hb.n] h' h3 → Keep (Old h.n) h h3 := fun k => k0.trans (k.old wfc k0.n (by simp; omega))
  cases hh : D.has i with
  | false =>
    simp only [go_sem, ↓reduceIte, Nat.reduceEqDiff, Bool.not_false]
    refine WS_of_cond ?_
    simp only [go_sem, ↓reduceIte]
    refine WS_of_seq (WS_of_ops ?_)
    obtain ⟨h1, h2, e1, e2, c4, c5, k⟩ := ends wfc ⟨_, b4⟩ ⟨_, bc⟩ .nils 1 rfl rfl
    simp only [f26_r2, go_sem, ↓reduceIte, Nat.reduceEqDiff, e1, e2]
    refine WS_of_ret ?_
    simp only [f26_a, go_sem, ↓reduceIte, Nat.reduceEqDiff, c4.load, c5.load]
    have hr : D.read i = ([], 1) := by simp [Dk.read, hh]
    rw [hr]
    exact ⟨_, rfl, Sl.nil _ _, trivial, fine k⟩
  | true =>
    obtain ⟨gk, k, wv, dc⟩ := dc
    simp only [go_sem, ↓reduceIte, Nat.reduceEqDiff, Bool.not_true]
    refine WS_of_cond ?_
    simp only [go_sem, ↓reduceIte, Bool.false_eq_true]
    refine WS_of_seq (WS_of_ops ?_)
    simp only [f26_r3, go_sem, ↓reduceIte, Nat.reduceEqDiff, Nat.zero_add, dc.box.load, List.getElem?_cons_zero, List.getElem?_cons_succ]
    refine WS_of_cond ?_
    cases hd : D.dead with
    | true =>
      simp only [go_sem, ↓reduceIte]
      refine WS_of_seq (WS_of_ops ?_)
      obtain ⟨h1, h2, e1, e2, c4, c5, k⟩ := ends wfc ⟨_, b4⟩ ⟨_, bc⟩ .nils 20 rfl rfl
      simp only [f26_r4, go_sem, ↓reduceIte, Nat.reduceEqDiff, e1, e2]
      refine WS_of_ret ?_
      simp only [f26_a, go_sem, ↓reduceIte, Nat.reduceEqDiff, c4.load, c5.load]
      have hr : D.read i = ([], 20) := by simp [Dk.read, hh, hd]
      rw [hr]
      exact ⟨_, rfl, Sl.nil _ _, trivial, fine k⟩
    | false =>
      obtain ⟨n, rfl, hn⟩ := has_iff.1 hh
      have hr : D.read (n : Int) = (findS D n, 0) := by simp [Dk.read, hh, hd]
      rw [hr]
      simp only [go_sem, ↓reduceIte, Bool.false_eq_true]
      refine WS_of_skip ?_
      simp only [go_sem]
      refine WS_of_seq (WS_of_seq (WS_of_ops ?_))
      simp only [f26_r5, go_sem, ↓reduceIte, Nat.reduceEqDiff]
      refine (last_spec wfc).mono ?_
      rintro r h1 ⟨rfl, bl, k1, n1⟩
      have wf1 := k1.wf wfc
      simp only [go_sem, ↓reduceIte]
      have d1 := dc.keep wfc k1
      have b31 := b3.keep k1 (b3.lt wfc)
      have b41 := b4.keep k1 (b4.lt wfc)
      have b51 := bc.keep k1 (bc.lt wfc)
      have h64 : ∀ w ∈ D.waits, w.2.length = 64 := fun w hw => (d1.ok.w w hw).2
      refine WS_of_block (WS_of_range (g := 58) (cs := [.ptr h'.n 0]) (by simp only [go_sem, ↓reduceIte, Nat.reduceEqDiff]) (last_iter (D := D) (o := o) (gk := gk) (k := k) (wv := wv) (gs := gs) hw)
        (fun G j h3 => Keep (Old h1.n) h1 h3 ∧ ∀ j', j' < j → (wAt D.waits j').1 ≠ n)
        (fun G p h3 => (p = none ∧ Keep (Old h1.n) h1 h3 ∧ findS D n = D.kept.getD n []) ∨
          (p = some none ∧ ∃ q c, G q ∧ Box q (c :: byteCells (findS D n)) h3 ∧ Box ha.n [.slice q 1 64 1] h3 ∧ Box hb.n [.int .i64 0] h3 ∧ h1.n ≤ q ∧ Keep (Old h.n) h h3)) ?_ ?_ ?_ ?_ ?_ ?_ ?_ ?_)
      · intro x hx
        simp only [lastXs, List.mem_map] at hx
        obtain ⟨_, _, rfl⟩ := hx
        rfl
      · exact ⟨Keep.refl _ _, fun j' hj => absurd hj (Nat.not_lt_zero _)⟩
      · rintro G j h3 ⟨k3, hne⟩
        exact ⟨k3.wf wf1, bl.keep k3 (bl.lt wf1), d1.keep wf1 k3⟩
      · rintro G j h3 h4 hG ⟨k3, hne⟩ kk
        exact ⟨k3.trans (kk.weaken fun q hq => .inl hq), hne⟩
      · rintro G p h3 h4 hG (⟨rfl, k3, hf⟩ | ⟨rfl, q, c, hq, c1, c2, c3, hle, k3⟩) kk
        · exact .inl ⟨rfl, k3.trans (kk.weaken fun q hq => .inl hq), hf⟩
        · exact .inr ⟨rfl, q, c, hq, c1.keep kk (.inr hq), c2.keep kk (.inl (by omega)), c3.keep kk (.inl (by omega)), hle, k3.trans (kk.weaken fun q hq => .inl (by have : q < h.n := hq; omega))⟩
      · rintro G j x hx h3 gi cl ⟨k3, hne⟩
        have hj : j < D.waits.length := by
          have := (List.getElem?_eq_some_iff.1 hx).1
          rwa [lastXs_len] at this
        rw [lastXs_at hj] at hx
        cases hx
        have wf3 := k3.wf wf1
        have hwl := wcell_len (h64 (wAt D.waits j) (by rw [wAt_eq hj]; exact List.getElem_mem _))
        have kn : Keep (Old h3.n) h3 (h3.new (.int .i64 0 :: ([.int .u8 0, .int .u8 0, .int .u8 0, .int .u8 0, .int .u8 0, .int .u8 0, .int .u8 0, .int .u8 0, .int .u8 0, .int .u8 0, .int .u8 0, .int .u8 0, .int .u8 0, .int .u8 0, .int .u8 0, .int .u8 0, .int .u8 0, .int .u8 0, .int .u8 0, .int .u8 0, .int .u8 0, .int .u8 0, .int .u8 0, .int .u8 0, .int .u8 0, .int .u8 0, .int .u8 0, .int .u8 0, .int .u8 0, .int .u8 0, .int .u8 0, .int .u8 0, .int .u8 0, .int .u8 0, .int .u8 0, .int .u8 0, .int .u8 0, .int .u8 0, .int .u8 0, .int .u8 0, .int .u8 0, .int .u8 0, .int .u8 0, .int .u8 0, .int .u8 0, .int .u8 0, .int .u8 0, .int .u8 0, .int .u8 0, .int .u8 0, .int .u8 0, .int .u8 0, .int .u8 0, .int .u8 0, .int .u8 0, .int .u8 0, .int .u8 0, .int .u8 0, .int .u8 0, .int .u8 0, .int .u8 0, .int .u8 0, .int .u8 0, .int .u8 0] : List AV))) := Keep.new (Nat.le_refl _) _
        have bn : Box h3.n (.int .i64 0 :: ([.int .u8 0, .int .u8 0, .int .u8 0, .int .u8 0, .int .u8 0, .int .u8 0, .int .u8 0, .int .u8 0, .int .u8 0, .int .u8 0, .int .u8 0, .int .u8 0, .int .u8 0, .int .u8 0, .int .u8 0, .int .u8 0, .int .u8 0, .int .u8 0, .int .u8 0, .int .u8 0, .int .u8 0, .int .u8 0, .int .u8 0, .int .u8 0, .int .u8 0, .int .u8 0, .int .u8 0, .int .u8 0, .int .u8 0, .int .u8 0, .int .u8 0, .int .u8 0, .int .u8 0, .int .u8 0, .int .u8 0, .int .u8 0, .int .u8 0, .int .u8 0, .int .u8 0, .int .u8 0, .int .u8 0, .int .u8 0, .int .u8 0, .int .u8 0, .int .u8 0, .int .u8 0, .int .u8 0, .int .u8 0, .int .u8 0, .int .u8 0, .int .u8 0, .int .u8 0, .int .u8 0, .int .u8 0, .int .u8 0, .int .u8 0, .int .u8 0, .int .u8 0, .int .u8 0, .int .u8 0, .int .u8 0, .int .u8 0, .int .u8 0, .int .u8 0] : List AV)) (h3.new (.int .i64 0 :: ([.int .u8 0, .int .u8 0, .int .u8 0, .int .u8 0, .int .u8 0, .int .u8 0, .int .u8 0, .int .u8 0, .int .u8 0, .int .u8 0, .int .u8 0, .int .u8 0, .int .u8 0, .int .u8 0, .int .u8 0, .int .u8 0, .int .u8 0, .int .u8 0, .int .u8 0, .int .u8 0, .int .u8 0, .int .u8 0, .int .u8 0, .int .u8 0, .int .u8 0, .int .u8 0, .int .u8 0, .int .u8 0, .int .u8 0, .int .u8 0, .int .u8 0, .int .u8 0, .int .u8 0, .int .u8 0, .int .u8 0, .int .u8 0, .int .u8 0, .int .u8 0, .int .u8 0, .int .u8 0, .int .u8 0, .int .u8 0, .int .u8 0, .int .u8 0, .int .u8 0, .int .u8 0, .int .u8 0, .int .u8 0, .int .u8 0, .int .u8 0, .int .u8 0, .int .u8 0, .int .u8 0, .int .u8 0, .int .u8 0, .int .u8 0, .int .u8 0, .int .u8 0, .int .u8 0, .int .u8 0, .int .u8 0, .int .u8 0, .int .u8 0, .int .u8 0] : List AV))) := Box.new wf3 _
        have wfn := kn.wf wf3
        have nn : (h3.new (.int .i64 0 :: ([.int .u8 0, .int .u8 0, .int .u8 0, .int .u8 0, .int .u8 0, .int .u8 0, .int .u8 0, .int .u8 0, .int .u8 0, .int .u8 0, .int .u8 0, .int .u8 0, .int .u8 0, .int .u8 0, .int .u8 0, .int .u8 0, .int .u8 0, .int .u8 0, .int .u8 0, .int .u8 0, .int .u8 0, .int .u8 0, .int .u8 0, .int .u8 0, .int .u8 0, .int .u8 0, .int .u8 0, .int .u8 0, .int .u8 0, .int .u8 0, .int .u8 0, .int .u8 0, .int .u8 0, .int .u8 0, .int .u8 0, .int .u8 0, .int .u8 0, .int .u8 0, .int .u8 0, .int .u8 0, .int .u8 0, .int .u8 0, .int .u8 0, .int .u8 0, .int .u8 0, .int .u8 0, .int .u8 0, .int .u8 0, .int .u8 0, .int .u8 0, .int .u8 0, .int .u8 0, .int .u8 0, .int .u8 0, .int .u8 0, .int .u8 0, .int .u8 0, .int .u8 0, .int .u8 0, .int .u8 0, .int .u8 0, .int .u8 0, .int .u8 0, .int .u8 0] : List AV))).n = h3.n + 1 := rfl
        obtain ⟨h4, e4, b4', k4⟩ := bn.putAll (n := 65) (vs := wcell (wAt D.waits j)) wfn hwl (wcell_one _) (by simp)
        have k34 : Keep (Old h3.n) h3 h4 := kn.trans (k4.newbox wfn kn.n (Nat.le_refl _))
        show WS E0 f26_l9 [] _ _ _
        refine WS_of_ops ?_
        simp only [f26_r6, go_sem, ↓reduceIte, Nat.reduceEqDiff, setPs, e4]
        have wf4 := k34.wf wf3
        refine ⟨trivial, k34.weaken fun q hq => hq.2.1, ?_⟩
        intro h5 n5 k45 hbad
        have hn3 : h1.n + 1 ≤ h3.n := gi.1
        have hn4 : h3.n + 1 ≤ h4.n := by rw [← nn]; exact k4.n
        have cl5 : Clean h1.n G h5 := (cl.fresh (gi.weaken) k34 wf3).same fun q cs g e => by
          by_cases hq : q = h1.n
          · subst hq; exact absurd e (hbad _ _)
          · rwa [k45.get q hq] at e
        have wf5 := k45.wf wf4
        have k35 : Keep (Old h1.n) h3 h5 := (k34.weaken fun q hq => by have : q < h1.n := hq; show q < h3.n; omega).trans (k45.weaken fun q hq => by have : q < h1.n := hq; omega)
        have k15 := k3.trans k35
        have b35 := b31.keep k15 (b31.lt wf1)
        have b45 := b41.keep k15 (b41.lt wf1)
        have b55 := b51.keep k15 (b51.lt wf1)
        have bq : Box h3.n (wcell (wAt D.waits j)) h5 := b4'.keep k45 (by omega)
        have hw0 : (wcell (wAt D.waits j))[0]? = some (.int .i64 ((wAt D.waits j).1 : Int)) := rfl
        show WS E0 f26_l10 [] _ _ _
        refine WS_of_block (WS_of_seq (WS_of_ops ?_))
        simp only [f26_r7, go_sem, ↓reduceIte, Nat.reduceEqDiff, b35.load, List.getElem?_cons_zero, bq.load, Nat.zero_add, hw0]
        refine WS_of_cond ?_
        by_cases he : (wAt D.waits j).1 = n
        · have he' : ((wAt D.waits j).1 : Int) = (n : Int) := by omega
          have ea : sliceAA h5 1 64 none none (.ptr h3.n (0 + 1)) = some (.slice h3.n 1 64 1) := by
            simp only [sliceAA, bq.get]
            rw [if_pos (by simp [hwl])]
            simp [bounds]
          obtain ⟨h6, h7, e1, e2, c4, c5, k⟩ := ends wf5 ⟨_, b45⟩ ⟨_, b55⟩ (.slice h3.n 1 64 1) 0 rfl rfl
          simp only [go_sem, ↓reduceIte, he', decide_true, beq_self_eq_true]
          refine WS_of_seq (WS_of_ops ?_)
          simp only [f26_r8, go_sem, ↓reduceIte, Nat.reduceEqDiff, ea, e1, e2]
          refine WS_of_ret ?_
          have hfind := findS_some hj hne he
          have bq7 := bq.keepA wf5 k (by simp; omega)
          refine ⟨(its_of_groups cl5 (fun g hg => .inl (by simp at hg; omega)) k).weaken fun q hq => ⟨hq.1, by have := hq.2.1; omega, hq.2.2⟩, .inr ⟨trivial, h3.n, _, .inr ⟨Nat.le_refl _, by have := k.n; omega⟩, by rw [hfind]; exact bq7, c4, c5, by omega, ?_⟩⟩
          exact ((k0.trans (k1.weaken fun q hq => by have : q < h.n := hq; show q < _; omega)).trans (k15.weaken fun q hq => by have : q < h.n := hq; show q < _; omega)).trans (k.old wf5 (by have := k15.n; omega) (by simp; omega))
        · have he' : ¬ ((wAt D.waits j).1 : Int) = (n : Int) := by omega
          simp only [go_sem, ↓reduceIte, he', decide_false, Bool.false_eq_true]
          refine WS_of_skip ?_
          simp only [go_sem]
          refine ⟨Keep.refl _ _, k15, fun j' hj' => ?_⟩
          by_cases hx : j' = j
          · subst hx; exact he
          · exact hne j' (by omega)
      · rintro G h3 ⟨k3, hne⟩
        rw [lastXs_len] at hne
        exact .inl ⟨rfl, k3, findS_none hne⟩
      · rintro G p h3 (⟨rfl, k3, hf⟩ | ⟨rfl, q, c, hq, c1, c2, c3, hle, k3⟩)
        · have wf3 := k3.wf wf1
          have d3 := d1.keep wf1 k3
          have b33 := b31.keep k3 (b31.lt wf1)
          have b43 := b41.keep k3 (b41.lt wf1)
          have b53 := b51.keep k3 (b51.lt wf1)
          obtain ⟨p, v', e1, e2, s2, sl2⟩ := d3.ks.atCut hn (by omega) .i64
          have hcut := flat_at (f := byteCells) (es := 64) (l := D.kept) hn (fun b hb => by simp [byteCells, d3.ok.k64 b hb])
          rw [hcut] at s2
          have hk64 := d3.ok.k64 _ (List.getElem_mem hn)
          have hgd : findS D n = D.kept[n] := by rw [hf, List.getD_eq_getElem?_getD, List.getElem?_eq_getElem hn, Option.getD_some]
          rw [← hgd] at s2 hk64
          have s2' : Bytes h3 v' (findS D n) := by show Sl h3 1 v' (findS D n).length _; rw [hk64]; exact s2
          simp only [go_sem]
          refine WS_of_seq (WS_of_draw ?_)
          simp only [f26_r11, go_sem, ↓reduceIte, Nat.reduceEqDiff, and_self, true_and, List.filter_cons, List.filter_nil, Nat.testBit, Nat.reduceShiftRight, Nat.reduceAnd, Nat.reduceBNe, Bool.not_false, Bool.not_true, Bool.false_eq_true, bne_self_eq_false, Nat.zero_add, d3.box.load, List.getElem?_cons_zero, b33.load, e1, e2, eq_self]
          refine (cloneb_spec wf3 s2' (sl2 _ (d3.sk wf3)) (by omega)).mono ?_
          rintro r h4 ⟨v4, rfl, s4, o4, k4⟩
          have wf4 := k4.wf wf3
          have d4 := d3.keep wf3 k4
          have b34 := b33.keep k4 (b33.lt wf3)
          have b44 := b43.keep k4 (b43.lt wf3)
          have b54 := b53.keep k4 (b53.lt wf3)
          have hv4 := one_of_len s4.len
          obtain ⟨h5, h6, f1, f2, c4, c5, k⟩ := ends wf4 ⟨_, b44⟩ ⟨_, b54⟩ v4 0 hv4.2 hv4.1
          have wf6 := k.wf wf4
          simp only [go_sem, ↓reduceIte, Nat.reduceEqDiff, and_self, true_and, List.filter_cons, List.filter_nil, Nat.testBit, Nat.reduceShiftRight, Nat.reduceAnd, Nat.reduceBNe, Bool.not_false, Bool.not_true, Bool.false_eq_true, bne_self_eq_false, Nat.zero_add, d3.box.load, d4.box.load, List.getElem?_cons_zero, b33.load, b34.load, e1, e2, eq_self, f1, f2]
          refine WS_of_ret ?_
          simp only [f26_a, go_sem, ↓reduceIte, Nat.reduceEqDiff, c4.load, c5.load, List.getElem?_cons_zero]
          have hl1 := b4.lt wfc
          have hl2 := bc.lt wfc
          have n13 := k3.n
          have sv := o4.away (gs := [ha.n, hb.n]) wf4 (fun x hx => by
            simp only [List.mem_cons, List.not_mem_nil, or_false] at hx
            rcases hx with rfl | rfl
            · exact ⟨by omega, b44.root⟩
            · exact ⟨by omega, b54.root⟩)
          refine ⟨_, rfl, s4.keep k sv, (o4.keep sv k).less (by have := k0.n; omega), ?_⟩
          exact (((k0.trans (k1.weaken fun q hq => by have : q < h.n := hq; show q < _; omega)).trans (k3.weaken fun q hq => by have : q < h.n := hq; show q < _; omega)).trans (k4.weaken fun q hq => by have : q < h.n := hq; show q < _; omega)).trans
            (k.old wf4 (by have := k4.n; have := k0.n; omega) (by simp; omega))
        · have hl := findS_len d1.ok hn
          have hcl : (byteCells (findS D n)).length = 64 := by simp [byteCells, hl]
          have sp := c1.part (i := 1) (n := 64) (by simp [hcl])
          rw [List.drop_one, List.tail_cons, List.take_of_length_le (by omega)] at sp
          simp only [f26_a, go_sem, ↓reduceIte, Nat.reduceEqDiff, c2.load, c3.load]
          refine ⟨_, rfl, ?_, c1.own (by omega) (by simp [hcl]), k3⟩
          show Sl h3 1 _ (findS D n).length _
          rw [hl]
          exact sp
end Go.Proofs.Ytmfbememiffkjaa.Ev.C

/- No disk at all; the plain answers, one by one. -/
namespace Go.Proofs.Ytmfbememiffkjaa.Ev.C
open Go Go.Proofs.Ytmfbememiffkjaa.Ev
set_option linter.unusedSimpArgs false
set_option linter.unusedVariables false
theorem Dk.write_bad {D : Dk} {i : Int} {b : Sec} (h : D.has i = false ∨ 64 < b.length) : D.write i b = (D, 1) := by
  unfold Dk.write; rw [if_pos h]
theorem Dk.write_dead {D : Dk} {i : Int} {b : Sec} (h : D.has i = true) (hb : b.length ≤ 64) (hd : D.counted.dead = true) : D.write i b = (D.counted, 20) := by
  unfold Dk.write; rw [if_neg (by rw [h]; simp; omega), if_pos hd]
theorem Dk.write_good {D : Dk} {i : Int} {b : Sec} (h : D.has i = true) (hb : b.length ≤ 64) (hd : D.counted.dead = false) : D.write i b = ({ D.counted with waits := D.waits ++ [(i.toNat, pad b)] }, 0) := by
  unfold Dk.write; rw [if_neg (by rw [h]; simp; omega), if_neg (by rw [hd]; simp), Dk.counted_waits]
theorem Dk.counted_dead {D : Dk} : D.counted.dead = if 0 < D.armed then decide (D.armed = 1) else D.dead := by
  unfold Dk.counted; split <;> rfl
theorem Dk.counted_armed {D : Dk} : D.counted.armed = D.armed - 1 := by
  unfold Dk.counted; split
  · rfl
  · omega
theorem Dk.counted_zero {D : Dk} (h : D.armed = 0) : D.counted = D := by
  unfold Dk.counted; rw [if_neg (by omega)]
theorem Bytes.none (h : H) : Bytes h .nils [] := Sl.nil h 1
theorem flush_nil {h : H} (wf : h.Wf) : WCall E0 19 [.nilp] h fun r h' => r = .val (.int .i64 1) ∧ Keep (Old h.n) h h' := by
  refine WCall_ws (ovn 19) U19 (by simp [f19_a]) ?_
  show WS E0 f19_c [] _ _ _
  refine WS_of_seq (WS_of_ops ?_)
  simp only [f19_r0, go_sem, ↓reduceIte]
  refine WS_of_seq (WS_of_block (WS_of_seq (WS_of_ops ?_)))
  simp only [f19_r1, go_sem, ↓reduceIte, Nat.reduceEqDiff]
  refine WS_of_cond ?_
  simp only [go_sem, ↓reduceIte, Bool.false_eq_true]
  refine WS_of_seq (WS_of_ops ?_)
  simp only [f19_r2, go_sem, ↓reduceIte, Nat.reduceEqDiff]
  refine WS_of_ret ?_
  simp only [f19_a, go_sem, ↓reduceIte]
  exact ⟨trivial, Keep.refl _ _⟩
theorem write_nil {h : H} (wf : h.Wf) (i : Int) {v : AV} {bs : List UInt8} (b : Bytes h v bs) : WCall E0 17 [.nilp, .int .i64 i, v] h fun r h' => r = .val (.int .i64 1) ∧ Keep (Old h.n) h h' := by
  refine WCall_ws (ovn 17) U17 (by simp [f17_a]) ?_
  show WS E0 f17_c [] _ _ _
  refine WS_of_seq (WS_of_ops ?_)
  simp only [f17_r0, go_sem, ↓reduceIte]
  refine WS_of_seq (WS_of_block (WS_of_seq (WS_of_ops ?_)))
  simp only [f17_r1, go_sem, ↓reduceIte, Nat.reduceEqDiff]
  refine (is_nil i).mono ?_
  rintro r h' ⟨rfl, rfl⟩
  simp only [go_sem, ↓reduceIte, Nat.reduceEqDiff, Bool.not_false, Bool.true_eq_false]
  refine WS_of_cond ?_
  simp only [go_sem, ↓reduceIte]
  refine WS_of_seq (WS_of_ops ?_)
  simp only [f17_r2, go_sem, ↓reduceIte, Nat.reduceEqDiff]
  refine WS_of_ret ?_
  simp only [f17_a, go_sem, ↓reduceIte]
  exact ⟨trivial, Keep.refl _ _⟩
theorem restart_nil {h : H} (wf : h.Wf) (v : AV) : WCall E0 24 [.nilp, v] h fun r h' => r = .val .nilp ∧ Keep (Old h.n) h h' := by
  refine WCall_ws (ovn 24) U24 (by simp [f24_a]) ?_
  show WS E0 f24_c [] _ _ _
  refine WS_of_seq (WS_of_ops ?_)
  simp only [f24_r0, go_sem, ↓reduceIte]
  refine WS_of_seq (WS_of_seq (WS_of_ops ?_))
  simp only [f24_r1, go_sem, ↓reduceIte, Nat.reduceEqDiff]
  refine WS_of_cond ?_
  simp only [go_sem, ↓reduceIte, Bool.false_eq_true]
  refine WS_of_seq (WS_of_ops ?_)
  simp only [f24_r2, go_sem, ↓reduceIte, Nat.reduceEqDiff]
  refine WS_of_ret ?_
  simp only [f24_a, go_sem, ↓reduceIte]
  exact ⟨trivial, Keep.refl _ _⟩
end Go.Proofs.Ytmfbememiffkjaa.Ev.C
