/- The reference of the law 03, walked: arming, one sector put, a new disk. -/
import Derived.Test.YtmfbememiffkjaaTRef1
namespace Go.Proofs.Ytmfbememiffkjaa.Ev.C
open Go Go.Proofs.Ytmfbememiffkjaa.Ev
set_option linter.unusedSimpArgs false
set_option linter.unusedVariables false
theorem rarm_spec {h : H} {kv wv : AV} {D : Dk} (wf : h.Wf) (r : RefIs h kv wv D) (n : Int) (hn : n < 9223372036854775808) : WCall E0 22 [.agg (dcells kv wv D), .int .i64 n] h fun r h' => ∃ cs', r = .val (.agg cs') ∧ RefTo h h' kv wv cs' (D.arm n) ∧ Keep (Old h.n) h h' := by
  refine WCall_ws (ovn 22) U22 (by simp [f22_a]) ?_
  show WS E0 f22_c [] _ _ _
  refine WS_of_seq (WS_of_ops ?_)
  have k1 : Keep (Old h.n) h (h.new (dcells kv wv D)) := Keep.new (Nat.le_refl _) _
  have b1 : Box h.n (dcells kv wv D) (h.new (dcells kv wv D)) := Box.new wf _
  have n1 : (h.new (dcells kv wv D)).n = h.n + 1 := rfl
  simp only [f22_r0, go_sem, ↓reduceIte, Nat.reduceEqDiff, agg_cells]
  generalize h.new (dcells kv wv D) = h1 at k1 b1 n1 ⊢
  have wf1 := k1.wf wf
  have k2 : Keep (Old h1.n) h1 (h1.new [.nils, .nils, .int .i64 0, .bool false]) := Keep.new (Nat.le_refl _) _
  have b2 : Box h1.n [.nils, .nils, .int .i64 0, .bool false] (h1.new [.nils, .nils, .int .i64 0, .bool false]) := Box.new wf1 _
  generalize h1.new [.nils, .nils, .int .i64 0, .bool false] = h2 at k2 b2 ⊢
  have wf2 := k2.wf wf1
  have b12 := b1.keep k2 (b1.lt wf1)
  have k02 : Keep (Old h.n) h h2 := k1.trans (k2.weaken fun q hq => by have : q < h.n := hq; show q < _; omega)
  refine WS_of_seq (WS_of_seq (WS_of_ops ?_))
  cases hd : D.dead with
  | true =>
    simp only [f22_r1, go_sem, ↓reduceIte, Nat.reduceEqDiff, Nat.zero_add, b12.load, List.getElem?_cons_zero, List.getElem?_cons_succ, hd]
    refine WS_of_cond ?_
    simp only [go_sem, ↓reduceIte]
    obtain ⟨h4, e4, b4, k4⟩ := b2.putAll (n := 4) (vs := dcells kv wv D) wf2 rfl (r.all _ _) rfl
    refine WS_of_seq (WS_of_ops ?_)
    simp only [f22_r2, go_sem, ↓reduceIte, Nat.reduceEqDiff, b12.loadAgg (n := 4) rfl, e4]
    refine WS_of_ret ?_
    simp only [f22_a, go_sem, ↓reduceIte, Nat.reduceEqDiff, b4.loadAgg (n := 4) rfl]
    have k04 : Keep (Old h.n) h h4 := k02.trans (k4.newbox wf2 k02.n (by omega))
    have hD : D.arm n = D := by unfold Dk.arm; rw [if_pos hd]
    rw [hD]
    exact ⟨_, rfl, ⟨kv, wv, rfl, r.keep k04, .inl rfl, .inl rfl⟩, k04⟩
  | false =>
    simp only [f22_r1, go_sem, ↓reduceIte, Nat.reduceEqDiff, Nat.zero_add, b12.load, List.getElem?_cons_zero, List.getElem?_cons_succ, hd]
    refine WS_of_cond ?_
    simp only [go_sem, ↓reduceIte, Bool.false_eq_true]
    refine WS_of_skip ?_
    simp only [go_sem]
    have hD : D.arm n = { D with armed := n.toNat } := by unfold Dk.arm; rw [if_neg (by rw [hd]; simp)]
    -- the end
    have fin' : ∀ {s : S}, s 1 = .int .i64 (n.toNat : Int) → s 2 = .ptr h.n 0 → s 4 = .ptr h1.n 0 → WS E0 (.seq (.ops f22_r5) (.seq (.ops f22_r6) .ret)) [] (atEnd f22_a.results fun r h' => ∃ cs', r = .val (.agg cs') ∧ RefTo h h' kv wv cs' (D.arm n) ∧ Keep (Old h.n) h h') s h2 := by
      intro s s1 s2 s4
      obtain ⟨h3, e3, b3, k3⟩ := b12.put wf2 (i := 2) (n := 1) (v := .int .i64 (n.toNat : Int)) rfl rfl (by simp)
      have wf3 := k3.wf wf2
      have b23 := b2.keepA wf2 k3 (by simp; omega)
      have hs3 : splice (dcells kv wv D) 2 (AV.int .i64 (n.toNat : Int)).cells = dcells kv wv { D with armed := n.toNat } := rfl
      rw [hs3] at b3
      refine WS_of_seq (WS_of_ops ?_)
      simp only [f22_r5, go_sem, ↓reduceIte, Nat.reduceEqDiff, Nat.zero_add, s1, s2, e3]
      obtain ⟨h4, e4, b4, k4⟩ := b23.putAll (n := 4) (vs := dcells kv wv { D with armed := n.toNat }) wf3 rfl (r.all _ _) rfl
      refine WS_of_seq (WS_of_ops ?_)
      simp only [f22_r6, go_sem, ↓reduceIte, Nat.reduceEqDiff, s2, s4, b3.loadAgg (n := 4) rfl, e4]
      refine WS_of_ret ?_
      simp only [f22_a, go_sem, ↓reduceIte, Nat.reduceEqDiff, s4, b4.loadAgg (n := 4) rfl]
      have k03 : Keep (Old h.n) h h3 := k02.trans (k3.newbox wf2 k02.n (by omega))
      have k04 : Keep (Old h.n) h h4 := k03.trans (k4.newbox wf3 k03.n (by omega))
      have r4 := r.keep k04
      refine ⟨_, rfl, ⟨kv, wv, by rw [hD], ?_, .inl rfl, .inl rfl⟩, k04⟩
      have := r.ok.arm' (n := n) hn
      rw [hD] at this ⊢
      exact ⟨r4.ks, r4.sk, r4.ws, r4.sw, this, fun x => by simp only [hd] at x; cases x⟩
    refine WS_of_seq (WS_of_seq (WS_of_ops ?_))
    by_cases c : n < 0
    · simp only [f22_r3, go_sem, ↓reduceIte, Nat.reduceEqDiff, c, decide_true]
      refine WS_of_cond ?_
      simp only [go_sem, ↓reduceIte]
      refine WS_of_ops ?_
      simp only [f22_r4, go_sem, ↓reduceIte, Nat.reduceEqDiff]
      exact fin' (by rw [Int.toNat_of_nonpos (by omega)]; rfl) rfl rfl
    · simp only [f22_r3, go_sem, ↓reduceIte, Nat.reduceEqDiff, c, decide_false]
      refine WS_of_cond ?_
      simp only [go_sem, ↓reduceIte, Bool.false_eq_true]
      refine WS_of_skip ?_
      simp only [go_sem]
      exact fin' (by rw [Int.toNat_of_nonneg (by omega)]; rfl) rfl rfl

/-- one sector put -/
theorem rput_spec {h : H} {kv : AV} {K : List Sec} {w : Nat × Sec} (wf : h.Wf) (ks : Strs h kv K) (sk : Slot (Old h.n) h kv) (hK : K.length < 1000000) :
    WCall E0 47 [kv, .agg (rcell w)] h fun r h' => ∃ v, r = .val v ∧ Strs h' v (putS K w) ∧ Own h.n h' v ∧ Keep (Old h.n) h h' := by
  refine WCall_ws (ovn 47) U47 (by simp [f47_a]) ?_
  show WS E0 f47_c [] _ _ _
  refine WS_of_seq (WS_of_ops ?_)
  have k1 : Keep (Old h.n) h (h.new (rcell w)) := Keep.new (Nat.le_refl _) _
  have b1 : Box h.n (rcell w) (h.new (rcell w)) := Box.new wf _
  have n1 : (h.new (rcell w)).n = h.n + 1 := rfl
  simp only [f47_r0, go_sem, ↓reduceIte, Nat.reduceEqDiff, agg_cells]
  generalize h.new (rcell w) = h1 at k1 b1 n1 ⊢
  have wf1 := k1.wf wf
  refine WS_of_seq (WS_of_ops ?_)
  simp only [f47_r1, go_sem, ↓reduceIte, Nat.reduceEqDiff]
  refine WS_of_seq (WS_of_seq (WS_of_ops ?_))
  simp only [f47_r2, go_sem, ↓reduceIte, Nat.reduceEqDiff]
  refine WS_of_block (WS_of_loop (fun m s h2 => ∃ j v, j + m = K.length ∧ s 6 = .int .i64 (j : Int) ∧ s 0 = kv ∧ s 3 = .ptr h.n 0 ∧ s 5 = v ∧ Strs h2 v ((putS K w).take j) ∧ Own h1.n h2 v ∧ Keep (Old h1.n) h1 h2) ?_ K.length ?_)
  · rintro m s h2 ⟨j, v, hjm, s6, s0, s3, s5, sv, ov, k2⟩
    show WS E0 f47_l8 [] _ _ _
    have wf2 := k2.wf wf1
    have k02 : Keep (Old h.n) h h2 := k1.trans (k2.weaken fun q hq => by have : q < h.n := hq; show q < _; omega)
    have ks2 := ks.keep k02 sk
    have b2 := b1.keep k2 (b1.lt wf1)
    refine WS_of_seq (WS_of_seq (WS_of_ops ?_))
    by_cases c : j < K.length
    · have c' : (j : Int) < (K.length : Int) := by omega
      simp only [f47_r3, go_sem, ↓reduceIte, Nat.reduceEqDiff, s6, s0, ks.len, c', decide_true]
      refine WS_of_cond ?_
      simp only [go_sem, ↓reduceIte]
      refine WS_of_skip ?_
      simp only [go_sem]
      have hw : IntKind.i64.wrap ((j : Int) + 1) = ((j + 1 : Nat) : Int) := by rw [wrap_i64 (by omega) (by omega)]; omega
      have l0 : loadA h2 false 1 (.ptr h.n 0) = some (.int .i64 (w.1 : Int)) := by rw [b2.load]; rfl
      have l1 : loadA h2 false 1 (.ptr h.n 1) = some (.str w.2) := by rw [b2.load]; rfl
      have hpl : j < (putS K w).length := by rw [putS_len]; exact c
      have htk : (putS K w).take (j + 1) = (putS K w).take j ++ [(putS K w)[j]] := (List.take_append_getElem hpl).symm
      have hvl : ((putS K w).take j).length = j := by rw [List.length_take]; omega
      -- an append
      have app : ∀ (x : Sec), (putS K w)[j] = x → ∃ v' h4, afill (zeros [AV.str []] (1 * 1)) [(0, 1, AV.str x)] = some [.str x] ∧ appendA (h2.new [.str x]) 1 v (.slice h2.n 0 1 1) = some (v', h4) ∧ Strs h4 v' ((putS K w).take (j + 1)) ∧ Own h1.n h4 v' ∧ Keep (Old h1.n) h1 h4 := by
        intro x hx
        have kn : Keep (Old h2.n) h2 (h2.new [.str x]) := Keep.new (Nat.le_refl _) _
        have sn : Strs (h2.new [.str x]) (.slice h2.n 0 1 1) [x] := Strs.one wf2 x
        have wfn := kn.wf wf2
        have slv := ov.slot wf2
        obtain ⟨v', h4, e4, s4, o4, k4⟩ := Strs.app (N := h1.n) wfn (Nat.le_trans k2.n kn.n) (sv.keep kn slv) (ov.keep slv kn) sn (by rw [hvl]; simp; omega)
        refine ⟨v', h4, rfl, e4, ?_, o4, (k2.trans (kn.weaken fun q hq => Nat.lt_of_lt_of_le hq k2.n)).trans k4⟩
        rw [htk, hx]
        exact s4
      refine WS_of_seq (WS_of_block (WS_of_seq (WS_of_ops ?_)))
      simp only [f47_r4, go_sem, ↓reduceIte, Nat.reduceEqDiff, Nat.zero_add, s6, s3, l0]
      refine WS_of_cond ?_
      by_cases ce : w.1 = j
      · have ce' : (j : Int) = (w.1 : Int) := by omega
        obtain ⟨v', h4, ef, e4, s4, o4, k4⟩ := app w.2 (by simp [putS, ce])
        simp only [go_sem, ↓reduceIte, ce', decide_true]
        refine WS_of_ops ?_
        simp only [f47_r5, go_sem, ↓reduceIte, Nat.reduceEqDiff, Nat.zero_add, s3, s5, l1, ef, e4]
        refine WS_of_ops ?_
        rw [← ce'] at *
        simp only [f47_r7, go_sem, ↓reduceIte, Nat.reduceEqDiff, s6, hw]
        exact ⟨m - 1, by omega, j + 1, v', by omega, rfl, s0, s3, rfl, s4, o4, k4⟩
      · have ce' : ¬ (j : Int) = (w.1 : Int) := by omega
        obtain ⟨v', h4, ef, e4, s4, o4, k4⟩ := app K[j] (by simp [putS, List.getElem_set, ce])
        obtain ⟨p, ep, lp⟩ := ks2.at c .i64
        simp only [go_sem, ↓reduceIte, ce', decide_false, Bool.false_eq_true]
        refine WS_of_ops ?_
        simp only [f47_r6, go_sem, ↓reduceIte, Nat.reduceEqDiff, s0, s3, s5, s6, ep, lp, ef, e4]
        refine WS_of_ops ?_
        simp only [f47_r7, go_sem, ↓reduceIte, Nat.reduceEqDiff, s6, hw]
        exact ⟨m - 1, by omega, j + 1, v', by omega, rfl, s0, s3, rfl, s4, o4, k4⟩
    · have c' : ¬ (j : Int) < (K.length : Int) := by omega
      obtain rfl : j = K.length := by omega
      simp only [f47_r3, go_sem, ↓reduceIte, Nat.reduceEqDiff, s6, s0, ks.len, c', decide_false]
      refine WS_of_cond ?_
      simp only [go_sem, ↓reduceIte, Bool.false_eq_true]
      refine WS_of_exit ?_
      simp only [go_sem, ↓reduceIte]
      refine WS_of_seq (WS_of_ops ?_)
      simp only [f47_r9, go_sem, ↓reduceIte, Nat.reduceEqDiff, s5]
      refine WS_of_ret ?_
      simp only [f47_a, go_sem, ↓reduceIte, Nat.reduceEqDiff]
      rw [List.take_of_length_le (by rw [putS_len]; exact Nat.le_refl _)] at sv
      exact ⟨_, rfl, sv, ov.less (by omega), k02⟩
  · exact ⟨0, .nils, by omega, rfl, rfl, rfl, rfl, Strs.nil _, trivial, Keep.refl _ _⟩
end Go.Proofs.Ytmfbememiffkjaa.Ev.C
