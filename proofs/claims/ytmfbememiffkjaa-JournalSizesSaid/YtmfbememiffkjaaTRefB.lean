/- The reference of the law 03, walked: a flush, a restart, a read. -/
import Derived.Test.YtmfbememiffkjaaTRefA
namespace Go.Proofs.Ytmfbememiffkjaa.Ev.C
open Go Go.Proofs.Ytmfbememiffkjaa.Ev
set_option linter.unusedSimpArgs false
set_option linter.unusedVariables false
theorem waits_get {h : H} {wv : AV} {ws : List (Nat × Sec)} (s : Sl h 2 wv ws.length (rcells ws)) {j : Nat} (hj : j < ws.length) :
    ∃ o q, indexAddrA 2 wv (.int .i64 (j : Int)) = some (.ptr o q) ∧ ∀ h', Sl h' 2 wv ws.length (rcells ws) → loadA h' true 2 (.ptr o q) = some (.agg (rcell ws[j])) ∧ loadA h' false 1 (.ptr o (q + 0)) = some (.int .i64 (ws[j].1 : Int)) ∧ loadA h' false 1 (.ptr o (q + 1)) = some (.str ws[j].2) := by
  obtain ⟨o, i, row, rfl, ea, _, _, _⟩ := s.addr hj (by decide) .i64
  refine ⟨o, _, ea, fun h' s' => ?_⟩
  obtain ⟨o', i', row', eo, ea', hrow, hle, hcs⟩ := s'.addr hj (by decide) .i64
  cases eo
  have hm := mul_in (es := 2) hj
  have hc := flat_at (f := rcell) (es := 2) (l := ws) hj (fun _ _ => rfl)
  rw [show ws.flatMap rcell = (row'.drop i).take (ws.length * 2) from hcs, cut_in hj] at hc
  have hget : ∀ f, f < 2 → row'[i + j * 2 + f]? = (rcell ws[j])[f]? := by
    intro f hf
    rw [← hc, List.getElem?_take, if_pos hf, List.getElem?_drop]
  refine ⟨?_, ?_, ?_⟩
  · simp only [loadA, hrow, if_true]
    rw [if_pos (by omega), hc]
  · simp only [loadA, hrow, Bool.false_eq_true, if_false]
    rw [hget 0 (by decide)]; rfl
  · simp only [loadA, hrow, Bool.false_eq_true, if_false]
    rw [hget 1 (by decide)]; rfl
def fnd (ws : List (Nat × Sec)) (K : List Sec) (n : Nat) : Sec := match ws.reverse.find? (fun w => w.1 == n) with | some w => w.2 | none => K.getD n []
theorem fnd_succ {ws : List (Nat × Sec)} {K : List Sec} {n j : Nat} (hj : j < ws.length) : fnd (ws.take (j + 1)) K n = if ws[j].1 = n then ws[j].2 else fnd (ws.take j) K n := by
  unfold fnd
  rw [← List.take_append_getElem hj, List.reverse_append, List.reverse_singleton, List.singleton_append, List.find?_cons]
  by_cases c : ws[j].1 = n
  · simp [c]
  · have : (ws[j].1 == n) = false := by simpa using c
    rw [this, if_neg c]
theorem rread_spec {h : H} {kv wv : AV} {D : Dk} (wf : h.Wf) (r : RefIs h kv wv D) (i : Int) (hw : D.waits.length < 1000000) (hkl : D.kept.length < 1000000) :
    WCall E0 27 [.agg (dcells kv wv D), .int .i64 i] h fun r h' => r = .val (.tup [.str (D.read i).1, .int .i64 ((D.read i).2 : Int)]) ∧ Keep (Old h.n) h h' := by
  refine WCall_ws (ovn 27) U27 (by simp [f27_a]) ?_
  show WS E0 f27_c [] _ _ _
  refine WS_of_seq (WS_of_ops ?_)
  have k1 : Keep (Old h.n) h (h.new (dcells kv wv D)) := Keep.new (Nat.le_refl _) _
  have b1 : Box h.n (dcells kv wv D) (h.new (dcells kv wv D)) := Box.new wf _
  simp only [f27_r0, go_sem, ↓reduceIte, Nat.reduceEqDiff, agg_cells]
  generalize h.new (dcells kv wv D) = h1 at k1 b1 ⊢
  have wf1 := k1.wf wf
  have r1 := r.keep k1
  have hks : lenSA kv = some D.kept.length := r.ks.len
  refine WS_of_seq (WS_of_seq (WS_of_ops ?_))
  have hasL : D.has i = (decide (0 ≤ i) && decide (i < (D.kept.length : Int))) := rfl
  have bad : D.has i = false → ∀ {k : List Fr1} {s : S}, WS E0 (.seq (.ops f27_r2) .ret) k (atEnd f27_a.results fun r h' => r = .val (.tup [.str (D.read i).1, .int .i64 ((D.read i).2 : Int)]) ∧ Keep (Old h.n) h h') s h1 := by
    intro hc k s
    refine WS_of_seq (WS_of_ops ?_)
    simp only [f27_r2, go_sem, ↓reduceIte, Nat.reduceEqDiff]
    refine WS_of_ret ?_
    have hr : D.read i = ([], 1) := by simp [Dk.read, hc]
    simp only [f27_a, go_sem, ↓reduceIte, Nat.reduceEqDiff, hr]
    exact ⟨rfl, k1⟩
  by_cases c1 : i < 0
  · simp only [f27_r1, go_sem, ↓reduceIte, Nat.reduceEqDiff, c1, decide_true, Bool.true_eq_false]
    refine WS_of_cond ?_
    simp only [go_sem, ↓reduceIte]
    exact bad (by rw [hasL]; simp; omega)
  by_cases c2 : (D.kept.length : Int) ≤ i
  · simp only [f27_r1, go_sem, ↓reduceIte, Nat.reduceEqDiff, Nat.zero_add, b1.load, List.getElem?_cons_zero, hks, c1, c2, decide_true, decide_false, Bool.true_eq_false, Bool.false_eq_true]
    refine WS_of_cond ?_
    simp only [go_sem, ↓reduceIte]
    exact bad (by rw [hasL]; simp; omega)
  have hh : D.has i = true := by rw [hasL]; simp; omega
  obtain ⟨n, rfl, hn⟩ := has_iff.1 hh
  simp only [f27_r1, go_sem, ↓reduceIte, Nat.reduceEqDiff, Nat.zero_add, b1.load, List.getElem?_cons_zero, hks, c1, c2, decide_true, decide_false, Bool.true_eq_false, Bool.false_eq_true]
  refine WS_of_cond ?_
  simp only [go_sem, ↓reduceIte, Bool.false_eq_true]
  refine WS_of_skip ?_
  simp only [go_sem]
  refine WS_of_seq (WS_of_seq (WS_of_ops ?_))
  cases hd : D.dead with
  | true =>
    simp only [f27_r3, go_sem, ↓reduceIte, Nat.reduceEqDiff, Nat.zero_add, b1.load, List.getElem?_cons_zero, List.getElem?_cons_succ, hd]
    refine WS_of_cond ?_
    simp only [go_sem, ↓reduceIte]
    refine WS_of_seq (WS_of_ops ?_)
    simp only [f27_r4, go_sem, ↓reduceIte, Nat.reduceEqDiff]
    refine WS_of_ret ?_
    have hr : D.read (n : Int) = ([], 20) := by simp [Dk.read, hh, hd]
    simp only [f27_a, go_sem, ↓reduceIte, Nat.reduceEqDiff, hr]
    exact ⟨rfl, k1⟩
  | false =>
    simp only [f27_r3, go_sem, ↓reduceIte, Nat.reduceEqDiff, Nat.zero_add, b1.load, List.getElem?_cons_zero, List.getElem?_cons_succ, hd]
    refine WS_of_cond ?_
    simp only [go_sem, ↓reduceIte, Bool.false_eq_true]
    refine WS_of_skip ?_
    simp only [go_sem]
    have hr : D.read (n : Int) = (fnd D.waits D.kept n, 0) := by simp [Dk.read, hh, hd]; rfl
    rw [hr]
    obtain ⟨p, ep, lp⟩ := r1.ks.at hn .i64
    refine WS_of_seq (WS_of_ops ?_)
    simp only [f27_r5, go_sem, ↓reduceIte, Nat.reduceEqDiff, Nat.zero_add, b1.load, List.getElem?_cons_zero, ep, lp]
    refine WS_of_seq (WS_of_seq (WS_of_ops ?_))
    simp only [f27_r6, go_sem, ↓reduceIte, Nat.reduceEqDiff]
    refine WS_of_block (WS_of_loop (fun m s h2 => ∃ j, j + m = D.waits.length ∧ s 7 = .int .i64 (j : Int) ∧ s 1 = .int .i64 (n : Int) ∧ s 2 = .ptr h.n 0 ∧ s 6 = .str (fnd (D.waits.take j) D.kept n) ∧ h2 = h1) ?_ D.waits.length ?_)
    · rintro m s h2 ⟨j, hjm, s7, s1, s2, s6, rfl⟩
      show WS E0 f27_l11 [] _ _ _
      have hws := r1.ws.len
      refine WS_of_seq (WS_of_seq (WS_of_ops ?_))
      by_cases c : j < D.waits.length
      · have c' : (j : Int) < (D.waits.length : Int) := by omega
        simp only [f27_r7, go_sem, ↓reduceIte, Nat.reduceEqDiff, Nat.zero_add, b1.load, List.getElem?_cons_zero, List.getElem?_cons_succ, s7, s2, hws, c', decide_true]
        refine WS_of_cond ?_
        simp only [go_sem, ↓reduceIte]
        refine WS_of_skip ?_
        simp only [go_sem]
        obtain ⟨o, q, ea, ld⟩ := waits_get r1.ws c
        obtain ⟨l1, l2, l3⟩ := ld _ r1.ws
        have hw : IntKind.i64.wrap ((j : Int) + 1) = ((j + 1 : Nat) : Int) := by rw [wrap_i64 (by omega) (by omega)]; omega
        have hfs := fnd_succ (K := D.kept) (n := n) c
        refine WS_of_seq (WS_of_block (WS_of_seq (WS_of_ops ?_)))
        simp only [f27_r8, go_sem, ↓reduceIte, Nat.reduceEqDiff, Nat.zero_add, b1.load, List.getElem?_cons_zero, List.getElem?_cons_succ, s7, s2, s1, ea, l2]
        refine WS_of_cond ?_
        by_cases ce : D.waits[j].1 = n
        · have ce' : (D.waits[j].1 : Int) = (n : Int) := by omega
          rw [if_pos ce] at hfs
          simp only [go_sem, ↓reduceIte, ce', decide_true]
          refine WS_of_ops ?_
          simp only [f27_r9, go_sem, ↓reduceIte, Nat.reduceEqDiff, Nat.zero_add, b1.load, List.getElem?_cons_zero, List.getElem?_cons_succ, s7, s2, s1, ea, l3]
          refine WS_of_ops ?_
          simp only [f27_r10, go_sem, ↓reduceIte, Nat.reduceEqDiff, s7, hw]
          exact ⟨m - 1, by omega, j + 1, by omega, rfl, s1, s2, by rw [hfs], trivial⟩
        · have ce' : ¬ (D.waits[j].1 : Int) = (n : Int) := by omega
          rw [if_neg ce] at hfs
          simp only [go_sem, ↓reduceIte, ce', decide_false, Bool.false_eq_true]
          refine WS_of_skip ?_
          simp only [go_sem]
          refine WS_of_ops ?_
          simp only [f27_r10, go_sem, ↓reduceIte, Nat.reduceEqDiff, s7, hw]
          exact ⟨m - 1, by omega, j + 1, by omega, rfl, s1, s2, by rw [hfs]; exact s6, trivial⟩
      · have c' : ¬ (j : Int) < (D.waits.length : Int) := by omega
        obtain rfl : j = D.waits.length := by omega
        rw [List.take_length] at s6
        simp only [f27_r7, go_sem, ↓reduceIte, Nat.reduceEqDiff, Nat.zero_add, b1.load, List.getElem?_cons_zero, List.getElem?_cons_succ, s7, s2, hws, c', decide_false]
        refine WS_of_cond ?_
        simp only [go_sem, ↓reduceIte, Bool.false_eq_true]
        refine WS_of_exit ?_
        simp only [go_sem, ↓reduceIte]
        refine WS_of_seq (WS_of_ops ?_)
        simp only [f27_r12, go_sem, ↓reduceIte, Nat.reduceEqDiff, s6]
        refine WS_of_ret ?_
        simp only [f27_a, go_sem, ↓reduceIte, Nat.reduceEqDiff]
        exact ⟨rfl, k1⟩
    · refine ⟨0, by omega, rfl, rfl, rfl, ?_, rfl⟩
      have : fnd (D.waits.take 0) D.kept n = D.kept[n] := by
        show D.kept.getD n [] = _
        rw [List.getD_eq_getElem?_getD, List.getElem?_eq_getElem hn, Option.getD_some]
      rw [this]
      rfl

/-- what a flush's or a restart's loop keeps: the sectors so far in a box -/
structure PutI (h h2 : H) (r1 r2 : Nat) (kv0 wv : AV) (K : List Sec) (a : Nat) (dd : Bool) (rest : AV) : Prop where
  ex : ∃ kv, Box r1 [kv, rest, .int .i64 (a : Int), .bool dd] h2 ∧ Strs h2 kv K ∧ Slot (Apart [r1, r2] h2) h2 kv ∧ (kv = kv0 ∨ Own h.n h2 kv)
  b2 : ∃ x, Box r2 x h2 ∧ x.length = 4
  k : Keep (Old h.n) h h2
theorem apart_less {gs gs' : List Nat} {h : H} {v : AV} (s : Slot (Apart gs h) h v) (hs : ∀ g ∈ gs', g ∈ gs) : Slot (Apart gs' h) h v :=
  s.mono fun o ho => ⟨ho.1, fun hm => ho.2.1 (hs _ hm), fun cs g e hm => ho.2.2 cs g e (hs _ hm)⟩
theorem rflush_spec {h : H} {kv wv : AV} {D : Dk} (wf : h.Wf) (r : RefIs h kv wv D) (hw : D.waits.length < 1000000) (hkl : D.kept.length < 1000000) :
    WCall E0 20 [.agg (dcells kv wv D)] h fun r h' => ∃ cs', r = .val (.tup [.agg cs', .int .i64 (D.flush.2 : Int)]) ∧ RefTo h h' kv wv cs' D.flush.1 ∧ Keep (Old h.n) h h' := by
  refine WCall_ws (ovn 20) U20 (by simp [f20_a]) ?_
  show WS E0 f20_c [] _ _ _
  refine WS_of_seq (WS_of_ops ?_)
  have k1 : Keep (Old h.n) h (h.new (dcells kv wv D)) := Keep.new (Nat.le_refl _) _
  have b1 : Box h.n (dcells kv wv D) (h.new (dcells kv wv D)) := Box.new wf _
  have n1 : (h.new (dcells kv wv D)).n = h.n + 1 := rfl
  simp only [f20_r0, go_sem, ↓reduceIte, Nat.reduceEqDiff, agg_cells]
  generalize h.new (dcells kv wv D) = h1 at k1 b1 n1 ⊢
  have wf1 := k1.wf wf
  have k2 : Keep (Old h1.n) h1 (h1.new [.nils, .nils, .int .i64 0, .bool false]) := Keep.new (Nat.le_refl _) _
  have b2 : Box h1.n [.nils, .nils, .int .i64 0, .bool false] (h1.new [.nils, .nils, .int .i64 0, .bool false]) := Box.new wf1 _
  generalize h1.new [.nils, .nils, .int .i64 0, .bool false] = h2 at k2 b2 ⊢
  have wf2 := k2.wf wf1
  have b12 := b1.keep k2 (b1.lt wf1)
  have k02 : Keep (Old h.n) h h2 := k1.trans (k2.weaken fun q hq => by have : q < h.n := hq; show q < _; omega)
  have r2 := r.keep k02
  have slots : ∀ {h3 : H} (wf3 : h3.Wf) (k03 : Keep (Old h.n) h h3), Slot (Apart [h.n, h1.n] h3) h3 kv ∧ Slot (Apart [h.n, h1.n] h3) h3 wv := fun wf3 k03 =>
    ⟨(r.sk.keep k03 fun q hq => hq).apart wf3 k03.n (by simp; omega), (r.sw.keep k03 fun q hq => hq).apart wf3 k03.n (by simp; omega)⟩
  -- what stands in the first box is given back
  have give : ∀ {h3 : H} {kv' wv' : AV} {D' : Dk} (wf3 : h3.Wf) (bb : Box h.n (dcells kv' wv' D') h3) (rr : RefIs h3 kv' wv' D') (sa : Slot (Apart [h.n, h1.n] h3) h3 kv') (sb : Slot (Apart [h.n, h1.n] h3) h3 wv') (fk : kv' = kv ∨ Own h.n h3 kv') (fw : wv' = wv ∨ Own h.n h3 wv') (bx : ∃ x, Box h1.n x h3 ∧ x.length = 4) (k03 : Keep (Old h.n) h h3),
      ∃ h4, loadA h3 true 4 (.ptr h.n 0) = some (.agg (dcells kv' wv' D')) ∧ storeA h3 4 (.ptr h1.n 0) (.agg (dcells kv' wv' D')) = some h4 ∧ loadA h4 true 4 (.ptr h1.n 0) = some (.agg (dcells kv' wv' D')) ∧ RefTo h h4 kv wv (dcells kv' wv' D') D' ∧ Keep (Old h.n) h h4 := by
    rintro h3 kv' wv' D' wf3 bb rr sa sb fk fw ⟨x, bx, hx⟩ k03
    obtain ⟨h4, e4, b4, k4⟩ := bx.putAll (n := 4) (vs := dcells kv' wv' D') wf3 rfl (rr.all _ _) hx.symm
    have kb := bb.lt wf3
    have sa' := apart_less (gs' := [h1.n]) sa (by simp)
    have sb' := apart_less (gs' := [h1.n]) sb (by simp)
    exact ⟨h4, bb.loadAgg rfl, e4, b4.loadAgg rfl, ⟨kv', wv', rfl, ⟨rr.ks.keep k4 sa', (sa'.keepA k4).old, rr.ws.keep k4 sb', (sb'.keepA k4).old, rr.ok, rr.da⟩, fk.imp id (fun o => o.keep sa' k4), fw.imp id (fun o => o.keep sb' k4)⟩, k03.trans (k4.newbox wf3 k03.n (by omega))⟩
  refine WS_of_seq (WS_of_ops ?_)
  simp only [f20_r1, go_sem, ↓reduceIte, Nat.reduceEqDiff, b12.loadAgg (n := 4) rfl]
  refine (rcounted_spec wf2 r2).mono ?_
  rintro rr h3 ⟨rfl, k3⟩
  have wf3 := k3.wf wf2
  have k03 : Keep (Old h.n) h h3 := k02.trans (k3.weaken fun q hq => by have : q < h.n := hq; have := k02.n; show q < _; omega)
  have b13 := b12.keep k3 (b12.lt wf2)
  have b23 := b2.keep k3 (b2.lt wf2)
  have r3 := (r.keep k03).counted
  obtain ⟨h4, e4, b4, k4⟩ := b13.putAll (n := 4) (vs := dcells kv wv D.counted) wf3 rfl (r3.all _ _) rfl
  have wf4 := k4.wf wf3
  have k04 : Keep (Old h.n) h h4 := k03.trans (k4.newbox wf3 k03.n (Nat.le_refl _))
  have b24 := b23.keepA wf3 k4 (by simp; omega)
  have r4 := (r.keep k04).counted
  simp only [go_sem, ↓reduceIte, Nat.reduceEqDiff, e4]
  refine WS_of_seq (WS_of_seq (WS_of_ops ?_))
  cases hd : D.counted.dead with
  | true =>
    simp only [f20_r2, go_sem, ↓reduceIte, Nat.reduceEqDiff, Nat.zero_add, b4.load, List.getElem?_cons_zero, List.getElem?_cons_succ, hd]
    refine WS_of_cond ?_
    simp only [go_sem, ↓reduceIte]
    obtain ⟨sa, sb⟩ := slots wf4 k04
    obtain ⟨h5, f1, f2, f3, rr, k5⟩ := give wf4 b4 r4 sa sb (.inl rfl) (.inl rfl) ⟨_, b24, rfl⟩ k04
    refine WS_of_seq (WS_of_ops ?_)
    simp only [f20_r3, go_sem, ↓reduceIte, Nat.reduceEqDiff, f1, f2]
    refine WS_of_ret ?_
    simp only [f20_a, go_sem, ↓reduceIte, Nat.reduceEqDiff, f3]
    have hf : D.flush = (D.counted, 20) := by unfold Dk.flush; rw [if_pos hd]
    rw [hf]
    exact ⟨_, rfl, rr, k5⟩
  | false =>
    simp only [f20_r2, go_sem, ↓reduceIte, Nat.reduceEqDiff, Nat.zero_add, b4.load, List.getElem?_cons_zero, List.getElem?_cons_succ, hd]
    refine WS_of_cond ?_
    simp only [go_sem, ↓reduceIte, Bool.false_eq_true]
    refine WS_of_skip ?_
    simp only [go_sem]
    refine WS_of_seq (WS_of_seq (WS_of_ops ?_))
    simp only [f20_r4, go_sem, ↓reduceIte, Nat.reduceEqDiff]
    have hcw := Dk.counted_waits D
    have hck := Dk.counted_kept D
    have hrw : ∀ {h5 : H}, Keep (Old h.n) h h5 → Sl h5 2 wv D.waits.length (rcells D.waits) := fun k => r.ws.keep k r.sw
    have hlt1 := b4.lt wf4
    refine WS_of_block (WS_of_loop (fun m s h5 => ∃ j, j + m = D.waits.length ∧ s 4 = .int .i64 (j : Int) ∧ s 1 = .ptr h.n 0 ∧ s 2 = .ptr h1.n 0 ∧ PutI h h5 h.n h1.n kv wv ((D.waits.take j).foldl putS D.kept) D.counted.armed false wv ∧ h1.n + 1 ≤ h5.n) ?_ D.waits.length ?_)
    · rintro m s h5 ⟨j, hjm, s4, s1, s2, ⟨⟨kvj, bb, sk, ak, fk⟩, ⟨x, bx, hx⟩, k⟩, hle⟩
      show WS E0 f20_l8 [] _ _ _
      have wf5 := k.wf wf
      have rw5 := hrw k
      refine WS_of_seq (WS_of_seq (WS_of_ops ?_))
      by_cases c : j < D.waits.length
      · have c' : (j : Int) < (D.waits.length : Int) := by omega
        simp only [f20_r5, go_sem, ↓reduceIte, Nat.reduceEqDiff, Nat.zero_add, bb.load, List.getElem?_cons_zero, List.getElem?_cons_succ, s4, s1, rw5.len, c', decide_true]
        refine WS_of_cond ?_
        simp only [go_sem, ↓reduceIte]
        refine WS_of_skip ?_
        simp only [go_sem]
        obtain ⟨o, q, ea, ld⟩ := waits_get rw5 c
        obtain ⟨l1, -, -⟩ := ld _ rw5
        have hKl : ((D.waits.take j).foldl putS D.kept).length = D.kept.length := by
          have := (foldS_ok (ws := D.waits.take j) r.ok.k64 (fun w hw => (r.ok.w w (List.mem_of_mem_take hw)).2)).1
          exact this
        refine WS_of_seq (WS_of_block (WS_of_draw ?_))
        simp only [f20_r6, go_sem, ↓reduceIte, Nat.reduceEqDiff, and_self, true_and, List.filter_cons, List.filter_nil, Nat.testBit, Nat.reduceShiftRight, Nat.reduceAnd, Nat.reduceBNe, Bool.not_false, Bool.not_true, Bool.false_eq_true, bne_self_eq_false, eq_self, Nat.zero_add, bb.load, List.getElem?_cons_zero, List.getElem?_cons_succ, s4, s1, ea, l1]
        refine (rput_spec wf5 sk ak.old (by rw [hKl]; exact hkl)).mono ?_
        rintro rr h6 ⟨v6, rfl, sk6, o6, k6⟩
        have wf6 := k6.wf wf5
        have k06 : Keep (Old h.n) h h6 := k.trans (k6.weaken fun q hq => Nat.lt_of_lt_of_le hq k.n)
        have b6 := bb.keep k6 (bb.lt wf5)
        have bx6 := bx.keep k6 (bx.lt wf5)
        have hv6 := one_of_len sk6.len
        obtain ⟨h7, e7, b7, k7⟩ := b6.put wf6 (i := 0) (n := 1) (v := v6) (by rw [hv6.2]; rfl) (by rw [hv6.2]; simp [hv6.1]) (by simp)
        have hs7 : splice [kvj, wv, .int .i64 (D.counted.armed : Int), .bool false] 0 v6.cells = [v6, wv, .int .i64 (D.counted.armed : Int), .bool false] := by rw [hv6.2]; rfl
        rw [hs7] at b7
        have rw6 := hrw k06
        obtain ⟨l1', -, -⟩ := ld _ rw6
        have a6 : Slot (Apart [h.n, h1.n] h6) h6 v6 := o6.away wf6 fun g hg => by
          simp only [List.mem_cons, List.not_mem_nil, or_false] at hg
          rcases hg with rfl | rfl
          · exact ⟨by omega, b6.root⟩
          · exact ⟨by omega, bx6.root⟩
        have a6' := apart_less (gs' := [h.n]) a6 (by simp)
        have bx7 := bx6.keepA wf6 k7 (by simp; omega)
        have wf7 := k7.wf wf6
        simp only [go_sem, ↓reduceIte, Nat.reduceEqDiff, and_self, true_and, List.filter_cons, List.filter_nil, Nat.testBit, Nat.reduceShiftRight, Nat.reduceAnd, Nat.reduceBNe, Bool.not_false, Bool.not_true, Bool.false_eq_true, bne_self_eq_false, eq_self, Nat.zero_add, bb.load, b6.load, List.getElem?_cons_zero, List.getElem?_cons_succ, s4, s1, ea, l1, l1', e7]
        refine WS_of_ops ?_
        have hwj : IntKind.i64.wrap ((j : Int) + 1) = ((j + 1 : Nat) : Int) := by rw [wrap_i64 (by omega) (by omega)]; omega
        simp only [f20_r7, go_sem, ↓reduceIte, Nat.reduceEqDiff, s4, hwj]
        have hfs := foldl_take_succ (k := D.kept) c
        have o7 := o6.keep a6' k7
        have k07 : Keep (Old h.n) h h7 := k06.trans (k7.newbox wf6 k06.n (Nat.le_refl _))
        refine ⟨m - 1, by omega, j + 1, by omega, rfl, s1, s2, ⟨⟨v6, b7, by rw [hfs]; exact sk6.keep k7 a6', ?_, .inr (o7.less k.n)⟩, ⟨x, bx7, hx⟩, k07⟩, by have := k6.n; have := k7.n; omega⟩
        exact o7.away wf7 fun g hg => by
          simp only [List.mem_cons, List.not_mem_nil, or_false] at hg
          rcases hg with rfl | rfl
          · exact ⟨by omega, b7.root⟩
          · exact ⟨by omega, bx7.root⟩
      · have c' : ¬ (j : Int) < (D.waits.length : Int) := by omega
        obtain rfl : j = D.waits.length := by omega
        rw [List.take_length] at sk
        simp only [f20_r5, go_sem, ↓reduceIte, Nat.reduceEqDiff, Nat.zero_add, bb.load, List.getElem?_cons_zero, List.getElem?_cons_succ, s4, s1, rw5.len, c', decide_false]
        refine WS_of_cond ?_
        simp only [go_sem, ↓reduceIte, Bool.false_eq_true]
        refine WS_of_exit ?_
        simp only [go_sem, ↓reduceIte]
        have hf : D.flush = ({ D.counted with kept := D.waits.foldl putS D.kept, waits := [] }, 0) := by
          unfold Dk.flush; rw [if_neg (by rw [hd]; simp), hcw, hck]
        have hfo := r.ok.flush
        rw [hf] at hfo
        obtain ⟨h6, e6, b6, k6⟩ := bb.put wf5 (i := 1) (n := 1) (v := .nils) rfl rfl (by simp)
        have wf6 := k6.wf wf5
        have hs6 : splice [kvj, wv, .int .i64 (D.counted.armed : Int), .bool false] 1 AV.nils.cells = dcells kvj .nils { D.counted with kept := D.waits.foldl putS D.kept, waits := [] } := by rw [← hd]; rfl
        rw [hs6] at b6
        have ak' := apart_less (gs' := [h.n]) ak (by simp)
        have bx6 := bx.keepA wf5 k6 (by simp; omega)
        refine WS_of_seq (WS_of_ops ?_)
        simp only [f20_r9, go_sem, ↓reduceIte, Nat.reduceEqDiff, Nat.zero_add, s1, e6]
        have sk6 := sk.keep k6 ak'
        have k06 : Keep (Old h.n) h h6 := k.trans (k6.newbox wf5 k.n (Nat.le_refl _))
        have ak6 : Slot (Apart [h.n, h1.n] h6) h6 kvj := Slot.keepN wf5 ak k6 ak'
        have rr6 : RefIs h6 kvj .nils { D.counted with kept := D.waits.foldl putS D.kept, waits := [] } :=
          ⟨sk6, ak6.old, Sl.nil _ _, trivial, hfo, fun x => by simp only [hd] at x; cases x⟩
        obtain ⟨h7, f1, f2, f3, rr, k7⟩ := give wf6 b6 rr6 ak6 trivial (fk.imp id fun o => o.keep ak' k6) (.inr trivial) ⟨_, bx6, hx⟩ k06
        refine WS_of_seq (WS_of_ops ?_)
        simp only [f20_r10, go_sem, ↓reduceIte, Nat.reduceEqDiff, s1, s2, f1, f2]
        refine WS_of_ret ?_
        simp only [f20_a, go_sem, ↓reduceIte, Nat.reduceEqDiff, s2, f3]
        rw [hf]
        exact ⟨_, rfl, rr, k7⟩
    · obtain ⟨sa, -⟩ := slots wf4 k04
      refine ⟨0, by omega, rfl, rfl, rfl, ⟨⟨kv, by rw [← hd]; exact b4, r4.ks.keep (Keep.refl _ _) r4.sk |> fun x => by rw [← hck]; exact x, sa, .inl rfl⟩, ⟨_, b24, rfl⟩, k04⟩, ?_⟩
      have := b24.lt wf4
      omega
end Go.Proofs.Ytmfbememiffkjaa.Ev.C

/- The reference of the law 03, walked: a restart. -/
namespace Go.Proofs.Ytmfbememiffkjaa.Ev.C
open Go Go.Proofs.Ytmfbememiffkjaa.Ev
set_option linter.unusedSimpArgs false
set_option linter.unusedVariables false
theorem keepAll_step {K : List Sec} {ws : List (Nat × Sec)} {bs : List Bool} {j : Nat} (h1 : j < ws.length) (h2 : j < bs.length) : keepAll K (ws.drop j) (bs.drop j) = keepAll (if bs[j] then putS K ws[j] else K) (ws.drop (j + 1)) (bs.drop (j + 1)) := by
  rw [List.drop_eq_getElem_cons h1, List.drop_eq_getElem_cons h2]
  rfl
theorem keepAll_end {K : List Sec} {ws : List (Nat × Sec)} {bs : List Bool} {j : Nat} (h : ws.length ≤ j ∨ bs.length ≤ j) : keepAll K (ws.drop j) (bs.drop j) = K := by
  rcases h with h | h
  · rw [List.drop_eq_nil_of_le h]; cases bs.drop j <;> rfl
  · rw [List.drop_eq_nil_of_le h]; exact keepAll_nil K _
theorem rrestart_spec {h : H} {kv wv : AV} {D : Dk} {bv : AV} {bs : List Bool} (wf : h.Wf) (r : RefIs h kv wv D) (bb : Bools h bv bs) (sb : Slot (Old h.n) h bv) (hw : D.waits.length < 1000000) (hkl : D.kept.length < 1000000) :
    WCall E0 25 [.agg (dcells kv wv D), bv] h fun r h' => ∃ cs', r = .val (.agg cs') ∧ RefTo h h' kv wv cs' (D.restart bs) ∧ Keep (Old h.n) h h' := by
  refine WCall_ws (ovn 25) U25 (by simp [f25_a]) ?_
  show WS E0 f25_c [] _ _ _
  refine WS_of_seq (WS_of_ops ?_)
  have k1 : Keep (Old h.n) h (h.new (dcells kv wv D)) := Keep.new (Nat.le_refl _) _
  have b1 : Box h.n (dcells kv wv D) (h.new (dcells kv wv D)) := Box.new wf _
  have n1 : (h.new (dcells kv wv D)).n = h.n + 1 := rfl
  simp only [f25_r0, go_sem, ↓reduceIte, Nat.reduceEqDiff, agg_cells]
  generalize h.new (dcells kv wv D) = h1 at k1 b1 n1 ⊢
  have wf1 := k1.wf wf
  have k2 : Keep (Old h1.n) h1 (h1.new [.nils, .nils, .int .i64 0, .bool false]) := Keep.new (Nat.le_refl _) _
  have b2 : Box h1.n [.nils, .nils, .int .i64 0, .bool false] (h1.new [.nils, .nils, .int .i64 0, .bool false]) := Box.new wf1 _
  have n2 : (h1.new [.nils, .nils, .int .i64 0, .bool false]).n = h1.n + 1 := rfl
  generalize h1.new [.nils, .nils, .int .i64 0, .bool false] = h2 at k2 b2 n2 ⊢
  have wf2 := k2.wf wf1
  have b12 := b1.keep k2 (b1.lt wf1)
  have k02 : Keep (Old h.n) h h2 := k1.trans (k2.weaken fun q hq => by have : q < h.n := hq; show q < _; omega)
  have k3 : Keep (Old h2.n) h2 (h2.new [.nils, .nils, .int .i64 0, .bool false]) := Keep.new (Nat.le_refl _) _
  have b3 : Box h2.n [.nils, .nils, .int .i64 0, .bool false] (h2.new [.nils, .nils, .int .i64 0, .bool false]) := Box.new wf2 _
  have hone := r.one
  have ef : afill [AV.nils, .nils, .int .i64 0, .bool false] [(0, 1, kv)] = some [kv, .nils, .int .i64 0, .bool false] := by
    simp only [afill, hone.1.1]
    rfl
  have hall : ([kv, .nils, .int .i64 0, .bool false] : List AV).all AV.one = true := by simp only [List.all_cons, hone.1.2, List.all_nil]; rfl
  obtain ⟨h4, e4, b4, k4⟩ := b3.putAll (n := 4) (vs := [kv, .nils, .int .i64 0, .bool false]) (k3.wf wf2) rfl hall rfl
  have wf3 := k3.wf wf2
  have n3 : (h2.new [.nils, .nils, .int .i64 0, .bool false]).n = h2.n + 1 := rfl
  refine WS_of_seq (WS_of_ops ?_)
  simp only [f25_r1, go_sem, ↓reduceIte, Nat.reduceEqDiff, Nat.zero_add, b12.load, List.getElem?_cons_zero, ef, e4]
  generalize h2.new [.nils, .nils, .int .i64 0, .bool false] = h3 at k3 b3 e4 b4 k4 wf3 n3
  have wf4 := k4.wf wf3
  have b14 := (b12.keep k3 (b12.lt wf2)).keepA wf3 k4 (by simp; omega)
  have b24 := (b2.keep k3 (b2.lt wf2)).keepA wf3 k4 (by simp; omega)
  have k04 : Keep (Old h.n) h h4 := (k02.trans (k3.weaken fun q hq => by have : q < h.n := hq; have := k02.n; show q < _; omega)).trans (k4.newbox wf3 (by have := k02.n; have := k3.n; omega) (by have := k02.n; omega))
  have n4 := k4.n
  refine WS_of_seq (WS_of_seq (WS_of_ops ?_))
  simp only [f25_r2, go_sem, ↓reduceIte, Nat.reduceEqDiff]
  refine WS_of_block (WS_of_loop (fun m s h5 => ∃ j K kvj, j + m = D.waits.length ∧ s 6 = .int .i64 (j : Int) ∧ s 1 = bv ∧ s 2 = .ptr h.n 0 ∧ s 4 = .ptr h1.n 0 ∧ s 5 = .ptr h2.n 0 ∧ Box h2.n [kvj, .nils, .int .i64 0, .bool false] h5 ∧ Strs h5 kvj K ∧ Slot (Apart [h1.n, h2.n] h5) h5 kvj ∧ (kvj = kv ∨ Own h.n h5 kvj) ∧
    Box h.n (dcells kv wv D) h5 ∧ (∃ x, Box h1.n x h5 ∧ x.length = 4) ∧ Keep (Old h.n) h h5 ∧ h2.n + 1 ≤ h5.n ∧ K.length = D.kept.length ∧ keepAll K (D.waits.drop j) (bs.drop j) = keepAll D.kept D.waits bs) ?_ D.waits.length ?_)
  · rintro m s h5 ⟨j, K, kvj, hjm, s6, s1, s2, s4, s5, bk, sk, ak, fk, bd, ⟨x, bx, hx⟩, k, hle, hKl, hka⟩
    show WS E0 f25_l7 [] _ _ _
    have wf5 := k.wf wf
    have r5 := r.keep k
    have bb5 : Bools h5 bv bs := bb.keep k sb
    -- the end
    have ends : K = keepAll D.kept D.waits bs → ∀ {s : S}, s 4 = .ptr h1.n 0 → s 5 = .ptr h2.n 0 → WS E0 (.seq (.ops f25_r8) .ret) [] (atEnd f25_a.results fun r h' => ∃ cs', r = .val (.agg cs') ∧ RefTo h h' kv wv cs' (D.restart bs) ∧ Keep (Old h.n) h h') s h5 := by
      intro hK s s4 s5
      have hv := one_of_len sk.len
      have hall : ([kvj, .nils, .int .i64 0, .bool false] : List AV).all AV.one = true := by simp only [List.all_cons, hv.1, List.all_nil]; rfl
      obtain ⟨h6, e6, b6, k6⟩ := bx.putAll (n := 4) (vs := [kvj, .nils, .int .i64 0, .bool false]) wf5 rfl hall hx.symm
      have ak' := apart_less (gs' := [h1.n]) ak (by simp)
      refine WS_of_seq (WS_of_ops ?_)
      simp only [f25_r8, go_sem, ↓reduceIte, Nat.reduceEqDiff, s4, s5, bk.loadAgg (n := 4) rfl, e6]
      refine WS_of_ret ?_
      simp only [f25_a, go_sem, ↓reduceIte, Nat.reduceEqDiff, s4, b6.loadAgg (n := 4) rfl]
      refine ⟨_, rfl, ⟨kvj, .nils, rfl, ⟨?_, (ak'.keepA k6).old, Sl.nil _ _, trivial, r.ok.restart bs, fun x => by cases x⟩, fk.imp id (fun o => o.keep ak' k6), .inr trivial⟩, k.trans (k6.newbox wf5 k.n (by omega))⟩
      show Strs h6 kvj (keepAll D.kept D.waits bs)
      rw [← hK]
      exact sk.keep k6 ak'
    refine WS_of_seq (WS_of_seq (WS_of_ops ?_))
    by_cases c : j < D.waits.length
    · have c' : (j : Int) < (D.waits.length : Int) := by omega
      by_cases c2 : j < bs.length
      · have c2' : (j : Int) < (bs.length : Int) := by omega
        simp only [f25_r3, go_sem, ↓reduceIte, Nat.reduceEqDiff, Nat.zero_add, bd.load, List.getElem?_cons_zero, List.getElem?_cons_succ, s6, s1, s2, r5.ws.len, bb5.len, c', c2', decide_true]
        refine WS_of_cond ?_
        simp only [go_sem, ↓reduceIte]
        refine WS_of_skip ?_
        simp only [go_sem]
        obtain ⟨p, ep, lp⟩ := Bools.at bb5 c2 .i64
        have hst := keepAll_step (K := K) c c2
        rw [hka] at hst
        have hwj : IntKind.i64.wrap ((j : Int) + 1) = ((j + 1 : Nat) : Int) := by rw [wrap_i64 (by omega) (by omega)]; omega
        refine WS_of_seq (WS_of_block (WS_of_seq (WS_of_ops ?_)))
        simp only [f25_r4, go_sem, ↓reduceIte, Nat.reduceEqDiff, s1, s6, ep, lp]
        refine WS_of_cond ?_
        cases hb : bs[j] with
        | false =>
          rw [hb] at hst
          simp only [go_sem, ↓reduceIte, Bool.false_eq_true]
          refine WS_of_skip ?_
          simp only [go_sem]
          refine WS_of_ops ?_
          simp only [f25_r6, go_sem, ↓reduceIte, Nat.reduceEqDiff, s6, hwj]
          exact ⟨m - 1, by omega, j + 1, K, kvj, by omega, rfl, s1, s2, s4, s5, bk, sk, ak, fk, bd, ⟨x, bx, hx⟩, k, hle, hKl, hst.symm⟩
        | true =>
          rw [hb] at hst
          simp only [go_sem, ↓reduceIte]
          obtain ⟨o, q, ea, ld⟩ := waits_get r5.ws c
          obtain ⟨l1, -, -⟩ := ld _ r5.ws
          refine WS_of_draw ?_
          simp only [f25_r5, go_sem, ↓reduceIte, Nat.reduceEqDiff, and_self, true_and, List.filter_cons, List.filter_nil, Nat.testBit, Nat.reduceShiftRight, Nat.reduceAnd, Nat.reduceBNe, Bool.not_false, Bool.not_true, Bool.false_eq_true, bne_self_eq_false, eq_self, Nat.zero_add, bk.load, bd.load, List.getElem?_cons_zero, List.getElem?_cons_succ, s6, s2, s5, ea, l1]
          refine (rput_spec wf5 sk ak.old (by rw [hKl]; exact hkl)).mono ?_
          rintro rr h6 ⟨v6, rfl, sk6, o6, k6⟩
          have wf6 := k6.wf wf5
          have k06 : Keep (Old h.n) h h6 := k.trans (k6.weaken fun q hq => Nat.lt_of_lt_of_le hq k.n)
          have bk6 := bk.keep k6 (bk.lt wf5)
          have bx6 := bx.keep k6 (bx.lt wf5)
          have bd6 := bd.keep k6 (bd.lt wf5)
          have hv6 := one_of_len sk6.len
          obtain ⟨h7, e7, b7, k7⟩ := bk6.put wf6 (i := 0) (n := 1) (v := v6) (by rw [hv6.2]; rfl) (by rw [hv6.2]; simp [hv6.1]) (by simp)
          have hs7 : splice [kvj, .nils, .int .i64 0, .bool false] 0 v6.cells = [v6, .nils, .int .i64 0, .bool false] := by rw [hv6.2]; rfl
          rw [hs7] at b7
          obtain ⟨l1', -, -⟩ := ld _ (r.keep k06).ws
          have a6 : Slot (Apart [h1.n, h2.n] h6) h6 v6 := o6.away wf6 fun g hg => by
            simp only [List.mem_cons, List.not_mem_nil, or_false] at hg
            rcases hg with rfl | rfl
            · exact ⟨by omega, bx6.root⟩
            · exact ⟨by omega, bk6.root⟩
          have a6' := apart_less (gs' := [h2.n]) a6 (by simp)
          have bx7 := bx6.keepA wf6 k7 (by simp; omega)
          have bd7 := bd6.keepA wf6 k7 (by simp; omega)
          have wf7 := k7.wf wf6
          simp only [go_sem, ↓reduceIte, Nat.reduceEqDiff, and_self, true_and, List.filter_cons, List.filter_nil, Nat.testBit, Nat.reduceShiftRight, Nat.reduceAnd, Nat.reduceBNe, Bool.not_false, Bool.not_true, Bool.false_eq_true, bne_self_eq_false, eq_self, Nat.zero_add, bk.load, bd.load, bk6.load, bd6.load, List.getElem?_cons_zero, List.getElem?_cons_succ, s6, s2, s5, ea, l1, l1', e7]
          refine WS_of_ops ?_
          simp only [f25_r6, go_sem, ↓reduceIte, Nat.reduceEqDiff, s6, hwj]
          have o7 := o6.keep a6' k7
          have k07 : Keep (Old h.n) h h7 := k06.trans (k7.newbox wf6 k06.n (by omega))
          refine ⟨m - 1, by omega, j + 1, putS K D.waits[j], v6, by omega, rfl, s1, s2, s4, s5, b7, sk6.keep k7 a6', ?_, .inr (o7.less k.n), bd7, ⟨x, bx7, hx⟩, k07, by have := k6.n; have := k7.n; omega, by rw [putS_len]; exact hKl, hst.symm⟩
          exact o7.away wf7 fun g hg => by
            simp only [List.mem_cons, List.not_mem_nil, or_false] at hg
            rcases hg with rfl | rfl
            · exact ⟨by omega, bx7.root⟩
            · exact ⟨by omega, b7.root⟩
      · have c2' : ¬ (j : Int) < (bs.length : Int) := by omega
        simp only [f25_r3, go_sem, ↓reduceIte, Nat.reduceEqDiff, Nat.zero_add, bd.load, List.getElem?_cons_zero, List.getElem?_cons_succ, s6, s1, s2, r5.ws.len, bb5.len, c', c2', decide_true, decide_false]
        refine WS_of_cond ?_
        simp only [go_sem, ↓reduceIte, Bool.false_eq_true]
        refine WS_of_exit ?_
        simp only [go_sem, ↓reduceIte]
        rw [keepAll_end (.inr (by omega))] at hka
        refine ends hka ?_ ?_
        · exact s4
        · exact s5
    · have c' : ¬ (j : Int) < (D.waits.length : Int) := by omega
      simp only [f25_r3, go_sem, ↓reduceIte, Nat.reduceEqDiff, Nat.zero_add, bd.load, List.getElem?_cons_zero, List.getElem?_cons_succ, s6, s1, s2, r5.ws.len, c', decide_false, Bool.false_eq_true]
      refine WS_of_cond ?_
      simp only [go_sem, ↓reduceIte, Bool.false_eq_true]
      refine WS_of_exit ?_
      simp only [go_sem, ↓reduceIte]
      rw [keepAll_end (.inl (by omega))] at hka
      refine ends hka ?_ ?_
      · exact s4
      · exact s5
  · have sa : Slot (Apart [h1.n, h2.n] h4) h4 kv := (r.sk.keep k04 fun q hq => hq).apart wf4 k04.n (by simp; omega)
    exact ⟨0, D.kept, kv, by omega, rfl, rfl, rfl, rfl, rfl, b4, (r.keep k04).ks, sa, .inl rfl, b14, ⟨_, b24, rfl⟩, k04, by omega, rfl, rfl⟩
end Go.Proofs.Ytmfbememiffkjaa.Ev.C
