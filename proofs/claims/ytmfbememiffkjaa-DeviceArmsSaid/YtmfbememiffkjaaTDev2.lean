/- A disk's functions that write, walked. -/
import Derived.Test.YtmfbememiffkjaaTDev1
namespace Go.Proofs.Ytmfbememiffkjaa.Ev.C
open Go Go.Proofs.Ytmfbememiffkjaa.Ev
set_option linter.unusedSimpArgs false
set_option linter.unusedVariables false
theorem one_of_len {v : AV} {n : Nat} (h : lenSA v = some n) : v.one = true ∧ v.cells = [v] := by
  cases v <;> first | exact ⟨rfl, rfl⟩ | cases h
theorem DiskIs.away {h : H} {o gk : Nat} {k wv : AV} {gs : List Nat} {D : Dk} (d : DiskIs h o gk k wv gs D) (wf : h.Wf) : Slot (Apart [o] h) h k ∧ Slot (Apart [o] h) h wv ∧ Slot (Apart [gk] h) h wv ∧ o ∈ gs ∧ gk ∈ gs := by
  refine ⟨d.kg.away wf (by simp [d.ne]) (by simpa using d.box.root), ?_⟩
  rcases d.wg with ⟨rfl, rfl⟩ | ⟨gw, a1, a2, a3, rfl⟩
  · exact ⟨trivial, trivial, by simp, by simp⟩
  · exact ⟨a3.away wf (by simp [a1]) (by simpa using d.box.root), a3.away wf (by simp [a2]) (by simpa using d.kg.root), by simp, by simp⟩
/-- the box is written -/
theorem DiskIs.boxed {h h' : H} {o gk : Nat} {k wv : AV} {gs : List Nat} {D D' : Dk} (d : DiskIs h o gk k wv gs D) (wf : h.Wf) (kk : KeepA [o] h h') (hk : D'.kept = D.kept) (hw : D'.waits = D.waits)
    (b : Box o [k, wv, .int .i64 (D'.armed : Int), .bool D'.dead] h') (ok : D'.Ok) : DiskIs h' o gk k wv gs D' ∧ KeepA gs h h' := by
  obtain ⟨s1, s2, s3, m1, m2⟩ := d.away wf
  refine ⟨⟨b, by rw [hk]; exact d.ks.keep kk s1, d.kg.keep s1 kk, by rw [hw]; exact d.ws.keep kk s2, d.ne, ?_, ok⟩, kk.mono (by simpa using m1)⟩
  rcases d.wg with ⟨rfl, e⟩ | ⟨gw, a1, a2, a3, e⟩
  · exact .inl ⟨rfl, e⟩
  · exact .inr ⟨gw, a1, a2, a3.keep s2 kk, e⟩

theorem arm_spec {h : H} {o : Nat} {gs : List Nat} {D : Dk} (wf : h.Wf) (d : DiskAt h o gs D) (n : Int) (hn : n < 9223372036854775808) :
    WCall E0 21 [.ptr o 0, .int .i64 n] h fun r h' => r = .val (.tup []) ∧ DiskAt h' o gs (D.arm n) ∧ KeepA gs h h' := by
  obtain ⟨gk, k, wv, d⟩ := d
  refine WCall_ws (ovn 21) U21 (by simp [f21_a]) ?_
  show WS E0 f21_c [] _ _ _
  refine WS_of_seq (WS_of_ops ?_)
  simp only [f21_r0, go_sem, ↓reduceIte, Nat.reduceEqDiff, Bool.not_false, Nat.zero_add, d.box.load]
  refine WS_of_cond ?_
  cases hd : D.dead with
  | true =>
    simp only [go_sem, ↓reduceIte, Bool.not_true, Bool.false_eq_true]
    refine WS_of_skip ?_
    simp only [go_sem, f21_a]
    refine ⟨trivial, ⟨gk, k, wv, ?_⟩, KeepA.refl _ _⟩
    simp only [Dk.arm, hd, if_true]
    exact d
  | false =>
    obtain ⟨h1, e1, b1, k1⟩ := d.box.put wf (i := 2) (n := 1) (v := .int .i64 (n.toNat : Int)) rfl rfl (by simp)
    have hmax : (if 0 > n then (0 : Int) else n) = (n.toNat : Int) := by split <;> omega
    simp only [go_sem, ↓reduceIte, Bool.not_false]
    refine WS_of_ops ?_
    simp only [f21_r1, go_sem, ↓reduceIte, Nat.reduceEqDiff, Nat.zero_add, hmax, e1]
    have ha : D.arm n = { D with armed := n.toNat } := by simp [Dk.arm, hd]
    obtain ⟨d1, k2⟩ := d.boxed (D' := D.arm n) wf k1 (by rw [ha]) (by rw [ha]) (by rw [ha]; exact b1) (d.ok.arm' hn)
    exact ⟨rfl, ⟨gk, k, wv, d1⟩, k2⟩

theorem dies_spec {h : H} {o gk : Nat} {k wv : AV} {gs : List Nat} {D : Dk} (wf : h.Wf) (d : DiskIs h o gk k wv gs D) :
    WCall E0 44 [.ptr o 0] h fun r h' => r = .val (.bool D.counted.dead) ∧ DiskIs h' o gk k wv gs D.counted ∧ KeepA gs h h' := by
  refine WCall_ws (ovn 44) U44 (by simp [f44_a]) ?_
  show WS E0 f44_c [] _ _ _
  refine WS_of_seq (WS_of_ops ?_)
  simp only [f44_r0, go_sem, ↓reduceIte]
  refine WS_of_seq (WS_of_seq (WS_of_ops ?_))
  simp only [f44_r1, go_sem, ↓reduceIte, Nat.reduceEqDiff, Nat.zero_add, d.box.load]
  refine WS_of_cond ?_
  by_cases c : 0 < D.armed
  · have c' : (0 : Int) < (D.armed : Int) := by omega
    have ha := d.ok.arm
    have hw : IntKind.i64.wrap ((D.armed : Int) - 1) = ((D.armed - 1 : Nat) : Int) := by rw [wrap_i64 (by omega) (by omega)]; omega
    obtain ⟨h1, e1, b1, k1⟩ := d.box.put wf (i := 2) (n := 1) (v := .int .i64 ((D.armed - 1 : Nat) : Int)) rfl rfl (by simp)
    have b1' : Box o [k, wv, .int .i64 ((D.armed - 1 : Nat) : Int), .bool D.dead] h1 := b1
    obtain ⟨h2, e2, b2, k2⟩ := b1'.put (k1.wf wf) (i := 3) (n := 1) (v := .bool (decide (D.armed = 1))) rfl rfl (by simp)
    have b2' : Box o [k, wv, .int .i64 ((D.armed - 1 : Nat) : Int), .bool (decide (D.armed = 1))] h2 := b2
    simp only [go_sem, ↓reduceIte, c', decide_true]
    refine WS_of_seq (WS_of_ops ?_)
    simp only [f44_r2, go_sem, ↓reduceIte, Nat.reduceEqDiff, Nat.zero_add, d.box.load, hw, e1]
    refine WS_of_ops ?_
    have he : decide (((D.armed - 1 : Nat) : Int) = 0) = decide (D.armed = 1) := by
      by_cases x : D.armed = 1
      · simp [x]
      · rw [decide_eq_false x, decide_eq_false (by omega)]
    simp only [f44_r3, go_sem, ↓reduceIte, Nat.reduceEqDiff, Nat.zero_add, b1'.load, he, e2]
    refine WS_of_seq (WS_of_ops ?_)
    simp only [f44_r4, go_sem, ↓reduceIte, Nat.reduceEqDiff, Nat.zero_add, b2'.load]
    refine WS_of_ret ?_
    simp only [go_sem, f44_a, ↓reduceIte, Nat.reduceEqDiff]
    have hc : D.counted = { D with armed := D.armed - 1, dead := decide (D.armed = 1) } := by simp [Dk.counted, c]
    obtain ⟨d1, k3⟩ := d.boxed (D' := D.counted) wf (k1.then wf k2 (by simp)) (by rw [hc]) (by rw [hc]) (by rw [hc]; exact b2') d.ok.counted
    exact ⟨by rw [hc], d1, k3⟩
  · have c' : ¬ (0 : Int) < (D.armed : Int) := by omega
    simp only [go_sem, ↓reduceIte, c', decide_false, Bool.false_eq_true]
    refine WS_of_skip ?_
    simp only [go_sem]
    refine WS_of_seq (WS_of_ops ?_)
    simp only [f44_r4, go_sem, ↓reduceIte, Nat.reduceEqDiff, Nat.zero_add, d.box.load]
    refine WS_of_ret ?_
    simp only [go_sem, f44_a, ↓reduceIte, Nat.reduceEqDiff]
    have hc : D.counted = D := by simp [Dk.counted, c]
    rw [hc]
    exact ⟨rfl, d, KeepA.refl _ _⟩

theorem wcell_len {w : Nat × Sec} (h : w.2.length = 64) : (wcell w).length = 65 := by simp [wcell, byteCells, h]
theorem wcell_one (w : Nat × Sec) : (wcell w).all AV.one = true := by
  simp only [wcell, List.all_cons, byteCells_one, Bool.and_true]
  rfl
/-- a write is kept: the disk's first cell alone is looked at -/
theorem keep_spec {h : H} {o g : Nat} {rest : List AV} {k : AV} {K : List Sec} {w : Nat × Sec} (wf : h.Wf) (b : Box o (k :: rest) h) (ks : Sl h 64 k K.length (kcells K)) (kg : Grp g h k) (k64 : ∀ b ∈ K, b.length = 64)
    (hw : w.1 < K.length) (hw2 : w.2.length = 64) :
    WCall E0 46 [.ptr o 0, .agg (wcell w)] h fun r h' => r = .val (.tup []) ∧ Sl h' 64 k (putS K w).length (kcells (putS K w)) ∧ Grp g h' k ∧ KeepA [g] h h' := by
  refine WCall_ws (ovn 46) U46 (by simp [f46_a]) ?_
  show WS E0 f46_c [] _ _ _
  refine WS_of_seq (WS_of_ops ?_)
  simp only [f46_r0, go_sem, ↓reduceIte]
  have kn : Keep (Old h.n) h (h.new (wcell w)) := Keep.new (Nat.le_refl _) _
  have bn : Box h.n (wcell w) (h.new (wcell w)) := Box.new wf _
  have b1 := b.keep kn (b.lt wf)
  have ks1 := ks.keep kn ((kg.own wf (Nat.zero_le _)).slot wf)
  have kg1 := kg.keep ((kg.own wf (Nat.zero_le _)).slot wf) kn
  have wf1 := kn.wf wf
  have hcells : (AV.agg (wcell w)).cells = wcell w := rfl
  rw [hcells]
  generalize h.new (wcell w) = h1 at kn bn b1 ks1 kg1 wf1 ⊢
  obtain ⟨p, ep, hp⟩ := Grp.put (es := 64) (i := w.1) (new := byteCells w.2) wf1 ks1 kg1 hw (by decide) .i64 (by rw [byteCells_length, hw2]) (byteCells_one _)
  obtain ⟨h2, e2, s2, g2, k2⟩ := hp (.agg (byteCells w.2)) rfl
  have l0 : loadA h1 false 1 (.ptr h.n 0) = some (.int .i64 (w.1 : Int)) := by rw [bn.load]; rfl
  have l1 : loadA h1 true 64 (.ptr h.n (0 + 1)) = some (.agg (byteCells w.2)) := by
    simp only [loadA, bn.row, if_true, wcell]
    rw [if_pos (by simp [byteCells, hw2])]
    simp only [Nat.zero_add, List.drop_succ_cons, List.drop_zero]
    rw [List.take_of_length_le (by rw [byteCells_length, hw2]; exact Nat.le_refl _)]
  have lk : loadA h1 false 1 (.ptr o (0 + 0)) = some k := by rw [b1.load]; rfl
  have lk0 : loadA h1 false 1 (.ptr o 0) = some k := by rw [b1.load]; rfl
  have l00 : loadA h1 false 1 (.ptr h.n (0 + 0)) = some (.int .i64 (w.1 : Int)) := l0
  refine WS_of_draw ?_
  simp only [f46_r1, go_sem, ↓reduceIte, Nat.reduceEqDiff, and_self, true_and, List.filter_cons, List.filter_nil, Nat.testBit, Nat.reduceShiftRight, Nat.reduceAnd, Nat.reduceBNe, Bool.not_false, Bool.not_true, Bool.false_eq_true, bne_self_eq_false, lk, l00, l1, ep, e2]
  refine ⟨rfl, ?_, g2, ?_⟩
  · rw [putS_len]
    have := flat_set (f := byteCells) (es := 64) (l := K) w.2 hw (fun x hx => by rw [byteCells_length, k64 x hx]) (by rw [byteCells_length, hw2])
    rw [← show splice (kcells K) (w.1 * 64) (byteCells w.2) = kcells (putS K w) from this]
    exact s2
  · exact KeepA.of kn |>.then wf k2 (by simp)
end Go.Proofs.Ytmfbememiffkjaa.Ev.C
