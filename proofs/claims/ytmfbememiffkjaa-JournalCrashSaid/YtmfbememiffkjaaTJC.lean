/- Bytes in parts: the iterators, walked. -/
import Derived.Test.YtmfbememiffkjaaTJB
import Derived.Test.YtmfbememiffkjaaEvL5
namespace Go.Proofs.Ytmfbememiffkjaa.Ev.C
open Go Go.Proofs.Ytmfbememiffkjaa.Ev
set_option linter.unusedSimpArgs false
set_option linter.unusedVariables false
/-- the j-th part of bytes -/
def chunk (b : Sec) (j : Nat) : Sec := (b.drop (63 * j)).take 63
def nchunk (n : Nat) : Nat := (n + 62) / 63
def cutv (v : AV) (lo hi : Nat) : AV := (sliceSA 1 (some (.int .i64 (lo : Int))) (some (.int .i64 (hi : Int))) v).getD .nils
theorem cutv_eq {h : H} {v : AV} {b : Sec} (bv : Bytes h v b) {lo hi : Nat} (h1 : lo ≤ hi) (h2 : hi ≤ b.length) :
    sliceSA 1 (some (.int .i64 (lo : Int))) (some (.int .i64 (hi : Int))) v = some (cutv v lo hi) ∧ Bytes h (cutv v lo hi) ((b.drop lo).take (hi - lo)) ∧ (∀ K, Slot K h v → Slot K h (cutv v lo hi)) := by
  obtain ⟨v', e, c, k⟩ := bv.part h1 h2 _ _ (bounds_fromto h1 h2 .i64 .i64)
  have : cutv v lo hi = v' := by unfold cutv; rw [e]; rfl
  rw [this]
  exact ⟨e, c, k⟩
def chunkV (v : AV) (n j : Nat) : AV := cutv v (63 * j) (63 * j + min 63 (n - 63 * j))
def chunkXs (v : AV) (n : Nat) : List (List AV) := (List.range (nchunk n)).map fun j => [chunkV v n j]
theorem chunkXs_len (v : AV) (n : Nat) : (chunkXs v n).length = nchunk n := by simp [chunkXs]
theorem chunkXs_at {v : AV} {n j : Nat} (hj : j < nchunk n) : (chunkXs v n)[j]? = some [chunkV v n j] := by simp [chunkXs, hj]
theorem chunk_bytes {h : H} {v : AV} {b : Sec} (bv : Bytes h v b) {j : Nat} (hj : j < nchunk b.length) : Bytes h (chunkV v b.length j) (chunk b j) ∧ (∀ K, Slot K h v → Slot K h (chunkV v b.length j)) := by
  have hlt : 63 * j < b.length := by unfold nchunk at hj; omega
  obtain ⟨-, x, y⟩ := cutv_eq bv (lo := 63 * j) (hi := 63 * j + min 63 (b.length - 63 * j)) (by omega) (by omega)
  refine ⟨?_, y⟩
  have : (b.drop (63 * j)).take (63 * j + min 63 (b.length - 63 * j) - 63 * j) = chunk b j := by
    unfold chunk
    by_cases c : 63 ≤ b.length - 63 * j
    · congr 1; omega
    · rw [List.take_of_length_le (by rw [List.length_drop]; omega), List.take_of_length_le (by rw [List.length_drop]; omega)]
  rw [this] at x
  exact x
theorem chunk_iter {r1 r2 N : Nat} {v : AV} {b : Sec} (hb : b.length < 1000000) :
    IterSpec E0 69 [.ptr r1 0, .ptr r2 0] (chunkXs v b.length) N (fun h => Box r1 [v] h ∧ Box r2 [.int .i64 63] h ∧ Bytes h v b) := by
  intro y I R h hy hN Mm Ist Rst step fin' start
  refine WCall_ws (ovn 69) U69 (by simp [f69_a]) ?_
  show WS E0 f69_c [] _ _ _
  obtain ⟨wf, bx1, bx2, bv⟩ := Mm _ _ _ start
  subst hN
  refine WS_of_seq (WS_of_ops ?_)
  simp only [f69_r0, go_sem, ↓reduceIte, Nat.reduceEqDiff]
  refine WS_of_block (WS_of_loop (fun m s h1 => ∃ G j, j + m = nchunk b.length ∧ s 0 = y ∧ s 1 = .ptr r1 0 ∧ s 2 = .ptr r2 0 ∧ s 4 = .int .i64 ((63 * j : Nat) : Int) ∧ I G j h1 ∧ GIn h.n G h1 ∧ Clean h.n G h1) ?_ (nchunk b.length) ?_)
  · rintro m s h1 ⟨G, j, hjm, s0, s1, s2, s4, hi, gi, cl⟩
    show WS E0 f69_l5 [] _ _ _
    obtain ⟨wf1, bx1, bx2, bv⟩ := Mm _ _ _ hi
    have hbl : lenSA v = some b.length := bv.len
    refine WS_of_seq (WS_of_seq (WS_of_ops ?_))
    by_cases c : j < nchunk b.length
    · have hlt : 63 * j < b.length := by unfold nchunk at c; omega
      have c' : ((63 * j : Nat) : Int) < (b.length : Int) := by omega
      simp only [f69_r1, go_sem, ↓reduceIte, Nat.reduceEqDiff, s1, s4, bx1.load, List.getElem?_cons_zero, hbl, c', decide_true]
      refine WS_of_cond ?_
      simp only [go_sem, ↓reduceIte]
      refine WS_of_skip ?_
      simp only [go_sem]
      obtain ⟨v5, e5, b5, -⟩ := Bytes.drop bv (k := 63 * j) (by omega) .i64
      have l5 : lenSA v5 = some (b.length - 63 * j) := by have := b5.len; rwa [List.length_drop] at this
      have hmin : (if ((b.length - 63 * j : Nat) : Int) < (63 : Int) then ((b.length - 63 * j : Nat) : Int) else 63) = ((min 63 (b.length - 63 * j) : Nat) : Int) := by split <;> omega
      refine WS_of_seq (WS_of_block (WS_of_seq (WS_of_draw ?_)))
      simp only [f69_r2, go_sem, ↓reduceIte, Nat.reduceEqDiff, and_self, true_and, List.filter_cons, List.filter_nil, Nat.testBit, Nat.reduceShiftRight, Nat.reduceAnd, Nat.reduceBNe, Bool.not_false, Bool.not_true, Bool.false_eq_true, bne_self_eq_false, eq_self, s1, s2, s4, bx1.load, bx2.load, List.getElem?_cons_zero, e5, l5]
      generalize hX : (if (((b.length - 63 * j : Nat) : Int)) < 63 then (((b.length - 63 * j : Nat) : Int)) else (63 : Int)) = X
      rw [hmin] at hX
      subst hX
      have w1 : IntKind.i64.wrap (((63 * j : Nat) : Int) + ((min 63 (b.length - 63 * j) : Nat) : Int)) = ((63 * j + min 63 (b.length - 63 * j) : Nat) : Int) := by rw [wrap_i64 (by omega) (by omega)]; omega
      obtain ⟨e6, -, -⟩ := cutv_eq bv (lo := 63 * j) (hi := 63 * j + min 63 (b.length - 63 * j)) (by omega) (by omega)
      have e7 : slice3A 1 (some (.int .i64 ((63 * j : Nat) : Int))) (.int .i64 ((63 * j + min 63 (b.length - 63 * j) : Nat) : Int)) (.int .i64 ((63 * j + min 63 (b.length - 63 * j) : Nat) : Int)) v = some (chunkV v b.length j) := by
        unfold slice3A
        rw [hbl]
        simp only
        rw [if_pos ⟨Int.le_refl _, by omega⟩]
        exact e6
      refine WS_of_seq (WS_of_ops ?_)
      simp only [f69_r3, go_sem, ↓reduceIte, Nat.reduceEqDiff, s0, s1, s4, bx1.load, List.getElem?_cons_zero, hmin, w1, e7]
      refine (step G j _ (chunkXs_at c) h1 hi cl gi).mono ?_
      rintro out h2 ⟨k2, ⟨rfl, hi2⟩ | ⟨rfl, hr2⟩⟩
      · obtain ⟨-, bx1', bx2', -⟩ := Mm _ _ _ hi2
        simp only [go_sem, ↓reduceIte, Nat.reduceEqDiff, Bool.not_true]
        refine WS_of_cond ?_
        simp only [go_sem, ↓reduceIte, Bool.false_eq_true]
        refine WS_of_skip ?_
        simp only [go_sem]
        refine WS_of_ops ?_
        have hw : IntKind.i64.wrap (((63 * j : Nat) : Int) + 63) = ((63 * (j + 1) : Nat) : Int) := by rw [wrap_i64 (by omega) (by omega)]; omega
        simp only [f69_r4, go_sem, ↓reduceIte, Nat.reduceEqDiff, s2, s4, bx2'.load, List.getElem?_cons_zero, hw]
        exact ⟨m - 1, by omega, _, j + 1, by omega, s0, s1, trivial, rfl, hi2, gi.more k2.n, cl.round gi (Mm _ _ _ hi2).1 k2⟩
      · simp only [go_sem, ↓reduceIte, Nat.reduceEqDiff, Bool.not_false]
        refine WS_of_cond ?_
        simp only [go_sem, ↓reduceIte]
        refine WS_of_ret ?_
        simp only [f69_a, go_sem, ↓reduceIte]
        exact ⟨trivial, _, hr2⟩
    · have c' : ¬ ((63 * j : Nat) : Int) < (b.length : Int) := by unfold nchunk at c; omega
      simp only [f69_r1, go_sem, ↓reduceIte, Nat.reduceEqDiff, s1, s4, bx1.load, List.getElem?_cons_zero, hbl, c', decide_false]
      refine WS_of_cond ?_
      simp only [go_sem, ↓reduceIte, Bool.false_eq_true]
      refine WS_of_exit ?_
      have hj : j = (chunkXs v b.length).length := by rw [chunkXs_len]; omega
      subst hj
      simp only [f69_a, go_sem, ↓reduceIte]
      exact ⟨trivial, _, fin' _ _ hi⟩
  · exact ⟨_, 0, by omega, rfl, rfl, rfl, rfl, start, GIn.none _, Clean.start wf⟩
theorem chunk_spec {h : H} (wf : h.Wf) {v : AV} (hv : v.cells = [v]) : WCall E0 63 [v, .int .i64 63] h fun r h' => r = .val (.func 69 [.ptr h.n 0, .ptr (h.n + 1) 0]) ∧ Box h.n [v] h' ∧ Box (h.n + 1) [.int .i64 63] h' ∧ Keep (Old h.n) h h' ∧ h'.n = h.n + 2 := by
  refine WCall_ws (ovn 63) U63 (by simp [f63_a]) ?_
  show WS E0 f63_c [] _ _ _
  refine WS_of_seq (WS_of_ops ?_)
  have k1 : Keep (Old h.n) h (h.new [v]) := Keep.new (Nat.le_refl _) _
  have b1 : Box h.n [v] (h.new [v]) := Box.new wf _
  have n1 : (h.new [v]).n = h.n + 1 := rfl
  have hci : (AV.int .i64 63).cells = [.int .i64 63] := rfl
  simp only [f63_r0, go_sem, ↓reduceIte, Nat.reduceEqDiff, hv, hci]
  generalize h.new [v] = h1 at k1 b1 n1 ⊢
  have wf1 := k1.wf wf
  have k2 : Keep (Old h1.n) h1 (h1.new [.int .i64 63]) := Keep.new (Nat.le_refl _) _
  have b2 : Box h1.n [.int .i64 63] (h1.new [.int .i64 63]) := Box.new wf1 _
  have n2 : (h1.new [.int .i64 63]).n = h1.n + 1 := rfl
  generalize h1.new [.int .i64 63] = h2 at k2 b2 n2 ⊢
  refine WS_of_seq (WS_of_seq (WS_of_ops ?_))
  simp only [f63_r1, go_sem, ↓reduceIte, Nat.reduceEqDiff, b2.load, List.getElem?_cons_zero, (by decide : ¬ (63 : Int) < 1), decide_false]
  refine WS_of_cond ?_
  simp only [go_sem, ↓reduceIte, Bool.false_eq_true]
  refine WS_of_skip ?_
  simp only [go_sem]
  refine WS_of_seq (WS_of_ops ?_)
  simp only [f63_r3, go_sem, ↓reduceIte, Nat.reduceEqDiff]
  refine WS_of_ret ?_
  simp only [f63_a, go_sem, ↓reduceIte, Nat.reduceEqDiff]
  rw [n1] at b2 ⊢
  exact ⟨rfl, b1.keep k2 (b1.lt wf1), b2, k1.trans (k2.weaken fun q hq => by have : q < h.n := hq; show q < _; omega), by omega⟩
theorem parts_spec {h : H} (wf : h.Wf) {v : AV} {ol : Nat} (hv : v.cells = [v]) : WCall E0 56 [.ptr ol 0, v] h fun r h' => r = .val (.func 62 [.ptr h.n 0, .ptr (h.n + 1) 0]) ∧ Box h.n [.ptr ol 0] h' ∧ Box (h.n + 1) [v] h' ∧ Keep (Old h.n) h h' ∧ h'.n = h.n + 2 := by
  refine WCall_ws (ovn 56) U56 (by simp [f56_a]) ?_
  show WS E0 f56_c [] _ _ _
  refine WS_of_seq (WS_of_ops ?_)
  have k1 : Keep (Old h.n) h (h.new [.ptr ol 0]) := Keep.new (Nat.le_refl _) _
  have b1 : Box h.n [.ptr ol 0] (h.new [.ptr ol 0]) := Box.new wf _
  have n1 : (h.new [.ptr ol 0]).n = h.n + 1 := rfl
  have hci : (AV.ptr ol 0).cells = [.ptr ol 0] := rfl
  simp only [f56_r0, go_sem, ↓reduceIte, Nat.reduceEqDiff, hv, hci]
  generalize h.new [.ptr ol 0] = h1 at k1 b1 n1 ⊢
  have wf1 := k1.wf wf
  have k2 : Keep (Old h1.n) h1 (h1.new [v]) := Keep.new (Nat.le_refl _) _
  have b2 : Box h1.n [v] (h1.new [v]) := Box.new wf1 _
  have n2 : (h1.new [v]).n = h1.n + 1 := rfl
  generalize h1.new [v] = h2 at k2 b2 n2 ⊢
  refine WS_of_seq (WS_of_ops ?_)
  simp only [f56_r1, go_sem, ↓reduceIte, Nat.reduceEqDiff]
  refine WS_of_ret ?_
  simp only [f56_a, go_sem, ↓reduceIte, Nat.reduceEqDiff]
  rw [n1] at b2 ⊢
  exact ⟨rfl, b1.keep k2 (b1.lt wf1), b2, k1.trans (k2.weaken fun q hq => by have : q < h.n := hq; show q < _; omega), by omega⟩
end Go.Proofs.Ytmfbememiffkjaa.Ev.C

/- The parts of a record, walked: an iterator that ranges over another. -/
namespace Go.Proofs.Ytmfbememiffkjaa.Ev.C
open Go Go.Proofs.Ytmfbememiffkjaa.Ev
set_option linter.unusedSimpArgs false
set_option linter.unusedVariables false
def PartX (N fr : Nat) (b : Sec) : (Nat → Prop) → Nat → List AV → H → Prop := fun G j x h => ∃ v, x = [.int .i64 ((fr + 1 + j : Nat) : Int), v] ∧ Bytes h v (0 :: chunk b j) ∧ Slot (Its N G h) h v
theorem parts_iter {rl rb ol o fr N : Nat} {bv : AV} {b : Sec} (hb : b.length < 1000000) (hfr : fr ≤ 1000000) :
    IterX E0 62 [.ptr rl 0, .ptr rb 0] (nchunk b.length) (PartX N fr b) N (fun h => Box rl [.ptr ol 0] h ∧ Box rb [bv] h ∧ (∃ cs, Box ol (.ptr o 0 :: .int .i64 (fr : Int) :: cs) h) ∧ Bytes h bv b) := by
  intro y I R h hy hN Mm Ist Rst step fin' start
  refine WCall_ws (ovn 62) U62 (by simp [f62_a]) ?_
  show WS E0 f62_c [] _ _ _
  obtain ⟨wf, bl, bb, ⟨cs, bo⟩, bv0⟩ := Mm _ _ _ start
  subst hN
  have hvc := one_of_len bv0.len
  refine WS_of_seq (WS_of_ops ?_)
  have k1 : Keep (Old h.n) h (h.new [y]) := Keep.new (Nat.le_refl _) _
  have b1 : Box h.n [y] (h.new [y]) := Box.new wf _
  have n1 : (h.new [y]).n = h.n + 1 := rfl
  simp only [f62_r0, go_sem, ↓reduceIte, Nat.reduceEqDiff, hy]
  generalize h.new [y] = h1 at k1 b1 n1
  have wf1 := k1.wf wf
  have up : ∀ q, Mine h.n (fun _ => False) q → q < h.n := fun q hq => hq.elim id (fun x => x.elim)
  have bl1 := bl.keep k1 (bl.lt wf)
  have bo1 := bo.keep k1 (bo.lt wf)
  have k2 : Keep (Old h1.n) h1 (h1.new [.int .i64 0]) := Keep.new (Nat.le_refl _) _
  have b2 : Box h1.n [.int .i64 0] (h1.new [.int .i64 0]) := Box.new wf1 _
  have n2 : (h1.new [.int .i64 0]).n = h1.n + 1 := rfl
  have wf2 := k2.wf wf1
  obtain ⟨h3, e3, b3, k3⟩ := b2.put wf2 (i := 0) (n := 1) (v := .int .i64 (fr : Int)) rfl rfl (by simp)
  have hn3 := storeA_n e3
  refine WS_of_seq (WS_of_ops ?_)
  simp only [f62_r1, go_sem, ↓reduceIte, Nat.reduceEqDiff, Nat.zero_add, bl1.load, bo1.load, List.getElem?_cons_zero, List.getElem?_cons_succ, e3]
  have k13 : Keep (Old h1.n) h1 h3 := k2.trans (k3.newbox wf2 k2.n (Nat.le_refl _))
  have wf3 := k13.wf wf1
  have k03 : Keep (Old h.n) h h3 := k1.trans (k13.weaken fun q hq => by have : q < h.n := hq; show q < _; omega)
  have b13 := b1.keep k13 (b1.lt wf1)
  have bb3 := bb.keep k03 (bb.lt wf)
  have hs3 : splice [AV.int .i64 0] 0 (AV.int .i64 (fr : Int)).cells = [.int .i64 (fr : Int)] := rfl
  rw [hs3] at b3
  refine WS_of_seq (WS_of_ops ?_)
  simp only [f62_r2, go_sem, ↓reduceIte, Nat.reduceEqDiff, bb3.load, List.getElem?_cons_zero]
  refine (chunk_spec wf3 hvc.2).mono ?_
  rintro rr h4 ⟨rfl, c1, c2, k4, n4⟩
  have wf4 := k4.wf wf3
  have k04 : Keep (Old h.n) h h4 := k03.trans (k4.weaken fun q hq => by have := k03.n; have : q < h.n := hq; show q < _; omega)
  have i4 := Ist _ _ _ _ start (k04.weaken up)
  have b14 := b13.keep k4 (b13.lt wf3)
  have b34 := b3.keep k4 (b3.lt wf3)
  have cl4 : Clean h.n (fun _ => False) h4 := (Clean.start wf).fresh (GIn.none _) k04 wf
  have hle3 : h1.n + 1 = h3.n := by omega
  simp only [go_sem, ↓reduceIte]
  refine WS_of_block (WS_of_range (g := 69) (cs := [.ptr h3.n 0, .ptr (h3.n + 1) 0]) (by simp only [go_sem, ↓reduceIte, Nat.reduceEqDiff]) (chunk_iter (v := bv) (b := b) hb)
    (fun G j h5 => ∃ Gu, I Gu j h5 ∧ Nest h.n h4.n Gu G h5 ∧ Box h.n [y] h5 ∧ Box h1.n [.int .i64 ((fr + j : Nat) : Int)] h5 ∧ Box h3.n [bv] h5 ∧ Box (h3.n + 1) [.int .i64 63] h5)
    (fun G p h5 => (p = none ∨ p = some none) ∧ ∃ Gu, (∀ q, Gu q → G q) ∧ R Gu h5) ?_ ?_ ?_ ?_ ?_ ?_ ?_ ?_)
  · intro x hx
    simp only [chunkXs, List.mem_map] at hx
    obtain ⟨_, _, rfl⟩ := hx
    rfl
  · exact ⟨_, i4, Nest.start cl4 ((GIn.none h).up (by omega)) (by omega) (fun _ x => x), b14, b34, c1, c2⟩
  · rintro G j h5 ⟨Gu, i5, nn, z1, z2, z3, z4⟩
    obtain ⟨wf5, -, -, -, bv5⟩ := Mm _ _ _ i5
    exact ⟨wf5, z3, z4, bv5⟩
  · rintro G j h5 h6 hG ⟨Gu, i5, nn, z1, z2, z3, z4⟩ kk
    exact ⟨Gu, Ist _ _ _ _ i5 (kk.weaken nn.mine), nn.keep kk, z1.keep kk (.inl (by omega)), z2.keep kk (.inl (by omega)), z3.keep kk (.inl (by omega)), z4.keep kk (.inl (by omega))⟩
  · rintro G p h5 h6 hG ⟨hp, Gu, hs, hr⟩ kk
    exact ⟨hp, Gu, hs, Rst _ _ _ hr (kk.weaken fun q hq => hq.imp (fun x => by omega) (hs q))⟩
  · rintro G j x hx h5 gi cl ⟨Gu, i5, nn, z1, z2, z3, z4⟩
    have hj : j < nchunk b.length := by
      have := (List.getElem?_eq_some_iff.1 hx).1
      rwa [chunkXs_len] at this
    rw [chunkXs_at hj] at hx
    cases hx
    obtain ⟨wf5, -, -, -, bv5⟩ := Mm _ _ _ i5
    show WS E0 f62_l6 [] _ _ _
    refine WS_of_ops ?_
    simp only [f62_r3, go_sem, ↓reduceIte, Nat.reduceEqDiff, setPs]
    refine ⟨trivial, Keep.refl _ _, ?_⟩
    intro h6 n6 k56 hne
    have wf6 := k56.wf wf5
    have hn5 : h4.n + 1 ≤ h5.n := gi.1
    have hgu : ∀ q, Gu q → h4.n + 1 ≤ q ∧ q < h5.n := fun q hq => gi.2 q (nn.sub q hq)
    have clU5 := nn.clean cl
    have cl6 : Clean h.n Gu h6 := clU5.same fun q cs g e => by
      by_cases hq : q = h4.n
      · subst hq; exact absurd e (hne _ _)
      · rwa [k56.get q hq] at e
    have y6 : Box h.n [y] h6 := z1.keep k56 (by omega)
    have a6 : Box h1.n [.int .i64 ((fr + j : Nat) : Int)] h6 := z2.keep k56 (by omega)
    have c6 : Box h3.n [bv] h6 := z3.keep k56 (by omega)
    have d6 : Box (h3.n + 1) [.int .i64 63] h6 := z4.keep k56 (by omega)
    show WS E0 f62_l7 [] _ _ _
    have hjb : 63 * j < b.length := by unfold nchunk at hj; omega
    have hw : IntKind.i64.wrap (((fr + j : Nat) : Int) + 1) = ((fr + 1 + j : Nat) : Int) := by rw [wrap_i64 (by omega) (by omega)]; omega
    obtain ⟨h7, e7, a7, k67⟩ := a6.put wf6 (i := 0) (n := 1) (v := .int .i64 ((fr + 1 + j : Nat) : Int)) rfl rfl (by simp)
    have hn7 := storeA_n e7
    have hs7 : splice [AV.int .i64 ((fr + j : Nat) : Int)] 0 (AV.int .i64 ((fr + 1 + j : Nat) : Int)).cells = [.int .i64 ((fr + 1 + j : Nat) : Int)] := rfl
    rw [hs7] at a7
    have wf7 := k67.wf wf6
    refine WS_of_block (WS_of_seq (WS_of_ops ?_))
    simp only [f62_r4, go_sem, ↓reduceIte, Nat.reduceEqDiff, a6.load, List.getElem?_cons_zero, hw, e7]
    have cl7 : Clean h.n Gu h7 := cl6.box wf6 a6 k67 a7 hn7
    have on67 := Box.only wf6 a6 k67
    have y7 : Box h.n [y] h7 := y6.keep on67 ⟨y6.lt wf6, by omega⟩
    have c7 : Box h3.n [bv] h7 := c6.keep on67 ⟨c6.lt wf6, by omega⟩
    have d7 : Box (h3.n + 1) [.int .i64 63] h7 := d6.keep on67 ⟨d6.lt wf6, by omega⟩
    have kU57 : Keep (Mine h.n Gu) h5 h7 := (k56.weaken fun q hq => by
      rcases hq with hq | hq
      · omega
      · have := hgu q hq; omega).trans (on67.weaken fun q hq => by
      rcases hq with hq | hq
      · exact ⟨by omega, by omega⟩
      · have := hgu q hq; exact ⟨by omega, by omega⟩)
    have i7 := Ist _ _ _ _ i5 kU57
    obtain ⟨-, -, -, -, bv7⟩ := Mm _ _ _ i7
    obtain ⟨cb7, -⟩ := chunk_bytes bv7 hj
    -- the part with its mark
    have kn : Keep (Old h7.n) h7 (h7.new [.int .u8 0]) := Keep.new (Nat.le_refl _) _
    have bn : Box h7.n [.int .u8 0] (h7.new [.int .u8 0]) := Box.new wf7 _
    have wfn := kn.wf wf7
    have ef : afill (zeros [AV.int .u8 0] (1 * 1)) [(0, 1, AV.int .u8 0)] = some [.int .u8 0] := rfl
    have s0 : Bytes (h7.new [.int .u8 0]) (.slice h7.n 0 1 1) [0] := by
      have := Sl.new (es := 1) (n := 1) wf7 (vs := [AV.int .u8 0]) (by simp)
      exact this
    have o0 : Own h7.n (h7.new [.int .u8 0]) (.slice h7.n 0 1 1) := Own.new wf7 (Nat.le_refl _) (by simp)
    have i7n := Ist _ _ _ _ i7 (kn.weaken fun q hq => by
      rcases hq with hq | hq
      · show q < _; omega
      · have := hgu q hq; show q < _; omega)
    obtain ⟨-, -, -, -, bvn⟩ := Mm _ _ _ i7n
    obtain ⟨cbn, -⟩ := chunk_bytes bvn hj
    have hcl : (chunk b j).length ≤ 63 := by unfold chunk; rw [List.length_take]; omega
    obtain ⟨v8, h8, e8, b8, o8, k8⟩ := s0.app (N := h7.n) wfn kn.n o0 cbn (by simp; omega)
    have k78 : Keep (Old h7.n) h7 h8 := kn.trans k8
    have wf8 := k78.wf wf7
    have i8 := Ist _ _ _ _ i7 (k78.weaken fun q hq => by
      rcases hq with hq | hq
      · show q < _; omega
      · have := hgu q hq; show q < _; omega)
    have cl8 : Clean h.n Gu h8 := cl7.fresh (nn.gi.up (by omega)) k78 wf7
    have gi8 : GIn h.n Gu h8 := nn.gi.up (by have := k78.n; omega)
    have y8 := y7.keep k78 (y7.lt wf7)
    have a8 := a7.keep k78 (a7.lt wf7)
    have c8 := c7.keep k78 (c7.lt wf7)
    have d8 := d7.keep k78 (d7.lt wf7)
    have yn := y7.keep kn (y7.lt wf7)
    have an := a7.keep kn (a7.lt wf7)
    have hX : PartX h.n fr b Gu j [.int .i64 ((fr + 1 + j : Nat) : Int), v8] h8 := by
      refine ⟨v8, rfl, b8, ?_⟩
      have hv8 := b8.len
      cases v8 <;> simp only [lenSA] at hv8 <;> try (cases hv8; done)
      case slice oo ii len es =>
        obtain ⟨cs8, g8, q1, q2, q3, q4, q5, q6, cs9, q7⟩ := o8
        have w1 := wf8.ob _ _ q1
        have w2 := wf8.ob _ _ q7
        refine ⟨⟨by omega, w1, fun x => by have := hgu _ x; omega⟩, fun cs g e => ?_⟩
        rw [q1] at e; cases e
        exact ⟨by omega, w2, fun x => by have := hgu _ x; omega⟩
    refine WS_of_seq (WS_of_draw ?_)
    simp only [f62_r5, go_sem, ↓reduceIte, Nat.reduceEqDiff, and_self, true_and, List.filter_cons, List.filter_nil, Nat.testBit, Nat.reduceShiftRight, Nat.reduceAnd, Nat.reduceBNe, Bool.not_false, Bool.not_true, Bool.false_eq_true, bne_self_eq_false, eq_self, y7.load, a7.load, yn.load, an.load, y8.load, a8.load, List.getElem?_cons_zero, ef, e8]
    have hk : ∀ {h9 : H}, Keep (Its h.n Gu h8) h8 h9 → Keep (Its h4.n G h5) h8 h9 := fun kk => kk.weaken fun q hq => ⟨by have := hq.1; omega, by have := hq.2.1; have := k78.n; omega, fun x => hq.2.2 (nn.sub q x)⟩
    have kin : Keep (Its h4.n G h5) h6 h8 := (on67.weaken fun q hq => ⟨by have := hq.2.1; omega, by have := hq.1; omega⟩).trans (k78.weaken fun q hq => by have := hq.2.1; show q < _; omega)
    refine (step Gu j _ hj h8 hX i8 cl8 gi8).mono ?_
    rintro out h9 ⟨k9, ⟨rfl, hi9⟩ | ⟨rfl, hr9⟩⟩
    · simp only [go_sem, ↓reduceIte, Nat.reduceEqDiff, and_self, true_and, List.filter_cons, List.filter_nil, Nat.testBit, Nat.reduceShiftRight, Nat.reduceAnd, Nat.reduceBNe, Bool.not_false, Bool.not_true, Bool.false_eq_true, bne_self_eq_false, eq_self, y7.load, a7.load, yn.load, an.load, y8.load, a8.load, List.getElem?_cons_zero, Bool.not_true]
      refine WS_of_cond ?_
      simp only [go_sem, ↓reduceIte, Bool.false_eq_true]
      refine WS_of_skip ?_
      simp only [go_sem]
      have its : ∀ q, h.n ≤ q → q < h4.n → Its h.n Gu h8 q := fun q hq1 hq2 => ⟨hq1, by have := k78.n; omega, fun x => by have := (hgu q x).1; omega⟩
      refine ⟨kin.trans (hk k9), _, hi9, nn.step (by have := k78.n; omega) cl8 k9 (Mm _ _ _ hi9).1, y8.keep k9 (its _ (by omega) (by omega)), ?_, c8.keep k9 (its _ (by omega) (by omega)), d8.keep k9 (its _ (by omega) (by omega))⟩
      have := a8.keep k9 (its _ (by omega) (by omega))
      rw [show fr + 1 + j = fr + (j + 1) by omega] at this
      exact this
    · simp only [go_sem, ↓reduceIte, Nat.reduceEqDiff, and_self, true_and, List.filter_cons, List.filter_nil, Nat.testBit, Nat.reduceShiftRight, Nat.reduceAnd, Nat.reduceBNe, Bool.not_false, Bool.not_true, Bool.false_eq_true, bne_self_eq_false, eq_self, y7.load, a7.load, yn.load, an.load, y8.load, a8.load, List.getElem?_cons_zero, Bool.not_false]
      refine WS_of_cond ?_
      simp only [go_sem, ↓reduceIte]
      refine WS_of_ret ?_
      exact ⟨kin.trans (hk k9), .inr trivial, _, fun q hq => hq.imp (nn.sub q) (fun x => by have := k78.n; omega), hr9⟩
  · rintro G h5 ⟨Gu, i5, nn, -⟩
    rw [chunkXs_len] at i5
    exact ⟨.inl rfl, Gu, nn.sub, fin' _ _ i5⟩
  · rintro G p h5 ⟨rfl | rfl, Gu, hs, hr⟩
    · simp only [f62_a, go_sem, ↓reduceIte]
      exact ⟨trivial, _, hr⟩
    · simp only [f62_a, go_sem, ↓reduceIte]
      exact ⟨trivial, _, hr⟩
end Go.Proofs.Ytmfbememiffkjaa.Ev.C

/- A head as a sector, walked; a record's writes, by plain definition; a disk among a caller's rows. -/
namespace Go.Proofs.Ytmfbememiffkjaa.Ev.C
open Go Go.Proofs.Ytmfbememiffkjaa.Ev
set_option linter.unusedSimpArgs false
set_option linter.unusedVariables false
theorem sector_spec {h : H} {e k n : Nat} (wf : h.Wf) (he : e < 18446744073709551616) (hk : k < 18446744073709551616) (hn : n < 18446744073709551616) :
    WCall E0 57 [.agg [.int .u64 (e : Int), .int .u64 (k : Int), .int .u64 (n : Int)]] h fun r h' => ∃ v, r = .val v ∧ Bytes h' v (headB e k n) ∧ Own h.n h' v ∧ Keep (Old h.n) h h' := by
  refine WCall_ws (ovn 57) U57 (by simp [f57_a]) ?_
  show WS E0 f57_c [] _ _ _
  refine WS_of_seq (WS_of_ops ?_)
  have k1 : Keep (Old h.n) h (h.new [.int .u64 (e : Int), .int .u64 (k : Int), .int .u64 (n : Int)]) := Keep.new (Nat.le_refl _) _
  have b1 : Box h.n [.int .u64 (e : Int), .int .u64 (k : Int), .int .u64 (n : Int)] (h.new [.int .u64 (e : Int), .int .u64 (k : Int), .int .u64 (n : Int)]) := Box.new wf _
  have n1 : (h.new [.int .u64 (e : Int), .int .u64 (k : Int), .int .u64 (n : Int)]).n = h.n + 1 := rfl
  simp only [f57_r0, go_sem, ↓reduceIte, Nat.reduceEqDiff, agg_cells]
  generalize h.new [.int .u64 (e : Int), .int .u64 (k : Int), .int .u64 (n : Int)] = h1 at k1 b1 n1 ⊢
  have wf1 := k1.wf wf
  have k2 : Keep (Old h1.n) h1 (h1.new [.int .u8 1]) := Keep.new (Nat.le_refl _) _
  have s2 : Bytes (h1.new [.int .u8 1]) (.slice h1.n 0 1 1) [1] := by
    have := Sl.new (es := 1) (n := 1) wf1 (vs := [AV.int .u8 1]) (by simp)
    exact this
  have o2 : Own h1.n (h1.new [.int .u8 1]) (.slice h1.n 0 1 1) := Own.new wf1 (Nat.le_refl _) (by simp)
  have ef1 : afill (zeros [AV.int .u8 0] (1 * 1)) [(0, 1, AV.int .u8 1)] = some [.int .u8 1] := rfl
  have wf2 := k2.wf wf1
  have b2 := b1.keep k2 (b1.lt wf1)
  have ef2 : afill (zeros [AV.int .u64 0] (3 * 1)) [(0, 1, .int .u64 (e : Int)), (1, 1, .int .u64 (k : Int)), (2, 1, .int .u64 (n : Int))] = some [.int .u64 (e : Int), .int .u64 (k : Int), .int .u64 (n : Int)] := rfl
  refine WS_of_seq (WS_of_ops ?_)
  simp only [f57_r1, go_sem, ↓reduceIte, Nat.reduceEqDiff, Nat.zero_add, ef1, b2.load, List.getElem?_cons_zero, List.getElem?_cons_succ, ef2]
  generalize h1.new [.int .u8 1] = h2 at k2 s2 o2 wf2 b2 ⊢
  have k3 : Keep (Old h2.n) h2 (h2.new [.int .u64 (e : Int), .int .u64 (k : Int), .int .u64 (n : Int)]) := Keep.new (Nat.le_refl _) _
  have s3 : Sl (h2.new [.int .u64 (e : Int), .int .u64 (k : Int), .int .u64 (n : Int)]) 1 (.slice h2.n 0 3 1) 3 [.int .u64 (e : Int), .int .u64 (k : Int), .int .u64 (n : Int)] := by
    have := Sl.new (es := 1) (n := 3) wf2 (vs := [.int .u64 (e : Int), .int .u64 (k : Int), .int .u64 (n : Int)]) (by simp)
    exact this
  have o3 : Own h2.n (h2.new [.int .u64 (e : Int), .int .u64 (k : Int), .int .u64 (n : Int)]) (.slice h2.n 0 3 1) := Own.new wf2 (Nat.le_refl _) (by simp)
  have wf3 := k3.wf wf2
  refine (put_spec (l := [e, k, n]) wf3 s3 (o3.slot wf3) (by simp; omega) (by simp)).mono ?_
  rintro r h4 ⟨v4, rfl, b4, o4, k4⟩
  have wf4 := k4.wf wf3
  have sl2 := o2.slot wf2
  have k24 : Keep (Old h2.n) h2 h4 := k3.trans (k4.weaken fun q hq => Nat.lt_of_lt_of_le hq k3.n)
  have b4' : Bytes h4 v4 (num e ++ (num k ++ num n)) := by simpa using b4
  have hl : (num e ++ (num k ++ num n)).length ≤ 27 := by
    simp only [List.length_append, num_length]
    have := nb_le8 he
    have := nb_le8 hk
    have := nb_le8 hn
    omega
  obtain ⟨v5, h5, e5, b5, o5, k5⟩ := Bytes.app (N := h1.n) wf4 (Nat.le_trans k2.n k24.n) (s2.keep k24 sl2) (o2.keep sl2 k24) b4' (by simp only [List.length_cons, List.length_nil]; omega)
  simp only [go_sem, ↓reduceIte, Nat.reduceEqDiff, e5]
  refine WS_of_ret ?_
  simp only [f57_a, go_sem, ↓reduceIte, Nat.reduceEqDiff]
  have n2' := k2.n
  exact ⟨_, rfl, b5, o5.less (by omega), ((k1.trans (k2.weaken fun q hq => by have : q < h.n := hq; show q < _; omega)).trans (k24.weaken fun q hq => by have : q < h.n := hq; show q < _; omega)).trans (k5.weaken fun q hq => by have : q < h.n := hq; show q < _; omega)⟩

/-! ### a record's writes -/
def chunksW (fr : Nat) (b : Sec) : List (Nat × Sec) := (List.range (nchunk b.length)).map fun j => (fr + 1 + j, 0 :: chunk b j)
def wrAll : List (Nat × Sec) → Dk → Dk × Nat
  | [], D => (D, 0)
  | w :: r, D => if (D.write (w.1 : Int) w.2).2 ≠ 0 then D.write (w.1 : Int) w.2 else wrAll r (D.write (w.1 : Int) w.2).1
theorem wrAll_bad {w : Nat × Sec} {D : Dk} (l : List (Nat × Sec)) (c : (D.write (w.1 : Int) w.2).2 ≠ 0) : wrAll (w :: l) D = D.write (w.1 : Int) w.2 := by
  simp only [wrAll, if_pos c]
theorem wrAll_good {w : Nat × Sec} {D : Dk} (l : List (Nat × Sec)) (c : ¬ (D.write (w.1 : Int) w.2).2 ≠ 0) : wrAll (w :: l) D = wrAll l (D.write (w.1 : Int) w.2).1 := by
  simp only [wrAll, if_neg c]
theorem wrAll_app : ∀ (l r : List (Nat × Sec)) (D : Dk), wrAll (l ++ r) D = if (wrAll l D).2 ≠ 0 then wrAll l D else wrAll r (wrAll l D).1
  | [], r, D => by simp [wrAll]
  | w :: l, r, D => by
    rw [List.cons_append]
    by_cases c : (D.write (w.1 : Int) w.2).2 ≠ 0
    · simp only [wrAll_bad _ c, if_pos c]
    · simp only [wrAll_good _ c]
      exact wrAll_app l r _
theorem wrAll_one (w : Nat × Sec) (D : Dk) : wrAll [w] D = D.write (w.1 : Int) w.2 := by
  simp only [wrAll]
  by_cases c : (D.write (w.1 : Int) w.2).2 = 0
  · rw [if_neg (by simpa using c)]
    exact Prod.ext rfl c.symm
  · rw [if_pos c]
theorem chunksW_at {fr : Nat} {b : Sec} {j : Nat} (hj : j < nchunk b.length) : (chunksW fr b)[j]? = some (fr + 1 + j, 0 :: chunk b j) := by simp [chunksW, hj]
theorem chunksW_len (fr : Nat) (b : Sec) : (chunksW fr b).length = nchunk b.length := by simp [chunksW]
theorem chunksW_succ {fr : Nat} {b : Sec} {j : Nat} (hj : j < nchunk b.length) : (chunksW fr b).take (j + 1) = (chunksW fr b).take j ++ [(fr + 1 + j, 0 :: chunk b j)] := by
  rw [List.take_add_one, chunksW_at hj]; rfl
/-- a record appended: the disk behind it, and the answer -/
def jappend (D : Dk) (fr to ep k : Nat) (b : Sec) : Dk × Nat :=
  if 4096 < b.length then (D, 13) else if to - fr < jsize b.length then (D, 21) else
  if (wrAll (chunksW fr b) D).2 ≠ 0 then wrAll (chunksW fr b) D else
  let y := (wrAll (chunksW fr b) D).1.flush
  if y.2 ≠ 0 then y else
  let z := y.1.write (fr : Int) (headB ep k b.length)
  if z.2 ≠ 0 then z else z.1.flush

/-! ### a disk among a caller's rows -/
theorem Grp.mine {N g : Nat} {G : Nat → Prop} {h : H} {v : AV} (c : Clean N G h) (gg : Grp g h v) (hg : Mine N G g) : Slot (Mine N G) h v := by
  cases v <;> first | exact gg.elim | skip
  obtain ⟨cs, h1, h2, h3, h4, cs', h5⟩ := gg
  refine ⟨?_, fun cs1 g1 e => ?_⟩
  · rename_i ob i len es
    by_cases x : ob < N
    · exact .inl x
    by_cases y : G ob
    · exact .inr y
    obtain ⟨a, b⟩ := c ob cs g h1 (by omega) y
    rcases hg with z | z
    · omega
    · exact absurd z b
  · rw [h1] at e; cases e; exact hg
def DiskMine (N : Nat) (G : Nat → Prop) (h : H) (o : Nat) (gs : List Nat) (D : Dk) : Prop := ∃ gk k wv, DiskIs h o gk k wv gs D ∧ Slot (Mine N G) h k ∧ Slot (Mine N G) h wv ∧ ∀ g ∈ gs, Mine N G g
theorem DiskMine.at {N : Nat} {G : Nat → Prop} {h : H} {o : Nat} {gs : List Nat} {D : Dk} (d : DiskMine N G h o gs D) : DiskAt h o gs D := by
  obtain ⟨gk, k, wv, d, _⟩ := d
  exact ⟨gk, k, wv, d⟩
theorem DiskMine.keep {N : Nat} {G : Nat → Prop} {h h' : H} {o : Nat} {gs : List Nat} {D : Dk} (d : DiskMine N G h o gs D) (wf : h.Wf) (k : Keep (Mine N G) h h') : DiskMine N G h' o gs D := by
  obtain ⟨gk, kv, wv, d, s1, s2, s3⟩ := d
  obtain ⟨-, -, -, m1, m2⟩ := d.away wf
  refine ⟨gk, kv, wv, ?_, s1.keep k fun _ x => x, s2.keep k fun _ x => x, s3⟩
  rcases d.wg with ⟨rfl, e⟩ | ⟨gw, a1, a2, a3, e⟩
  · exact ⟨d.box.keep k (s3 _ m1), d.ks.keep k s1, d.kg.keep s1 k, d.ws.keep k s2, d.ne, .inl ⟨rfl, e⟩, d.ok⟩
  · exact ⟨d.box.keep k (s3 _ m1), d.ks.keep k s1, d.kg.keep s1 k, d.ws.keep k s2, d.ne, .inr ⟨gw, a1, a2, a3.keep s2 k, e⟩, d.ok⟩
theorem DiskAt.mine {N : Nat} {G : Nat → Prop} {h : H} {o : Nat} {gs : List Nat} {D : Dk} (d : DiskAt h o gs D) (wf : h.Wf) (c : Clean N G h) (hg : ∀ g ∈ gs, Mine N G g) : DiskMine N G h o gs D := by
  obtain ⟨gk, kv, wv, d⟩ := d
  obtain ⟨-, -, -, m1, m2⟩ := d.away wf
  refine ⟨gk, kv, wv, d, Grp.mine c d.kg (hg _ m2), ?_, hg⟩
  rcases d.wg with ⟨rfl, e⟩ | ⟨gw, a1, a2, a3, e⟩
  · trivial
  · exact Grp.mine c a3 (hg _ (by rw [e]; simp))
end Go.Proofs.Ytmfbememiffkjaa.Ev.C
