/- The record that is next, walked. -/
import Derived.Test.YtmfbememiffkjaaTJA
namespace Go.Proofs.Ytmfbememiffkjaa.Ev.C
open Go Go.Proofs.Ytmfbememiffkjaa.Ev
set_option linter.unusedSimpArgs false
set_option linter.unusedVariables false
def partsCat (sc : Nat → Sec) (fr m : Nat) : Sec := (List.range m).flatMap fun i => (sc (fr + (i + 1))).drop 1
def partsOk (sc : Nat → Sec) (fr m : Nat) : Bool := (List.range m).all fun i => (sc (fr + (i + 1))).head? == some 0
def jnext (sc : Nat → Sec) (fr to ep k : Nat) : Option Sec :=
  if fr < to ∧ (hd (sc fr)).2 = true ∧ (hd (sc fr)).1.1 = ep ∧ (hd (sc fr)).1.2.1 = k ∧ (hd (sc fr)).1.2.2 ≤ 4096 ∧ jsize (hd (sc fr)).1.2.2 ≤ to - fr ∧ partsOk sc fr (jsize (hd (sc fr)).1.2.2 - 1) = true then
    some ((partsCat sc fr (jsize (hd (sc fr)).1.2.2 - 1)).take (hd (sc fr)).1.2.2) else none
theorem partsCat_succ (sc : Nat → Sec) (fr m : Nat) : partsCat sc fr (m + 1) = partsCat sc fr m ++ (sc (fr + (m + 1))).drop 1 := by
  simp [partsCat, List.range_succ]
theorem partsOk_succ (sc : Nat → Sec) (fr m : Nat) : partsOk sc fr (m + 1) = (partsOk sc fr m && ((sc (fr + (m + 1))).head? == some 0)) := by
  simp [partsOk, List.range_succ]
theorem partsOk_mono {sc : Nat → Sec} {fr m m' : Nat} (h : partsOk sc fr m = false) (hm : m ≤ m') : partsOk sc fr m' = false := by
  unfold partsOk at h ⊢
  rw [List.all_eq_false] at h ⊢
  obtain ⟨i, hi, h⟩ := h
  exact ⟨i, by simp at hi ⊢; omega, h⟩
theorem partsCat_len {sc : Nat → Sec} {fr m : Nat} (h : ∀ i, i < m → (sc (fr + (i + 1))).length = 64) : (partsCat sc fr m).length = 63 * m := by
  induction m with
  | zero => rfl
  | succ m ih =>
    rw [partsCat_succ, List.length_append, ih (fun i hi => h i (by omega)), List.length_drop, h m (by omega)]
    omega
@[go_sem] theorem eq_flat3 (k : IntKind) (a b c a' b' c' : Int) : eqA (.flat 3) (.agg [.int k a, .int k b, .int k c]) (.agg [.int k a', .int k b', .int k c']) = some ((a == a') && ((b == b') && ((c == c') && true))) := by
  simp [eqA, flatEq]
theorem jsize_ge (n : Nat) : 1 ≤ jsize n ∧ n ≤ 63 * (jsize n - 1) := by unfold jsize; omega
theorem own_cut {N : Nat} {h : H} {v v' : AV} {hi : Option AV} (o : Own N h v) (e : sliceSA 1 none hi v = some v') : Own N h v' := by
  cases v <;> simp only [sliceSA] at e <;> try (cases e; done)
  · obtain ⟨p, _, rfl⟩ := Option.map_eq_some_iff.1 e
    trivial
  · rename_i ob i len es
    split at e
    case isFalse => cases e
    rename_i hes
    subst hes
    obtain ⟨p, hp, rfl⟩ := Option.map_eq_some_iff.1 e
    obtain ⟨cs, g, h1, h2, h3, h4, h5, h6, h7⟩ := o
    have hb : p.1 = 0 ∧ p.2 ≤ len := by
      unfold bounds at hp
      simp only at hp
      split at hp
      · cases hp
      · rename_i u hu
        cases hp
        refine ⟨rfl, ?_⟩
        simp only
        cases hi with
        | none => cases hu; exact Nat.le_refl _
        | some x =>
          cases x <;> simp only at hu <;> try (cases hu; done)
          split at hu
          · cases hu; omega
          · cases hu
    refine ⟨cs, g, h1, h2, h3, h4, h5, ?_, h7⟩
    rw [hb.1]
    omega
theorem next_spec {h : H} {ol o fr to ep : Nat} {gl gs : List Nat} {rv : AV} {us : List AV} {D : Dk} (wf : h.Wf) (l : LogIs h ol o fr to ep gl rv us) (d : DiskAt h o gs D) (hdead : D.dead = false) (hto : to ≤ D.kept.length) (hwl : D.waits.length < 1000000) (hep : ep < 18446744073709551616) :
    WCall E0 52 [.ptr ol 0] h fun r h' => ∃ v, r = .val (.tup [v, .bool (jnext (findS D) fr to ep us.length).isSome, .int .i64 0]) ∧ (∀ b, jnext (findS D) fr to ep us.length = some b → Bytes h' v b ∧ Own h.n h' v) ∧ Keep (Old h.n) h h' := by
  refine WCall_ws (ovn 52) U52 (by simp [f52_a]) ?_
  show WS E0 f52_c [] _ _ _
  have hbd := l.bd
  have hlb := l.b.load
  refine WS_of_seq (WS_of_ops ?_)
  simp only [f52_r0, go_sem, ↓reduceIte]
  refine WS_of_seq (WS_of_seq (WS_of_draw ?_))
  by_cases c0 : fr < to
  case neg =>
    have c0' : (to : Int) ≤ (fr : Int) := by omega
    have hj : jnext (findS D) fr to ep us.length = none := by unfold jnext; rw [if_neg (by omega)]
    simp only [f52_r1, go_sem, ↓reduceIte, Nat.reduceEqDiff, and_self, true_and, List.filter_cons, List.filter_nil, Nat.testBit, Nat.reduceShiftRight, Nat.reduceAnd, Nat.reduceBNe, Bool.not_false, Bool.not_true, Bool.false_eq_true, bne_self_eq_false, eq_self, Nat.zero_add, hlb, List.getElem?_cons_zero, List.getElem?_cons_succ, ge_iff_le, c0', decide_true]
    refine WS_of_cond ?_
    simp only [go_sem, ↓reduceIte]
    refine WS_of_seq (WS_of_ops ?_)
    simp only [f52_r2, go_sem, ↓reduceIte, Nat.reduceEqDiff]
    refine WS_of_ret ?_
    simp only [f52_a, go_sem, ↓reduceIte, Nat.reduceEqDiff, hj]
    exact ⟨_, rfl, fun b hb => (by cases hb), Keep.refl _ _⟩
  have c0' : ¬ (to : Int) ≤ (fr : Int) := by omega
  simp only [f52_r1, go_sem, ↓reduceIte, Nat.reduceEqDiff, and_self, true_and, List.filter_cons, List.filter_nil, Nat.testBit, Nat.reduceShiftRight, Nat.reduceAnd, Nat.reduceBNe, Bool.not_false, Bool.not_true, Bool.false_eq_true, bne_self_eq_false, eq_self, Nat.zero_add, hlb, List.getElem?_cons_zero, List.getElem?_cons_succ, ge_iff_le, c0', decide_false]
  refine WS_of_cond ?_
  simp only [go_sem, ↓reduceIte, Bool.false_eq_true]
  refine WS_of_skip ?_
  simp only [go_sem]
  have hread : ∀ i : Nat, i < to → D.read (i : Int) = (findS D i, 0) := fun i hi => by
    unfold Dk.read
    have hh : D.has (i : Int) = true := has_iff.2 ⟨i, rfl, by omega⟩
    rw [if_neg (by rw [hh]; simp), if_neg (by rw [hdead]; simp), Int.toNat_natCast]
  have hsl : ∀ i : Nat, i < to → (findS D i).length = 64 := fun i hi => findS_len d.ok (by omega)
  refine WS_of_seq (WS_of_draw ?_)
  simp only [f52_r3, go_sem, ↓reduceIte, Nat.reduceEqDiff, and_self, true_and, List.filter_cons, List.filter_nil, Nat.testBit, Nat.reduceShiftRight, Nat.reduceAnd, Nat.reduceBNe, Bool.not_false, Bool.not_true, Bool.false_eq_true, bne_self_eq_false, eq_self, Nat.zero_add, hlb, List.getElem?_cons_zero, List.getElem?_cons_succ]
  refine (read_spec wf d (fr : Int) hwl).mono ?_
  rintro r h1 ⟨v1, rfl, bv1, ov1, k1⟩
  rw [hread fr c0] at bv1 ⊢
  have wf1 := k1.wf wf
  have l1 := l.keep wf k1
  have hlb1 := l1.b.load
  simp only [go_sem, ↓reduceIte, Nat.reduceEqDiff, and_self, true_and, List.filter_cons, List.filter_nil, Nat.testBit, Nat.reduceShiftRight, Nat.reduceAnd, Nat.reduceBNe, Bool.not_false, Bool.not_true, Bool.false_eq_true, bne_self_eq_false, eq_self, Nat.zero_add, hlb, hlb1, List.getElem?_cons_zero, List.getElem?_cons_succ]
  refine WS_of_seq (WS_of_seq (WS_of_ops ?_))
  simp only [f52_r4, go_sem, ↓reduceIte, Nat.reduceEqDiff, (by decide : ((0 : Nat) : Int) = 0), decide_true, Bool.not_true]
  refine WS_of_cond ?_
  simp only [go_sem, ↓reduceIte, Bool.false_eq_true]
  refine WS_of_skip ?_
  simp only [go_sem]
  refine WS_of_seq (WS_of_ops ?_)
  simp only [f52_r6, go_sem, ↓reduceIte, Nat.reduceEqDiff]
  refine (hd_spec wf1 bv1 (ov1.slot wf1) (hsl fr c0)).mono ?_
  rintro r h2 ⟨rfl, k2⟩
  have wf2 := k2.wf wf1
  have hbig := hd_big (findS D fr)
  generalize hgx : hd (findS D fr) = X at hbig
  obtain ⟨⟨x1, x2, x3⟩, is⟩ := X
  simp only at hbig
  have kn : Keep (Old h2.n) h2 (h2.new [.int .u64 0, .int .u64 0, .int .u64 0]) := Keep.new (Nat.le_refl _) _
  have bn : Box h2.n [.int .u64 0, .int .u64 0, .int .u64 0] (h2.new [.int .u64 0, .int .u64 0, .int .u64 0]) := Box.new wf2 _
  have wfn := kn.wf wf2
  obtain ⟨h3, e3, b3, k3⟩ := bn.putAll (n := 3) (vs := [.int .u64 (x1 : Int), .int .u64 (x2 : Int), .int .u64 (x3 : Int)]) wfn rfl rfl rfl
  have k23 : Keep (Old h2.n) h2 h3 := kn.trans (k3.newbox wfn kn.n (Nat.le_refl _))
  have wf3 := k23.wf wf2
  have k03 : Keep (Old h.n) h h3 := (k1.trans (k2.weaken fun q hq => Nat.lt_of_lt_of_le hq k1.n)).trans (k23.weaken fun q hq => by have := k1.n; have := k2.n; have : q < h.n := hq; show q < _; omega)
  have l3 := l.keep wf k03
  have hlb3 := l3.b.load
  simp only [go_sem, ↓reduceIte, Nat.reduceEqDiff, List.getElem?_cons_zero, List.getElem?_cons_succ, e3]
  have kn4 : Keep (Old h3.n) h3 (h3.new [.int .u64 0, .int .u64 0, .int .u64 0]) := Keep.new (Nat.le_refl _) _
  have bn4 : Box h3.n [.int .u64 0, .int .u64 0, .int .u64 0] (h3.new [.int .u64 0, .int .u64 0, .int .u64 0]) := Box.new wf3 _
  have wfn4 := kn4.wf wf3
  obtain ⟨h4, e4, b4, k4⟩ := bn4.putAll (n := 3) (vs := [.int .u64 (ep : Int), .int .u64 (us.length : Int), .int .u64 (x3 : Int)]) wfn4 rfl rfl rfl
  have k34 : Keep (Old h3.n) h3 h4 := kn4.trans (k4.newbox wfn4 kn4.n (Nat.le_refl _))
  have wf4 := k34.wf wf3
  have k04 : Keep (Old h.n) h h4 := k03.trans (k34.weaken fun q hq => by have := k03.n; have : q < h.n := hq; show q < _; omega)
  have l4 := l.keep wf k04
  have hlb4 := l4.b.load
  have hlbn := (l3.keep wf3 kn4).b.load
  have hb3n := b3.keep kn4 (b3.lt wf3)
  have hwlen : IntKind.u64.wrap (us.length : Int) = (us.length : Int) := wrap_u64 (by omega) (by omega)
  have ef : afill [AV.int .u64 0, .int .u64 0, .int .u64 0] [(0, 1, .int .u64 (ep : Int)), (1, 1, .int .u64 (us.length : Int)), (2, 1, .int .u64 (x3 : Int))] = some [.int .u64 (ep : Int), .int .u64 (us.length : Int), .int .u64 (x3 : Int)] := rfl
  have hrl : lenSA rv = some us.length := l.rs.len
  refine WS_of_seq (WS_of_draw ?_)
  simp only [f52_r7, go_sem, ↓reduceIte, Nat.reduceEqDiff, and_self, true_and, List.filter_cons, List.filter_nil, Nat.testBit, Nat.reduceShiftRight, Nat.reduceAnd, Nat.reduceBNe, Bool.not_false, Bool.not_true, Bool.false_eq_true, bne_self_eq_false, eq_self, Nat.zero_add, hlb3, hlbn, b3.load, hb3n.load, hrl, hwlen, ef, e4, List.getElem?_cons_zero, List.getElem?_cons_succ]
  have b34 := b3.keep k34 (b3.lt wf3)
  refine WS_of_seq (WS_of_seq (WS_of_draw ?_))
  -- there is none
  have none_end : jnext (findS D) fr to ep us.length = none → ∀ {k : List Fr1} {s : S} {h5 : H}, Keep (Old h.n) h h5 → WS E0 (.seq (.ops f52_r9) .ret) k (atEnd f52_a.results fun r h' => ∃ v, r = .val (.tup [v, .bool (jnext (findS D) fr to ep us.length).isSome, .int .i64 0]) ∧ (∀ b, jnext (findS D) fr to ep us.length = some b → Bytes h' v b ∧ Own h.n h' v) ∧ Keep (Old h.n) h h') s h5 := by
    intro hj k s h5 k5
    refine WS_of_seq (WS_of_ops ?_)
    simp only [f52_r9, go_sem, ↓reduceIte, Nat.reduceEqDiff]
    refine WS_of_ret ?_
    simp only [f52_a, go_sem, ↓reduceIte, Nat.reduceEqDiff, hj]
    exact ⟨_, rfl, fun b hb => (by cases hb), k5⟩
  have hjn : jnext (findS D) fr to ep us.length = if is = true ∧ x1 = ep ∧ x2 = us.length ∧ x3 ≤ 4096 ∧ jsize x3 ≤ to - fr ∧ partsOk (findS D) fr (jsize x3 - 1) = true then some ((partsCat (findS D) fr (jsize x3 - 1)).take x3) else none := by
    unfold jnext
    rw [hgx]
    simp only [c0, true_and]
  have la3 : loadA h4 true 3 (.ptr h2.n 0) = some (.agg [.int .u64 (x1 : Int), .int .u64 (x2 : Int), .int .u64 (x3 : Int)]) := b34.loadAgg rfl
  have la4 : loadA h4 true 3 (.ptr h3.n 0) = some (.agg [.int .u64 (ep : Int), .int .u64 (us.length : Int), .int .u64 (x3 : Int)]) := b4.loadAgg rfl
  have hrest : ∀ (f : Nat), loadA h4 false 1 (.ptr h2.n f) = ([.int .u64 (x1 : Int), .int .u64 (x2 : Int), .int .u64 (x3 : Int)] : List AV)[f]? := fun f => b34.load _ _
  have heq : (((x1 : Int) == (ep : Int)) && (((x2 : Int) == (us.length : Int)) && (((x3 : Int) == (x3 : Int)) && true))) = decide (x1 = ep ∧ x2 = us.length) := by
    have e1 : ((x1 : Int) == (ep : Int)) = decide (x1 = ep) := by rw [Bool.eq_iff_iff]; simp; omega
    have e2 : ((x2 : Int) == (us.length : Int)) = decide (x2 = us.length) := by rw [Bool.eq_iff_iff]; simp; omega
    rw [e1, e2]
    simp
  have hsub : IntKind.i64.wrap ((to : Int) - (fr : Int)) = ((to - fr : Nat) : Int) := by rw [wrap_i64 (by omega) (by omega)]; omega
  cases is with
  | false =>
    simp only [f52_r8, go_sem, ↓reduceIte, Nat.reduceEqDiff, and_self, true_and, List.filter_cons, List.filter_nil, Nat.testBit, Nat.reduceShiftRight, Nat.reduceAnd, Nat.reduceBNe, Bool.not_false, Bool.not_true, Bool.false_eq_true, bne_self_eq_false, eq_self, Nat.zero_add, Bool.true_eq_false]
    refine WS_of_cond ?_
    simp only [go_sem, ↓reduceIte]
    exact none_end (by rw [hjn]; simp) k04
  | true =>
  by_cases c1 : x1 = ep ∧ x2 = us.length
  case neg =>
    simp only [f52_r8, go_sem, ↓reduceIte, Nat.reduceEqDiff, and_self, true_and, List.filter_cons, List.filter_nil, Nat.testBit, Nat.reduceShiftRight, Nat.reduceAnd, Nat.reduceBNe, Bool.not_false, Bool.not_true, Bool.false_eq_true, bne_self_eq_false, eq_self, Nat.zero_add, Bool.true_eq_false, la3, la4, heq, c1, decide_false]
    refine WS_of_cond ?_
    simp only [go_sem, ↓reduceIte]
    exact none_end (by rw [hjn, if_neg]; intro hx; exact c1 ⟨hx.2.1, hx.2.2.1⟩) k04
  obtain ⟨rfl, rfl⟩ := c1
  have heqT : (((x1 : Int) == (x1 : Int)) && (((us.length : Int) == (us.length : Int)) && (((x3 : Int) == (x3 : Int)) && true))) = true := by simp
  by_cases c2 : (4096 : Int) < (x3 : Int)
  · simp only [f52_r8, go_sem, ↓reduceIte, Nat.reduceEqDiff, and_self, true_and, List.filter_cons, List.filter_nil, Nat.testBit, Nat.reduceShiftRight, Nat.reduceAnd, Nat.reduceBNe, Bool.not_false, Bool.not_true, Bool.false_eq_true, bne_self_eq_false, eq_self, Nat.zero_add, Bool.true_eq_false, la3, la4, heqT, Bool.not_true, decide_true, hrest, List.getElem?_cons_zero, List.getElem?_cons_succ, c2]
    refine WS_of_cond ?_
    simp only [go_sem, ↓reduceIte]
    exact none_end (by rw [hjn, if_neg]; intro hx; have := hx.2.2.2.1; omega) k04
  have hwx : IntKind.i64.wrap (x3 : Int) = (x3 : Int) := wrap_i64 (by omega) (by omega)
  simp only [f52_r8, go_sem, ↓reduceIte, Nat.reduceEqDiff, and_self, true_and, List.filter_cons, List.filter_nil, Nat.testBit, Nat.reduceShiftRight, Nat.reduceAnd, Nat.reduceBNe, Bool.not_false, Bool.not_true, Bool.false_eq_true, bne_self_eq_false, eq_self, Nat.zero_add, Bool.true_eq_false, la3, la4, heqT, Bool.not_true, decide_true, decide_false, hrest, List.getElem?_cons_zero, List.getElem?_cons_succ, c2, hwx, hlb4, hsub]
  refine (size_spec (n := (x3 : Int)) (by omega) (by omega)).mono ?_
  rintro r h5 ⟨rfl, rfl⟩
  simp only [go_sem, ↓reduceIte, Nat.reduceEqDiff, and_self, true_and, List.filter_cons, List.filter_nil, Nat.testBit, Nat.reduceShiftRight, Nat.reduceAnd, Nat.reduceBNe, Bool.not_false, Bool.not_true, Bool.false_eq_true, bne_self_eq_false, eq_self, Nat.zero_add, Bool.true_eq_false, la3, la4, heqT, Bool.not_true, decide_true, decide_false, hrest, List.getElem?_cons_zero, List.getElem?_cons_succ, c2, hwx, hlb4, hsub, Int.toNat_natCast]
  by_cases c3 : ((to - fr : Nat) : Int) < (jsize x3 : Int)
  · simp only [go_sem, ↓reduceIte, Nat.reduceEqDiff, c3, decide_true]
    refine WS_of_cond ?_
    simp only [go_sem, ↓reduceIte]
    exact none_end (by rw [hjn, if_neg]; intro hx; have := hx.2.2.2.2.1; omega) k04
  simp only [go_sem, ↓reduceIte, Nat.reduceEqDiff, c3, decide_false]
  refine WS_of_cond ?_
  simp only [go_sem, ↓reduceIte, Bool.false_eq_true]
  refine WS_of_skip ?_
  simp only [go_sem]
  have hsz := jsize_ge x3
  have hx3 : x3 ≤ 4096 := by omega
  have hjs : jsize x3 ≤ to - fr := by omega
  refine WS_of_seq (WS_of_ops ?_)
  simp only [f52_r10, go_sem, ↓reduceIte, Nat.reduceEqDiff]
  refine WS_of_seq (WS_of_seq (WS_of_ops ?_))
  simp only [f52_r11, go_sem, ↓reduceIte, Nat.reduceEqDiff]
  generalize hH : h5 = H4 at *
  refine WS_of_block (WS_of_loop (fun m s h6 => ∃ i out, i + m = jsize x3 ∧ 1 ≤ i ∧ s 11 = .int .i64 (i : Int) ∧ s 10 = out ∧ s 0 = .ptr ol 0 ∧ s 7 = .ptr h2.n 0 ∧ Bytes h6 out (partsCat (findS D) fr (i - 1)) ∧ Own H4.n h6 out ∧ Keep (Old H4.n) H4 h6 ∧ partsOk (findS D) fr (i - 1) = true) ?_ (jsize x3 - 1) ?_)
  · rintro m s h6 ⟨i, out, him, hi1, s11, s10, s0, s7, bo, oo, k6, hok⟩
    show WS E0 f52_l18 [] _ _ _
    have wf6 := k6.wf wf4
    have k06 : Keep (Old h.n) h h6 := k04.trans (k6.weaken fun q hq => Nat.lt_of_lt_of_le hq k04.n)
    have b6 := b34.keep k6 (b34.lt wf4)
    have l6 := l.keep wf k06
    have hlb6 := l6.b.load
    have d6 := d.keep wf k06
    refine WS_of_seq (WS_of_seq (WS_of_ops ?_))
    simp only [f52_r12, go_sem, ↓reduceIte, Nat.reduceEqDiff, Nat.zero_add, s11, s7, b6.load, List.getElem?_cons_zero, List.getElem?_cons_succ, hwx]
    refine (size_spec (n := (x3 : Int)) (by omega) (by omega)).mono ?_
    rintro r h7 ⟨hh7, rfl⟩
    have hh7' := hh7.symm
    subst hh7'
    by_cases c : i < jsize x3
    · have c' : (i : Int) < (jsize x3 : Int) := by omega
      simp only [go_sem, ↓reduceIte, Nat.reduceEqDiff, Int.toNat_natCast, c', decide_true]
      refine WS_of_cond ?_
      simp only [go_sem, ↓reduceIte]
      refine WS_of_skip ?_
      simp only [go_sem]
      have hwf : IntKind.i64.wrap ((fr : Int) + (i : Int)) = ((fr + i : Nat) : Int) := by rw [wrap_i64 (by omega) (by omega)]; omega
      refine WS_of_seq (WS_of_block (WS_of_seq (WS_of_draw ?_)))
      simp only [f52_r13, go_sem, ↓reduceIte, Nat.reduceEqDiff, and_self, true_and, List.filter_cons, List.filter_nil, Nat.testBit, Nat.reduceShiftRight, Nat.reduceAnd, Nat.reduceBNe, Bool.not_false, Bool.not_true, Bool.false_eq_true, bne_self_eq_false, eq_self, Nat.zero_add, s0, s11, hlb6, List.getElem?_cons_zero, List.getElem?_cons_succ, hwf]
      refine (read_spec wf6 d6 ((fr + i : Nat) : Int) hwl).mono ?_
      rintro r h8 ⟨v8, rfl, b8, o8, k8⟩
      have hfi : fr + i < to := by omega
      rw [hread _ hfi] at b8 ⊢
      replace b8 : Bytes h8 v8 (findS D (fr + i)) := b8
      have wf8 := k8.wf wf6
      have hlb8 := (l6.keep wf6 k8).b.load
      have hl8 := hsl _ hfi
      have sl8 := o8.slot wf8
      have slo := oo.slot wf6
      have bo8 := bo.keep k8 slo
      have oo8 := oo.keep slo k8
      simp only [go_sem, ↓reduceIte, Nat.reduceEqDiff, and_self, true_and, List.filter_cons, List.filter_nil, Nat.testBit, Nat.reduceShiftRight, Nat.reduceAnd, Nat.reduceBNe, Bool.not_false, Bool.not_true, Bool.false_eq_true, bne_self_eq_false, eq_self, Nat.zero_add, s0, s11, hlb6, hlb8, List.getElem?_cons_zero, List.getElem?_cons_succ, hwf]
      have hsci : findS D (fr + i) = findS D (fr + (i - 1 + 1)) := by rw [show i - 1 + 1 = i by omega]
      have hoks := partsOk_succ (findS D) fr (i - 1)
      have hcat := partsCat_succ (findS D) fr (i - 1)
      rw [← hsci, hok, Bool.true_and] at hoks
      rw [← hsci] at hcat
      generalize hS : findS D (fr + i) = S8 at *
      obtain ⟨p, ep0, lp⟩ := Sl.at b8 (i := 0) (by omega) .i64
      have hb0 : S8[0]? = some (S8[0]'(by omega)) := List.getElem?_eq_getElem (by omega)
      have lp' : loadA h8 false 1 p = some (.int .u8 ((S8[0]'(by omega)).toNat : Int)) := by rw [lp]; simp [byteCells, hb0]
      have hhd : S8.head? = some (S8[0]'(by omega)) := by rw [← hb0]; cases S8 <;> rfl
      simp only [Int.natCast_zero] at ep0
      refine WS_of_seq (WS_of_seq (WS_of_ops ?_))
      by_cases cb : S8[0]'(by omega) = 0
      · have cb' : ((S8[0]'(by omega)).toNat : Int) = 0 := by rw [cb]; rfl
        rw [hhd, cb] at hoks
        simp only [f52_r14, go_sem, ↓reduceIte, Nat.reduceEqDiff, (by decide : ((0 : Nat) : Int) = 0), decide_true, Bool.not_true, ep0, lp', cb']
        refine WS_of_cond ?_
        simp only [go_sem, ↓reduceIte, Bool.false_eq_true]
        refine WS_of_skip ?_
        simp only [go_sem]
        obtain ⟨v9, e9, b9, s9⟩ := Bytes.drop b8 (k := 1) (by omega) .i64
        have e9' : sliceSA 1 (some (.int .i64 1)) none v8 = some v9 := e9
        have hplen : (partsCat (findS D) fr (i - 1)).length = 63 * (i - 1) := partsCat_len fun q hq => hsl _ (by omega)
        obtain ⟨v10, h10, e10, b10, o10, k10⟩ := Bytes.app (N := H4.n) wf8 (Nat.le_trans k6.n k8.n) bo8 oo8 b9 (by rw [hplen, List.length_drop]; omega)
        refine WS_of_ops ?_
        simp only [f52_r16, go_sem, ↓reduceIte, Nat.reduceEqDiff, s10, e9', e10]
        refine WS_of_ops ?_
        have hwi : IntKind.i64.wrap ((i : Int) + 1) = ((i + 1 : Nat) : Int) := by rw [wrap_i64 (by omega) (by omega)]; omega
        simp only [f52_r17, go_sem, ↓reduceIte, Nat.reduceEqDiff, s11, hwi]
        refine ⟨m - 1, by omega, i + 1, v10, by omega, by omega, rfl, rfl, s0, s7, ?_, o10, (k6.trans (k8.weaken fun q hq => Nat.lt_of_lt_of_le hq k6.n)).trans k10, ?_⟩
        · rw [show i + 1 - 1 = i - 1 + 1 by omega, hcat]; exact b10
        · rw [show i + 1 - 1 = i - 1 + 1 by omega, hoks]; rfl
      · have cb' : ¬ ((S8[0]'(by omega)).toNat : Int) = 0 := fun e => cb (by
          apply UInt8.toNat_inj.1
          show (S8[0]'(by omega)).toNat = 0
          omega)
        rw [hhd] at hoks
        have hno : partsOk (findS D) fr (jsize x3 - 1) = false := partsOk_mono (m := i - 1 + 1) (by rw [hoks]; simpa using cb) (by omega)
        have hj : jnext (findS D) fr to x1 us.length = none := by rw [hjn, if_neg]; intro hx; rw [hno] at hx; exact absurd hx.2.2.2.2.2 (by simp)
        simp only [f52_r14, go_sem, ↓reduceIte, Nat.reduceEqDiff, (by decide : ((0 : Nat) : Int) = 0), decide_true, Bool.not_true, ep0, lp', cb', decide_false, Bool.not_false]
        refine WS_of_cond ?_
        simp only [go_sem, ↓reduceIte]
        refine WS_of_seq (WS_of_ops ?_)
        simp only [f52_r15, go_sem, ↓reduceIte, Nat.reduceEqDiff]
        refine WS_of_ret ?_
        simp only [f52_a, go_sem, ↓reduceIte, Nat.reduceEqDiff, hj]
        exact ⟨_, rfl, fun b hb => (by cases hb), k06.trans (k8.weaken fun q hq => Nat.lt_of_lt_of_le hq k06.n)⟩
    · have c' : ¬ (i : Int) < (jsize x3 : Int) := by omega
      obtain rfl : i = jsize x3 := by omega
      simp only [go_sem, ↓reduceIte, Nat.reduceEqDiff, Int.toNat_natCast, c', decide_false]
      refine WS_of_cond ?_
      simp only [go_sem, ↓reduceIte, Bool.false_eq_true]
      refine WS_of_exit ?_
      simp only [go_sem, ↓reduceIte]
      have hplen : (partsCat (findS D) fr (jsize x3 - 1)).length = 63 * (jsize x3 - 1) := partsCat_len fun q hq => hsl _ (by omega)
      obtain ⟨v9, e9, b9, s9⟩ := Bytes.take bo (k := x3) (by omega) .u64
      have o9 := own_cut oo e9
      refine WS_of_seq (WS_of_ops ?_)
      simp only [f52_r19, go_sem, ↓reduceIte, Nat.reduceEqDiff, Nat.zero_add, s10, s7, b6.load, List.getElem?_cons_zero, List.getElem?_cons_succ, e9]
      refine WS_of_ret ?_
      have hj : jnext (findS D) fr to x1 us.length = some ((partsCat (findS D) fr (jsize x3 - 1)).take x3) := by
        rw [hjn, if_pos ⟨rfl, rfl, rfl, hx3, hjs, hok⟩]
      simp only [f52_a, go_sem, ↓reduceIte, Nat.reduceEqDiff, hj]
      refine ⟨_, rfl, fun b hb => ?_, k06⟩
      cases hb
      exact ⟨b9, o9.less k04.n⟩
  · exact ⟨1, .nils, by omega, Nat.le_refl _, rfl, rfl, rfl, rfl, Sl.nil _ _, trivial, Keep.refl _ _, rfl⟩
end Go.Proofs.Ytmfbememiffkjaa.Ev.C

/- A journal opened; its records told, walked. -/
namespace Go.Proofs.Ytmfbememiffkjaa.Ev.C
open Go Go.Proofs.Ytmfbememiffkjaa.Ev
set_option linter.unusedSimpArgs false
set_option linter.unusedVariables false
theorem jnext_some {sc : Nat → Sec} {fr to ep k : Nat} {b : Sec} (h : jnext sc fr to ep k = some b) (hl : ∀ i, i < to → (sc i).length = 64) : fr < to ∧ b.length ≤ 4096 ∧ jsize b.length ≤ to - fr := by
  unfold jnext at h
  split at h
  case isFalse => cases h
  rename_i hc
  cases h
  obtain ⟨c0, _, _, _, c4, c5, _⟩ := hc
  have hsz := jsize_ge (hd (sc fr)).1.2.2
  have hp : (partsCat sc fr (jsize (hd (sc fr)).1.2.2 - 1)).length = 63 * (jsize (hd (sc fr)).1.2.2 - 1) := partsCat_len fun q hq => hl _ (by omega)
  have hlen : ((partsCat sc fr (jsize (hd (sc fr)).1.2.2 - 1)).take (hd (sc fr)).1.2.2).length = (hd (sc fr)).1.2.2 := by rw [List.length_take]; omega
  rw [hlen]
  exact ⟨c0, c4, c5⟩
def jrun (sc : Nat → Sec) (to ep : Nat) : Nat → Nat → List Sec → List Sec × Nat
  | 0, fr, K => (K, fr)
  | f + 1, fr, K => match jnext sc fr to ep K.length with
    | some b => jrun sc to ep f (fr + jsize b.length) (K ++ [b])
    | none => (K, fr)
theorem jrun_fuel {sc : Nat → Sec} {to ep : Nat} (hl : ∀ i, i < to → (sc i).length = 64) : ∀ (f f' fr : Nat) (K : List Sec), to - fr < f → to - fr < f' → jrun sc to ep f fr K = jrun sc to ep f' fr K
  | 0, f', fr, K, h, _ => by omega
  | f + 1, 0, fr, K, _, h => by omega
  | f + 1, f' + 1, fr, K, h1, h2 => by
    simp only [jrun]
    cases e : jnext sc fr to ep K.length with
    | none => rfl
    | some b =>
      obtain ⟨a, _, c⟩ := jnext_some e hl
      have := (jsize_ge b.length).1
      exact jrun_fuel hl f f' _ _ (by omega) (by omega)
def jopen (sc : Nat → Sec) (fr to ep : Nat) : List Sec × Nat := jrun sc to ep (to - fr + 1) fr []
theorem own_apart {h h' : H} (wf' : h'.Wf) {v : AV} (o : Own h.n h' v) (k : Keep (Old h.n) h h') {gs : List Nat} (hg : ∀ g ∈ gs, g < h.n ∧ Root g h) : Slot (Apart gs h') h' v :=
  o.away wf' fun g hgm => ⟨(hg g hgm).1, (hg g hgm).2.keep k (hg g hgm).1⟩
theorem jopen_specE {h : H} {o fr to ep : Nat} {gs : List Nat} {D : Dk} (E : List Nat) (hE : ∀ g ∈ E, g < h.n ∧ Root g h) (wf : h.Wf) (d : DiskAt h o gs D) (hdead : D.dead = false) (hft : fr ≤ to) (hto : to ≤ D.kept.length) (hwl : D.waits.length < 1000000) (hep : ep < 18446744073709551616) :
    WCall E0 32 [.ptr o 0, .int .i64 (fr : Int), .int .i64 (to : Int), .int .u64 (ep : Int)] h fun r h' => ∃ ol gl rv us, r = .val (.tup [.ptr ol 0, .int .i64 0]) ∧ LogIs h' ol o (jopen (findS D) fr to ep).2 to ep gl rv us ∧ Recs (gl ++ gs ++ E) h' us (jopen (findS D) fr to ep).1 ∧
      Keep (Old h.n) h h' ∧ (∀ g ∈ gl, h.n ≤ g) ∧ (jopen (findS D) fr to ep).2 ≤ to ∧ fr ≤ (jopen (findS D) fr to ep).2 ∧ us.length ≤ (jopen (findS D) fr to ep).2 - fr := by
  refine WCall_ws (ovn 32) U32 (by simp [f32_a]) ?_
  show WS E0 f32_c [] _ _ _
  have hok := d.ok
  have hn2 := hok.n2
  refine WS_of_seq (WS_of_ops ?_)
  simp only [f32_r0, go_sem, ↓reduceIte]
  refine WS_of_seq (WS_of_seq (WS_of_ops ?_))
  have c1 : ¬ (fr : Int) < 0 := by omega
  have c2 : ¬ (to : Int) < (fr : Int) := by omega
  have c3 : ¬ (D.kept.length : Int) < (to : Int) := by omega
  simp only [f32_r1, go_sem, ↓reduceIte, Nat.reduceEqDiff, c1, c2, decide_false, Bool.false_eq_true]
  refine (len_spec d).mono ?_
  rintro r h0 ⟨rfl, rfl⟩
  simp only [go_sem, ↓reduceIte, Nat.reduceEqDiff, c3, decide_false, Bool.false_eq_true]
  refine WS_of_cond ?_
  simp only [go_sem, ↓reduceIte, Bool.false_eq_true]
  refine WS_of_skip ?_
  simp only [go_sem]
  have ef : afill [AV.nilp, .int .i64 0, .int .i64 0, .int .u64 0, .nils] [(0, 1, .ptr o 0), (1, 1, .int .i64 (fr : Int)), (2, 1, .int .i64 (to : Int)), (3, 1, .int .u64 (ep : Int))] = some [.ptr o 0, .int .i64 (fr : Int), .int .i64 (to : Int), .int .u64 (ep : Int), .nils] := rfl
  have kn : Keep (Old h0.n) h0 (h0.new [.ptr o 0, .int .i64 (fr : Int), .int .i64 (to : Int), .int .u64 (ep : Int), .nils]) := Keep.new (Nat.le_refl _) _
  have bn : Box h0.n [.ptr o 0, .int .i64 (fr : Int), .int .i64 (to : Int), .int .u64 (ep : Int), .nils] (h0.new [.ptr o 0, .int .i64 (fr : Int), .int .i64 (to : Int), .int .u64 (ep : Int), .nils]) := Box.new wf _
  have nn : (h0.new [.ptr o 0, .int .i64 (fr : Int), .int .i64 (to : Int), .int .u64 (ep : Int), .nils]).n = h0.n + 1 := rfl
  refine WS_of_seq (WS_of_ops ?_)
  simp only [f32_r3, go_sem, ↓reduceIte, Nat.reduceEqDiff, ef, agg_cells]
  generalize h0.new [.ptr o 0, .int .i64 (fr : Int), .int .i64 (to : Int), .int .u64 (ep : Int), .nils] = h1 at kn bn nn ⊢
  have hsl : ∀ i, i < to → (findS D i).length = 64 := fun i hi => findS_len hok (by omega)
  have hgs : ∀ g ∈ gs ++ E, g < h0.n ∧ Root g h0 := fun g hg => by
    rcases List.mem_append.1 hg with x | x
    · exact ⟨d.lt wf g x, d.root g x⟩
    · exact hE g x
  refine WS_of_block (WS_of_loop (fun m s h2 => ∃ f K gl rv us, m = to - f + 1 ∧ s 10 = .ptr h0.n 0 ∧ LogIs h2 h0.n o f to ep gl rv us ∧ Recs (gl ++ gs ++ E) h2 us K ∧ Keep (Old h0.n) h0 h2 ∧ (∀ g ∈ gl, h0.n ≤ g) ∧ f ≤ to ∧ fr ≤ f ∧ us.length ≤ f - fr ∧
    jrun (findS D) to ep (to - f + 1) f K = jopen (findS D) fr to ep) ?_ (to - fr + 1) ?_)
  · rintro m s h2 ⟨f, K, gl, rv, us, rfl, s10, l, rc, k, hg, hft', hff, hul, hj⟩
    show WS E0 f32_l10 [] _ _ _
    have wf2 := k.wf wf
    have d2 := d.keep wf k
    refine WS_of_block (WS_of_seq (WS_of_ops ?_))
    simp only [f32_r4, go_sem, ↓reduceIte, Nat.reduceEqDiff, s10]
    refine (next_spec wf2 l d2 hdead hto hwl hep).mono ?_
    rintro r h3 ⟨v, rfl, hv, k3⟩
    have wf3 := k3.wf wf2
    have hgr : ∀ g ∈ gl ++ gs ++ E, g < h2.n ∧ Root g h2 := fun g hg => by
      rw [List.append_assoc] at hg
      rcases List.mem_append.1 hg with x | x
      · exact ⟨l.lt wf2 g x, l.root g x⟩
      · have := hgs g x
        exact ⟨Nat.lt_of_lt_of_le this.1 k.n, this.2.keep k this.1⟩
    have l3 := l.keep wf2 k3
    have rc3 := rc.next wf2 (KeepA.of k3) (Next.refl _ _)
    simp only [go_sem, ↓reduceIte, Nat.reduceEqDiff, List.getElem?_cons_zero, List.getElem?_cons_succ]
    refine WS_of_seq (WS_of_block (WS_of_seq (WS_of_ops ?_)))
    simp only [f32_r5, go_sem, ↓reduceIte, Nat.reduceEqDiff, decide_true, Bool.not_true]
    refine WS_of_cond ?_
    simp only [go_sem, ↓reduceIte, Bool.false_eq_true]
    refine WS_of_seq (WS_of_ops ?_)
    unfold jrun at hj
    rw [← rc.1] at hj
    cases hx : jnext (findS D) f to ep us.length with
    | none =>
      rw [hx] at hj
      simp only at hj
      simp only [f32_r7, go_sem, ↓reduceIte, Nat.reduceEqDiff, Option.isSome_none, Bool.not_false]
      refine WS_of_cond ?_
      simp only [go_sem, ↓reduceIte]
      refine WS_of_seq (WS_of_ops ?_)
      simp only [f32_r8, go_sem, ↓reduceIte, Nat.reduceEqDiff, s10]
      refine WS_of_ret ?_
      simp only [f32_a, go_sem, ↓reduceIte, Nat.reduceEqDiff]
      rw [← hj]
      exact ⟨_, gl, rv, us, rfl, l3, rc3, k.trans (k3.weaken fun q hq => Nat.lt_of_lt_of_le hq k.n), hg, hft', hff, hul⟩
    | some b =>
      rw [hx] at hj hv
      simp only at hj
      obtain ⟨bv, ov⟩ := hv b rfl
      obtain ⟨q1, q2, q3⟩ := jnext_some hx hsl
      have hj1 := (jsize_ge b.length).1
      simp only [f32_r7, go_sem, ↓reduceIte, Nat.reduceEqDiff, Option.isSome_some, Bool.not_true]
      refine WS_of_cond ?_
      simp only [go_sem, ↓reduceIte, Bool.false_eq_true]
      refine WS_of_skip ?_
      simp only [go_sem]
      refine WS_of_ops ?_
      have svA := own_apart wf3 ov k3 hgr
      have sv := apart_less (gs' := gl) svA (fun g hg => by simp [hg])
      simp only [f32_r9, go_sem, ↓reduceIte, Nat.reduceEqDiff, s10]
      refine (jput_spec wf3 l3 bv sv (by omega) (by omega) (by omega)).mono ?_
      rintro r h4 ⟨gl', rv', rfl, l4, k4, n4⟩
      have wf4 := k4.wf wf3
      have kF : KeepA (gl ++ gs ++ E) h3 h4 := k4.mono fun g hg => by simp [hg]
      have nF : Next (gl ++ gs ++ E) (gl' ++ gs ++ E) h3 := fun g hg => by
        rw [List.append_assoc] at hg
        rcases List.mem_append.1 hg with x | x
        · rcases n4 g x with y | y
          · exact .inl (by simp [y])
          · exact .inr y
        · exact .inl (by rw [List.append_assoc]; exact List.mem_append_right _ x)
      have rc4 := rc3.next wf3 kF nF
      simp only [go_sem, ↓reduceIte, Nat.reduceEqDiff]
      refine ⟨to - (f + jsize b.length) + 1, by omega, f + jsize b.length, K ++ [b], gl', rv', us ++ [v], rfl, s10, l4, ⟨by simp [rc.1], ?_⟩, (k.trans (k3.weaken fun q hq => Nat.lt_of_lt_of_le hq k.n)).trans (k4.old wf3 (Nat.le_trans k.n k3.n) hg), ?_, by omega, by omega, by simp; omega, ?_⟩
      · intro i u hu
        by_cases hi : i < us.length
        · rw [List.getElem?_append_left hi] at hu
          have := rc4.2 i u hu
          rw [List.getD_eq_getElem?_getD, List.getElem?_append_left (by rw [← rc.1]; exact hi), ← List.getD_eq_getElem?_getD]
          exact this
        · rw [List.getElem?_append_right (by omega)] at hu
          have hi' : i = us.length := by
            have := (List.getElem?_eq_some_iff.1 hu).1
            simp at this
            omega
          subst hi'
          simp at hu
          subst hu
          rw [List.getD_eq_getElem?_getD, List.getElem?_append_right (by rw [rc.1]; exact Nat.le_refl _), rc.1]
          simp only [Nat.sub_self, List.getElem?_cons_zero, Option.getD_some]
          exact ⟨bv.keep k4 sv, Slot.next wf3 svA kF nF⟩
      · intro g hgm
        rcases n4 g hgm with x | x
        · exact hg g x
        · exact Nat.le_trans k.n (Nat.le_trans k3.n x)
      · rw [← hj]
        exact jrun_fuel hsl _ _ _ _ (by omega) (by omega)
  · refine ⟨fr, [], [h0.n], .nils, [], rfl, rfl, ⟨bn, Sl.nil _ _, .inl ⟨rfl, rfl, rfl⟩, by simp; omega⟩, ⟨rfl, fun i u hu => by simp at hu⟩, kn, by simp, hft, Nat.le_refl _, by simp, rfl⟩
theorem jopen_spec {h : H} {o fr to ep : Nat} {gs : List Nat} {D : Dk} (wf : h.Wf) (d : DiskAt h o gs D) (hdead : D.dead = false) (hft : fr ≤ to) (hto : to ≤ D.kept.length) (hwl : D.waits.length < 1000000) (hep : ep < 18446744073709551616) :
    WCall E0 32 [.ptr o 0, .int .i64 (fr : Int), .int .i64 (to : Int), .int .u64 (ep : Int)] h fun r h' => ∃ ol gl rv us, r = .val (.tup [.ptr ol 0, .int .i64 0]) ∧ LogIs h' ol o (jopen (findS D) fr to ep).2 to ep gl rv us ∧ Recs (gl ++ gs) h' us (jopen (findS D) fr to ep).1 ∧
      Keep (Old h.n) h h' ∧ (∀ g ∈ gl, h.n ≤ g) ∧ (jopen (findS D) fr to ep).2 ≤ to ∧ fr ≤ (jopen (findS D) fr to ep).2 ∧ us.length ≤ (jopen (findS D) fr to ep).2 - fr := by
  have := jopen_specE [] (by simp) wf d hdead hft hto hwl hep
  simpa only [List.append_nil] using this
theorem jopen_nil {h : H} {fr to ep : Int} : WCall E0 32 [.nilp, .int .i64 fr, .int .i64 to, .int .u64 ep] h fun r h' => h' = h ∧ r = .val (.tup [.nilp, .int .i64 1]) := by
  refine WCall_ws (ovn 32) U32 (by simp [f32_a]) ?_
  show WS E0 f32_c [] _ _ _
  refine WS_of_seq (WS_of_ops ?_)
  simp only [f32_r0, go_sem, ↓reduceIte]
  refine WS_of_seq (WS_of_seq (WS_of_ops ?_))
  simp only [f32_r1, go_sem, ↓reduceIte, Nat.reduceEqDiff, Bool.true_eq_false]
  refine WS_of_cond ?_
  simp only [go_sem, ↓reduceIte]
  refine WS_of_seq (WS_of_ops ?_)
  simp only [f32_r2, go_sem, ↓reduceIte, Nat.reduceEqDiff]
  refine WS_of_ret ?_
  simp only [f32_a, go_sem, ↓reduceIte, Nat.reduceEqDiff]
  exact ⟨trivial, trivial⟩
end Go.Proofs.Ytmfbememiffkjaa.Ev.C

/- Records told, records compared, records few; walked. -/
namespace Go.Proofs.Ytmfbememiffkjaa.Ev.C
open Go Go.Proofs.Ytmfbememiffkjaa.Ev
set_option linter.unusedSimpArgs false
set_option linter.unusedVariables false
/-- byte slices in a slice -/
structure BRow (h : H) (wv : AV) (us : List AV) (K : List Sec) : Prop where
  len : us.length = K.length
  sl : Sl h 1 wv us.length us
  slot : Slot (Old h.n) h wv
  at' : ∀ (i : Nat) (u : AV), us[i]? = some u → Bytes h u (K.getD i []) ∧ Slot (Old h.n) h u
theorem BRow.keep {h h' : H} {wv : AV} {us : List AV} {K : List Sec} (w : BRow h wv us K) (k : Keep (Old h.n) h h') : BRow h' wv us K :=
  ⟨w.len, w.sl.keep k w.slot, w.slot.keep k fun o ho => Nat.lt_of_lt_of_le ho k.n, fun i u hu => ⟨(w.at' i u hu).1.keep k (w.at' i u hu).2, (w.at' i u hu).2.keep k fun o ho => Nat.lt_of_lt_of_le ho k.n⟩⟩
def ElemsO (N g : Nat) (h : H) (us : List AV) (K : List Sec) : Prop := ∀ (i : Nat) (u : AV), us[i]? = some u → Bytes h u (K.getD i []) ∧ (u = .nils ∨ ∃ ge, ge ≠ g ∧ N ≤ ge ∧ Grp ge h u)
theorem app_elemO {h : H} (wf : h.Wf) {N j : Nat} {wv v : AV} {us : List AV} {K : List Sec} (hN : N ≤ h.n) (hj : us.length = j) (hbig : j < 1000000) (a : Sl h 1 wv j us) (own : (wv = .nils ∧ us = []) ∨ ∃ g, N ≤ g ∧ Grp g h wv ∧ ElemsO N g h us K)
    (bv : Bytes h v (K.getD j [])) {N2 : Nat} (ov : Own N2 h v) (hN2 : N ≤ N2) (hgn : ∀ g, Grp g h wv → g < N2) :
    ∃ v' h' g, appendA (h.new [v]) 1 wv (.slice h.n 0 1 1) = some (v', h') ∧ Sl h' 1 v' (j + 1) (us ++ [v]) ∧ N ≤ g ∧ Grp g h' v' ∧ ElemsO N g h' (us ++ [v]) K ∧ Keep (Old N) h h' := by
  have hv := one_of_len bv.len
  have kn : Keep (Old h.n) h (h.new [v]) := Keep.new (Nat.le_refl _) _
  have wfn := kn.wf wf
  have hnn : (h.new [v]).n = h.n + 1 := rfl
  have sb : Sl (h.new [v]) 1 (.slice h.n 0 1 1) 1 [v] := by
    have := Sl.new (es := 1) (n := 1) wf (vs := [v]) (by simp)
    simpa using this
  generalize h.new [v] = h1 at kn wfn hnn sb ⊢
  have slv := ov.slot wf
  have bv1 := bv.keep kn slv
  have ov1 := ov.keep slv kn
  have ovg := ov1.grp
  rcases own with ⟨rfl, rfl⟩ | ⟨g, hNg, gg, el⟩
  · have hj0 : j = 0 := by simpa using hj.symm
    subst hj0
    obtain ⟨v', h2, e, s2, o2, k2⟩ := append_own (N := h1.n) wfn (Nat.le_refl _) (Sl.nil h1 1) (by trivial) sb (by simp [hv.1]) (by omega)
    rcases o2.grp with rfl | ⟨g, hg, g2⟩
    · have := not_nils s2; omega
    · have sv1 := ov1.slot wfn
      refine ⟨v', h2, g, e, s2, by omega, g2, ?_, (kn.weaken fun q hq => Nat.lt_of_lt_of_le hq hN).trans (k2.weaken fun q hq => by have : q < N := hq; show q < _; omega)⟩
      intro i u hu
      cases i with
      | succ i => simp at hu
      | zero =>
        simp at hu
        subst hu
        refine ⟨bv1.keep k2 sv1, ?_⟩
        rcases ovg with e | ⟨gv, hgv, gvv⟩
        · exact .inl e
        · have := gvv.lt wfn
          exact .inr ⟨gv, by omega, by omega, gvv.keep sv1 k2⟩
  · have slw := (gg.own wf (Nat.zero_le _)).slot wf
    have a1 := a.keep kn slw
    have gg1 := gg.keep slw kn
    obtain ⟨v', h2, e, s2, g2, k2⟩ := append_grp wfn a1 gg1 sb (by simp [hv.1]) (by omega)
    have hr : ∀ x ∈ [g], Root x h1 := by simpa using gg1.root
    have hg2 := hgn g gg
    refine ⟨v', h2, g, e, s2, hNg, g2, ?_, (kn.weaken fun q hq => Nat.lt_of_lt_of_le hq hN).trans (k2.old wfn (by omega) (by simpa using hNg))⟩
    intro i u hu
    by_cases hi : i < us.length
    · rw [List.getElem?_append_left hi] at hu
      obtain ⟨bu, hue⟩ := el i u hu
      rcases hue with rfl | ⟨ge, ne, hge, geu⟩
      · exact ⟨(bu.keep kn trivial).keep k2 trivial, .inl rfl⟩
      · have su := (geu.own wf (Nat.zero_le _)).slot wf
        have geu1 := geu.keep su kn
        have su1 := geu1.away wfn (gs := [g]) (by simpa using ne) hr
        exact ⟨(bu.keep kn su).keep k2 su1, .inr ⟨ge, ne, hge, geu1.keep su1 k2⟩⟩
    · rw [List.getElem?_append_right (by omega)] at hu
      have hi' : i = us.length := by
        have := (List.getElem?_eq_some_iff.1 hu).1
        simp at this
        omega
      subst hi'
      simp at hu
      subst hu
      rw [hj]
      rcases ovg with rfl | ⟨gv, hgv, gvv⟩
      · exact ⟨bv1.keep k2 trivial, .inl rfl⟩
      · have ne : gv ≠ g := by omega
        have su1 := gvv.away wfn (gs := [g]) (by simpa using ne) hr
        exact ⟨bv1.keep k2 su1, .inr ⟨gv, ne, by omega, gvv.keep su1 k2⟩⟩
theorem records_spec {h : H} {ol o fr to ep : Nat} {gl F : List Nat} {rv : AV} {us : List AV} {K : List Sec} (wf : h.Wf) (l : LogIs h ol o fr to ep gl rv us) (rc : Recs F h us K) (hul : us.length < 1000000) (hK : ∀ b ∈ K, b.length < 1000000) :
    WCall E0 36 [.ptr ol 0] h fun r h' => ∃ v vs, r = .val v ∧ BRow h' v vs K ∧ Keep (Old h.n) h h' := by
  refine WCall_ws (ovn 36) U36 (by simp [f36_a]) ?_
  show WS E0 f36_c [] _ _ _
  refine WS_of_seq (WS_of_ops ?_)
  simp only [f36_r0, go_sem, ↓reduceIte]
  refine WS_of_seq (WS_of_seq (WS_of_ops ?_))
  simp only [f36_r1, go_sem, ↓reduceIte, Nat.reduceEqDiff]
  refine WS_of_cond ?_
  simp only [go_sem, ↓reduceIte, Bool.false_eq_true]
  refine WS_of_skip ?_
  simp only [go_sem]
  refine WS_of_seq (WS_of_ops ?_)
  simp only [f36_r3, go_sem, ↓reduceIte, Nat.reduceEqDiff]
  have hrl : lenSA rv = some us.length := l.rs.len
  refine WS_of_seq (WS_of_seq (WS_of_ops ?_))
  simp only [f36_r4, go_sem, ↓reduceIte, Nat.reduceEqDiff, Nat.zero_add, l.b.load, List.getElem?_cons_zero, List.getElem?_cons_succ, hrl]
  refine WS_of_block (WS_of_loop (fun m s h2 => ∃ j wv vs, j + m = us.length ∧ vs.length = j ∧ s 13 = .int .i64 (j : Int) ∧ s 12 = .int .i64 (us.length : Int) ∧ s 11 = rv ∧ s 3 = wv ∧ Keep (Old h.n) h h2 ∧ Sl h2 1 wv j vs ∧
    ((wv = .nils ∧ vs = []) ∨ ∃ g, h.n ≤ g ∧ Grp g h2 wv ∧ ElemsO h.n g h2 vs K)) ?_ us.length ?_)
  · rintro m s h2 ⟨j, wv, vs, hjm, hvj, s13, s12, s11, s3, k, sl, own⟩
    show WS E0 f36_l9 [] _ _ _
    have wf2 := k.wf wf
    have l2 := l.keep wf k
    have rc2 := rc.next wf (KeepA.of k) (Next.refl _ _)
    refine WS_of_seq (WS_of_ops ?_)
    by_cases c : j < us.length
    · have c' : (j : Int) < (us.length : Int) := by omega
      simp only [f36_r5, go_sem, ↓reduceIte, Nat.reduceEqDiff, s13, s12, c', decide_true]
      refine WS_of_seq (WS_of_cond ?_)
      simp only [go_sem, ↓reduceIte]
      refine WS_of_skip ?_
      simp only [go_sem]
      obtain ⟨p, ep', lp⟩ := l2.rs.at c .i64
      have hju : us[j]? = some (us[j]'c) := List.getElem?_eq_getElem c
      rw [hju] at lp
      obtain ⟨bu, su⟩ := rc2.2 j _ hju
      refine WS_of_seq (WS_of_block (WS_of_seq (WS_of_ops ?_)))
      simp only [f36_r6, go_sem, ↓reduceIte, Nat.reduceEqDiff, s11, s13, ep', lp]
      refine WS_of_ops ?_
      have hkl : (K.getD j []).length < 1000000 := by
        rw [List.getD_eq_getElem?_getD, List.getElem?_eq_getElem (by rw [← rc.1]; exact c), Option.getD_some]
        exact hK _ (List.getElem_mem _)
      simp only [f36_r7, go_sem, ↓reduceIte, Nat.reduceEqDiff]
      refine (cloneb_spec wf2 bu su.old (by omega)).mono ?_
      rintro r h3 ⟨v3, rfl, b3, o3, k3⟩
      have wf3 := k3.wf wf2
      have hv3 := one_of_len b3.len
      have ef : afill (zeros [AV.nils] (1 * 1)) [(0, 1, v3)] = some [v3] := by
        have hz : zeros [AV.nils] (1 * 1) = [AV.nils] := rfl
        simp only [hz, afill, hv3.2]
        rfl
      have sl3 : Sl h3 1 wv j vs := by
        rcases own with ⟨rfl, rfl⟩ | ⟨g, x1, x2, x3⟩
        · exact sl.keep k3 (by trivial)
        · exact sl.keep k3 ((x2.own wf2 (Nat.zero_le _)).slot wf2)
      have own3 : (wv = .nils ∧ vs = []) ∨ ∃ g, h.n ≤ g ∧ Grp g h3 wv ∧ ElemsO h.n g h3 vs K := by
        rcases own with x | ⟨g, x1, x2, x3⟩
        · exact .inl x
        · refine .inr ⟨g, x1, x2.keep ((x2.own wf2 (Nat.zero_le _)).slot wf2) k3, fun i u hu => ?_⟩
          obtain ⟨y1, y2⟩ := x3 i u hu
          rcases y2 with rfl | ⟨ge, y2, y3, y4⟩
          · exact ⟨y1.keep k3 trivial, .inl rfl⟩
          · have s4 := (y4.own wf2 (Nat.zero_le _)).slot wf2
            exact ⟨y1.keep k3 s4, .inr ⟨ge, y2, y3, y4.keep s4 k3⟩⟩
      obtain ⟨v', h4, g, ea, sl4, hg4, g4, el4, k4⟩ := app_elemO wf3 (Nat.le_trans k.n k3.n) hvj (by omega) sl3 own3 b3 o3 k.n (fun g hgg => by
        rcases own with ⟨rfl, _⟩ | ⟨g', x1, x2, x3⟩
        · exact hgg.elim
        · have hg' := x2.keep ((x2.own wf2 (Nat.zero_le _)).slot wf2) k3
          have e : g = g' := by
            cases wv <;> first | exact hgg.elim | skip
            obtain ⟨_, z1, _⟩ := hgg
            obtain ⟨_, z2, _⟩ := hg'
            rw [z1] at z2; cases z2; rfl
          rw [e]
          exact x2.lt wf2)
      simp only [go_sem, ↓reduceIte, Nat.reduceEqDiff, s3, ef, ea]
      refine WS_of_ops ?_
      have hwj : IntKind.i64.wrap ((j : Int) + 1) = ((j + 1 : Nat) : Int) := by rw [wrap_i64 (by omega) (by omega)]; omega
      simp only [f36_r8, go_sem, ↓reduceIte, Nat.reduceEqDiff, s13, hwj]
      exact ⟨m - 1, by omega, j + 1, v', vs ++ [v3], by omega, by simp [hvj], rfl, s12, s11, rfl, (k.trans (k3.weaken fun q hq => Nat.lt_of_lt_of_le hq k.n)).trans k4, sl4, .inr ⟨g, hg4, g4, el4⟩⟩
    · have c' : ¬ (j : Int) < (us.length : Int) := by omega
      obtain rfl : j = us.length := by omega
      simp only [f36_r5, go_sem, ↓reduceIte, Nat.reduceEqDiff, s13, s12, c', decide_false]
      refine WS_of_seq (WS_of_cond ?_)
      simp only [go_sem, ↓reduceIte, Bool.false_eq_true]
      refine WS_of_exit ?_
      simp only [go_sem, ↓reduceIte]
      refine WS_of_seq (WS_of_ops ?_)
      simp only [f36_r10, go_sem, ↓reduceIte, Nat.reduceEqDiff, s3]
      refine WS_of_ret ?_
      simp only [f36_a, go_sem, ↓reduceIte, Nat.reduceEqDiff]
      rcases own with ⟨rfl, rfl⟩ | ⟨g, x1, x2, x3⟩
      · simp at hvj
        exact ⟨_, [], rfl, ⟨by rw [← rc.1]; simp [hvj.symm], Sl.nil _ _, trivial, fun i u hu => by simp at hu⟩, k⟩
      · refine ⟨_, vs, rfl, ⟨by rw [hvj, rc.1], by rw [hvj]; exact sl, (x2.own wf2 (Nat.zero_le _)).slot wf2, fun i u hu => ?_⟩, k⟩
        obtain ⟨y1, y2⟩ := x3 i u hu
        rcases y2 with rfl | ⟨ge, y2, y3, y4⟩
        · exact ⟨y1, trivial⟩
        · exact ⟨y1, (y4.own wf2 (Nat.zero_le _)).slot wf2⟩
  · exact ⟨0, .nils, [], by omega, rfl, rfl, rfl, rfl, rfl, Keep.refl _ _, Sl.nil _ _, .inl ⟨rfl, rfl⟩⟩
end Go.Proofs.Ytmfbememiffkjaa.Ev.C
