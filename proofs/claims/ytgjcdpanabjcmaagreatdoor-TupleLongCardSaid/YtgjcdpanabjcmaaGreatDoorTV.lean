/- A tuple's key, and how two tuples stand. -/
import Derived.Test.YtgjcdpanabjcmaaGreatDoorTW
namespace Go.Proofs.YtgjcdpanabjcmaaGreatDoor.Ev.C
open Go Go.Proofs.YtgjcdpanabjcmaaGreatDoor.Ev
set_option linter.unusedSimpArgs false
set_option linter.unusedVariables false
theorem join_snoc {xs : List T8} (y sep : T8) (h : xs ≠ []) : Lib.join (xs ++ [y]) sep = Lib.join xs sep ++ (sep ++ y) := by
  cases xs with
  | nil => exact absurd rfl h
  | cons x r => rw [List.cons_append, Lib.join_cons, Lib.join_cons]; simp [Lib.joinTail]
theorem strsOf_strCells : ∀ l : List T8, strsOf (strCells l) = some l
  | [] => rfl
  | s :: r => by
    show (strsOf (strCells r)).map (s :: ·) = _
    rw [strsOf_strCells r]; rfl
/-- a tuple's key -/
def keyT (a b c d e g : T8) : T8 := Lib.join [a, b, c, d, e, g] [0]
theorem keyT_eq (a b c d e g : T8) : keyT a b c d e g = a ++ 0 :: (b ++ 0 :: (c ++ 0 :: (d ++ 0 :: (e ++ 0 :: g)))) := by
  unfold keyT; rw [Lib.join_cons]; simp [Lib.joinTail]
def keyF : List AV → Option AV
  | [.agg [.str a, .str b, .str c, .str d, .str e, .str g]] => if (keyT a b c d e g).length ≤ 1000000 then some (.str (keyT a b c d e g)) else none
  | _ => none
theorem key_walk (args : List AV) (v : AV) (ee : keyF args = some v) : plainV v = true ∧ ∀ h : H, h.Wf → WCall (EL LE) n_tuple_Key args h (fun r _ => r = .val v) := by
  unfold keyF at ee
  split at ee
  case h_2 => cases ee
  rename_i a b c d e g
  split at ee
  case isFalse => cases ee
  rename_i hc
  cases ee
  refine ⟨rfl, fun h wf => ?_⟩
  have hl : a.length < 1000000 ∧ b.length < 1000000 ∧ c.length < 1000000 := by
    have := hc; rw [keyT_eq] at this; simp at this; omega
  have hl2 : d.length < 1000000 ∧ e.length < 1000000 ∧ g.length < 1000000 := by
    have := hc; rw [keyT_eq] at this; simp at this; omega
  refine WCall_ws ((EL_ov _ _).trans rfl) (EL_T T_tuple_Key) (by simp [tuple_Key_a]) ?_
  refine WS_of_seq (WS_of_ops ?_)
  simp only [tuple_Key_r0, go_sem, ↓reduceIte, Nat.reduceEqDiff, enterS, List.getD_cons_zero, List.getD_cons_succ, AV.cells]
  have b1 := Box.new wf (six a b c d e g)
  have wf1 := wf.new (six a b c d e g)
  generalize h.new [.str a, .str b, .str c, .str d, .str e, .str g] = g1 at b1 wf1
  obtain ⟨g2, e2, b2, wf2, q2⟩ := Box.newPut wf1 (z := six [] [] [] [] [] []) (vs := six a b c d e g) (n := 6) rfl rfl rfl
  have e2' : storeA (g1.new [.str [], .str [], .str [], .str [], .str [], .str []]) 6 (.ptr g1.n 0) (.agg (six a b c d e g)) = some g2 := e2
  refine WS_of_seq (WS_of_ops ?_)
  simp only [tuple_Key_r1, go_sem, ↓reduceIte, Nat.reduceEqDiff, b1.loadAgg (n := 6) rfl, enterS, List.getD_cons_zero, List.getD_cons_succ]
  refine tpF_at (F := fun a b c d e g => .agg (six a b c d e g)) rfl hl hl2 ?_
  simp only [go_sem, ↓reduceIte, Nat.reduceEqDiff, e2']
  refine WS_of_seq (WS_of_ops ?_)
  simp only [tuple_Key_r2, go_sem, ↓reduceIte, Nat.reduceEqDiff, box_arr b2 rfl, Option.map_none, enterS, List.getD_cons_zero, List.getD_cons_succ]
  have st : g2.firstCells 1 6 (.slice g1.n 0 6 1) = some (strCells [a, b, c, d, e, g]) := (box_strs (l := [a, b, c, d, e, g]) b2 (n := 6) (by simp)).cells
  refine WCall_ov (g := joinG) (h' := g2) (r := .val (.str (keyT a b c d e g))) ((EL_ov _ _).trans rfl) ?_ ?_
  · unfold joinG
    simp only
    rw [st]
    simp only
    rw [strsOf_strCells]
    simp only
    rw [if_pos ⟨by simp, by simp, hc⟩]
    rfl
  simp only [go_sem, ↓reduceIte, Nat.reduceEqDiff]
  refine WS_of_ret ?_
  simp only [go_sem, ↓reduceIte, Nat.reduceEqDiff, tuple_Key_a]
theorem key_at {L : List Ovr} {f : Nat} (ho : ovP ov1 L f = some (pureO keyF)) {a b c d e g : T8} (hl : (keyT a b c d e g).length ≤ 1000000) {h : H} {R : AOut → H → Prop} (hR : R (.val (.str (keyT a b c d e g))) h) :
    WCall (EL L) f [.agg [.str a, .str b, .str c, .str d, .str e, .str g]] h R :=
  EL_call ho (by unfold keyF; simp only; rw [if_pos hl]) hR
theorem afillZ6 (a b c d e f : T8) : afill (zeros [AV.str []] (6 * 1)) [(0, 1, .str a), (1, 1, .str b), (2, 1, .str c), (3, 1, .str d), (4, 1, .str e), (5, 1, .str f)] = some [.str a, .str b, .str c, .str d, .str e, .str f] := rfl
theorem names_spec (L : List Ovr) (hov : ovP ov1 L n_doormanref12_Names = none) (a b c d e g : T8) (h : H) (wf : h.Wf) :
    WCall (EL L) n_doormanref12_Names [.agg [.str a, .str b, .str c, .str d, .str e, .str g]] h fun r h' => ∃ r0, r = .val (.slice r0 0 6 1) ∧ Box r0 (six a b c d e g) h' ∧ Keep (Old h.n) h h' ∧ h'.Wf := by
  refine WCall_ws ((EL_ov _ _).trans hov) (EL_T T_doormanref12_Names) (by simp [doormanref12_Names_a]) ?_
  refine WS_of_seq (WS_of_ops ?_)
  simp only [doormanref12_Names_r0, go_sem, ↓reduceIte, Nat.reduceEqDiff, enterS, List.getD_cons_zero, List.getD_cons_succ, AV.cells]
  have b1 := Box.new wf (six a b c d e g)
  have wf1 := wf.new (six a b c d e g)
  have k1 : Keep (Old h.n) h (h.new (six a b c d e g)) := Keep.new (Nat.le_refl _) _
  have hn1 : h.n ≤ (h.new (six a b c d e g)).n := Nat.le_succ _
  generalize h.new [.str a, .str b, .str c, .str d, .str e, .str g] = g1 at b1 wf1 k1 hn1
  have l0 : loadA g1 false 1 (.ptr h.n 0) = some (.str a) := b1.load 1 0
  have l1 : loadA g1 false 1 (.ptr h.n 1) = some (.str b) := b1.load 1 1
  have l2 : loadA g1 false 1 (.ptr h.n 2) = some (.str c) := b1.load 1 2
  have l3 : loadA g1 false 1 (.ptr h.n 3) = some (.str d) := b1.load 1 3
  have l4 : loadA g1 false 1 (.ptr h.n 4) = some (.str e) := b1.load 1 4
  have l5 : loadA g1 false 1 (.ptr h.n 5) = some (.str g) := b1.load 1 5
  refine WS_of_seq (WS_of_ops ?_)
  simp only [doormanref12_Names_r1, go_sem, ↓reduceIte, Nat.reduceEqDiff, fieldAddrA, Nat.zero_add, Nat.add_zero, Nat.reduceAdd, l0, l1, l2, l3, l4, l5, parts, List.map_cons, List.map_nil, afillZ6]
  refine WS_of_ret ?_
  simp only [go_sem, ↓reduceIte, Nat.reduceEqDiff, doormanref12_Names_a]
  exact ⟨g1.n, rfl, Box.new wf1 _, k1.trans (Keep.new hn1 _), wf1.new _⟩
theorem rkey_walk (args : List AV) (v : AV) (ee : keyF args = some v) : plainV v = true ∧ ∀ h : H, h.Wf → WCall (EL LE) n_doormanref12_Key args h (fun r _ => r = .val v) := by
  unfold keyF at ee
  split at ee
  case h_2 => cases ee
  rename_i a b c d e g
  split at ee
  case isFalse => cases ee
  rename_i hc
  cases ee
  refine ⟨rfl, fun h wf => ?_⟩
  refine WCall_ws ((EL_ov _ _).trans rfl) (EL_T T_doormanref12_Key) (by simp [doormanref12_Key_a]) ?_
  refine WS_of_seq (WS_of_ops ?_)
  simp only [doormanref12_Key_r0, go_sem, ↓reduceIte, Nat.reduceEqDiff, enterS, List.getD_cons_zero, List.getD_cons_succ, AV.cells]
  have b1 := Box.new wf (six a b c d e g)
  have wf1 := wf.new (six a b c d e g)
  generalize h.new [.str a, .str b, .str c, .str d, .str e, .str g] = g1 at b1 wf1
  refine WS_of_seq (WS_of_ops ?_)
  simp only [doormanref12_Key_r1, go_sem, ↓reduceIte, Nat.reduceEqDiff, b1.loadAgg (n := 6) rfl, enterS, List.getD_cons_zero, List.getD_cons_succ]
  refine (names_spec LE rfl a b c d e g g1 wf1).mono ?_
  rintro _ g2 ⟨r0, rfl, b2, k2, wf2⟩
  simp only [go_sem, ↓reduceIte, Nat.reduceEqDiff]
  have st : Strs g2 (.slice r0 0 6 1) [a, b, c, d, e, g] := box_strs (l := [a, b, c, d, e, g]) b2 (n := 6) (by simp)
  have hsum : a.length + b.length + c.length + d.length + e.length + g.length ≤ 1000000 := by
    have := hc; rw [keyT_eq] at this; simp at this; omega
  refine WS_of_seq (WS_of_ops ?_)
  obtain ⟨p0, x1, x2⟩ := st.at (i := 0) (by simp) .i64
  simp only [doormanref12_Key_r2, go_sem, ↓reduceIte, Nat.reduceEqDiff, show ((0 : Nat) : Int) = 0 from rfl] at x1 ⊢
  simp only [x1, x2, go_sem, ↓reduceIte, Nat.reduceEqDiff]
  refine WS_of_seq (WS_of_seq (WS_of_ops ?_))
  simp only [doormanref12_Key_r3, go_sem, ↓reduceIte, Nat.reduceEqDiff]
  refine WS_of_block (WS_of_loop (fun m z q => g2 = q ∧ ∃ i : Nat, m = 6 - i ∧ 1 ≤ i ∧ i ≤ 6 ∧ z 3 = .slice r0 0 6 1 ∧ z 4 = .str (Lib.join ([a, b, c, d, e, g].take i) [0]) ∧ z 5 = .int .i64 (i : Int)) ?_ 5 ?_)
  case refine_2 => exact ⟨rfl, 1, rfl, by omega, by omega, rfl, congrArg AV.str (Lib.join_one a [0]).symm, rfl⟩
  rintro m z q ⟨rfl, i, rfl, hi1, hi, z3, z4, z5⟩
  show WS (EL LE) doormanref12_Key_l7 _ _ _ _
  refine WS_of_seq (WS_of_seq (WS_of_ops ?_))
  by_cases hp : i < 6
  case neg =>
    have hp' : ¬ (i : Int) < 6 := by omega
    simp only [doormanref12_Key_r4, go_sem, ↓reduceIte, Nat.reduceEqDiff, z5, hp', decide_false]
    refine WS_of_cond ?_
    simp only [go_sem, ↓reduceIte, Nat.reduceEqDiff, Bool.false_eq_true]
    refine WS_of_exit ?_
    simp only [go_sem, ↓reduceIte, Nat.reduceEqDiff]
    refine WS_of_seq (WS_of_ops ?_)
    simp only [doormanref12_Key_r8, go_sem, ↓reduceIte, Nat.reduceEqDiff, z4]
    refine WS_of_ret ?_
    simp only [go_sem, ↓reduceIte, Nat.reduceEqDiff, doormanref12_Key_a]
    rw [List.take_of_length_le (by simp; omega)]; rfl
  have hp' : (i : Int) < 6 := by omega
  obtain ⟨p, y1, y2⟩ := st.at (i := i) (by simp; omega) .i64
  simp only [doormanref12_Key_r4, go_sem, ↓reduceIte, Nat.reduceEqDiff, z5, hp', decide_true]
  refine WS_of_cond ?_
  simp only [go_sem, ↓reduceIte, Nat.reduceEqDiff]
  refine WS_of_skip ?_
  simp only [go_sem]
  have hj : Lib.join ([a, b, c, d, e, g].take (i + 1)) [0] = Lib.join ([a, b, c, d, e, g].take i) [0] ++ ([0] ++ [a, b, c, d, e, g][i]'(by simp; omega)) := by
    rw [← List.take_append_getElem (by simp; omega)]
    exact join_snoc _ _ (by intro e; have := congrArg List.length e; simp at this; omega)
  have hbig : (Lib.join ([a, b, c, d, e, g].take (i + 1)) [0]).length ≤ 1000000 + 10 := by
    have h6 : i = 1 ∨ i = 2 ∨ i = 3 ∨ i = 4 ∨ i = 5 := by omega
    rcases h6 with rfl | rfl | rfl | rfl | rfl <;> simp only [List.take_succ_cons, List.take_zero, Lib.join_cons, Lib.joinTail, List.map_cons, List.map_nil, List.flatten_cons, List.flatten_nil, List.length_append, List.length_cons, List.length_nil] <;> omega
  rw [hj] at hbig
  generalize [a, b, c, d, e, g][i]'(by simp; omega) = x at y2 hj hbig
  generalize Lib.join ([a, b, c, d, e, g].take i) [0] = s at z4 hj hbig
  have e1 : ([0] : T8).length + x.length ≤ big := by simp at hbig; simp [big]; omega
  have e2 : s.length + ([0] ++ x).length ≤ big := by simp at hbig; simp [big]; omega
  refine WS_of_seq (WS_of_block (WS_of_ops ?_))
  simp only [doormanref12_Key_r5, go_sem, ↓reduceIte, Nat.reduceEqDiff, z3, z4, z5, y1, y2, e1, e2]
  refine WS_of_ops ?_
  have a1 : IntKind.i64.wrap ((i : Int) + 1) = ((i + 1 : Nat) : Int) := wrapI (n := i + 1) (by omega)
  simp only [doormanref12_Key_r6, go_sem, ↓reduceIte, Nat.reduceEqDiff, z5, a1]
  exact ⟨6 - (i + 1), by omega, trivial, i + 1, rfl, by omega, by omega, z3, by rw [hj], rfl⟩
/-- are a tuple's names short? -/
def fewB (a b c d e g : T8) : Bool := [a, b, c, d, e, g].all fun x => decide (x.length ≤ 120)
def fewF : List AV → Option AV
  | [.agg [.str a, .str b, .str c, .str d, .str e, .str g]] => some (.bool (fewB a b c d e g))
  | _ => none
theorem few_walk (args : List AV) (v : AV) (ee : fewF args = some v) : plainV v = true ∧ ∀ h : H, h.Wf → WCall (EL LE) n_doormanlaw12_few args h (fun r _ => r = .val v) := by
  unfold fewF at ee
  split at ee
  case h_2 => cases ee
  rename_i a b c d e g
  cases ee
  refine ⟨rfl, fun h wf => ?_⟩
  refine WCall_ws ((EL_ov _ _).trans rfl) (EL_T T_doormanlaw12_few) (by simp [doormanlaw12_few_a]) ?_
  refine WS_of_seq (WS_of_ops ?_)
  simp only [doormanlaw12_few_r0, go_sem, ↓reduceIte, Nat.reduceEqDiff, enterS, List.getD_cons_zero, List.getD_cons_succ, AV.cells]
  have b1 := Box.new wf (six a b c d e g)
  have wf1 := wf.new (six a b c d e g)
  generalize h.new [.str a, .str b, .str c, .str d, .str e, .str g] = g1 at b1 wf1
  refine WS_of_seq (WS_of_ops ?_)
  simp only [doormanlaw12_few_r1, go_sem, ↓reduceIte, Nat.reduceEqDiff, b1.loadAgg (n := 6) rfl, enterS, List.getD_cons_zero, List.getD_cons_succ]
  refine (names_spec LE rfl a b c d e g g1 wf1).mono ?_
  rintro _ g2 ⟨r0, rfl, b2, k2, wf2⟩
  simp only [go_sem, ↓reduceIte, Nat.reduceEqDiff]
  have st : Strs g2 (.slice r0 0 6 1) [a, b, c, d, e, g] := box_strs (l := [a, b, c, d, e, g]) b2 (n := 6) (by simp)
  refine WS_of_seq (WS_of_seq (WS_of_ops ?_))
  simp only [doormanlaw12_few_r2, go_sem, ↓reduceIte, Nat.reduceEqDiff]
  refine WS_of_block (WS_of_loop (fun m z q => g2 = q ∧ ∃ i : Nat, m = 6 - i ∧ i ≤ 6 ∧ ([a, b, c, d, e, g].take i).all (fun x => decide (x.length ≤ 120)) = true ∧ z 3 = .slice r0 0 6 1 ∧ z 4 = .int .i64 (i : Int)) ?_ 6 ?_)
  case refine_2 => exact ⟨rfl, 0, rfl, by omega, rfl, rfl, rfl⟩
  rintro m z q ⟨rfl, i, rfl, hi, hv, z3, z4⟩
  show WS (EL LE) doormanlaw12_few_l7 _ _ _ _
  refine WS_of_seq (WS_of_seq (WS_of_ops ?_))
  by_cases hp : i < 6
  case neg =>
    have hp' : ¬ (i : Int) < 6 := by omega
    simp only [doormanlaw12_few_r3, go_sem, ↓reduceIte, Nat.reduceEqDiff, z4, hp', decide_false]
    refine WS_of_cond ?_
    simp only [go_sem, ↓reduceIte, Nat.reduceEqDiff, Bool.false_eq_true]
    refine WS_of_exit ?_
    simp only [go_sem, ↓reduceIte, Nat.reduceEqDiff]
    refine WS_of_seq (WS_of_ops ?_)
    simp only [doormanlaw12_few_r8, go_sem, ↓reduceIte, Nat.reduceEqDiff]
    refine WS_of_ret ?_
    simp only [go_sem, ↓reduceIte, Nat.reduceEqDiff, doormanlaw12_few_a]
    rw [List.take_of_length_le (by simp; omega)] at hv
    rw [fewB, hv]
  have hp' : (i : Int) < 6 := by omega
  obtain ⟨p, y1, y2⟩ := st.at (i := i) (by simp; omega) .i64
  have hmem : [a, b, c, d, e, g][i]'(by simp; omega) ∈ [a, b, c, d, e, g] := List.getElem_mem _
  have hst : ([a, b, c, d, e, g].take (i + 1)).all (fun x => decide (x.length ≤ 120)) = decide (([a, b, c, d, e, g][i]'(by simp; omega)).length ≤ 120) := by
    rw [← List.take_append_getElem (by simp; omega), List.all_append, hv]; simp
  generalize [a, b, c, d, e, g][i]'(by simp; omega) = x at hmem hst y2
  simp only [doormanlaw12_few_r3, go_sem, ↓reduceIte, Nat.reduceEqDiff, z4, hp', decide_true]
  refine WS_of_cond ?_
  simp only [go_sem, ↓reduceIte, Nat.reduceEqDiff]
  refine WS_of_skip ?_
  simp only [go_sem]
  refine WS_of_seq (WS_of_block (WS_of_seq (WS_of_ops ?_)))
  by_cases hx : x.length ≤ 120
  · have hx' : ¬ (120 : Int) < (x.length : Int) := by omega
    simp only [doormanlaw12_few_r4, go_sem, ↓reduceIte, Nat.reduceEqDiff, z3, z4, y1, y2, lenTA, Option.map_some, hx', decide_false]
    refine WS_of_cond ?_
    simp only [go_sem, ↓reduceIte, Nat.reduceEqDiff, Bool.false_eq_true]
    refine WS_of_skip ?_
    simp only [go_sem]
    refine WS_of_ops ?_
    have a1 : IntKind.i64.wrap ((i : Int) + 1) = ((i + 1 : Nat) : Int) := wrapI (n := i + 1) (by omega)
    simp only [doormanlaw12_few_r6, go_sem, ↓reduceIte, Nat.reduceEqDiff, z4, a1]
    exact ⟨6 - (i + 1), by omega, trivial, i + 1, rfl, by omega, by rw [hst]; simp [hx], z3, rfl⟩
  · have hx' : (120 : Int) < (x.length : Int) := by omega
    simp only [doormanlaw12_few_r4, go_sem, ↓reduceIte, Nat.reduceEqDiff, z3, z4, y1, y2, lenTA, Option.map_some, hx', decide_true]
    refine WS_of_cond ?_
    simp only [go_sem, ↓reduceIte, Nat.reduceEqDiff]
    refine WS_of_seq (WS_of_ops ?_)
    simp only [doormanlaw12_few_r5, go_sem, ↓reduceIte, Nat.reduceEqDiff]
    refine WS_of_ret ?_
    simp only [go_sem, ↓reduceIte, Nat.reduceEqDiff, doormanlaw12_few_a]
    have : fewB a b c d e g = false := by
      unfold fewB; rw [List.all_eq_false]; exact ⟨x, hmem, by simp [hx]⟩
    rw [this]
end Go.Proofs.YtgjcdpanabjcmaaGreatDoor.Ev.C

/- How two tuples stand. -/
namespace Go.Proofs.YtgjcdpanabjcmaaGreatDoor.Ev.C
open Go Go.Proofs.YtgjcdpanabjcmaaGreatDoor.Ev
set_option linter.unusedSimpArgs false
set_option linter.unusedVariables false
def LF : List Ovr := (n_tuple_Key, pureO keyF) :: (n_doormanref12_Key, pureO keyF) :: (n_doormanlaw12_few, pureO fewF) :: LE
/-- how two lists of texts stand -/
def cmpL : List T8 → List T8 → Int
  | [], [] => 0
  | [], _ :: _ => -1
  | _ :: _, [] => 1
  | a :: l, b :: m => if cmpS a b = 0 then cmpL l m else cmpS a b
theorem cmpS_cases (a b : T8) : cmpS a b = -1 ∨ cmpS a b = 0 ∨ cmpS a b = 1 := by
  unfold cmpS; split
  · exact .inl rfl
  · split
    · exact .inr (.inl rfl)
    · exact .inr (.inr rfl)
theorem scmp_spec (h : H) (v w : AV) (l m : List T8) (b : Strs h v l) (b' : Strs h w m) (hl : l.length < 1000000) (hm : m.length < 1000000) :
    WCall (EL LF) n_slices_Compare_string_string [v, w] h fun r h' => r = .val (.int .i64 (cmpL l m)) ∧ h' = h := by
  refine WCall_ws ((EL_ov _ _).trans rfl) (EL_T T_slices_Compare_string_string) (by simp [slices_Compare_string_string_a]) ?_
  refine WS_of_seq (WS_of_ops ?_)
  simp only [slices_Compare_string_string_r0, go_sem, ↓reduceIte, Nat.reduceEqDiff]
  refine WS_of_seq (WS_of_seq (WS_of_ops ?_))
  simp only [slices_Compare_string_string_r1, go_sem, ↓reduceIte, Nat.reduceEqDiff, enterS, List.getD_cons_zero, List.getD_cons_succ, b.len, Option.map_some]
  refine WS_of_block (WS_of_loop (fun k z q => h = q ∧ ∃ i : Nat, k = l.length - i ∧ i ≤ l.length ∧ i ≤ m.length ∧ cmpL l m = cmpL (l.drop i) (m.drop i) ∧ z 0 = v ∧ z 1 = w ∧ z 9 = v ∧ z 10 = .int .i64 (l.length : Int) ∧ z 11 = .int .i64 (i : Int)) ?_ l.length ?_)
  case refine_2 => exact ⟨rfl, 0, rfl, by omega, by omega, rfl, rfl, rfl, rfl, rfl, rfl⟩
  rintro k z q ⟨rfl, i, rfl, hi, him, hv, z0, z1, z9, z10, z11⟩
  show WS (EL LF) slices_Compare_string_string_l11 _ _ _ _
  refine WS_of_seq (WS_of_ops ?_)
  by_cases hp : i < l.length
  case neg =>
    have hp' : ¬ (i : Int) < (l.length : Int) := by omega
    simp only [slices_Compare_string_string_r2, go_sem, ↓reduceIte, Nat.reduceEqDiff, z10, z11, hp', decide_false]
    refine WS_of_seq (WS_of_cond ?_)
    simp only [go_sem, ↓reduceIte, Nat.reduceEqDiff, Bool.false_eq_true]
    refine WS_of_exit ?_
    simp only [go_sem, ↓reduceIte, Nat.reduceEqDiff]
    refine WS_of_seq (WS_of_seq (WS_of_ops ?_))
    simp only [slices_Compare_string_string_r12, go_sem, ↓reduceIte, Nat.reduceEqDiff, z0, z1, b.len, b'.len, Option.map_some]
    rw [List.drop_eq_nil_of_le (by omega : l.length ≤ i)] at hv
    by_cases hs : l.length < m.length
    · have hs' : (l.length : Int) < (m.length : Int) := by omega
      simp only [hs', decide_true]
      refine WS_of_cond ?_
      simp only [go_sem, ↓reduceIte, Nat.reduceEqDiff]
      refine WS_of_seq (WS_of_ops ?_)
      simp only [slices_Compare_string_string_r13, go_sem, ↓reduceIte, Nat.reduceEqDiff]
      refine WS_of_ret ?_
      simp only [go_sem, ↓reduceIte, Nat.reduceEqDiff, slices_Compare_string_string_a]
      have : m.drop i = m[i]'(by omega) :: m.drop (i + 1) := List.drop_eq_getElem_cons (by omega)
      rw [hv, this]; exact ⟨rfl, trivial⟩
    · have hs' : ¬ (l.length : Int) < (m.length : Int) := by omega
      simp only [hs', decide_false]
      refine WS_of_cond ?_
      simp only [go_sem, ↓reduceIte, Nat.reduceEqDiff, Bool.false_eq_true]
      refine WS_of_skip ?_
      simp only [go_sem]
      refine WS_of_seq (WS_of_ops ?_)
      simp only [slices_Compare_string_string_r14, go_sem, ↓reduceIte, Nat.reduceEqDiff]
      refine WS_of_ret ?_
      simp only [go_sem, ↓reduceIte, Nat.reduceEqDiff, slices_Compare_string_string_a]
      rw [hv, List.drop_eq_nil_of_le (by omega : m.length ≤ i)]; exact ⟨rfl, trivial⟩
  have hp' : (i : Int) < (l.length : Int) := by omega
  obtain ⟨p, y1, y2⟩ := b.at hp .i64
  simp only [slices_Compare_string_string_r2, go_sem, ↓reduceIte, Nat.reduceEqDiff, z10, z11, hp', decide_true]
  refine WS_of_seq (WS_of_cond ?_)
  simp only [go_sem, ↓reduceIte, Nat.reduceEqDiff]
  refine WS_of_skip ?_
  simp only [go_sem]
  refine WS_of_seq (WS_of_block (WS_of_seq (WS_of_ops ?_)))
  simp only [slices_Compare_string_string_r3, go_sem, ↓reduceIte, Nat.reduceEqDiff, z9, z11, y1, y2]
  refine WS_of_seq (WS_of_seq (WS_of_ops ?_))
  have hld : l.drop i = l[i] :: l.drop (i + 1) := List.drop_eq_getElem_cons hp
  by_cases hs : i < m.length
  case neg =>
    have hs' : (m.length : Int) ≤ (i : Int) := by omega
    simp only [slices_Compare_string_string_r4, go_sem, ↓reduceIte, Nat.reduceEqDiff, z1, b'.len, Option.map_some, hs', decide_true]
    refine WS_of_cond ?_
    simp only [go_sem, ↓reduceIte, Nat.reduceEqDiff]
    refine WS_of_seq (WS_of_ops ?_)
    simp only [slices_Compare_string_string_r5, go_sem, ↓reduceIte, Nat.reduceEqDiff]
    refine WS_of_ret ?_
    simp only [go_sem, ↓reduceIte, Nat.reduceEqDiff, slices_Compare_string_string_a]
    rw [hv, hld, List.drop_eq_nil_of_le (by omega : m.length ≤ i)]; exact ⟨rfl, trivial⟩
  have hs' : ¬ (m.length : Int) ≤ (i : Int) := by omega
  obtain ⟨p', x1, x2⟩ := b'.at hs .i64
  simp only [slices_Compare_string_string_r4, go_sem, ↓reduceIte, Nat.reduceEqDiff, z1, b'.len, Option.map_some, hs', decide_false]
  refine WS_of_cond ?_
  simp only [go_sem, ↓reduceIte, Nat.reduceEqDiff, Bool.false_eq_true]
  refine WS_of_skip ?_
  simp only [go_sem]
  have hmd : m.drop i = m[i] :: m.drop (i + 1) := List.drop_eq_getElem_cons hs
  refine WS_of_seq (WS_of_ops ?_)
  simp only [slices_Compare_string_string_r6, go_sem, ↓reduceIte, Nat.reduceEqDiff, z1, x1, x2]
  refine WS_of_seq (WS_of_ops ?_)
  simp only [slices_Compare_string_string_r7, go_sem, ↓reduceIte, Nat.reduceEqDiff, enterS, List.getD_cons_zero, List.getD_cons_succ]
  refine EL_call (F := cmpF) (v := .int .i64 (cmpS l[i] m[i])) rfl rfl ?_
  simp only [go_sem, ↓reduceIte, Nat.reduceEqDiff]
  refine WS_of_seq (WS_of_ops ?_)
  rw [hld, hmd] at hv
  simp only [cmpL] at hv
  by_cases hc : cmpS l[i] m[i] = 0
  · simp only [slices_Compare_string_string_r8, go_sem, ↓reduceIte, Nat.reduceEqDiff, hc, decide_true, Bool.not_true]
    refine WS_of_cond ?_
    simp only [go_sem, ↓reduceIte, Nat.reduceEqDiff, Bool.false_eq_true]
    refine WS_of_skip ?_
    simp only [go_sem]
    refine WS_of_ops ?_
    have a1 : IntKind.i64.wrap ((i : Int) + 1) = ((i + 1 : Nat) : Int) := wrapI (n := i + 1) (by omega)
    simp only [slices_Compare_string_string_r10, go_sem, ↓reduceIte, Nat.reduceEqDiff, z11, a1]
    rw [if_pos hc] at hv
    exact ⟨l.length - (i + 1), by omega, trivial, i + 1, rfl, by omega, by omega, hv, z0, z1, z9, z10, rfl⟩
  · simp only [slices_Compare_string_string_r8, go_sem, ↓reduceIte, Nat.reduceEqDiff, hc, decide_false, Bool.not_false]
    refine WS_of_cond ?_
    simp only [go_sem, ↓reduceIte, Nat.reduceEqDiff]
    refine WS_of_seq (WS_of_ops ?_)
    simp only [slices_Compare_string_string_r9, go_sem, ↓reduceIte, Nat.reduceEqDiff]
    refine WS_of_ret ?_
    simp only [go_sem, ↓reduceIte, Nat.reduceEqDiff, slices_Compare_string_string_a]
    rw [if_neg hc] at hv
    rw [hv]; exact ⟨rfl, trivial⟩
theorem cmpS_self (a : T8) : cmpS a a = 0 := by
  have : ∀ a : T8, Op.bytesLess a a = false := by
    intro a
    induction a with
    | nil => rfl
    | cons x r ih => simp [Op.bytesLess, ih]
  simp [cmpS, this]
theorem cmpL_self : ∀ l : List T8, cmpL l l = 0
  | [] => rfl
  | a :: l => by simp [cmpL, cmpS_self, cmpL_self l]
/-- functions of two tuples -/
def tp2F (F : List T8 → List T8 → AV) : List AV → Option AV
  | [.agg [.str a, .str b, .str c, .str d, .str e, .str g], .agg [.str a', .str b', .str c', .str d', .str e', .str g']] =>
    if ((a.length < 1000000 ∧ b.length < 1000000 ∧ c.length < 1000000) ∧ d.length < 1000000 ∧ e.length < 1000000 ∧ g.length < 1000000) ∧ (a'.length < 1000000 ∧ b'.length < 1000000 ∧ c'.length < 1000000) ∧ d'.length < 1000000 ∧ e'.length < 1000000 ∧ g'.length < 1000000 then some (F [a, b, c, d, e, g] [a', b', c', d', e', g']) else none
  | _ => none
def compF : List AV → Option AV := tp2F fun l m => .int .i64 (cmpL l m)
theorem flatEqS (l m : List T8) (hl : l.length = m.length) : flatEqK (l.map fun _ => FK.s) (strCells l) (strCells m) = some (decide (l = m)) := by
  induction l generalizing m with
  | nil => cases m with
    | nil => rfl
    | cons => simp at hl
  | cons a l ih => cases m with
    | nil => simp at hl
    | cons b m =>
      simp only [List.map_cons, strCells, flatEqK]
      have := ih m (by simpa using hl)
      simp only [strCells] at this
      rw [this]
      by_cases h1 : a = b
      · simp [h1]
      · simp [h1]
theorem comp_walk (args : List AV) (v : AV) (ee : compF args = some v) : plainV v = true ∧ ∀ h : H, h.Wf → WCall (EL LF) n_tuple_Compare args h (fun r _ => r = .val v) := by
  unfold compF tp2F at ee
  split at ee
  case h_2 => cases ee
  rename_i a b c d e g a' b' c' d' e' g'
  split at ee
  case isFalse => cases ee
  rename_i hc
  obtain ⟨⟨hc1, hc2⟩, hc3, hc4⟩ := hc
  cases ee
  refine ⟨rfl, fun h wf => ?_⟩
  refine WCall_ws ((EL_ov _ _).trans rfl) (EL_T T_tuple_Compare) (by simp [tuple_Compare_a]) ?_
  refine WS_of_seq (WS_of_ops ?_)
  simp only [tuple_Compare_r0, go_sem, ↓reduceIte, Nat.reduceEqDiff, enterS, List.getD_cons_zero, List.getD_cons_succ, AV.cells]
  have b1 := Box.new wf (six a b c d e g)
  have wf1 := wf.new (six a b c d e g)
  generalize h.new [.str a, .str b, .str c, .str d, .str e, .str g] = g1 at b1 wf1
  have b2 := Box.new wf1 (six a' b' c' d' e' g')
  have wf2 := wf1.new (six a' b' c' d' e' g')
  have b12 := b1.keep (Keep.new (Nat.le_refl _) (six a' b' c' d' e' g')) (b1.lt wf1)
  generalize g1.new [.str a', .str b', .str c', .str d', .str e', .str g'] = g2 at b2 wf2 b12
  have z3 := Box.new wf2 (six [] [] [] [] [] [])
  have wf3 := wf2.new (six [] [] [] [] [] [])
  have k3 : Keep (Old g2.n) g2 (g2.new (six [] [] [] [] [] [])) := Keep.new (Nat.le_refl _) _
  have b13 := b12.keep k3 (b12.lt wf2)
  have b23 := b2.keep k3 (b2.lt wf2)
  have n1 := b12.lt wf2
  have n2 := b2.lt wf2
  generalize hg3 : g2.new (six [] [] [] [] [] []) = g3 at z3 wf3 b13 b23
  have z4 := Box.new wf3 (six [] [] [] [] [] [])
  have wf4 := wf3.new (six [] [] [] [] [] [])
  have k4 : Keep (Old g3.n) g3 (g3.new (six [] [] [] [] [] [])) := Keep.new (Nat.le_refl _) _
  have b14 := b13.keep k4 (b13.lt wf3)
  have b24 := b23.keep k4 (b23.lt wf3)
  have z34 := z3.keep k4 (z3.lt wf3)
  have n3 := z3.lt wf3
  generalize hg4 : g3.new (six [] [] [] [] [] []) = g4 at z4 wf4 b14 b24 z34
  obtain ⟨g5, e5, y5, k5⟩ := z34.putAll wf4 (n := 6) (vs := six a b c d e g) rfl rfl rfl
  have wf5 := k5.wf wf4
  have b15 := b14.keepA wf4 k5 (by simp; omega)
  have b25 := b24.keepA wf4 k5 (by simp; omega)
  have z45 := z4.keepA wf4 k5 (by simp; omega)
  obtain ⟨g6, e6, y6, k6⟩ := z45.putAll wf5 (n := 6) (vs := six a' b' c' d' e' g') rfl rfl rfl
  have b16 := b15.keepA wf5 k6 (by simp; omega)
  have b26 := b25.keepA wf5 k6 (by simp; omega)
  have y56 := y5.keepA wf5 k6 (by simp; omega)
  have hg3' : g2.new [.str [], .str [], .str [], .str [], .str [], .str []] = g3 := hg3
  have hg4' : g3.new [.str [], .str [], .str [], .str [], .str [], .str []] = g4 := hg4
  have m1 := b13.loadAgg (n := 6) rfl
  have m2 := b23.loadAgg (n := 6) rfl
  have m3 := b14.loadAgg (n := 6) rfl
  have m4 := b24.loadAgg (n := 6) rfl
  have m5 := b15.loadAgg (n := 6) rfl
  have m6 := b25.loadAgg (n := 6) rfl
  have m7 := b16.loadAgg (n := 6) rfl
  have m8 := b26.loadAgg (n := 6) rfl
  refine WS_of_seq (WS_of_draw ?_)
  simp only [tuple_Compare_r1, go_sem, ↓reduceIte, Nat.reduceEqDiff, and_self, true_and, List.filter_cons, List.filter_nil, Nat.testBit, Nat.reduceShiftRight, Nat.reduceAnd, Nat.reduceBNe, Bool.not_false, Bool.not_true, Bool.false_eq_true, bne_self_eq_false, wanted, b12.loadAgg (n := 6) rfl, b2.loadAgg (n := 6) rfl, hg3', hg4', m1, m2, m3, m4, enterS, List.getD_cons_zero, List.getD_cons_succ]
  refine tpF_at (F := fun a b c d e g => .agg (six a b c d e g)) rfl hc1 hc2 ?_
  simp only [go_sem, ↓reduceIte, Nat.reduceEqDiff, and_self, true_and, List.filter_cons, List.filter_nil, Nat.testBit, Nat.reduceShiftRight, Nat.reduceAnd, Nat.reduceBNe, Bool.not_false, Bool.not_true, Bool.false_eq_true, bne_self_eq_false, wanted, m3, m4, enterS, List.getD_cons_zero, List.getD_cons_succ]
  refine tpF_at (F := fun a b c d e g => .agg (six a b c d e g)) rfl hc3 hc4 ?_
  simp only [go_sem, ↓reduceIte, Nat.reduceEqDiff, and_self, true_and, List.filter_cons, List.filter_nil, Nat.testBit, Nat.reduceShiftRight, Nat.reduceAnd, Nat.reduceBNe, Bool.not_false, Bool.not_true, Bool.false_eq_true, bne_self_eq_false, wanted, m3, m4, m5, m6, m7, m8, e5, e6]
  refine WS_of_seq (WS_of_seq (WS_of_ops ?_))
  have hEq : eqA (.flatK [.s, .s, .s, .s, .s, .s]) (.agg (six a b c d e g)) (.agg (six a' b' c' d' e' g')) = some (decide ([a, b, c, d, e, g] = [a', b', c', d', e', g'])) := flatEqS [a, b, c, d, e, g] [a', b', c', d', e', g'] rfl
  simp only [tuple_Compare_r2, go_sem, ↓reduceIte, Nat.reduceEqDiff, y56.loadAgg (n := 6) rfl, y6.loadAgg (n := 6) rfl, hEq]
  refine WS_of_cond ?_
  simp only [go_sem, ↓reduceIte, Nat.reduceEqDiff]
  by_cases h0 : [a, b, c, d, e, g] = [a', b', c', d', e', g']
  · rw [decide_eq_true h0]
    simp only [Bool.false_eq_true, ↓reduceIte]
    refine WS_of_seq (WS_of_ops ?_)
    simp only [tuple_Compare_r3, go_sem, ↓reduceIte, Nat.reduceEqDiff]
    refine WS_of_ret ?_
    simp only [go_sem, ↓reduceIte, Nat.reduceEqDiff, tuple_Compare_a]
    rw [h0, cmpL_self]
  · rw [decide_eq_false h0]
    simp only [Bool.false_eq_true, ↓reduceIte]
    refine WS_of_skip ?_
    simp only [go_sem]
    refine WS_of_seq (WS_of_draw ?_)
    simp only [tuple_Compare_r4, go_sem, ↓reduceIte, Nat.reduceEqDiff, and_self, true_and, List.filter_cons, List.filter_nil, Nat.testBit, Nat.reduceShiftRight, Nat.reduceAnd, Nat.reduceBNe, Bool.not_false, Bool.not_true, Bool.false_eq_true, bne_self_eq_false, wanted, box_arr y56 rfl, box_arr y6 rfl, Option.map_none, enterS, List.getD_cons_zero, List.getD_cons_succ]
    refine (scmp_spec g6 _ _ [a, b, c, d, e, g] [a', b', c', d', e', g'] (box_strs (l := [a, b, c, d, e, g]) y56 (n := 6) (by simp)) (box_strs (l := [a', b', c', d', e', g']) y6 (n := 6) (by simp)) (by simp) (by simp)).mono ?_
    rintro _ _ ⟨rfl, rfl⟩
    simp only [go_sem, ↓reduceIte, Nat.reduceEqDiff, and_self, true_and, List.filter_cons, List.filter_nil, Nat.testBit, Nat.reduceShiftRight, Nat.reduceAnd, Nat.reduceBNe, Bool.not_false, Bool.not_true, Bool.false_eq_true, bne_self_eq_false, wanted, box_arr y56 rfl, box_arr y6 rfl, Option.map_none]
    refine WS_of_ret ?_
    simp only [go_sem, ↓reduceIte, Nat.reduceEqDiff, tuple_Compare_a]
end Go.Proofs.YtgjcdpanabjcmaaGreatDoor.Ev.C

/- The reference's Compare; a key's parts. -/
namespace Go.Proofs.YtgjcdpanabjcmaaGreatDoor.Ev.C
open Go Go.Proofs.YtgjcdpanabjcmaaGreatDoor.Ev
set_option linter.unusedSimpArgs false
set_option linter.unusedVariables false
theorem rcomp_walk (args : List AV) (v : AV) (ee : compF args = some v) : plainV v = true ∧ ∀ h : H, h.Wf → WCall (EL LF) n_doormanref12_Compare args h (fun r _ => r = .val v) := by
  unfold compF tp2F at ee
  split at ee
  case h_2 => cases ee
  rename_i a b c d e g a' b' c' d' e' g'
  split at ee
  case isFalse => cases ee
  rename_i hc
  cases ee
  refine ⟨rfl, fun h wf => ?_⟩
  refine WCall_ws ((EL_ov _ _).trans rfl) (EL_T T_doormanref12_Compare) (by simp [doormanref12_Compare_a]) ?_
  refine WS_of_seq (WS_of_ops ?_)
  simp only [doormanref12_Compare_r0, go_sem, ↓reduceIte, Nat.reduceEqDiff, enterS, List.getD_cons_zero, List.getD_cons_succ, AV.cells]
  have b1 := Box.new wf (six a b c d e g)
  have wf1 := wf.new (six a b c d e g)
  generalize h.new [.str a, .str b, .str c, .str d, .str e, .str g] = g1 at b1 wf1
  have b2 := Box.new wf1 (six a' b' c' d' e' g')
  have wf2 := wf1.new (six a' b' c' d' e' g')
  have b12 := b1.keep (Keep.new (Nat.le_refl _) (six a' b' c' d' e' g')) (b1.lt wf1)
  generalize g1.new [.str a', .str b', .str c', .str d', .str e', .str g'] = g2 at b2 wf2 b12
  refine WS_of_seq (WS_of_ops ?_)
  simp only [doormanref12_Compare_r1, go_sem, ↓reduceIte, Nat.reduceEqDiff, b12.loadAgg (n := 6) rfl, enterS, List.getD_cons_zero, List.getD_cons_succ]
  refine (names_spec LF rfl a b c d e g g2 wf2).mono ?_
  rintro _ g3 ⟨r0, rfl, x3, k3, wf3⟩
  have b23 := b2.keep k3 (b2.lt wf2)
  simp only [go_sem, ↓reduceIte, Nat.reduceEqDiff]
  refine WS_of_seq (WS_of_ops ?_)
  simp only [doormanref12_Compare_r2, go_sem, ↓reduceIte, Nat.reduceEqDiff, b23.loadAgg (n := 6) rfl, enterS, List.getD_cons_zero, List.getD_cons_succ]
  refine (names_spec LF rfl a' b' c' d' e' g' g3 wf3).mono ?_
  rintro _ g4 ⟨r1, rfl, y4, k4, wf4⟩
  have x4 := x3.keep k4 (x3.lt wf3)
  simp only [go_sem, ↓reduceIte, Nat.reduceEqDiff]
  have st : Strs g4 (.slice r0 0 6 1) [a, b, c, d, e, g] := box_strs (l := [a, b, c, d, e, g]) x4 (n := 6) (by simp)
  have st' : Strs g4 (.slice r1 0 6 1) [a', b', c', d', e', g'] := box_strs (l := [a', b', c', d', e', g']) y4 (n := 6) (by simp)
  have hl : [a, b, c, d, e, g].length = 6 := rfl
  have hl' : [a', b', c', d', e', g'].length = 6 := rfl
  generalize [a, b, c, d, e, g] = l at st hl
  generalize [a', b', c', d', e', g'] = m at st' hl'
  refine WS_of_seq (WS_of_seq (WS_of_ops ?_))
  simp only [doormanref12_Compare_r3, go_sem, ↓reduceIte, Nat.reduceEqDiff]
  refine WS_of_block (WS_of_loop (fun k z q => g4 = q ∧ ∃ i : Nat, k = 6 - i ∧ i ≤ 6 ∧ cmpL l m = cmpL (l.drop i) (m.drop i) ∧ z 5 = .slice r0 0 6 1 ∧ z 6 = .slice r1 0 6 1 ∧ z 7 = .int .i64 (i : Int)) ?_ 6 ?_)
  case refine_2 => exact ⟨rfl, 0, rfl, by omega, rfl, rfl, rfl, rfl⟩
  rintro k z q ⟨rfl, i, rfl, hi, hv, z5, z6, z7⟩
  show WS (EL LF) doormanref12_Compare_l10 _ _ _ _
  refine WS_of_seq (WS_of_seq (WS_of_ops ?_))
  by_cases hp : i < 6
  case neg =>
    have hp' : ¬ (i : Int) < 6 := by omega
    simp only [doormanref12_Compare_r4, go_sem, ↓reduceIte, Nat.reduceEqDiff, z7, hp', decide_false]
    refine WS_of_cond ?_
    simp only [go_sem, ↓reduceIte, Nat.reduceEqDiff, Bool.false_eq_true]
    refine WS_of_exit ?_
    simp only [go_sem, ↓reduceIte, Nat.reduceEqDiff]
    refine WS_of_seq (WS_of_ops ?_)
    simp only [doormanref12_Compare_r11, go_sem, ↓reduceIte, Nat.reduceEqDiff]
    refine WS_of_ret ?_
    simp only [go_sem, ↓reduceIte, Nat.reduceEqDiff, doormanref12_Compare_a]
    rw [hv, List.drop_eq_nil_of_le (by omega), List.drop_eq_nil_of_le (by omega)]; rfl
  have hp' : (i : Int) < 6 := by omega
  obtain ⟨p, x1, x2⟩ := st.at (i := i) (by omega) .i64
  obtain ⟨p', y1, y2⟩ := st'.at (i := i) (by omega) .i64
  have hld : l.drop i = l[i]'(by omega) :: l.drop (i + 1) := List.drop_eq_getElem_cons (by omega)
  have hmd : m.drop i = m[i]'(by omega) :: m.drop (i + 1) := List.drop_eq_getElem_cons (by omega)
  rw [hld, hmd] at hv
  simp only [cmpL] at hv
  simp only [doormanref12_Compare_r4, go_sem, ↓reduceIte, Nat.reduceEqDiff, z7, hp', decide_true]
  refine WS_of_cond ?_
  simp only [go_sem, ↓reduceIte, Nat.reduceEqDiff]
  refine WS_of_skip ?_
  simp only [go_sem]
  refine WS_of_seq (WS_of_block (WS_of_seq (WS_of_seq (WS_of_draw ?_))))
  simp only [doormanref12_Compare_r5, go_sem, ↓reduceIte, Nat.reduceEqDiff, and_self, true_and, List.filter_cons, List.filter_nil, Nat.testBit, Nat.reduceShiftRight, Nat.reduceAnd, Nat.reduceBNe, Bool.not_false, Bool.not_true, Bool.false_eq_true, bne_self_eq_false, wanted, z5, z6, z7, x1, x2, y1, y2]
  generalize l[i]'(by omega) = x at hv x2
  generalize m[i]'(by omega) = y at hv y2
  cases h1 : Op.bytesLess x y
  case true =>
    refine WS_of_cond ?_
    simp only [go_sem, ↓reduceIte, Nat.reduceEqDiff]
    refine WS_of_seq (WS_of_ops ?_)
    simp only [doormanref12_Compare_r6, go_sem, ↓reduceIte, Nat.reduceEqDiff]
    refine WS_of_ret ?_
    simp only [go_sem, ↓reduceIte, Nat.reduceEqDiff, doormanref12_Compare_a]
    rw [hv]; simp [cmpS, h1]
  refine WS_of_cond ?_
  simp only [go_sem, ↓reduceIte, Nat.reduceEqDiff, Bool.false_eq_true]
  refine WS_of_skip ?_
  simp only [go_sem]
  refine WS_of_seq (WS_of_draw ?_)
  have hgt : binA .gtr (.str x) (.str y) = some (.bool (!(Op.bytesLess x y || x == y))) := rfl
  rw [h1] at hgt
  simp only [doormanref12_Compare_r7, go_sem, ↓reduceIte, Nat.reduceEqDiff, and_self, true_and, List.filter_cons, List.filter_nil, Nat.testBit, Nat.reduceShiftRight, Nat.reduceAnd, Nat.reduceBNe, Bool.not_false, Bool.not_true, Bool.false_eq_true, bne_self_eq_false, wanted, z5, z6, z7, x1, x2, y1, y2, hgt, Bool.false_or]
  cases h2 : (x == y)
  case false =>
    refine WS_of_cond ?_
    simp only [go_sem, ↓reduceIte, Nat.reduceEqDiff, Bool.not_false]
    refine WS_of_seq (WS_of_ops ?_)
    simp only [doormanref12_Compare_r8, go_sem, ↓reduceIte, Nat.reduceEqDiff]
    refine WS_of_ret ?_
    simp only [go_sem, ↓reduceIte, Nat.reduceEqDiff, doormanref12_Compare_a]
    rw [hv]; simp only [cmpS, h1, h2]; simp
  refine WS_of_cond ?_
  simp only [go_sem, ↓reduceIte, Nat.reduceEqDiff, Bool.not_true, Bool.false_eq_true]
  refine WS_of_skip ?_
  simp only [go_sem]
  refine WS_of_ops ?_
  have a1 : IntKind.i64.wrap ((i : Int) + 1) = ((i + 1 : Nat) : Int) := wrapI (n := i + 1) (by omega)
  simp only [doormanref12_Compare_r9, go_sem, ↓reduceIte, Nat.reduceEqDiff, z7, a1]
  have h0 : cmpS x y = 0 := by simp only [cmpS, h1, h2]; simp
  rw [if_pos h0] at hv
  exact ⟨6 - (i + 1), by omega, trivial, i + 1, rfl, by omega, hv, z5, z6, rfl⟩
/-- a text's parts between bytes -/
def splitB (c : UInt8) : T8 → List T8
  | [] => [[]]
  | b :: r => if b = c then [] :: splitB c r else match splitB c r with
    | [] => [[b]]
    | x :: t => (b :: x) :: t
theorem splitB_ne (c : UInt8) (s : T8) : splitB c s ≠ [] := by
  cases s with
  | nil => simp [splitB]
  | cons b r =>
    simp only [splitB]
    split
    · simp
    · split <;> simp
theorem splitB_len (c : UInt8) : ∀ s : T8, (splitB c s).length = countB s c + 1
  | [] => rfl
  | b :: r => by
    simp only [splitB, countB]
    have := splitB_len c r
    split
    · simp [this]; omega
    · split
      · rename_i e; exact absurd e (splitB_ne c r)
      · rename_i x t e; rw [e] at this; simp at this ⊢; omega
/-- .. by a cut -/
theorem splitB_cut (c : UInt8) : ∀ s : T8, splitB c s = if (cutS s c).2.2 = true then (cutS s c).1 :: splitB c (cutS s c).2.1 else [s]
  | [] => rfl
  | b :: r => by
    by_cases h : b = c
    · simp [splitB, cutS, h]
    · have ih := splitB_cut c r
      simp only [splitB, cutS, if_neg h]
      by_cases hf : (cutS r c).2.2 = true
      · rw [if_pos hf] at ih ⊢
        rw [ih]
      · rw [if_neg hf] at ih ⊢
        rw [ih]
end Go.Proofs.YtgjcdpanabjcmaaGreatDoor.Ev.C

/- Split: a text's parts. -/
namespace Go.Proofs.YtgjcdpanabjcmaaGreatDoor.Ev.C
open Go Go.Proofs.YtgjcdpanabjcmaaGreatDoor.Ev
set_option linter.unusedSimpArgs false
set_option linter.unusedVariables false
def LG : List Ovr := (n_tuple_Compare, pureO compF) :: (n_doormanref12_Compare, pureO compF) :: LF
theorem str1 : Cell1 AV.str := ⟨fun _ => rfl, fun _ => rfl⟩
theorem countB_le (c : UInt8) : ∀ s : T8, countB s c ≤ s.length
  | [] => Nat.le_refl _
  | b :: r => by simp only [countB, List.length_cons]; have := countB_le c r; split <;> omega
theorem gsplit_spec (s : T8) (c : UInt8) (hs : s.length < 999999) (h : H) (wf : h.Wf) :
    WCall (EL LG) n_strings_genSplit [.str s, .str [c], .int .i64 0, .int .i64 (-1)] h fun r h' => r = .val (.slice h.n 0 (splitB c s).length 1) ∧ CBox AV.str h.n (splitB c s) h' ∧ Keep (Old h.n) h h' ∧ h'.Wf := by
  have hN := splitB_len c s
  have hle := countB_le c s
  refine WCall_ws ((EL_ov _ _).trans rfl) (EL_T T_strings_genSplit) (by simp [strings_genSplit_a]) ?_
  refine WS_of_seq (WS_of_ops ?_)
  simp only [strings_genSplit_r0, go_sem, ↓reduceIte, Nat.reduceEqDiff]
  refine WS_of_seq (WS_of_seq (WS_of_ops ?_))
  simp only [strings_genSplit_r1, go_sem, ↓reduceIte, Nat.reduceEqDiff, enterS, List.getD_cons_zero, List.getD_cons_succ, show ¬ ((-1 : Int) = 0) by decide, decide_false]
  refine WS_of_cond ?_
  simp only [go_sem, ↓reduceIte, Nat.reduceEqDiff, Bool.false_eq_true]
  refine WS_of_skip ?_
  simp only [go_sem]
  refine WS_of_seq (WS_of_seq (WS_of_ops ?_))
  simp only [strings_genSplit_r3, go_sem, ↓reduceIte, Nat.reduceEqDiff, enterS, List.getD_cons_zero, List.getD_cons_succ, show ¬ (([c] : T8) = []) by simp, decide_false]
  refine WS_of_cond ?_
  simp only [go_sem, ↓reduceIte, Nat.reduceEqDiff, Bool.false_eq_true]
  refine WS_of_skip ?_
  simp only [go_sem]
  refine WS_of_seq (WS_of_seq (WS_of_ops ?_))
  simp only [strings_genSplit_r5, go_sem, ↓reduceIte, Nat.reduceEqDiff, enterS, List.getD_cons_zero, List.getD_cons_succ, show ((-1 : Int) < 0) by decide, decide_true]
  refine WS_of_cond ?_
  simp only [go_sem, ↓reduceIte, Nat.reduceEqDiff]
  refine WS_of_ops ?_
  simp only [strings_genSplit_r6, go_sem, ↓reduceIte, Nat.reduceEqDiff, enterS, List.getD_cons_zero, List.getD_cons_succ]
  refine EL_call (F := cntBF) (v := .int .i64 (countB s c : Int)) rfl rfl ?_
  have a1 : IntKind.i64.wrap ((countB s c : Int) + 1) = (((splitB c s).length : Nat) : Int) := by rw [hN]; exact wrapI (n := countB s c + 1) (by omega)
  simp only [go_sem, ↓reduceIte, Nat.reduceEqDiff, a1]
  refine WS_of_seq (WS_of_ops ?_)
  have a2 : IntKind.i64.wrap ((s.length : Int) + 1) = ((s.length + 1 : Nat) : Int) := wrapI (n := s.length + 1) (by omega)
  have a3 : ¬ (((s.length + 1 : Nat) : Int) < (((splitB c s).length : Nat) : Int)) := by omega
  simp only [strings_genSplit_r7, go_sem, ↓reduceIte, Nat.reduceEqDiff, enterS, List.getD_cons_zero, List.getD_cons_succ, lenTA, Option.map_some, a2, minA, a3]
  refine WS_of_seq (WS_of_ops ?_)
  generalize hNe : (splitB c s).length = N at a1 a3 hN
  simp only [strings_genSplit_r8, go_sem, ↓reduceIte, Nat.reduceEqDiff, CBox.make (mk := AV.str) (z := []) wf (n := N) (bytes := 16) (by omega) (by omega)]
  have b1 : CBox AV.str h.n (List.replicate N ([] : T8)) (h.new ((List.replicate N ([] : T8)).map AV.str)) := Box.new wf _
  have wf1 := wf.new ((List.replicate N ([] : T8)).map AV.str)
  have k1 : Keep (Old h.n) h (h.new ((List.replicate N ([] : T8)).map AV.str)) := Keep.new (Nat.le_refl _) _
  generalize h.new ((List.replicate N ([] : T8)).map AV.str) = g1 at b1 wf1 k1
  refine WS_of_seq (WS_of_ops ?_)
  have a4 : IntKind.i64.wrap ((N : Int) - 1) = ((N - 1 : Nat) : Int) := by rw [show ((N : Int) - 1) = ((N - 1 : Nat) : Int) by omega]; exact wrapI (by omega)
  simp only [strings_genSplit_r9, go_sem, ↓reduceIte, Nat.reduceEqDiff, a4]
  refine WS_of_seq (WS_of_ops ?_)
  simp only [strings_genSplit_r10, go_sem, ↓reduceIte, Nat.reduceEqDiff]
  refine WS_of_seq (WS_of_block (WS_of_loop (fun k z g => ∃ (i : Nat) (f : List T8) (cur : T8), k = N - 1 - i ∧ i + 1 ≤ N ∧ f.length = N ∧ CBox AV.str h.n f g ∧ g.Wf ∧ Keep (Old h.n) h g ∧ cur.length ≤ s.length ∧ splitB c s = f.take i ++ splitB c cur ∧ z 0 = .str cur ∧ z 1 = .str [c] ∧ z 2 = .int .i64 0 ∧ z 3 = .int .i64 ((N - 1 : Nat) : Int) ∧ z 9 = .slice h.n 0 N 1 ∧ z 10 = .int .i64 (i : Int)) ?_ (N - 1) ?_))
  case refine_2 => exact ⟨0, List.replicate N [], s, by omega, by omega, by simp, b1, wf1, k1, Nat.le_refl _, by simp, rfl, rfl, rfl, rfl, rfl, rfl⟩
  rintro k z g ⟨i, f, cur, rfl, hi, hf, bg, wg, kg, hcl, hv, z0, z1, z2, z3, z9, z10⟩
  show WS (EL LG) strings_genSplit_l17 _ _ _ _
  have hlen : i + (splitB c cur).length = N := by
    have := congrArg List.length hv
    rw [List.length_append, List.length_take, hNe] at this
    omega
  refine WS_of_seq (WS_of_seq (WS_of_ops ?_))
  by_cases hp : i < N - 1
  case neg =>
    have hp' : ¬ (i : Int) < ((N - 1 : Nat) : Int) := by omega
    simp only [strings_genSplit_r11, go_sem, ↓reduceIte, Nat.reduceEqDiff, z3, z10, hp', decide_false]
    refine WS_of_cond ?_
    simp only [go_sem, ↓reduceIte, Nat.reduceEqDiff, Bool.false_eq_true]
    refine WS_of_exit ?_
    simp only [go_sem, ↓reduceIte, Nat.reduceEqDiff]
    have hi1 : i + 1 = N := by omega
    have h1 : splitB c cur = [cur] := by
      have e := splitB_cut c cur
      split at e
      · rw [e] at hlen
        have := splitB_ne c (cutS cur c).2.1
        cases hq : splitB c (cutS cur c).2.1 with
        | nil => exact absurd hq this
        | cons => rw [hq] at hlen; simp at hlen; omega
      · exact e
    obtain ⟨x1, _⟩ := CBox.at bg (i := i) (n := N) (by omega) hf.symm .i64
    obtain ⟨g2, e2, b2, k2⟩ := CBox.put str1 wg bg (i := i) (by omega) cur
    refine WS_of_seq (WS_of_ops ?_)
    simp only [strings_genSplit_r18, go_sem, ↓reduceIte, Nat.reduceEqDiff, z0, z9, z10, x1, e2]
    refine WS_of_seq (WS_of_ops ?_)
    have a5 : IntKind.i64.wrap ((i : Int) + 1) = ((i + 1 : Nat) : Int) := wrapI (n := i + 1) (by omega)
    have e3 : sliceSA 1 none (some (.int .i64 ((i + 1 : Nat) : Int))) (.slice h.n 0 N 1) = some (.slice h.n 0 N 1) := by
      simp only [sliceSA, bounds_to (n := N) (k := i + 1) (by omega), if_true, Option.map_some, Nat.zero_mul, Nat.add_zero, Nat.sub_zero]
      rw [hi1]
    simp only [strings_genSplit_r19, go_sem, ↓reduceIte, Nat.reduceEqDiff, z9, z10, a5, Option.map_some, Option.map_none, e3]
    refine WS_of_ret ?_
    simp only [go_sem, ↓reduceIte, Nat.reduceEqDiff, strings_genSplit_a]
    have hfin : f.set i cur = splitB c s := by
      rw [hv, h1, List.set_eq_take_append_cons_drop, if_pos (by omega), List.drop_eq_nil_of_le (by omega)]
    rw [← hfin]
    exact ⟨trivial, b2, kg.trans (k2.newbox wg kg.n (Nat.le_refl _)), k2.wf wg⟩
  have hp' : (i : Int) < ((N - 1 : Nat) : Int) := by omega
  simp only [strings_genSplit_r11, go_sem, ↓reduceIte, Nat.reduceEqDiff, z3, z10, hp', decide_true]
  refine WS_of_cond ?_
  simp only [go_sem, ↓reduceIte, Nat.reduceEqDiff]
  refine WS_of_skip ?_
  simp only [go_sem]
  have hcut := splitB_cut c cur
  rcases cut_idx cur c 0 with ⟨q1, q2⟩ | ⟨j, hj, q1, q2⟩
  · rw [q2, if_neg (by simp)] at hcut
    rw [hcut] at hlen; simp at hlen; omega
  rw [q2, if_pos rfl] at hcut
  simp only [Nat.zero_add] at q1
  refine WS_of_block (WS_of_seq (WS_of_ops ?_))
  simp only [strings_genSplit_r12, go_sem, ↓reduceIte, Nat.reduceEqDiff, z0, z1, enterS, List.getD_cons_zero, List.getD_cons_succ]
  refine EL_call (F := idxF) (v := .int .i64 (idxB cur c 0)) rfl rfl ?_
  rw [q1]
  simp only [go_sem, ↓reduceIte, Nat.reduceEqDiff]
  refine WS_of_seq (WS_of_seq (WS_of_ops ?_))
  have hj0 : ¬ (j : Int) < 0 := by omega
  simp only [strings_genSplit_r13, go_sem, ↓reduceIte, Nat.reduceEqDiff, hj0, decide_false]
  refine WS_of_cond ?_
  simp only [go_sem, ↓reduceIte, Nat.reduceEqDiff, Bool.false_eq_true]
  refine WS_of_skip ?_
  simp only [go_sem]
  have a5 : IntKind.i64.wrap ((j : Int) + 0) = (j : Int) := by rw [Int.add_zero]; exact wrapI (by omega)
  have t1 := sliceT_to (t := cur) (k := j) (by omega) .i64
  obtain ⟨x1, _⟩ := CBox.at bg (i := i) (n := N) (by omega) hf.symm .i64
  obtain ⟨g2, e2, b2, k2⟩ := CBox.put str1 wg bg (i := i) (by omega) (cur.take j)
  refine WS_of_seq (WS_of_ops ?_)
  simp only [strings_genSplit_r14, go_sem, ↓reduceIte, Nat.reduceEqDiff, z0, z2, z9, z10, a5, Option.map_some, Option.map_none, t1, x1, e2]
  refine WS_of_seq (WS_of_ops ?_)
  have a6 : IntKind.i64.wrap ((j : Int) + ((([c] : T8).length : Nat) : Int)) = ((j + 1 : Nat) : Int) := wrapI (n := j + 1) (by omega)
  have t2 := sliceT_from (t := cur) (k := j + 1) (by omega) .i64
  simp only [strings_genSplit_r15, go_sem, ↓reduceIte, Nat.reduceEqDiff, z0, z1, lenTA, Option.map_some, Option.map_none, a6, t2]
  refine WS_of_ops ?_
  have a7 : IntKind.i64.wrap ((i : Int) + 1) = ((i + 1 : Nat) : Int) := wrapI (n := i + 1) (by omega)
  simp only [strings_genSplit_r16, go_sem, ↓reduceIte, Nat.reduceEqDiff, z10, a7]
  refine ⟨N - 1 - (i + 1), by omega, i + 1, f.set i (cur.take j), cur.drop (j + 1), rfl, by omega, by simp [hf], b2, k2.wf wg, kg.trans (k2.newbox wg kg.n (Nat.le_refl _)), by simp; omega, ?_, rfl, z1, z2, z3, z9, rfl⟩
  rw [hv, hcut]
  have : (f.set i (cur.take j)).take (i + 1) = f.take i ++ [cur.take j] := by
    rw [List.set_eq_take_append_cons_drop, if_pos (by omega), List.take_append]
    simp [List.take_take, hf, Nat.min_eq_left (by omega : i ≤ N)]
  rw [this]; simp
theorem split_spec (s : T8) (c : UInt8) (hs : s.length < 999999) (h : H) (wf : h.Wf) :
    WCall (EL LG) n_strings_Split [.str s, .str [c]] h fun r h' => r = .val (.slice h.n 0 (splitB c s).length 1) ∧ CBox AV.str h.n (splitB c s) h' ∧ Keep (Old h.n) h h' ∧ h'.Wf := by
  refine WCall_ws ((EL_ov _ _).trans rfl) (EL_T T_strings_Split) (by simp [strings_Split_a]) ?_
  refine WS_of_seq (WS_of_ops ?_)
  simp only [strings_Split_r0, go_sem, ↓reduceIte, Nat.reduceEqDiff]
  refine WS_of_seq (WS_of_ops ?_)
  simp only [strings_Split_r1, go_sem, ↓reduceIte, Nat.reduceEqDiff, enterS, List.getD_cons_zero, List.getD_cons_succ]
  refine (gsplit_spec s c hs h wf).mono ?_
  rintro _ h' ⟨rfl, q⟩
  simp only [go_sem, ↓reduceIte, Nat.reduceEqDiff]
  refine WS_of_ret ?_
  simp only [go_sem, ↓reduceIte, Nat.reduceEqDiff, strings_Split_a]
  exact ⟨trivial, q⟩
end Go.Proofs.YtgjcdpanabjcmaaGreatDoor.Ev.C

/- A key's tuple. -/
namespace Go.Proofs.YtgjcdpanabjcmaaGreatDoor.Ev.C
open Go Go.Proofs.YtgjcdpanabjcmaaGreatDoor.Ev
set_option linter.unusedSimpArgs false
set_option linter.unusedVariables false
theorem splitB_le (c : UInt8) : ∀ (s x : T8), x ∈ splitB c s → x.length ≤ s.length
  | [], x, h => by simp [splitB] at h; rw [h]; simp
  | b :: r, x, h => by
    simp only [splitB] at h
    split at h
    · rcases List.mem_cons.1 h with rfl | h
      · simp
      · have := splitB_le c r x h; simp; omega
    · split at h
      · simp at h; rw [h]; simp
      · rename_i y t e
        rcases List.mem_cons.1 h with rfl | h
        · have := splitB_le c r y (by rw [e]; simp); simp; omega
        · have := splitB_le c r x (by rw [e]; simp [h]); simp; omega
def pad6 (l : List T8) : List T8 := l.take 6 ++ List.replicate (6 - l.length) []
theorem pad6_len (l : List T8) : (pad6 l).length = 6 := by simp [pad6]; omega
theorem list6 {p : List T8} (h : p.length = 6) : ∃ a b c d e g, p = [a, b, c, d, e, g] := by
  match p, h with
  | [a, b, c, d, e, g], _ => exact ⟨a, b, c, d, e, g, rfl⟩
theorem copy6 {h : H} (wf : h.Wf) {r r' : Nat} {l : List T8} (b : Box r (six [] [] [] [] [] []) h) (b' : CBox AV.str r' l h) (hl : 1 ≤ l.length) :
    ∃ h', copyA h 1 (.slice r 0 6 1) (.slice r' 0 l.length 1) = some (.int .i64 ((Nat.min l.length 6 : Nat) : Int), h') ∧ Box r (strCells (pad6 l)) h' ∧ KeepA [r] h h' := by
  have hmin : Nat.min l.length 6 ≤ 6 := Nat.min_le_right _ _
  have hmin2 : Nat.min l.length 6 ≤ l.length := Nat.min_le_left _ _
  have hmin0 : Nat.min l.length 6 ≠ 0 := by
    have : Nat.min l.length 6 = min l.length 6 := rfl
    omega
  have hlt : (strCells (l.take (Nat.min l.length 6))).length = Nat.min l.length 6 := by simp [strCells]; try exact Nat.min_le_left _ _
  obtain ⟨h', e, bb, k⟩ := b.put (i := 0) (n := Nat.min l.length 6) (v := .agg (strCells (l.take (Nat.min l.length 6)))) wf hlt (strCells_one _) (by simp; omega)
  refine ⟨h', ?_, ?_, k⟩
  · simp only [copyA, lenA, if_true]
    rw [if_neg hmin0]
    have hf : h.firstCells 1 (Nat.min l.length 6) (.slice r' 0 l.length 1) = some (strCells (l.take (Nat.min l.length 6))) := by
      simp only [H.firstCells, Box.row b']
      rw [if_pos ⟨trivial, hmin2⟩, if_pos (by simp; exact hmin2)]
      simp [strCells, List.map_take]
    rw [hf]
    simp only [strCells_one, if_true]
    simp only [storeA] at e
    split at e
    · rw [show (AV.agg (strCells (l.take (Nat.min l.length 6)))).cells = strCells (l.take (Nat.min l.length 6)) from rfl] at e
      rw [e]; rfl
    · cases e
  · have : splice (six [] [] [] [] [] []) 0 (AV.agg (strCells (l.take (Nat.min l.length 6)))).cells = strCells (pad6 l) := by
      show splice (strCells (List.replicate 6 [])) 0 (strCells (l.take (Nat.min l.length 6))) = _
      simp only [splice, List.take_zero, List.nil_append, Nat.zero_add, hlt]
      have : l.take (Nat.min l.length 6) = l.take 6 := by
        rcases Nat.le_total l.length 6 with h | h
        · rw [show Nat.min l.length 6 = l.length from Nat.min_eq_left h, List.take_length, List.take_of_length_le h]
        · rw [show Nat.min l.length 6 = 6 from Nat.min_eq_right h]
      rw [this]
      unfold pad6 strCells
      rw [List.map_append, List.map_replicate, List.map_replicate, List.drop_replicate]
      congr 2
      have : Nat.min l.length 6 = min l.length 6 := rfl
      omega
    rw [this] at bb
    exact bb
def formedL (p : List T8) : Bool := (p.take 5).all nameG && (decide (p.getD 5 [] = []) || nameG (p.getD 5 []))
/-- a key's names -/
def fromN (s : T8) : Option (List T8) := if (splitB 0 s).length ≤ 6 ∧ formedL (pad6 (splitB 0 s)) = true ∧ Lib.join (pad6 (splitB 0 s)) [0] = s then some (pad6 (splitB 0 s)) else none
def fromV (s : T8) : AV := match fromN s with
  | some p => .tup [.agg (strCells p), .bool true]
  | none => .tup [.agg (six [] [] [] [] [] []), .bool false]
theorem plain_strs : ∀ l : List T8, plainVs (strCells l) = true
  | [] => rfl
  | s :: r => by simp only [strCells, List.map_cons, plainVs, plainV, Bool.true_and]; exact plain_strs r
theorem fromV_plain (s : T8) : plainV (fromV s) = true := by
  unfold fromV; split
  · rename_i p _; simp [plainV, plainVs, plain_strs]
  · rfl
def tx5F (F : List UInt8 → AV) : List AV → Option AV
  | [.str s] => if s.length < 100000 then some (F s) else none
  | _ => none
theorem tx5F_walk {L : List Ovr} {f : Nat} {F : List UInt8 → AV} (hp : ∀ s, plainV (F s) = true) (w : ∀ (s : List UInt8), s.length < 100000 → ∀ h : H, h.Wf → WCall (EL L) f [.str s] h fun r _ => r = .val (F s))
    (args : List AV) (v : AV) (e : tx5F F args = some v) : plainV v = true ∧ ∀ h : H, h.Wf → WCall (EL L) f args h (fun r _ => r = .val v) := by
  unfold tx5F at e
  split at e
  case h_2 => cases e
  rename_i s
  split at e
  case isFalse => cases e
  rename_i hc
  cases e
  exact ⟨hp s, fun h wf => w s hc h wf⟩
theorem tx5F_at {L : List Ovr} {f : Nat} {F : List UInt8 → AV} (ho : ovP ov1 L f = some (pureO (tx5F F))) {s : List UInt8} (hl : s.length < 100000) {h : H} {R : AOut → H → Prop} (hR : R (.val (F s)) h) : WCall (EL L) f [.str s] h R :=
  EL_call ho (by unfold tx5F; simp only; rw [if_pos hl]) hR
theorem from_walk (s : T8) (hl : s.length < 100000) (h : H) (wf : h.Wf) : WCall (EL LG) n_tuple_From [.str s] h fun r _ => r = .val (fromV s) := by
  refine WCall_ws ((EL_ov _ _).trans rfl) (EL_T T_tuple_From) (by simp [tuple_From_a]) ?_
  refine WS_of_seq (WS_of_ops ?_)
  simp only [tuple_From_r0, go_sem, ↓reduceIte, Nat.reduceEqDiff, enterS, List.getD_cons_zero, List.getD_cons_succ]
  have b1 := Box.new wf (six [] [] [] [] [] [])
  have wf1 := wf.new (six [] [] [] [] [] [])
  generalize h.new [.str [], .str [], .str [], .str [], .str [], .str []] = g1 at b1 wf1
  have n1 := b1.lt wf1
  refine WS_of_seq (WS_of_ops ?_)
  simp only [tuple_From_r1, go_sem, ↓reduceIte, Nat.reduceEqDiff, enterS, List.getD_cons_zero, List.getD_cons_succ]
  refine (split_spec s 0 (by omega) g1 wf1).mono ?_
  rintro _ g2 ⟨rfl, b2, k2, wf2⟩
  simp only [go_sem, ↓reduceIte, Nat.reduceEqDiff]
  have b12 := b1.keep k2 n1
  have n2 : g1.n < g2.n := Box.lt wf2 b2
  have hV : fromV s = match (if (splitB 0 s).length ≤ 6 ∧ formedL (pad6 (splitB 0 s)) = true ∧ Lib.join (pad6 (splitB 0 s)) [0] = s then some (pad6 (splitB 0 s)) else none) with
    | some p => .tup [.agg (strCells p), .bool true]
    | none => .tup [.agg (six [] [] [] [] [] []), .bool false] := rfl
  have hle := splitB_le 0 s
  have hne : 1 ≤ (splitB 0 s).length := by rw [splitB_len]; omega
  generalize splitB 0 s = l at b2 hV hle hne
  refine WS_of_seq (WS_of_ops ?_)
  simp only [tuple_From_r2, go_sem, ↓reduceIte, Nat.reduceEqDiff]
  have z3 := Box.new wf2 (six [] [] [] [] [] [])
  have wf3 := wf2.new (six [] [] [] [] [] [])
  have k3 : Keep (Old g2.n) g2 (g2.new (six [] [] [] [] [] [])) := Keep.new (Nat.le_refl _) _
  have b13 := b12.keep k3 (b12.lt wf2)
  have b23 : CBox AV.str g1.n l (g2.new (six [] [] [] [] [] [])) := Box.keep b2 k3 n2
  have n3 := z3.lt wf3
  generalize g2.new [.str [], .str [], .str [], .str [], .str [], .str []] = g3 at z3 wf3 b13 b23 n3
  obtain ⟨g4, e4, z4, k4⟩ := copy6 wf3 z3 b23 hne
  have wf4 := k4.wf wf3
  have b14 := b13.keepA wf3 k4 (by simp; omega)
  have hpl := pad6_len l
  have hple : ∀ x ∈ pad6 l, x.length < 100000 := by
    intro x hx
    rcases List.mem_append.1 hx with hx | hx
    · have := hle x (List.mem_of_mem_take hx); omega
    · have := (List.mem_replicate.1 hx).2; rw [this]; simp
  have bad : fromV s = .tup [.agg (six [] [] [] [] [] []), .bool false] → ∀ z : S, z 2 = .ptr h.n 0 → WS (EL LG) (.seq (.ops tuple_From_r4) .ret) [.code (.seq (.ops tuple_From_r5) .ret)] (atEnd tuple_From_a.results fun r x => r = .val (fromV s)) z g4 := by
    intro hb z z2
    refine WS_of_seq (WS_of_ops ?_)
    obtain ⟨g5, e5, b5, _⟩ := b14.putAll wf4 (n := 6) (vs := six [] [] [] [] [] []) rfl rfl rfl
    simp only [tuple_From_r4, go_sem, ↓reduceIte, Nat.reduceEqDiff, parts, List.map_cons, List.map_nil, afill3, afill30, afill6, afill60, afill66, z2, e5]
    refine WS_of_ret ?_
    simp only [go_sem, ↓reduceIte, Nat.reduceEqDiff, tuple_From_a, z2, b5.loadAgg (n := 6) rfl]
    rw [hb]
  refine WS_of_seq (WS_of_seq (WS_of_ops ?_))
  by_cases h6 : l.length ≤ 6
  case neg =>
    have hc : ¬ ((Nat.min l.length 6 : Nat) : Int) = (l.length : Int) := by
      have : Nat.min l.length 6 = min l.length 6 := rfl
      omega
    simp only [tuple_From_r3, go_sem, ↓reduceIte, Nat.reduceEqDiff, box_arr z3 rfl, Option.map_none, e4, lenSA, Option.map_some, hc, wanted, decide_true, decide_false, beq_self_eq_true, pickA, show (false == true) = false from rfl, show (true == false) = false from rfl, Bool.false_eq_true, undefA, Bool.not_true, Bool.not_false]
    refine WS_of_cond ?_
    simp only [go_sem, ↓reduceIte, Nat.reduceEqDiff]
    exact bad (by rw [hV, if_neg (by omega)]) _ rfl
  have hc : ((Nat.min l.length 6 : Nat) : Int) = (l.length : Int) := by
    have : Nat.min l.length 6 = min l.length 6 := rfl
    omega
  obtain ⟨a, b, c, d, e, g, hp⟩ := list6 hpl
  rw [hp] at z4 hV hple
  have hb1 : (a.length < 1000000 ∧ b.length < 1000000 ∧ c.length < 1000000) := by
    have := hple a (by simp); have := hple b (by simp); have := hple c (by simp); omega
  have hb2 : (d.length < 1000000 ∧ e.length < 1000000 ∧ g.length < 1000000) := by
    have := hple d (by simp); have := hple e (by simp); have := hple g (by simp); omega
  have hkl : (keyT a b c d e g).length ≤ 1000000 := by
    have := hple a (by simp); have := hple b (by simp); have := hple c (by simp); have := hple d (by simp); have := hple e (by simp); have := hple g (by simp)
    rw [keyT_eq]; simp; omega
  have hfl : formedL [a, b, c, d, e, g] = formed6 a b c d e g := rfl
  have hkk : Lib.join [a, b, c, d, e, g] [0] = keyT a b c d e g := rfl
  rw [hfl, hkk] at hV
  have lA : loadA g4 true 6 (.ptr g2.n 0) = some (.agg (six a b c d e g)) := Box.loadAgg (cs := six a b c d e g) z4 rfl
  simp only [tuple_From_r3, go_sem, ↓reduceIte, Nat.reduceEqDiff, box_arr z3 rfl, Option.map_none, e4, lenSA, Option.map_some, hc, wanted, decide_true, decide_false, beq_self_eq_true, pickA, show (false == true) = false from rfl, show (true == false) = false from rfl, Bool.false_eq_true, undefA, Bool.not_true, Bool.not_false, lA, enterS, List.getD_cons_zero, List.getD_cons_succ]
  refine tpF_at (F := fun a b c d e g => .bool (formed6 a b c d e g)) rfl hb1 hb2 ?_
  cases h1 : formed6 a b c d e g
  · simp only [go_sem, ↓reduceIte, Nat.reduceEqDiff, wanted, decide_true, decide_false, beq_self_eq_true, pickA, show (false == true) = false from rfl, show (true == false) = false from rfl, Bool.false_eq_true, undefA, Bool.not_true, Bool.not_false]
    refine WS_of_cond ?_
    simp only [go_sem, ↓reduceIte, Nat.reduceEqDiff]
    exact bad (by rw [hV, if_neg (by simp [h1])]) _ rfl
  simp only [go_sem, ↓reduceIte, Nat.reduceEqDiff, wanted, decide_true, decide_false, beq_self_eq_true, pickA, show (false == true) = false from rfl, show (true == false) = false from rfl, Bool.false_eq_true, undefA, Bool.not_true, Bool.not_false, lA, enterS, List.getD_cons_zero, List.getD_cons_succ]
  refine tpF_at (F := fun a b c d e g => .agg (six a b c d e g)) rfl hb1 hb2 ?_
  simp only [go_sem, ↓reduceIte, Nat.reduceEqDiff, wanted, decide_true, decide_false, beq_self_eq_true, pickA, show (false == true) = false from rfl, show (true == false) = false from rfl, Bool.false_eq_true, undefA, Bool.not_true, Bool.not_false, enterS, List.getD_cons_zero, List.getD_cons_succ]
  refine key_at rfl hkl ?_
  by_cases h2 : keyT a b c d e g = s
  case neg =>
    simp only [go_sem, ↓reduceIte, Nat.reduceEqDiff, wanted, decide_true, decide_false, beq_self_eq_true, pickA, show (false == true) = false from rfl, show (true == false) = false from rfl, Bool.false_eq_true, undefA, Bool.not_true, Bool.not_false, h2]
    refine WS_of_cond ?_
    simp only [go_sem, ↓reduceIte, Nat.reduceEqDiff]
    exact bad (by rw [hV, if_neg (by simp [h2])]) _ rfl
  simp only [go_sem, ↓reduceIte, Nat.reduceEqDiff, wanted, decide_true, decide_false, beq_self_eq_true, pickA, show (false == true) = false from rfl, show (true == false) = false from rfl, Bool.false_eq_true, undefA, Bool.not_true, Bool.not_false, h2]
  refine WS_of_cond ?_
  simp only [go_sem, ↓reduceIte, Nat.reduceEqDiff, Bool.false_eq_true]
  refine WS_of_skip ?_
  simp only [go_sem]
  refine WS_of_seq (WS_of_ops ?_)
  simp only [tuple_From_r5, go_sem, ↓reduceIte, Nat.reduceEqDiff, lA, enterS, List.getD_cons_zero, List.getD_cons_succ]
  refine tpF_at (F := fun a b c d e g => .agg (six a b c d e g)) rfl hb1 hb2 ?_
  obtain ⟨g5, e5, b5, _⟩ := b14.putAll wf4 (n := 6) (vs := six a b c d e g) rfl rfl rfl
  simp only [go_sem, ↓reduceIte, Nat.reduceEqDiff, e5]
  refine WS_of_ret ?_
  simp only [go_sem, ↓reduceIte, Nat.reduceEqDiff, tuple_From_a, b5.loadAgg (n := 6) rfl]
  rw [hV, if_pos ⟨h6, h1, h2⟩]; rfl
end Go.Proofs.YtgjcdpanabjcmaaGreatDoor.Ev.C

/- The reference's tuple of a key. -/
namespace Go.Proofs.YtgjcdpanabjcmaaGreatDoor.Ev.C
open Go Go.Proofs.YtgjcdpanabjcmaaGreatDoor.Ev
set_option linter.unusedSimpArgs false
set_option linter.unusedVariables false
/-- so many parts, and what is behind them -/
def rcut : Nat → T8 → Option (List T8 × T8)
  | 0, s => some ([], s)
  | k + 1, s => if (cutS s 0).2.2 = true then (rcut k (cutS s 0).2.1).map (fun p => ((cutS s 0).1 :: p.1, p.2)) else none
theorem rcut_len : ∀ {k : Nat} {s : T8} {p : List T8 × T8}, rcut k s = some p → p.1.length = k ∧ (∀ x ∈ p.1, x.length ≤ s.length) ∧ p.2.length ≤ s.length
  | 0, s, p, h => by cases h; simp
  | k + 1, s, p, h => by
    unfold rcut at h
    split at h
    · obtain ⟨q, hq, rfl⟩ := Option.map_eq_some_iff.1 h
      obtain ⟨h1, h2, h3⟩ := rcut_len hq
      have hc := cutS_len s 0
      refine ⟨by simp [h1], ?_, by simp only; omega⟩
      intro x hx
      rcases List.mem_cons.1 hx with rfl | hx
      · exact hc.1
      · have := h2 x hx; omega
    · cases h
def rform (p : List T8 × T8) : Bool := formedN (p.1.getD 0 []) (p.1.getD 1 []) (p.1.getD 2 []) && (formedN (p.1.getD 3 []) (p.1.getD 4 []) p.2 && !decide (p.1.getD 2 [] = []))
def rfromN (s : T8) : Option (List T8) := match rcut 5 s with
  | some p => if rform p = true then some (p.1 ++ [p.2]) else none
  | none => none
def rfromV (s : T8) : AV := match rfromN s with
  | some p => .tup [.agg (strCells p), .bool true]
  | none => .tup [.agg (six [] [] [] [] [] []), .bool false]
theorem rfromV_plain (s : T8) : plainV (rfromV s) = true := by
  unfold rfromV; split
  · rename_i p _; simp [plainV, plainVs, plain_strs]
  · rfl
theorem list5 {p : List T8} (h : p.length = 5) : ∃ a b c d e, p = [a, b, c, d, e] := by
  match p, h with
  | [a, b, c, d, e], _ => exact ⟨a, b, c, d, e, rfl⟩
theorem rfrom_walk (s : T8) (hl : s.length < 100000) (h : H) (wf : h.Wf) : WCall (EL LG) n_doormanref12_From [.str s] h fun r _ => r = .val (rfromV s) := by
  refine WCall_ws ((EL_ov _ _).trans rfl) (EL_T T_doormanref12_From) (by simp [doormanref12_From_a]) ?_
  refine WS_of_seq (WS_of_ops ?_)
  simp only [doormanref12_From_r0, go_sem, ↓reduceIte, Nat.reduceEqDiff, enterS, List.getD_cons_zero, List.getD_cons_succ]
  have b1 := Box.new wf (six [] [] [] [] [] [])
  have wf1 := wf.new (six [] [] [] [] [] [])
  generalize h.new [.str [], .str [], .str [], .str [], .str [], .str []] = g1 at b1 wf1
  have n1 := b1.lt wf1
  refine WS_of_seq (WS_of_ops ?_)
  simp only [doormanref12_From_r1, go_sem, ↓reduceIte, Nat.reduceEqDiff]
  refine WS_of_seq (WS_of_ops ?_)
  simp only [doormanref12_From_r2, go_sem, ↓reduceIte, Nat.reduceEqDiff, enterS, List.getD_cons_zero, List.getD_cons_succ]
  refine WS_of_seq (WS_of_seq (WS_of_ops ?_))
  simp only [doormanref12_From_r3, go_sem, ↓reduceIte, Nat.reduceEqDiff]
  refine WS_of_block (WS_of_loop (fun k z q => ∃ (i : Nat) (acc : List T8) (cur : T8) (v : AV), k = 5 - i ∧ i ≤ 5 ∧ acc.length = i ∧ cur.length ≤ s.length ∧ rcut 5 s = (rcut (5 - i) cur).map (fun p => (acc ++ p.1, p.2)) ∧ Strs q v acc ∧ Own g1.n q v ∧ q.Wf ∧ Box h.n (six [] [] [] [] [] []) q ∧ g1.n ≤ q.n ∧ z 2 = .ptr h.n 0 ∧ z 4 = v ∧ z 5 = .str cur ∧ z 6 = .int .i64 (i : Int)) ?_ 5 ?_)
  case refine_2 =>
    refine ⟨0, [], s, .nils, rfl, by omega, rfl, Nat.le_refl _, ?_, Strs.nil _, Own.nils _ _, wf1, b1, Nat.le_refl _, rfl, rfl, rfl, rfl⟩
    cases rcut 5 s <;> simp
  rintro k z q ⟨i, acc, cur, v, rfl, hi, hal, hcl, hv, st, ow, wq, bq, hn, z2, z4, z5, z6⟩
  show WS (EL LG) doormanref12_From_l11 _ _ _ _
  refine WS_of_seq (WS_of_seq (WS_of_ops ?_))
  by_cases hp : i < 5
  case pos =>
    have hp' : (i : Int) < 5 := by omega
    simp only [doormanref12_From_r4, go_sem, ↓reduceIte, Nat.reduceEqDiff, z6, hp', decide_true]
    refine WS_of_cond ?_
    simp only [go_sem, ↓reduceIte, Nat.reduceEqDiff]
    refine WS_of_skip ?_
    simp only [go_sem]
    refine WS_of_seq (WS_of_block (WS_of_seq (WS_of_ops ?_)))
    simp only [doormanref12_From_r5, go_sem, ↓reduceIte, Nat.reduceEqDiff, z5, enterS, List.getD_cons_zero, List.getD_cons_succ]
    refine rcut_at rfl 0 (by omega) ?_
    simp only [go_sem, ↓reduceIte, Nat.reduceEqDiff, extractA, List.getElem?_cons_zero, List.getElem?_cons_succ]
    refine WS_of_seq (WS_of_seq (WS_of_ops ?_))
    have h5 : 5 - i = (5 - (i + 1)) + 1 := by omega
    have hstep : rcut (5 - i) cur = if (cutS cur 0).2.2 = true then (rcut (5 - (i + 1)) (cutS cur 0).2.1).map (fun p => ((cutS cur 0).1 :: p.1, p.2)) else none := by rw [h5]; rfl
    rw [hstep] at hv
    rcases cut_idx cur 0 0 with ⟨_, q2⟩ | ⟨j, hj, _, q2⟩
    · rw [q2] at hv ⊢
      simp only [doormanref12_From_r6, go_sem, ↓reduceIte, Nat.reduceEqDiff, z5, lenTA, Option.map_some, decide_true]
      refine WS_of_cond ?_
      simp only [go_sem, ↓reduceIte, Nat.reduceEqDiff]
      refine WS_of_seq (WS_of_ops ?_)
      obtain ⟨g5, e5, b5, _⟩ := bq.putAll wq (n := 6) (vs := six [] [] [] [] [] []) rfl rfl rfl
      simp only [doormanref12_From_r7, go_sem, ↓reduceIte, Nat.reduceEqDiff, parts, List.map_cons, List.map_nil, afill3, afill30, afill6, afill60, afill66, z2, e5]
      refine WS_of_ret ?_
      simp only [go_sem, ↓reduceIte, Nat.reduceEqDiff, doormanref12_From_a, z2, b5.loadAgg (n := 6) rfl]
      have : rcut 5 s = none := by rw [hv]; simp
      simp only [rfromV, rfromN, this]
    · rw [q2] at hv ⊢
      have hne : ¬ (((cur.take j).length : Nat) : Int) = (cur.length : Int) := by simp; omega
      simp only [doormanref12_From_r6, go_sem, ↓reduceIte, Nat.reduceEqDiff, z5, lenTA, Option.map_some, hne, decide_false]
      refine WS_of_cond ?_
      simp only [go_sem, ↓reduceIte, Nat.reduceEqDiff, Bool.false_eq_true]
      refine WS_of_skip ?_
      simp only [go_sem]
      have ef : afill (zeros [AV.str []] (1 * 1)) [(0, 1, AV.str (cur.take j))] = some [.str (cur.take j)] := rfl
      have wq1 := wq.new [.str (cur.take j)]
      have kq : Keep (Old q.n) q (q.new [.str (cur.take j)]) := Keep.new (Nat.le_refl _) _
      have so := ow.slot wq
      have st1 := st.keep kq so
      have ow1 := ow.keep so kq
      obtain ⟨v', g2, e2, st2, ow2, k2⟩ := Strs.app wq1 (N := g1.n) (Nat.le_trans hn (Nat.le_succ _)) st1 ow1 (Strs.one wq (cur.take j)) (by simp [hal]; omega)
      have bq1 := bq.keep kq (bq.lt wq)
      have bq2 := bq1.keep k2 n1
      refine WS_of_seq (WS_of_ops ?_)
      simp only [doormanref12_From_r8, go_sem, ↓reduceIte, Nat.reduceEqDiff, z4, parts, List.map_cons, List.map_nil, ef, e2]
      refine WS_of_ops ?_
      simp only [doormanref12_From_r9, go_sem, ↓reduceIte, Nat.reduceEqDiff]
      refine WS_of_ops ?_
      have a7 : IntKind.i64.wrap ((i : Int) + 1) = ((i + 1 : Nat) : Int) := wrapI (n := i + 1) (by omega)
      simp only [doormanref12_From_r10, go_sem, ↓reduceIte, Nat.reduceEqDiff, z6, a7]
      refine ⟨5 - (i + 1), by omega, i + 1, acc ++ [cur.take j], cur.drop (j + 1), v', rfl, by omega, by simp [hal], by simp; omega, ?_, st2, ow2, k2.wf wq1, bq2, Nat.le_trans (Nat.le_trans hn (Nat.le_succ _)) k2.n, z2, rfl, rfl, rfl⟩
      rw [hv, if_pos rfl]
      cases rcut (5 - (i + 1)) (cur.drop (j + 1)) <;> simp
  obtain rfl : i = 5 := by omega
  have hp' : ¬ ((5 : Nat) : Int) < 5 := by omega
  simp only [doormanref12_From_r4, go_sem, ↓reduceIte, Nat.reduceEqDiff, z6, hp', decide_false]
  refine WS_of_cond ?_
  simp only [go_sem, ↓reduceIte, Nat.reduceEqDiff, Bool.false_eq_true]
  refine WS_of_exit ?_
  simp only [go_sem, ↓reduceIte, Nat.reduceEqDiff]
  have hr : rcut 5 s = some (acc, cur) := by rw [hv]; simp [rcut]
  obtain ⟨hr1, hr2, hr3⟩ := rcut_len hr
  obtain ⟨a, b, c, d, e, rfl⟩ := list5 hal
  have hb1 : (a.length < 1000000 ∧ b.length < 1000000 ∧ c.length < 1000000) := by
    have := hr2 a (by simp); have := hr2 b (by simp); have := hr2 c (by simp); omega
  have hb2 : (d.length < 1000000 ∧ e.length < 1000000 ∧ cur.length < 1000000) := by
    have := hr2 d (by simp); have := hr2 e (by simp); omega
  have hV : rfromV s = match (if rform ([a, b, c, d, e], cur) = true then some ([a, b, c, d, e] ++ [cur]) else none) with
    | some p => .tup [.agg (strCells p), .bool true]
    | none => .tup [.agg (six [] [] [] [] [] []), .bool false] := by simp only [rfromV, rfromN, hr]
  have hform : rform ([a, b, c, d, e], cur) = (formedN a b c && (formedN d e cur && !decide (c = []))) := rfl
  rw [hform] at hV
  -- what is read of the parts
  have hat : ∀ h', Keep (Old q.n) q h' → Strs h' v [a, b, c, d, e] := fun h' k => st.keep k (ow.slot wq)
  have hix : ∀ i : Nat, i < 5 → ∃ p, indexAddrA 1 v (.int .i64 (i : Int)) = some p ∧ ∀ h', Keep (Old q.n) q h' → loadA h' false 1 p = ([.str a, .str b, .str c, .str d, .str e] : List AV)[i]? := by
    intro i hi
    obtain ⟨p, e1, _⟩ := st.at (i := i) (by simp; omega) .i64
    refine ⟨p, e1, fun h' k => ?_⟩
    obtain ⟨p', e1', e2'⟩ := (hat h' k).at (i := i) (by simp; omega) .i64
    rw [e1] at e1'; cases e1'
    rw [e2']
    have : i = 0 ∨ i = 1 ∨ i = 2 ∨ i = 3 ∨ i = 4 := by omega
    rcases this with rfl | rfl | rfl | rfl | rfl <;> rfl
  obtain ⟨p0, i0, l0⟩ := hix 0 (by omega)
  obtain ⟨p1, i1, l1⟩ := hix 1 (by omega)
  obtain ⟨p2, i2, l2⟩ := hix 2 (by omega)
  obtain ⟨p3, i3, l3⟩ := hix 3 (by omega)
  obtain ⟨p4, i4, l4⟩ := hix 4 (by omega)
  simp only [show ((0 : Nat) : Int) = 0 from rfl] at i0
  simp only [show ((1 : Nat) : Int) = 1 from rfl] at i1
  simp only [show ((2 : Nat) : Int) = 2 from rfl] at i2
  simp only [show ((3 : Nat) : Int) = 3 from rfl] at i3
  simp only [show ((4 : Nat) : Int) = 4 from rfl] at i4
  have kr : Keep (Old q.n) q q := Keep.refl _ _
  obtain ⟨g3, e3, b3, wf3, k3⟩ := Box.newPut wq (z := six [] [] [] [] [] []) (vs := six a b c d e cur) (n := 6) rfl rfl rfl
  have kn : Keep (Old q.n) q (q.new (six [] [] [] [] [] [])) := Keep.new (Nat.le_refl _) _
  have m0 := l0 q kr; have m1 := l1 q kr; have m2 := l2 q kr; have m3 := l3 q kr; have m4 := l4 q kr
  have o0 := l0 _ kn; have o1 := l1 _ kn; have o2 := l2 _ kn; have o3 := l3 _ kn; have o4 := l4 _ kn
  have r0 := l0 _ k3; have r1 := l1 _ k3; have r2 := l2 _ k3; have r3 := l3 _ k3; have r4 := l4 _ k3
  simp only [List.getElem?_cons_zero, List.getElem?_cons_succ] at m0 m1 m2 m3 m4 o0 o1 o2 o3 o4 r0 r1 r2 r3 r4
  have bq3 := bq.keep k3 (bq.lt wq)
  refine WS_of_seq (WS_of_draw ?_)
  simp only [doormanref12_From_r12, go_sem, ↓reduceIte, Nat.reduceEqDiff, and_self, true_and, List.filter_cons, List.filter_nil, Nat.testBit, Nat.reduceShiftRight, Nat.reduceAnd, Nat.reduceBNe, Bool.not_false, Bool.not_true, Bool.false_eq_true, bne_self_eq_false, wanted, z4, z5, i0, i1, i2, i3, i4, m0, m1, m2, m3, m4, o0, o1, o2, o3, o4, r0, r1, r2, r3, r4, parts, List.map_cons, List.map_nil, afill3, afill30, afill6, afill60, afill66, e3]
  have q0 : loadA g3 true 3 (.ptr q.n 0) = some (.agg [.str a, .str b, .str c]) := by simp only [loadA, b3.row, if_true]; rfl
  have q3 : loadA g3 true 3 (.ptr q.n 3) = some (.agg [.str d, .str e, .str cur]) := by simp only [loadA, b3.row, if_true]; rfl
  refine WS_of_seq (WS_of_ops ?_)
  simp only [doormanref12_From_r13, go_sem, ↓reduceIte, Nat.reduceEqDiff, fieldAddrA, Nat.zero_add, Nat.add_zero, Nat.reduceAdd, q0, enterS, List.getD_cons_zero, List.getD_cons_succ]
  refine ndF_at (F := fun a b c => .bool (formedN a b c)) rfl hb1.1 hb1.2.1 hb1.2.2 ?_
  simp only [go_sem, ↓reduceIte, Nat.reduceEqDiff]
  refine WS_of_seq (WS_of_ops ?_)
  simp only [doormanref12_From_r14, go_sem, ↓reduceIte, Nat.reduceEqDiff, fieldAddrA, Nat.zero_add, Nat.add_zero, Nat.reduceAdd, q3, enterS, List.getD_cons_zero, List.getD_cons_succ]
  refine ndF_at (F := fun a b c => .bool (formedN a b c)) rfl hb2.1 hb2.2.1 hb2.2.2 ?_
  simp only [go_sem, ↓reduceIte, Nat.reduceEqDiff]
  have bad : rfromV s = .tup [.agg (six [] [] [] [] [] []), .bool false] → ∀ z : S, z 2 = .ptr h.n 0 → WS (EL LG) (.seq (.ops doormanref12_From_r16) .ret) [.code (.seq (.ops doormanref12_From_r17) .ret)] (atEnd doormanref12_From_a.results fun r x => r = .val (rfromV s)) z g3 := by
    intro hb z z2
    refine WS_of_seq (WS_of_ops ?_)
    obtain ⟨g5, e5, b5, _⟩ := bq3.putAll wf3 (n := 6) (vs := six [] [] [] [] [] []) rfl rfl rfl
    simp only [doormanref12_From_r16, go_sem, ↓reduceIte, Nat.reduceEqDiff, parts, List.map_cons, List.map_nil, afill3, afill30, afill6, afill60, afill66, z2, e5]
    refine WS_of_ret ?_
    simp only [go_sem, ↓reduceIte, Nat.reduceEqDiff, doormanref12_From_a, z2, b5.loadAgg (n := 6) rfl]
    rw [hb]
  refine WS_of_seq (WS_of_seq (WS_of_ops ?_))
  cases h1 : formedN a b c
  · simp only [doormanref12_From_r15, go_sem, ↓reduceIte, Nat.reduceEqDiff, wanted, decide_true, decide_false, beq_self_eq_true, pickA, show (false == true) = false from rfl, show (true == false) = false from rfl, Bool.false_eq_true, undefA, Bool.not_true, Bool.not_false]
    refine WS_of_cond ?_
    simp only [go_sem, ↓reduceIte, Nat.reduceEqDiff]
    exact bad (by rw [hV, if_neg (by simp [h1])]) _ z2
  cases h2 : formedN d e cur
  · simp only [doormanref12_From_r15, go_sem, ↓reduceIte, Nat.reduceEqDiff, wanted, decide_true, decide_false, beq_self_eq_true, pickA, show (false == true) = false from rfl, show (true == false) = false from rfl, Bool.false_eq_true, undefA, Bool.not_true, Bool.not_false]
    refine WS_of_cond ?_
    simp only [go_sem, ↓reduceIte, Nat.reduceEqDiff]
    exact bad (by rw [hV, if_neg (by simp [h2])]) _ z2
  by_cases h0 : c = []
  · simp only [doormanref12_From_r15, go_sem, ↓reduceIte, Nat.reduceEqDiff, wanted, decide_true, decide_false, beq_self_eq_true, pickA, show (false == true) = false from rfl, show (true == false) = false from rfl, Bool.false_eq_true, undefA, Bool.not_true, Bool.not_false, z4, i2, r2, h0]
    refine WS_of_cond ?_
    simp only [go_sem, ↓reduceIte, Nat.reduceEqDiff]
    exact bad (by rw [hV, if_neg (by simp [h0])]) _ z2
  simp only [doormanref12_From_r15, go_sem, ↓reduceIte, Nat.reduceEqDiff, wanted, decide_true, decide_false, beq_self_eq_true, pickA, show (false == true) = false from rfl, show (true == false) = false from rfl, Bool.false_eq_true, undefA, Bool.not_true, Bool.not_false, z4, i2, r2, h0]
  refine WS_of_cond ?_
  simp only [go_sem, ↓reduceIte, Nat.reduceEqDiff, Bool.false_eq_true]
  refine WS_of_skip ?_
  simp only [go_sem]
  refine WS_of_seq (WS_of_ops ?_)
  obtain ⟨g5, e5, b5, _⟩ := bq3.putAll wf3 (n := 6) (vs := six a b c d e cur) rfl rfl rfl
  simp only [doormanref12_From_r17, go_sem, ↓reduceIte, Nat.reduceEqDiff, b3.loadAgg (n := 6) rfl, z2, e5]
  refine WS_of_ret ?_
  simp only [go_sem, ↓reduceIte, Nat.reduceEqDiff, doormanref12_From_a, z2, b5.loadAgg (n := 6) rfl]
  rw [hV, if_pos (by simp [h1, h2, h0])]; rfl
def fromF : List AV → Option AV := tx5F fromV
def rfromF : List AV → Option AV := tx5F rfromV
def LH : List Ovr := (n_tuple_From, pureO fromF) :: (n_doormanref12_From, pureO rfromF) :: LG
def LAll : List Ovr := (nAwake, yes) :: LH
theorem awakeZ {h : H} (ks : KStart h) : WCall (EL LAll) nAwake [] h fun r h' => r = .val (.bool true) ∧ h' = h :=
  WCall_ov (g := yes) ((EL_ov _ _).trans rfl) (by simp [yes, startB_of ks]) ⟨rfl, rfl⟩
end Go.Proofs.YtgjcdpanabjcmaaGreatDoor.Ev.C

/- Plain laws of names, nodes, tuples and keys. -/
namespace Go.Proofs.YtgjcdpanabjcmaaGreatDoor.Ev.C
open Go Go.Proofs.YtgjcdpanabjcmaaGreatDoor.Ev
set_option linter.unusedSimpArgs false
set_option linter.unusedVariables false
/-! ### a name's bytes -/
def okB (c : Nat) : Bool := decide (128 ≤ c) || asciiR c
theorem inB_ge {s : List UInt8} {i lo hi : Nat} (h : inB s i lo hi = true) : lo ≤ bt s i := by
  simp [inB] at h; exact h.2.1
theorem may_ok {s : List UInt8} {p : Nat} (hm : mayR s p = true) : ∀ i, p ≤ i → i < stepR s p → okB (bt s i) = true := by
  intro i h1 h2
  have e := longB_eq s p
  unfold stepR at h2
  unfold mayR at hm
  by_cases hL : longR s p = 1
  · rw [if_pos hL] at hm
    rw [hL] at h2
    obtain rfl : i = p := by simp at h2; omega
    simp [okB, hm]
  rw [if_neg hL] at hm
  simp only [Bool.and_eq_true, decide_eq_true_eq] at hm
  have hg : 1 < longR s p := hm.1
  rw [if_neg (by omega)] at h2
  have ge : ∀ j, 128 ≤ bt s j → okB (bt s j) = true := fun j h => by simp [okB, h]
  apply ge
  rw [← e] at hg h2
  unfold longB at hg h2
  split at hg
  · omega
  rename_i c1
  rw [if_neg c1] at h2
  split at hg
  · rename_i c2
    rw [if_pos c2] at h2
    split at hg
    · rename_i o1
      rw [if_pos o1] at h2
      have := inB_ge o1
      have : i = p ∨ i = p + 1 := by omega
      rcases this with rfl | rfl <;> omega
    · omega
  rename_i c2
  rw [if_neg c2] at h2
  split at hg
  · rename_i c3
    rw [if_pos c3] at h2
    have k1' : (if bt s p = 224 then inB s (p + 1) 160 191 else if bt s p = 237 then inB s (p + 1) 128 159 else inB s (p + 1) 128 191) = true → 128 ≤ bt s (p + 1) := by
      intro o1
      split at o1
      · have := inB_ge o1; omega
      · split at o1 <;> (have := inB_ge o1; omega)
    generalize (if bt s p = 224 then inB s (p + 1) 160 191 else if bt s p = 237 then inB s (p + 1) 128 159 else inB s (p + 1) 128 191) = O at hg h2 k1'
    split at hg
    · rename_i o1
      rw [if_pos o1] at h2
      obtain ⟨o1, o2⟩ := o1
      have k2 := inB_ge o2
      have k1 : 128 ≤ bt s (p + 1) := k1' o1
      have : i = p ∨ i = p + 1 ∨ i = p + 2 := by omega
      rcases this with rfl | rfl | rfl <;> omega
    · omega
  rename_i c3
  rw [if_neg c3] at h2
  split at hg
  · rename_i c4
    rw [if_pos c4] at h2
    have k1' : (if bt s p = 240 then inB s (p + 1) 144 191 else if bt s p = 244 then inB s (p + 1) 128 143 else inB s (p + 1) 128 191) = true → 128 ≤ bt s (p + 1) := by
      intro o1
      split at o1
      · have := inB_ge o1; omega
      · split at o1 <;> (have := inB_ge o1; omega)
    generalize (if bt s p = 240 then inB s (p + 1) 144 191 else if bt s p = 244 then inB s (p + 1) 128 143 else inB s (p + 1) 128 191) = O at hg h2 k1'
    split at hg
    · rename_i o1
      rw [if_pos o1] at h2
      obtain ⟨⟨o1, o2⟩, o3⟩ := o1
      have k2 := inB_ge o2
      have k3 := inB_ge o3
      have k1 : 128 ≤ bt s (p + 1) := k1' o1
      have : i = p ∨ i = p + 1 ∨ i = p + 2 ∨ i = p + 3 := by omega
      rcases this with rfl | rfl | rfl | rfl <;> omega
    · omega
  · omega
theorem runes_ok (s : List UInt8) : ∀ (f p : Nat), s.length - p ≤ f → (runes s p).all (fun x => mayR s x.1) = true → ∀ i, p ≤ i → i < s.length → okB (bt s i) = true := by
  intro f
  induction f with
  | zero => intro p hp _ i h1 h2; omega
  | succ f ih =>
    intro p hp ha i h1 h2
    rw [runes_step (by omega), dec_step, List.all_cons, Bool.and_eq_true] at ha
    have hs := stepR_gt s p
    by_cases hi : i < stepR s p
    · exact may_ok ha.1 i h1 hi
    · exact ih (stepR s p) (by omega) ha.2 i (by omega) h2
theorem name_ok {s : T8} (h : nameG s = true) : ∀ b ∈ s, okB b.toNat = true := by
  intro b hb
  rw [name_same] at h
  unfold nameR at h
  rw [Bool.and_eq_true] at h
  obtain ⟨i, hi, rfl⟩ := List.getElem_of_mem hb
  have := runes_ok s s.length 0 (by omega) h.1 i (by omega) hi
  simpa [bt, List.getD_eq_getElem?_getD, List.getElem?_eq_getElem hi] using this
theorem name_no {s : T8} (h : nameG s = true) (c : UInt8) (hc : okB c.toNat = false) : c ∉ s := by
  intro hm
  have := name_ok h c hm
  rw [hc] at this; cases this
theorem name_ne {s : T8} (h : nameG s = true) : s ≠ [] := by
  rintro rfl; simp [nameG] at h
theorem nameG_nil : nameG [] = false := by
  cases h : nameG [] with
  | false => rfl
  | true => exact absurd rfl (name_ne h)
/-! ### cuts -/
theorem cutS_at {a : T8} {c : UInt8} (b : T8) (h : c ∉ a) : cutS (a ++ c :: b) c = (a, b, true) := by
  induction a with
  | nil => simp [cutS]
  | cons x r ih =>
    have hx : x ≠ c := fun e => h (by simp [e])
    simp only [List.cons_append, cutS, if_neg hx, ih (fun hm => h (by simp [hm]))]
theorem cutS_no {a : T8} {c : UInt8} (h : c ∉ a) : cutS a c = (a, [], false) := by
  induction a with
  | nil => rfl
  | cons x r ih =>
    have hx : x ≠ c := fun e => h (by simp [e])
    simp only [cutS, if_neg hx, ih (fun hm => h (by simp [hm]))]
theorem splitB_at {a : T8} {c : UInt8} (b : T8) (h : c ∉ a) : splitB c (a ++ c :: b) = a :: splitB c b := by
  rw [splitB_cut, cutS_at b h]; simp
theorem splitB_no {a : T8} {c : UInt8} (h : c ∉ a) : splitB c a = [a] := by
  rw [splitB_cut, cutS_no h]; simp
/-! ### nodes -/
theorem formedN_parts {a b c : T8} (h : formedN a b c = true) : nameG a = true ∧ nameG b = true ∧ (c = [] ∨ nameG c = true) := by
  simp only [formedN, Bool.and_eq_true, Bool.or_eq_true, decide_eq_true_eq] at h
  exact h
theorem tail_no {c : T8} {k : UInt8} (hc : c = [] ∨ nameG c = true) (hk : okB k.toNat = false) (h35 : k ≠ 35) : k ∉ (if c = [] then [] else 35 :: c : T8) := by
  split
  · simp
  · rename_i h0
    rcases hc with rfl | hc
    · exact absurd rfl h0
    · intro hm
      rcases List.mem_cons.1 hm with e | e
      · exact h35 e
      · exact name_no hc k hk e
theorem showN_no {a b c : T8} (h : formedN a b c = true) {k : UInt8} (hk : okB k.toNat = false) (h35 : k ≠ 35) (h58 : k ≠ 58) : k ∉ showN a b c := by
  obtain ⟨h1, h2, h3⟩ := formedN_parts h
  unfold showN
  intro hm
  simp only [List.mem_append, List.mem_singleton] at hm
  rcases hm with ((hm | hm) | hm) | hm
  · exact name_no h1 k hk hm
  · exact h58 hm
  · exact name_no h2 k hk hm
  · exact tail_no h3 hk h35 hm
theorem readN_show {a b c : T8} (h : formedN a b c = true) : readN (showN a b c) = some (a, b, c) := by
  obtain ⟨h1, h2, h3⟩ := formedN_parts h
  have hp : cutS (showN a b c) 35 = (a ++ 58 :: b, c, !decide (c = [])) := by
    have hno : (35 : UInt8) ∉ a ++ 58 :: b := by
      intro hm
      rcases List.mem_append.1 hm with hm | hm
      · exact name_no h1 35 (by decide) hm
      · rcases List.mem_cons.1 hm with e | hm
        · exact absurd e (by decide)
        · exact name_no h2 35 (by decide) hm
    by_cases h0 : c = []
    · subst h0
      have : showN a b [] = a ++ 58 :: b := by simp [showN]
      rw [this, cutS_no hno]; simp
    · have : showN a b c = (a ++ 58 :: b) ++ 35 :: c := by simp [showN, h0]
      rw [this, cutS_at c hno]; simp [h0]
  have hq : cutS (a ++ 58 :: b) 58 = (a, b, true) := cutS_at b (name_no h1 58 (by decide))
  unfold readN
  simp only [hp, hq]
  rw [if_pos ⟨h, trivial⟩]
theorem readN_formed {s : T8} {n : Nd} (h : readN s = some n) : formedN n.1 n.2.1 n.2.2 = true ∧ showN n.1 n.2.1 n.2.2 = s := by
  unfold readN at h
  split at h
  · rename_i hc; cases h; exact hc
  · cases h
theorem parseN_text {a b c d e g : T8} (h1 : formedN a b c = true) (h2 : formedN d e g = true) (hc : c ≠ []) : parseN (textT a b c d e g) = some ((a, b, c), (d, e, g)) := by
  have : cutS (textT a b c d e g) 64 = (showN a b c, showN d e g, true) := by
    unfold textT
    rw [List.append_assoc]
    exact cutS_at _ (showN_no h1 (by decide) (by decide) (by decide))
  unfold parseN
  simp only [this, readN_show h1, readN_show h2]
  rw [if_neg hc]
theorem parseN_formed {s : T8} {t : Tp} (h : parseN s = some t) : formedN t.1.1 t.1.2.1 t.1.2.2 = true ∧ formedN t.2.1 t.2.2.1 t.2.2.2 = true ∧ t.1.2.2 ≠ [] := by
  unfold parseN at h
  split at h
  · rename_i n w hn hw
    split at h
    · cases h
    · rename_i h0
      cases h
      exact ⟨(readN_formed hn).1, (readN_formed hw).1, h0⟩
  · cases h
/-! ### keys -/
theorem splitB_key {a b c d e g : T8} (ha : (0 : UInt8) ∉ a) (hb : (0 : UInt8) ∉ b) (hc : (0 : UInt8) ∉ c) (hd : (0 : UInt8) ∉ d) (he : (0 : UInt8) ∉ e) (hg : (0 : UInt8) ∉ g) : splitB 0 (keyT a b c d e g) = [a, b, c, d, e, g] := by
  rw [keyT_eq, splitB_at _ ha, splitB_at _ hb, splitB_at _ hc, splitB_at _ hd, splitB_at _ he, splitB_no hg]
theorem formed6_of {a b c d e g : T8} : formed6 a b c d e g = (formedN a b c && (formedN d e g && !decide (c = []))) := by
  unfold formed6 formedN
  simp only [List.all_cons, List.all_nil, Bool.and_true]
  by_cases hc : c = []
  · subst hc
    simp [nameG_nil]
  · simp only [hc, decide_false, Bool.false_or, Bool.not_false, Bool.and_true]
    cases nameG a <;> cases nameG b <;> cases nameG c <;> cases nameG d <;> cases nameG e <;> simp
theorem part_no {g : T8} (h : g = [] ∨ nameG g = true) : (0 : UInt8) ∉ g := by
  rcases h with rfl | h
  · simp
  · exact name_no h 0 (by decide)
theorem fromN_key {a b c d e g : T8} (h1 : formedN a b c = true) (h2 : formedN d e g = true) (hc : c ≠ []) : fromN (keyT a b c d e g) = some [a, b, c, d, e, g] := by
  obtain ⟨k1, k2, k3⟩ := formedN_parts h1
  obtain ⟨k4, k5, k6⟩ := formedN_parts h2
  have hs := splitB_key (part_no (.inr k1)) (part_no (.inr k2)) (part_no k3) (part_no (.inr k4)) (part_no (.inr k5)) (part_no k6)
  unfold fromN
  rw [hs]
  have hf : formedL (pad6 [a, b, c, d, e, g]) = formed6 a b c d e g := rfl
  rw [if_pos ⟨by simp, by rw [hf, formed6_of, h1, h2]; simp [hc], rfl⟩]
  rfl
theorem join_split (s : T8) : Lib.join (splitB 0 s) [0] = s := by
  induction s with
  | nil => simp [splitB, Lib.join_one]
  | cons b r ih =>
    simp only [splitB]
    have hne := splitB_ne 0 r
    split
    · rename_i hb; subst hb
      cases hq : splitB 0 r with
      | nil => exact absurd hq hne
      | cons x t =>
        rw [hq] at ih
        rw [Lib.join_cons]
        rw [Lib.join_cons] at ih
        simp only [Lib.joinTail, List.map_cons, List.flatten_cons, List.nil_append] at ih ⊢
        rw [← ih]; simp
    · split
      · rename_i hq; exact absurd hq hne
      · rename_i x t hq
        rw [hq, Lib.join_cons] at ih
        rw [Lib.join_cons, List.cons_append, ih]
theorem rcut_split : ∀ {k : Nat} {s : T8} {p : List T8 × T8}, rcut k s = some p → splitB 0 s = p.1 ++ splitB 0 p.2
  | 0, s, p, h => by cases h; simp
  | k + 1, s, p, h => by
    unfold rcut at h
    split at h
    · rename_i hc
      obtain ⟨q, hq, rfl⟩ := Option.map_eq_some_iff.1 h
      rw [splitB_cut, if_pos hc, rcut_split hq]; rfl
    · cases h
theorem rcut_none : ∀ {k : Nat} {s : T8}, rcut k s = none → (splitB 0 s).length ≤ k
  | 0, s, h => by cases h
  | k + 1, s, h => by
    unfold rcut at h
    split at h
    · rename_i hc
      have hq : rcut k (cutS s 0).2.1 = none := by
        cases e : rcut k (cutS s 0).2.1 with
        | none => rfl
        | some p => rw [e] at h; cases h
      have := rcut_none hq
      rw [splitB_cut, if_pos hc]; simp; omega
    · rename_i hc
      rw [splitB_cut, if_neg hc]; simp
theorem join_len (l : List T8) (h : l ≠ []) : (Lib.join l [0]).length + 1 = l.flatten.length + l.length := by
  cases l with
  | nil => exact absurd rfl h
  | cons x r =>
    rw [Lib.join_cons]
    have : (Lib.joinTail [0] r).length = r.flatten.length + r.length := by
      clear h
      unfold Lib.joinTail
      induction r with
      | nil => rfl
      | cons y t ih => simp only [List.map_cons, List.flatten_cons, List.length_append, List.length_cons, ih, List.length_nil]; omega
    simp only [List.length_append, this, List.flatten_cons, List.length_cons]; omega
theorem from_same (s : T8) : fromV s = rfromV s := by
  have key : fromN s = rfromN s := by
    unfold fromN rfromN
    have hj := join_split s
    have hne := splitB_ne 0 s
    cases hr : rcut 5 s with
    | none =>
      have hl := rcut_none hr
      simp only
      rw [if_neg]
      rintro ⟨_, _, h3⟩
      generalize splitB 0 s = l at hj hne hl h3
      have e1 := join_len l hne
      have e2 := join_len (pad6 l) (by intro e; have := congrArg List.length e; rw [pad6_len] at this; simp at this)
      rw [h3, pad6_len] at e2
      rw [hj] at e1
      have e3 : (pad6 l).flatten.length = l.flatten.length := by
        unfold pad6
        rw [List.take_of_length_le (by omega), List.flatten_append]
        have : (List.replicate (6 - l.length) ([] : T8)).flatten = [] := by
          rw [List.flatten_eq_nil_iff]; intro x hx; exact (List.mem_replicate.1 hx).2
        rw [this]; simp
      omega
    | some p =>
      obtain ⟨h1, _, _⟩ := rcut_len hr
      have hs := rcut_split hr
      obtain ⟨l5, r⟩ := p
      simp only at h1 hs ⊢
      obtain ⟨a, b, c, d, e, rfl⟩ := list5 h1
      have hform : rform ([a, b, c, d, e], r) = formed6 a b c d e r := formed6_of.symm
      rw [hform]
      by_cases hl : (splitB 0 s).length ≤ 6
      · have hr1 : splitB 0 r = [r] := by
          have e := splitB_cut 0 r
          split at e
          · have h2 := splitB_ne 0 (cutS r 0).2.1
            rw [hs, e] at hl
            cases hq : splitB 0 (cutS r 0).2.1 with
            | nil => exact absurd hq h2
            | cons => rw [hq] at hl; simp at hl
          · exact e
        rw [hs, hr1] at hj ⊢
        have hp : pad6 ([a, b, c, d, e] ++ [r]) = [a, b, c, d, e, r] := rfl
        have hf : formedL [a, b, c, d, e, r] = formed6 a b c d e r := rfl
        rw [hp, hf]
        by_cases h6 : formed6 a b c d e r = true
        · rw [if_pos ⟨by simp, h6, hj⟩, if_pos h6]; rfl
        · rw [if_neg (fun h => h6 h.2.1), if_neg h6]
      · rw [if_neg (fun h => hl h.1)]
        rw [if_neg]
        intro h6
        rw [formed6_of] at h6
        simp only [Bool.and_eq_true] at h6
        obtain ⟨_, _, k6⟩ := formedN_parts h6.2.1
        have := splitB_no (part_no k6)
        rw [hs, this] at hl
        simp at hl
  unfold fromV rfromV
  rw [key]
  all_goals (cases rfromN s <;> rfl)
end Go.Proofs.YtgjcdpanabjcmaaGreatDoor.Ev.C
