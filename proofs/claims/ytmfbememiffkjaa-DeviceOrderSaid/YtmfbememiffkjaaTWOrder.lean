/- The law DeviceOrder, walked. -/
import Derived.Test.YtmfbememiffkjaaTDevC
import Derived.Test.YtmfbememiffkjaaEv30
namespace Go.Proofs.Ytmfbememiffkjaa.Ev.C
open Go Go.Proofs.Ytmfbememiffkjaa.Ev
set_option linter.unusedSimpArgs false
set_option linter.unusedVariables false
abbrev zsec : Sec := List.replicate 64 0
/-- the last that stays -/
def keptOpt : List Sec → List Bool → Option Sec
  | l :: ls, b :: bs => (keptOpt ls bs).or (if b then some (pad l) else none)
  | _, _ => none
theorem keptOpt_nil (ls : List Sec) : keptOpt ls [] = none := by cases ls <;> rfl
theorem keptOpt_succ : ∀ {ls : List Sec} {bs : List Bool} {i : Nat} (hi : i < ls.length), keptOpt (ls.take (i + 1)) bs = if bs[i]? = some true then some (pad ls[i]) else keptOpt (ls.take i) bs
  | [], _, i, h => by simp at h
  | l :: ls, [], i, h => by simp [keptOpt_nil]
  | l :: ls, b :: bs, 0, h => by
    simp only [List.take_succ_cons, List.take_zero, keptOpt, List.getElem?_cons_zero, List.getElem_cons_zero]
    cases b <;> rfl
  | l :: ls, b :: bs, i + 1, h => by
    have ih := keptOpt_succ (ls := ls) (bs := bs) (i := i) (by simpa using h)
    simp only [List.take_succ_cons, keptOpt, List.getElem?_cons_succ, List.getElem_cons_succ] at ih ⊢
    rw [ih]
    split <;> simp
theorem pad_ge (b : Sec) : 64 ≤ (pad b).length := by simp [pad]; omega
theorem pad_ne (b : Sec) : pad b ≠ [] := by
  intro h0
  have := pad_ge b
  rw [h0] at this
  simp at this
theorem keptOpt_len : ∀ {ls : List Sec} {bs : List Bool} {s : Sec}, keptOpt ls bs = some s → s ≠ []
  | [], _, s, h => by simp [keptOpt] at h
  | l :: ls, [], s, h => by simp [keptOpt] at h
  | l :: ls, b :: bs, s, h => by
    simp only [keptOpt] at h
    cases e : keptOpt ls bs with
    | some s' => rw [e] at h; simp at h; subst h; exact keptOpt_len e
    | none =>
      rw [e] at h
      cases b with
      | false => simp at h
      | true =>
        simp at h
        subst h
        exact pad_ne l
def DOrd (ls : List Sec) : Dk := ⟨[zsec, zsec], ls.map fun b => (1, pad b), 0, false⟩
theorem DOrd_new : Dk.new 2 = DOrd [] := rfl
theorem DOrd_write {ls : List Sec} {b : Sec} (hb : b.length ≤ 64) : (DOrd ls).write 1 b = (DOrd (ls ++ [b]), 0) := by
  have hc : (DOrd ls).counted = DOrd ls := Dk.counted_zero rfl
  rw [Dk.write_good (by simp [Dk.has, DOrd]) hb (by rw [hc]; rfl), hc]
  simp [DOrd]
theorem findS_ord (ls : List Sec) : findS (DOrd ls) 1 = (ls.getLast?.map pad).getD zsec := by
  unfold findS
  have : (DOrd ls).waits.reverse.find? (fun w => w.1 == 1) = ls.getLast?.map fun b => (1, pad b) := by
    have e : (DOrd ls).waits.reverse = (ls.reverse).map fun b => (1, pad b) := by simp [DOrd]
    rw [e]
    cases hr : ls.reverse with
    | nil =>
      have : ls = [] := by simpa using hr
      subst this; rfl
    | cons b r =>
      have hl : ls.getLast? = some b := by rw [List.getLast?_eq_head?_reverse, hr]; rfl
      rw [hl]
      simp
  rw [this]
  cases ls.getLast? <;> rfl
theorem keepAll_ord : ∀ {ls : List Sec} {bs : List Bool} {k : Sec}, keepAll [zsec, k] (ls.map fun b => (1, pad b)) bs = [zsec, (keptOpt ls bs).getD k]
  | [], bs, k => by cases bs <;> rfl
  | l :: ls, [], k => rfl
  | l :: ls, b :: bs, k => by
    cases b with
    | false =>
      simp only [List.map_cons, keepAll, keptOpt, Bool.false_eq_true, if_false]
      rw [keepAll_ord]
      simp
    | true =>
      simp only [List.map_cons, keepAll, keptOpt, if_true, putS, List.set_cons_succ, List.set_cons_zero]
      rw [keepAll_ord]
      cases keptOpt ls bs <;> rfl
theorem DOrd_restart (ls : List Sec) (bs : List Bool) : ((DOrd ls).restart bs) = ⟨[zsec, (keptOpt ls bs).getD zsec], [], 0, false⟩ := by
  unfold Dk.restart
  rw [show (DOrd ls).kept = [zsec, zsec] from rfl, show (DOrd ls).waits = ls.map fun b => (1, pad b) from rfl, keepAll_ord]
theorem DOrd_read1 (ls : List Sec) : (DOrd ls).read 1 = ((ls.getLast?.map pad).getD zsec, 0) := by
  unfold Dk.read
  rw [if_neg (by simp [Dk.has, DOrd]), if_neg (by simp [DOrd])]
  exact congrArg (·, 0) (findS_ord ls)
theorem DOrd_read0 (ls : List Sec) : (DOrd ls).read 0 = (zsec, 0) := by
  unfold Dk.read
  rw [if_neg (by simp [Dk.has, DOrd]), if_neg (by simp [DOrd])]
  refine congrArg (·, 0) ?_
  show findS _ 0 = _
  unfold findS
  have : (DOrd ls).waits.reverse.find? (fun w => w.1 == 0) = none := by
    rw [List.find?_eq_none]
    intro w hw
    simp [DOrd] at hw
    obtain ⟨b, _, rfl⟩ := hw
    simp
  rw [this]
  rfl
theorem rest_read1 (k : Sec) : (⟨[zsec, k], [], 0, false⟩ : Dk).read 1 = (k, 0) := by
  unfold Dk.read
  rw [if_neg (by simp [Dk.has]), if_neg (by simp)]
  rfl
def lastS (ls : List Sec) : Sec := (ls.getLast?.map pad).getD []
theorem lastS_succ {ls : List Sec} {i : Nat} (hi : i < ls.length) : lastS (ls.take (i + 1)) = pad ls[i] := by
  unfold lastS
  rw [← List.take_append_getElem hi, List.getLast?_append]
  simp
/-- the byte strings of the arguments -/
theorem BytesR.get {h : H} {u : AV} {bs : List UInt8} (r : BytesR h [u] bs) : Bytes h u bs ∧ Slot (Old h.n) h u := by
  obtain ⟨v, e, b, sl, _⟩ := r
  cases e
  exact ⟨b, sl⟩
structure OrdI (h0 : H) (x0 x1 : AV) (o : Nat) (ls : List Sec) (bs : List Bool) (j : Nat) (s : S) (h2 : H) : Prop where
  s10 : s 10 = .int .i64 (j : Int)
  s0 : s 0 = x0
  s1 : s 1 = x1
  s6 : s 6 = .ptr o 0
  s8 : s 8 = .str (lastS (ls.take j))
  s9 : s 9 = .str ((keptOpt (ls.take j) bs).getD [])
  d : ∃ gs, DiskAt h2 o gs (DOrd (ls.take j)) ∧ ∀ g ∈ gs, h0.n ≤ g
  k : Keep (Old h0.n) h0 h2
theorem order_tail {h0 h2 : H} (wf : h0.Wf) {x0 x1 : AV} {o : Nat} {ls : List Sec} {bs : List Bool} {s : S} (t1 : BoolsR h0 [x1] bs) (hl : ls.length ≤ 30) (hb : bs.length ≤ 60) (I : OrdI h0 x0 x1 o ls bs ls.length s h2) :
    WS E0 (.seq (.ops f6_r26) (.seq (.ops f6_r27) (.seq (.ops f6_r28) (.seq (.ops f6_r29) (.seq (.seq (.ops f6_r30) (.cond (.tmp 97) (.ops f6_r31) .skip)) (.seq (.seq (.ops f6_r32) (.cond (.tmp 100) (.ops f6_r33) .skip)) (.seq (.ops f6_r34) .ret))))))) [] (atEnd f6_a.results fun r _ => r = .val (.bool true)) s h2 := by
  obtain ⟨s10, s0, s1, s6, s8, s9, ⟨gs, d, hg⟩, k⟩ := I
  have wf2 := k.wf wf
  rw [List.take_length] at s8 s9 d
  have hwl : (DOrd ls).waits.length < 1000000 := by simp [DOrd]; omega
  refine WS_of_seq (WS_of_ops ?_)
  simp only [f6_r26, go_sem, ↓reduceIte, Nat.reduceEqDiff, s6]
  refine (read_spec wf2 d 1 hwl).mono ?_
  rintro r h3 ⟨v, rfl, bv, ov, k3⟩
  rw [DOrd_read1] at bv ⊢
  have wf3 := k3.wf wf2
  have d3 := d.keep wf2 k3
  simp only [go_sem, ↓reduceIte, Nat.reduceEqDiff, List.getElem?_cons_zero, List.getElem?_cons_succ]
  obtain ⟨x1', e1, bo, slo, hbo⟩ := t1
  cases e1
  have k03 : Keep (Old h0.n) h0 h3 := k.trans (k3.weaken fun q hq => Nat.lt_of_lt_of_le hq k.n)
  refine WS_of_seq (WS_of_ops ?_)
  simp only [f6_r27, go_sem, ↓reduceIte, Nat.reduceEqDiff, s6, s1]
  refine (restart_spec wf3 d3 (bs := bs) (bo.keep k03 slo) ((slo.keep k03 fun q hq => Nat.lt_of_lt_of_le hq k03.n)) hwl (by omega)).mono ?_
  rintro r h4 ⟨o', gs', rfl, d4, k4, n4⟩
  rw [DOrd_restart] at d4
  have wf4 := k4.wf wf3
  simp only [go_sem, ↓reduceIte, Nat.reduceEqDiff]
  refine (read_spec wf4 d4 1 (by simp)).mono ?_
  rintro r h5 ⟨v', rfl, bv', ov', k5⟩
  rw [rest_read1] at bv' ⊢
  have wf5 := k5.wf wf4
  simp only [go_sem, ↓reduceIte, Nat.reduceEqDiff, List.getElem?_cons_zero, List.getElem?_cons_succ]
  have d5 := (d3.keep wf3 k4).keep wf4 k5
  refine WS_of_seq (WS_of_ops ?_)
  simp only [f6_r28, go_sem, ↓reduceIte, Nat.reduceEqDiff, s6]
  refine (read_spec wf5 d5 0 hwl).mono ?_
  rintro r h6 ⟨v6, rfl, bv6, ov6, k6⟩
  rw [DOrd_read0] at bv6 ⊢
  have c4 := ov.slot wf3
  have c5 : Bytes h5 v _ := (bv.keep k4 c4).keep k5 (c4.keep k4 fun q hq => Nat.lt_of_lt_of_le hq k4.n)
  have c6 : Bytes h6 v _ := c5.keep k6 ((c4.keep k4 fun q hq => Nat.lt_of_lt_of_le hq k4.n).keep k5 fun q hq => Nat.lt_of_lt_of_le hq k5.n)
  have c6' : Bytes h6 v' _ := bv'.keep k6 (ov'.slot wf5)
  simp only [go_sem, ↓reduceIte, Nat.reduceEqDiff, List.getElem?_cons_zero, List.getElem?_cons_succ]
  refine WS_of_seq (WS_of_ops ?_)
  simp only [f6_r29, go_sem, ↓reduceIte, Nat.reduceEqDiff, bv6.str]
  refine WS_of_seq (WS_of_seq (WS_of_ops ?_))
  have z64 : List.length zsec = 64 := by simp
  have hz : zsec ≠ [] := by intro h; rw [h] at z64; cases z64
  -- the first text
  have fin2 : ∀ {s' : S}, s' 8 = .str ((ls.getLast?.map pad).getD zsec) → s' 9 = .str ((keptOpt ls bs).getD []) → s' 12 = v → s' 13 = .int .i64 0 → s' 14 = v' → s' 15 = .int .i64 0 → s' 17 = .int .i64 0 → s' 18 = .str zsec →
      WS E0 (.seq (.seq (.ops f6_r32) (.cond (.tmp 100) (.ops f6_r33) .skip)) (.seq (.ops f6_r34) .ret)) [] (atEnd f6_a.results fun r _ => r = .val (.bool true)) s' h6 := by
    intro s' q8 q9 q12 q13 q14 q15 q17 q18
    have fin3 : ∀ {s' : S}, s' 8 = .str ((ls.getLast?.map pad).getD zsec) → s' 9 = .str ((keptOpt ls bs).getD zsec) → s' 12 = v → s' 13 = .int .i64 0 → s' 14 = v' → s' 15 = .int .i64 0 → s' 17 = .int .i64 0 → s' 18 = .str zsec →
        WS E0 (.seq (.ops f6_r34) .ret) [] (atEnd f6_a.results fun r _ => r = .val (.bool true)) s' h6 := by
      intro s' q8 q9 q12 q13 q14 q15 q17 q18
      refine WS_of_seq (WS_of_ops ?_)
      simp only [f6_r34, go_sem, ↓reduceIte, Nat.reduceEqDiff, q8, q9, q12, q13, q14, q15, q17, q18, decide_true, c6.str, c6'.str, z64, (by decide : ((64 : Nat) : Int) = 64)]
      refine WS_of_ret ?_
      simp only [f6_a, go_sem, ↓reduceIte, Nat.reduceEqDiff]
    refine WS_of_seq (WS_of_seq (WS_of_ops ?_))
    cases hk : keptOpt ls bs with
    | none =>
      rw [hk] at q9 fin3
      simp only [f6_r32, go_sem, ↓reduceIte, Nat.reduceEqDiff, q9, Option.getD_none, decide_true]
      refine WS_of_cond ?_
      simp only [go_sem, ↓reduceIte]
      refine WS_of_ops ?_
      simp only [f6_r33, go_sem, ↓reduceIte, Nat.reduceEqDiff, q18]
      exact fin3 q8 rfl q12 q13 q14 q15 q17 q18
    | some t =>
      rw [hk] at q9 fin3
      have ht := keptOpt_len hk
      simp only [f6_r32, go_sem, ↓reduceIte, Nat.reduceEqDiff, q9, Option.getD_some, ht, decide_false]
      refine WS_of_cond ?_
      simp only [go_sem, ↓reduceIte, Bool.false_eq_true]
      refine WS_of_skip ?_
      simp only [go_sem]
      exact fin3 q8 q9 q12 q13 q14 q15 q17 q18
  unfold lastS at s8
  cases hk : ls.getLast? with
  | none =>
    rw [hk] at s8 fin2
    simp only [f6_r30, go_sem, ↓reduceIte, Nat.reduceEqDiff, s8, Option.map_none, Option.getD_none, decide_true]
    refine WS_of_cond ?_
    simp only [go_sem, ↓reduceIte]
    refine WS_of_ops ?_
    simp only [f6_r31, go_sem, ↓reduceIte, Nat.reduceEqDiff]
    exact fin2 rfl s9 rfl rfl rfl rfl rfl rfl
  | some t =>
    rw [hk] at s8 fin2
    simp only [f6_r30, go_sem, ↓reduceIte, Nat.reduceEqDiff, s8, Option.map_some, Option.getD_some, pad_ne t, decide_false]
    refine WS_of_cond ?_
    simp only [go_sem, ↓reduceIte, Bool.false_eq_true]
    refine WS_of_skip ?_
    simp only [go_sem]
    exact fin2 s8 s9 rfl rfl rfl rfl rfl rfl

theorem order_answer {h0 : H} (wf : h0.Wf) {x0 x1 : AV} {ls : List Sec} {bs : List Bool} (t0 : SliceR 1 BytesR h0 [x0] ls) (t1 : BoolsR h0 [x1] bs) : WCall E0 6 [x0, x1] h0 fun r _ => r = .val (.bool true) := by
  refine WCall_ws (ovn 6) U6 (by simp [f6_a]) ?_
  show WS E0 f6_c [] _ _ _
  refine WS_of_seq (WS_of_ops ?_)
  simp only [f6_r0, go_sem, ↓reduceIte]
  refine WS_of_seq (WS_of_ops ?_)
  simp only [f6_r1, go_sem, ↓reduceIte, Nat.reduceEqDiff]
  refine WCall_ov (g := yes) rfl rfl ?_
  simp only [go_sem, ↓reduceIte, Nat.reduceEqDiff]
  refine WS_of_seq (WS_of_seq (WS_of_ops ?_))
  simp only [f6_r2, go_sem, ↓reduceIte, Nat.reduceEqDiff]
  refine WS_of_cond ?_
  simp only [go_sem, ↓reduceIte, Nat.reduceEqDiff, Bool.not_true, Bool.false_eq_true]
  refine WS_of_skip ?_
  simp only [go_sem]
  refine WS_of_seq (WS_of_seq (WS_of_ops ?_))
  have l0 := t0.len
  have l1 : lenSA x1 = some bs.length := by
    obtain ⟨v, e, b, _⟩ := t1
    cases e
    exact b.len
  have early : ∀ {s : S} {h : H}, WS E0 (.seq (.ops f6_r5) .ret) [] (atEnd f6_a.results fun r _ => r = .val (.bool true)) s h := by
    intro s h
    refine WS_of_seq (WS_of_ops ?_)
    simp only [f6_r5, go_sem, ↓reduceIte, Nat.reduceEqDiff]
    refine WS_of_ret ?_
    simp only [f6_a, go_sem, ↓reduceIte, Nat.reduceEqDiff]
  by_cases c1 : 30 < ls.length
  · have c1' : (30 : Int) < (ls.length : Int) := by omega
    simp only [f6_r4, go_sem, ↓reduceIte, Nat.reduceEqDiff, l0.1, c1', decide_true, Bool.true_eq_false]
    refine WS_of_cond ?_
    simp only [go_sem, ↓reduceIte]
    refine WS_of_seq (WS_of_ops ?_)
    simp only [f6_r5, go_sem, ↓reduceIte, Nat.reduceEqDiff]
    refine WS_of_ret ?_
    simp only [f6_a, go_sem, ↓reduceIte, Nat.reduceEqDiff]
  by_cases c2 : 60 < bs.length
  · have c1' : ¬ (30 : Int) < (ls.length : Int) := by omega
    have c2' : (60 : Int) < (bs.length : Int) := by omega
    simp only [f6_r4, go_sem, ↓reduceIte, Nat.reduceEqDiff, l0.1, l1, c1', c2', decide_true, decide_false, Bool.false_eq_true]
    refine WS_of_cond ?_
    simp only [go_sem, ↓reduceIte]
    refine WS_of_seq (WS_of_ops ?_)
    simp only [f6_r5, go_sem, ↓reduceIte, Nat.reduceEqDiff]
    refine WS_of_ret ?_
    simp only [f6_a, go_sem, ↓reduceIte, Nat.reduceEqDiff]
  have c1' : ¬ (30 : Int) < (ls.length : Int) := by omega
  have c2' : ¬ (60 : Int) < (bs.length : Int) := by omega
  simp only [f6_r4, go_sem, ↓reduceIte, Nat.reduceEqDiff, l0.1, l1, c1', c2', decide_false, Bool.false_eq_true]
  refine WS_of_cond ?_
  simp only [go_sem, ↓reduceIte, Bool.false_eq_true]
  refine WS_of_skip ?_
  simp only [go_sem]
  refine WS_of_seq (WS_of_ops ?_)
  simp only [f6_r6, go_sem, ↓reduceIte, Nat.reduceEqDiff]
  refine (new_spec wf (n := 2) (by omega) (by omega)).mono ?_
  rintro r h1 ⟨o, gs, rfl, d1, k1, hg1⟩
  rw [DOrd_new] at d1
  simp only [go_sem, ↓reduceIte, Nat.reduceEqDiff, List.getElem?_cons_zero, List.getElem?_cons_succ]
  refine WS_of_seq (WS_of_seq (WS_of_ops ?_))
  simp only [f6_r7, go_sem, ↓reduceIte, Nat.reduceEqDiff, decide_true, Bool.not_true]
  refine WS_of_cond ?_
  simp only [go_sem, ↓reduceIte, Nat.reduceEqDiff, Bool.false_eq_true]
  refine WS_of_skip ?_
  simp only [go_sem]
  refine WS_of_seq (WS_of_ops ?_)
  simp only [f6_r9, go_sem, ↓reduceIte, Nat.reduceEqDiff]
  refine WS_of_seq (WS_of_ops ?_)
  simp only [f6_r10, go_sem, ↓reduceIte, Nat.reduceEqDiff]
  refine WS_of_seq (WS_of_seq (WS_of_ops ?_))
  simp only [f6_r11, go_sem, ↓reduceIte, Nat.reduceEqDiff]
  refine WS_of_block (WS_of_loop (fun m s h2 => ∃ j, j + m = ls.length ∧ OrdI h0 x0 x1 o ls bs j s h2) ?_ ls.length ?_)
  · rintro m s h2 ⟨j, hjm, I⟩
    show WS E0 f6_l25 [] _ _ _
    have I0 := I
    obtain ⟨s10, s0, s1, s6, s8, s9, ⟨gs, d, hg⟩, k⟩ := I
    have wf2 := k.wf wf
    refine WS_of_seq (WS_of_seq (WS_of_ops ?_))
    by_cases c : j < ls.length
    · have c' : (j : Int) < (ls.length : Int) := by omega
      simp only [f6_r12, go_sem, ↓reduceIte, Nat.reduceEqDiff, s10, s0, l0.1, c', decide_true]
      refine WS_of_cond ?_
      simp only [go_sem, ↓reduceIte]
      refine WS_of_skip ?_
      simp only [go_sem]
      obtain ⟨oo, q, us, ea, hul, hr, hld⟩ := t0.get (by decide) c .i64
      match us, hul with
      | [u], _ =>
      have hldA : ∀ h', Keep (Old h0.n) h0 h' → loadA h' false 1 (.ptr oo q) = some u := fun h' kk => by
        have := hld h' kk 0 u rfl
        rwa [Nat.add_zero] at this
      have hld2 := hldA _ k
      obtain ⟨bu0, su0⟩ := BytesR.get hr
      have bu := bu0.keep k su0
      have su : Slot (Old h0.n) h2 u := su0.keep k fun q hq => hq
      have blen := bu.len
      refine WS_of_seq (WS_of_block (WS_of_seq (WS_of_seq (WS_of_ops ?_))))
      by_cases cl : 64 < ls[j].length
      · have cl' : (64 : Int) < (ls[j].length : Int) := by omega
        simp only [f6_r13, go_sem, ↓reduceIte, Nat.reduceEqDiff, s10, s0, ea, hld2, blen, cl', decide_true]
        refine WS_of_cond ?_
        simp only [go_sem, ↓reduceIte]
        refine WS_of_seq (WS_of_ops ?_)
        simp only [f6_r14, go_sem, ↓reduceIte, Nat.reduceEqDiff]
        refine WS_of_ret ?_
        simp only [f6_a, go_sem, ↓reduceIte, Nat.reduceEqDiff]
      · have cl' : ¬ (64 : Int) < (ls[j].length : Int) := by omega
        simp only [f6_r13, go_sem, ↓reduceIte, Nat.reduceEqDiff, s10, s0, ea, hld2, blen, cl', decide_false]
        refine WS_of_cond ?_
        simp only [go_sem, ↓reduceIte, Bool.false_eq_true]
        refine WS_of_skip ?_
        simp only [go_sem]
        refine WS_of_seq (WS_of_seq (WS_of_ops ?_))
        simp only [f6_r15, go_sem, ↓reduceIte, Nat.reduceEqDiff, s10, s0, s6, ea, hld2]
        refine (write_spec wf2 d 1 (v := u) (bs := ls[j]) bu (su.apart wf2 k.n hg) (by simp [DOrd]; omega)).mono ?_
        rintro r h3 ⟨gs3, rfl, d3, k3, n3⟩
        have hwr := DOrd_write (ls := ls.take j) (b := ls[j]) (by omega)
        rw [List.take_append_getElem c] at hwr
        rw [hwr] at d3 ⊢
        have wf3 := k3.wf wf2
        have k03 : Keep (Old h0.n) h0 h3 := k.trans (k3.old wf2 k.n hg)
        have hg3 : ∀ g ∈ gs3, h0.n ≤ g := fun g hgm => by
          rcases n3 g hgm with x | x
          · exact hg g x
          · exact Nat.le_trans k.n x
        have bu3 := bu0.keep k03 su0
        have hld3 := hldA _ k03
        simp only [go_sem, ↓reduceIte, Nat.reduceEqDiff, decide_true, Bool.not_true, (by decide : ((0 : Nat) : Int) = 0)]
        refine WS_of_cond ?_
        simp only [go_sem, ↓reduceIte, Bool.false_eq_true]
        refine WS_of_skip ?_
        simp only [go_sem]
        refine WS_of_seq (WS_of_ops ?_)
        simp only [f6_r17, go_sem, ↓reduceIte, Nat.reduceEqDiff, s10, s0, ea, hld3, bu3.str]
        refine WS_of_seq (WS_of_block (WS_of_loop (fun m s' h' => ∃ i, i + m = 64 ∧ ls[j].length ≤ i ∧ s' 11 = .str (ls[j] ++ List.replicate (i - ls[j].length) 0) ∧ s' 10 = .int .i64 (j : Int) ∧ s' 0 = x0 ∧ s' 1 = x1 ∧ s' 6 = .ptr o 0 ∧ s' 8 = .str (lastS (ls.take j)) ∧ s' 9 = .str ((keptOpt (ls.take j) bs).getD []) ∧ h' = h3) ?_ (64 - ls[j].length) ?_))
        · rintro m2 s' h' ⟨i, him, hli, q11, q10, q0, q1, q6, q8, q9, rfl⟩
          show WS E0 f6_l20 [] _ _ _
          refine WS_of_seq (WS_of_seq (WS_of_ops ?_))
          have hlen : (ls[j] ++ List.replicate (i - ls[j].length) 0).length = i := by simp; omega
          by_cases ci : i < 64
          · have ci' : (i : Int) < 64 := by omega
            simp only [f6_r18, go_sem, ↓reduceIte, Nat.reduceEqDiff, q11, hlen, ci', decide_true]
            refine WS_of_cond ?_
            simp only [go_sem, ↓reduceIte]
            refine WS_of_skip ?_
            simp only [go_sem]
            refine WS_of_block (WS_of_ops ?_)
            have hbig : i + 1 ≤ big := by unfold big; omega
            have happ : ls[j] ++ List.replicate (i - ls[j].length) 0 ++ [0] = ls[j] ++ List.replicate (i + 1 - ls[j].length) 0 := by
              rw [List.append_assoc, show i + 1 - ls[j].length = i - ls[j].length + 1 by omega, List.replicate_succ']
            simp only [f6_r19, go_sem, ↓reduceIte, Nat.reduceEqDiff, q11, hlen, List.length_singleton, List.length_cons, List.length_nil, Nat.zero_add, hbig, happ]
            exact ⟨m2 - 1, by omega, i + 1, by omega, by omega, rfl, q10, q0, q1, q6, q8, q9, trivial⟩
          · have ci' : ¬ (i : Int) < 64 := by omega
            have ei : i = 64 := by omega
            subst ei
            have hp : ls[j] ++ List.replicate (64 - ls[j].length) 0 = pad ls[j] := rfl
            rw [hp] at q11
            simp only [f6_r18, go_sem, ↓reduceIte, Nat.reduceEqDiff, q11, pad_len (show ls[j].length ≤ 64 by omega), (by decide : ¬ ((64 : Nat) : Int) < 64), decide_false]
            refine WS_of_cond ?_
            simp only [go_sem, ↓reduceIte, Bool.false_eq_true]
            refine WS_of_exit ?_
            simp only [go_sem, ↓reduceIte, Nat.reduceEqDiff]
            refine WS_of_seq (WS_of_ops ?_)
            simp only [f6_r21, go_sem, ↓reduceIte, Nat.reduceEqDiff, q11]
            have hw : IntKind.i64.wrap ((j : Int) + 1) = ((j + 1 : Nat) : Int) := by rw [wrap_i64 (by omega) (by omega)]; omega
            have hls := lastS_succ c
            have hks := keptOpt_succ (bs := bs) c
            -- the end of the round
            have done : ∀ {s2 : S} {Q : AEx → S → H → Prop}, (∀ s h, (∃ m', m' < m ∧ ∃ j, j + m' = ls.length ∧ OrdI h0 x0 x1 o ls bs j s h) → Q .normal s h) → s2 10 = .int .i64 (j : Int) → s2 0 = x0 → s2 1 = x1 → s2 6 = .ptr o 0 → s2 8 = .str (pad ls[j]) → s2 9 = .str ((keptOpt (ls.take (j + 1)) bs).getD []) → WS E0 (.ops f6_r24) [] Q s2 h' := by
              intro s2 Q hQ p10 p0 p1 p6 p8 p9
              refine WS_of_ops ?_
              simp only [f6_r24, go_sem, ↓reduceIte, Nat.reduceEqDiff, p10, hw]
              refine hQ _ _ ⟨m - 1, by omega, j + 1, by omega, rfl, p0, p1, p6, ?_, p9, ⟨gs3, d3, hg3⟩, k03⟩
              rw [hls]
              exact p8
            by_cases cb : j < bs.length
            · have cb' : (j : Int) < (bs.length : Int) := by omega
              obtain ⟨pb, eb, lb⟩ := Bools.at (show Bools h' x1 bs from by
                obtain ⟨v, e, b, sl, _⟩ := t1
                cases e
                exact b.keep k03 sl) cb .i64
              rw [List.getElem?_eq_getElem cb] at hks
              refine WS_of_seq (WS_of_ops ?_)
              simp only [f6_r22, go_sem, ↓reduceIte, Nat.reduceEqDiff, q10, q1, l1, cb', decide_true, eb, lb]
              refine WS_of_cond ?_
              cases hb : bs[j] with
              | true =>
                rw [hb] at hks
                simp only [go_sem, ↓reduceIte]
                refine WS_of_ops ?_
                simp only [f6_r23, go_sem, ↓reduceIte, Nat.reduceEqDiff, q11]
                exact done (fun _ _ x => x) q10 q0 q1 q6 rfl (by rw [hks]; rfl)
              | false =>
                rw [hb] at hks
                simp only [go_sem, ↓reduceIte, Bool.false_eq_true]
                refine WS_of_skip ?_
                simp only [go_sem]
                exact done (fun _ _ x => x) q10 q0 q1 q6 rfl (by rw [hks]; exact q9)
            · have cb' : ¬ (j : Int) < (bs.length : Int) := by omega
              rw [List.getElem?_eq_none (by omega)] at hks
              refine WS_of_seq (WS_of_ops ?_)
              simp only [f6_r22, go_sem, ↓reduceIte, Nat.reduceEqDiff, q10, q1, l1, cb', decide_false, Bool.false_eq_true]
              refine WS_of_cond ?_
              simp only [go_sem, ↓reduceIte, Bool.false_eq_true]
              refine WS_of_skip ?_
              simp only [go_sem]
              exact done (fun _ _ x => x) q10 q0 q1 q6 rfl (by rw [hks]; exact q9)
        · exact ⟨ls[j].length, by omega, Nat.le_refl _, (show AV.str ls[j] = .str (ls[j] ++ List.replicate (ls[j].length - ls[j].length) 0) by simp), s10, s0, s1, s6, s8, s9, rfl⟩
    · have c' : ¬ (j : Int) < (ls.length : Int) := by omega
      obtain rfl : j = ls.length := by omega
      simp only [f6_r12, go_sem, ↓reduceIte, Nat.reduceEqDiff, s10, s0, l0.1, c', decide_false]
      refine WS_of_cond ?_
      simp only [go_sem, ↓reduceIte, Bool.false_eq_true]
      refine WS_of_exit ?_
      simp only [go_sem, ↓reduceIte]
      exact order_tail wf t1 (by omega) (by omega) ⟨s10, s0, s1, s6, s8, s9, ⟨gs, d, hg⟩, k⟩
  · exact ⟨0, by omega, rfl, rfl, rfl, rfl, rfl, rfl, ⟨gs, d1, hg1⟩, k1⟩
end Go.Proofs.Ytmfbememiffkjaa.Ev.C
