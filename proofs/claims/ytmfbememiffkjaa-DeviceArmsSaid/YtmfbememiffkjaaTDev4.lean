/- Write, walked. -/
import Derived.Test.YtmfbememiffkjaaTDev3
namespace Go.Proofs.Ytmfbememiffkjaa.Ev.C
open Go Go.Proofs.Ytmfbememiffkjaa.Ev
set_option linter.unusedSimpArgs false
set_option linter.unusedVariables false
theorem DiskIs.at {h : H} {o gk : Nat} {k wv : AV} {gs : List Nat} {D : Dk} (d : DiskIs h o gk k wv gs D) : DiskAt h o gs D := ⟨gk, k, wv, d⟩
theorem pad_cells {bs : List UInt8} (hl : bs.length ≤ 64) : splice (List.replicate 64 zb) 0 (byteCells bs) = byteCells (pad bs) := by
  simp only [splice, List.take_zero, List.nil_append, Nat.zero_add, List.drop_replicate, byteCells_length, pad, byteCells_append]
  congr 1
  simp [byteCells]
/-- bytes copied into an array that is a field -/
theorem copy_pad {h : H} (wf : h.Wf) {ob : Nat} {i : Int} {v : AV} {bs : List UInt8} (b : Box ob (.int .i64 i :: List.replicate 64 zb) h) (s : Bytes h v bs) (hl : bs.length ≤ 64) :
    ∃ h' c, copyA h 1 (.slice ob 1 64 1) v = some (c, h') ∧ Box ob (.int .i64 i :: byteCells (pad bs)) h' ∧ KeepA [ob] h h' := by
  have hmin : Nat.min bs.length 64 = bs.length := Nat.min_eq_left hl
  by_cases h0 : bs.length = 0
  · have : bs = [] := List.eq_nil_of_length_eq_zero h0
    subst this
    refine ⟨h, .int .i64 0, ?_, ?_, KeepA.refl _ _⟩
    · simp only [copyA, s.lenA, if_true]
      rw [if_pos (by simp)]
    · have : byteCells (pad []) = List.replicate 64 zb := by rfl
      rw [this]; exact b
  · obtain ⟨h', e, b', k⟩ := b.put (i := 1) (n := bs.length) (v := .agg (byteCells bs)) wf (by show (byteCells bs).length = _; simp [byteCells]) (byteCells_one bs) (by simp; omega)
    refine ⟨h', .int .i64 (bs.length : Int), ?_, ?_, k⟩
    · simp only [copyA, s.lenA, if_true]
      rw [hmin, if_neg h0, s.cells]
      simp only [byteCells_one, if_true]
      simp only [storeA] at e
      split at e
      · rw [show (AV.agg (byteCells bs)).cells = byteCells bs from rfl] at e
        rw [e]; rfl
      · cases e
    · have hp := pad_cells hl
      have : splice (.int .i64 i :: List.replicate 64 zb) 1 (AV.agg (byteCells bs)).cells = .int .i64 i :: byteCells (pad bs) := by
        rw [← hp]
        show splice (.int .i64 i :: List.replicate 64 zb) 1 (byteCells bs) = _
        simp only [splice, List.take_succ_cons, List.take_zero, Nat.add_comm 1, List.drop_succ_cons, List.cons_append, List.nil_append, Nat.zero_add]
      rw [this] at b'
      exact b'
theorem write_spec {h : H} {o : Nat} {gs : List Nat} {D : Dk} (wf : h.Wf) (d : DiskAt h o gs D) (i : Int) {v : AV} {bs : List UInt8} (b : Bytes h v bs) (sl : Slot (Apart gs h) h v) (hw : D.waits.length < 1000000) :
    WCall E0 17 [.ptr o 0, .int .i64 i, v] h fun r h' => ∃ gs', r = .val (.int .i64 ((D.write i bs).2 : Int)) ∧ DiskAt h' o gs' (D.write i bs).1 ∧ KeepA gs h h' ∧ Next gs gs' h := by
  obtain ⟨gk, k, wv, d⟩ := d
  refine WCall_ws (ovn 17) U17 (by simp [f17_a]) ?_
  show WS E0 f17_c [] _ _ _
  refine WS_of_seq (WS_of_ops ?_)
  simp only [f17_r0, go_sem, ↓reduceIte]
  refine WS_of_seq (WS_of_block (WS_of_seq (WS_of_ops ?_)))
  simp only [f17_r1, go_sem, ↓reduceIte, Nat.reduceEqDiff]
  refine (is_spec d.at i).mono ?_
  rintro r h' ⟨rfl, rfl⟩
  have bad : ∀ (s : S), (s 6 = .int .i64 1) → D.has i = false ∨ 64 < bs.length → WV (resultsA [.tmp 6] s h') fun v => ∃ gs', AOut.val v = .val (.int .i64 ((D.write i bs).2 : Int)) ∧ DiskAt h' o gs' (D.write i bs).1 ∧ KeepA gs h' h' ∧ Next gs gs' h' := by
    intro s e hc
    simp only [go_sem, e]
    have : D.write i bs = (D, 1) := by unfold Dk.write; rw [if_pos hc]
    rw [this]
    exact ⟨gs, rfl, d.at, KeepA.refl _ _, Next.refl _ _⟩
  cases hh : D.has i with
  | false =>
    simp only [go_sem, ↓reduceIte, Nat.reduceEqDiff, hh, Bool.not_false, Bool.true_eq_false]
    refine WS_of_cond ?_
    simp only [go_sem, ↓reduceIte]
    refine WS_of_seq (WS_of_ops ?_)
    simp only [f17_r2, go_sem, ↓reduceIte, Nat.reduceEqDiff]
    refine WS_of_ret ?_
    simp only [f17_a, fin_ret, atEnd_ret]
    exact bad _ (by simp only [go_sem, ↓reduceIte]) (.inl hh)
  | true =>
    by_cases hl : 64 < bs.length
    · have hl' : (64 : Int) < (bs.length : Int) := by omega
      simp only [go_sem, ↓reduceIte, Nat.reduceEqDiff, hh, Bool.not_true, b.len, hl', decide_true, Bool.false_eq_true]
      refine WS_of_cond ?_
      simp only [go_sem, ↓reduceIte]
      refine WS_of_seq (WS_of_ops ?_)
      simp only [f17_r2, go_sem, ↓reduceIte, Nat.reduceEqDiff]
      refine WS_of_ret ?_
      simp only [f17_a, fin_ret, atEnd_ret]
      exact bad _ (by simp only [go_sem, ↓reduceIte]) (.inr hl)
    · have hl' : ¬ (64 : Int) < (bs.length : Int) := by omega
      have hlen : bs.length ≤ 64 := by omega
      simp only [go_sem, ↓reduceIte, Nat.reduceEqDiff, hh, Bool.not_true, b.len, hl', decide_false, Bool.false_eq_true]
      refine WS_of_cond ?_
      simp only [go_sem, ↓reduceIte, Bool.false_eq_true]
      refine WS_of_seq (WS_of_ops ?_)
      simp only [f17_r3, go_sem, ↓reduceIte, Nat.reduceEqDiff]
      refine (dies_spec wf d).mono ?_
      rintro r h1 ⟨rfl, d1, k1⟩
      have wf1 := k1.wf wf
      have b1 := b.keep k1 sl
      have sl1 := sl.keepA k1
      have hno : ¬ (D.has i = false ∨ 64 < bs.length) := by rw [hh]; simp; omega
      simp only [go_sem, ↓reduceIte, Nat.reduceEqDiff]
      refine WS_of_cond ?_
      cases hd : D.counted.dead with
      | true =>
        simp only [go_sem, ↓reduceIte, Nat.reduceEqDiff]
        refine WS_of_seq (WS_of_ops ?_)
        simp only [f17_r4, go_sem, ↓reduceIte, Nat.reduceEqDiff]
        refine WS_of_ret ?_
        simp only [f17_a, go_sem, ↓reduceIte]
        have : D.write i bs = (D.counted, 20) := by unfold Dk.write; rw [if_neg hno, if_pos hd]
        rw [this]
        exact ⟨gs, rfl, d1.at, k1, Next.refl _ _⟩
      | false =>
        simp only [go_sem, ↓reduceIte, Nat.reduceEqDiff, Bool.false_eq_true]
        refine WS_of_skip ?_
        simp only [go_sem]
        refine WS_of_seq (WS_of_ops ?_)
        have ef : ∀ (x : Int), afill (.int .i64 0 :: ([.int .u8 0, .int .u8 0, .int .u8 0, .int .u8 0, .int .u8 0, .int .u8 0, .int .u8 0, .int .u8 0, .int .u8 0, .int .u8 0, .int .u8 0, .int .u8 0, .int .u8 0, .int .u8 0, .int .u8 0, .int .u8 0, .int .u8 0, .int .u8 0, .int .u8 0, .int .u8 0, .int .u8 0, .int .u8 0, .int .u8 0, .int .u8 0, .int .u8 0, .int .u8 0, .int .u8 0, .int .u8 0, .int .u8 0, .int .u8 0, .int .u8 0, .int .u8 0, .int .u8 0, .int .u8 0, .int .u8 0, .int .u8 0, .int .u8 0, .int .u8 0, .int .u8 0, .int .u8 0, .int .u8 0, .int .u8 0, .int .u8 0, .int .u8 0, .int .u8 0, .int .u8 0, .int .u8 0, .int .u8 0, .int .u8 0, .int .u8 0, .int .u8 0, .int .u8 0, .int .u8 0, .int .u8 0, .int .u8 0, .int .u8 0, .int .u8 0, .int .u8 0, .int .u8 0, .int .u8 0, .int .u8 0, .int .u8 0, .int .u8 0, .int .u8 0] : List AV)) [(0, 1, .int .i64 x)] = some (.int .i64 x :: List.replicate 64 zb) := fun _ => rfl
        have kn : Keep (Old h1.n) h1 (h1.new (.int .i64 0 :: ([.int .u8 0, .int .u8 0, .int .u8 0, .int .u8 0, .int .u8 0, .int .u8 0, .int .u8 0, .int .u8 0, .int .u8 0, .int .u8 0, .int .u8 0, .int .u8 0, .int .u8 0, .int .u8 0, .int .u8 0, .int .u8 0, .int .u8 0, .int .u8 0, .int .u8 0, .int .u8 0, .int .u8 0, .int .u8 0, .int .u8 0, .int .u8 0, .int .u8 0, .int .u8 0, .int .u8 0, .int .u8 0, .int .u8 0, .int .u8 0, .int .u8 0, .int .u8 0, .int .u8 0, .int .u8 0, .int .u8 0, .int .u8 0, .int .u8 0, .int .u8 0, .int .u8 0, .int .u8 0, .int .u8 0, .int .u8 0, .int .u8 0, .int .u8 0, .int .u8 0, .int .u8 0, .int .u8 0, .int .u8 0, .int .u8 0, .int .u8 0, .int .u8 0, .int .u8 0, .int .u8 0, .int .u8 0, .int .u8 0, .int .u8 0, .int .u8 0, .int .u8 0, .int .u8 0, .int .u8 0, .int .u8 0, .int .u8 0, .int .u8 0, .int .u8 0] : List AV))) := Keep.new (Nat.le_refl _) _
        have bn : Box h1.n (.int .i64 0 :: ([.int .u8 0, .int .u8 0, .int .u8 0, .int .u8 0, .int .u8 0, .int .u8 0, .int .u8 0, .int .u8 0, .int .u8 0, .int .u8 0, .int .u8 0, .int .u8 0, .int .u8 0, .int .u8 0, .int .u8 0, .int .u8 0, .int .u8 0, .int .u8 0, .int .u8 0, .int .u8 0, .int .u8 0, .int .u8 0, .int .u8 0, .int .u8 0, .int .u8 0, .int .u8 0, .int .u8 0, .int .u8 0, .int .u8 0, .int .u8 0, .int .u8 0, .int .u8 0, .int .u8 0, .int .u8 0, .int .u8 0, .int .u8 0, .int .u8 0, .int .u8 0, .int .u8 0, .int .u8 0, .int .u8 0, .int .u8 0, .int .u8 0, .int .u8 0, .int .u8 0, .int .u8 0, .int .u8 0, .int .u8 0, .int .u8 0, .int .u8 0, .int .u8 0, .int .u8 0, .int .u8 0, .int .u8 0, .int .u8 0, .int .u8 0, .int .u8 0, .int .u8 0, .int .u8 0, .int .u8 0, .int .u8 0, .int .u8 0, .int .u8 0, .int .u8 0] : List AV)) (h1.new (.int .i64 0 :: ([.int .u8 0, .int .u8 0, .int .u8 0, .int .u8 0, .int .u8 0, .int .u8 0, .int .u8 0, .int .u8 0, .int .u8 0, .int .u8 0, .int .u8 0, .int .u8 0, .int .u8 0, .int .u8 0, .int .u8 0, .int .u8 0, .int .u8 0, .int .u8 0, .int .u8 0, .int .u8 0, .int .u8 0, .int .u8 0, .int .u8 0, .int .u8 0, .int .u8 0, .int .u8 0, .int .u8 0, .int .u8 0, .int .u8 0, .int .u8 0, .int .u8 0, .int .u8 0, .int .u8 0, .int .u8 0, .int .u8 0, .int .u8 0, .int .u8 0, .int .u8 0, .int .u8 0, .int .u8 0, .int .u8 0, .int .u8 0, .int .u8 0, .int .u8 0, .int .u8 0, .int .u8 0, .int .u8 0, .int .u8 0, .int .u8 0, .int .u8 0, .int .u8 0, .int .u8 0, .int .u8 0, .int .u8 0, .int .u8 0, .int .u8 0, .int .u8 0, .int .u8 0, .int .u8 0, .int .u8 0, .int .u8 0, .int .u8 0, .int .u8 0, .int .u8 0] : List AV))) := Box.new wf1 _
        obtain ⟨h3, e3, b3, k3⟩ := bn.putAll (n := 65) (vs := .int .i64 i :: List.replicate 64 zb) (kn.wf wf1) (by simp) (by rfl) (by simp)
        simp only [f17_r5, go_sem, ↓reduceIte, Nat.reduceEqDiff, ef, e3]
        refine WS_of_seq (WS_of_ops ?_)
        have wfn := kn.wf wf1
        generalize h1.new (.int .i64 0 :: ([.int .u8 0, .int .u8 0, .int .u8 0, .int .u8 0, .int .u8 0, .int .u8 0, .int .u8 0, .int .u8 0, .int .u8 0, .int .u8 0, .int .u8 0, .int .u8 0, .int .u8 0, .int .u8 0, .int .u8 0, .int .u8 0, .int .u8 0, .int .u8 0, .int .u8 0, .int .u8 0, .int .u8 0, .int .u8 0, .int .u8 0, .int .u8 0, .int .u8 0, .int .u8 0, .int .u8 0, .int .u8 0, .int .u8 0, .int .u8 0, .int .u8 0, .int .u8 0, .int .u8 0, .int .u8 0, .int .u8 0, .int .u8 0, .int .u8 0, .int .u8 0, .int .u8 0, .int .u8 0, .int .u8 0, .int .u8 0, .int .u8 0, .int .u8 0, .int .u8 0, .int .u8 0, .int .u8 0, .int .u8 0, .int .u8 0, .int .u8 0, .int .u8 0, .int .u8 0, .int .u8 0, .int .u8 0, .int .u8 0, .int .u8 0, .int .u8 0, .int .u8 0, .int .u8 0, .int .u8 0, .int .u8 0, .int .u8 0, .int .u8 0, .int .u8 0] : List AV)) = h2 at kn bn e3 k3 wfn
        have k13 : Keep (Old h1.n) h1 h3 := kn.trans (k3.newbox wfn kn.n (Nat.le_refl _))
        have b3' := b1.keep k13 sl1.old
        have d3 := d1.keep wf1 k13
        have wf3 := k13.wf wf1
        obtain ⟨h4, c4, e4, b4, k4⟩ := copy_pad wf3 b3 b3' hlen
        have ea : sliceAA h3 1 64 none none (.ptr h1.n (0 + 1)) = some (.slice h1.n 1 64 1) := by
          simp only [sliceAA, b3.get]
          rw [if_pos (by simp)]
          simp [bounds]
        simp only [f17_r6, go_sem, ↓reduceIte, Nat.reduceEqDiff, ea, e4]
        have k14 : Keep (Old h1.n) h1 h4 := k13.trans (k4.newbox wf3 k13.n (Nat.le_refl _))
        have d4 := d1.keep wf1 k14
        have wf4 := k14.wf wf1
        have hpl : (pad bs).length = 64 := pad_len hlen
        obtain ⟨n, rfl, hn⟩ := has_iff.1 hh
        let w : Nat × Sec := (n, pad bs)
        have hwc : (.int .i64 (n : Int) :: byteCells (pad bs)) = wcell w := rfl
        rw [hwc] at b4
        have lw : loadA h4 true 65 (.ptr h1.n 0) = some (.agg (wcell w)) := b4.loadAgg (wcell_len hpl)
        have kb : Keep (Old h4.n) h4 (h4.new (wcell w)) := Keep.new (Nat.le_refl _) _
        have sb : Sl (h4.new (wcell w)) 65 (.slice h4.n 0 1 65) 1 (wcell w) := by
          have := Sl.new (es := 65) (n := 1) wf4 (vs := wcell w) (by rw [wcell_len hpl]; omega)
          rwa [List.take_of_length_le (by rw [wcell_len hpl]; omega)] at this
        have efb : afill (zeros (.int .i64 0 :: ([.int .u8 0, .int .u8 0, .int .u8 0, .int .u8 0, .int .u8 0, .int .u8 0, .int .u8 0, .int .u8 0, .int .u8 0, .int .u8 0, .int .u8 0, .int .u8 0, .int .u8 0, .int .u8 0, .int .u8 0, .int .u8 0, .int .u8 0, .int .u8 0, .int .u8 0, .int .u8 0, .int .u8 0, .int .u8 0, .int .u8 0, .int .u8 0, .int .u8 0, .int .u8 0, .int .u8 0, .int .u8 0, .int .u8 0, .int .u8 0, .int .u8 0, .int .u8 0, .int .u8 0, .int .u8 0, .int .u8 0, .int .u8 0, .int .u8 0, .int .u8 0, .int .u8 0, .int .u8 0, .int .u8 0, .int .u8 0, .int .u8 0, .int .u8 0, .int .u8 0, .int .u8 0, .int .u8 0, .int .u8 0, .int .u8 0, .int .u8 0, .int .u8 0, .int .u8 0, .int .u8 0, .int .u8 0, .int .u8 0, .int .u8 0, .int .u8 0, .int .u8 0, .int .u8 0, .int .u8 0, .int .u8 0, .int .u8 0, .int .u8 0, .int .u8 0] : List AV)) (1 * 65)) [(0, 65, .agg (wcell w))] = some (wcell w) := by
          have hz : (zeros (.int .i64 0 :: ([.int .u8 0, .int .u8 0, .int .u8 0, .int .u8 0, .int .u8 0, .int .u8 0, .int .u8 0, .int .u8 0, .int .u8 0, .int .u8 0, .int .u8 0, .int .u8 0, .int .u8 0, .int .u8 0, .int .u8 0, .int .u8 0, .int .u8 0, .int .u8 0, .int .u8 0, .int .u8 0, .int .u8 0, .int .u8 0, .int .u8 0, .int .u8 0, .int .u8 0, .int .u8 0, .int .u8 0, .int .u8 0, .int .u8 0, .int .u8 0, .int .u8 0, .int .u8 0, .int .u8 0, .int .u8 0, .int .u8 0, .int .u8 0, .int .u8 0, .int .u8 0, .int .u8 0, .int .u8 0, .int .u8 0, .int .u8 0, .int .u8 0, .int .u8 0, .int .u8 0, .int .u8 0, .int .u8 0, .int .u8 0, .int .u8 0, .int .u8 0, .int .u8 0, .int .u8 0, .int .u8 0, .int .u8 0, .int .u8 0, .int .u8 0, .int .u8 0, .int .u8 0, .int .u8 0, .int .u8 0, .int .u8 0, .int .u8 0, .int .u8 0, .int .u8 0] : List AV)) (1 * 65)).length = 65 := rfl
          generalize zeros (.int .i64 0 :: ([.int .u8 0, .int .u8 0, .int .u8 0, .int .u8 0, .int .u8 0, .int .u8 0, .int .u8 0, .int .u8 0, .int .u8 0, .int .u8 0, .int .u8 0, .int .u8 0, .int .u8 0, .int .u8 0, .int .u8 0, .int .u8 0, .int .u8 0, .int .u8 0, .int .u8 0, .int .u8 0, .int .u8 0, .int .u8 0, .int .u8 0, .int .u8 0, .int .u8 0, .int .u8 0, .int .u8 0, .int .u8 0, .int .u8 0, .int .u8 0, .int .u8 0, .int .u8 0, .int .u8 0, .int .u8 0, .int .u8 0, .int .u8 0, .int .u8 0, .int .u8 0, .int .u8 0, .int .u8 0, .int .u8 0, .int .u8 0, .int .u8 0, .int .u8 0, .int .u8 0, .int .u8 0, .int .u8 0, .int .u8 0, .int .u8 0, .int .u8 0, .int .u8 0, .int .u8 0, .int .u8 0, .int .u8 0, .int .u8 0, .int .u8 0, .int .u8 0, .int .u8 0, .int .u8 0, .int .u8 0, .int .u8 0, .int .u8 0, .int .u8 0, .int .u8 0] : List AV)) (1 * 65) = z at hz ⊢
          have hcl : (AV.agg (wcell w)).cells = wcell w := rfl
          simp only [afill, hcl]
          rw [if_pos ⟨wcell_len hpl, by omega⟩, splice_all (by rw [wcell_len hpl, hz])]
        have lwv : loadA h4 false 1 (.ptr o (0 + 1)) = some wv := by rw [d4.box.load]; rfl
        generalize hh5 : h4.new (wcell w) = h5 at kb sb
        have d5 := d4.keep wf4 kb
        have wf5 := kb.wf wf4
        have lw5 : loadA h5 true 65 (.ptr h1.n 0) = some (.agg (wcell w)) := (b4.keep kb (b4.lt wf4)).loadAgg (wcell_len hpl)
        have lwv5 : loadA h5 false 1 (.ptr o (0 + 1)) = some wv := by rw [d5.box.load]; rfl
        have hw5 : D.counted.waits.length + 1 < 4294967296 := by rw [Dk.counted_waits]; omega
        obtain ⟨wv', h6, gs', e6, o6, c6, s6, w6, b6, sk6, gk6, k6, n6, m6⟩ := d5.append wf5 (w := w) sb hw5
        have wf6 := k6.wf wf5
        obtain ⟨h7, e7, b7, k7⟩ := b6.put wf6 (i := 1) (n := 1) (v := wv') (by rw [c6]; rfl) (by rw [c6]; simp [o6]) (by simp)
        refine WS_of_seq (WS_of_draw ?_)
        simp only [f17_r7, go_sem, ↓reduceIte, Nat.reduceEqDiff, and_self, true_and, List.filter_cons, List.filter_nil, Nat.testBit, Nat.reduceShiftRight, Nat.reduceAnd, Nat.reduceBNe, Bool.not_false, Bool.not_true, Bool.false_eq_true, bne_self_eq_false, lwv, lw, efb, hh5, lw5, lwv5, eq_self, e6, e7]
        refine WS_of_seq (WS_of_ops ?_)
        simp only [f17_r8, go_sem, ↓reduceIte, Nat.reduceEqDiff]
        refine WS_of_ret ?_
        simp only [f17_a, go_sem, ↓reduceIte]
        have hwr : D.write (n : Int) bs = ({ D.counted with waits := D.counted.waits ++ [w] }, 0) := by
          unfold Dk.write; rw [if_neg hno, if_neg (by rw [hd]; simp), Int.toNat_natCast]
        have hok := d.ok.write (n : Int) bs
        rw [hwr] at hok ⊢
        rw [c6] at b7
        have hroot : ∀ x ∈ [o], Root x h6 := by simpa using b6.root
        have sk7 := gk6.away (gs := [o]) wf6 (by simp [d.ne]) hroot
        refine ⟨gs', rfl, ⟨gk, k, wv', b7, sk6.keep k7 sk7, gk6.keep sk7 k7, ?_, d.ne, ?_, hok⟩, ?_, ?_⟩
        · refine s6.keep k7 ?_
          rcases w6 with ⟨rfl, _⟩ | ⟨gw, a1, a2, a3, _⟩
          · trivial
          · exact a3.away wf6 (by simp [a1]) hroot
        · rcases w6 with ⟨rfl, e⟩ | ⟨gw, a1, a2, a3, e⟩
          · exact .inl ⟨rfl, e⟩
          · exact .inr ⟨gw, a1, a2, a3.keep (a3.away (gs := [o]) wf6 (by simp [a1]) hroot) k7, e⟩
        · have x1 := k1.then wf (KeepA.of (gs := gs) k14) (fun g hg => .inl hg)
          have x2 := x1.then wf (KeepA.of (gs := gs) kb) (fun g hg => .inl hg)
          have x3 := x2.then wf k6 (fun g hg => .inl hg)
          exact x3.then wf k7 (fun g hg => by simp only [List.mem_cons, List.not_mem_nil, or_false] at hg; subst hg; exact .inl m6)
        · intro g hg
          have := k1.n
          have := k14.n
          have := kb.n
          rcases n6 g hg with x | x
          · exact .inl x
          · exact .inr (by omega)
end Go.Proofs.Ytmfbememiffkjaa.Ev.C
