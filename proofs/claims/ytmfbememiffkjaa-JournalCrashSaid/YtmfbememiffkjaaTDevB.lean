/- Write, walked. -/
import Derived.Test.YtmfbememiffkjaaTDevA
namespace Go.Proofs.Ytmfbememiffkjaa.Ev.C
open Go Go.Proofs.Ytmfbememiffkjaa.Ev
set_option linter.unusedSimpArgs false
set_option linter.unusedVariables false
theorem DiskIs.at {h : H} {o gk : Nat} {k wv : AV} {gs : List Nat} {D : Dk} (d : DiskIs h o gk k wv gs D) : DiskAt h o gs D := ⟨gk, k, wv, d⟩
theorem pad_cells {bs : List UInt8} (hl : bs.length ≤ 64) : splice (List.replicate 64 zb) 0 (byteCells bs) = byteCells (pad bs) := by
  simp only [splice, List.take_zero, List.nil_append, Nat.zero_add, List.drop_replicate, byteCells_length, pad, byteCells_append]
  congr 1
  simp [byteCells]
/-- bytes copied into an array that is a field -/
theorem copy_pad {h : H} (wf : h.Wf) {ob : Nat} {i : Int} {v : AV} {bs : List UInt8} (b : Box ob (.int .i64 i :: List.replicate 64 zb) h) (s : Bytes h v bs) (hl : bs.length ≤ 64) :
    ∃ h' c, copyA h 1 (.slice ob 1 64 1) v = some (c, h') ∧ Box ob (.int .i64 i :: byteCells (pad bs)) h' ∧ KeepA [ob] h h' := by
  have hmin : Nat.min bs.length 64 = bs.length := Nat.min_eq_left hl
  by_cases h0 : bs.length = 0
  · have : bs = [] := List.eq_nil_of_length_eq_zero h0
    subst this
    refine ⟨h, .int .i64 0, ?_, ?_, KeepA.refl _ _⟩
    · simp only [copyA, s.lenA, if_true]
      rw [if_pos (by simp)]
    · have : byteCells (pad []) = List.replicate 64 zb := by rfl
      rw [this]; exact b
  · obtain ⟨h', e, b', k⟩ := b.put (i := 1) (n := bs.length) (v := .agg (byteCells bs)) wf (by show (byteCells bs).length = _; simp [byteCells]) (byteCells_one bs) (by simp; omega)
    refine ⟨h', .int .i64 (bs.length : Int), ?_, ?_, k⟩
    · simp only [copyA, s.lenA, if_true]
      rw [hmin, if_neg h0, s.cells]
      simp only [byteCells_one, if_true]
      simp only [storeA] at e
      split at e
      · rw [show (AV.agg (byteCells bs)).cells = byteCells bs from rfl] at e
        rw [e]; rfl
      · cases e
    · have hp := pad_cells hl
      have : splice (.int .i64 i :: List.replicate 64 zb) 1 (AV.agg (byteCells bs)).cells = .int .i64 i :: byteCells (pad bs) := by
        rw [← hp]
        show splice (.int .i64 i :: List.replicate 64 zb) 1 (byteCells bs) = _
        simp only [splice, List.take_succ_cons, List.take_zero, Nat.add_comm 1, List.drop_succ_cons, List.cons_append, List.nil_append, Nat.zero_add]
      rw [this] at b'
      exact b'
theorem write_spec {h : H} {o : Nat} {gs : List Nat} {D : Dk} (wf : h.Wf) (d : DiskAt h o gs D) (i : Int) {v : AV} {bs : List UInt8} (b : Bytes h v bs) (sl : Slot (Apart gs h) h v) (hw : D.waits.length < 1000000) :
    WCall E0 17 [.ptr o 0, .int .i64 i, v] h fun r h' => ∃ gs', r = .val (.int .i64 ((D.write i bs).2 : Int)) ∧ DiskAt h' o gs' (D.write i bs).1 ∧ KeepA gs h h' ∧ Next gs gs' h := by
  obtain ⟨gk, k, wv, d⟩ := d
  refine WCall_ws (ovn 17) U17 (by simp [f17_a]) ?_
  show WS E0 f17_c [] _ _ _
  refine WS_of_seq (WS_of_ops ?_)
  simp only [f17_r0, go_sem, ↓reduceIte]
  refine WS_of_seq (WS_of_block (WS_of_seq (WS_of_ops ?_)))
  simp only [f17_r1, go_sem, ↓reduceIte, Nat.reduceEqDiff]
  refine (is_spec d.at i).mono ?_
  rintro r h' ⟨rfl, rfl⟩
  have bad : ∀ (s : S), (s 6 = .int .i64 1) → D.has i = false ∨ 64 < bs.length → WV (resultsA [.tmp 6] s h') fun v => ∃ gs', AOut.val v = .val (.int .i64 ((D.write i bs).2 : Int)) ∧ DiskAt h' o gs' (D.write i bs).1 ∧ KeepA gs h' h' ∧ Next gs gs' h' := by
    intro s e hc
    simp only [go_sem, e]
    have : D.write i bs = (D, 1) := by unfold Dk.write; rw [if_pos hc]
    rw [this]
    exact ⟨gs, rfl, d.at, KeepA.refl _ _, Next.refl _ _⟩
  cases hh : D.has i with
  | false =>
    simp only [go_sem, ↓reduceIte, Nat.reduceEqDiff, hh, Bool.not_false, Bool.true_eq_false]
    refine WS_of_cond ?_
    simp only [go_sem, ↓reduceIte]
    refine WS_of_seq (WS_of_ops ?_)
    simp only [f17_r2, go_sem, ↓reduceIte, Nat.reduceEqDiff]
    refine WS_of_ret ?_
    simp only [f17_a, fin_ret, atEnd_ret]
    exact bad _ (by simp only [go_sem, ↓reduceIte]) (.inl hh)
  | true =>
    by_cases hl : 64 < bs.length
    · have hl' : (64 : Int) < (bs.length : Int) := by omega
      simp only [go_sem, ↓reduceIte, Nat.reduceEqDiff, hh, Bool.not_true, b.len, hl', decide_true, Bool.false_eq_true]
      refine WS_of_cond ?_
      simp only [go_sem, ↓reduceIte]
      refine WS_of_seq (WS_of_ops ?_)
      simp only [f17_r2, go_sem, ↓reduceIte, Nat.reduceEqDiff]
      refine WS_of_ret ?_
      simp only [f17_a, fin_ret, atEnd_ret]
      exact bad _ (by simp only [go_sem, ↓reduceIte]) (.inr hl)
    · have hl' : ¬ (64 : Int) < (bs.length : Int) := by omega
      have hlen : bs.length ≤ 64 := by omega
      simp only [go_sem, ↓reduceIte, Nat.reduceEqDiff, hh, Bool.not_true, b.len, hl', decide_false, Bool.false_eq_true]
      refine WS_of_cond ?_
      simp only [go_sem, ↓reduceIte, Bool.false_eq_true]
      refine WS_of_seq (WS_of_ops ?_)
      simp only [f17_r3, go_sem, ↓reduceIte, Nat.reduceEqDiff]
      refine (dies_spec wf d).mono ?_
      rintro r h1 ⟨rfl, d1, k1⟩
      have wf1 := k1.wf wf
      have b1 := b.keep k1 sl
      have sl1 := sl.keepA k1
      have hno : ¬ (D.has i = false ∨ 64 < bs.length) := by rw [hh]; simp; omega
      simp only [go_sem, ↓reduceIte, Nat.reduceEqDiff]
      refine WS_of_cond ?_
      cases hd : D.counted.dead with
      | true =>
        simp only [go_sem, ↓reduceIte, Nat.reduceEqDiff]
        refine WS_of_seq (WS_of_ops ?_)
        simp only [f17_r4, go_sem, ↓reduceIte, Nat.reduceEqDiff]
        refine WS_of_ret ?_
        simp only [f17_a, go_sem, ↓reduceIte]
        have : D.write i bs = (D.counted, 20) := by unfold Dk.write; rw [if_neg hno, if_pos hd]
        rw [this]
        exact ⟨gs, rfl, d1.at, k1, Next.refl _ _⟩
      | false =>
        simp only [go_sem, ↓reduceIte, Nat.reduceEqDiff, Bool.false_eq_true]
        refine WS_of_skip ?_
        simp only [go_sem]
        refine WS_of_seq (WS_of_ops ?_)
        have ef : ∀ (x : Int), afill (.int .i64 0 :: ([.int .u8 0, .int .u8 0, .int .u8 0, .int .u8 0, .int .u8 0, .int .u8 0, .int .u8 0, .int .u8 0, .int .u8 0, .int .u8 0, .int .u8 0, .int .u8 0, .int .u8 0, .int .u8 0, .int .u8 0, .int .u8 0, .int .u8 0, .int .u8 0, .int .u8 0, .int .u8 0, .int .u8 0, .int .u8 0, .int .u8 0, .int .u8 0, .int .u8 0, .int .u8 0, .int .u8 0, .int .u8 0, .int .u8 0, .int .u8 0, .int .u8 0, .int .u8 0, .int .u8 0, .int .u8 0, .int .u8 0, .int .u8 0, .int .u8 0, .int .u8 0, .int .u8 0, .int .u8 0, .int .u8 0, .int .u8 0, .int .u8 0, .int .u8 0, .int .u8 0, .int .u8 0, .int .u8 0, .int .u8 0, .int .u8 0, .int .u8 0, .int .u8 0, .int .u8 0, .int .u8 0, .int .u8 0, .int .u8 0, .int .u8 0, .int .u8 0, .int .u8 0, .int .u8 0, .int .u8 0, .int .u8 0, .int .u8 0, .int .u8 0, .int .u8 0] : List AV)) [(0, 1, .int .i64 x)] = some (.int .i64 x :: List.replicate 64 zb) := fun _ => rfl
        have kn : Keep (Old h1.n) h1 (h1.new (.int .i64 0 :: ([.int .u8 0, .int .u8 0, .int .u8 0, .int .u8 0, .int .u8 0, .int .u8 0, .int .u8 0, .int .u8 0, .int .u8 0, .int .u8 0, .int .u8 0, .int .u8 0, .int .u8 0, .int .u8 0, .int .u8 0, .int .u8 0, .int .u8 0, .int .u8 0, .int .u8 0, .int .u8 0, .int .u8 0, .int .u8 0, .int .u8 0, .int .u8 0, .int .u8 0, .int .u8 0, .int .u8 0, .int .u8 0, .int .u8 0, .int .u8 0, .int .u8 0, .int .u8 0, .int .u8 0, .int .u8 0, .int .u8 0, .int .u8 0, .int .u8 0, .int .u8 0, .int .u8 0, .int .u8 0, .int .u8 0, .int .u8 0, .int .u8 0, .int .u8 0, .int .u8 0, .int .u8 0, .int .u8 0, .int .u8 0, .int .u8 0, .int .u8 0, .int .u8 0, .int .u8 0, .int .u8 0, .int .u8 0, .int .u8 0, .int .u8 0, .int .u8 0, .int .u8 0, .int .u8 0, .int .u8 0, .int .u8 0, .int .u8 0, .int .u8 0, .int .u8 0] : List AV))) := Keep.new (Nat.le_refl _) _
        have bn : Box h1.n (.int .i64 0 :: ([.int .u8 0, .int .u8 0, .int .u8 0, .int .u8 0, .int .u8 0, .int .u8 0, .int .u8 0, .int .u8 0, .int .u8 0, .int .u8 0, .int .u8 0, .int .u8 0, .int .u8 0, .int .u8 0, .int .u8 0, .int .u8 0, .int .u8 0, .int .u8 0, .int .u8 0, .int .u8 0, .int .u8 0, .int .u8 0, .int .u8 0, .int .u8 0, .int .u8 0, .int .u8 0, .int .u8 0, .int .u8 0, .int .u8 0, .int .u8 0, .int .u8 0, .int .u8 0, .int .u8 0, .int .u8 0, .int .u8 0, .int .u8 0, .int .u8 0, .int .u8 0, .int .u8 0, .int .u8 0, .int .u8 0, .int .u8 0, .int .u8 0, .int .u8 0, .int .u8 0, .int .u8 0, .int .u8 0, .int .u8 0, .int .u8 0, .int .u8 0, .int .u8 0, .int .u8 0, .int .u8 0, .int .u8 0, .int .u8 0, .int .u8 0, .int .u8 0, .int .u8 0, .int .u8 0, .int .u8 0, .int .u8 0, .int .u8 0, .int .u8 0, .int .u8 0] : List AV)) (h1.new (.int .i64 0 :: ([.int .u8 0, .int .u8 0, .int .u8 0, .int .u8 0, .int .u8 0, .int .u8 0, .int .u8 0, .int .u8 0, .int .u8 0, .int .u8 0, .int .u8 0, .int .u8 0, .int .u8 0, .int .u8 0, .int .u8 0, .int .u8 0, .int .u8 0, .int .u8 0, .int .u8 0, .int .u8 0, .int .u8 0, .int .u8 0, .int .u8 0, .int .u8 0, .int .u8 0, .int .u8 0, .int .u8 0, .int .u8 0, .int .u8 0, .int .u8 0, .int .u8 0, .int .u8 0, .int .u8 0, .int .u8 0, .int .u8 0, .int .u8 0, .int .u8 0, .int .u8 0, .int .u8 0, .int .u8 0, .int .u8 0, .int .u8 0, .int .u8 0, .int .u8 0, .int .u8 0, .int .u8 0, .int .u8 0, .int .u8 0, .int .u8 0, .int .u8 0, .int .u8 0, .int .u8 0, .int .u8 0, .int .u8 0, .int .u8 0, .int .u8 0, .int .u8 0, .int .u8 0, .int .u8 0, .int .u8 0, .int .u8 0, .int .u8 0, .int .u8 0, .int .u8 0] : List AV))) := Box.new wf1 _
        obtain ⟨h3, e3, b3, k3⟩ := bn.putAll (n := 65) (vs := .int .i64 i :: List.replicate 64 zb) (kn.wf wf1) (by simp) (by rfl) (by simp)
        simp only [f17_r5, go_sem, ↓reduceIte, Nat.reduceEqDiff, ef, e3]
        refine WS_of_seq (WS_of_ops ?_)
        have wfn := kn.wf wf1
        generalize h1.new (.int .i64 0 :: ([.int .u8 0, .int .u8 0, .int .u8 0, .int .u8 0, .int .u8 0, .int .u8 0, .int .u8 0, .int .u8 0, .int .u8 0, .int .u8 0, .int .u8 0, .int .u8 0, .int .u8 0, .int .u8 0, .int .u8 0, .int .u8 0, .int .u8 0, .int .u8 0, .int .u8 0, .int .u8 0, .int .u8 0, .int .u8 0, .int .u8 0, .int .u8 0, .int .u8 0, .int .u8 0, .int .u8 0, .int .u8 0, .int .u8 0, .int .u8 0, .int .u8 0, .int .u8 0, .int .u8 0, .int .u8 0, .int .u8 0, .int .u8 0, .int .u8 0, .int .u8 0, .int .u8 0, .int .u8 0, .int .u8 0, .int .u8 0, .int .u8 0, .int .u8 0, .int .u8 0, .int .u8 0, .int .u8 0, .int .u8 0, .int .u8 0, .int .u8 0, .int .u8 0, .int .u8 0, .int .u8 0, .int .u8 0, .int .u8 0, .int .u8 0, .int .u8 0, .int .u8 0, .int .u8 0, .int .u8 0, .int .u8 0, .int .u8 0, .int .u8 0, .int .u8 0] : List AV)) = h2 at kn bn e3 k3 wfn
        have k13 : Keep (Old h1.n) h1 h3 := kn.trans (k3.newbox wfn kn.n (Nat.le_refl _))
        have b3' := b1.keep k13 sl1.old
        have d3 := d1.keep wf1 k13
        have wf3 := k13.wf wf1
        obtain ⟨h4, c4, e4, b4, k4⟩ := copy_pad wf3 b3 b3' hlen
        have ea : sliceAA h3 1 64 none none (.ptr h1.n (0 + 1)) = some (.slice h1.n 1 64 1) := by
          simp only [sliceAA, b3.get]
          rw [if_pos (by simp)]
          simp [bounds]
        simp only [f17_r6, go_sem, ↓reduceIte, Nat.reduceEqDiff, ea, e4]
        have k14 : Keep (Old h1.n) h1 h4 := k13.trans (k4.newbox wf3 k13.n (Nat.le_refl _))
        have d4 := d1.keep wf1 k14
        have wf4 := k14.wf wf1
        have hpl : (pad bs).length = 64 := pad_len hlen
        obtain ⟨n, rfl, hn⟩ := has_iff.1 hh
        let w : Nat × Sec := (n, pad bs)
        have hwc : (.int .i64 (n : Int) :: byteCells (pad bs)) = wcell w := rfl
        rw [hwc] at b4
        have lw : loadA h4 true 65 (.ptr h1.n 0) = some (.agg (wcell w)) := b4.loadAgg (wcell_len hpl)
        have kb : Keep (Old h4.n) h4 (h4.new (wcell w)) := Keep.new (Nat.le_refl _) _
        have sb : Sl (h4.new (wcell w)) 65 (.slice h4.n 0 1 65) 1 (wcell w) := by
          have := Sl.new (es := 65) (n := 1) wf4 (vs := wcell w) (by rw [wcell_len hpl]; omega)
          rwa [List.take_of_length_le (by rw [wcell_len hpl]; omega)] at this
        have efb : afill (zeros (.int .i64 0 :: ([.int .u8 0, .int .u8 0, .int .u8 0, .int .u8 0, .int .u8 0, .int .u8 0, .int .u8 0, .int .u8 0, .int .u8 0, .int .u8 0, .int .u8 0, .int .u8 0, .int .u8 0, .int .u8 0, .int .u8 0, .int .u8 0, .int .u8 0, .int .u8 0, .int .u8 0, .int .u8 0, .int .u8 0, .int .u8 0, .int .u8 0, .int .u8 0, .int .u8 0, .int .u8 0, .int .u8 0, .int .u8 0, .int .u8 0, .int .u8 0, .int .u8 0, .int .u8 0, .int .u8 0, .int .u8 0, .int .u8 0, .int .u8 0, .int .u8 0, .int .u8 0, .int .u8 0, .int .u8 0, .int .u8 0, .int .u8 0, .int .u8 0, .int .u8 0, .int .u8 0, .int .u8 0, .int .u8 0, .int .u8 0, .int .u8 0, .int .u8 0, .int .u8 0, .int .u8 0, .int .u8 0, .int .u8 0, .int .u8 0, .int .u8 0, .int .u8 0, .int .u8 0, .int .u8 0, .int .u8 0, .int .u8 0, .int .u8 0, .int .u8 0, .int .u8 0] : List AV)) (1 * 65)) [(0, 65, .agg (wcell w))] = some (wcell w) := by
          have hz : (zeros (.int .i64 0 :: ([.int .u8 0, .int .u8 0, .int .u8 0, .int .u8 0, .int .u8 0, .int .u8 0, .int .u8 0, .int .u8 0, .int .u8 0, .int .u8 0, .int .u8 0, .int .u8 0, .int .u8 0, .int .u8 0, .int .u8 0, .int .u8 0, .int .u8 0, .int .u8 0, .int .u8 0, .int .u8 0, .int .u8 0, .int .u8 0, .int .u8 0, .int .u8 0, .int .u8 0, .int .u8 0, .int .u8 0, .int .u8 0, .int .u8 0, .int .u8 0, .int .u8 0, .int .u8 0, .int .u8 0, .int .u8 0, .int .u8 0, .int .u8 0, .int .u8 0, .int .u8 0, .int .u8 0, .int .u8 0, .int .u8 0, .int .u8 0, .int .u8 0, .int .u8 0, .int .u8 0, .int .u8 0, .int .u8 0, .int .u8 0, .int .u8 0, .int .u8 0, .int .u8 0, .int .u8 0, .int .u8 0, .int .u8 0, .int .u8 0, .int .u8 0, .int .u8 0, .int .u8 0, .int .u8 0, .int .u8 0, .int .u8 0, .int .u8 0, .int .u8 0, .int .u8 0] : List AV)) (1 * 65)).length = 65 := rfl
          generalize zeros (.int .i64 0 :: ([.int .u8 0, .int .u8 0, .int .u8 0, .int .u8 0, .int .u8 0, .int .u8 0, .int .u8 0, .int .u8 0, .int .u8 0, .int .u8 0, .int .u8 0, .int .u8 0, .int .u8 0, .int .u8 0, .int .u8 0, .int .u8 0, .int .u8 0, .int .u8 0, .int .u8 0, .int .u8 0, .int .u8 0, .int .u8 0, .int .u8 0, .int .u8 0, .int .u8 0, .int .u8 0, .int .u8 0, .int .u8 0, .int .u8 0, .int .u8 0, .int .u8 0, .int .u8 0, .int .u8 0, .int .u8 0, .int .u8 0, .int .u8 0, .int .u8 0, .int .u8 0, .int .u8 0, .int .u8 0, .int .u8 0, .int .u8 0, .int .u8 0, .int .u8 0, .int .u8 0, .int .u8 0, .int .u8 0, .int .u8 0, .int .u8 0, .int .u8 0, .int .u8 0, .int .u8 0, .int .u8 0, .int .u8 0, .int .u8 0, .int .u8 0, .int .u8 0, .int .u8 0, .int .u8 0, .int .u8 0, .int .u8 0, .int .u8 0, .int .u8 0, .int .u8 0] : List AV)) (1 * 65) = z at hz ⊢
          have hcl : (AV.agg (wcell w)).cells = wcell w := rfl
          simp only [afill, hcl]
          rw [if_pos ⟨wcell_len hpl, by omega⟩, splice_all (by rw [wcell_len hpl, hz])]
        have lwv : loadA h4 false 1 (.ptr o (0 + 1)) = some wv := by rw [d4.box.load]; rfl
        generalize hh5 : h4.new (wcell w) = h5 at kb sb
        have d5 := d4.keep wf4 kb
        have wf5 := kb.wf wf4
        have lw5 : loadA h5 true 65 (.ptr h1.n 0) = some (.agg (wcell w)) := (b4.keep kb (b4.lt wf4)).loadAgg (wcell_len hpl)
        have lwv5 : loadA h5 false 1 (.ptr o (0 + 1)) = some wv := by rw [d5.box.load]; rfl
        have hw5 : D.counted.waits.length + 1 < 4294967296 := by rw [Dk.counted_waits]; omega
        obtain ⟨wv', h6, gs', e6, o6, c6, s6, w6, b6, sk6, gk6, k6, n6, m6⟩ := d5.append wf5 (w := w) sb hw5
        have wf6 := k6.wf wf5
        obtain ⟨h7, e7, b7, k7⟩ := b6.put wf6 (i := 1) (n := 1) (v := wv') (by rw [c6]; rfl) (by rw [c6]; simp [o6]) (by simp)
        refine WS_of_seq (WS_of_draw ?_)
        simp only [f17_r7, go_sem, ↓reduceIte, Nat.reduceEqDiff, and_self, true_and, List.filter_cons, List.filter_nil, Nat.testBit, Nat.reduceShiftRight, Nat.reduceAnd, Nat.reduceBNe, Bool.not_false, Bool.not_true, Bool.false_eq_true, bne_self_eq_false, lwv, lw, efb, hh5, lw5, lwv5, eq_self, e6, e7]
        refine WS_of_seq (WS_of_ops ?_)
        simp only [f17_r8, go_sem, ↓reduceIte, Nat.reduceEqDiff]
        refine WS_of_ret ?_
        simp only [f17_a, go_sem, ↓reduceIte]
        have hwr : D.write (n : Int) bs = ({ D.counted with waits := D.counted.waits ++ [w] }, 0) := by
          unfold Dk.write; rw [if_neg hno, if_neg (by rw [hd]; simp), Int.toNat_natCast]
        have hok := d.ok.write (n : Int) bs
        rw [hwr] at hok ⊢
        rw [c6] at b7
        have hroot : ∀ x ∈ [o], Root x h6 := by simpa using b6.root
        have sk7 := gk6.away (gs := [o]) wf6 (by simp [d.ne]) hroot
        refine ⟨gs', rfl, ⟨gk, k, wv', b7, sk6.keep k7 sk7, gk6.keep sk7 k7, ?_, d.ne, ?_, hok⟩, ?_, ?_⟩
        · refine s6.keep k7 ?_
          rcases w6 with ⟨rfl, _⟩ | ⟨gw, a1, a2, a3, _⟩
          · trivial
          · exact a3.away wf6 (by simp [a1]) hroot
        · rcases w6 with ⟨rfl, e⟩ | ⟨gw, a1, a2, a3, e⟩
          · exact .inl ⟨rfl, e⟩
          · exact .inr ⟨gw, a1, a2, a3.keep (a3.away (gs := [o]) wf6 (by simp [a1]) hroot) k7, e⟩
        · have x1 := k1.then wf (KeepA.of (gs := gs) k14) (fun g hg => .inl hg)
          have x2 := x1.then wf (KeepA.of (gs := gs) kb) (fun g hg => .inl hg)
          have x3 := x2.then wf k6 (fun g hg => .inl hg)
          exact x3.then wf k7 (fun g hg => by simp only [List.mem_cons, List.not_mem_nil, or_false] at hg; subst hg; exact .inl m6)
        · intro g hg
          have := k1.n
          have := k14.n
          have := kb.n
          rcases n6 g hg with x | x
          · exact .inl x
          · exact .inr (by omega)
end Go.Proofs.Ytmfbememiffkjaa.Ev.C

/- Flush and Restart, walked. -/
namespace Go.Proofs.Ytmfbememiffkjaa.Ev.C
open Go Go.Proofs.Ytmfbememiffkjaa.Ev
set_option linter.unusedSimpArgs false
set_option linter.unusedVariables false
/-- the sectors are written -/
theorem DiskIs.putK {h h' : H} {o gk : Nat} {k wv : AV} {gs : List Nat} {D D' : Dk} (d : DiskIs h o gk k wv gs D) (wf : h.Wf) (kk : KeepA [gk] h h') (ks : Sl h' 64 k D'.kept.length (kcells D'.kept)) (kg : Grp gk h' k)
    (hw : D'.waits = D.waits) (ha : D'.armed = D.armed) (hd : D'.dead = D.dead) (ok : D'.Ok) : DiskIs h' o gk k wv gs D' := by
  obtain ⟨s1, s2, s3, m1, m2⟩ := d.away wf
  refine ⟨by rw [ha, hd]; exact d.box.keepA wf kk (by simp [Ne.symm d.ne]), ks, kg, by rw [hw]; exact d.ws.keep kk s3, d.ne, ?_, ok⟩
  rcases d.wg with ⟨rfl, e⟩ | ⟨gw, a1, a2, a3, e⟩
  · exact .inl ⟨rfl, e⟩
  · exact .inr ⟨gw, a1, a2, a3.keep s3 kk, e⟩
theorem waits_at {h : H} {wv : AV} {ws : List (Nat × Sec)} (s : Sl h 65 wv ws.length (wcells ws)) (h64 : ∀ w ∈ ws, w.2.length = 64) {j : Nat} (hj : j < ws.length) :
    ∃ p, indexAddrA 65 wv (.int .i64 (j : Int)) = some p ∧ loadA h true 65 p = some (.agg (wcell ws[j])) := by
  obtain ⟨p, e1, e2⟩ := s.atAgg hj (by decide) .i64
  refine ⟨p, e1, ?_⟩
  rw [e2, flat_at hj (fun x hx => wcell_len (h64 x hx))]
theorem foldl_take_succ {ws : List (Nat × Sec)} {k : List Sec} {j : Nat} (hj : j < ws.length) : (ws.take (j + 1)).foldl putS k = putS ((ws.take j).foldl putS k) ws[j] := by
  rw [List.take_succ_eq_append_getElem hj, List.foldl_append]
  rfl
theorem flush_spec {h : H} {o : Nat} {gs : List Nat} {D : Dk} (wf : h.Wf) (d : DiskAt h o gs D) (hwl : D.waits.length < 1000000) :
    WCall E0 19 [.ptr o 0] h fun r h' => ∃ gs', r = .val (.int .i64 (D.flush.2 : Int)) ∧ DiskAt h' o gs' D.flush.1 ∧ KeepA gs h h' ∧ ∀ g ∈ gs', g ∈ gs := by
  obtain ⟨gk, k, wv, d⟩ := d
  refine WCall_ws (ovn 19) U19 (by simp [f19_a]) ?_
  show WS E0 f19_c [] _ _ _
  refine WS_of_seq (WS_of_ops ?_)
  simp only [f19_r0, go_sem, ↓reduceIte]
  refine WS_of_seq (WS_of_block (WS_of_seq (WS_of_ops ?_)))
  simp only [f19_r1, go_sem, ↓reduceIte, Nat.reduceEqDiff]
  refine WS_of_cond ?_
  simp only [go_sem, ↓reduceIte, Bool.false_eq_true]
  refine WS_of_seq (WS_of_ops ?_)
  simp only [f19_r3, go_sem, ↓reduceIte, Nat.reduceEqDiff]
  refine (dies_spec wf d).mono ?_
  rintro r h1 ⟨rfl, d1, k1⟩
  have wf1 := k1.wf wf
  simp only [go_sem, ↓reduceIte, Nat.reduceEqDiff]
  refine WS_of_cond ?_
  cases hd : D.counted.dead with
  | true =>
    simp only [go_sem, ↓reduceIte, Nat.reduceEqDiff]
    refine WS_of_seq (WS_of_ops ?_)
    simp only [f19_r4, go_sem, ↓reduceIte, Nat.reduceEqDiff]
    refine WS_of_ret ?_
    simp only [f19_a, go_sem, ↓reduceIte]
    have : D.flush = (D.counted, 20) := by unfold Dk.flush; rw [if_pos hd]
    rw [this]
    exact ⟨gs, rfl, d1.at, k1, fun g hg => hg⟩
  | false =>
    simp only [go_sem, ↓reduceIte, Nat.reduceEqDiff, Bool.false_eq_true]
    refine WS_of_skip ?_
    simp only [go_sem]
    refine WS_of_seq (WS_of_seq (WS_of_ops ?_))
    simp only [f19_r5, go_sem, ↓reduceIte, Nat.reduceEqDiff, Nat.zero_add, d1.box.load, d1.ws.len]
    have hok1 := d1.ok
    have hwl1 : D.counted.waits.length < 1000000 := by rw [Dk.counted_waits]; exact hwl
    generalize hD1 : D.counted = D1 at d1 hd hok1 hwl1 ⊢
    have h64 : ∀ w ∈ D1.waits, w.2.length = 64 := fun w hw => (hok1.w w hw).2
    have hokj : ∀ j, ({ D1 with kept := (D1.waits.take j).foldl putS D1.kept } : Dk).Ok := by
      intro j
      obtain ⟨a, b⟩ := foldS_ok (ws := D1.waits.take j) hok1.k64 (fun w hw => h64 w (List.mem_of_mem_take hw))
      exact ⟨by simp only; rw [a]; exact hok1.n1, by simp only; rw [a]; exact hok1.n2, b, fun w hw => by simp only; rw [a]; exact hok1.w w hw, hok1.arm⟩
    refine WS_of_block (WS_of_loop (fun m s h2 => ∃ j, j + m = D1.waits.length ∧ s 16 = .int .i64 (j : Int) ∧ s 15 = .int .i64 (D1.waits.length : Int) ∧ s 14 = wv ∧ s 0 = .ptr o 0 ∧
      DiskIs h2 o gk k wv gs { D1 with kept := (D1.waits.take j).foldl putS D1.kept } ∧ KeepA gs h h2 ∧ h2.Wf) ?_ D1.waits.length ?_)
    · rintro m s h2 ⟨j, hjm, s16, s15, s14, s0, d2, k2, wf2⟩
      show WS E0 f19_l10 [] _ _ _
      refine WS_of_seq (WS_of_ops ?_)
      have bx := d2.box.load
      have bxg := d2.ws
      by_cases c : j < D1.waits.length
      · have c' : (j : Int) < (D1.waits.length : Int) := by omega
        simp only [f19_r6, go_sem, ↓reduceIte, Nat.reduceEqDiff, s16, s15, c', decide_true]
        refine WS_of_seq (WS_of_cond ?_)
        simp only [go_sem, ↓reduceIte]
        refine WS_of_skip ?_
        simp only [go_sem]
        refine WS_of_seq (WS_of_block (WS_of_seq (WS_of_ops ?_)))
        obtain ⟨p, e1, e2⟩ := waits_at d2.ws h64 c
        have hwc := wcell_len (h64 _ (List.getElem_mem c))
        have kn : Keep (Old h2.n) h2 (h2.new (.int .i64 0 :: ([.int .u8 0, .int .u8 0, .int .u8 0, .int .u8 0, .int .u8 0, .int .u8 0, .int .u8 0, .int .u8 0, .int .u8 0, .int .u8 0, .int .u8 0, .int .u8 0, .int .u8 0, .int .u8 0, .int .u8 0, .int .u8 0, .int .u8 0, .int .u8 0, .int .u8 0, .int .u8 0, .int .u8 0, .int .u8 0, .int .u8 0, .int .u8 0, .int .u8 0, .int .u8 0, .int .u8 0, .int .u8 0, .int .u8 0, .int .u8 0, .int .u8 0, .int .u8 0, .int .u8 0, .int .u8 0, .int .u8 0, .int .u8 0, .int .u8 0, .int .u8 0, .int .u8 0, .int .u8 0, .int .u8 0, .int .u8 0, .int .u8 0, .int .u8 0, .int .u8 0, .int .u8 0, .int .u8 0, .int .u8 0, .int .u8 0, .int .u8 0, .int .u8 0, .int .u8 0, .int .u8 0, .int .u8 0, .int .u8 0, .int .u8 0, .int .u8 0, .int .u8 0, .int .u8 0, .int .u8 0, .int .u8 0, .int .u8 0, .int .u8 0, .int .u8 0] : List AV))) := Keep.new (Nat.le_refl _) _
        have bn : Box h2.n (.int .i64 0 :: ([.int .u8 0, .int .u8 0, .int .u8 0, .int .u8 0, .int .u8 0, .int .u8 0, .int .u8 0, .int .u8 0, .int .u8 0, .int .u8 0, .int .u8 0, .int .u8 0, .int .u8 0, .int .u8 0, .int .u8 0, .int .u8 0, .int .u8 0, .int .u8 0, .int .u8 0, .int .u8 0, .int .u8 0, .int .u8 0, .int .u8 0, .int .u8 0, .int .u8 0, .int .u8 0, .int .u8 0, .int .u8 0, .int .u8 0, .int .u8 0, .int .u8 0, .int .u8 0, .int .u8 0, .int .u8 0, .int .u8 0, .int .u8 0, .int .u8 0, .int .u8 0, .int .u8 0, .int .u8 0, .int .u8 0, .int .u8 0, .int .u8 0, .int .u8 0, .int .u8 0, .int .u8 0, .int .u8 0, .int .u8 0, .int .u8 0, .int .u8 0, .int .u8 0, .int .u8 0, .int .u8 0, .int .u8 0, .int .u8 0, .int .u8 0, .int .u8 0, .int .u8 0, .int .u8 0, .int .u8 0, .int .u8 0, .int .u8 0, .int .u8 0, .int .u8 0] : List AV)) (h2.new (.int .i64 0 :: ([.int .u8 0, .int .u8 0, .int .u8 0, .int .u8 0, .int .u8 0, .int .u8 0, .int .u8 0, .int .u8 0, .int .u8 0, .int .u8 0, .int .u8 0, .int .u8 0, .int .u8 0, .int .u8 0, .int .u8 0, .int .u8 0, .int .u8 0, .int .u8 0, .int .u8 0, .int .u8 0, .int .u8 0, .int .u8 0, .int .u8 0, .int .u8 0, .int .u8 0, .int .u8 0, .int .u8 0, .int .u8 0, .int .u8 0, .int .u8 0, .int .u8 0, .int .u8 0, .int .u8 0, .int .u8 0, .int .u8 0, .int .u8 0, .int .u8 0, .int .u8 0, .int .u8 0, .int .u8 0, .int .u8 0, .int .u8 0, .int .u8 0, .int .u8 0, .int .u8 0, .int .u8 0, .int .u8 0, .int .u8 0, .int .u8 0, .int .u8 0, .int .u8 0, .int .u8 0, .int .u8 0, .int .u8 0, .int .u8 0, .int .u8 0, .int .u8 0, .int .u8 0, .int .u8 0, .int .u8 0, .int .u8 0, .int .u8 0, .int .u8 0, .int .u8 0] : List AV))) := Box.new wf2 _
        obtain ⟨h3, e3, b3, k3⟩ := bn.putAll (n := 65) (vs := wcell D1.waits[j]) (kn.wf wf2) hwc (wcell_one _) (by simp)
        simp only [f19_r7, go_sem, ↓reduceIte, Nat.reduceEqDiff, s16, s14, e1, e2, e3]
        have wfn := kn.wf wf2
        generalize h2.new (.int .i64 0 :: ([.int .u8 0, .int .u8 0, .int .u8 0, .int .u8 0, .int .u8 0, .int .u8 0, .int .u8 0, .int .u8 0, .int .u8 0, .int .u8 0, .int .u8 0, .int .u8 0, .int .u8 0, .int .u8 0, .int .u8 0, .int .u8 0, .int .u8 0, .int .u8 0, .int .u8 0, .int .u8 0, .int .u8 0, .int .u8 0, .int .u8 0, .int .u8 0, .int .u8 0, .int .u8 0, .int .u8 0, .int .u8 0, .int .u8 0, .int .u8 0, .int .u8 0, .int .u8 0, .int .u8 0, .int .u8 0, .int .u8 0, .int .u8 0, .int .u8 0, .int .u8 0, .int .u8 0, .int .u8 0, .int .u8 0, .int .u8 0, .int .u8 0, .int .u8 0, .int .u8 0, .int .u8 0, .int .u8 0, .int .u8 0, .int .u8 0, .int .u8 0, .int .u8 0, .int .u8 0, .int .u8 0, .int .u8 0, .int .u8 0, .int .u8 0, .int .u8 0, .int .u8 0, .int .u8 0, .int .u8 0, .int .u8 0, .int .u8 0, .int .u8 0, .int .u8 0] : List AV)) = hn at kn bn e3 k3 wfn
        have k23 : Keep (Old h2.n) h2 h3 := kn.trans (k3.newbox wfn kn.n (Nat.le_refl _))
        have d3 := d2.keep wf2 k23
        have wf3 := k23.wf wf2
        have l3 : loadA h3 true 65 (.ptr h2.n 0) = some (.agg (wcell D1.waits[j])) := b3.loadAgg hwc
        refine WS_of_ops ?_
        simp only [f19_r8, go_sem, ↓reduceIte, Nat.reduceEqDiff, s0, l3]
        have hj := hokj j
        refine (keep_spec wf3 d3.box d3.ks d3.kg hj.k64 (hj.w _ (List.getElem_mem c)).1 (h64 _ (List.getElem_mem c))).mono ?_
        rintro r h4 ⟨rfl, s4, g4, k4⟩
        simp only [go_sem, ↓reduceIte]
        refine WS_of_ops ?_
        have hw : IntKind.i64.wrap ((j : Int) + 1) = ((j + 1 : Nat) : Int) := by rw [wrap_i64 (by omega) (by omega)]; omega
        simp only [f19_r9, go_sem, ↓reduceIte, Nat.reduceEqDiff, s16, hw]
        have hfs := foldl_take_succ (k := D1.kept) c
        refine ⟨m - 1, by omega, j + 1, by omega, rfl, s15, s14, s0, ?_, ?_, k4.wf wf3⟩
        · refine d3.putK (D' := { D1 with kept := (D1.waits.take (j + 1)).foldl putS D1.kept }) wf3 k4 ?_ g4 rfl rfl rfl (hokj (j + 1))
          simp only
          rw [hfs]
          exact s4
        · have x1 := k2.then wf (KeepA.of (gs := gs) k23) (fun g hg => .inl hg)
          exact x1.then wf k4 (fun g hg => by simp only [List.mem_cons, List.not_mem_nil, or_false] at hg; subst hg; exact .inl (d2.away wf2).2.2.2.2)
      · have c' : ¬ (j : Int) < (D1.waits.length : Int) := by omega
        simp only [f19_r6, go_sem, ↓reduceIte, Nat.reduceEqDiff, s16, s15, c', decide_false]
        refine WS_of_seq (WS_of_cond ?_)
        simp only [go_sem, ↓reduceIte, Bool.false_eq_true]
        refine WS_of_exit ?_
        simp only [go_sem, ↓reduceIte]
        obtain ⟨h3, e3, b3, k3⟩ := d2.box.put (i := 1) (n := 1) (v := .nils) wf2 rfl rfl (by simp)
        refine WS_of_seq (WS_of_ops ?_)
        simp only [f19_r11, go_sem, ↓reduceIte, Nat.reduceEqDiff, s0, Nat.zero_add, e3]
        refine WS_of_seq (WS_of_ops ?_)
        simp only [f19_r12, go_sem, ↓reduceIte, Nat.reduceEqDiff]
        refine WS_of_ret ?_
        simp only [f19_a, go_sem, ↓reduceIte]
        have hj : j = D1.waits.length := by omega
        subst hj
        rw [List.take_length] at d2
        have hfl : D.flush = ({ D1 with kept := D1.waits.foldl putS D1.kept, waits := [] }, 0) := by
          unfold Dk.flush; rw [hD1, if_neg (by rw [hd]; simp)]
        have hok := d.ok.flush
        rw [hfl] at hok ⊢
        obtain ⟨q1, q2, q3, m1, m2⟩ := d2.away wf2
        refine ⟨[o, gk], rfl, ⟨gk, k, .nils, b3, d2.ks.keep k3 q1, d2.kg.keep q1 k3, Sl.nil _ _, d2.ne, .inl ⟨rfl, rfl⟩, hok⟩, ?_, ?_⟩
        · exact k2.then wf k3 (fun g hg => by simp only [List.mem_cons, List.not_mem_nil, or_false] at hg; subst hg; exact .inl m1)
        · intro g hg
          simp only [List.mem_cons, List.not_mem_nil, or_false] at hg
          rcases hg with rfl | rfl
          · exact m1
          · exact m2
    · exact ⟨0, by omega, rfl, rfl, rfl, rfl, d1, k1, wf1⟩
end Go.Proofs.Ytmfbememiffkjaa.Ev.C

/- Restart, walked. -/
namespace Go.Proofs.Ytmfbememiffkjaa.Ev.C
open Go Go.Proofs.Ytmfbememiffkjaa.Ev
set_option linter.unusedSimpArgs false
set_option linter.unusedVariables false
abbrev Bools (h : H) (v : AV) (l : List Bool) : Prop := Sl h 1 v l.length (l.map AV.bool)
theorem Bools.at {h : H} {v : AV} {l : List Bool} (b : Bools h v l) {i : Nat} (hi : i < l.length) (k : IntKind) : ∃ p, indexAddrA 1 v (.int k (i : Int)) = some p ∧ loadA h false 1 p = some (.bool l[i]) := by
  obtain ⟨p, e1, e2⟩ := Sl.at b hi k
  refine ⟨p, e1, ?_⟩
  rw [e2]; simp [hi]
theorem kcells_one (l : List Sec) : (kcells l).all AV.one = true := by
  rw [List.all_eq_true]
  intro x hx
  obtain ⟨s, _, hs⟩ := List.mem_flatMap.1 hx
  exact List.all_eq_true.1 (byteCells_one s) x hs
theorem keepAll_drop_nil {k : List Sec} {ws : List (Nat × Sec)} : keepAll k ws [] = k := by cases ws <;> rfl
def RI (h : H) (D : Dk) (bs : List Bool) (wv kv k2 : AV) (o2 g2 : Nat) : Nat → S → H → Prop := fun m s h3 => ∃ j K, j + m = D.waits.length ∧ s 22 = .int .i64 (j : Int) ∧ s 21 = .int .i64 (D.waits.length : Int) ∧ s 20 = wv ∧ s 1 = kv ∧ s 5 = .ptr o2 0 ∧
      DiskIs h3 o2 g2 k2 .nils [o2, g2] ⟨K, [], 0, false⟩ ∧ K.length = D.kept.length ∧ keepAll K (D.waits.drop j) (bs.drop j) = keepAll D.kept D.waits bs ∧ Keep (Old h.n) h h3
theorem restart_spec {h : H} {o : Nat} {gs : List Nat} {D : Dk} (wf : h.Wf) (d : DiskAt h o gs D) {kv : AV} {bs : List Bool} (b : Bools h kv bs) (sl : Slot (Old h.n) h kv) (hwl : D.waits.length < 1000000) (hbl : bs.length < 9223372036854775808) :
    WCall E0 24 [.ptr o 0, kv] h fun r h' => ∃ o' gs', r = .val (.ptr o' 0) ∧ DiskAt h' o' gs' (D.restart bs) ∧ Keep (Old h.n) h h' ∧ ∀ g ∈ gs', h.n ≤ g := by
  have dat := d
  obtain ⟨gk, k, wv, d⟩ := d
  refine WCall_ws (ovn 24) U24 (by simp [f24_a]) ?_
  show WS E0 f24_c [] _ _ _
  refine WS_of_seq (WS_of_ops ?_)
  simp only [f24_r0, go_sem, ↓reduceIte]
  refine WS_of_seq (WS_of_seq (WS_of_ops ?_))
  simp only [f24_r1, go_sem, ↓reduceIte, Nat.reduceEqDiff]
  refine WS_of_cond ?_
  simp only [go_sem, ↓reduceIte, Bool.false_eq_true]
  refine WS_of_skip ?_
  simp only [go_sem]
  refine WS_of_seq (WS_of_ops ?_)
  simp only [f24_r3, go_sem, ↓reduceIte, Nat.reduceEqDiff, Nat.zero_add, d.box.load]
  have hok := d.ok
  have h64 : ∀ w ∈ D.waits, w.2.length = 64 := fun w hw => (hok.w w hw).2
  refine (clones_spec wf d.ks (kcells_one _) (d.sk wf) hok.n1 (by have := hok.n2; omega)).mono ?_
  rintro r h1 ⟨k2, g2, rfl, ks2, kg2, hg2, k1⟩
  have wf1 := k1.wf wf
  have hk1 := one_of_len ks2.len
  have ef : afill [.nils, .nils, .int .i64 0, .bool false] [(0, 1, k2)] = some [k2, .nils, .int .i64 0, .bool false] := by
    simp only [afill]
    rw [if_pos ⟨by rw [hk1.2]; rfl, by decide⟩, hk1.2]
    rfl
  simp only [go_sem, ↓reduceIte, Nat.reduceEqDiff, ef]
  have hc4 : (AV.agg [k2, .nils, .int .i64 0, .bool false]).cells = [k2, .nils, .int .i64 0, .bool false] := rfl
  rw [hc4]
  have kn : Keep (Old h1.n) h1 (h1.new [k2, .nils, .int .i64 0, .bool false]) := Keep.new (Nat.le_refl _) _
  have bn : Box h1.n [k2, .nils, .int .i64 0, .bool false] (h1.new [k2, .nils, .int .i64 0, .bool false]) := Box.new wf1 _
  have hlt2 := kg2.lt wf1
  generalize h1.new [k2, .nils, .int .i64 0, .bool false] = h2 at kn bn ⊢
  have wf2 := kn.wf wf1
  have k12 : Keep (Old h.n) h h2 := k1.trans (kn.less k1.n)
  have d2 := d.keep wf k12
  have sl1 := (kg2.own wf1 (Nat.zero_le _)).slot wf1
  have n2 : DiskIs h2 h1.n g2 k2 .nils [h1.n, g2] ⟨D.kept, [], 0, false⟩ := ⟨bn, ks2.keep kn sl1, kg2.keep sl1 kn, Sl.nil _ _, by omega, .inl ⟨rfl, rfl⟩, ⟨hok.n1, hok.n2, hok.k64, fun w hw => by simp at hw, by simp⟩⟩
  have b2 := b.keep k12 sl
  have hb1 := k1.n
  generalize ho2 : h1.n = o2 at n2 hb1 ⊢
  refine WS_of_seq (WS_of_seq (WS_of_ops ?_))
  simp only [f24_r4, go_sem, ↓reduceIte, Nat.reduceEqDiff, Nat.zero_add, d2.box.load, d2.ws.len]
  refine WS_of_block (WS_of_loop (RI h D bs wv kv k2 o2 g2) ?_ D.waits.length ?_)
  · rintro m s h3 ⟨j, K, hjm, s22, s21, s20, s1, s5, n3, hK, hka, k3⟩
    have wf3 := k3.wf wf
    have d3 := d.keep wf k3
    have b3 := b.keep k3 sl
    show WS E0 f24_l10 [] _ _ _
    refine WS_of_seq (WS_of_ops ?_)
    by_cases c : j < D.waits.length
    · have c' : (j : Int) < (D.waits.length : Int) := by omega
      simp only [f24_r5, go_sem, ↓reduceIte, Nat.reduceEqDiff, s22, s21, c', decide_true]
      refine WS_of_seq (WS_of_cond ?_)
      simp only [go_sem, ↓reduceIte]
      refine WS_of_skip ?_
      simp only [go_sem]
      refine WS_of_seq (WS_of_block (WS_of_seq (WS_of_ops ?_)))
      obtain ⟨p, e1, e2⟩ := waits_at d3.ws h64 c
      have hwc := wcell_len (h64 _ (List.getElem_mem c))
      have kn : Keep (Old h3.n) h3 (h3.new (.int .i64 0 :: ([.int .u8 0, .int .u8 0, .int .u8 0, .int .u8 0, .int .u8 0, .int .u8 0, .int .u8 0, .int .u8 0, .int .u8 0, .int .u8 0, .int .u8 0, .int .u8 0, .int .u8 0, .int .u8 0, .int .u8 0, .int .u8 0, .int .u8 0, .int .u8 0, .int .u8 0, .int .u8 0, .int .u8 0, .int .u8 0, .int .u8 0, .int .u8 0, .int .u8 0, .int .u8 0, .int .u8 0, .int .u8 0, .int .u8 0, .int .u8 0, .int .u8 0, .int .u8 0, .int .u8 0, .int .u8 0, .int .u8 0, .int .u8 0, .int .u8 0, .int .u8 0, .int .u8 0, .int .u8 0, .int .u8 0, .int .u8 0, .int .u8 0, .int .u8 0, .int .u8 0, .int .u8 0, .int .u8 0, .int .u8 0, .int .u8 0, .int .u8 0, .int .u8 0, .int .u8 0, .int .u8 0, .int .u8 0, .int .u8 0, .int .u8 0, .int .u8 0, .int .u8 0, .int .u8 0, .int .u8 0, .int .u8 0, .int .u8 0, .int .u8 0, .int .u8 0] : List AV))) := Keep.new (Nat.le_refl _) _
      have bn : Box h3.n (.int .i64 0 :: ([.int .u8 0, .int .u8 0, .int .u8 0, .int .u8 0, .int .u8 0, .int .u8 0, .int .u8 0, .int .u8 0, .int .u8 0, .int .u8 0, .int .u8 0, .int .u8 0, .int .u8 0, .int .u8 0, .int .u8 0, .int .u8 0, .int .u8 0, .int .u8 0, .int .u8 0, .int .u8 0, .int .u8 0, .int .u8 0, .int .u8 0, .int .u8 0, .int .u8 0, .int .u8 0, .int .u8 0, .int .u8 0, .int .u8 0, .int .u8 0, .int .u8 0, .int .u8 0, .int .u8 0, .int .u8 0, .int .u8 0, .int .u8 0, .int .u8 0, .int .u8 0, .int .u8 0, .int .u8 0, .int .u8 0, .int .u8 0, .int .u8 0, .int .u8 0, .int .u8 0, .int .u8 0, .int .u8 0, .int .u8 0, .int .u8 0, .int .u8 0, .int .u8 0, .int .u8 0, .int .u8 0, .int .u8 0, .int .u8 0, .int .u8 0, .int .u8 0, .int .u8 0, .int .u8 0, .int .u8 0, .int .u8 0, .int .u8 0, .int .u8 0, .int .u8 0] : List AV)) (h3.new (.int .i64 0 :: ([.int .u8 0, .int .u8 0, .int .u8 0, .int .u8 0, .int .u8 0, .int .u8 0, .int .u8 0, .int .u8 0, .int .u8 0, .int .u8 0, .int .u8 0, .int .u8 0, .int .u8 0, .int .u8 0, .int .u8 0, .int .u8 0, .int .u8 0, .int .u8 0, .int .u8 0, .int .u8 0, .int .u8 0, .int .u8 0, .int .u8 0, .int .u8 0, .int .u8 0, .int .u8 0, .int .u8 0, .int .u8 0, .int .u8 0, .int .u8 0, .int .u8 0, .int .u8 0, .int .u8 0, .int .u8 0, .int .u8 0, .int .u8 0, .int .u8 0, .int .u8 0, .int .u8 0, .int .u8 0, .int .u8 0, .int .u8 0, .int .u8 0, .int .u8 0, .int .u8 0, .int .u8 0, .int .u8 0, .int .u8 0, .int .u8 0, .int .u8 0, .int .u8 0, .int .u8 0, .int .u8 0, .int .u8 0, .int .u8 0, .int .u8 0, .int .u8 0, .int .u8 0, .int .u8 0, .int .u8 0, .int .u8 0, .int .u8 0, .int .u8 0, .int .u8 0] : List AV))) := Box.new wf3 _
      obtain ⟨h4, e4, b4, k4⟩ := bn.putAll (n := 65) (vs := wcell D.waits[j]) (kn.wf wf3) hwc (wcell_one _) (by simp)
      simp only [f24_r6, go_sem, ↓reduceIte, Nat.reduceEqDiff, s22, s20, e1, e2, e4]
      have wfn := kn.wf wf3
      generalize h3.new (.int .i64 0 :: ([.int .u8 0, .int .u8 0, .int .u8 0, .int .u8 0, .int .u8 0, .int .u8 0, .int .u8 0, .int .u8 0, .int .u8 0, .int .u8 0, .int .u8 0, .int .u8 0, .int .u8 0, .int .u8 0, .int .u8 0, .int .u8 0, .int .u8 0, .int .u8 0, .int .u8 0, .int .u8 0, .int .u8 0, .int .u8 0, .int .u8 0, .int .u8 0, .int .u8 0, .int .u8 0, .int .u8 0, .int .u8 0, .int .u8 0, .int .u8 0, .int .u8 0, .int .u8 0, .int .u8 0, .int .u8 0, .int .u8 0, .int .u8 0, .int .u8 0, .int .u8 0, .int .u8 0, .int .u8 0, .int .u8 0, .int .u8 0, .int .u8 0, .int .u8 0, .int .u8 0, .int .u8 0, .int .u8 0, .int .u8 0, .int .u8 0, .int .u8 0, .int .u8 0, .int .u8 0, .int .u8 0, .int .u8 0, .int .u8 0, .int .u8 0, .int .u8 0, .int .u8 0, .int .u8 0, .int .u8 0, .int .u8 0, .int .u8 0, .int .u8 0, .int .u8 0] : List AV)) = hn at kn bn e4 k4 wfn
      have k34 : Keep (Old h3.n) h3 h4 := kn.trans (k4.newbox wfn kn.n (Nat.le_refl _))
      have n4 := n3.keep wf3 k34
      have k04 : Keep (Old h.n) h h4 := k3.trans (k34.less k3.n)
      have bb4 := b.keep k04 sl
      have wf4 := k34.wf wf3
      have l4 : loadA h4 true 65 (.ptr h3.n 0) = some (.agg (wcell D.waits[j])) := b4.loadAgg hwc
      have hw : IntKind.i64.wrap ((j : Int) + 1) = ((j + 1 : Nat) : Int) := by rw [wrap_i64 (by omega) (by omega)]; omega
      have hdj : D.waits.drop j = D.waits[j] :: D.waits.drop (j + 1) := List.drop_eq_getElem_cons c
      have done : ∀ (s' : S) (h5 : H) (K' : List Sec), s' 22 = .int .i64 (j : Int) → s' 21 = s 21 → s' 20 = s 20 → s' 1 = s 1 → s' 5 = s 5 → DiskIs h5 o2 g2 k2 .nils [o2, g2] ⟨K', [], 0, false⟩ → K'.length = D.kept.length →
          keepAll K' (D.waits.drop (j + 1)) (bs.drop (j + 1)) = keepAll D.kept D.waits bs → Keep (Old h.n) h h5 →
          ∀ Q : Post, (∀ s h3, RI h D bs wv kv k2 o2 g2 (m - 1) s h3 → Q .normal s h3) → WOK E0 f24_r9 [] Q s' h5 := by
        intro s' h5 K' a22 a21 a20 a1 a5 n5 hK5 hk5 k5 Q hQ
        simp only [f24_r9, go_sem, ↓reduceIte, Nat.reduceEqDiff, a22, hw]
        exact hQ _ _ ⟨j + 1, K', by omega, rfl, a21.trans s21, a20.trans s20, a1.trans s1, a5.trans s5, n5, hK5, hk5, k5⟩
      refine WS_of_seq (WS_of_ops ?_)
      by_cases cb : j < bs.length
      · have cb' : (j : Int) < (bs.length : Int) := by omega
        obtain ⟨q, f1, f2⟩ := Bools.at bb4 cb .i64
        simp only [f24_r7, go_sem, ↓reduceIte, Nat.reduceEqDiff, s1, s22, bb4.len, cb', decide_true, f1, f2]
        have hbj : bs.drop j = bs[j] :: bs.drop (j + 1) := List.drop_eq_getElem_cons cb
        rw [hdj, hbj] at hka
        refine WS_of_cond ?_
        cases hb : bs[j] with
        | true =>
          rw [hb] at hka
          simp only [go_sem, ↓reduceIte, Nat.reduceEqDiff]
          refine WS_of_ops ?_
          simp only [f24_r8, go_sem, ↓reduceIte, Nat.reduceEqDiff, s5, l4]
          have hwK : (D.waits[j]).1 < K.length := by rw [hK]; exact (hok.w _ (List.getElem_mem c)).1
          refine (keep_spec wf4 n4.box n4.ks n4.kg n4.ok.k64 hwK (h64 _ (List.getElem_mem c))).mono ?_
          rintro r h5 ⟨rfl, s5', g5, k5⟩
          simp only [go_sem, ↓reduceIte]
          refine WS_of_ops ?_
          have hpl := putS_len K D.waits[j]
          refine done _ h5 (putS K D.waits[j]) (by simp only [go_sem, ↓reduceIte, Nat.reduceEqDiff, s22]) (by simp only [go_sem, ↓reduceIte, Nat.reduceEqDiff]) (by simp only [go_sem, ↓reduceIte, Nat.reduceEqDiff]) (by simp only [go_sem, ↓reduceIte, Nat.reduceEqDiff]) (by simp only [go_sem, ↓reduceIte, Nat.reduceEqDiff]) ?_ (by rw [hpl]; exact hK) (by simpa [keepAll] using hka) ?_ _ (fun s h r => ⟨m - 1, by omega, r⟩)
          · refine n4.putK (D' := ⟨putS K D.waits[j], [], 0, false⟩) wf4 k5 s5' g5 rfl rfl rfl ⟨by simp only; rw [hpl, hK]; exact hok.n1, by simp only; rw [hpl, hK]; exact hok.n2, putS_ok n4.ok.k64 (h64 _ (List.getElem_mem c)), fun w hw => by simp at hw, by simp⟩
          · exact k04.trans (k5.old wf4 k04.n (by simpa using hg2))
        | false =>
          rw [hb] at hka
          simp only [go_sem, ↓reduceIte, Nat.reduceEqDiff, Bool.false_eq_true]
          refine WS_of_skip ?_
          simp only [go_sem, ↓reduceIte]
          refine WS_of_ops ?_
          exact done _ h4 K (by simp only [go_sem, ↓reduceIte, Nat.reduceEqDiff, s22]) (by simp only [go_sem, ↓reduceIte, Nat.reduceEqDiff]) (by simp only [go_sem, ↓reduceIte, Nat.reduceEqDiff]) (by simp only [go_sem, ↓reduceIte, Nat.reduceEqDiff]) (by simp only [go_sem, ↓reduceIte, Nat.reduceEqDiff]) n4 hK (by simpa [keepAll] using hka) k04 _ (fun s h r => ⟨m - 1, by omega, r⟩)
      · have cb' : ¬ (j : Int) < (bs.length : Int) := by omega
        simp only [f24_r7, go_sem, ↓reduceIte, Nat.reduceEqDiff, s1, s22, bb4.len, cb', decide_false, Bool.false_eq_true]
        refine WS_of_cond ?_
        simp only [go_sem, ↓reduceIte, Nat.reduceEqDiff, Bool.false_eq_true]
        refine WS_of_skip ?_
        simp only [go_sem, ↓reduceIte]
        refine WS_of_ops ?_
        refine done _ h4 K (by simp only [go_sem, ↓reduceIte, Nat.reduceEqDiff, s22]) (by simp only [go_sem, ↓reduceIte, Nat.reduceEqDiff]) (by simp only [go_sem, ↓reduceIte, Nat.reduceEqDiff]) (by simp only [go_sem, ↓reduceIte, Nat.reduceEqDiff]) (by simp only [go_sem, ↓reduceIte, Nat.reduceEqDiff]) n4 hK ?_ k04 _ (fun s h r => ⟨m - 1, by omega, r⟩)
        rw [List.drop_eq_nil_of_le (by omega : bs.length ≤ j), keepAll_drop_nil] at hka
        rw [List.drop_eq_nil_of_le (by omega : bs.length ≤ j + 1), keepAll_drop_nil]
        exact hka
    · have c' : ¬ (j : Int) < (D.waits.length : Int) := by omega
      simp only [f24_r5, go_sem, ↓reduceIte, Nat.reduceEqDiff, s22, s21, c', decide_false]
      refine WS_of_seq (WS_of_cond ?_)
      simp only [go_sem, ↓reduceIte, Bool.false_eq_true]
      refine WS_of_exit ?_
      simp only [go_sem, ↓reduceIte]
      refine WS_of_seq (WS_of_ops ?_)
      simp only [f24_r11, go_sem, ↓reduceIte, Nat.reduceEqDiff, s5]
      refine WS_of_ret ?_
      simp only [f24_a, go_sem, ↓reduceIte]
      rw [List.drop_eq_nil_of_le (by omega : D.waits.length ≤ j)] at hka
      have hke : D.restart bs = ⟨K, [], 0, false⟩ := by
        unfold Dk.restart
        rw [← hka]
        cases bs.drop j <;> rfl
      rw [hke]
      refine ⟨o2, [o2, g2], rfl, ⟨g2, k2, .nils, n3⟩, k3, ?_⟩
      intro g hg
      simp only [List.mem_cons, List.not_mem_nil, or_false] at hg
      rcases hg with rfl | rfl <;> omega
  · exact ⟨0, D.kept, by omega, rfl, rfl, rfl, rfl, rfl, n2, rfl, by simp, k12⟩
end Go.Proofs.Ytmfbememiffkjaa.Ev.C
