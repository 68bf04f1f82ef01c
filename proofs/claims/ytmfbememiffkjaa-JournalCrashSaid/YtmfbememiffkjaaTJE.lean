/- The references' small functions, and a disk's sectors as texts: walked. -/
import Derived.Test.YtmfbememiffkjaaTJD
namespace Go.Proofs.Ytmfbememiffkjaa.Ev.C
open Go Go.Proofs.Ytmfbememiffkjaa.Ev
set_option linter.unusedSimpArgs false
set_option linter.unusedVariables false
theorem rsize_spec {h : H} {n : Nat} (hn : n ≤ 1000000) : WCall E0 55 [.int .i64 (n : Int)] h fun r h' => h' = h ∧ r = .val (.int .i64 (jsize n : Int)) := by
  refine WCall_ws (ovn 55) U55 (by simp [f55_a]) ?_
  show WS E0 f55_c [] _ _ _
  refine WS_of_seq (WS_of_ops ?_)
  simp only [f55_r0, go_sem, ↓reduceIte]
  refine WS_of_seq (WS_of_ops ?_)
  simp only [f55_r1, go_sem, ↓reduceIte, Nat.reduceEqDiff]
  refine WS_of_seq (WS_of_block (WS_of_loop (fun m s h' => ∃ x : Int, ∃ k : Nat, m = x.toNat ∧ s 0 = .int .i64 x ∧ s 3 = .int .i64 (k : Int) ∧ h' = h ∧ -63 ≤ x ∧ x ≤ n ∧ k + (x.toNat + 62) / 63 = jsize n) ?_ n ?_))
  · rintro m s h' ⟨x, k, rfl, s0, s3, rfl, hx1, hx2, hk⟩
    show WS E0 f55_l5 [] _ _ _
    have hj : jsize n ≤ 20000 := by unfold jsize; omega
    refine WS_of_seq (WS_of_seq (WS_of_ops ?_))
    by_cases c : 0 < x
    · simp only [f55_r2, go_sem, ↓reduceIte, Nat.reduceEqDiff, s0, c, decide_true]
      refine WS_of_cond ?_
      simp only [go_sem, ↓reduceIte]
      refine WS_of_skip ?_
      simp only [go_sem]
      have w1 : IntKind.i64.wrap ((k : Int) + 1) = ((k + 1 : Nat) : Int) := by rw [wrap_i64 (by omega) (by omega)]; omega
      have w2 : IntKind.i64.wrap (x - 63) = x - 63 := wrap_i64 (by omega) (by omega)
      refine WS_of_block (WS_of_seq (WS_of_ops ?_))
      simp only [f55_r3, go_sem, ↓reduceIte, Nat.reduceEqDiff, s3, w1]
      refine WS_of_ops ?_
      simp only [f55_r4, go_sem, ↓reduceIte, Nat.reduceEqDiff, s0, w2]
      exact ⟨(x - 63).toNat, by omega, x - 63, k + 1, rfl, rfl, rfl, trivial, by omega, by omega, by omega⟩
    · simp only [f55_r2, go_sem, ↓reduceIte, Nat.reduceEqDiff, s0, c, decide_false]
      refine WS_of_cond ?_
      simp only [go_sem, ↓reduceIte, Bool.false_eq_true]
      refine WS_of_exit ?_
      simp only [go_sem, ↓reduceIte]
      refine WS_of_seq (WS_of_ops ?_)
      simp only [f55_r6, go_sem, ↓reduceIte, Nat.reduceEqDiff, s3]
      refine WS_of_ret ?_
      have e : k = jsize n := by omega
      simp only [f55_a, go_sem, ↓reduceIte, Nat.reduceEqDiff, e]
      exact ⟨trivial, trivial⟩
  · exact ⟨n, 1, by omega, rfl, rfl, rfl, by omega, by omega, by unfold jsize; omega⟩
theorem rhead_spec {h : H} {ep k n : Nat} (wf : h.Wf) (h1 : ep < 18446744073709551616) (h2 : k < 18446744073709551616) (h3 : n ≤ 1000000) :
    WCall E0 31 [.int .u64 (ep : Int), .int .u64 (k : Int), .int .i64 (n : Int)] h fun r h' => r = .val (.str (pad (headB ep k n))) ∧ Keep (Old h.n) h h' := by
  refine WCall_ws (ovn 31) U31 (by simp [f31_a]) ?_
  show WS E0 f31_c [] _ _ _
  refine WS_of_seq (WS_of_ops ?_)
  simp only [f31_r0, go_sem, ↓reduceIte]
  refine WS_of_seq (WS_of_ops ?_)
  simp only [f31_r1, go_sem, ↓reduceIte, Nat.reduceEqDiff]
  refine (refNum_spec wf h1).mono ?_
  rintro r ha ⟨rfl, ka⟩
  have wfa := ka.wf wf
  have l1 := nb_le8 h1
  have l2 := nb_le8 h2
  have l3 := nb_le8 (x := n) (by omega)
  have m1 := num_length ep
  have m2 := num_length k
  have m3 := num_length n
  have hbig : big = 4611686018427387904 := rfl
  simp only [go_sem, ↓reduceIte, Nat.reduceEqDiff]
  refine ⟨by simp only [List.length_cons, List.length_nil]; omega, ?_⟩
  refine (refNum_spec wfa h2).mono ?_
  rintro r hb ⟨rfl, kb⟩
  have wfb := kb.wf wfa
  have w1 : IntKind.u64.wrap (n : Int) = (n : Int) := wrap_u64 (by omega) (by omega)
  simp only [go_sem, ↓reduceIte, Nat.reduceEqDiff, w1]
  refine ⟨by simp only [List.length_cons, List.length_nil, List.length_append]; omega, ?_⟩
  refine (refNum_spec wfb (x := n) (by omega)).mono ?_
  rintro r hc ⟨rfl, kc⟩
  have wfc := kc.wf wfb
  simp only [go_sem, ↓reduceIte, Nat.reduceEqDiff]
  have e : ([1] ++ num ep ++ num k ++ num n : Sec) = headB ep k n := by simp [headB]
  have hl := headB_len h1 h2 (n := n) (by omega)
  rw [e]
  refine ⟨by simp only [List.length_cons, List.length_nil, List.length_append]; omega, ?_⟩
  refine (rpad_spec (b := headB ep k n) (by omega)).mono ?_
  rintro r hd ⟨rfl, rfl⟩
  simp only [go_sem, ↓reduceIte, Nat.reduceEqDiff]
  refine WS_of_ret ?_
  simp only [f31_a, go_sem, ↓reduceIte, Nat.reduceEqDiff]
  exact ⟨trivial, (ka.then (Nat.le_refl _) kb).then (Nat.le_refl _) kc⟩
/-- a disk's sectors as texts -/
theorem sectors_spec {h : H} {o : Nat} {gs : List Nat} {D : Dk} (wf : h.Wf) (d : DiskAt h o gs D) (hdead : D.dead = false) (hwl : D.waits.length < 1000000) :
    WCall E0 34 [.ptr o 0] h fun r h' => ∃ v, r = .val v ∧ Strs h' v ((List.range D.kept.length).map (findS D)) ∧ Own h.n h' v ∧ Keep (Old h.n) h h' := by
  refine WCall_ws (ovn 34) U34 (by simp [f34_a]) ?_
  show WS E0 f34_c [] _ _ _
  have hok := d.ok
  have hn2 := hok.n2
  refine WS_of_seq (WS_of_ops ?_)
  simp only [f34_r0, go_sem, ↓reduceIte]
  refine WS_of_seq (WS_of_ops ?_)
  simp only [f34_r1, go_sem, ↓reduceIte, Nat.reduceEqDiff]
  refine WS_of_seq (WS_of_seq (WS_of_ops ?_))
  simp only [f34_r2, go_sem, ↓reduceIte, Nat.reduceEqDiff]
  refine WS_of_block (WS_of_loop (fun m s h' => ∃ j v, j + m = D.kept.length ∧ s 0 = .ptr o 0 ∧ s 3 = v ∧ s 4 = .int .i64 (j : Int) ∧ Strs h' v ((List.range j).map (findS D)) ∧ Own h.n h' v ∧ Keep (Old h.n) h h') ?_ D.kept.length ?_)
  · rintro m s h1 ⟨j, v, hj, s0, s3, s4, st, ow, k1⟩
    show WS E0 f34_l7 [] _ _ _
    have wf1 := k1.wf wf
    have d1 := d.keep wf k1
    refine WS_of_seq (WS_of_seq (WS_of_ops ?_))
    simp only [f34_r3, go_sem, ↓reduceIte, Nat.reduceEqDiff, s0, s4]
    refine (len_spec d1).mono ?_
    rintro r h1' ⟨hh, rfl⟩
    have hh' := hh.symm
    subst hh'
    by_cases c : j < D.kept.length
    · have c' : (j : Int) < (D.kept.length : Int) := by omega
      simp only [go_sem, ↓reduceIte, Nat.reduceEqDiff, c', decide_true]
      refine WS_of_cond ?_
      simp only [go_sem, ↓reduceIte]
      refine WS_of_skip ?_
      simp only [go_sem]
      refine WS_of_seq (WS_of_block (WS_of_seq (WS_of_ops ?_)))
      simp only [f34_r4, go_sem, ↓reduceIte, Nat.reduceEqDiff, s0, s4]
      refine (read_spec wf1 d1 (j : Int) hwl).mono ?_
      rintro r h2 ⟨v2, rfl, b2, o2, k2⟩
      have wf2 := k2.wf wf1
      have hr : D.read (j : Int) = (findS D j, 0) := by
        unfold Dk.read
        rw [if_neg (by rw [has_iff.2 ⟨j, rfl, c⟩]; simp), if_neg (by rw [hdead]; simp), Int.toNat_natCast]
      rw [hr] at b2
      have hs := b2.str
      have sl1 := ow.slot wf1
      have st2 := st.keep k2 sl1
      have ow2 := ow.keep sl1 k2
      have kn : Keep (Old h2.n) h2 (h2.new [.str (findS D j)]) := Keep.new (Nat.le_refl _) _
      have wfn := kn.wf wf2
      have sl2 := ow2.slot wf2
      have ef : afill (zeros [AV.str []] (1 * 1)) [(0, 1, AV.str (findS D j))] = some [.str (findS D j)] := rfl
      obtain ⟨v3, h3, e3, s3', o3, k3⟩ := Strs.app (N := h.n) wfn (Nat.le_trans k1.n (Nat.le_trans k2.n kn.n)) (st2.keep kn sl2) (ow2.keep sl2 kn) (Strs.one wf2 (findS D j)) (by simp; omega)
      simp only [go_sem, ↓reduceIte, Nat.reduceEqDiff, List.getElem?_cons_zero, List.getElem?_cons_succ]
      refine WS_of_ops ?_
      simp only [f34_r5, go_sem, ↓reduceIte, Nat.reduceEqDiff, s3, hs, ef, e3]
      refine WS_of_ops ?_
      have hw : IntKind.i64.wrap ((j : Int) + 1) = ((j + 1 : Nat) : Int) := by rw [wrap_i64 (by omega) (by omega)]; omega
      simp only [f34_r6, go_sem, ↓reduceIte, Nat.reduceEqDiff, s4, hw]
      refine ⟨m - 1, by omega, j + 1, v3, by omega, s0, rfl, rfl, ?_, o3, ((k1.then (Nat.le_refl _) k2).then (Nat.le_refl _) kn).trans k3⟩
      rw [List.range_succ, List.map_append]
      exact s3'
    · have c' : ¬ (j : Int) < (D.kept.length : Int) := by omega
      simp only [go_sem, ↓reduceIte, Nat.reduceEqDiff, c', decide_false]
      refine WS_of_cond ?_
      simp only [go_sem, ↓reduceIte, Bool.false_eq_true]
      refine WS_of_exit ?_
      simp only [go_sem, ↓reduceIte]
      refine WS_of_seq (WS_of_ops ?_)
      simp only [f34_r8, go_sem, ↓reduceIte, Nat.reduceEqDiff, s3]
      refine WS_of_ret ?_
      simp only [f34_a, go_sem, ↓reduceIte, Nat.reduceEqDiff]
      obtain rfl : j = D.kept.length := by omega
      exact ⟨_, rfl, st, ow, k1⟩
  · exact ⟨0, .nils, by simp, rfl, rfl, rfl, Strs.nil _, Own.nils _ _, Keep.refl _ _⟩
end Go.Proofs.Ytmfbememiffkjaa.Ev.C

/- The reference's sectors of a record, and its records in sectors: walked. -/
namespace Go.Proofs.Ytmfbememiffkjaa.Ev.C
open Go Go.Proofs.Ytmfbememiffkjaa.Ev
set_option linter.unusedSimpArgs false
set_option linter.unusedVariables false
theorem bigv : big = 4611686018427387904 := rfl
/-- a text behind others in a slice -/
theorem strs_more {h : H} (wf : h.Wf) {N : Nat} (hN : N ≤ h.n) {v : AV} {L : List Sec} (st : Strs h v L) (ow : Own N h v) (hL : L.length < 1000000) (s : Sec) :
    ∃ v' h', appendA (h.new [.str s]) 1 v (.slice h.n 0 1 1) = some (v', h') ∧ Strs h' v' (L ++ [s]) ∧ Own N h' v' ∧ Keep (Old N) h h' := by
  have kn : Keep (Old h.n) h (h.new [.str s]) := Keep.new (Nat.le_refl _) _
  have wfn := kn.wf wf
  have sl := ow.slot wf
  obtain ⟨v', h', e, s', o', k'⟩ := Strs.app (N := N) wfn (Nat.le_trans hN kn.n) (st.keep kn sl) (ow.keep sl kn) (Strs.one wf s) (by simp; omega)
  exact ⟨v', h', e, s', o', (kn.weaken fun q hq => Nat.lt_of_lt_of_le hq hN).trans k'⟩
theorem rsectors_spec {h : H} {ep k : Nat} {b : Sec} (wf : h.Wf) (h1 : ep < 18446744073709551616) (h2 : k < 18446744073709551616) (h3 : b.length ≤ 1000000) :
    WCall E0 41 [.int .u64 (ep : Int), .int .u64 (k : Int), .str b] h fun r h' => ∃ v, r = .val v ∧ Strs h' v ((List.range (jsize b.length)).map (recAt ep k b)) ∧ Own h.n h' v ∧ Keep (Old h.n) h h' := by
  refine WCall_ws (ovn 41) U41 (by simp [f41_a]) ?_
  show WS E0 f41_c [] _ _ _
  refine WS_of_seq (WS_of_ops ?_)
  simp only [f41_r0, go_sem, ↓reduceIte]
  refine WS_of_seq (WS_of_ops ?_)
  simp only [f41_r1, go_sem, ↓reduceIte, Nat.reduceEqDiff]
  refine WS_of_seq (WS_of_ops ?_)
  simp only [f41_r2, go_sem, ↓reduceIte, Nat.reduceEqDiff]
  refine (rhead_spec (n := b.length) wf h1 h2 h3).mono ?_
  rintro r ha ⟨rfl, ka⟩
  have wfa := ka.wf wf
  have ef : ∀ t : Sec, afill (zeros [AV.str []] (1 * 1)) [(0, 1, AV.str t)] = some [.str t] := fun t => rfl
  obtain ⟨v1, hb, e1, s1, o1, k1⟩ := strs_more wfa ka.n (Strs.nil _) (Own.nils h.n _) (by simp) (pad (headB ep k b.length))
  have kb := ka.trans k1
  simp only [go_sem, ↓reduceIte, Nat.reduceEqDiff, ef, e1]
  have hr0 : recAt ep k b 0 = pad (headB ep k b.length) := rfl
  have hnj := nchunk_jsize b.length
  refine WS_of_seq (WS_of_block (WS_of_loop (fun m s h' => ∃ j v, j + m = nchunk b.length ∧ s 2 = .str (b.drop (63 * j)) ∧ s 7 = v ∧ Strs h' v ((List.range (j + 1)).map (recAt ep k b)) ∧ Own h.n h' v ∧ Keep (Old h.n) h h') ?_ (nchunk b.length) ?_))
  · rintro m s hc ⟨j, v, hj, s2, s7, st, ow, kc⟩
    show WS E0 f41_l7 [] _ _ _
    have wfc := kc.wf wf
    refine WS_of_seq (WS_of_seq (WS_of_ops ?_))
    by_cases c : j < nchunk b.length
    · have hlt : 63 * j < b.length := by unfold nchunk at c; omega
      have hne : ¬ (b.drop (63 * j) = ([] : Sec)) := fun e => by
        have := congrArg List.length e
        simp at this
        omega
      have hdl : (b.drop (63 * j)).length = b.length - 63 * j := List.length_drop
      have hmin : (if (63 : Int) < ((b.drop (63 * j)).length : Int) then (63 : Int) else ((b.drop (63 * j)).length : Int)) = ((min (b.length - 63 * j) 63 : Nat) : Int) := by rw [hdl]; split <;> omega
      simp only [f41_r3, go_sem, ↓reduceIte, Nat.reduceEqDiff, s2, hne, decide_false, Bool.not_false]
      refine WS_of_cond ?_
      simp only [go_sem, ↓reduceIte]
      refine WS_of_skip ?_
      simp only [go_sem]
      have t1 : sliceTA none (some (.int .i64 ((min (b.length - 63 * j) 63 : Nat) : Int))) (.str (b.drop (63 * j))) = some (.str (chunk b j)) := by
        rw [sliceT_to (by omega)]
        congr 2
        unfold chunk
        by_cases cc : b.length - 63 * j ≤ 63
        · rw [Nat.min_eq_left cc, List.take_of_length_le (by omega), List.take_of_length_le (by omega)]
        · rw [Nat.min_eq_right (by omega)]
      have t2 : sliceTA (some (.int .i64 ((min (b.length - 63 * j) 63 : Nat) : Int))) none (.str (b.drop (63 * j))) = some (.str (b.drop (63 * (j + 1)))) := by
        rw [sliceT_from (by omega)]
        congr 2
        rw [List.drop_drop]
        by_cases cc : b.length - 63 * j ≤ 63
        · rw [Nat.min_eq_left cc, List.drop_eq_nil_of_le (by omega), List.drop_eq_nil_of_le (by omega)]
        · rw [Nat.min_eq_right (by omega)]
          congr 1
      have hcl := chunk_len b j
      refine WS_of_block (WS_of_seq (WS_of_ops ?_))
      simp only [f41_r4, go_sem, ↓reduceIte, Nat.reduceEqDiff, s2, hmin]
      have hch : ([0] ++ chunk b j : Sec) = 0 :: chunk b j := rfl
      refine WS_of_seq (WS_of_ops ?_)
      simp only [f41_r5, go_sem, ↓reduceIte, Nat.reduceEqDiff, s2, s7, t1, hch]
      refine ⟨by rw [bigv]; simp only [List.length_cons, List.length_nil]; omega, ?_⟩
      refine (rpad_spec (b := 0 :: chunk b j) (by simp only [List.length_cons]; omega)).mono ?_
      rintro r hd ⟨hh, rfl⟩
      have hh' := hh.symm
      subst hh'
      have hL : ((List.range (j + 1)).map (recAt ep k b)).length < 1000000 := by simp only [List.length_map, List.length_range]; unfold nchunk at c; omega
      obtain ⟨v3, h3', e3, s3, o3, k3⟩ := strs_more wfc kc.n st ow hL (pad (0 :: chunk b j))
      have hra : recAt ep k b (j + 1) = pad (0 :: chunk b j) := by simp [recAt]
      simp only [go_sem, ↓reduceIte, Nat.reduceEqDiff, ef, e3]
      refine WS_of_ops ?_
      simp only [f41_r6, go_sem, ↓reduceIte, Nat.reduceEqDiff, s2, t2]
      refine ⟨m - 1, by omega, j + 1, v3, by omega, rfl, rfl, ?_, o3, kc.trans k3⟩
      rw [List.map_append, List.map_cons, List.map_nil, hra]
      exact s3
    · have hjn : j = nchunk b.length := by omega
      have hne : b.drop (63 * j) = ([] : Sec) := List.drop_eq_nil_of_le (by rw [hjn]; unfold nchunk; omega)
      simp only [f41_r3, go_sem, ↓reduceIte, Nat.reduceEqDiff, s2, hne, decide_true, Bool.not_true]
      refine WS_of_cond ?_
      simp only [go_sem, ↓reduceIte, Bool.false_eq_true]
      refine WS_of_exit ?_
      simp only [go_sem, ↓reduceIte]
      refine WS_of_seq (WS_of_ops ?_)
      simp only [f41_r8, go_sem, ↓reduceIte, Nat.reduceEqDiff, s7]
      refine WS_of_ret ?_
      simp only [f41_a, go_sem, ↓reduceIte, Nat.reduceEqDiff]
      rw [hnj, ← hjn]
      exact ⟨_, rfl, st, ow, kc⟩
  · exact ⟨0, v1, by simp, rfl, rfl, by rw [show (List.range (0 + 1)).map (recAt ep k b) = [] ++ [pad (headB ep k b.length)] from rfl]; exact s1, o1, kb⟩
theorem box_put2 {h : H} (wf : h.Wf) {z0 z1 a b : AV} (ha : a.cells = [a]) (hb : b.cells = [b]) (h1 : ([a, b] : List AV).all AV.one = true) :
    ∃ h', storeA (h.new [z0, z1]) 2 (.ptr h.n 0) (.agg [a, b]) = some h' ∧ Box h.n [a, b] h' ∧ Keep (Old h.n) h h' := by
  have kn : Keep (Old h.n) h (h.new [z0, z1]) := Keep.new (Nat.le_refl _) _
  have bn : Box h.n [z0, z1] (h.new [z0, z1]) := Box.new wf _
  have wfn := kn.wf wf
  obtain ⟨h', e, b', k'⟩ := bn.putAll (n := 2) (vs := [a, b]) wfn rfl h1 rfl
  exact ⟨h', e, b', kn.trans (k'.newbox wfn kn.n (Nat.le_refl _))⟩
/-- records in sectors, as the reference has them -/
theorem rrecords_spec {h : H} {sv : AV} {Z : List Sec} {fr to ep : Nat} (wf : h.Wf) (ss : Strs h sv Z) (sl : Slot (Old h.n) h sv) (h64 : ∀ b ∈ Z, b.length = 64) (hft : fr ≤ to) (hto : to ≤ Z.length) (hS : Z.length ≤ 65536) (hep : ep < 18446744073709551616) :
    WCall E0 33 [sv, .int .i64 (fr : Int), .int .i64 (to : Int), .int .u64 (ep : Int)] h fun r h' => ∃ v, r = .val (.tup [v, .int .i64 ((jopen (fun i => Z.getD i []) fr to ep).2 : Int)]) ∧ Strs h' v (jopen (fun i => Z.getD i []) fr to ep).1 ∧ Own h.n h' v ∧ Keep (Old h.n) h h' ∧
      (jopen (fun i => Z.getD i []) fr to ep).2 ≤ to ∧ (jopen (fun i => Z.getD i []) fr to ep).1.length ≤ to := by
  refine WCall_ws (ovn 33) U33 (by simp [f33_a]) ?_
  show WS E0 f33_c [] _ _ _
  generalize hsc : (fun i => Z.getD i []) = sc
  have hsl : ∀ i, i < to → (sc i).length = 64 := fun i hi => by
    rw [← hsc]
    show (Z.getD i []).length = 64
    rw [List.getD_eq_getElem?_getD, List.getElem?_eq_getElem (by omega)]
    exact h64 _ (List.getElem_mem (by omega))
  have hget : ∀ i (hi : i < Z.length), Z[i] = sc i := fun i hi => by
    rw [← hsc]
    show Z[i] = Z.getD i []
    rw [List.getD_eq_getElem?_getD, List.getElem?_eq_getElem hi]; rfl
  refine WS_of_seq (WS_of_ops ?_)
  simp only [f33_r0, go_sem, ↓reduceIte]
  refine WS_of_seq (WS_of_ops ?_)
  simp only [f33_r1, go_sem, ↓reduceIte, Nat.reduceEqDiff]
  refine WS_of_seq (WS_of_block (WS_of_loop (fun m s h2 => ∃ f K v, m = to - f ∧ s 0 = sv ∧ s 1 = .int .i64 (f : Int) ∧ s 2 = .int .i64 (to : Int) ∧ s 3 = .int .u64 (ep : Int) ∧ s 10 = v ∧ Strs h2 v K ∧ Own h.n h2 v ∧ Keep (Old h.n) h h2 ∧ f ≤ to ∧ K.length ≤ f ∧
    jrun sc to ep (to - f + 1) f K = jopen sc fr to ep) ?_ (to - fr) ?_))
  · rintro m s h2 ⟨f, K, v, rfl, s0, s1, s2, s3, s10, st, ow, k2, hf, hKf, hj⟩
    show WS E0 f33_l22 [] _ _ _
    have wf2 := k2.wf wf
    have hj0 := hj
    unfold jrun at hj
    have stop : ∀ {h3 : H}, jnext sc f to ep K.length = none → Keep (Old h2.n) h2 h3 →
        ∃ v', AOut.val (.tup [v, .int .i64 (f : Int)]) = .val (.tup [v', .int .i64 ((jopen sc fr to ep).2 : Int)]) ∧ Strs h3 v' (jopen sc fr to ep).1 ∧ Own h.n h3 v' ∧ Keep (Old h.n) h h3 ∧ (jopen sc fr to ep).2 ≤ to ∧ (jopen sc fr to ep).1.length ≤ to := by
      intro h3 hn k3
      rw [hn] at hj
      rw [← hj]
      have slv := ow.slot wf2
      exact ⟨v, rfl, st.keep k3 slv, ow.keep slv k3, k2.then (Nat.le_refl _) k3, hf, by simp only; omega⟩
    refine WS_of_seq (WS_of_seq (WS_of_ops ?_))
    by_cases c : f < to
    case neg =>
      have c' : ¬ (f : Int) < (to : Int) := by omega
      simp only [f33_r2, go_sem, ↓reduceIte, Nat.reduceEqDiff, s1, s2, c', decide_false]
      refine WS_of_cond ?_
      simp only [go_sem, ↓reduceIte, Bool.false_eq_true]
      refine WS_of_exit ?_
      simp only [go_sem, ↓reduceIte]
      refine WS_of_seq (WS_of_ops ?_)
      simp only [f33_r23, go_sem, ↓reduceIte, Nat.reduceEqDiff, s10, s1]
      refine WS_of_ret ?_
      simp only [f33_a, go_sem, ↓reduceIte, Nat.reduceEqDiff]
      exact stop (jnext_end (by omega)) (Keep.refl _ _)
    have c' : (f : Int) < (to : Int) := by omega
    simp only [f33_r2, go_sem, ↓reduceIte, Nat.reduceEqDiff, s1, s2, c', decide_true]
    refine WS_of_cond ?_
    simp only [go_sem, ↓reduceIte]
    refine WS_of_skip ?_
    simp only [go_sem]
    have hfl := hsl f c
    have hi0 : 0 < (sc f).length := by omega
    obtain ⟨p, ep1, lp1⟩ := Strs.at (ss.keep k2 sl) (i := f) (by omega) .i64
    rw [hget f (by omega)] at lp1
    have t1 : sliceTA (some (.int .i64 1)) none (.str (sc f)) = some (.str ((sc f).drop 1)) := sliceT_from (k := 1) (by omega) .i64
    have ef : afill [AV.str [], .int .i64 0] [(0, 1, .str ((sc f).drop 1))] = some [.str ((sc f).drop 1), .int .i64 0] := rfl
    obtain ⟨h3, e3, b3, k3⟩ := box_put2 (z0 := .str []) (z1 := .int .i64 0) (a := .str ((sc f).drop 1)) (b := .int .i64 0) wf2 rfl rfl rfl
    have wf3 := k3.wf wf2
    refine WS_of_block (WS_of_seq (WS_of_ops ?_))
    simp only [f33_r3, go_sem, ↓reduceIte, Nat.reduceEqDiff, s0, s1, ep1, lp1, t1, ef, e3]
    have hd1 : ((sc f).drop 1).length = 63 := by rw [List.length_drop]; omega
    have la3 : loadA h3 true 2 (.ptr h2.n 0) = some (.agg [.str ((sc f).drop 1), .int .i64 0]) := b3.loadAgg rfl
    have t2 := rNum_len ((sc f).drop 1, 0)
    have t3 := rNum_len (rNum ((sc f).drop 1, 0)).2
    have t4 := rNum_len (rNum (rNum ((sc f).drop 1, 0)).2).2
    simp only at t2
    refine WS_of_seq (WS_of_ops ?_)
    simp only [f33_r4, go_sem, ↓reduceIte, Nat.reduceEqDiff, la3]
    refine (refRead_spec (s := ((sc f).drop 1, 0)) wf3 (by simp only; omega)).mono ?_
    rintro r h4 ⟨rfl, k4⟩
    have wf4 := k4.wf wf3
    have hdu : hd (sc f) = if (sc f).head? = some 1 then (((rNum ((sc f).drop 1, 0)).1, (rNum (rNum ((sc f).drop 1, 0)).2).1, (rNum (rNum (rNum ((sc f).drop 1, 0)).2).2).1), decide ((rNum (rNum (rNum ((sc f).drop 1, 0)).2).2).2.2 = 0)) else ((0, 0, 0), false) := rfl
    have x1b := rNum_big ((sc f).drop 1, 0)
    have x2b := rNum_big (rNum ((sc f).drop 1, 0)).2
    have x3b := rNum_big (rNum (rNum ((sc f).drop 1, 0)).2).2
    generalize hA : rNum ((sc f).drop 1, 0) = A at *
    obtain ⟨h5, e5, b5, k5⟩ := box_put2 (z0 := .str []) (z1 := .int .i64 0) (a := .str A.2.1) (b := .int .i64 (A.2.2 : Int)) wf4 rfl rfl rfl
    have wf5 := k5.wf wf4
    simp only [go_sem, ↓reduceIte, Nat.reduceEqDiff, List.getElem?_cons_zero, List.getElem?_cons_succ, rsA, e5]
    have la5 : loadA h5 true 2 (.ptr h4.n 0) = some (.agg [.str A.2.1, .int .i64 (A.2.2 : Int)]) := b5.loadAgg rfl
    refine WS_of_seq (WS_of_ops ?_)
    simp only [f33_r5, go_sem, ↓reduceIte, Nat.reduceEqDiff, la5]
    refine (refRead_spec (s := A.2) wf5 (by omega)).mono ?_
    rintro r h6 ⟨rfl, k6⟩
    have wf6 := k6.wf wf5
    generalize hB : rNum A.2 = B at *
    obtain ⟨h7, e7, b7, k7⟩ := box_put2 (z0 := .str []) (z1 := .int .i64 0) (a := .str B.2.1) (b := .int .i64 (B.2.2 : Int)) wf6 rfl rfl rfl
    have wf7 := k7.wf wf6
    simp only [go_sem, ↓reduceIte, Nat.reduceEqDiff, List.getElem?_cons_zero, List.getElem?_cons_succ, rsA, e7]
    have la7 : loadA h7 true 2 (.ptr h6.n 0) = some (.agg [.str B.2.1, .int .i64 (B.2.2 : Int)]) := b7.loadAgg rfl
    refine WS_of_seq (WS_of_ops ?_)
    simp only [f33_r6, go_sem, ↓reduceIte, Nat.reduceEqDiff, la7]
    refine (refRead_spec (s := B.2) wf7 (by omega)).mono ?_
    rintro r h8 ⟨rfl, k8⟩
    have wf8 := k8.wf wf7
    generalize hC : rNum B.2 = C at *
    obtain ⟨h9, e9, b9, k9⟩ := box_put2 (z0 := .str []) (z1 := .int .i64 0) (a := .str C.2.1) (b := .int .i64 (C.2.2 : Int)) wf8 rfl rfl rfl
    have wf9 := k9.wf wf8
    simp only [go_sem, ↓reduceIte, Nat.reduceEqDiff, List.getElem?_cons_zero, List.getElem?_cons_succ, rsA, e9]
    have k29 : Keep (Old h2.n) h2 h9 := (((((k3.then (Nat.le_refl _) k4).then (Nat.le_refl _) k5).then (Nat.le_refl _) k6).then (Nat.le_refl _) k7).then (Nat.le_refl _) k8).then (Nat.le_refl _) k9
    have k09 : Keep (Old h.n) h h9 := k2.then (Nat.le_refl _) k29
    have lE : loadA h9 false 1 (.ptr h8.n 1) = some (.int .i64 (C.2.2 : Int)) := by rw [b9.load]; rfl
    obtain ⟨p9, ep9, lp9⟩ := Strs.at (ss.keep k09 sl) (i := f) (by omega) .i64
    rw [hget f (by omega)] at lp9
    have slv := ow.slot wf2
    have st9 := st.keep k29 slv
    have ow9 := ow.keep slv k29
    have hvl : lenSA v = some K.length := st9.len
    have hb0 : (sc f)[0]? = some ((sc f)[0]'hi0) := List.getElem?_eq_getElem hi0
    have hh0 : (sc f).head? = some ((sc f)[0]'hi0) := by rw [← hb0]; cases sc f <;> rfl
    have ix : indexStrA (.str (sc f)) (.int .i64 0) = some (.int .u8 (((sc f)[0]'hi0).toNat : Int)) := indexStr_at (i := 0) hi0 .i64
    have hwk : IntKind.u64.wrap (K.length : Int) = (K.length : Int) := wrap_u64 (by omega) (by omega)
    have hjn : jnext sc f to ep K.length = if f < to ∧ (hd (sc f)).2 = true ∧ (hd (sc f)).1.1 = ep ∧ (hd (sc f)).1.2.1 = K.length ∧ (hd (sc f)).1.2.2 ≤ 4096 ∧ jsize (hd (sc f)).1.2.2 ≤ to - f ∧ partsOk sc f (jsize (hd (sc f)).1.2.2 - 1) = true then
      some ((partsCat sc f (jsize (hd (sc f)).1.2.2 - 1)).take (hd (sc f)).1.2.2) else none := rfl
    refine WS_of_seq (WS_of_seq (WS_of_ops ?_))
    by_cases d1 : (sc f)[0]'hi0 = 1
    case neg =>
      have d1' : ¬ (((sc f)[0]'hi0).toNat : Int) = 1 := fun e => d1 (by
        apply UInt8.toNat_inj.1
        show ((sc f)[0]'hi0).toNat = 1
        omega)
      have hn : jnext sc f to ep K.length = none := jnext_none (hd_zero (by rw [hh0]; simpa using d1))
      simp only [f33_r7, go_sem, ↓reduceIte, Nat.reduceEqDiff, s0, s1, ep9, lp9, ix, d1', decide_false, Bool.not_false, Bool.true_eq_false]
      refine WS_of_cond ?_
      simp only [go_sem, ↓reduceIte]
      refine WS_of_seq (WS_of_ops ?_)
      simp only [f33_r8, go_sem, ↓reduceIte, Nat.reduceEqDiff, s10, s1]
      refine WS_of_ret ?_
      simp only [f33_a, go_sem, ↓reduceIte, Nat.reduceEqDiff]
      exact stop hn k29
    have d1' : (((sc f)[0]'hi0).toNat : Int) = 1 := by rw [d1]; rfl
    rw [hh0, d1, if_pos rfl] at hdu
    rw [hdu] at hjn
    simp only at hjn
    by_cases d2 : C.2.2 = 0
    case neg =>
      have d2' : ¬ (C.2.2 : Int) = 0 := by omega
      have hn : jnext sc f to ep K.length = none := by rw [hjn, if_neg]; rintro ⟨_, h, _⟩; exact d2 (of_decide_eq_true h)
      simp only [f33_r7, go_sem, ↓reduceIte, Nat.reduceEqDiff, s0, s1, ep9, lp9, ix, d1', d2', decide_true, decide_false, Bool.not_false, Bool.not_true, Bool.true_eq_false, Bool.false_eq_true, Nat.zero_add, lE]
      refine WS_of_cond ?_
      simp only [go_sem, ↓reduceIte]
      refine WS_of_seq (WS_of_ops ?_)
      simp only [f33_r8, go_sem, ↓reduceIte, Nat.reduceEqDiff, s10, s1]
      refine WS_of_ret ?_
      simp only [f33_a, go_sem, ↓reduceIte, Nat.reduceEqDiff]
      exact stop hn k29
    have d2' : (C.2.2 : Int) = 0 := by omega
    by_cases d3 : A.1 = ep
    case neg =>
      have d3' : ¬ (A.1 : Int) = (ep : Int) := by omega
      have hn : jnext sc f to ep K.length = none := by rw [hjn, if_neg]; rintro ⟨_, _, h, _⟩; exact d3 h
      simp only [f33_r7, go_sem, ↓reduceIte, Nat.reduceEqDiff, s0, s1, s3, ep9, lp9, ix, d1', d2', d3', decide_true, decide_false, Bool.not_false, Bool.not_true, Bool.true_eq_false, Bool.false_eq_true, Nat.zero_add, lE]
      refine WS_of_cond ?_
      simp only [go_sem, ↓reduceIte]
      refine WS_of_seq (WS_of_ops ?_)
      simp only [f33_r8, go_sem, ↓reduceIte, Nat.reduceEqDiff, s10, s1]
      refine WS_of_ret ?_
      simp only [f33_a, go_sem, ↓reduceIte, Nat.reduceEqDiff]
      exact stop hn k29
    have d3' : decide ((A.1 : Int) = (ep : Int)) = true := decide_eq_true (by omega)
    by_cases d4 : B.1 = K.length
    case neg =>
      have d4' : ¬ (B.1 : Int) = (K.length : Int) := by omega
      have hn : jnext sc f to ep K.length = none := by rw [hjn, if_neg]; rintro ⟨_, _, _, h, _⟩; exact d4 h
      simp only [f33_r7, go_sem, ↓reduceIte, Nat.reduceEqDiff, s0, s1, s3, s10, hvl, hwk, ep9, lp9, ix, d1', d2', d3', d4', decide_true, decide_false, Bool.not_false, Bool.not_true, Bool.true_eq_false, Bool.false_eq_true, Nat.zero_add, lE]
      refine WS_of_cond ?_
      simp only [go_sem, ↓reduceIte]
      refine WS_of_seq (WS_of_ops ?_)
      simp only [f33_r8, go_sem, ↓reduceIte, Nat.reduceEqDiff, s10, s1]
      refine WS_of_ret ?_
      simp only [f33_a, go_sem, ↓reduceIte, Nat.reduceEqDiff]
      exact stop hn k29
    have d4' : decide ((B.1 : Int) = (K.length : Int)) = true := decide_eq_true (by omega)
    by_cases d5 : C.1 ≤ 4096
    case neg =>
      have d5' : (4096 : Int) < (C.1 : Int) := by omega
      have hn : jnext sc f to ep K.length = none := by rw [hjn, if_neg]; rintro ⟨_, _, _, _, h, _⟩; exact d5 h
      simp only [f33_r7, go_sem, ↓reduceIte, Nat.reduceEqDiff, s0, s1, s3, s10, hvl, hwk, ep9, lp9, ix, d1', d2', d3', d4', d5', decide_true, decide_false, Bool.not_false, Bool.not_true, Bool.true_eq_false, Bool.false_eq_true, Nat.zero_add, lE]
      refine WS_of_cond ?_
      simp only [go_sem, ↓reduceIte]
      refine WS_of_seq (WS_of_ops ?_)
      simp only [f33_r8, go_sem, ↓reduceIte, Nat.reduceEqDiff, s10, s1]
      refine WS_of_ret ?_
      simp only [f33_a, go_sem, ↓reduceIte, Nat.reduceEqDiff]
      exact stop hn k29
    have d5' : ¬ (4096 : Int) < (C.1 : Int) := by omega
    simp only [f33_r7, go_sem, ↓reduceIte, Nat.reduceEqDiff, s0, s1, s3, s10, hvl, hwk, ep9, lp9, ix, d1', d2', d3', d4', d5', decide_true, decide_false, Bool.not_false, Bool.not_true, Bool.true_eq_false, Bool.false_eq_true, Nat.zero_add, lE]
    refine WS_of_cond ?_
    simp only [go_sem, ↓reduceIte, Bool.false_eq_true]
    refine WS_of_skip ?_
    simp only [go_sem]
    have hw9 : IntKind.i64.wrap (C.1 : Int) = (C.1 : Int) := wrap_i64 (by omega) (by omega)
    have hjs : 1 ≤ jsize C.1 ∧ jsize C.1 ≤ 70 ∧ C.1 ≤ 63 * (jsize C.1 - 1) := by unfold jsize; omega
    refine WS_of_seq (WS_of_ops ?_)
    simp only [f33_r9, go_sem, ↓reduceIte, Nat.reduceEqDiff, hw9]
    refine (rsize_spec (n := C.1) (by omega)).mono ?_
    rintro r h10 ⟨hh, rfl⟩
    have hh' := hh.symm
    subst hh'
    simp only [go_sem, ↓reduceIte, Nat.reduceEqDiff]
    have hw10 : IntKind.i64.wrap ((f : Int) + (jsize C.1 : Int)) = ((f + jsize C.1 : Nat) : Int) := by rw [wrap_i64 (by omega) (by omega)]; omega
    refine WS_of_seq (WS_of_seq (WS_of_ops ?_))
    by_cases d6 : jsize C.1 ≤ to - f
    case neg =>
      have d6' : (to : Int) < ((f + jsize C.1 : Nat) : Int) := by omega
      have hn : jnext sc f to ep K.length = none := by rw [hjn, if_neg]; rintro ⟨_, _, _, _, _, h, _⟩; exact d6 h
      simp only [f33_r10, go_sem, ↓reduceIte, Nat.reduceEqDiff, s1, s2, hw10, d6', decide_true]
      refine WS_of_cond ?_
      simp only [go_sem, ↓reduceIte]
      refine WS_of_seq (WS_of_ops ?_)
      simp only [f33_r11, go_sem, ↓reduceIte, Nat.reduceEqDiff, s10, s1]
      refine WS_of_ret ?_
      simp only [f33_a, go_sem, ↓reduceIte, Nat.reduceEqDiff]
      exact stop hn k29
    have d6' : ¬ (to : Int) < ((f + jsize C.1 : Nat) : Int) := by omega
    simp only [f33_r10, go_sem, ↓reduceIte, Nat.reduceEqDiff, s1, s2, hw10, d6', decide_false]
    refine WS_of_cond ?_
    simp only [go_sem, ↓reduceIte, Bool.false_eq_true]
    refine WS_of_skip ?_
    simp only [go_sem]
    refine WS_of_seq (WS_of_ops ?_)
    simp only [f33_r12, go_sem, ↓reduceIte, Nat.reduceEqDiff]
    refine WS_of_seq (WS_of_seq (WS_of_ops ?_))
    simp only [f33_r13, go_sem, ↓reduceIte, Nat.reduceEqDiff]
    refine WS_of_block (WS_of_loop (fun m s h' => ∃ i t, i + m = jsize C.1 ∧ 1 ≤ i ∧ s 0 = sv ∧ s 1 = .int .i64 (f : Int) ∧ s 2 = .int .i64 (to : Int) ∧ s 3 = .int .u64 (ep : Int) ∧ s 10 = v ∧ s 16 = .int .u64 (C.1 : Int) ∧ s 18 = .int .i64 (jsize C.1 : Int) ∧ s 19 = .str t ∧ s 20 = .int .i64 (i : Int) ∧ h' = h9 ∧
      t = partsCat sc f (i - 1) ∧ partsOk sc f (i - 1) = true) ?_ (jsize C.1 - 1) ?_)
    · clear s0 s1 s2 s3 s10
      rintro m s h' ⟨i, t, him, hi1, s0, s1, s2, s3, s10, s16, s18, s19, s20, rfl, ht, hok⟩
      show WS E0 f33_l19 [] _ _ _
      have htl : t.length = 63 * (i - 1) := by rw [ht]; exact partsCat_len fun q hq => hsl _ (by omega)
      refine WS_of_seq (WS_of_seq (WS_of_ops ?_))
      by_cases ci : i < jsize C.1
      · have ci' : (i : Int) < (jsize C.1 : Int) := by omega
        simp only [f33_r14, go_sem, ↓reduceIte, Nat.reduceEqDiff, s20, s18, ci', decide_true]
        refine WS_of_cond ?_
        simp only [go_sem, ↓reduceIte]
        refine WS_of_skip ?_
        simp only [go_sem]
        have hwf : IntKind.i64.wrap ((f : Int) + (i : Int)) = ((f + i : Nat) : Int) := by rw [wrap_i64 (by omega) (by omega)]; omega
        obtain ⟨pi, epi, lpi⟩ := Strs.at (ss.keep k09 sl) (i := f + i) (by omega) .i64
        rw [hget (f + i) (by omega)] at lpi
        have hli := hsl (f + i) (by omega)
        have hip : 0 < (sc (f + i)).length := by omega
        have ixi : indexStrA (.str (sc (f + i))) (.int .i64 0) = some (.int .u8 (((sc (f + i))[0]'hip).toNat : Int)) := indexStr_at (i := 0) hip .i64
        have hbi : (sc (f + i))[0]? = some ((sc (f + i))[0]'hip) := List.getElem?_eq_getElem hip
        have hhi : (sc (f + i)).head? = some ((sc (f + i))[0]'hip) := by rw [← hbi]; cases sc (f + i) <;> rfl
        have hsci : sc (f + i) = sc (f + (i - 1 + 1)) := by rw [show i - 1 + 1 = i by omega]
        have hoks := partsOk_succ sc f (i - 1)
        have hcat := partsCat_succ sc f (i - 1)
        rw [← hsci, hok, Bool.true_and, hhi] at hoks
        rw [← hsci] at hcat
        refine WS_of_seq (WS_of_block (WS_of_seq (WS_of_seq (WS_of_ops ?_))))
        by_cases cb : (sc (f + i))[0]'hip = 0
        · have cb' : (((sc (f + i))[0]'hip).toNat : Int) = 0 := by rw [cb]; rfl
          rw [cb] at hoks
          simp only [f33_r15, go_sem, ↓reduceIte, Nat.reduceEqDiff, s0, s1, s20, hwf, epi, lpi, ixi, cb', decide_true, Bool.not_true]
          refine WS_of_cond ?_
          simp only [go_sem, ↓reduceIte, Bool.false_eq_true]
          refine WS_of_skip ?_
          simp only [go_sem]
          have ti : sliceTA (some (.int .i64 1)) none (.str (sc (f + i))) = some (.str ((sc (f + i)).drop 1)) := sliceT_from (k := 1) (by omega) .i64
          have hdi : ((sc (f + i)).drop 1).length = 63 := by rw [List.length_drop]; omega
          refine WS_of_ops ?_
          simp only [f33_r17, go_sem, ↓reduceIte, Nat.reduceEqDiff, s0, s1, s19, s20, hwf, epi, lpi, ti]
          refine ⟨by rw [bigv]; omega, ?_⟩
          refine WS_of_ops ?_
          have hwi : IntKind.i64.wrap ((i : Int) + 1) = ((i + 1 : Nat) : Int) := by rw [wrap_i64 (by omega) (by omega)]; omega
          simp only [f33_r18, go_sem, ↓reduceIte, Nat.reduceEqDiff, s20, hwi]
          refine ⟨m - 1, by omega, i + 1, _, by omega, by omega, s0, s1, s2, s3, s10, s16, s18, rfl, rfl, trivial, ?_, ?_⟩
          · rw [show i + 1 - 1 = i - 1 + 1 by omega, hcat, ht]
          · rw [show i + 1 - 1 = i - 1 + 1 by omega, hoks]; rfl
        · have cb' : ¬ (((sc (f + i))[0]'hip).toNat : Int) = 0 := fun e => cb (by
            apply UInt8.toNat_inj.1
            show ((sc (f + i))[0]'hip).toNat = 0
            omega)
          have hno : partsOk sc f (jsize C.1 - 1) = false := partsOk_mono (m := i - 1 + 1) (by rw [hoks]; simpa using cb) (by omega)
          have hn : jnext sc f to ep K.length = none := by rw [hjn, if_neg]; rintro ⟨_, _, _, _, _, _, h⟩; rw [hno] at h; exact absurd h (by simp)
          simp only [f33_r15, go_sem, ↓reduceIte, Nat.reduceEqDiff, s0, s1, s20, hwf, epi, lpi, ixi, cb', decide_false, Bool.not_false]
          refine WS_of_cond ?_
          simp only [go_sem, ↓reduceIte]
          refine WS_of_seq (WS_of_ops ?_)
          simp only [f33_r16, go_sem, ↓reduceIte, Nat.reduceEqDiff, s10, s1]
          refine WS_of_ret ?_
          simp only [f33_a, go_sem, ↓reduceIte, Nat.reduceEqDiff]
          exact stop hn k29
      · have ci' : ¬ (i : Int) < (jsize C.1 : Int) := by omega
        obtain rfl : i = jsize C.1 := by omega
        simp only [f33_r14, go_sem, ↓reduceIte, Nat.reduceEqDiff, s20, s18, ci', decide_false]
        refine WS_of_cond ?_
        simp only [go_sem, ↓reduceIte, Bool.false_eq_true]
        refine WS_of_exit ?_
        simp only [go_sem, ↓reduceIte]
        have hn : jnext sc f to ep K.length = some (t.take C.1) := by
          rw [hjn, if_pos ⟨c, decide_eq_true d2, d3, d4, d5, d6, hok⟩, ht]
        rw [hn] at hj
        simp only at hj
        have tt : sliceTA none (some (.int .u64 (C.1 : Int))) (.str t) = some (.str (t.take C.1)) := sliceT_to (by omega) .u64
        have ef2 : afill (zeros [AV.str []] (1 * 1)) [(0, 1, AV.str (t.take C.1))] = some [.str (t.take C.1)] := rfl
        obtain ⟨v10, h10, e10, st10, ow10, k10⟩ := strs_more wf9 k09.n st9 ow9 (by omega) (t.take C.1)
        have htk : (t.take C.1).length = C.1 := by rw [List.length_take]; omega
        refine WS_of_seq (WS_of_ops ?_)
        simp only [f33_r20, go_sem, ↓reduceIte, Nat.reduceEqDiff, s10, s19, s16, tt, ef2, e10]
        refine WS_of_ops ?_
        simp only [f33_r21, go_sem, ↓reduceIte, Nat.reduceEqDiff, s1, s18, hw10]
        refine ⟨to - (f + jsize C.1), by omega, f + jsize C.1, K ++ [t.take C.1], v10, rfl, s0, rfl, s2, s3, rfl, st10, ow10, k09.trans k10, by omega, by simp; omega, ?_⟩
        rw [← hj, htk]
        exact jrun_fuel hsl _ _ _ _ (by omega) (by omega)
    · exact ⟨1, [], by omega, Nat.le_refl _, s0, s1, s2, s3, s10, rfl, rfl, rfl, rfl, rfl, rfl, rfl⟩
  · exact ⟨fr, [], .nils, rfl, rfl, rfl, rfl, rfl, rfl, Strs.nil _, Own.nils _ _, Keep.refl _ _, hft, by simp, rfl⟩
end Go.Proofs.Ytmfbememiffkjaa.Ev.C

/- A journal over its disk and two slices of texts beside it, in memory. -/
namespace Go.Proofs.Ytmfbememiffkjaa.Ev.C
open Go Go.Proofs.Ytmfbememiffkjaa.Ev
set_option linter.unusedSimpArgs false
set_option linter.unusedVariables false
structure J3 (N : Nat) (E1 E2 F : List Nat) (h : H) (ol o fr to ep : Nat) (K : List Sec) (D : Dk) (gv : AV) (L : List Sec) (wv : AV) (W : List Sec) : Prop where
  j : JSt N (E1 ++ E2) F h ol o fr to ep K D
  g : Want N E1 h gv L
  w : Want N E2 h wv W
  d1 : ∀ g ∈ E1, g ∉ F
  d2 : ∀ g ∈ E2, g ∉ F
  d3 : ∀ g ∈ E1, g ∉ E2
theorem Want.of_own {N M : Nat} {h : H} {v : AV} {L : List Sec} (st : Strs h v L) (ow : Own M h v) (hM : N ≤ M) (hL : L ≠ []) : ∃ E, Want N E h v L ∧ ∀ g ∈ E, M ≤ g := by
  rcases ow.grp with rfl | ⟨g, hg, gg⟩
  · have := st.1
    simp only [lenSA] at this
    cases L with
    | nil => exact absurd rfl hL
    | cons a b => simp at this
  · exact ⟨[g], ⟨st, .inr ⟨g, gg, by omega, rfl⟩⟩, by simpa using hg⟩
theorem JSt.empty {N : Nat} {E E' F : List Nat} {h : H} {ol o fr to ep : Nat} {D : Dk} (j : JSt N E F h ol o fr to ep [] D) : JSt N E' F h ol o fr to ep [] D := by
  obtain ⟨gl, gs, rv, us, e, l, d, r, hd, hg⟩ := j
  have hu : us.length = 0 := by rw [r.1]; rfl
  exact ⟨gl, gs, rv, us, e, l, d, ⟨hu, fun i u hi => by have := (List.getElem?_eq_some_iff.1 hi).1; omega⟩, hd, hg⟩
theorem Want.put {N : Nat} {E : List Nat} {h : H} {v : AV} {L : List Sec} (w : Want N E h v L) (wf : h.Wf) {i : Nat} (hi : i < L.length) (x : Sec) :
    ∃ p h', indexAddrA 1 v (.int .i64 (i : Int)) = some p ∧ storeA h 1 p (.str x) = some h' ∧ Want N E h' v (L.set i x) ∧ KeepA E h h' := by
  rcases w with ⟨ws, ⟨rfl, rfl, rfl⟩ | ⟨g, gg, hg, rfl⟩⟩
  · simp at hi
  · obtain ⟨p, e, f⟩ := gg.put wf ws (i := i) hi (by decide) .i64 (new := [.str x]) rfl rfl
    obtain ⟨h', e', s', g', k'⟩ := f (.str x) rfl
    refine ⟨p, h', e, e', ⟨?_, .inr ⟨g, g', hg, rfl⟩⟩, k'⟩
    have hs : splice (strCells L) (i * 1) [.str x] = strCells (L.set i x) := by
      rw [Nat.mul_one]
      unfold splice strCells
      rw [List.map_set, List.set_eq_take_append_cons_drop, List.length_map, if_pos hi]
      simp
    rw [hs] at s'
    show Sl h' 1 v (L.set i x).length _
    rw [List.length_set]
    exact s'
theorem J3.keep {N : Nat} {E1 E2 F : List Nat} {h h' : H} {ol o fr to ep : Nat} {K L W : List Sec} {D : Dk} {gv wv : AV} (a : J3 N E1 E2 F h ol o fr to ep K D gv L wv W) (wf : h.Wf) (k : Keep (Old h.n) h h') : J3 N E1 E2 F h' ol o fr to ep K D gv L wv W :=
  ⟨a.j.keep wf k, a.g.keep wf k, a.w.keep wf k, a.d1, a.d2, a.d3⟩
theorem J3.all {N : Nat} {E1 E2 F : List Nat} {h : H} {ol o fr to ep : Nat} {K L W : List Sec} {D : Dk} {gv wv : AV} (a : J3 N E1 E2 F h ol o fr to ep K D gv L wv W) (wf : h.Wf) : ∀ g ∈ F ++ (E1 ++ E2), g < h.n ∧ Root g h := fun g hg => by
  rcases List.mem_append.1 hg with x | x
  · exact ⟨a.j.ltF wf g x, a.j.rootF g x⟩
  · rcases List.mem_append.1 x with x | x
    · exact ⟨a.g.lt wf g x, a.g.root g x⟩
    · exact ⟨a.w.lt wf g x, a.w.root g x⟩
theorem J3.append {N : Nat} {E1 E2 F : List Nat} {h : H} {ol o fr to ep : Nat} {K L W : List Sec} {D : Dk} {gv wv bv : AV} {b : Sec} (wf : h.Wf) (a : J3 N E1 E2 F h ol o fr to ep K D gv L wv W) (hN : N ≤ h.n) (bb : Bytes h bv b) (sb : Slot (Old N) h bv)
    (hft : fr ≤ to) (hto : to ≤ 900000) (hK : K.length < 900000) (hwl : D.waits.length < 900000) (hb : b.length < 1000000) (hep : ep < 18446744073709551616) {D' : Dk} {e : Nat} (hj : jappend D fr to ep K.length b = (D', e)) :
    WCall E0 39 [.ptr ol 0, bv] h fun r h' => ∃ F', r = .val (.int .i64 (e : Int)) ∧ J3 N E1 E2 F' h' ol o (if e = 0 then fr + jsize b.length else fr) to ep (if e = 0 then K ++ [b] else K) D' gv L wv W ∧ KeepA F h h' ∧ Next F F' h := by
  have hall := a.all wf
  have hEF : ∀ g ∈ E1 ++ E2, g ∉ F := fun g hg => by
    rcases List.mem_append.1 hg with x | x
    · exact a.d1 g x
    · exact a.d2 g x
  refine (a.j.append wf (fun g hg => ⟨(hall g (List.mem_append_right _ hg)).2, hEF g hg⟩) hN bb sb hft hto hK hwl hb hep hj).mono ?_
  rintro r h' ⟨F', rfl, j', k', n'⟩
  have hd : ∀ g ∈ E1 ++ E2, g ∉ F' := fun g hg hm => by
    rcases n' g hm with y | y
    · exact hEF g hg y
    · have := (hall g (List.mem_append_right _ hg)).1; omega
  exact ⟨F', rfl, ⟨j', a.g.apart wf k' a.d1 a.j.rootF, a.w.apart wf k' a.d2 a.j.rootF, fun g hg => hd g (by simp [hg]), fun g hg => hd g (by simp [hg]), a.d3⟩, k', n'⟩
theorem J3.got {N : Nat} {E1 E2 F : List Nat} {h : H} {ol o fr to ep : Nat} {K L W : List Sec} {D : Dk} {gv wv : AV} (wf : h.Wf) (a : J3 N E1 E2 F h ol o fr to ep K D gv L wv W) (hN : N ≤ h.n) (hL : L.length < 1000000) (s : Sec) :
    ∃ v' h' E1', appendA (h.new [.str s]) 1 gv (.slice h.n 0 1 1) = some (v', h') ∧ J3 N E1' E2 F h' ol o fr to ep K D v' (L ++ [s]) wv W ∧ Keep (Old N) h h' := by
  have hall := a.all wf
  obtain ⟨v', h', E1', e, w', k', n'⟩ := a.g.app wf hN hL s
  have hn : ∀ g ∈ E1', ∀ X : List Nat, (∀ x ∈ E1, x ∉ X) → (∀ x ∈ X, x < h.n) → g ∉ X := fun g hg X h1 h2 hm => by
    rcases n' g hg with y | y
    · exact h1 g y hm
    · have := h2 g hm; omega
  refine ⟨v', h', E1', e, ⟨?_, w', a.w.apart wf k' (fun g x y => a.d3 g y x) a.g.root, fun g hg => hn g hg F a.d1 (a.j.ltF wf), a.d2, fun g hg => hn g hg E2 a.d3 (a.w.lt wf)⟩, k'.old wf hN a.g.ge⟩
  refine a.j.apart wf (k'.mono fun g hg => by simp [hg]) (fun g hg => ?_) (fun g hg => ?_) (fun g hg => (hall g (List.mem_append_right _ hg)).2)
  · rcases List.mem_append.1 hg with x | x
    · exact (n' g x).imp (fun y => by simp [y]) id
    · exact .inl (by simp [x])
  · rcases List.mem_append.1 hg with x | x
    · exact a.d1 g x
    · exact a.d2 g x
theorem J3.put {N : Nat} {E1 E2 F : List Nat} {h : H} {ol o fr to ep : Nat} {K L W : List Sec} {D : Dk} {gv wv : AV} (wf : h.Wf) (a : J3 N E1 E2 F h ol o fr to ep K D gv L wv W) {i : Nat} (hi : i < W.length) (x : Sec) :
    ∃ p h', indexAddrA 1 wv (.int .i64 (i : Int)) = some p ∧ storeA h 1 p (.str x) = some h' ∧ J3 N E1 E2 F h' ol o fr to ep K D gv L wv (W.set i x) ∧ KeepA E2 h h' := by
  have hall := a.all wf
  obtain ⟨p, h', e, e', w', k'⟩ := a.w.put wf hi x
  refine ⟨p, h', e, e', ⟨?_, a.g.apart wf k' a.d3 a.w.root, w', a.d1, a.d2, a.d3⟩, k'⟩
  refine a.j.apart wf (k'.mono fun g hg => by simp [hg]) (Next.refl _ _) (fun g hg => ?_) (fun g hg => (hall g (List.mem_append_right _ hg)).2)
  rcases List.mem_append.1 hg with x | x
  · exact a.d1 g x
  · exact a.d2 g x
end Go.Proofs.Ytmfbememiffkjaa.Ev.C

/- A record appended to a disk that stops at some call, and what is there behind it: plain laws. -/
namespace Go.Proofs.Ytmfbememiffkjaa.Ev.C
open Go Go.Proofs.Ytmfbememiffkjaa.Ev
set_option linter.unusedSimpArgs false
set_option linter.unusedVariables false
theorem counted_alive {D : Dk} (hd : D.dead = false) : D.counted = { D with armed := D.armed - 1, dead := decide (D.armed = 1) } := by
  unfold Dk.counted
  by_cases h : 0 < D.armed
  · rw [if_pos h]
  · rw [if_neg h]
    have h0 : D.armed = 0 := by omega
    cases D
    simp_all
theorem write_alive {D : Dk} (hd : D.dead = false) {i : Nat} {b : Sec} (hi : i < D.kept.length) (hb : b.length ≤ 64) :
    D.write (i : Int) b = if D.armed = 1 then ({ D with armed := 0, dead := true }, 20) else ({ D with armed := D.armed - 1, waits := D.waits ++ [(i, pad b)] }, 0) := by
  have hh : D.has (i : Int) = true := has_iff.2 ⟨i, rfl, hi⟩
  unfold Dk.write
  rw [if_neg (by rw [hh]; simp; omega), counted_alive hd]
  by_cases c : D.armed = 1
  · simp [c]
  · simp [c, hd, Int.toNat_natCast]
theorem flush_alive {D : Dk} (hd : D.dead = false) :
    D.flush = if D.armed = 1 then ({ D with armed := 0, dead := true }, 20) else ({ D with armed := D.armed - 1, kept := D.waits.foldl putS D.kept, waits := [] }, 0) := by
  unfold Dk.flush
  rw [counted_alive hd]
  by_cases c : D.armed = 1
  · simp [c]
  · simp [c, hd]
/-- a disk that lives, with nothing that waits -/
structure Alive (n : Nat) (D : Dk) : Prop where
  de : D.dead = false
  wa : D.waits = []
  kl : D.kept.length = n
theorem wrAll_alive : ∀ (W : List (Nat × Sec)) {D : Dk}, D.dead = false → (∀ w ∈ W, w.1 < D.kept.length ∧ w.2.length ≤ 64) →
    (∃ a, wrAll W D = ({ D with armed := a, waits := D.waits ++ W.map padW }, 0)) ∨ ∃ j, wrAll W D = ({ D with armed := 0, dead := true, waits := D.waits ++ (W.take j).map padW }, 20)
  | [], D, hd, _ => .inl ⟨D.armed, by simp [wrAll]⟩
  | w :: W, D, hd, h => by
    have e := write_alive hd (h w (by simp)).1 (h w (by simp)).2
    by_cases c : D.armed = 1
    · rw [if_pos c] at e
      exact .inr ⟨0, by rw [wrAll_bad _ (by rw [e]; simp), e]; simp⟩
    · rw [if_neg c] at e
      rw [wrAll_good _ (by rw [e]; simp), e]
      rcases wrAll_alive W (D := { D with armed := D.armed - 1, waits := D.waits ++ [(w.1, pad w.2)] }) hd (fun x hx => h x (by simp [hx])) with ⟨a, e'⟩ | ⟨j, e'⟩
      · exact .inl ⟨a, by rw [e']; simp [padW]⟩
      · exact .inr ⟨j + 1, by rw [e']; simp [padW]⟩
def partsW (fr : Nat) (b : Sec) : List (Nat × Sec) := (chunksW fr b).map padW
/-- what an append that stops leaves -/
def Stopped (D D' : Dk) (fr ep k : Nat) (b : Sec) : Prop := D'.dead = true ∧
  ((∃ j, D'.kept = D.kept ∧ D'.waits = (partsW fr b).take j) ∨ (D'.kept = (partsW fr b).foldl putS D.kept ∧ (D'.waits = [] ∨ D'.waits = [(fr, pad (headB ep k b.length))])))
theorem jappend_alive {n : Nat} {D : Dk} (al : Alive n D) {fr to ep k : Nat} {b : Sec} (hb : b.length ≤ 4096) (hj : fr + jsize b.length ≤ to) (hto : to ≤ n) (hep : ep < 18446744073709551616) (hk : k < 18446744073709551616) :
    (∃ D', jappend D fr to ep k b = (D', 0) ∧ Alive n D' ∧ D'.kept = (recW fr ep k b).foldl putS D.kept) ∨ ∃ D', jappend D fr to ep k b = (D', 20) ∧ Stopped D D' fr ep k b := by
  have hjn := nchunk_jsize b.length
  have hd := al.de
  have hkl := al.kl
  have hW : ∀ w ∈ chunksW fr b, w.1 < D.kept.length ∧ w.2.length ≤ 64 := fun w hw => by
    obtain ⟨j, hj, rfl⟩ := chunksW_mem hw
    have := chunk_len b j
    exact ⟨by show fr + 1 + j < _; omega, by simp only [List.length_cons]; omega⟩
  have hh := headB_len hep hk (n := b.length) (by omega)
  unfold jappend
  rw [if_neg (by omega), if_neg (by omega)]
  rcases wrAll_alive (chunksW fr b) hd hW with ⟨a, e⟩ | ⟨j, e⟩
  case inr =>
    rw [e, if_pos (by simp)]
    exact .inr ⟨_, rfl, rfl, .inl ⟨j, rfl, by simp [al.wa, partsW, List.map_take]⟩⟩
  rw [e, if_neg (by simp)]
  simp only [al.wa, List.nil_append]
  rw [flush_alive (D := { D with armed := a, waits := (chunksW fr b).map padW }) hd]
  by_cases c1 : a = 1
  · simp only [c1, if_true]
    refine .inr ⟨_, rfl, rfl, .inl ⟨(partsW fr b).length, rfl, ?_⟩⟩
    rw [List.take_length]; rfl
  simp only [c1, if_false, ne_eq, not_true_eq_false]
  rw [write_alive (D := { D with armed := a - 1, kept := ((chunksW fr b).map padW).foldl putS D.kept, waits := [] }) hd (by show fr < (((chunksW fr b).map padW).foldl putS D.kept).length; rw [foldl_putS_len]; omega) (by omega)]
  by_cases c2 : a - 1 = 1
  · simp only [c2, if_true]
    exact .inr ⟨_, rfl, rfl, .inr ⟨rfl, .inl rfl⟩⟩
  simp only [c2, if_false, not_true_eq_false, List.nil_append]
  rw [flush_alive (D := { D with armed := a - 1 - 1, kept := ((chunksW fr b).map padW).foldl putS D.kept, waits := [(fr, pad (headB ep k b.length))] }) hd]
  by_cases c3 : a - 1 - 1 = 1
  · simp only [c3, if_true]
    exact .inr ⟨_, rfl, rfl, .inr ⟨rfl, .inr rfl⟩⟩
  simp only [c3, if_false]
  refine .inl ⟨_, rfl, ⟨hd, rfl, ?_⟩, ?_⟩
  · show (List.foldl putS (((chunksW fr b).map padW).foldl putS D.kept) [(fr, pad (headB ep k b.length))]).length = n
    rw [foldl_putS_len, foldl_putS_len, hkl]
  · simp only [recW, List.foldl_append]
theorem Alive.find {n : Nat} {D D' : Dk} (al : Alive n D) (al' : Alive n D') {fr ep k : Nat} {b : Sec} (h : D'.kept = (recW fr ep k b).foldl putS D.kept) : ∀ i, i < n → findS D' i = if fr ≤ i ∧ i < fr + jsize b.length then recAt ep k b (i - fr) else findS D i := fun i hi => by
  rw [findS_no al'.wa, findS_no al.wa, h]
  exact recW_getD (by rw [al.kl]; exact hi)
theorem keepAll_or : ∀ {ws : List (Nat × Sec)} {bs : List Bool} {K : List Sec} {i : Nat}, i < K.length → (keepAll K ws bs).getD i [] = K.getD i [] ∨ ∃ w ∈ ws, w.1 = i ∧ (keepAll K ws bs).getD i [] = w.2
  | [], bs, K, i, _ => .inl (by cases bs <;> rfl)
  | w :: ws, [], K, i, _ => .inl rfl
  | w :: ws, b :: bs, K, i, hi => by
    cases b with
    | false =>
      have e : keepAll K (w :: ws) (false :: bs) = keepAll K ws bs := rfl
      rw [e]
      exact (keepAll_or hi).imp id fun ⟨x, h1, h2⟩ => ⟨x, by simp [h1], h2⟩
    | true =>
      have e : keepAll K (w :: ws) (true :: bs) = keepAll (putS K w) ws bs := rfl
      rw [e]
      rcases keepAll_or (ws := ws) (bs := bs) (K := putS K w) (i := i) (by rw [putS_len]; exact hi) with h | ⟨x, h1, h2⟩
      · rw [h]
        have hg : (putS K w).getD i [] = if w.1 = i then w.2 else K.getD i [] := putS_getD (x := w.2) (j := w.1) hi
        rw [hg]
        by_cases c : w.1 = i
        · rw [if_pos c]
          exact .inr ⟨w, by simp, c, rfl⟩
        · rw [if_neg c]
          exact .inl rfl
      · exact .inr ⟨x, by simp [h1], h2⟩
theorem partsW_eq (fr : Nat) (b : Sec) : partsW fr b = (List.range (nchunk b.length)).map fun j => (fr + 1 + j, pad (0 :: chunk b j)) := by
  simp [partsW, chunksW, padW, Function.comp_def]
/-- behind a stop and a restart: the record isn't there, or it is -/
theorem Stopped.restart {n : Nat} {D D' : Dk} (al : Alive n D) {fr ep k : Nat} {b : Sec} (st : Stopped D D' fr ep k b) (hn : fr + jsize b.length ≤ n) (keep : List Bool) :
    Calm n (D'.restart keep) ∧
    ((∀ i, i < n → findS (D'.restart keep) i = findS D i ∨ (fr < i ∧ i < fr + jsize b.length ∧ findS (D'.restart keep) i = recAt ep k b (i - fr))) ∨
      ∀ i, i < n → findS (D'.restart keep) i = if fr ≤ i ∧ i < fr + jsize b.length then recAt ep k b (i - fr) else findS D i) := by
  have hjn := nchunk_jsize b.length
  have hkl := al.kl
  have hr : ∀ i, findS (D'.restart keep) i = (keepAll D'.kept D'.waits keep).getD i [] := fun i => findS_no rfl i
  have hfo : ((partsW fr b).foldl putS D.kept).length = n := by rw [foldl_putS_len]; exact hkl
  have hpa : ∀ i, i < n → ((partsW fr b).foldl putS D.kept).getD i [] = if fr + 1 ≤ i ∧ i < fr + 1 + nchunk b.length then pad (0 :: chunk b (i - (fr + 1))) else D.kept.getD i [] := fun i hi => by
    rw [partsW_eq]
    exact foldl_chunks (f := fun j => pad (0 :: chunk b j)) (nchunk b.length) hkl i hi
  have hrec : ∀ i, fr + 1 ≤ i → pad (0 :: chunk b (i - (fr + 1))) = recAt ep k b (i - fr) := fun i hi => by
    unfold recAt
    rw [if_neg (by omega), show i - fr - 1 = i - (fr + 1) by omega]
  have keepL : ∀ {ws : List (Nat × Sec)} {bs : List Bool} {K : List Sec}, (keepAll K ws bs).length = K.length := by
    intro ws
    induction ws with
    | nil => intro bs K; cases bs <;> rfl
    | cons w ws ih =>
      intro bs K
      cases bs with
      | nil => rfl
      | cons x bs =>
        cases x with
        | false => exact ih (bs := bs) (K := K)
        | true =>
          have := ih (bs := bs) (K := putS K w)
          rw [putS_len] at this
          exact this
  obtain ⟨hde, hst⟩ := st
  have hk' : D'.kept.length = n := by
    rcases hst with ⟨j, e, _⟩ | ⟨e, _⟩
    · rw [e]; exact hkl
    · rw [e]; exact hfo
  refine ⟨⟨rfl, rfl, rfl, by show (keepAll _ _ _).length = n; rw [keepL, hk']⟩, ?_⟩
  rcases hst with ⟨j, e1, e2⟩ | ⟨e1, e2 | e2⟩
  · refine .inl fun i hi => ?_
    rw [hr, e1, e2, findS_no al.wa]
    rcases keepAll_or (ws := (partsW fr b).take j) (bs := keep) (K := D.kept) (i := i) (by omega) with h | ⟨w, hw, h1, h2⟩
    · exact .inl h
    · have hw := List.mem_of_mem_take hw
      rw [partsW_eq] at hw
      obtain ⟨q, hq, rfl⟩ := List.mem_map.1 hw
      have hq := List.mem_range.1 hq
      simp only at h1 h2
      subst h1
      refine .inr ⟨by omega, by omega, ?_⟩
      rw [h2, ← hrec (fr + 1 + q) (by omega), show fr + 1 + q - (fr + 1) = q by omega]
  · refine .inl fun i hi => ?_
    rw [hr, e1, e2, findS_no al.wa]
    have : keepAll ((partsW fr b).foldl putS D.kept) [] keep = (partsW fr b).foldl putS D.kept := by cases keep <;> rfl
    rw [this, hpa i hi]
    by_cases c : fr + 1 ≤ i ∧ i < fr + 1 + nchunk b.length
    · rw [if_pos c]
      exact .inr ⟨by omega, by omega, hrec i c.1⟩
    · rw [if_neg c]
      exact .inl rfl
  · have lost : keepAll ((partsW fr b).foldl putS D.kept) [(fr, pad (headB ep k b.length))] keep = (partsW fr b).foldl putS D.kept →
        ∀ i, i < n → findS (D'.restart keep) i = findS D i ∨ (fr < i ∧ i < fr + jsize b.length ∧ findS (D'.restart keep) i = recAt ep k b (i - fr)) := fun hk i hi => by
      rw [hr, e1, e2, findS_no al.wa, hk, hpa i hi]
      by_cases c : fr + 1 ≤ i ∧ i < fr + 1 + nchunk b.length
      · rw [if_pos c]
        exact .inr ⟨by omega, by omega, hrec i c.1⟩
      · rw [if_neg c]
        exact .inl rfl
    cases keep with
    | nil => exact .inl (lost rfl)
    | cons x bs =>
      cases x with
      | false => exact .inl (lost (by cases bs <;> rfl))
      | true =>
        refine .inr fun i hi => ?_
        have hk : keepAll ((partsW fr b).foldl putS D.kept) [(fr, pad (headB ep k b.length))] (true :: bs) = (recW fr ep k b).foldl putS D.kept := by
          have : keepAll ((partsW fr b).foldl putS D.kept) [(fr, pad (headB ep k b.length))] (true :: bs) = keepAll (putS ((partsW fr b).foldl putS D.kept) (fr, pad (headB ep k b.length))) [] bs := rfl
          rw [this]
          have h2 : ∀ K : List Sec, keepAll K [] bs = K := fun K => by cases bs <;> rfl
          rw [h2]
          simp [recW, partsW, List.foldl_append]
        rw [hr, e1, e2, hk, findS_no al.wa]
        exact recW_getD (by omega)
end Go.Proofs.Ytmfbememiffkjaa.Ev.C
