/- The reference of the law 03, walked: a restart. -/
import Derived.Test.YtmfbememiffkjaaTRef4
namespace Go.Proofs.Ytmfbememiffkjaa.Ev.C
open Go Go.Proofs.Ytmfbememiffkjaa.Ev
set_option linter.unusedSimpArgs false
set_option linter.unusedVariables false
theorem keepAll_step {K : List Sec} {ws : List (Nat × Sec)} {bs : List Bool} {j : Nat} (h1 : j < ws.length) (h2 : j < bs.length) : keepAll K (ws.drop j) (bs.drop j) = keepAll (if bs[j] then putS K ws[j] else K) (ws.drop (j + 1)) (bs.drop (j + 1)) := by
  rw [List.drop_eq_getElem_cons h1, List.drop_eq_getElem_cons h2]
  rfl
theorem keepAll_end {K : List Sec} {ws : List (Nat × Sec)} {bs : List Bool} {j : Nat} (h : ws.length ≤ j ∨ bs.length ≤ j) : keepAll K (ws.drop j) (bs.drop j) = K := by
  rcases h with h | h
  · rw [List.drop_eq_nil_of_le h]; cases bs.drop j <;> rfl
  · rw [List.drop_eq_nil_of_le h]; exact keepAll_nil K _
theorem rrestart_spec {h : H} {kv wv : AV} {D : Dk} {bv : AV} {bs : List Bool} (wf : h.Wf) (r : RefIs h kv wv D) (bb : Bools h bv bs) (sb : Slot (Old h.n) h bv) (hw : D.waits.length < 1000000) (hkl : D.kept.length < 1000000) :
    WCall E0 25 [.agg (dcells kv wv D), bv] h fun r h' => ∃ cs', r = .val (.agg cs') ∧ RefTo h h' kv wv cs' (D.restart bs) ∧ Keep (Old h.n) h h' := by
  refine WCall_ws (ovn 25) U25 (by simp [f25_a]) ?_
  show WS E0 f25_c [] _ _ _
  refine WS_of_seq (WS_of_ops ?_)
  have k1 : Keep (Old h.n) h (h.new (dcells kv wv D)) := Keep.new (Nat.le_refl _) _
  have b1 : Box h.n (dcells kv wv D) (h.new (dcells kv wv D)) := Box.new wf _
  have n1 : (h.new (dcells kv wv D)).n = h.n + 1 := rfl
  simp only [f25_r0, go_sem, ↓reduceIte, Nat.reduceEqDiff, agg_cells]
  generalize h.new (dcells kv wv D) = h1 at k1 b1 n1 ⊢
  have wf1 := k1.wf wf
  have k2 : Keep (Old h1.n) h1 (h1.new [.nils, .nils, .int .i64 0, .bool false]) := Keep.new (Nat.le_refl _) _
  have b2 : Box h1.n [.nils, .nils, .int .i64 0, .bool false] (h1.new [.nils, .nils, .int .i64 0, .bool false]) := Box.new wf1 _
  have n2 : (h1.new [.nils, .nils, .int .i64 0, .bool false]).n = h1.n + 1 := rfl
  generalize h1.new [.nils, .nils, .int .i64 0, .bool false] = h2 at k2 b2 n2 ⊢
  have wf2 := k2.wf wf1
  have b12 := b1.keep k2 (b1.lt wf1)
  have k02 : Keep (Old h.n) h h2 := k1.trans (k2.weaken fun q hq => by have : q < h.n := hq; show q < _; omega)
  have k3 : Keep (Old h2.n) h2 (h2.new [.nils, .nils, .int .i64 0, .bool false]) := Keep.new (Nat.le_refl _) _
  have b3 : Box h2.n [.nils, .nils, .int .i64 0, .bool false] (h2.new [.nils, .nils, .int .i64 0, .bool false]) := Box.new wf2 _
  have hone := r.one
  have ef : afill [AV.nils, .nils, .int .i64 0, .bool false] [(0, 1, kv)] = some [kv, .nils, .int .i64 0, .bool false] := by
    simp only [afill, hone.1.1]
    rfl
  have hall : ([kv, .nils, .int .i64 0, .bool false] : List AV).all AV.one = true := by simp only [List.all_cons, hone.1.2, List.all_nil]; rfl
  obtain ⟨h4, e4, b4, k4⟩ := b3.putAll (n := 4) (vs := [kv, .nils, .int .i64 0, .bool false]) (k3.wf wf2) rfl hall rfl
  have wf3 := k3.wf wf2
  have n3 : (h2.new [.nils, .nils, .int .i64 0, .bool false]).n = h2.n + 1 := rfl
  refine WS_of_seq (WS_of_ops ?_)
  simp only [f25_r1, go_sem, ↓reduceIte, Nat.reduceEqDiff, Nat.zero_add, b12.load, List.getElem?_cons_zero, ef, e4]
  generalize h2.new [.nils, .nils, .int .i64 0, .bool false] = h3 at k3 b3 e4 b4 k4 wf3 n3
  have wf4 := k4.wf wf3
  have b14 := (b12.keep k3 (b12.lt wf2)).keepA wf3 k4 (by simp; omega)
  have b24 := (b2.keep k3 (b2.lt wf2)).keepA wf3 k4 (by simp; omega)
  have k04 : Keep (Old h.n) h h4 := (k02.trans (k3.weaken fun q hq => by have : q < h.n := hq; have := k02.n; show q < _; omega)).trans (k4.newbox wf3 (by have := k02.n; have := k3.n; omega) (by have := k02.n; omega))
  have n4 := k4.n
  refine WS_of_seq (WS_of_seq (WS_of_ops ?_))
  simp only [f25_r2, go_sem, ↓reduceIte, Nat.reduceEqDiff]
  refine WS_of_block (WS_of_loop (fun m s h5 => ∃ j K kvj, j + m = D.waits.length ∧ s 6 = .int .i64 (j : Int) ∧ s 1 = bv ∧ s 2 = .ptr h.n 0 ∧ s 4 = .ptr h1.n 0 ∧ s 5 = .ptr h2.n 0 ∧ Box h2.n [kvj, .nils, .int .i64 0, .bool false] h5 ∧ Strs h5 kvj K ∧ Slot (Apart [h1.n, h2.n] h5) h5 kvj ∧ (kvj = kv ∨ Own h.n h5 kvj) ∧
    Box h.n (dcells kv wv D) h5 ∧ (∃ x, Box h1.n x h5 ∧ x.length = 4) ∧ Keep (Old h.n) h h5 ∧ h2.n + 1 ≤ h5.n ∧ K.length = D.kept.length ∧ keepAll K (D.waits.drop j) (bs.drop j) = keepAll D.kept D.waits bs) ?_ D.waits.length ?_)
  · rintro m s h5 ⟨j, K, kvj, hjm, s6, s1, s2, s4, s5, bk, sk, ak, fk, bd, ⟨x, bx, hx⟩, k, hle, hKl, hka⟩
    show WS E0 f25_l7 [] _ _ _
    have wf5 := k.wf wf
    have r5 := r.keep k
    have bb5 : Bools h5 bv bs := bb.keep k sb
    -- the end
    have ends : K = keepAll D.kept D.waits bs → ∀ {s : S}, s 4 = .ptr h1.n 0 → s 5 = .ptr h2.n 0 → WS E0 (.seq (.ops f25_r8) .ret) [] (atEnd f25_a.results fun r h' => ∃ cs', r = .val (.agg cs') ∧ RefTo h h' kv wv cs' (D.restart bs) ∧ Keep (Old h.n) h h') s h5 := by
      intro hK s s4 s5
      have hv := one_of_len sk.len
      have hall : ([kvj, .nils, .int .i64 0, .bool false] : List AV).all AV.one = true := by simp only [List.all_cons, hv.1, List.all_nil]; rfl
      obtain ⟨h6, e6, b6, k6⟩ := bx.putAll (n := 4) (vs := [kvj, .nils, .int .i64 0, .bool false]) wf5 rfl hall hx.symm
      have ak' := apart_less (gs' := [h1.n]) ak (by simp)
      refine WS_of_seq (WS_of_ops ?_)
      simp only [f25_r8, go_sem, ↓reduceIte, Nat.reduceEqDiff, s4, s5, bk.loadAgg (n := 4) rfl, e6]
      refine WS_of_ret ?_
      simp only [f25_a, go_sem, ↓reduceIte, Nat.reduceEqDiff, s4, b6.loadAgg (n := 4) rfl]
      refine ⟨_, rfl, ⟨kvj, .nils, rfl, ⟨?_, (ak'.keepA k6).old, Sl.nil _ _, trivial, r.ok.restart bs, fun x => by cases x⟩, fk.imp id (fun o => o.keep ak' k6), .inr trivial⟩, k.trans (k6.newbox wf5 k.n (by omega))⟩
      show Strs h6 kvj (keepAll D.kept D.waits bs)
      rw [← hK]
      exact sk.keep k6 ak'
    refine WS_of_seq (WS_of_seq (WS_of_ops ?_))
    by_cases c : j < D.waits.length
    · have c' : (j : Int) < (D.waits.length : Int) := by omega
      by_cases c2 : j < bs.length
      · have c2' : (j : Int) < (bs.length : Int) := by omega
        simp only [f25_r3, go_sem, ↓reduceIte, Nat.reduceEqDiff, Nat.zero_add, bd.load, List.getElem?_cons_zero, List.getElem?_cons_succ, s6, s1, s2, r5.ws.len, bb5.len, c', c2', decide_true]
        refine WS_of_cond ?_
        simp only [go_sem, ↓reduceIte]
        refine WS_of_skip ?_
        simp only [go_sem]
        obtain ⟨p, ep, lp⟩ := Bools.at bb5 c2 .i64
        have hst := keepAll_step (K := K) c c2
        rw [hka] at hst
        have hwj : IntKind.i64.wrap ((j : Int) + 1) = ((j + 1 : Nat) : Int) := by rw [wrap_i64 (by omega) (by omega)]; omega
        refine WS_of_seq (WS_of_block (WS_of_seq (WS_of_ops ?_)))
        simp only [f25_r4, go_sem, ↓reduceIte, Nat.reduceEqDiff, s1, s6, ep, lp]
        refine WS_of_cond ?_
        cases hb : bs[j] with
        | false =>
          rw [hb] at hst
          simp only [go_sem, ↓reduceIte, Bool.false_eq_true]
          refine WS_of_skip ?_
          simp only [go_sem]
          refine WS_of_ops ?_
          simp only [f25_r6, go_sem, ↓reduceIte, Nat.reduceEqDiff, s6, hwj]
          exact ⟨m - 1, by omega, j + 1, K, kvj, by omega, rfl, s1, s2, s4, s5, bk, sk, ak, fk, bd, ⟨x, bx, hx⟩, k, hle, hKl, hst.symm⟩
        | true =>
          rw [hb] at hst
          simp only [go_sem, ↓reduceIte]
          obtain ⟨o, q, ea, ld⟩ := waits_get r5.ws c
          obtain ⟨l1, -, -⟩ := ld _ r5.ws
          refine WS_of_draw ?_
          simp only [f25_r5, go_sem, ↓reduceIte, Nat.reduceEqDiff, and_self, true_and, List.filter_cons, List.filter_nil, Nat.testBit, Nat.reduceShiftRight, Nat.reduceAnd, Nat.reduceBNe, Bool.not_false, Bool.not_true, Bool.false_eq_true, bne_self_eq_false, eq_self, Nat.zero_add, bk.load, bd.load, List.getElem?_cons_zero, List.getElem?_cons_succ, s6, s2, s5, ea, l1]
          refine (rput_spec wf5 sk ak.old (by rw [hKl]; exact hkl)).mono ?_
          rintro rr h6 ⟨v6, rfl, sk6, o6, k6⟩
          have wf6 := k6.wf wf5
          have k06 : Keep (Old h.n) h h6 := k.trans (k6.weaken fun q hq => Nat.lt_of_lt_of_le hq k.n)
          have bk6 := bk.keep k6 (bk.lt wf5)
          have bx6 := bx.keep k6 (bx.lt wf5)
          have bd6 := bd.keep k6 (bd.lt wf5)
          have hv6 := one_of_len sk6.len
          obtain ⟨h7, e7, b7, k7⟩ := bk6.put wf6 (i := 0) (n := 1) (v := v6) (by rw [hv6.2]; rfl) (by rw [hv6.2]; simp [hv6.1]) (by simp)
          have hs7 : splice [kvj, .nils, .int .i64 0, .bool false] 0 v6.cells = [v6, .nils, .int .i64 0, .bool false] := by rw [hv6.2]; rfl
          rw [hs7] at b7
          obtain ⟨l1', -, -⟩ := ld _ (r.keep k06).ws
          have a6 : Slot (Apart [h1.n, h2.n] h6) h6 v6 := o6.away wf6 fun g hg => by
            simp only [List.mem_cons, List.not_mem_nil, or_false] at hg
            rcases hg with rfl | rfl
            · exact ⟨by omega, bx6.root⟩
            · exact ⟨by omega, bk6.root⟩
          have a6' := apart_less (gs' := [h2.n]) a6 (by simp)
          have bx7 := bx6.keepA wf6 k7 (by simp; omega)
          have bd7 := bd6.keepA wf6 k7 (by simp; omega)
          have wf7 := k7.wf wf6
          simp only [go_sem, ↓reduceIte, Nat.reduceEqDiff, and_self, true_and, List.filter_cons, List.filter_nil, Nat.testBit, Nat.reduceShiftRight, Nat.reduceAnd, Nat.reduceBNe, Bool.not_false, Bool.not_true, Bool.false_eq_true, bne_self_eq_false, eq_self, Nat.zero_add, bk.load, bd.load, bk6.load, bd6.load, List.getElem?_cons_zero, List.getElem?_cons_succ, s6, s2, s5, ea, l1, l1', e7]
          refine WS_of_ops ?_
          simp only [f25_r6, go_sem, ↓reduceIte, Nat.reduceEqDiff, s6, hwj]
          have o7 := o6.keep a6' k7
          have k07 : Keep (Old h.n) h h7 := k06.trans (k7.newbox wf6 k06.n (by omega))
          refine ⟨m - 1, by omega, j + 1, putS K D.waits[j], v6, by omega, rfl, s1, s2, s4, s5, b7, sk6.keep k7 a6', ?_, .inr (o7.less k.n), bd7, ⟨x, bx7, hx⟩, k07, by have := k6.n; have := k7.n; omega, by rw [putS_len]; exact hKl, hst.symm⟩
          exact o7.away wf7 fun g hg => by
            simp only [List.mem_cons, List.not_mem_nil, or_false] at hg
            rcases hg with rfl | rfl
            · exact ⟨by omega, bx7.root⟩
            · exact ⟨by omega, b7.root⟩
      · have c2' : ¬ (j : Int) < (bs.length : Int) := by omega
        simp only [f25_r3, go_sem, ↓reduceIte, Nat.reduceEqDiff, Nat.zero_add, bd.load, List.getElem?_cons_zero, List.getElem?_cons_succ, s6, s1, s2, r5.ws.len, bb5.len, c', c2', decide_true, decide_false]
        refine WS_of_cond ?_
        simp only [go_sem, ↓reduceIte, Bool.false_eq_true]
        refine WS_of_exit ?_
        simp only [go_sem, ↓reduceIte]
        rw [keepAll_end (.inr (by omega))] at hka
        refine ends hka ?_ ?_
        · exact s4
        · exact s5
    · have c' : ¬ (j : Int) < (D.waits.length : Int) := by omega
      simp only [f25_r3, go_sem, ↓reduceIte, Nat.reduceEqDiff, Nat.zero_add, bd.load, List.getElem?_cons_zero, List.getElem?_cons_succ, s6, s1, s2, r5.ws.len, c', decide_false, Bool.false_eq_true]
      refine WS_of_cond ?_
      simp only [go_sem, ↓reduceIte, Bool.false_eq_true]
      refine WS_of_exit ?_
      simp only [go_sem, ↓reduceIte]
      rw [keepAll_end (.inl (by omega))] at hka
      refine ends hka ?_ ?_
      · exact s4
      · exact s5
  · have sa : Slot (Apart [h1.n, h2.n] h4) h4 kv := (r.sk.keep k04 fun q hq => hq).apart wf4 k04.n (by simp; omega)
    exact ⟨0, D.kept, kv, by omega, rfl, rfl, rfl, rfl, rfl, b4, (r.keep k04).ks, sa, .inl rfl, b14, ⟨_, b24, rfl⟩, k04, by omega, rfl, rfl⟩
end Go.Proofs.Ytmfbememiffkjaa.Ev.C
