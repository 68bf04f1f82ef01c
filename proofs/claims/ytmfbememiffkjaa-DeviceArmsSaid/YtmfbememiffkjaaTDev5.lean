/- Flush and Restart, walked. -/
import Derived.Test.YtmfbememiffkjaaTDev4
namespace Go.Proofs.Ytmfbememiffkjaa.Ev.C
open Go Go.Proofs.Ytmfbememiffkjaa.Ev
set_option linter.unusedSimpArgs false
set_option linter.unusedVariables false
/-- the sectors are written -/
theorem DiskIs.putK {h h' : H} {o gk : Nat} {k wv : AV} {gs : List Nat} {D D' : Dk} (d : DiskIs h o gk k wv gs D) (wf : h.Wf) (kk : KeepA [gk] h h') (ks : Sl h' 64 k D'.kept.length (kcells D'.kept)) (kg : Grp gk h' k)
    (hw : D'.waits = D.waits) (ha : D'.armed = D.armed) (hd : D'.dead = D.dead) (ok : D'.Ok) : DiskIs h' o gk k wv gs D' := by
  obtain ⟨s1, s2, s3, m1, m2⟩ := d.away wf
  refine ⟨by rw [ha, hd]; exact d.box.keepA wf kk (by simp [Ne.symm d.ne]), ks, kg, by rw [hw]; exact d.ws.keep kk s3, d.ne, ?_, ok⟩
  rcases d.wg with ⟨rfl, e⟩ | ⟨gw, a1, a2, a3, e⟩
  · exact .inl ⟨rfl, e⟩
  · exact .inr ⟨gw, a1, a2, a3.keep s3 kk, e⟩
theorem waits_at {h : H} {wv : AV} {ws : List (Nat × Sec)} (s : Sl h 65 wv ws.length (wcells ws)) (h64 : ∀ w ∈ ws, w.2.length = 64) {j : Nat} (hj : j < ws.length) :
    ∃ p, indexAddrA 65 wv (.int .i64 (j : Int)) = some p ∧ loadA h true 65 p = some (.agg (wcell ws[j])) := by
  obtain ⟨p, e1, e2⟩ := s.atAgg hj (by decide) .i64
  refine ⟨p, e1, ?_⟩
  rw [e2, flat_at hj (fun x hx => wcell_len (h64 x hx))]
theorem foldl_take_succ {ws : List (Nat × Sec)} {k : List Sec} {j : Nat} (hj : j < ws.length) : (ws.take (j + 1)).foldl putS k = putS ((ws.take j).foldl putS k) ws[j] := by
  rw [List.take_succ_eq_append_getElem hj, List.foldl_append]
  rfl
theorem flush_spec {h : H} {o : Nat} {gs : List Nat} {D : Dk} (wf : h.Wf) (d : DiskAt h o gs D) (hwl : D.waits.length < 1000000) :
    WCall E0 19 [.ptr o 0] h fun r h' => ∃ gs', r = .val (.int .i64 (D.flush.2 : Int)) ∧ DiskAt h' o gs' D.flush.1 ∧ KeepA gs h h' ∧ ∀ g ∈ gs', g ∈ gs := by
  obtain ⟨gk, k, wv, d⟩ := d
  refine WCall_ws (ovn 19) U19 (by simp [f19_a]) ?_
  show WS E0 f19_c [] _ _ _
  refine WS_of_seq (WS_of_ops ?_)
  simp only [f19_r0, go_sem, ↓reduceIte]
  refine WS_of_seq (WS_of_block (WS_of_seq (WS_of_ops ?_)))
  simp only [f19_r1, go_sem, ↓reduceIte, Nat.reduceEqDiff]
  refine WS_of_cond ?_
  simp only [go_sem, ↓reduceIte, Bool.false_eq_true]
  refine WS_of_seq (WS_of_ops ?_)
  simp only [f19_r3, go_sem, ↓reduceIte, Nat.reduceEqDiff]
  refine (dies_spec wf d).mono ?_
  rintro r h1 ⟨rfl, d1, k1⟩
  have wf1 := k1.wf wf
  simp only [go_sem, ↓reduceIte, Nat.reduceEqDiff]
  refine WS_of_cond ?_
  cases hd : D.counted.dead with
  | true =>
    simp only [go_sem, ↓reduceIte, Nat.reduceEqDiff]
    refine WS_of_seq (WS_of_ops ?_)
    simp only [f19_r4, go_sem, ↓reduceIte, Nat.reduceEqDiff]
    refine WS_of_ret ?_
    simp only [f19_a, go_sem, ↓reduceIte]
    have : D.flush = (D.counted, 20) := by unfold Dk.flush; rw [if_pos hd]
    rw [this]
    exact ⟨gs, rfl, d1.at, k1, fun g hg => hg⟩
  | false =>
    simp only [go_sem, ↓reduceIte, Nat.reduceEqDiff, Bool.false_eq_true]
    refine WS_of_skip ?_
    simp only [go_sem]
    refine WS_of_seq (WS_of_seq (WS_of_ops ?_))
    simp only [f19_r5, go_sem, ↓reduceIte, Nat.reduceEqDiff, Nat.zero_add, d1.box.load, d1.ws.len]
    have hok1 := d1.ok
    have hwl1 : D.counted.waits.length < 1000000 := by rw [Dk.counted_waits]; exact hwl
    generalize hD1 : D.counted = D1 at d1 hd hok1 hwl1 ⊢
    have h64 : ∀ w ∈ D1.waits, w.2.length = 64 := fun w hw => (hok1.w w hw).2
    have hokj : ∀ j, ({ D1 with kept := (D1.waits.take j).foldl putS D1.kept } : Dk).Ok := by
      intro j
      obtain ⟨a, b⟩ := foldS_ok (ws := D1.waits.take j) hok1.k64 (fun w hw => h64 w (List.mem_of_mem_take hw))
      exact ⟨by simp only; rw [a]; exact hok1.n1, by simp only; rw [a]; exact hok1.n2, b, fun w hw => by simp only; rw [a]; exact hok1.w w hw, hok1.arm⟩
    refine WS_of_block (WS_of_loop (fun m s h2 => ∃ j, j + m = D1.waits.length ∧ s 16 = .int .i64 (j : Int) ∧ s 15 = .int .i64 (D1.waits.length : Int) ∧ s 14 = wv ∧ s 0 = .ptr o 0 ∧
      DiskIs h2 o gk k wv gs { D1 with kept := (D1.waits.take j).foldl putS D1.kept } ∧ KeepA gs h h2 ∧ h2.Wf) ?_ D1.waits.length ?_)
    · rintro m s h2 ⟨j, hjm, s16, s15, s14, s0, d2, k2, wf2⟩
      show WS E0 f19_l10 [] _ _ _
      refine WS_of_seq (WS_of_ops ?_)
      have bx := d2.box.load
      have bxg := d2.ws
      by_cases c : j < D1.waits.length
      · have c' : (j : Int) < (D1.waits.length : Int) := by omega
        simp only [f19_r6, go_sem, ↓reduceIte, Nat.reduceEqDiff, s16, s15, c', decide_true]
        refine WS_of_seq (WS_of_cond ?_)
        simp only [go_sem, ↓reduceIte]
        refine WS_of_skip ?_
        simp only [go_sem]
        refine WS_of_seq (WS_of_block (WS_of_seq (WS_of_ops ?_)))
        obtain ⟨p, e1, e2⟩ := waits_at d2.ws h64 c
        have hwc := wcell_len (h64 _ (List.getElem_mem c))
        have kn : Keep (Old h2.n) h2 (h2.new (.int .i64 0 :: ([.int .u8 0, .int .u8 0, .int .u8 0, .int .u8 0, .int .u8 0, .int .u8 0, .int .u8 0, .int .u8 0, .int .u8 0, .int .u8 0, .int .u8 0, .int .u8 0, .int .u8 0, .int .u8 0, .int .u8 0, .int .u8 0, .int .u8 0, .int .u8 0, .int .u8 0, .int .u8 0, .int .u8 0, .int .u8 0, .int .u8 0, .int .u8 0, .int .u8 0, .int .u8 0, .int .u8 0, .int .u8 0, .int .u8 0, .int .u8 0, .int .u8 0, .int .u8 0, .int .u8 0, .int .u8 0, .int .u8 0, .int .u8 0, .int .u8 0, .int .u8 0, .int .u8 0, .int .u8 0, .int .u8 0, .int .u8 0, .int .u8 0, .int .u8 0, .int .u8 0, .int .u8 0, .int .u8 0, .int .u8 0, .int .u8 0, .int .u8 0, .int .u8 0, .int .u8 0, .int .u8 0, .int .u8 0, .int .u8 0, .int .u8 0, .int .u8 0, .int .u8 0, .int .u8 0, .int .u8 0, .int .u8 0, .int .u8 0, .int .u8 0, .int .u8 0] : List AV))) := Keep.new (Nat.le_refl _) _
        have bn : Box h2.n (.int .i64 0 :: ([.int .u8 0, .int .u8 0, .int .u8 0, .int .u8 0, .int .u8 0, .int .u8 0, .int .u8 0, .int .u8 0, .int .u8 0, .int .u8 0, .int .u8 0, .int .u8 0, .int .u8 0, .int .u8 0, .int .u8 0, .int .u8 0, .int .u8 0, .int .u8 0, .int .u8 0, .int .u8 0, .int .u8 0, .int .u8 0, .int .u8 0, .int .u8 0, .int .u8 0, .int .u8 0, .int .u8 0, .int .u8 0, .int .u8 0, .int .u8 0, .int .u8 0, .int .u8 0, .int .u8 0, .int .u8 0, .int .u8 0, .int .u8 0, .int .u8 0, .int .u8 0, .int .u8 0, .int .u8 0, .int .u8 0, .int .u8 0, .int .u8 0, .int .u8 0, .int .u8 0, .int .u8 0, .int .u8 0, .int .u8 0, .int .u8 0, .int .u8 0, .int .u8 0, .int .u8 0, .int .u8 0, .int .u8 0, .int .u8 0, .int .u8 0, .int .u8 0, .int .u8 0, .int .u8 0, .int .u8 0, .int .u8 0, .int .u8 0, .int .u8 0, .int .u8 0] : List AV)) (h2.new (.int .i64 0 :: ([.int .u8 0, .int .u8 0, .int .u8 0, .int .u8 0, .int .u8 0, .int .u8 0, .int .u8 0, .int .u8 0, .int .u8 0, .int .u8 0, .int .u8 0, .int .u8 0, .int .u8 0, .int .u8 0, .int .u8 0, .int .u8 0, .int .u8 0, .int .u8 0, .int .u8 0, .int .u8 0, .int .u8 0, .int .u8 0, .int .u8 0, .int .u8 0, .int .u8 0, .int .u8 0, .int .u8 0, .int .u8 0, .int .u8 0, .int .u8 0, .int .u8 0, .int .u8 0, .int .u8 0, .int .u8 0, .int .u8 0, .int .u8 0, .int .u8 0, .int .u8 0, .int .u8 0, .int .u8 0, .int .u8 0, .int .u8 0, .int .u8 0, .int .u8 0, .int .u8 0, .int .u8 0, .int .u8 0, .int .u8 0, .int .u8 0, .int .u8 0, .int .u8 0, .int .u8 0, .int .u8 0, .int .u8 0, .int .u8 0, .int .u8 0, .int .u8 0, .int .u8 0, .int .u8 0, .int .u8 0, .int .u8 0, .int .u8 0, .int .u8 0, .int .u8 0] : List AV))) := Box.new wf2 _
        obtain ⟨h3, e3, b3, k3⟩ := bn.putAll (n := 65) (vs := wcell D1.waits[j]) (kn.wf wf2) hwc (wcell_one _) (by simp)
        simp only [f19_r7, go_sem, ↓reduceIte, Nat.reduceEqDiff, s16, s14, e1, e2, e3]
        have wfn := kn.wf wf2
        generalize h2.new (.int .i64 0 :: ([.int .u8 0, .int .u8 0, .int .u8 0, .int .u8 0, .int .u8 0, .int .u8 0, .int .u8 0, .int .u8 0, .int .u8 0, .int .u8 0, .int .u8 0, .int .u8 0, .int .u8 0, .int .u8 0, .int .u8 0, .int .u8 0, .int .u8 0, .int .u8 0, .int .u8 0, .int .u8 0, .int .u8 0, .int .u8 0, .int .u8 0, .int .u8 0, .int .u8 0, .int .u8 0, .int .u8 0, .int .u8 0, .int .u8 0, .int .u8 0, .int .u8 0, .int .u8 0, .int .u8 0, .int .u8 0, .int .u8 0, .int .u8 0, .int .u8 0, .int .u8 0, .int .u8 0, .int .u8 0, .int .u8 0, .int .u8 0, .int .u8 0, .int .u8 0, .int .u8 0, .int .u8 0, .int .u8 0, .int .u8 0, .int .u8 0, .int .u8 0, .int .u8 0, .int .u8 0, .int .u8 0, .int .u8 0, .int .u8 0, .int .u8 0, .int .u8 0, .int .u8 0, .int .u8 0, .int .u8 0, .int .u8 0, .int .u8 0, .int .u8 0, .int .u8 0] : List AV)) = hn at kn bn e3 k3 wfn
        have k23 : Keep (Old h2.n) h2 h3 := kn.trans (k3.newbox wfn kn.n (Nat.le_refl _))
        have d3 := d2.keep wf2 k23
        have wf3 := k23.wf wf2
        have l3 : loadA h3 true 65 (.ptr h2.n 0) = some (.agg (wcell D1.waits[j])) := b3.loadAgg hwc
        refine WS_of_ops ?_
        simp only [f19_r8, go_sem, ↓reduceIte, Nat.reduceEqDiff, s0, l3]
        have hj := hokj j
        refine (keep_spec wf3 d3.box d3.ks d3.kg hj.k64 (hj.w _ (List.getElem_mem c)).1 (h64 _ (List.getElem_mem c))).mono ?_
        rintro r h4 ⟨rfl, s4, g4, k4⟩
        simp only [go_sem, ↓reduceIte]
        refine WS_of_ops ?_
        have hw : IntKind.i64.wrap ((j : Int) + 1) = ((j + 1 : Nat) : Int) := by rw [wrap_i64 (by omega) (by omega)]; omega
        simp only [f19_r9, go_sem, ↓reduceIte, Nat.reduceEqDiff, s16, hw]
        have hfs := foldl_take_succ (k := D1.kept) c
        refine ⟨m - 1, by omega, j + 1, by omega, rfl, s15, s14, s0, ?_, ?_, k4.wf wf3⟩
        · refine d3.putK (D' := { D1 with kept := (D1.waits.take (j + 1)).foldl putS D1.kept }) wf3 k4 ?_ g4 rfl rfl rfl (hokj (j + 1))
          simp only
          rw [hfs]
          exact s4
        · have x1 := k2.then wf (KeepA.of (gs := gs) k23) (fun g hg => .inl hg)
          exact x1.then wf k4 (fun g hg => by simp only [List.mem_cons, List.not_mem_nil, or_false] at hg; subst hg; exact .inl (d2.away wf2).2.2.2.2)
      · have c' : ¬ (j : Int) < (D1.waits.length : Int) := by omega
        simp only [f19_r6, go_sem, ↓reduceIte, Nat.reduceEqDiff, s16, s15, c', decide_false]
        refine WS_of_seq (WS_of_cond ?_)
        simp only [go_sem, ↓reduceIte, Bool.false_eq_true]
        refine WS_of_exit ?_
        simp only [go_sem, ↓reduceIte]
        obtain ⟨h3, e3, b3, k3⟩ := d2.box.put (i := 1) (n := 1) (v := .nils) wf2 rfl rfl (by simp)
        refine WS_of_seq (WS_of_ops ?_)
        simp only [f19_r11, go_sem, ↓reduceIte, Nat.reduceEqDiff, s0, Nat.zero_add, e3]
        refine WS_of_seq (WS_of_ops ?_)
        simp only [f19_r12, go_sem, ↓reduceIte, Nat.reduceEqDiff]
        refine WS_of_ret ?_
        simp only [f19_a, go_sem, ↓reduceIte]
        have hj : j = D1.waits.length := by omega
        subst hj
        rw [List.take_length] at d2
        have hfl : D.flush = ({ D1 with kept := D1.waits.foldl putS D1.kept, waits := [] }, 0) := by
          unfold Dk.flush; rw [hD1, if_neg (by rw [hd]; simp)]
        have hok := d.ok.flush
        rw [hfl] at hok ⊢
        obtain ⟨q1, q2, q3, m1, m2⟩ := d2.away wf2
        refine ⟨[o, gk], rfl, ⟨gk, k, .nils, b3, d2.ks.keep k3 q1, d2.kg.keep q1 k3, Sl.nil _ _, d2.ne, .inl ⟨rfl, rfl⟩, hok⟩, ?_, ?_⟩
        · exact k2.then wf k3 (fun g hg => by simp only [List.mem_cons, List.not_mem_nil, or_false] at hg; subst hg; exact .inl m1)
        · intro g hg
          simp only [List.mem_cons, List.not_mem_nil, or_false] at hg
          rcases hg with rfl | rfl
          · exact m1
          · exact m2
    · exact ⟨0, by omega, rfl, rfl, rfl, rfl, d1, k1, wf1⟩
end Go.Proofs.Ytmfbememiffkjaa.Ev.C
