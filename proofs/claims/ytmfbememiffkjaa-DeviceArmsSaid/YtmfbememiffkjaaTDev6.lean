/- Restart, walked. -/
import Derived.Test.YtmfbememiffkjaaTDev5
namespace Go.Proofs.Ytmfbememiffkjaa.Ev.C
open Go Go.Proofs.Ytmfbememiffkjaa.Ev
set_option linter.unusedSimpArgs false
set_option linter.unusedVariables false
abbrev Bools (h : H) (v : AV) (l : List Bool) : Prop := Sl h 1 v l.length (l.map AV.bool)
theorem Bools.at {h : H} {v : AV} {l : List Bool} (b : Bools h v l) {i : Nat} (hi : i < l.length) (k : IntKind) : ∃ p, indexAddrA 1 v (.int k (i : Int)) = some p ∧ loadA h false 1 p = some (.bool l[i]) := by
  obtain ⟨p, e1, e2⟩ := Sl.at b hi k
  refine ⟨p, e1, ?_⟩
  rw [e2]; simp [hi]
theorem kcells_one (l : List Sec) : (kcells l).all AV.one = true := by
  rw [List.all_eq_true]
  intro x hx
  obtain ⟨s, _, hs⟩ := List.mem_flatMap.1 hx
  exact List.all_eq_true.1 (byteCells_one s) x hs
theorem keepAll_drop_nil {k : List Sec} {ws : List (Nat × Sec)} : keepAll k ws [] = k := by cases ws <;> rfl
def RI (h : H) (D : Dk) (bs : List Bool) (wv kv k2 : AV) (o2 g2 : Nat) : Nat → S → H → Prop := fun m s h3 => ∃ j K, j + m = D.waits.length ∧ s 22 = .int .i64 (j : Int) ∧ s 21 = .int .i64 (D.waits.length : Int) ∧ s 20 = wv ∧ s 1 = kv ∧ s 5 = .ptr o2 0 ∧
      DiskIs h3 o2 g2 k2 .nils [o2, g2] ⟨K, [], 0, false⟩ ∧ K.length = D.kept.length ∧ keepAll K (D.waits.drop j) (bs.drop j) = keepAll D.kept D.waits bs ∧ Keep (Old h.n) h h3
theorem restart_spec {h : H} {o : Nat} {gs : List Nat} {D : Dk} (wf : h.Wf) (d : DiskAt h o gs D) {kv : AV} {bs : List Bool} (b : Bools h kv bs) (sl : Slot (Old h.n) h kv) (hwl : D.waits.length < 1000000) (hbl : bs.length < 9223372036854775808) :
    WCall E0 24 [.ptr o 0, kv] h fun r h' => ∃ o' gs', r = .val (.ptr o' 0) ∧ DiskAt h' o' gs' (D.restart bs) ∧ Keep (Old h.n) h h' ∧ ∀ g ∈ gs', h.n ≤ g := by
  have dat := d
  obtain ⟨gk, k, wv, d⟩ := d
  refine WCall_ws (ovn 24) U24 (by simp [f24_a]) ?_
  show WS E0 f24_c [] _ _ _
  refine WS_of_seq (WS_of_ops ?_)
  simp only [f24_r0, go_sem, ↓reduceIte]
  refine WS_of_seq (WS_of_seq (WS_of_ops ?_))
  simp only [f24_r1, go_sem, ↓reduceIte, Nat.reduceEqDiff]
  refine WS_of_cond ?_
  simp only [go_sem, ↓reduceIte, Bool.false_eq_true]
  refine WS_of_skip ?_
  simp only [go_sem]
  refine WS_of_seq (WS_of_ops ?_)
  simp only [f24_r3, go_sem, ↓reduceIte, Nat.reduceEqDiff, Nat.zero_add, d.box.load]
  have hok := d.ok
  have h64 : ∀ w ∈ D.waits, w.2.length = 64 := fun w hw => (hok.w w hw).2
  refine (clones_spec wf d.ks (kcells_one _) (d.sk wf) hok.n1 (by have := hok.n2; omega)).mono ?_
  rintro r h1 ⟨k2, g2, rfl, ks2, kg2, hg2, k1⟩
  have wf1 := k1.wf wf
  have hk1 := one_of_len ks2.len
  have ef : afill [.nils, .nils, .int .i64 0, .bool false] [(0, 1, k2)] = some [k2, .nils, .int .i64 0, .bool false] := by
    simp only [afill]
    rw [if_pos ⟨by rw [hk1.2]; rfl, by decide⟩, hk1.2]
    rfl
  simp only [go_sem, ↓reduceIte, Nat.reduceEqDiff, ef]
  have hc4 : (AV.agg [k2, .nils, .int .i64 0, .bool false]).cells = [k2, .nils, .int .i64 0, .bool false] := rfl
  rw [hc4]
  have kn : Keep (Old h1.n) h1 (h1.new [k2, .nils, .int .i64 0, .bool false]) := Keep.new (Nat.le_refl _) _
  have bn : Box h1.n [k2, .nils, .int .i64 0, .bool false] (h1.new [k2, .nils, .int .i64 0, .bool false]) := Box.new wf1 _
  have hlt2 := kg2.lt wf1
  generalize h1.new [k2, .nils, .int .i64 0, .bool false] = h2 at kn bn ⊢
  have wf2 := kn.wf wf1
  have k12 : Keep (Old h.n) h h2 := k1.trans (kn.less k1.n)
  have d2 := d.keep wf k12
  have sl1 := (kg2.own wf1 (Nat.zero_le _)).slot wf1
  have n2 : DiskIs h2 h1.n g2 k2 .nils [h1.n, g2] ⟨D.kept, [], 0, false⟩ := ⟨bn, ks2.keep kn sl1, kg2.keep sl1 kn, Sl.nil _ _, by omega, .inl ⟨rfl, rfl⟩, ⟨hok.n1, hok.n2, hok.k64, fun w hw => by simp at hw, by simp⟩⟩
  have b2 := b.keep k12 sl
  have hb1 := k1.n
  generalize ho2 : h1.n = o2 at n2 hb1 ⊢
  refine WS_of_seq (WS_of_seq (WS_of_ops ?_))
  simp only [f24_r4, go_sem, ↓reduceIte, Nat.reduceEqDiff, Nat.zero_add, d2.box.load, d2.ws.len]
  refine WS_of_block (WS_of_loop (RI h D bs wv kv k2 o2 g2) ?_ D.waits.length ?_)
  · rintro m s h3 ⟨j, K, hjm, s22, s21, s20, s1, s5, n3, hK, hka, k3⟩
    have wf3 := k3.wf wf
    have d3 := d.keep wf k3
    have b3 := b.keep k3 sl
    show WS E0 f24_l10 [] _ _ _
    refine WS_of_seq (WS_of_ops ?_)
    by_cases c : j < D.waits.length
    · have c' : (j : Int) < (D.waits.length : Int) := by omega
      simp only [f24_r5, go_sem, ↓reduceIte, Nat.reduceEqDiff, s22, s21, c', decide_true]
      refine WS_of_seq (WS_of_cond ?_)
      simp only [go_sem, ↓reduceIte]
      refine WS_of_skip ?_
      simp only [go_sem]
      refine WS_of_seq (WS_of_block (WS_of_seq (WS_of_ops ?_)))
      obtain ⟨p, e1, e2⟩ := waits_at d3.ws h64 c
      have hwc := wcell_len (h64 _ (List.getElem_mem c))
      have kn : Keep (Old h3.n) h3 (h3.new (.int .i64 0 :: ([.int .u8 0, .int .u8 0, .int .u8 0, .int .u8 0, .int .u8 0, .int .u8 0, .int .u8 0, .int .u8 0, .int .u8 0, .int .u8 0, .int .u8 0, .int .u8 0, .int .u8 0, .int .u8 0, .int .u8 0, .int .u8 0, .int .u8 0, .int .u8 0, .int .u8 0, .int .u8 0, .int .u8 0, .int .u8 0, .int .u8 0, .int .u8 0, .int .u8 0, .int .u8 0, .int .u8 0, .int .u8 0, .int .u8 0, .int .u8 0, .int .u8 0, .int .u8 0, .int .u8 0, .int .u8 0, .int .u8 0, .int .u8 0, .int .u8 0, .int .u8 0, .int .u8 0, .int .u8 0, .int .u8 0, .int .u8 0, .int .u8 0, .int .u8 0, .int .u8 0, .int .u8 0, .int .u8 0, .int .u8 0, .int .u8 0, .int .u8 0, .int .u8 0, .int .u8 0, .int .u8 0, .int .u8 0, .int .u8 0, .int .u8 0, .int .u8 0, .int .u8 0, .int .u8 0, .int .u8 0, .int .u8 0, .int .u8 0, .int .u8 0, .int .u8 0] : List AV))) := Keep.new (Nat.le_refl _) _
      have bn : Box h3.n (.int .i64 0 :: ([.int .u8 0, .int .u8 0, .int .u8 0, .int .u8 0, .int .u8 0, .int .u8 0, .int .u8 0, .int .u8 0, .int .u8 0, .int .u8 0, .int .u8 0, .int .u8 0, .int .u8 0, .int .u8 0, .int .u8 0, .int .u8 0, .int .u8 0, .int .u8 0, .int .u8 0, .int .u8 0, .int .u8 0, .int .u8 0, .int .u8 0, .int .u8 0, .int .u8 0, .int .u8 0, .int .u8 0, .int .u8 0, .int .u8 0, .int .u8 0, .int .u8 0, .int .u8 0, .int .u8 0, .int .u8 0, .int .u8 0, .int .u8 0, .int .u8 0, .int .u8 0, .int .u8 0, .int .u8 0, .int .u8 0, .int .u8 0, .int .u8 0, .int .u8 0, .int .u8 0, .int .u8 0, .int .u8 0, .int .u8 0, .int .u8 0, .int .u8 0, .int .u8 0, .int .u8 0, .int .u8 0, .int .u8 0, .int .u8 0, .int .u8 0, .int .u8 0, .int .u8 0, .int .u8 0, .int .u8 0, .int .u8 0, .int .u8 0, .int .u8 0, .int .u8 0] : List AV)) (h3.new (.int .i64 0 :: ([.int .u8 0, .int .u8 0, .int .u8 0, .int .u8 0, .int .u8 0, .int .u8 0, .int .u8 0, .int .u8 0, .int .u8 0, .int .u8 0, .int .u8 0, .int .u8 0, .int .u8 0, .int .u8 0, .int .u8 0, .int .u8 0, .int .u8 0, .int .u8 0, .int .u8 0, .int .u8 0, .int .u8 0, .int .u8 0, .int .u8 0, .int .u8 0, .int .u8 0, .int .u8 0, .int .u8 0, .int .u8 0, .int .u8 0, .int .u8 0, .int .u8 0, .int .u8 0, .int .u8 0, .int .u8 0, .int .u8 0, .int .u8 0, .int .u8 0, .int .u8 0, .int .u8 0, .int .u8 0, .int .u8 0, .int .u8 0, .int .u8 0, .int .u8 0, .int .u8 0, .int .u8 0, .int .u8 0, .int .u8 0, .int .u8 0, .int .u8 0, .int .u8 0, .int .u8 0, .int .u8 0, .int .u8 0, .int .u8 0, .int .u8 0, .int .u8 0, .int .u8 0, .int .u8 0, .int .u8 0, .int .u8 0, .int .u8 0, .int .u8 0, .int .u8 0] : List AV))) := Box.new wf3 _
      obtain ⟨h4, e4, b4, k4⟩ := bn.putAll (n := 65) (vs := wcell D.waits[j]) (kn.wf wf3) hwc (wcell_one _) (by simp)
      simp only [f24_r6, go_sem, ↓reduceIte, Nat.reduceEqDiff, s22, s20, e1, e2, e4]
      have wfn := kn.wf wf3
      generalize h3.new (.int .i64 0 :: ([.int .u8 0, .int .u8 0, .int .u8 0, .int .u8 0, .int .u8 0, .int .u8 0, .int .u8 0, .int .u8 0, .int .u8 0, .int .u8 0, .int .u8 0, .int .u8 0, .int .u8 0, .int .u8 0, .int .u8 0, .int .u8 0, .int .u8 0, .int .u8 0, .int .u8 0, .int .u8 0, .int .u8 0, .int .u8 0, .int .u8 0, .int .u8 0, .int .u8 0, .int .u8 0, .int .u8 0, .int .u8 0, .int .u8 0, .int .u8 0, .int .u8 0, .int .u8 0, .int .u8 0, .int .u8 0, .int .u8 0, .int .u8 0, .int .u8 0, .int .u8 0, .int .u8 0, .int .u8 0, .int .u8 0, .int .u8 0, .int .u8 0, .int .u8 0, .int .u8 0, .int .u8 0, .int .u8 0, .int .u8 0, .int .u8 0, .int .u8 0, .int .u8 0, .int .u8 0, .int .u8 0, .int .u8 0, .int .u8 0, .int .u8 0, .int .u8 0, .int .u8 0, .int .u8 0, .int .u8 0, .int .u8 0, .int .u8 0, .int .u8 0, .int .u8 0] : List AV)) = hn at kn bn e4 k4 wfn
      have k34 : Keep (Old h3.n) h3 h4 := kn.trans (k4.newbox wfn kn.n (Nat.le_refl _))
      have n4 := n3.keep wf3 k34
      have k04 : Keep (Old h.n) h h4 := k3.trans (k34.less k3.n)
      have bb4 := b.keep k04 sl
      have wf4 := k34.wf wf3
      have l4 : loadA h4 true 65 (.ptr h3.n 0) = some (.agg (wcell D.waits[j])) := b4.loadAgg hwc
      have hw : IntKind.i64.wrap ((j : Int) + 1) = ((j + 1 : Nat) : Int) := by rw [wrap_i64 (by omega) (by omega)]; omega
      have hdj : D.waits.drop j = D.waits[j] :: D.waits.drop (j + 1) := List.drop_eq_getElem_cons c
      have done : ∀ (s' : S) (h5 : H) (K' : List Sec), s' 22 = .int .i64 (j : Int) → s' 21 = s 21 → s' 20 = s 20 → s' 1 = s 1 → s' 5 = s 5 → DiskIs h5 o2 g2 k2 .nils [o2, g2] ⟨K', [], 0, false⟩ → K'.length = D.kept.length →
          keepAll K' (D.waits.drop (j + 1)) (bs.drop (j + 1)) = keepAll D.kept D.waits bs → Keep (Old h.n) h h5 →
          ∀ Q : Post, (∀ s h3, RI h D bs wv kv k2 o2 g2 (m - 1) s h3 → Q .normal s h3) → WOK E0 f24_r9 [] Q s' h5 := by
        intro s' h5 K' a22 a21 a20 a1 a5 n5 hK5 hk5 k5 Q hQ
        simp only [f24_r9, go_sem, ↓reduceIte, Nat.reduceEqDiff, a22, hw]
        exact hQ _ _ ⟨j + 1, K', by omega, rfl, a21.trans s21, a20.trans s20, a1.trans s1, a5.trans s5, n5, hK5, hk5, k5⟩
      refine WS_of_seq (WS_of_ops ?_)
      by_cases cb : j < bs.length
      · have cb' : (j : Int) < (bs.length : Int) := by omega
        obtain ⟨q, f1, f2⟩ := Bools.at bb4 cb .i64
        simp only [f24_r7, go_sem, ↓reduceIte, Nat.reduceEqDiff, s1, s22, bb4.len, cb', decide_true, f1, f2]
        have hbj : bs.drop j = bs[j] :: bs.drop (j + 1) := List.drop_eq_getElem_cons cb
        rw [hdj, hbj] at hka
        refine WS_of_cond ?_
        cases hb : bs[j] with
        | true =>
          rw [hb] at hka
          simp only [go_sem, ↓reduceIte, Nat.reduceEqDiff]
          refine WS_of_ops ?_
          simp only [f24_r8, go_sem, ↓reduceIte, Nat.reduceEqDiff, s5, l4]
          have hwK : (D.waits[j]).1 < K.length := by rw [hK]; exact (hok.w _ (List.getElem_mem c)).1
          refine (keep_spec wf4 n4.box n4.ks n4.kg n4.ok.k64 hwK (h64 _ (List.getElem_mem c))).mono ?_
          rintro r h5 ⟨rfl, s5', g5, k5⟩
          simp only [go_sem, ↓reduceIte]
          refine WS_of_ops ?_
          have hpl := putS_len K D.waits[j]
          refine done _ h5 (putS K D.waits[j]) (by simp only [go_sem, ↓reduceIte, Nat.reduceEqDiff, s22]) (by simp only [go_sem, ↓reduceIte, Nat.reduceEqDiff]) (by simp only [go_sem, ↓reduceIte, Nat.reduceEqDiff]) (by simp only [go_sem, ↓reduceIte, Nat.reduceEqDiff]) (by simp only [go_sem, ↓reduceIte, Nat.reduceEqDiff]) ?_ (by rw [hpl]; exact hK) (by simpa [keepAll] using hka) ?_ _ (fun s h r => ⟨m - 1, by omega, r⟩)
          · refine n4.putK (D' := ⟨putS K D.waits[j], [], 0, false⟩) wf4 k5 s5' g5 rfl rfl rfl ⟨by simp only; rw [hpl, hK]; exact hok.n1, by simp only; rw [hpl, hK]; exact hok.n2, putS_ok n4.ok.k64 (h64 _ (List.getElem_mem c)), fun w hw => by simp at hw, by simp⟩
          · exact k04.trans (k5.old wf4 k04.n (by simpa using hg2))
        | false =>
          rw [hb] at hka
          simp only [go_sem, ↓reduceIte, Nat.reduceEqDiff, Bool.false_eq_true]
          refine WS_of_skip ?_
          simp only [go_sem, ↓reduceIte]
          refine WS_of_ops ?_
          exact done _ h4 K (by simp only [go_sem, ↓reduceIte, Nat.reduceEqDiff, s22]) (by simp only [go_sem, ↓reduceIte, Nat.reduceEqDiff]) (by simp only [go_sem, ↓reduceIte, Nat.reduceEqDiff]) (by simp only [go_sem, ↓reduceIte, Nat.reduceEqDiff]) (by simp only [go_sem, ↓reduceIte, Nat.reduceEqDiff]) n4 hK (by simpa [keepAll] using hka) k04 _ (fun s h r => ⟨m - 1, by omega, r⟩)
      · have cb' : ¬ (j : Int) < (bs.length : Int) := by omega
        simp only [f24_r7, go_sem, ↓reduceIte, Nat.reduceEqDiff, s1, s22, bb4.len, cb', decide_false, Bool.false_eq_true]
        refine WS_of_cond ?_
        simp only [go_sem, ↓reduceIte, Nat.reduceEqDiff, Bool.false_eq_true]
        refine WS_of_skip ?_
        simp only [go_sem, ↓reduceIte]
        refine WS_of_ops ?_
        refine done _ h4 K (by simp only [go_sem, ↓reduceIte, Nat.reduceEqDiff, s22]) (by simp only [go_sem, ↓reduceIte, Nat.reduceEqDiff]) (by simp only [go_sem, ↓reduceIte, Nat.reduceEqDiff]) (by simp only [go_sem, ↓reduceIte, Nat.reduceEqDiff]) (by simp only [go_sem, ↓reduceIte, Nat.reduceEqDiff]) n4 hK ?_ k04 _ (fun s h r => ⟨m - 1, by omega, r⟩)
        rw [List.drop_eq_nil_of_le (by omega : bs.length ≤ j), keepAll_drop_nil] at hka
        rw [List.drop_eq_nil_of_le (by omega : bs.length ≤ j + 1), keepAll_drop_nil]
        exact hka
    · have c' : ¬ (j : Int) < (D.waits.length : Int) := by omega
      simp only [f24_r5, go_sem, ↓reduceIte, Nat.reduceEqDiff, s22, s21, c', decide_false]
      refine WS_of_seq (WS_of_cond ?_)
      simp only [go_sem, ↓reduceIte, Bool.false_eq_true]
      refine WS_of_exit ?_
      simp only [go_sem, ↓reduceIte]
      refine WS_of_seq (WS_of_ops ?_)
      simp only [f24_r11, go_sem, ↓reduceIte, Nat.reduceEqDiff, s5]
      refine WS_of_ret ?_
      simp only [f24_a, go_sem, ↓reduceIte]
      rw [List.drop_eq_nil_of_le (by omega : D.waits.length ≤ j)] at hka
      have hke : D.restart bs = ⟨K, [], 0, false⟩ := by
        unfold Dk.restart
        rw [← hka]
        cases bs.drop j <;> rfl
      rw [hke]
      refine ⟨o2, [o2, g2], rfl, ⟨g2, k2, .nils, n3⟩, k3, ?_⟩
      intro g hg
      simp only [List.mem_cons, List.not_mem_nil, or_false] at hg
      rcases hg with rfl | rfl <;> omega
  · exact ⟨0, D.kept, by omega, rfl, rfl, rfl, rfl, rfl, n2, rfl, by simp, k12⟩
end Go.Proofs.Ytmfbememiffkjaa.Ev.C
