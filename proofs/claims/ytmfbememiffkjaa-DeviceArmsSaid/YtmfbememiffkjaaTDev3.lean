/- A disk's functions that lay one, and write, walked. -/
import Derived.Test.YtmfbememiffkjaaTDev2
namespace Go.Proofs.Ytmfbememiffkjaa.Ev.C
open Go Go.Proofs.Ytmfbememiffkjaa.Ev
set_option linter.unusedSimpArgs false
set_option linter.unusedVariables false
abbrev zb : AV := .int .u8 0
theorem lit64 : ([.int .u8 0, .int .u8 0, .int .u8 0, .int .u8 0, .int .u8 0, .int .u8 0, .int .u8 0, .int .u8 0, .int .u8 0, .int .u8 0, .int .u8 0, .int .u8 0, .int .u8 0, .int .u8 0, .int .u8 0, .int .u8 0, .int .u8 0, .int .u8 0, .int .u8 0, .int .u8 0, .int .u8 0, .int .u8 0, .int .u8 0, .int .u8 0, .int .u8 0, .int .u8 0, .int .u8 0, .int .u8 0, .int .u8 0, .int .u8 0, .int .u8 0, .int .u8 0, .int .u8 0, .int .u8 0, .int .u8 0, .int .u8 0, .int .u8 0, .int .u8 0, .int .u8 0, .int .u8 0, .int .u8 0, .int .u8 0, .int .u8 0, .int .u8 0, .int .u8 0, .int .u8 0, .int .u8 0, .int .u8 0, .int .u8 0, .int .u8 0, .int .u8 0, .int .u8 0, .int .u8 0, .int .u8 0, .int .u8 0, .int .u8 0, .int .u8 0, .int .u8 0, .int .u8 0, .int .u8 0, .int .u8 0, .int .u8 0, .int .u8 0, .int .u8 0] : List AV) = List.replicate 64 zb := rfl
theorem lit65 : (.int .i64 0 :: [.int .u8 0, .int .u8 0, .int .u8 0, .int .u8 0, .int .u8 0, .int .u8 0, .int .u8 0, .int .u8 0, .int .u8 0, .int .u8 0, .int .u8 0, .int .u8 0, .int .u8 0, .int .u8 0, .int .u8 0, .int .u8 0, .int .u8 0, .int .u8 0, .int .u8 0, .int .u8 0, .int .u8 0, .int .u8 0, .int .u8 0, .int .u8 0, .int .u8 0, .int .u8 0, .int .u8 0, .int .u8 0, .int .u8 0, .int .u8 0, .int .u8 0, .int .u8 0, .int .u8 0, .int .u8 0, .int .u8 0, .int .u8 0, .int .u8 0, .int .u8 0, .int .u8 0, .int .u8 0, .int .u8 0, .int .u8 0, .int .u8 0, .int .u8 0, .int .u8 0, .int .u8 0, .int .u8 0, .int .u8 0, .int .u8 0, .int .u8 0, .int .u8 0, .int .u8 0, .int .u8 0, .int .u8 0, .int .u8 0, .int .u8 0, .int .u8 0, .int .u8 0, .int .u8 0, .int .u8 0, .int .u8 0, .int .u8 0, .int .u8 0, .int .u8 0]) = (.int .i64 0 :: List.replicate 64 zb) := rfl
theorem zeros_rep (x : AV) (k n : Nat) (hk : 0 < k) : zeros (List.replicate k x) n = List.replicate n x := by
  unfold zeros
  rw [List.length_replicate]
  apply List.ext_getElem
  · simp
  · intro i h1 h2
    simp only [List.getElem_map, List.getElem_range, List.getElem_replicate]
    rw [List.getD_eq_getElem?_getD, List.getElem?_replicate, if_pos (Nat.mod_lt _ hk)]
    rfl
theorem kcells_zero : ∀ (n : Nat), kcells (List.replicate n (List.replicate 64 0)) = List.replicate (n * 64) zb
  | 0 => rfl
  | n + 1 => by
    have ih := kcells_zero n
    simp only [kcells] at ih ⊢
    rw [List.replicate_succ, List.flatMap_cons, ih, Nat.add_mul, Nat.add_comm (n * 64), Nat.one_mul, ← List.replicate_append_replicate]
    congr 1

theorem new_spec {h : H} (wf : h.Wf) {n : Nat} (hn1 : 1 ≤ n) (hn2 : n ≤ 65536) :
    WCall E0 15 [.int .i64 (n : Int)] h fun r h' => ∃ o gs, r = .val (.tup [.ptr o 0, .int .i64 0]) ∧ DiskAt h' o gs (Dk.new n) ∧ Keep (Old h.n) h h' ∧ ∀ g ∈ gs, h.n ≤ g := by
  refine WCall_ws (ovn 15) U15 (by simp [f15_a]) ?_
  show WS E0 f15_c [] _ _ _
  refine WS_of_seq (WS_of_ops ?_)
  simp only [f15_r0, go_sem, ↓reduceIte]
  refine WS_of_seq (WS_of_seq (WS_of_ops ?_))
  have c1 : ¬ (n : Int) < 1 := by omega
  have c2 : ¬ (65536 : Int) < (n : Int) := by omega
  simp only [f15_r1, go_sem, ↓reduceIte, Nat.reduceEqDiff, c1, c2, decide_false, Bool.false_eq_true]
  refine WS_of_cond ?_
  simp only [go_sem, ↓reduceIte, Bool.false_eq_true, Nat.reduceEqDiff]
  refine WS_of_skip ?_
  simp only [go_sem]
  refine WS_of_seq (WS_of_ops ?_)
  have em : makeSliceA h 64 64 [.int .u8 0, .int .u8 0, .int .u8 0, .int .u8 0, .int .u8 0, .int .u8 0, .int .u8 0, .int .u8 0, .int .u8 0, .int .u8 0, .int .u8 0, .int .u8 0, .int .u8 0, .int .u8 0, .int .u8 0, .int .u8 0, .int .u8 0, .int .u8 0, .int .u8 0, .int .u8 0, .int .u8 0, .int .u8 0, .int .u8 0, .int .u8 0, .int .u8 0, .int .u8 0, .int .u8 0, .int .u8 0, .int .u8 0, .int .u8 0, .int .u8 0, .int .u8 0, .int .u8 0, .int .u8 0, .int .u8 0, .int .u8 0, .int .u8 0, .int .u8 0, .int .u8 0, .int .u8 0, .int .u8 0, .int .u8 0, .int .u8 0, .int .u8 0, .int .u8 0, .int .u8 0, .int .u8 0, .int .u8 0, .int .u8 0, .int .u8 0, .int .u8 0, .int .u8 0, .int .u8 0, .int .u8 0, .int .u8 0, .int .u8 0, .int .u8 0, .int .u8 0, .int .u8 0, .int .u8 0, .int .u8 0, .int .u8 0, .int .u8 0, .int .u8 0] (.int .i64 (n : Int)) (.int .i64 (n : Int)) = some (.slice h.n 0 n 64, h.new (kcells (List.replicate n (List.replicate 64 0)))) := by
    unfold makeSliceA
    simp only
    rw [if_pos ⟨by omega, Int.le_refl _, by omega, by omega⟩, Int.toNat_natCast, kcells_zero, lit64, zeros_rep zb 64 _ (by decide)]
  have ef : afill [.nils, .nils, .int .i64 0, .bool false] [(0, 1, .slice h.n 0 n 64)] = some [.slice h.n 0 n 64, .nils, .int .i64 0, .bool false] := rfl
  simp only [f15_r3, go_sem, ↓reduceIte, Nat.reduceEqDiff, em, ef]
  refine WS_of_ret ?_
  simp only [go_sem, f15_a, ↓reduceIte, Nat.reduceEqDiff]
  have hl : (kcells (List.replicate n (List.replicate 64 (0 : UInt8)))).length = n * 64 := by rw [kcells_zero]; simp
  have k1 : Keep (Old h.n) h (h.new (kcells (List.replicate n (List.replicate 64 0)))) := Keep.new (Nat.le_refl _) _
  have b1 : Box h.n (kcells (List.replicate n (List.replicate 64 0))) (h.new (kcells (List.replicate n (List.replicate 64 0)))) := Box.new wf _
  have s1 : Sl (h.new (kcells (List.replicate n (List.replicate 64 0)))) 64 (.slice h.n 0 n 64) n (kcells (List.replicate n (List.replicate 64 0))) := by
    have := Sl.new (es := 64) (n := n) wf (vs := kcells (List.replicate n (List.replicate 64 0))) (by omega)
    rwa [List.take_of_length_le (by omega)] at this
  have g1 : Grp h.n (h.new (kcells (List.replicate n (List.replicate 64 0)))) (.slice h.n 0 n 64) := ⟨_, b1.get, b1.tip, b1.live, by rw [hl]; omega, _, b1.get⟩
  have hnn : (h.new (kcells (List.replicate n (List.replicate 64 0)))).n = h.n + 1 := rfl
  generalize h.new (kcells (List.replicate n (List.replicate 64 0))) = h1 at k1 b1 s1 g1 hnn ⊢
  have wf1 := k1.wf wf
  have sl1 := (g1.own wf1 (Nat.zero_le _)).slot wf1
  have k2 : Keep (Old h1.n) h1 (h1.new [.slice h.n 0 n 64, .nils, .int .i64 0, .bool false]) := Keep.new (Nat.le_refl _) _
  refine ⟨h1.n, [h1.n, h.n], rfl, ⟨h.n, .slice h.n 0 n 64, .nils, Box.new wf1 _, ?_, g1.keep sl1 k2, Sl.nil _ _, by omega, .inl ⟨rfl, rfl⟩, Dk.new_ok hn1 hn2⟩, k1.trans (k2.less k1.n), ?_⟩
  · have := s1.keep k2 sl1
    show Sl _ 64 _ (List.replicate n _).length _
    rw [List.length_replicate]
    exact this
  · intro g hg
    simp only [List.mem_cons, List.not_mem_nil, or_false] at hg
    rcases hg with rfl | rfl <;> omega

theorem not_nils {h : H} {es n : Nat} {cs : List AV} (a : Sl h es .nils n cs) : n = 0 := by have := a.len; cases this; rfl
/-- slices.Clone of sectors -/
theorem clones_spec {h : H} {v : AV} {n : Nat} {cs : List AV} (wf : h.Wf) (b : Sl h 64 v n cs) (h1 : cs.all AV.one = true) (sl : Slot (Old h.n) h v) (hn : 1 ≤ n) (hl : n < 4294967296) :
    WCall E0 48 [v] h fun r h' => ∃ v' g, r = .val v' ∧ Sl h' 64 v' n cs ∧ Grp g h' v' ∧ h.n ≤ g ∧ Keep (Old h.n) h h' := by
  refine WCall_ws (ovn 48) U48 (by simp [f48_a]) ?_
  show WS E0 f48_c [] _ _ _
  refine WS_of_seq (WS_of_ops ?_)
  simp only [f48_r0, go_sem, ↓reduceIte]
  refine WS_of_seq (WS_of_seq (WS_of_ops ?_))
  have hlen := b.len
  cases v <;> simp only [lenSA] at hlen <;> (try (cases hlen; done))
  case nils => cases hlen; omega
  case slice o i len es =>
    simp only [f48_r1, go_sem, ↓reduceIte, Nat.reduceEqDiff]
    refine WS_of_cond ?_
    simp only [go_sem, ↓reduceIte, Bool.false_eq_true]
    refine WS_of_skip ?_
    simp only [go_sem]
    refine WS_of_seq (WS_of_ops ?_)
    have ea : afill (zeros [.int .u8 0, .int .u8 0, .int .u8 0, .int .u8 0, .int .u8 0, .int .u8 0, .int .u8 0, .int .u8 0, .int .u8 0, .int .u8 0, .int .u8 0, .int .u8 0, .int .u8 0, .int .u8 0, .int .u8 0, .int .u8 0, .int .u8 0, .int .u8 0, .int .u8 0, .int .u8 0, .int .u8 0, .int .u8 0, .int .u8 0, .int .u8 0, .int .u8 0, .int .u8 0, .int .u8 0, .int .u8 0, .int .u8 0, .int .u8 0, .int .u8 0, .int .u8 0, .int .u8 0, .int .u8 0, .int .u8 0, .int .u8 0, .int .u8 0, .int .u8 0, .int .u8 0, .int .u8 0, .int .u8 0, .int .u8 0, .int .u8 0, .int .u8 0, .int .u8 0, .int .u8 0, .int .u8 0, .int .u8 0, .int .u8 0, .int .u8 0, .int .u8 0, .int .u8 0, .int .u8 0, .int .u8 0, .int .u8 0, .int .u8 0, .int .u8 0, .int .u8 0, .int .u8 0, .int .u8 0, .int .u8 0, .int .u8 0, .int .u8 0, .int .u8 0] (0 * 64)) [] = some [] := rfl
    have kn : Keep (Old h.n) h (h.new []) := Keep.new (Nat.le_refl _) _
    have b0 : Sl (h.new []) 64 (.slice h.n 0 0 64) 0 [] := Sl.new (n := 0) (es := 64) wf (vs := []) (by simp)
    have o0 : Own h.n (h.new []) (.slice h.n 0 0 64) := Own.new wf (Nat.le_refl _) (by simp)
    obtain ⟨v2, h2, a2, b2, o2, k2⟩ := append_own (kn.wf wf) kn.n b0 o0 (b.keep kn sl) h1 (by omega)
    simp only [f48_r3, go_sem, ↓reduceIte, Nat.reduceEqDiff, ea, a2]
    refine WS_of_ret ?_
    simp only [go_sem, f48_a, ↓reduceIte, Nat.reduceEqDiff]
    rw [Nat.zero_add, List.nil_append] at b2
    rcases o2.grp with rfl | ⟨g, hg, gg⟩
    · have := not_nils b2; omega
    · exact ⟨_, g, rfl, b2, gg, hg, kn.trans k2⟩
/-- slices.Clone of bytes -/
theorem cloneb_spec {h : H} {v : AV} {bs : List UInt8} (wf : h.Wf) (b : Bytes h v bs) (sl : Slot (Old h.n) h v) (hl : bs.length < 4294967296) :
    WCall E0 50 [v] h fun r h' => ∃ v', r = .val v' ∧ Bytes h' v' bs ∧ Own h.n h' v' ∧ Keep (Old h.n) h h' := by
  refine WCall_ws (ovn 50) U50 (by simp [f50_a]) ?_
  show WS E0 f50_c [] _ _ _
  refine WS_of_seq (WS_of_ops ?_)
  simp only [f50_r0, go_sem, ↓reduceIte]
  refine WS_of_seq (WS_of_seq (WS_of_ops ?_))
  have hlen := b.len
  cases v <;> simp only [lenSA] at hlen <;> (try (cases hlen; done))
  case nils =>
    simp only [f50_r1, go_sem, ↓reduceIte, Nat.reduceEqDiff]
    refine WS_of_cond ?_
    simp only [go_sem, ↓reduceIte, Bool.false_eq_true]
    refine WS_of_seq (WS_of_ops ?_)
    simp only [f50_r2, go_sem, ↓reduceIte]
    refine WS_of_ret ?_
    simp only [go_sem, f50_a, ↓reduceIte, Nat.reduceEqDiff]
    exact ⟨_, rfl, b, trivial, Keep.refl _ _⟩
  case slice o i len es =>
    simp only [f50_r1, go_sem, ↓reduceIte, Nat.reduceEqDiff]
    refine WS_of_cond ?_
    simp only [go_sem, ↓reduceIte, Bool.false_eq_true]
    refine WS_of_skip ?_
    simp only [go_sem]
    refine WS_of_seq (WS_of_ops ?_)
    have ea : afill (zeros [AV.int .u8 0] (0 * 1)) [] = some [] := rfl
    have kn : Keep (Old h.n) h (h.new []) := Keep.new (Nat.le_refl _) _
    have b0 : Bytes (h.new []) (.slice h.n 0 0 1) [] := Sl.new (n := 0) (es := 1) wf (vs := []) (by simp)
    have o0 : Own h.n (h.new []) (.slice h.n 0 0 1) := Own.new wf (Nat.le_refl _) (by simp)
    obtain ⟨v2, h2, a2, b2, o2, k2⟩ := b0.app (kn.wf wf) kn.n o0 (b.keep kn sl) (by simpa using hl)
    simp only [f50_r3, go_sem, ↓reduceIte, Nat.reduceEqDiff, ea, a2]
    refine WS_of_ret ?_
    simp only [go_sem, f50_a, ↓reduceIte, Nat.reduceEqDiff]
    exact ⟨_, rfl, b2, o2, kn.trans k2⟩

/-- one more write that waits -/
theorem DiskIs.append {h : H} {o gk : Nat} {k wv y : AV} {gs : List Nat} {D : Dk} (d : DiskIs h o gk k wv gs D) (wf : h.Wf) {w : Nat × Sec} (b : Sl h 65 y 1 (wcell w)) (hbig : D.waits.length + 1 < 4294967296) :
    ∃ wv' h' gs', appendA h 65 wv y = some (wv', h') ∧ wv'.one = true ∧ wv'.cells = [wv'] ∧ Sl h' 65 wv' (D.waits ++ [w]).length (wcells (D.waits ++ [w])) ∧ Waits h' o gk wv' gs' ∧ Box o [k, wv, .int .i64 (D.armed : Int), .bool D.dead] h' ∧ Sl h' 64 k D.kept.length (kcells D.kept) ∧ Grp gk h' k ∧
      KeepA gs h h' ∧ Next gs gs' h ∧ o ∈ gs := by
  obtain ⟨s1, s2, s3, m1, m2⟩ := d.away wf
  have hc : wcells D.waits ++ wcell w = wcells (D.waits ++ [w]) := by simp
  rcases d.wg with ⟨rfl, rfl⟩ | ⟨gw, a1, a2, a3, rfl⟩
  · obtain ⟨wv', h', e, s, ow, kk⟩ := append_own (N := h.n) wf (Nat.le_refl _) d.ws (by trivial) b (wcell_one w) hbig
    rcases ow.grp with rfl | ⟨gw, hg, gg⟩
    · have := not_nils s; omega
    · have x1 := d.box.lt wf
      have x2 := d.kg.lt wf
      have sk := d.sk wf
      rw [hc] at s
      refine ⟨wv', h', [o, gk, gw], e, (one_of_len s.len).1, (one_of_len s.len).2, by simpa using s, .inr ⟨gw, by omega, by omega, gg, rfl⟩, d.box.keep kk x1, d.ks.keep kk sk, d.kg.keep sk kk, KeepA.of kk, ?_, m1⟩
      intro g hg'
      simp only [List.mem_cons, List.not_mem_nil, or_false] at hg'
      rcases hg' with rfl | rfl | rfl
      · exact .inl (by simp)
      · exact .inl (by simp)
      · exact .inr hg
  · obtain ⟨wv', h', e, s, gg, kk⟩ := append_grp wf d.ws a3 b (wcell_one w) hbig
    rw [hc] at s
    have hroot : ∀ x ∈ [gw], Root x h := by simpa using a3.root
    have sk := d.kg.away (gs := [gw]) wf (by simp [Ne.symm a2]) hroot
    refine ⟨wv', h', [o, gk, gw], e, (one_of_len s.len).1, (one_of_len s.len).2, by simpa using s, .inr ⟨gw, a1, a2, gg, rfl⟩, d.box.keepA wf kk (by simp [Ne.symm a1]), d.ks.keep kk sk, d.kg.keep sk kk, kk.mono (by simp), Next.refl _ _, m1⟩
end Go.Proofs.Ytmfbememiffkjaa.Ev.C
