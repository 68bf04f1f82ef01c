/- A record appended, walked. -/
import Derived.Test.YtmfbememiffkjaaTJC
namespace Go.Proofs.Ytmfbememiffkjaa.Ev.C
open Go Go.Proofs.Ytmfbememiffkjaa.Ev
set_option linter.unusedSimpArgs false
set_option linter.unusedVariables false
/-- what an append leaves -/
def APost (E : List Nat) (h : H) (ol o fr to ep : Nat) (gl gs : List Nat) (K : List Sec) (b : Sec) (A : Dk × Nat) : AOut → H → Prop := fun r h' => ∃ gs' gl' rv' us', r = .val (.int .i64 (A.2 : Int)) ∧ DiskAt h' o gs' A.1 ∧
  LogIs h' ol o (if A.2 = 0 then fr + jsize b.length else fr) to ep gl' rv' us' ∧ Recs (gl' ++ gs' ++ E) h' us' (if A.2 = 0 then K ++ [b] else K) ∧ KeepA (gl ++ gs) h h' ∧ Next (gl ++ gs) (gl' ++ gs') h ∧ (∀ g ∈ gl', g ∉ gs')
theorem next_E {A B E : List Nat} {h : H} (n : Next A B h) : Next (A ++ E) (B ++ E) h := fun g hg => by
  rcases List.mem_append.1 hg with x | x
  · exact (n g x).imp (fun y => by simp [y]) id
  · exact .inl (by simp [x])
theorem next_app {gl gs gs' : List Nat} {h : H} (n : Next gs gs' h) : Next (gl ++ gs) (gl ++ gs') h := fun g hg => by
  rcases List.mem_append.1 hg with x | x
  · exact .inl (by simp [x])
  · rcases n g x with y | y
    · exact .inl (by simp [y])
    · exact .inr y
theorem apost_bad {E : List Nat} {h h' : H} {ol o fr to ep : Nat} {gl gs gs' : List Nat} {rv : AV} {us : List AV} {K : List Sec} {b : Sec} {A : Dk × Nat} (wf : h.Wf) (l : LogIs h ol o fr to ep gl rv us) (rc : Recs (gl ++ gs ++ E) h us K) (hdis : ∀ g ∈ gl, g ∉ gs) (hr : ∀ g ∈ gs, Root g h)
    (k : KeepA gs h h') (n : Next gs gs' h) (d' : DiskAt h' o gs' A.1) (hA : A.2 ≠ 0) : APost E h ol o fr to ep gl gs K b A (.val (.int .i64 (A.2 : Int))) h' := by
  have kF : KeepA (gl ++ gs) h h' := k.mono fun g hg => by simp [hg]
  refine ⟨gs', gl, rv, us, rfl, d', ?_, ?_, kF, next_app n, fun g hg hm => ?_⟩
  · rw [if_neg hA]; exact l.apart wf k hdis hr
  · rw [if_neg hA]; exact rc.next wf (kF.mono fun g hg => by simp only [List.mem_append] at hg ⊢; exact .inl hg) (next_E (next_app n))
  · rcases n g hm with x | x
    · exact hdis g hg x
    · have := l.lt wf g hg; omega
def AJ (h6 : H) (o : Nat) (gs : List Nat) (W : List (Nat × Sec)) (D : Dk) : (Nat → Prop) → Nat → H → Prop := fun G j h7 => ∃ gs', KeepA gs h6 h7 ∧ Next gs gs' h6 ∧ DiskMine h6.n G h7 o gs' (wrAll (W.take j) D).1 ∧ (wrAll (W.take j) D).2 = 0 ∧ h7.Wf ∧ (wrAll (W.take j) D).1.waits.length ≤ D.waits.length + j
theorem wrAll_wl : ∀ (W : List (Nat × Sec)) (D : Dk), (wrAll W D).1.waits.length ≤ D.waits.length + W.length ∧ (wrAll W D).1.kept.length = D.kept.length
  | [], D => ⟨by simp [wrAll], rfl⟩
  | w :: W, D => by
    have h1 : (D.write (w.1 : Int) w.2).1.waits.length ≤ D.waits.length + 1 ∧ (D.write (w.1 : Int) w.2).1.kept.length = D.kept.length := by
      unfold Dk.write
      split
      · exact ⟨by simp only; omega, rfl⟩
      split
      · exact ⟨by simp only [Dk.counted_waits]; omega, by simp only [Dk.counted_kept]⟩
      · exact ⟨by simp [Dk.counted_waits], by simp only [Dk.counted_kept]⟩
    by_cases c : (D.write (w.1 : Int) w.2).2 ≠ 0
    · rw [wrAll_bad _ c]
      exact ⟨by simp only [List.length_cons]; omega, h1.2⟩
    · rw [wrAll_good _ c]
      obtain ⟨a, b⟩ := wrAll_wl W (D.write (w.1 : Int) w.2).1
      exact ⟨by simp only [List.length_cons]; omega, by rw [b]; exact h1.2⟩
theorem nchunk_jsize (n : Nat) : jsize n = nchunk n + 1 := by unfold jsize nchunk; omega
theorem append_specE {h : H} {ol o fr to ep : Nat} {gl gs : List Nat} {rv bv : AV} {us : List AV} {K : List Sec} {D : Dk} {b : Sec} (wf : h.Wf) (l : LogIs h ol o fr to ep gl rv us) (d : DiskAt h o gs D) (hdis : ∀ g ∈ gl, g ∉ gs) (E : List Nat) (hE : ∀ g ∈ E, Root g h ∧ g ∉ gl ++ gs) (rc : Recs (gl ++ gs ++ E) h us K)
    (bb : Bytes h bv b) (sb : Slot (Apart (gl ++ gs) h) h bv) (hft : fr ≤ to) (hto : to ≤ 900000) (hul : us.length < 900000) (hwl : D.waits.length < 900000) (hb : b.length < 1000000) (hep : ep < 18446744073709551616) :
    WCall E0 39 [.ptr ol 0, bv] h (APost E h ol o fr to ep gl gs K b (jappend D fr to ep us.length b)) := by
  refine WCall_ws (ovn 39) U39 (by simp [f39_a]) ?_
  show WS E0 f39_c [] _ _ _
  have hroot := d.root
  have hlt := d.lt wf
  have hol : ol ∉ gs := hdis _ l.mem
  have sbG := apart_less (gs' := gs) sb (fun g hg => by simp [hg])
  refine WS_of_seq (WS_of_ops ?_)
  have k1 : Keep (Old h.n) h (h.new [.ptr ol 0]) := Keep.new (Nat.le_refl _) _
  have b1 : Box h.n [.ptr ol 0] (h.new [.ptr ol 0]) := Box.new wf _
  have n1 : (h.new [.ptr ol 0]).n = h.n + 1 := rfl
  have hci : (AV.ptr ol 0).cells = [.ptr ol 0] := rfl
  simp only [f39_r0, go_sem, ↓reduceIte, Nat.reduceEqDiff, hci]
  generalize h.new [.ptr ol 0] = h1 at k1 b1 n1 ⊢
  have wf1 := k1.wf wf
  have k2 : Keep (Old h1.n) h1 (h1.new [.int .i64 0]) := Keep.new (Nat.le_refl _) _
  have b2 : Box h1.n [.int .i64 0] (h1.new [.int .i64 0]) := Box.new wf1 _
  have n2 : (h1.new [.int .i64 0]).n = h1.n + 1 := rfl
  generalize h1.new [.int .i64 0] = h2 at k2 b2 n2 ⊢
  have wf2 := k2.wf wf1
  have b12 := b1.keep k2 (b1.lt wf1)
  have k02 : Keep (Old h.n) h h2 := k1.trans (k2.weaken fun q hq => by have : q < h.n := hq; show q < _; omega)
  have l2 := l.keep wf k02
  have hbl : lenSA bv = some b.length := bb.len
  -- an error that is stored and given back
  have bad : ∀ {h3 : H} {gs' : List Nat} {D' : Dk} {e : Nat} (wf3 : h3.Wf) (k3 : KeepA gs h h3) (n3 : Next gs gs' h2) (d3 : DiskAt h3 o gs' D') (bx : ∃ x, Box h1.n [x] h3) (hA : jappend D fr to ep us.length b = (D', e)) (he : e ≠ 0),
      ∃ h4, storeA h3 1 (.ptr h1.n 0) (.int .i64 (e : Int)) = some h4 ∧ loadA h4 false 1 (.ptr h1.n 0) = some (.int .i64 (e : Int)) ∧ APost E h ol o fr to ep gl gs K b (jappend D fr to ep us.length b) (.val (.int .i64 (e : Int))) h4 := by
    rintro h3 gs' D' e wf3 k3 n3 d3 ⟨x, bx⟩ hA he
    obtain ⟨h4, e4, b4, k4⟩ := bx.put wf3 (i := 0) (n := 1) (v := .int .i64 (e : Int)) rfl rfl (by simp)
    have hng : h1.n ∉ gs' := fun hm => by
      rcases n3 _ hm with y | y
      · have := hlt _ y; omega
      · omega
    have n3' : Next gs gs' h := fun g hg => (n3 g hg).imp id (fun x => by omega)
    refine ⟨h4, e4, by rw [b4.load]; rfl, ?_⟩
    rw [hA]
    refine apost_bad wf l rc hdis hroot ?_ n3' (A := (D', e)) (d3.apart wf3 hng bx.root k4) he
    exact k3.then wf k4 (fun g hg => by simp only [List.mem_cons, List.not_mem_nil, or_false] at hg; subst hg; exact .inr (by omega))
  have d2 := d.keep wf k02
  refine WS_of_seq (WS_of_block (WS_of_seq (WS_of_ops ?_)))
  simp only [f39_r1, go_sem, ↓reduceIte, Nat.reduceEqDiff, b12.load, List.getElem?_cons_zero]
  refine WS_of_cond ?_
  simp only [go_sem, ↓reduceIte, Bool.false_eq_true]
  refine WS_of_seq (WS_of_ops ?_)
  by_cases c1 : 4096 < b.length
  · have c1' : (4096 : Int) < (b.length : Int) := by omega
    have hA : jappend D fr to ep us.length b = (D, 13) := by unfold jappend; rw [if_pos c1]
    obtain ⟨h3, e3, e3', P⟩ := bad wf2 (KeepA.of k02) (Next.refl _ _) d2 ⟨_, b2⟩ hA (by decide)
    simp only [f39_r3, go_sem, ↓reduceIte, Nat.reduceEqDiff, hbl, c1', decide_true]
    refine WS_of_cond ?_
    simp only [go_sem, ↓reduceIte]
    refine WS_of_seq (WS_of_ops ?_)
    have e3c : storeA h2 1 (.ptr h1.n 0) (.int .i64 13) = some h3 := e3
    simp only [f39_r4, go_sem, ↓reduceIte, Nat.reduceEqDiff, e3c]
    refine WS_of_ret ?_
    simp only [f39_a, go_sem, ↓reduceIte, Nat.reduceEqDiff, e3']
    exact P
  have c1' : ¬ (4096 : Int) < (b.length : Int) := by omega
  have hjb : jsize b.length ≤ 70 := by unfold jsize; omega
  have hnc : nchunk b.length ≤ 69 := by have := nchunk_jsize b.length; omega
  simp only [f39_r3, go_sem, ↓reduceIte, Nat.reduceEqDiff, hbl, c1', decide_false]
  refine WS_of_cond ?_
  simp only [go_sem, ↓reduceIte, Bool.false_eq_true]
  refine WS_of_seq (WS_of_draw ?_)
  simp only [f39_r5, go_sem, ↓reduceIte, Nat.reduceEqDiff, and_self, true_and, List.filter_cons, List.filter_nil, Nat.testBit, Nat.reduceShiftRight, Nat.reduceAnd, Nat.reduceBNe, Bool.not_false, Bool.not_true, Bool.false_eq_true, bne_self_eq_false, eq_self, b12.load, List.getElem?_cons_zero, hbl]
  refine (size_spec (n := (b.length : Int)) (by omega) (by omega)).mono ?_
  rintro r h2' ⟨hh, rfl⟩
  have hh' := hh.symm
  subst hh'
  simp only [go_sem, ↓reduceIte, Nat.reduceEqDiff, and_self, true_and, List.filter_cons, List.filter_nil, Nat.testBit, Nat.reduceShiftRight, Nat.reduceAnd, Nat.reduceBNe, Bool.not_false, Bool.not_true, Bool.false_eq_true, bne_self_eq_false, eq_self, b12.load, List.getElem?_cons_zero, hbl]
  refine (room_spec l2).mono ?_
  rintro r h2' ⟨hh, rfl⟩
  have hh' := hh.symm
  subst hh'
  simp only [go_sem, ↓reduceIte, Nat.reduceEqDiff, and_self, true_and, List.filter_cons, List.filter_nil, Nat.testBit, Nat.reduceShiftRight, Nat.reduceAnd, Nat.reduceBNe, Bool.not_false, Bool.not_true, Bool.false_eq_true, bne_self_eq_false, eq_self, b12.load, List.getElem?_cons_zero, hbl, Int.toNat_natCast]
  by_cases c2 : to - fr < jsize b.length
  · have c2' : (to : Int) - (fr : Int) < (jsize b.length : Int) := by omega
    have hA : jappend D fr to ep us.length b = (D, 21) := by unfold jappend; rw [if_neg c1, if_pos c2]
    obtain ⟨h3, e3, e3', P⟩ := bad wf2 (KeepA.of k02) (Next.refl _ _) d2 ⟨_, b2⟩ hA (by decide)
    simp only [go_sem, ↓reduceIte, Nat.reduceEqDiff, c2', decide_true]
    refine WS_of_cond ?_
    simp only [go_sem, ↓reduceIte]
    refine WS_of_seq (WS_of_ops ?_)
    have e3c : storeA h2 1 (.ptr h1.n 0) (.int .i64 21) = some h3 := e3
    simp only [f39_r6, go_sem, ↓reduceIte, Nat.reduceEqDiff, e3c]
    refine WS_of_ret ?_
    simp only [f39_a, go_sem, ↓reduceIte, Nat.reduceEqDiff, e3']
    exact P
  have c2' : ¬ (to : Int) - (fr : Int) < (jsize b.length : Int) := by omega
  simp only [go_sem, ↓reduceIte, Nat.reduceEqDiff, c2', decide_false]
  refine WS_of_cond ?_
  simp only [go_sem, ↓reduceIte, Bool.false_eq_true]
  refine WS_of_skip ?_
  simp only [go_sem]
  have hvc := one_of_len bb.len
  refine WS_of_seq (WS_of_seq (WS_of_ops ?_))
  simp only [f39_r7, go_sem, ↓reduceIte, Nat.reduceEqDiff, b12.load, List.getElem?_cons_zero]
  refine (parts_spec wf2 hvc.2).mono ?_
  rintro r h6 ⟨rfl, x1, x2, k26, n6⟩
  have wf6 := k26.wf wf2
  have k06 : Keep (Old h.n) h h6 := k02.trans (k26.weaken fun q hq => by have := k02.n; have : q < h.n := hq; show q < _; omega)
  have l6 := l.keep wf k06
  have d6 := d.keep wf k06
  have bb6 : Bytes h6 bv b := bb.keep k06 sb.old
  have sb6 : Slot (Apart gs h6) h6 bv := sbG.keepA (KeepA.of k06)
  have y1 := b12.keep k26 (b12.lt wf2)
  have y2 := b2.keep k26 (b2.lt wf2)
  have hn0 := k02.n
  have hlt6 := d6.lt wf6
  have hroot6 := d6.root
  simp only [go_sem, ↓reduceIte]
  generalize hW : chunksW fr b = W
  have hWl : W.length = nchunk b.length := by rw [← hW, chunksW_len]
  have hjA : jappend D fr to ep us.length b = (if (wrAll W D).2 ≠ 0 then wrAll W D else
      let y := (wrAll W D).1.flush
      if y.2 ≠ 0 then y else
      let z := y.1.write (fr : Int) (headB ep us.length b.length)
      if z.2 ≠ 0 then z else z.1.flush) := by
    unfold jappend
    rw [if_neg c1, if_neg c2, hW]
  have fd : fr ≤ 1000000 := by omega
  refine WS_of_block (WS_of_rangeX (g := 62) (cs := [.ptr h2.n 0, .ptr (h2.n + 1) 0]) (by simp only [go_sem, ↓reduceIte, Nat.reduceEqDiff]) (parts_iter (ol := ol) (o := o) (bv := bv) (b := b) hb fd)
    (AJ h6 o gs W D)
    (fun G p h7 => (p = none ∧ ∃ gs', KeepA gs h6 h7 ∧ Next gs gs' h6 ∧ DiskMine h6.n G h7 o gs' (wrAll W D).1 ∧ (wrAll W D).2 = 0 ∧ h7.Wf) ∨
      (p = some none ∧ ∃ gs', KeepA (h1.n :: gs) h6 h7 ∧ Next gs gs' h6 ∧ DiskMine h6.n G h7 o gs' (wrAll W D).1 ∧ (wrAll W D).2 ≠ 0 ∧ Box h1.n [.int .i64 ((wrAll W D).2 : Int)] h7 ∧ h7.Wf)) ?_ ?_ ?_ ?_ ?_ ?_ ?_ ?_)
  · rintro G j x h7 ⟨v, rfl, -⟩
    rfl
  · refine ⟨gs, KeepA.refl _ _, Next.refl _ _, ?_, rfl, wf6, by simp [wrAll]⟩
    obtain ⟨gk, kv, wv, d6⟩ := d6
    exact ⟨gk, kv, wv, d6, (d6.sk wf6).mono fun q hq => .inl hq, (d6.sw wf6).mono fun q hq => .inl hq, fun g hg => .inl (hlt6 g hg)⟩
  · rintro G j h7 ⟨gs', k7, n7, d7, hz, wf7, -⟩
    have nin : ∀ q, h.n ≤ q → q ∉ gs := fun q hq hm => by have := hlt _ hm; omega
    exact ⟨wf7, x1.keepA wf6 k7 (nin _ (by omega)), x2.keepA wf6 k7 (nin _ (by omega)), ⟨_, l6.b.keepA wf6 k7 hol⟩, bb6.keep k7 sb6⟩
  · rintro G j h7 h8 hG ⟨gs', k7, n7, d7, hz, wf7, hq⟩ kk
    exact ⟨gs', k7.trans (kk.weaken fun q hq => .inl hq.1), n7, d7.keep wf7 kk, hz, kk.wf wf7, hq⟩
  · rintro G p h7 h8 hG (⟨rfl, gs', k7, n7, d7, hz, wf7⟩ | ⟨rfl, gs', k7, n7, d7, hz, bx, wf7⟩) kk
    · exact .inl ⟨rfl, gs', k7.trans (kk.weaken fun q hq => .inl hq.1), n7, d7.keep wf7 kk, hz, kk.wf wf7⟩
    · exact .inr ⟨rfl, gs', k7.trans (kk.weaken fun q hq => .inl hq.1), n7, d7.keep wf7 kk, hz, bx.keep kk (.inl (by omega)), kk.wf wf7⟩
  · rintro G j x hj h7 ⟨v, rfl, bv7, sv7⟩ gi cl ⟨gs', k7, n7, d7, hz, wf7, hwq⟩
    show WS E0 f39_l13 [] _ _ _
    refine WS_of_seq (WS_of_ops ?_)
    simp only [f39_r8, go_sem, ↓reduceIte, Nat.reduceEqDiff, setPs]
    refine WS_of_ops ?_
    simp only [f39_r9, go_sem, ↓reduceIte, Nat.reduceEqDiff]
    refine ⟨trivial, Keep.refl _ _, ?_⟩
    intro h8 n8 k78 hne
    have wf8 := k78.wf wf7
    have hG : ∀ q, G q → h6.n < q := fun q hq => (gi.2 q hq).1
    have hnG : ¬ G h6.n := fun x => Nat.lt_irrefl _ (hG _ x)
    have d8 := d7.keep wf7 (k78.weaken fun q hq => by
      rcases hq with hq | hq
      · omega
      · have := hG q hq; omega)
    have k68 : KeepA gs h6 h8 := k7.trans (k78.weaken fun q hq => by have := hq.1; omega)
    have cl8 : Clean h6.n G h8 := cl.same fun q cs g e => by
      by_cases hq : q = h6.n
      · subst hq; exact absurd e (hne _ _)
      · rwa [k78.get q hq] at e
    have sv7' : Slot (fun q => q ≠ h6.n) h7 v := sv7.mono fun q hq => by have := hq.1; omega
    have bv8 := bv7.keep k78 sv7'
    have sv8 : Slot (Its h6.n G h8) h8 v := (sv7.mono (K' := fun q => q ≠ h6.n ∧ Its (h6.n + 1) G h7 q) fun q hq => ⟨by have := hq.1; omega, hq⟩).keep (k78.weaken fun q hq => hq.1) fun q hq => ⟨by have := hq.2.1; omega, by have := hq.2.2.1; omega, hq.2.2.2⟩
    have hmine : ∀ g ∈ gs', Mine h6.n G g := by obtain ⟨_, _, _, _, _, _, hm⟩ := d8; exact hm
    have sA := its_apart cl8 hmine sv8
    have nin : ∀ q, h.n ≤ q → q ∉ gs := fun q hq hm => by have := hlt _ hm; omega
    have y18 := y1.keepA wf6 k68 (nin _ (Nat.le_refl _))
    have l8b := l6.b.keepA wf6 k68 hol
    have hjw : (wrAll (W.take j) D).1.waits.length < 1000000 := by omega
    show WS E0 f39_l14 [] _ _ _
    refine WS_of_block (WS_of_seq (WS_of_ops ?_))
    simp only [f39_r10, go_sem, ↓reduceIte, Nat.reduceEqDiff, Nat.zero_add, y18.load, l8b.load, List.getElem?_cons_zero]
    refine (write_spec wf8 d8.at ((fr + 1 + j : Nat) : Int) bv8 sA hjw).mono ?_
    rintro r h9 ⟨gs9, rfl, d9, k9, n9⟩
    have wf9 := k9.wf wf8
    have hgi8 : GIn h6.n G h8 := (gi.weaken).up (by omega)
    have kits : Keep (Its h6.n G h8) h8 h9 := its_of_groups cl8 hmine k9
    have cl9 : Clean h6.n (More G h8.n h9.n) h9 := cl8.round hgi8 wf9 kits
    have hstep : wrAll (W.take (j + 1)) D = (wrAll (W.take j) D).1.write ((fr + 1 + j : Nat) : Int) (0 :: chunk b j) := by
      rw [← hW, chunksW_succ (by omega), wrAll_app, hW, if_neg (by simpa using hz), wrAll_one]
    rw [← hstep] at d9
    have k69 : KeepA gs h6 h9 := k68.then wf6 k9 n7
    have n69 : Next gs gs9 h6 := fun g hg => by
      rcases n9 g hg with x | x
      · exact n7 g x
      · have := k68.n; exact .inr (by omega)
    have hm9 : ∀ g ∈ gs9, Mine h6.n (More G h8.n h9.n) g := fun g hg => by
      rcases n9 g hg with x | x
      · exact (hmine g x).imp id .inl
      · exact .inr (.inr ⟨x, d9.lt wf9 g hg⟩)
    rw [n8] at hm9 cl9
    simp only [go_sem, ↓reduceIte, Nat.reduceEqDiff]
    refine WS_of_seq (WS_of_ops ?_)
    rw [← hstep]
    have hkk : ∀ {hx : H}, Keep (Its h6.n G h8) h8 hx → Keep (Its h6.n G h7) h8 hx := fun kk => kk.weaken fun q hq => ⟨hq.1, by have := hq.2.1; omega, hq.2.2⟩
    by_cases c : (wrAll (W.take (j + 1)) D).2 = 0
    · have c' : ((wrAll (W.take (j + 1)) D).2 : Int) = 0 := by omega
      simp only [f39_r11, go_sem, ↓reduceIte, Nat.reduceEqDiff, c', decide_true, Bool.not_true]
      refine WS_of_cond ?_
      simp only [go_sem, ↓reduceIte, Bool.false_eq_true]
      refine WS_of_skip ?_
      simp only [go_sem]
      refine ⟨hkk kits, gs9, k69, n69, d9.mine wf9 cl9 hm9, c, wf9, ?_⟩
      have h1 := (wrAll_wl (W.take (j + 1)) D).1
      have : (W.take (j + 1)).length ≤ j + 1 := by rw [List.length_take]; omega
      omega
    · have c' : ¬ ((wrAll (W.take (j + 1)) D).2 : Int) = 0 := by omega
      simp only [f39_r11, go_sem, ↓reduceIte, Nat.reduceEqDiff, c', decide_false, Bool.not_false]
      refine WS_of_cond ?_
      simp only [go_sem, ↓reduceIte]
      have y29 := y2.keepA wf6 k69 (nin _ (by omega))
      obtain ⟨h10, e10, b10, k10⟩ := y29.put wf9 (i := 0) (n := 1) (v := .int .i64 ((wrAll (W.take (j + 1)) D).2 : Int)) rfl rfl (by simp)
      have hn10 := storeA_n e10
      have wf10 := k10.wf wf9
      refine WS_of_seq (WS_of_ops ?_)
      simp only [f39_r12, go_sem, ↓reduceIte, Nat.reduceEqDiff, e10]
      refine WS_of_ret ?_
      have hall : wrAll W D = wrAll (W.take (j + 1)) D := by
        conv => lhs; rw [← List.take_append_drop (j + 1) W]
        rw [wrAll_app, if_pos c]
      have hng : h1.n ∉ gs9 := fun hm => by
        rcases n69 _ hm with x | x
        · exact nin _ (by omega) x
        · omega
      have d10 := d9.apart wf9 hng y29.root k10
      have cl10 : Clean h6.n (More G h7.n h9.n) h10 := cl9.box wf9 y29 k10 b10 hn10
      have on := Box.only wf9 y29 k10
      refine ⟨hkk (kits.trans (on.weaken fun q hq => ⟨by have := hq.2.1; have := k9.n; omega, by have := hq.1; omega⟩)), .inr ⟨trivial, gs9, ?_, n69, ?_, by rw [hall]; exact c, by rw [hall]; exact b10, wf10⟩⟩
      · exact (k69.mono (gs' := h1.n :: gs) (by simp +contextual)).then wf6 k10 (fun g hg => .inl (by simp only [List.mem_cons, List.not_mem_nil, or_false] at hg; subst hg; simp))
      · rw [hall]
        rw [hn10]
        exact d10.mine wf10 cl10 hm9
  · rintro G h7 ⟨gs', k7, n7, d7, hz, wf7, -⟩
    rw [← hWl, List.take_length] at d7 hz
    exact .inl ⟨rfl, gs', k7, n7, d7, hz, wf7⟩
  · rintro G p h7 (⟨rfl, gs', k7, n7, d7, hz, wf7⟩ | ⟨rfl, gs', k7, n7, d7, hz, bx, wf7⟩)
    case inr =>
      have hA : jappend D fr to ep us.length b = wrAll W D := by rw [hjA, if_pos hz]
      simp only [f39_a, go_sem, ↓reduceIte, Nat.reduceEqDiff, bx.load, List.getElem?_cons_zero]
      rw [hA]
      refine apost_bad wf l rc hdis hroot ((KeepA.of (gs := gs) k06).then wf k7 (fun g hg => ?_)) (fun g hg => (n7 g hg).imp id (fun x => by have := k06.n; omega)) d7.at hz
      rcases List.mem_cons.1 hg with rfl | hg
      · exact .inr (by omega)
      · exact .inl hg
    have hnb : ¬ (wrAll W D).2 ≠ 0 := by simpa using hz
    rw [if_neg hnb] at hjA
    have hwl7 := wrAll_wl W D
    generalize (wrAll W D).1 = D7 at *
    have badX : ∀ {h3 : H} {gs3 : List Nat} {D' : Dk} {e : Nat} (wf3 : h3.Wf) (k3 : KeepA gs h6 h3) (n3 : Next gs gs3 h6) (d3 : DiskAt h3 o gs3 D') (hA : jappend D fr to ep us.length b = (D', e)) (he : e ≠ 0),
        ∃ h4, storeA h3 1 (.ptr h1.n 0) (.int .i64 (e : Int)) = some h4 ∧ loadA h4 false 1 (.ptr h1.n 0) = some (.int .i64 (e : Int)) ∧ APost E h ol o fr to ep gl gs K b (jappend D fr to ep us.length b) (.val (.int .i64 (e : Int))) h4 := by
      intro h3 gs3 D' e wf3 k3 n3 d3 hA he
      exact bad wf3 ((KeepA.of (gs := gs) k06).then wf k3 (fun g hg => .inl hg)) (fun g hg => (n3 g hg).imp id (fun x => by omega)) d3 ⟨_, y2.keepA wf6 k3 (fun hm => by have := hlt _ hm; omega)⟩ hA he
    have nin : ∀ q, h.n ≤ q → q ∉ gs := fun q hq hm => by have := hlt _ hm; omega
    simp only [go_sem]
    -- the first flush
    have y17 := y1.keepA wf6 k7 (nin _ (Nat.le_refl _))
    have lb7 := l6.b.keepA wf6 k7 hol
    refine WS_of_seq (WS_of_seq (WS_of_ops ?_))
    simp only [f39_r15, go_sem, ↓reduceIte, Nat.reduceEqDiff, Nat.zero_add, y17.load, lb7.load, List.getElem?_cons_zero]
    refine (flush_spec wf7 d7.at (by omega)).mono ?_
    rintro r h8 ⟨gs8, rfl, d8, k8, n8⟩
    have wf8 := k8.wf wf7
    have k68 : KeepA gs h6 h8 := k7.then wf6 k8 n7
    have n68 : Next gs gs8 h6 := fun g hg => n7 g (n8 g hg)
    have fl7 := flush_len d7.at.ok
    simp only [go_sem, ↓reduceIte, Nat.reduceEqDiff]
    refine WS_of_seq (WS_of_ops ?_)
    simp only at hjA
    by_cases c5 : D7.flush.2 = 0
    case neg =>
      have c5' : ¬ (D7.flush.2 : Int) = 0 := by omega
      have hA : jappend D fr to ep us.length b = (D7.flush.1, D7.flush.2) := by rw [hjA, if_pos c5]
      obtain ⟨h9, e9, e9', P⟩ := badX wf8 k68 n68 d8 hA c5
      simp only [f39_r16, go_sem, ↓reduceIte, Nat.reduceEqDiff, c5', decide_false, Bool.not_false]
      refine WS_of_cond ?_
      simp only [go_sem, ↓reduceIte]
      refine WS_of_seq (WS_of_ops ?_)
      simp only [f39_r17, go_sem, ↓reduceIte, Nat.reduceEqDiff, e9]
      refine WS_of_ret ?_
      simp only [f39_a, go_sem, ↓reduceIte, Nat.reduceEqDiff, e9']
      exact P
    have c5' : (D7.flush.2 : Int) = 0 := by omega
    rw [if_neg (by simpa using c5)] at hjA
    simp only [f39_r16, go_sem, ↓reduceIte, Nat.reduceEqDiff, c5', decide_true, Bool.not_true]
    refine WS_of_cond ?_
    simp only [go_sem, ↓reduceIte, Bool.false_eq_true]
    refine WS_of_skip ?_
    simp only [go_sem]
    generalize D7.flush.1 = D8 at *
    -- the head
    have y18 := y1.keepA wf6 k68 (nin _ (Nat.le_refl _))
    have lb8 := l6.b.keepA wf6 k68 hol
    have hrl : lenSA rv = some us.length := l.rs.len
    have kn : Keep (Old h8.n) h8 (h8.new [.int .u64 0, .int .u64 0, .int .u64 0]) := Keep.new (Nat.le_refl _) _
    have bn : Box h8.n [.int .u64 0, .int .u64 0, .int .u64 0] (h8.new [.int .u64 0, .int .u64 0, .int .u64 0]) := Box.new wf8 _
    have wfn := kn.wf wf8
    obtain ⟨h9, e9, b9, k9⟩ := bn.putAll (n := 3) (vs := [.int .u64 (ep : Int), .int .u64 (us.length : Int), .int .u64 (b.length : Int)]) wfn rfl rfl rfl
    have k89 : Keep (Old h8.n) h8 h9 := kn.trans (k9.newbox wfn kn.n (Nat.le_refl _))
    have wf9 := k89.wf wf8
    have y1n := y18.keep kn (y18.lt wf8)
    have lbn := lb8.keep kn (lb8.lt wf8)
    have ef : afill [AV.int .u64 0, .int .u64 0, .int .u64 0] [(0, 1, .int .u64 (ep : Int)), (1, 1, .int .u64 (us.length : Int)), (2, 1, .int .u64 (b.length : Int))] = some [.int .u64 (ep : Int), .int .u64 (us.length : Int), .int .u64 (b.length : Int)] := rfl
    have w1 : IntKind.u64.wrap (us.length : Int) = (us.length : Int) := wrap_u64 (by omega) (by omega)
    have w2 : IntKind.u64.wrap (b.length : Int) = (b.length : Int) := wrap_u64 (by omega) (by omega)
    refine WS_of_seq (WS_of_draw ?_)
    simp only [f39_r18, go_sem, ↓reduceIte, Nat.reduceEqDiff, and_self, true_and, List.filter_cons, List.filter_nil, Nat.testBit, Nat.reduceShiftRight, Nat.reduceAnd, Nat.reduceBNe, Bool.not_false, Bool.not_true, Bool.false_eq_true, bne_self_eq_false, eq_self, Nat.zero_add, y18.load, lb8.load, y1n.load, lbn.load, List.getElem?_cons_zero, List.getElem?_cons_succ, hrl, hbl, w1, w2, ef, e9]
    have k69 : KeepA gs h6 h9 := k68.trans ((KeepA.of (gs := []) k89).weaken fun q hq => ⟨by have := hq.1; have := k68.n; omega, by simp, by simp⟩)
    have y19 := y1.keepA wf6 k69 (nin _ (Nat.le_refl _))
    have lb9 := l6.b.keepA wf6 k69 hol
    have d9 := d8.keep wf8 k89
    have la9 : loadA h9 true 3 (.ptr h8.n 0) = some (.agg [.int .u64 (ep : Int), .int .u64 (us.length : Int), .int .u64 (b.length : Int)]) := b9.loadAgg rfl
    refine WS_of_seq (WS_of_seq (WS_of_draw ?_))
    simp only [f39_r19, go_sem, ↓reduceIte, Nat.reduceEqDiff, and_self, true_and, List.filter_cons, List.filter_nil, Nat.testBit, Nat.reduceShiftRight, Nat.reduceAnd, Nat.reduceBNe, Bool.not_false, Bool.not_true, Bool.false_eq_true, bne_self_eq_false, eq_self, Nat.zero_add, y19.load, lb9.load, la9, List.getElem?_cons_zero, List.getElem?_cons_succ]
    refine (sector_spec (e := ep) (k := us.length) (n := b.length) wf9 hep (by omega) (by omega)).mono ?_
    rintro r h10 ⟨v10, rfl, b10, o10, k10⟩
    have wf10 := k10.wf wf9
    have y110 := y19.keep k10 (y19.lt wf9)
    have lb10 := lb9.keep k10 (lb9.lt wf9)
    have la10 : loadA h10 true 3 (.ptr h8.n 0) = some (.agg [.int .u64 (ep : Int), .int .u64 (us.length : Int), .int .u64 (b.length : Int)]) := (b9.keep k10 (b9.lt wf9)).loadAgg rfl
    have d10 := d9.keep wf9 k10
    have s10 : Slot (Apart gs8 h10) h10 v10 := own_apart wf10 o10 k10 fun g hg => ⟨d9.lt wf9 g hg, d9.root g hg⟩
    have k6_10 : KeepA gs h6 h10 := k69.trans (k10.weaken fun q hq => Nat.lt_of_lt_of_le hq.1 k69.n)
    simp only [go_sem, ↓reduceIte, Nat.reduceEqDiff, and_self, true_and, List.filter_cons, List.filter_nil, Nat.testBit, Nat.reduceShiftRight, Nat.reduceAnd, Nat.reduceBNe, Bool.not_false, Bool.not_true, Bool.false_eq_true, bne_self_eq_false, eq_self, Nat.zero_add, y19.load, lb9.load, y110.load, lb10.load, la9, la10, List.getElem?_cons_zero, List.getElem?_cons_succ]
    refine (write_spec wf10 d10 (fr : Int) b10 s10 (by omega)).mono ?_
    rintro r h11 ⟨gs11, rfl, d11, k11, n11⟩
    have wf11 := k11.wf wf10
    have k6_11 : KeepA gs h6 h11 := k6_10.then wf6 k11 n68
    have n6_11 : Next gs gs11 h6 := fun g hg => by
      rcases n11 g hg with x | x
      · exact n68 g x
      · have := k6_10.n; exact .inr (by omega)
    have y111 := y1.keepA wf6 k6_11 (nin _ (Nat.le_refl _))
    have lb11 := l6.b.keepA wf6 k6_11 hol
    simp only [go_sem, ↓reduceIte, Nat.reduceEqDiff, and_self, true_and, List.filter_cons, List.filter_nil, Nat.testBit, Nat.reduceShiftRight, Nat.reduceAnd, Nat.reduceBNe, Bool.not_false, Bool.not_true, Bool.false_eq_true, bne_self_eq_false, eq_self, Nat.zero_add, y19.load, lb9.load, y110.load, lb10.load, y111.load, lb11.load, List.getElem?_cons_zero, List.getElem?_cons_succ]
    refine WS_of_seq (WS_of_ops ?_)
    have wl8 := write_len D8 (fr : Int) (headB ep us.length b.length)
    by_cases c6 : (D8.write (fr : Int) (headB ep us.length b.length)).2 = 0
    case neg =>
      have c6' : ¬ ((D8.write (fr : Int) (headB ep us.length b.length)).2 : Int) = 0 := by omega
      have hA : jappend D fr to ep us.length b = ((D8.write (fr : Int) (headB ep us.length b.length)).1, (D8.write (fr : Int) (headB ep us.length b.length)).2) := by rw [hjA, if_pos c6]
      obtain ⟨h12, e12, e12', P⟩ := badX wf11 k6_11 n6_11 d11 hA c6
      simp only [f39_r20, go_sem, ↓reduceIte, Nat.reduceEqDiff, c6', decide_false, Bool.not_false]
      refine WS_of_cond ?_
      simp only [go_sem, ↓reduceIte]
      refine WS_of_seq (WS_of_ops ?_)
      simp only [f39_r21, go_sem, ↓reduceIte, Nat.reduceEqDiff, e12]
      refine WS_of_ret ?_
      simp only [f39_a, go_sem, ↓reduceIte, Nat.reduceEqDiff, e12']
      exact P
    have c6' : ((D8.write (fr : Int) (headB ep us.length b.length)).2 : Int) = 0 := by omega
    rw [if_neg (by simpa using c6)] at hjA
    simp only [f39_r20, go_sem, ↓reduceIte, Nat.reduceEqDiff, c6', decide_true, Bool.not_true]
    refine WS_of_cond ?_
    simp only [go_sem, ↓reduceIte, Bool.false_eq_true]
    refine WS_of_skip ?_
    simp only [go_sem]
    generalize (D8.write (fr : Int) (headB ep us.length b.length)).1 = D9 at *
    -- the second flush
    refine WS_of_seq (WS_of_seq (WS_of_ops ?_))
    simp only [f39_r22, go_sem, ↓reduceIte, Nat.reduceEqDiff, Nat.zero_add, y111.load, lb11.load, List.getElem?_cons_zero]
    refine (flush_spec wf11 d11 (by omega)).mono ?_
    rintro r h12 ⟨gs12, rfl, d12, k12, n12⟩
    have wf12 := k12.wf wf11
    have k6_12 : KeepA gs h6 h12 := k6_11.then wf6 k12 n6_11
    have n6_12 : Next gs gs12 h6 := fun g hg => n6_11 g (n12 g hg)
    simp only [go_sem, ↓reduceIte, Nat.reduceEqDiff]
    refine WS_of_seq (WS_of_ops ?_)
    by_cases c7 : D9.flush.2 = 0
    case neg =>
      have c7' : ¬ (D9.flush.2 : Int) = 0 := by omega
      obtain ⟨h13, e13, e13', P⟩ := badX (D' := D9.flush.1) (e := D9.flush.2) wf12 k6_12 n6_12 d12 hjA c7
      simp only [f39_r23, go_sem, ↓reduceIte, Nat.reduceEqDiff, c7', decide_false, Bool.not_false]
      refine WS_of_cond ?_
      simp only [go_sem, ↓reduceIte]
      refine WS_of_seq (WS_of_ops ?_)
      simp only [f39_r24, go_sem, ↓reduceIte, Nat.reduceEqDiff, e13]
      refine WS_of_ret ?_
      simp only [f39_a, go_sem, ↓reduceIte, Nat.reduceEqDiff, e13']
      exact P
    have c7' : (D9.flush.2 : Int) = 0 := by omega
    simp only [f39_r23, go_sem, ↓reduceIte, Nat.reduceEqDiff, c7', decide_true, Bool.not_true]
    refine WS_of_cond ?_
    simp only [go_sem, ↓reduceIte, Bool.false_eq_true]
    refine WS_of_skip ?_
    simp only [go_sem]
    rw [hjA]
    -- the record put
    have y112 := y1.keepA wf6 k6_12 (nin _ (Nat.le_refl _))
    have y212 := y2.keepA wf6 k6_12 (nin _ (by omega))
    have l12 := l6.apart wf6 k6_12 hdis hroot6
    have bb12 : Bytes h12 bv b := bb6.keep k6_12 sb6
    have sb12 : Slot (Old h12.n) h12 bv := (sb6.keepA k6_12).old
    refine WS_of_seq (WS_of_draw ?_)
    simp only [f39_r25, go_sem, ↓reduceIte, Nat.reduceEqDiff, and_self, true_and, List.filter_cons, List.filter_nil, Nat.testBit, Nat.reduceShiftRight, Nat.reduceAnd, Nat.reduceBNe, Bool.not_false, Bool.not_true, Bool.false_eq_true, bne_self_eq_false, eq_self, y112.load, List.getElem?_cons_zero]
    refine (cloneb_spec wf12 bb12 sb12 (by omega)).mono ?_
    rintro r h13 ⟨v13, rfl, b13, o13, k13⟩
    have wf13 := k13.wf wf12
    have y113 := y112.keep k13 (y112.lt wf12)
    have y213 := y212.keep k13 (y212.lt wf12)
    have l13 := l12.keep wf12 k13
    have d13 := d12.keep wf12 k13
    have hgr : ∀ g ∈ gl ++ gs12, g < h12.n ∧ Root g h12 := fun g hg => by
      rcases List.mem_append.1 hg with x | x
      · exact ⟨l12.lt wf12 g x, l12.root g x⟩
      · exact ⟨d12.lt wf12 g x, d12.root g x⟩
    have svA := own_apart wf13 o13 k13 hgr
    have sv := apart_less (gs' := gl) svA (fun g hg => by simp [hg])
    simp only [go_sem, ↓reduceIte, Nat.reduceEqDiff, and_self, true_and, List.filter_cons, List.filter_nil, Nat.testBit, Nat.reduceShiftRight, Nat.reduceAnd, Nat.reduceBNe, Bool.not_false, Bool.not_true, Bool.false_eq_true, bne_self_eq_false, eq_self, y112.load, y113.load, List.getElem?_cons_zero]
    refine (jput_spec wf13 l13 b13 sv (by omega) (by omega) (by omega)).mono ?_
    rintro r h14 ⟨gl', rv', rfl, l14, k14, n14⟩
    have wf14 := k14.wf wf13
    have hglt := l.lt wf
    have nil' : ∀ q, h.n ≤ q → q < h13.n → q ∉ gl' := fun q hq hq2 hm => by
      rcases n14 q hm with x | x
      · have := hglt q x; omega
      · omega
    have ningl : ∀ q, h.n ≤ q → q ∉ gl := fun q hq hm => by have := hglt _ hm; omega
    have y114 := y113.keepA wf13 k14 (ningl _ (Nat.le_refl _))
    have y214 := y213.keepA wf13 k14 (ningl _ (by omega))
    simp only [go_sem, ↓reduceIte, Nat.reduceEqDiff, and_self, true_and, List.filter_cons, List.filter_nil, Nat.testBit, Nat.reduceShiftRight, Nat.reduceAnd, Nat.reduceBNe, Bool.not_false, Bool.not_true, Bool.false_eq_true, bne_self_eq_false, eq_self, y112.load, y113.load, y114.load, List.getElem?_cons_zero]
    obtain ⟨h15, e15, b15, k15⟩ := y214.put wf14 (i := 0) (n := 1) (v := .int .i64 0) rfl rfl (by simp)
    have wf15 := k15.wf wf14
    refine WS_of_seq (WS_of_ops ?_)
    simp only [f39_r26, go_sem, ↓reduceIte, Nat.reduceEqDiff, e15]
    refine WS_of_ret ?_
    have lb15 : loadA h15 false 1 (.ptr h1.n 0) = some (.int .i64 0) := by rw [b15.load]; rfl
    simp only [f39_a, go_sem, ↓reduceIte, Nat.reduceEqDiff, lb15]
    have hlt13 := d13.lt wf13
    have hroot13 := d13.root
    have disgs : ∀ g ∈ gs12, g ∉ gl := fun g hg hm => by
      rcases n6_12 g hg with x | x
      · exact hdis g hm x
      · have := hglt g hm; have := k06.n; omega
    have d14 : DiskAt h14 o gs12 D9.flush.1 := by
      obtain ⟨gk, kv, wv, d13⟩ := d13
      obtain ⟨s1, s2, -, m1, m2⟩ := d13.away wf13
      have hrg : ∀ x ∈ gl, Root x h13 := l13.root
      have sk := d13.kg.away wf13 (disgs _ m2) hrg
      rcases d13.wg with ⟨rfl, e⟩ | ⟨gw, a1, a2, a3, e⟩
      · exact ⟨gk, kv, _, ⟨d13.box.keepA wf13 k14 (disgs _ m1), d13.ks.keep k14 sk, d13.kg.keep sk k14, d13.ws.keep k14 trivial, d13.ne, .inl ⟨rfl, e⟩, d13.ok⟩⟩
      · have sw := a3.away wf13 (disgs gw (by rw [e]; simp)) hrg
        exact ⟨gk, kv, wv, ⟨d13.box.keepA wf13 k14 (disgs _ m1), d13.ks.keep k14 sk, d13.kg.keep sk k14, d13.ws.keep k14 sw, d13.ne, .inr ⟨gw, a1, a2, a3.keep sw k14, e⟩, d13.ok⟩⟩
    have h1gs : h1.n ∉ gs12 := fun hm => by
      rcases n6_12 _ hm with x | x
      · exact nin _ (by omega) x
      · omega
    have h1gl : h1.n ∉ gl' := nil' _ (by omega) (by have := k6_12.n; have := k13.n; omega)
    have kF1 : KeepA (gl ++ gs) h h13 := by
      have x1 := (KeepA.of (gs := gl ++ gs) k06).then wf k6_12 (fun g hg => .inl (by simp [hg]))
      exact x1.then wf (KeepA.of (gs := []) k13) (fun g hg => by simp at hg)
    have kF2 := kF1.then wf k14 (fun g hg => .inl (by simp [hg]))
    have kF3 := kF2.then wf k15 (fun g hg => by simp only [List.mem_cons, List.not_mem_nil, or_false] at hg; subst hg; exact .inr (by omega))
    have nF : Next (gl ++ gs) (gl' ++ gs12) h := fun g hg => by
      rcases List.mem_append.1 hg with x | x
      · rcases n14 g x with y | y
        · exact .inl (by simp [y])
        · have := kF1.n; exact .inr (by omega)
      · rcases n6_12 g x with y | y
        · exact .inl (by simp [y])
        · have := k06.n; exact .inr (by omega)
    have hrK : ∀ {hh : H}, Root h1.n hh → ∀ x ∈ [h1.n], Root x hh := fun r => by simpa using r
    have l15 := l14.apart wf14 k15 (fun g hg hm => by simp only [List.mem_cons, List.not_mem_nil, or_false] at hm; subst hm; exact h1gl hg) (hrK y214.root)
    have n7' : Next gl gl' h13 := n14
    have rc15 := rc.next wf (kF3.mono fun g hg => by simp only [List.mem_append] at hg ⊢; exact .inl hg) (next_E (E := E) nF)
    refine ⟨gs12, gl', rv', us ++ [v13], by rw [c7]; rfl, d14.apart wf14 h1gs y214.root k15, ?_, ?_, kF3, nF, fun g hg hm => ?_⟩
    · rw [if_pos c7]; exact l15
    · rw [if_pos c7]
      refine ⟨by simp [rc.1], fun i u hu => ?_⟩
      by_cases hi : i < us.length
      · rw [List.getElem?_append_left hi] at hu
        have := rc15.2 i u hu
        rw [List.getD_eq_getElem?_getD, List.getElem?_append_left (by rw [← rc.1]; exact hi), ← List.getD_eq_getElem?_getD]
        exact this
      · rw [List.getElem?_append_right (by omega)] at hu
        have hi' : i = us.length := by
          have := (List.getElem?_eq_some_iff.1 hu).1
          simp at this
          omega
        subst hi'
        simp at hu
        subst hu
        rw [List.getD_eq_getElem?_getD, List.getElem?_append_right (by rw [rc.1]; exact Nat.le_refl _), rc.1]
        simp only [Nat.sub_self, List.getElem?_cons_zero, Option.getD_some]
        -- the record's own slice
        have kF0 := (KeepA.of (gs := gl ++ gs) k06).then wf k6_12 (fun g hg => .inl (by simp [hg]))
        have hgr2 : ∀ g ∈ h1.n :: (gl ++ gs12 ++ E), g < h12.n ∧ Root g h12 := fun g hg => by
          rcases List.mem_cons.1 hg with rfl | x
          · exact ⟨y212.lt wf12, y212.root⟩
          · rcases List.mem_append.1 x with x | x
            · exact hgr g x
            · have hr := (hE g x).1.keep kF0 ((hE g x).1.apart wf (hE g x).2)
              obtain ⟨cs, e⟩ := hr
              exact ⟨wf12.ob _ _ e, cs, e⟩
        have svB := own_apart wf13 o13 k13 hgr2
        have kB14 : KeepA (h1.n :: (gl ++ gs12 ++ E)) h13 h14 := k14.mono fun g hg => by simp [hg]
        have nB14 : Next (h1.n :: (gl ++ gs12 ++ E)) (h1.n :: (gl' ++ gs12 ++ E)) h13 := fun g hg => by
          rcases List.mem_cons.1 hg with rfl | x
          · exact .inl (by simp)
          · rw [List.append_assoc] at x
            rcases List.mem_append.1 x with y | y
            · rcases n14 g y with z | z
              · exact .inl (by simp [z])
              · exact .inr z
            · exact .inl (by rw [List.append_assoc]; exact List.mem_cons_of_mem _ (List.mem_append_right _ y))
        have svB14 := Slot.next wf13 svB kB14 nB14
        have kB15 : KeepA (h1.n :: (gl' ++ gs12 ++ E)) h14 h15 := k15.mono fun g hg => by simp only [List.mem_cons, List.not_mem_nil, or_false] at hg; simp [hg]
        have svB15 := svB14.keepA kB15
        exact ⟨(b13.keep k14 sv).keep k15 (apart_less svB14 (fun g hg => by simp only [List.mem_cons, List.not_mem_nil, or_false] at hg; simp [hg])), apart_less svB15 (fun g hg => List.mem_cons_of_mem _ hg)⟩
    · rcases n14 g hg with x | x
      · exact disgs g hm x
      · have := hlt13 g hm; omega
theorem append_spec {h : H} {ol o fr to ep : Nat} {gl gs : List Nat} {rv bv : AV} {us : List AV} {K : List Sec} {D : Dk} {b : Sec} (wf : h.Wf) (l : LogIs h ol o fr to ep gl rv us) (d : DiskAt h o gs D) (hdis : ∀ g ∈ gl, g ∉ gs) (rc : Recs (gl ++ gs) h us K)
    (bb : Bytes h bv b) (sb : Slot (Apart (gl ++ gs) h) h bv) (hft : fr ≤ to) (hto : to ≤ 900000) (hul : us.length < 900000) (hwl : D.waits.length < 900000) (hb : b.length < 1000000) (hep : ep < 18446744073709551616) :
    WCall E0 39 [.ptr ol 0, bv] h (APost [] h ol o fr to ep gl gs K b (jappend D fr to ep us.length b)) :=
  append_specE wf l d hdis [] (by simp) (by rw [List.append_nil]; exact rc) bb sb hft hto hul hwl hb hep
end Go.Proofs.Ytmfbememiffkjaa.Ev.C

/- A record appended to a disk that lives, and a journal opened over nothing: plain laws. -/
namespace Go.Proofs.Ytmfbememiffkjaa.Ev.C
open Go Go.Proofs.Ytmfbememiffkjaa.Ev
set_option linter.unusedSimpArgs false
set_option linter.unusedVariables false
theorem chunk_len (b : Sec) (j : Nat) : (chunk b j).length ≤ 63 := by unfold chunk; rw [List.length_take]; omega
theorem headB_len {ep k n : Nat} (h1 : ep < 18446744073709551616) (h2 : k < 18446744073709551616) (h3 : n < 18446744073709551616) : (headB ep k n).length ≤ 28 := by
  have := nb_le8 h1
  have := nb_le8 h2
  have := nb_le8 h3
  simp only [headB, List.length_cons, List.length_append, num_length]
  omega
def padW (w : Nat × Sec) : Nat × Sec := (w.1, pad w.2)
/-- a record's sectors, as they are written -/
def recW (fr ep k : Nat) (b : Sec) : List (Nat × Sec) := (chunksW fr b).map padW ++ [(fr, pad (headB ep k b.length))]
theorem write_live {D : Dk} (ha : D.armed = 0) (hd : D.dead = false) {i : Nat} {b : Sec} (hi : i < D.kept.length) (hb : b.length ≤ 64) : D.write (i : Int) b = ({ D with waits := D.waits ++ [(i, pad b)] }, 0) := by
  rw [Dk.write_good (has_iff.2 ⟨i, rfl, hi⟩) hb (by rw [Dk.counted_zero ha]; exact hd), Dk.counted_zero ha, Int.toNat_natCast]
theorem flush_live {D : Dk} (ha : D.armed = 0) (hd : D.dead = false) : D.flush = ({ D with kept := D.waits.foldl putS D.kept, waits := [] }, 0) := by
  unfold Dk.flush
  rw [Dk.counted_zero ha, if_neg (by rw [hd]; simp)]
theorem wrAll_live : ∀ (W : List (Nat × Sec)) {D : Dk}, D.armed = 0 → D.dead = false → (∀ w ∈ W, w.1 < D.kept.length ∧ w.2.length ≤ 64) → wrAll W D = ({ D with waits := D.waits ++ W.map padW }, 0)
  | [], D, ha, hd, _ => by simp [wrAll]
  | w :: W, D, ha, hd, h => by
    have e := write_live ha hd (h w (by simp)).1 (h w (by simp)).2
    rw [wrAll_good _ (by rw [e]; simp), e, wrAll_live W (D := { D with waits := D.waits ++ [(w.1, pad w.2)] }) ha hd (fun x hx => h x (by simp [hx]))]
    simp [padW]
theorem foldl_putS_len (W : List (Nat × Sec)) (K : List Sec) : (W.foldl putS K).length = K.length := by
  induction W generalizing K with
  | nil => rfl
  | cons w W ih => rw [List.foldl_cons, ih, putS_len]
theorem chunksW_mem {fr : Nat} {b : Sec} {w : Nat × Sec} (h : w ∈ chunksW fr b) : ∃ j, j < nchunk b.length ∧ w = (fr + 1 + j, 0 :: chunk b j) := by
  unfold chunksW at h
  obtain ⟨j, hj, rfl⟩ := List.mem_map.1 h
  exact ⟨j, List.mem_range.1 hj, rfl⟩
theorem jappend_live {D : Dk} (ha : D.armed = 0) (hd : D.dead = false) (hw : D.waits = []) {fr to ep k : Nat} {b : Sec} (hb : b.length ≤ 4096) (hj : jsize b.length ≤ to - fr) (hto : to ≤ D.kept.length) (hep : ep < 18446744073709551616) (hk : k < 18446744073709551616) :
    jappend D fr to ep k b = ({ D with kept := (recW fr ep k b).foldl putS D.kept, waits := [] }, 0) := by
  have hjn := nchunk_jsize b.length
  have hW : ∀ w ∈ chunksW fr b, w.1 < D.kept.length ∧ w.2.length ≤ 64 := fun w hw => by
    obtain ⟨j, hj, rfl⟩ := chunksW_mem hw
    have := chunk_len b j
    exact ⟨by show fr + 1 + j < _; omega, by simp only [List.length_cons]; omega⟩
  unfold jappend
  rw [if_neg (by omega), if_neg (by omega), wrAll_live _ ha hd hW, if_neg (by simp)]
  simp only [hw, List.nil_append]
  rw [flush_live (D := { D with waits := (chunksW fr b).map padW }) ha hd]
  simp only [ne_eq, not_true_eq_false, if_false]
  have hh := headB_len hep hk (n := b.length) (by omega)
  rw [write_live (D := { D with kept := ((chunksW fr b).map padW).foldl putS D.kept, waits := [] }) ha hd (by show fr < (((chunksW fr b).map padW).foldl putS D.kept).length; rw [foldl_putS_len]; omega) (by omega)]
  simp only [List.nil_append, if_false]
  rw [flush_live (D := { D with kept := ((chunksW fr b).map padW).foldl putS D.kept, waits := [(fr, pad (headB ep k b.length))] }) ha hd]
  simp only [recW, List.foldl_append, ne_eq, not_true_eq_false, if_false]
theorem jopen_none {sc : Nat → Sec} {fr to ep : Nat} (h : jnext sc fr to ep 0 = none) : jopen sc fr to ep = ([], fr) := by
  simp [jopen, jrun, h]
theorem jnext_none {sc : Nat → Sec} {fr to ep k : Nat} (h : (hd (sc fr)).2 = false) : jnext sc fr to ep k = none := by
  unfold jnext
  rw [if_neg]
  rintro ⟨_, h2, _⟩
  rw [h] at h2
  exact absurd h2 (by simp)
theorem hd_zero {b : Sec} (h : b.head? ≠ some 1) : (hd b).2 = false := by unfold hd; rw [if_neg h]
theorem findS_new {n i : Nat} (hi : i < n) : findS (Dk.new n) i = List.replicate 64 0 := by
  rw [findS_no rfl, List.getD_eq_getElem?_getD]
  simp [Dk.new, hi]
theorem jnext_end {sc : Nat → Sec} {fr to ep k : Nat} (h : to ≤ fr) : jnext sc fr to ep k = none := by
  unfold jnext
  rw [if_neg]
  rintro ⟨h1, _⟩
  omega
theorem jopen_new {n fr to ep : Nat} (h : to ≤ n) : jopen (findS (Dk.new n)) fr to ep = ([], fr) := by
  refine jopen_none ?_
  by_cases c : fr < to
  · refine jnext_none (hd_zero ?_)
    rw [findS_new (by omega)]
    decide
  · exact jnext_end (by omega)
end Go.Proofs.Ytmfbememiffkjaa.Ev.C

/- Small functions of the laws: walked. -/
namespace Go.Proofs.Ytmfbememiffkjaa.Ev.C
open Go Go.Proofs.Ytmfbememiffkjaa.Ev
set_option linter.unusedSimpArgs false
set_option linter.unusedVariables false
theorem append_nil {h : H} {bv : AV} (wf : h.Wf) (hb : bv.cells = [bv]) : WCall E0 39 [.nilp, bv] h fun r h' => r = .val (.int .i64 1) ∧ Keep (Old h.n) h h' := by
  refine WCall_ws (ovn 39) U39 (by simp [f39_a]) ?_
  show WS E0 f39_c [] _ _ _
  refine WS_of_seq (WS_of_ops ?_)
  have k1 : Keep (Old h.n) h (h.new [.nilp]) := Keep.new (Nat.le_refl _) _
  have b1 : Box h.n [.nilp] (h.new [.nilp]) := Box.new wf _
  have n1 : (h.new [.nilp]).n = h.n + 1 := rfl
  have hci : (AV.nilp).cells = [.nilp] := rfl
  simp only [f39_r0, go_sem, ↓reduceIte, Nat.reduceEqDiff, hci]
  generalize h.new [.nilp] = h1 at k1 b1 n1 ⊢
  have wf1 := k1.wf wf
  have k2 : Keep (Old h1.n) h1 (h1.new [.int .i64 0]) := Keep.new (Nat.le_refl _) _
  have b2 : Box h1.n [.int .i64 0] (h1.new [.int .i64 0]) := Box.new wf1 _
  have n2 : (h1.new [.int .i64 0]).n = h1.n + 1 := rfl
  generalize h1.new [.int .i64 0] = h2 at k2 b2 n2 ⊢
  have wf2 := k2.wf wf1
  have b12 := b1.keep k2 (b1.lt wf1)
  obtain ⟨h4, e4, b4, k4⟩ := b2.put wf2 (i := 0) (n := 1) (v := .int .i64 1) rfl rfl (by simp)
  have l4 : loadA h4 false 1 (.ptr h1.n 0) = some (.int .i64 1) := by rw [b4.load]; rfl
  refine WS_of_seq (WS_of_block (WS_of_seq (WS_of_ops ?_)))
  simp only [f39_r1, go_sem, ↓reduceIte, Nat.reduceEqDiff, b12.load, List.getElem?_cons_zero]
  refine WS_of_cond ?_
  simp only [go_sem, ↓reduceIte]
  refine WS_of_seq (WS_of_ops ?_)
  simp only [f39_r2, go_sem, ↓reduceIte, Nat.reduceEqDiff, e4]
  refine WS_of_ret ?_
  simp only [f39_a, go_sem, ↓reduceIte, Nat.reduceEqDiff, l4]
  exact ⟨trivial, (k1.trans (k2.weaken fun q hq => by have : q < h.n := hq; show q < _; omega)).trans (k4.newbox wf2 (by have := k1.n; have := k2.n; omega) (by omega))⟩
theorem records_nil {h : H} : WCall E0 36 [.nilp] h fun r h' => h' = h ∧ r = .val .nils := by
  refine WCall_ws (ovn 36) U36 (by simp [f36_a]) ?_
  show WS E0 f36_c [] _ _ _
  refine WS_of_seq (WS_of_ops ?_)
  simp only [f36_r0, go_sem, ↓reduceIte]
  refine WS_of_seq (WS_of_seq (WS_of_ops ?_))
  simp only [f36_r1, go_sem, ↓reduceIte, Nat.reduceEqDiff]
  refine WS_of_cond ?_
  simp only [go_sem, ↓reduceIte]
  refine WS_of_seq (WS_of_ops ?_)
  simp only [f36_r2, go_sem, ↓reduceIte, Nat.reduceEqDiff]
  refine WS_of_ret ?_
  simp only [f36_a, go_sem, ↓reduceIte, Nat.reduceEqDiff]
  exact ⟨trivial, trivial⟩
/-- are records few? -/
theorem jfew_spec {h : H} {x : AV} {z : List Sec} (s : SliceR 1 BytesR h [x] z) :
    WCall E0 38 [x] h fun r h' => h' = h ∧ ∃ b, r = .val (.bool b) ∧ (b = true → z.length ≤ 12 ∧ ∀ y ∈ z, y.length ≤ 300) := by
  refine WCall_ws (ovn 38) U38 (by simp [f38_a]) ?_
  show WS E0 f38_c [] _ _ _
  obtain ⟨hl, hm⟩ := s.len
  have hm : z.length ≤ maxLen := hm
  simp only [maxLen] at hm
  refine WS_of_seq (WS_of_ops ?_)
  simp only [f38_r0, go_sem, ↓reduceIte]
  refine WS_of_seq (WS_of_seq (WS_of_ops ?_))
  simp only [f38_r1, go_sem, ↓reduceIte, Nat.reduceEqDiff]
  refine WS_of_block (WS_of_loop (fun m s h2 => ∃ j, j + m = z.length ∧ s 0 = x ∧ s 3 = .int .i64 (j : Int) ∧ h2 = h ∧ ∀ y ∈ z.take j, y.length ≤ 300) ?_ z.length ?_)
  · rintro m s0 h2 ⟨j, hj, s1, s3, rfl, hy⟩
    show WS E0 f38_l6 [] _ _ _
    refine WS_of_seq (WS_of_seq (WS_of_ops ?_))
    by_cases c : j < z.length
    · have c' : (j : Int) < (z.length : Int) := by omega
      simp only [f38_r2, go_sem, ↓reduceIte, Nat.reduceEqDiff, s1, s3, hl, c', decide_true]
      refine WS_of_cond ?_
      simp only [go_sem, ↓reduceIte]
      refine WS_of_skip ?_
      simp only [go_sem]
      obtain ⟨o, q, us, ep, -, hr, hu⟩ := s.get (by decide) c .i64
      obtain ⟨v, rfl, bv, -, hvl⟩ := hr
      have lp := hu h2 (Keep.refl _ _) 0 v rfl
      simp only [Nat.add_zero] at lp
      have hbl : lenSA v = some z[j].length := bv.len
      have hz : z.take (j + 1) = z.take j ++ [z[j]] := by rw [List.take_add_one, List.getElem?_eq_getElem c]; rfl
      refine WS_of_seq (WS_of_block (WS_of_seq (WS_of_ops ?_)))
      by_cases c2 : 300 < z[j].length
      · have c2' : (300 : Int) < (z[j].length : Int) := by omega
        simp only [f38_r3, go_sem, ↓reduceIte, Nat.reduceEqDiff, s1, s3, ep, lp, hbl, c2', decide_true]
        refine WS_of_cond ?_
        simp only [go_sem, ↓reduceIte]
        refine WS_of_seq (WS_of_ops ?_)
        simp only [f38_r4, go_sem, ↓reduceIte, Nat.reduceEqDiff]
        refine WS_of_ret ?_
        simp only [f38_a, go_sem, ↓reduceIte, Nat.reduceEqDiff]
        exact ⟨trivial, false, rfl, fun e => absurd e (by decide)⟩
      · have c2' : ¬ (300 : Int) < (z[j].length : Int) := by omega
        simp only [f38_r3, go_sem, ↓reduceIte, Nat.reduceEqDiff, s1, s3, ep, lp, hbl, c2', decide_false]
        refine WS_of_cond ?_
        simp only [go_sem, ↓reduceIte, Bool.false_eq_true]
        refine WS_of_skip ?_
        simp only [go_sem]
        refine WS_of_ops ?_
        have hw : IntKind.i64.wrap ((j : Int) + 1) = ((j + 1 : Nat) : Int) := by rw [wrap_i64 (by omega) (by omega)]; omega
        simp only [f38_r5, go_sem, ↓reduceIte, Nat.reduceEqDiff, s3, hw]
        refine ⟨m - 1, by omega, j + 1, by omega, s1, rfl, trivial, fun y hyy => ?_⟩
        rw [hz] at hyy
        rcases List.mem_append.1 hyy with hyy | hyy
        · exact hy y hyy
        · simp only [List.mem_cons, List.not_mem_nil, or_false] at hyy
          subst hyy
          omega
    · have c' : ¬ (j : Int) < (z.length : Int) := by omega
      simp only [f38_r2, go_sem, ↓reduceIte, Nat.reduceEqDiff, s1, s3, hl, c', decide_false]
      refine WS_of_cond ?_
      simp only [go_sem, ↓reduceIte, Bool.false_eq_true]
      refine WS_of_exit ?_
      simp only [go_sem, ↓reduceIte]
      refine WS_of_seq (WS_of_ops ?_)
      simp only [f38_r7, go_sem, ↓reduceIte, Nat.reduceEqDiff, s1, hl]
      refine WS_of_ret ?_
      simp only [f38_a, go_sem, ↓reduceIte, Nat.reduceEqDiff]
      refine ⟨trivial, _, rfl, fun e => ?_⟩
      rw [decide_eq_true_eq] at e
      rw [List.take_of_length_le (by omega)] at hy
      exact ⟨by omega, hy⟩
  · exact ⟨0, by simp, rfl, rfl, rfl, by simp⟩
/-- are records the same? -/
theorem same_spec {h : H} {av bv : AV} {us : List AV} {K L : List Sec} (a : BRow h av us K) (b : Strs h bv L) (hK : K.length < 1000000) (hL : L.length < 1000000) :
    WCall E0 35 [av, bv] h fun r h' => h' = h ∧ r = .val (.bool (decide (K = L))) := by
  refine WCall_ws (ovn 35) U35 (by simp [f35_a]) ?_
  show WS E0 f35_c [] _ _ _
  have hal : lenSA av = some K.length := by rw [← a.len]; exact a.sl.len
  have hbl : lenSA bv = some L.length := b.len
  refine WS_of_seq (WS_of_ops ?_)
  simp only [f35_r0, go_sem, ↓reduceIte]
  refine WS_of_seq (WS_of_seq (WS_of_ops ?_))
  by_cases c : K.length = L.length
  case neg =>
    have c' : ¬ (K.length : Int) = (L.length : Int) := by omega
    have hne : decide (K = L) = false := decide_eq_false fun e => c (by rw [e])
    simp only [f35_r1, go_sem, ↓reduceIte, Nat.reduceEqDiff, hal, hbl, c', decide_false, Bool.not_false]
    refine WS_of_cond ?_
    simp only [go_sem, ↓reduceIte]
    refine WS_of_seq (WS_of_ops ?_)
    simp only [f35_r2, go_sem, ↓reduceIte, Nat.reduceEqDiff]
    refine WS_of_ret ?_
    simp only [f35_a, go_sem, ↓reduceIte, Nat.reduceEqDiff, hne]
    exact ⟨trivial, trivial⟩
  have c' : (K.length : Int) = (L.length : Int) := by omega
  simp only [f35_r1, go_sem, ↓reduceIte, Nat.reduceEqDiff, hal, hbl, c', decide_true, Bool.not_true]
  refine WS_of_cond ?_
  simp only [go_sem, ↓reduceIte, Bool.false_eq_true]
  refine WS_of_skip ?_
  simp only [go_sem]
  refine WS_of_seq (WS_of_seq (WS_of_ops ?_))
  simp only [f35_r3, go_sem, ↓reduceIte, Nat.reduceEqDiff]
  refine WS_of_block (WS_of_loop (fun m s h2 => ∃ j, j + m = K.length ∧ s 0 = av ∧ s 1 = bv ∧ s 5 = .int .i64 (j : Int) ∧ h2 = h ∧ K.take j = L.take j) ?_ K.length ?_)
  · rintro m s0 h2 ⟨j, hj, s1, s2, s3, rfl, hy⟩
    show WS E0 f35_l8 [] _ _ _
    refine WS_of_seq (WS_of_seq (WS_of_ops ?_))
    by_cases c : j < K.length
    · have c1 : (j : Int) < (K.length : Int) := by omega
      simp only [f35_r4, go_sem, ↓reduceIte, Nat.reduceEqDiff, s1, s3, hal, c1, decide_true]
      refine WS_of_cond ?_
      simp only [go_sem, ↓reduceIte]
      refine WS_of_skip ?_
      simp only [go_sem]
      obtain ⟨p, ep, lp⟩ := Sl.at a.sl (i := j) (by rw [a.len]; exact c) .i64
      obtain ⟨p2, ep2, lp2⟩ := Strs.at b (i := j) (by omega) .i64
      have hu : us[j]? = some (us[j]'(by rw [a.len]; exact c)) := List.getElem?_eq_getElem (by rw [a.len]; exact c)
      obtain ⟨bu, -⟩ := a.at' j _ hu
      have lp' := lp
      rw [hu] at lp'
      have hKj : K.getD j [] = K[j] := by rw [List.getD_eq_getElem?_getD, List.getElem?_eq_getElem c]; rfl
      rw [hKj] at bu
      have hs := bu.str
      have hz : K.take (j + 1) = K.take j ++ [K[j]] := by rw [List.take_add_one, List.getElem?_eq_getElem c]; rfl
      have hz2 : L.take (j + 1) = L.take j ++ [L[j]'(by omega)] := by rw [List.take_add_one, List.getElem?_eq_getElem (by omega)]; rfl
      refine WS_of_seq (WS_of_block (WS_of_seq (WS_of_draw ?_)))
      by_cases c2 : K[j] = L[j]'(by omega)
      · simp only [f35_r5, go_sem, ↓reduceIte, Nat.reduceEqDiff, and_self, true_and, List.filter_cons, List.filter_nil, Nat.testBit, Nat.reduceShiftRight, Nat.reduceAnd, Nat.reduceBNe, Bool.not_false, Bool.not_true, Bool.false_eq_true, bne_self_eq_false, eq_self, s1, s2, s3, ep, ep2, lp', lp2, hs, c2, decide_true, Bool.not_true]
        refine WS_of_cond ?_
        simp only [go_sem, ↓reduceIte, Bool.false_eq_true]
        refine WS_of_skip ?_
        simp only [go_sem]
        refine WS_of_ops ?_
        have hw : IntKind.i64.wrap ((j : Int) + 1) = ((j + 1 : Nat) : Int) := by rw [wrap_i64 (by omega) (by omega)]; omega
        simp only [f35_r7, go_sem, ↓reduceIte, Nat.reduceEqDiff, s3, hw]
        exact ⟨m - 1, by omega, j + 1, by omega, s1, s2, rfl, trivial, by rw [hz, hz2, hy, c2]⟩
      · have hne : decide (K = L) = false := decide_eq_false fun e => c2 (by subst e; rfl)
        simp only [f35_r5, go_sem, ↓reduceIte, Nat.reduceEqDiff, and_self, true_and, List.filter_cons, List.filter_nil, Nat.testBit, Nat.reduceShiftRight, Nat.reduceAnd, Nat.reduceBNe, Bool.not_false, Bool.not_true, Bool.false_eq_true, bne_self_eq_false, eq_self, s1, s2, s3, ep, ep2, lp', lp2, hs, c2, decide_false, Bool.not_false]
        refine WS_of_cond ?_
        simp only [go_sem, ↓reduceIte]
        refine WS_of_seq (WS_of_ops ?_)
        simp only [f35_r6, go_sem, ↓reduceIte, Nat.reduceEqDiff]
        refine WS_of_ret ?_
        simp only [f35_a, go_sem, ↓reduceIte, Nat.reduceEqDiff, hne]
        exact ⟨trivial, trivial⟩
    · have c1 : ¬ (j : Int) < (K.length : Int) := by omega
      simp only [f35_r4, go_sem, ↓reduceIte, Nat.reduceEqDiff, s1, s3, hal, c1, decide_false]
      refine WS_of_cond ?_
      simp only [go_sem, ↓reduceIte, Bool.false_eq_true]
      refine WS_of_exit ?_
      simp only [go_sem, ↓reduceIte]
      refine WS_of_seq (WS_of_ops ?_)
      simp only [f35_r9, go_sem, ↓reduceIte, Nat.reduceEqDiff]
      refine WS_of_ret ?_
      rw [List.take_of_length_le (by omega), List.take_of_length_le (by omega)] at hy
      simp only [f35_a, go_sem, ↓reduceIte, Nat.reduceEqDiff, hy, decide_true]
      exact ⟨trivial, trivial⟩
  · exact ⟨0, by simp, rfl, rfl, rfl, rfl, by simp⟩
end Go.Proofs.Ytmfbememiffkjaa.Ev.C

/- A journal's sectors and its records: plain laws. -/
namespace Go.Proofs.Ytmfbememiffkjaa.Ev.C
open Go Go.Proofs.Ytmfbememiffkjaa.Ev
set_option linter.unusedSimpArgs false
set_option linter.unusedVariables false
/-- a record's sector -/
def recAt (ep k : Nat) (b : Sec) (i : Nat) : Sec := if i = 0 then pad (headB ep k b.length) else pad (0 :: chunk b (i - 1))
theorem pad_head {c : UInt8} {b : Sec} : (pad (c :: b)).head? = some c := rfl
theorem hd_headB {ep k n : Nat} (h1 : ep < 18446744073709551616) (h2 : k < 18446744073709551616) (h3 : n < 18446744073709551616) : hd (pad (headB ep k n)) = ((ep, k, n), true) := by
  have e : pad (headB ep k n) = 1 :: (num ep ++ (num k ++ (num n ++ List.replicate (64 - (headB ep k n).length) 0))) := by
    simp [pad, headB, List.append_assoc]
  rw [e]
  unfold hd
  rw [List.head?_cons, if_pos rfl]
  simp only [List.drop_succ_cons, List.drop_zero, rNum_num h1, rNum_num h2, rNum_num h3, decide_true]
theorem hd_part (b : Sec) : (hd (pad (0 :: b))).2 = false := hd_zero (by rw [pad_head]; decide)
theorem partsCat_rec {sc : Nat → Sec} {fr : Nat} {b : Sec} : ∀ m, m ≤ nchunk b.length → (∀ i, i < m → sc (fr + (i + 1)) = pad (0 :: chunk b i)) → ∃ r, partsCat sc fr m = b.take (63 * m) ++ List.replicate r 0
  | 0, _, _ => ⟨0, by simp [partsCat]⟩
  | m + 1, hm, h => by
    obtain ⟨r, e⟩ := partsCat_rec m (by omega) (fun i hi => h i (by omega))
    have hl : 63 * m < b.length := by unfold nchunk at hm; omega
    have hr : (partsCat sc fr m).length = 63 * m := partsCat_len fun i hi => by
      rw [h i (by omega)]
      have := chunk_len b i
      exact pad_len (by simp only [List.length_cons]; omega)
    have hr0 : r = 0 := by
      rw [e, List.length_append, List.length_take, List.length_replicate] at hr
      omega
    refine ⟨63 - (chunk b m).length, ?_⟩
    rw [partsCat_succ, h m (by omega), e, hr0]
    have : (pad (0 :: chunk b m)).drop 1 = chunk b m ++ List.replicate (63 - (chunk b m).length) 0 := by
      simp [pad]
    rw [this]
    unfold chunk
    rw [show 63 * (m + 1) = 63 * m + 63 by omega, List.take_add]
    simp
theorem partsOk_rec {sc : Nat → Sec} {fr : Nat} {b : Sec} {m : Nat} (h : ∀ i, i < m → sc (fr + (i + 1)) = pad (0 :: chunk b i)) : partsOk sc fr m = true := by
  unfold partsOk
  rw [List.all_eq_true]
  intro i hi
  rw [h i (List.mem_range.1 hi), pad_head]
  rfl
theorem jnext_rec {sc : Nat → Sec} {fr to ep k : Nat} {b : Sec} (h : ∀ i, i < jsize b.length → sc (fr + i) = recAt ep k b i) (hto : fr + jsize b.length ≤ to) (hb : b.length ≤ 4096) (hep : ep < 18446744073709551616) (hk : k < 18446744073709551616) : jnext sc fr to ep k = some b := by
  have hj := jsize_ge b.length
  have h0 : sc fr = pad (headB ep k b.length) := h 0 (by omega)
  have hn := nchunk_jsize b.length
  have hp : ∀ i, i < nchunk b.length → sc (fr + (i + 1)) = pad (0 :: chunk b i) := fun i hi => by
    rw [h (i + 1) (by omega)]
    simp [recAt]
  unfold jnext
  rw [h0, hd_headB hep hk (by omega)]
  simp only
  rw [show jsize b.length - 1 = nchunk b.length by omega, if_pos ⟨by omega, trivial, trivial, trivial, hb, by omega, partsOk_rec hp⟩]
  obtain ⟨r, e⟩ := partsCat_rec (nchunk b.length) (Nat.le_refl _) hp
  have ht : b.take (63 * nchunk b.length) = b := List.take_of_length_le (by unfold nchunk; omega)
  rw [e, ht, List.take_append_of_le_length (Nat.le_refl _), List.take_length]
theorem jnext_foreign {sc : Nat → Sec} {fr to ep k : Nat} (h : (hd (sc fr)).2 = true → (hd (sc fr)).1.1 ≠ ep) : jnext sc fr to ep k = none := by
  unfold jnext
  rw [if_neg]
  rintro ⟨_, h2, h3, _⟩
  exact h h2 h3
/-- records that lie in sectors, from one place to another -/
def Lies (sc : Nat → Sec) (ep : Nat) : Nat → Nat → List Sec → Nat → Prop
  | fr, _, [], p => p = fr
  | fr, k, b :: K, p => (∀ i, i < jsize b.length → sc (fr + i) = recAt ep k b i) ∧ Lies sc ep (fr + jsize b.length) (k + 1) K p
theorem Lies.le {sc : Nat → Sec} {ep : Nat} : ∀ {K : List Sec} {fr k p : Nat}, Lies sc ep fr k K p → fr + K.length ≤ p
  | [], fr, k, p, h => by have h : p = fr := h; simp; omega
  | b :: K, fr, k, p, h => by
    have := Lies.le h.2
    have := (jsize_ge b.length).1
    simp only [List.length_cons]
    omega
theorem Lies.congr {sc sc' : Nat → Sec} {ep : Nat} : ∀ {K : List Sec} {fr k p : Nat}, Lies sc ep fr k K p → (∀ i, fr ≤ i → i < p → sc' i = sc i) → Lies sc' ep fr k K p
  | [], fr, k, p, h, _ => h
  | b :: K, fr, k, p, h, hs => by
    have := Lies.le h.2
    exact ⟨fun i hi => by rw [hs _ (by omega) (by omega)]; exact h.1 i hi, Lies.congr h.2 fun i h1 h2 => hs i (by omega) h2⟩
theorem Lies.snoc {sc : Nat → Sec} {ep : Nat} {b : Sec} : ∀ {K : List Sec} {fr k p : Nat}, Lies sc ep fr k K p → (∀ i, i < jsize b.length → sc (p + i) = recAt ep (k + K.length) b i) → Lies sc ep fr k (K ++ [b]) (p + jsize b.length)
  | [], fr, k, p, h, hs => by
    have h : p = fr := h
    subst h
    exact ⟨by simpa using hs, rfl⟩
  | c :: K, fr, k, p, h, hs => ⟨h.1, Lies.snoc h.2 (by simpa [Nat.add_assoc, Nat.add_comm 1] using hs)⟩
theorem jrun_lies {sc : Nat → Sec} {to ep : Nat} (hep : ep < 18446744073709551616) : ∀ {K K0 : List Sec} {f fr p : Nat}, Lies sc ep fr K0.length K p → p ≤ to → to - fr < f → (∀ b ∈ K, b.length ≤ 4096) → K0.length + K.length < 1000000 → jnext sc p to ep (K0 ++ K).length = none → jrun sc to ep f fr K0 = (K0 ++ K, p)
  | _, _, 0, _, _, _, _, hf, _, _, _ => by omega
  | [], K0, f + 1, fr, p, h, _, _, _, _, hn => by
    have h : p = fr := h
    subst h
    rw [List.append_nil] at hn
    simp [jrun, hn]
  | b :: K, K0, f + 1, fr, p, h, hp, hf, hb, hl, hn => by
    have hle := Lies.le h.2
    have hj := (jsize_ge b.length).1
    simp only [List.length_cons] at hl
    have e := jnext_rec (to := to) h.1 (by omega) (hb b (by simp)) hep (by omega)
    have ih := jrun_lies hep (K := K) (K0 := K0 ++ [b]) (f := f) (fr := fr + jsize b.length) (p := p) (by simpa using h.2) hp (by omega) (fun x hx => hb x (by simp [hx])) (by simp; omega) (by simpa using hn)
    simp only [jrun, e]
    rw [ih, List.append_assoc, List.singleton_append]
theorem jopen_lies {sc : Nat → Sec} {fr to ep p : Nat} {K : List Sec} (hep : ep < 18446744073709551616) (h : Lies sc ep fr 0 K p) (hp : p ≤ to) (hb : ∀ b ∈ K, b.length ≤ 4096) (hl : K.length < 1000000) (hn : jnext sc p to ep K.length = none) : jopen sc fr to ep = (K, p) := by
  have hle := Lies.le h
  have := jrun_lies hep (K0 := []) (f := to - fr + 1) h hp (by omega) hb (by simpa using hl) (by simpa using hn)
  exact this
/-- a disk that is quiet -/
structure Calm (n : Nat) (D : Dk) : Prop where
  ar : D.armed = 0
  de : D.dead = false
  wa : D.waits = []
  kl : D.kept.length = n
theorem Calm.new (n : Nat) : Calm n (Dk.new n) := ⟨rfl, rfl, rfl, by simp [Dk.new]⟩
theorem putS_getD {K : List Sec} {i j : Nat} {x : Sec} (hi : i < K.length) : (putS K (j, x)).getD i [] = if j = i then x else K.getD i [] := getD_set hi
theorem foldl_chunks {a n : Nat} {f : Nat → Sec} : ∀ (m : Nat) {K : List Sec}, K.length = n → ∀ i, i < n → (((List.range m).map fun j => (a + j, f j)).foldl putS K).getD i [] = if a ≤ i ∧ i < a + m then f (i - a) else K.getD i []
  | 0, K, _, i, _ => by rw [if_neg (by omega)]; rfl
  | m + 1, K, hK, i, hi => by
    rw [List.range_succ, List.map_append, List.foldl_append]
    simp only [List.map_cons, List.map_nil, List.foldl_cons, List.foldl_nil]
    rw [putS_getD (by rw [foldl_putS_len]; omega)]
    by_cases c : a + m = i
    · subst c
      rw [if_pos rfl, if_pos (by omega)]
      congr 1
      omega
    · rw [if_neg c, foldl_chunks m hK i hi]
      by_cases c2 : a ≤ i ∧ i < a + m
      · rw [if_pos c2, if_pos (by omega)]
      · rw [if_neg c2, if_neg (by omega)]
theorem recW_getD {fr ep k i : Nat} {b : Sec} {K : List Sec} (hi : i < K.length) : ((recW fr ep k b).foldl putS K).getD i [] = if fr ≤ i ∧ i < fr + jsize b.length then recAt ep k b (i - fr) else K.getD i [] := by
  have hn := nchunk_jsize b.length
  have e : (chunksW fr b).map padW = (List.range (nchunk b.length)).map fun j => (fr + 1 + j, pad (0 :: chunk b j)) := by
    simp [chunksW, padW, Function.comp_def]
  unfold recW
  rw [e, List.foldl_append]
  simp only [List.foldl_cons, List.foldl_nil]
  rw [putS_getD (by rw [foldl_putS_len]; exact hi)]
  have hc := foldl_chunks (a := fr + 1) (f := fun j => pad (0 :: chunk b j)) (nchunk b.length) (K := K) rfl i hi
  rw [hc]
  by_cases c : fr = i
  · subst c
    rw [if_pos rfl, if_pos (by omega)]
    simp [recAt]
  · rw [if_neg c]
    by_cases c2 : fr + 1 ≤ i ∧ i < fr + 1 + nchunk b.length
    · rw [if_pos c2, if_pos (by omega)]
      unfold recAt
      rw [if_neg (by omega)]
      rw [show i - fr - 1 = i - (fr + 1) by omega]
    · rw [if_neg c2, if_neg (by omega)]
/-- a record appended to a quiet disk -/
theorem Calm.append {n : Nat} {D : Dk} (c : Calm n D) {p to ep k : Nat} {b : Sec} (hb : b.length ≤ 4096) (hj : p + jsize b.length ≤ to) (hto : to ≤ n) (hep : ep < 18446744073709551616) (hk : k < 18446744073709551616) :
    ∃ D', jappend D p to ep k b = (D', 0) ∧ Calm n D' ∧ ∀ i, i < n → findS D' i = if p ≤ i ∧ i < p + jsize b.length then recAt ep k b (i - p) else findS D i := by
  refine ⟨_, jappend_live c.ar c.de c.wa hb (by omega) (by rw [c.kl]; exact hto) hep hk, ⟨c.ar, c.de, rfl, ?_⟩, fun i hi => ?_⟩
  · show (List.foldl putS D.kept (recW p ep k b)).length = n
    rw [foldl_putS_len, c.kl]
  · rw [findS_no rfl, findS_no c.wa]
    exact recW_getD (by rw [c.kl]; exact hi)
/-- no head of an epoch in some sectors -/
def Foreign (sc : Nat → Sec) (ep lo hi : Nat) : Prop := ∀ i, lo ≤ i → i < hi → (hd (sc i)).2 = true → (hd (sc i)).1.1 ≠ ep
theorem hd_recAt {ep k i : Nat} {b : Sec} (h1 : ep < 18446744073709551616) (h2 : k < 18446744073709551616) (h3 : b.length < 18446744073709551616) (h : (hd (recAt ep k b i)).2 = true) : (hd (recAt ep k b i)).1.1 = ep := by
  unfold recAt at h ⊢
  split at h
  · rename_i c
    rw [if_pos c, hd_headB h1 h2 h3]
  · rw [hd_part] at h
    exact absurd h (by simp)
theorem Foreign.append {n : Nat} {D D' : Dk} {p ep ep' k : Nat} {b : Sec} (f : Foreign (findS D) ep' 0 n) (hne : ep ≠ ep') (h1 : ep < 18446744073709551616) (h2 : k < 18446744073709551616) (h3 : b.length < 18446744073709551616)
    (h : ∀ i, i < n → findS D' i = if p ≤ i ∧ i < p + jsize b.length then recAt ep k b (i - p) else findS D i) : Foreign (findS D') ep' 0 n := fun i hl hi ht => by
  rw [h i hi] at ht ⊢
  by_cases c : p ≤ i ∧ i < p + jsize b.length
  · rw [if_pos c] at ht ⊢
    rw [hd_recAt h1 h2 h3 ht]
    exact hne
  · rw [if_neg c] at ht ⊢
    exact f i hl hi ht
theorem Foreign.new (n ep : Nat) : Foreign (findS (Dk.new n)) ep 0 n := fun i _ hi ht => by
  rw [findS_new hi] at ht
  rw [hd_zero (by decide)] at ht
  exact absurd ht (by simp)
theorem Foreign.none {sc : Nat → Sec} {ep lo hi fr to k : Nat} (f : Foreign sc ep lo hi) (h1 : lo ≤ fr) (h2 : to ≤ hi) : jnext sc fr to ep k = none := by
  by_cases c : fr < to
  · exact jnext_foreign (f fr h1 (by omega))
  · exact jnext_end (by omega)
end Go.Proofs.Ytmfbememiffkjaa.Ev.C

/- A journal over its disk, and a slice of texts beside it, in memory: what calls make of them. -/
namespace Go.Proofs.Ytmfbememiffkjaa.Ev.C
open Go Go.Proofs.Ytmfbememiffkjaa.Ev
set_option linter.unusedSimpArgs false
set_option linter.unusedVariables false
/-- other groups are written: the disk stays -/
theorem DiskAt.aparts {h h' : H} {o : Nat} {gs xs : List Nat} {D : Dk} (d : DiskAt h o gs D) (wf : h.Wf) (hg : ∀ g ∈ gs, g ∉ xs) (hr : ∀ g ∈ xs, Root g h) (k : KeepA xs h h') : DiskAt h' o gs D := by
  obtain ⟨gk, kv, wv, d⟩ := d
  obtain ⟨s1, s2, s3, m1, m2⟩ := d.away wf
  have sk := d.kg.away wf (hg _ m2) hr
  rcases d.wg with ⟨rfl, e⟩ | ⟨gw, a1, a2, a3, e⟩
  · exact ⟨gk, kv, _, ⟨d.box.keepA wf k (hg _ m1), d.ks.keep k sk, d.kg.keep sk k, d.ws.keep k trivial, d.ne, .inl ⟨rfl, e⟩, d.ok⟩⟩
  · have sw := a3.away wf (hg gw (by rw [e]; simp)) hr
    exact ⟨gk, kv, wv, ⟨d.box.keepA wf k (hg _ m1), d.ks.keep k sk, d.kg.keep sk k, d.ws.keep k sw, d.ne, .inr ⟨gw, a1, a2, a3.keep sw k, e⟩, d.ok⟩⟩
def JSt (N : Nat) (E F : List Nat) (h : H) (ol o fr to ep : Nat) (K : List Sec) (D : Dk) : Prop := ∃ gl gs rv us, F = gl ++ gs ∧ LogIs h ol o fr to ep gl rv us ∧ DiskAt h o gs D ∧ Recs (gl ++ gs ++ E) h us K ∧ (∀ g ∈ gl, g ∉ gs) ∧ ∀ g ∈ F, N ≤ g
def DSt (N : Nat) (h : H) (o : Nat) (D : Dk) : Prop := ∃ gs, DiskAt h o gs D ∧ ∀ g ∈ gs, N ≤ g
/-- texts that are gathered -/
def Want (N : Nat) (E : List Nat) (h : H) (v : AV) (L : List Sec) : Prop := Strs h v L ∧ ((v = .nils ∧ L = [] ∧ E = []) ∨ ∃ g, Grp g h v ∧ N ≤ g ∧ E = [g])
theorem Want.nil (N : Nat) (h : H) : Want N [] h .nils [] := ⟨Strs.nil h, .inl ⟨rfl, rfl, rfl⟩⟩
theorem Want.root {N : Nat} {E : List Nat} {h : H} {v : AV} {L : List Sec} (w : Want N E h v L) : ∀ g ∈ E, Root g h := by
  rcases w.2 with ⟨_, _, rfl⟩ | ⟨g, gg, _, rfl⟩
  · simp
  · simpa using gg.root
theorem Want.lt {N : Nat} {E : List Nat} {h : H} {v : AV} {L : List Sec} (w : Want N E h v L) (wf : h.Wf) : ∀ g ∈ E, g < h.n := fun g hg => by
  obtain ⟨cs, e⟩ := w.root g hg
  exact wf.ob _ _ e
theorem Want.ge {N : Nat} {E : List Nat} {h : H} {v : AV} {L : List Sec} (w : Want N E h v L) : ∀ g ∈ E, N ≤ g := by
  rcases w.2 with ⟨_, _, rfl⟩ | ⟨g, gg, hg, rfl⟩
  · simp
  · simpa using hg
theorem Want.slot {N : Nat} {E : List Nat} {h : H} {v : AV} {L : List Sec} (w : Want N E h v L) (wf : h.Wf) : Slot (Old h.n) h v := by
  rcases w.2 with ⟨rfl, _, _⟩ | ⟨g, gg, hg, _⟩
  · trivial
  · exact (gg.own wf hg).slot wf
theorem Want.keep {N : Nat} {E : List Nat} {h h' : H} {v : AV} {L : List Sec} (w : Want N E h v L) (wf : h.Wf) (k : Keep (Old h.n) h h') : Want N E h' v L := by
  have sl := w.slot wf
  refine ⟨w.1.keep k sl, ?_⟩
  rcases w.2 with x | ⟨g, gg, hg, e⟩
  · exact .inl x
  · exact .inr ⟨g, gg.keep sl k, hg, e⟩
theorem Want.apart {N : Nat} {E F : List Nat} {h h' : H} {v : AV} {L : List Sec} (w : Want N E h v L) (wf : h.Wf) (k : KeepA F h h') (hd : ∀ g ∈ E, g ∉ F) (hr : ∀ g ∈ F, Root g h) : Want N E h' v L := by
  rcases w with ⟨ws, ⟨rfl, rfl, rfl⟩ | ⟨g, gg, hg, rfl⟩⟩
  · exact ⟨Strs.nil _, .inl ⟨rfl, rfl, rfl⟩⟩
  · have sl := gg.away wf (hd g (by simp)) hr
    exact ⟨ws.keep k sl, .inr ⟨g, gg.keep sl k, hg, rfl⟩⟩
theorem Want.app {N : Nat} {E : List Nat} {h : H} {v : AV} {L : List Sec} (w : Want N E h v L) (wf : h.Wf) (hN : N ≤ h.n) (hL : L.length < 1000000) (s : Sec) :
    ∃ v' h' E', appendA (h.new [.str s]) 1 v (.slice h.n 0 1 1) = some (v', h') ∧ Want N E' h' v' (L ++ [s]) ∧ KeepA E h h' ∧ Next E E' h := by
  have kn : Keep (Old h.n) h (h.new [.str s]) := Keep.new (Nat.le_refl _) _
  have wfn := kn.wf wf
  have so := Strs.one wf s
  rcases w with ⟨ws, ⟨rfl, rfl, rfl⟩ | ⟨g, gg, hg, rfl⟩⟩
  · obtain ⟨v', h', e, s', o', k'⟩ := Strs.app (N := h.n) wfn kn.n (Strs.nil _) (Own.nils _ _) so (by simp)
    rcases o'.grp with rfl | ⟨g, hg, gg⟩
    · have := s'.1
      simp [lenSA] at this
    · exact ⟨v', h', [g], e, ⟨s', .inr ⟨g, gg, by omega, rfl⟩⟩, KeepA.of (kn.trans k'), fun x hx => .inr (by simp only [List.mem_cons, List.not_mem_nil, or_false] at hx; subst hx; exact hg)⟩
  · have sl := (gg.own wf (Nat.zero_le _)).slot wf
    obtain ⟨v', h', e, s', g', k'⟩ := append_grp wfn (ws.keep kn sl) (gg.keep sl kn) so (by simp [AV.one]) (by simp; omega)
    refine ⟨v', h', [g], e, ⟨?_, .inr ⟨g, g', hg, rfl⟩⟩, (KeepA.of kn).then wf k' (fun x hx => .inl hx), Next.refl _ _⟩
    have e2 : strCells (L ++ [s]) = strCells L ++ strCells [s] := by simp [strCells]
    show Sl h' 1 v' (L ++ [s]).length (strCells (L ++ [s]))
    rw [e2, List.length_append]
    exact s'
theorem JSt.rootF {N : Nat} {E F : List Nat} {h : H} {ol o fr to ep : Nat} {K : List Sec} {D : Dk} (j : JSt N E F h ol o fr to ep K D) : ∀ g ∈ F, Root g h := by
  obtain ⟨gl, gs, rv, us, rfl, l, d, r, hd, hg⟩ := j
  intro g hg
  rcases List.mem_append.1 hg with x | x
  · exact l.root g x
  · exact d.root g x
theorem JSt.ltF {N : Nat} {E F : List Nat} {h : H} {ol o fr to ep : Nat} {K : List Sec} {D : Dk} (j : JSt N E F h ol o fr to ep K D) (wf : h.Wf) : ∀ g ∈ F, g < h.n := fun g hg => by
  obtain ⟨cs, e⟩ := j.rootF g hg
  exact wf.ob _ _ e
theorem JSt.geF {N : Nat} {E F : List Nat} {h : H} {ol o fr to ep : Nat} {K : List Sec} {D : Dk} (j : JSt N E F h ol o fr to ep K D) : ∀ g ∈ F, N ≤ g := by
  obtain ⟨gl, gs, rv, us, e, l, d, r, hd, hg⟩ := j
  exact hg
theorem JSt.keep {N : Nat} {E F : List Nat} {h h' : H} {ol o fr to ep : Nat} {K : List Sec} {D : Dk} (j : JSt N E F h ol o fr to ep K D) (wf : h.Wf) (k : Keep (Old h.n) h h') : JSt N E F h' ol o fr to ep K D := by
  obtain ⟨gl, gs, rv, us, e, l, d, r, hd, hg⟩ := j
  exact ⟨gl, gs, rv, us, e, l.keep wf k, d.keep wf k, r.next wf (KeepA.of k) (Next.refl _ _), hd, hg⟩
theorem DSt.keep {N : Nat} {h h' : H} {o : Nat} {D : Dk} (j : DSt N h o D) (wf : h.Wf) (k : Keep (Old h.n) h h') : DSt N h' o D := by
  obtain ⟨gs, d, hg⟩ := j
  exact ⟨gs, d.keep wf k, hg⟩
theorem JSt.apart {N : Nat} {E E' F : List Nat} {h h' : H} {ol o fr to ep : Nat} {K : List Sec} {D : Dk} (j : JSt N E F h ol o fr to ep K D) (wf : h.Wf) (k : KeepA E h h') (n : Next E E' h) (hE : ∀ g ∈ E, g ∉ F) (hr : ∀ g ∈ E, Root g h) : JSt N E' F h' ol o fr to ep K D := by
  obtain ⟨gl, gs, rv, us, rfl, l, d, r, hd, hg⟩ := j
  refine ⟨gl, gs, rv, us, rfl, l.apart wf k (fun g x y => hE g y (by simp [x])) hr, d.aparts wf (fun g x y => hE g y (by simp [x])) hr k, ?_, hd, hg⟩
  refine r.next wf (k.mono fun g hg => by simp [hg]) fun g hg => ?_
  rcases List.mem_append.1 hg with x | x
  · exact .inl (List.mem_append_left _ x)
  · exact (n g x).imp (fun y => List.mem_append_right _ y) id
theorem JSt.append {N : Nat} {E F : List Nat} {h : H} {ol o fr to ep : Nat} {K : List Sec} {D : Dk} {bv : AV} {b : Sec} (wf : h.Wf) (j : JSt N E F h ol o fr to ep K D) (hE : ∀ g ∈ E, Root g h ∧ g ∉ F) (hN : N ≤ h.n) (bb : Bytes h bv b) (sb : Slot (Old N) h bv)
    (hft : fr ≤ to) (hto : to ≤ 900000) (hK : K.length < 900000) (hwl : D.waits.length < 900000) (hb : b.length < 1000000) (hep : ep < 18446744073709551616) {D' : Dk} {e : Nat} (hj : jappend D fr to ep K.length b = (D', e)) :
    WCall E0 39 [.ptr ol 0, bv] h fun r h' => ∃ F', r = .val (.int .i64 (e : Int)) ∧ JSt N E F' h' ol o (if e = 0 then fr + jsize b.length else fr) to ep (if e = 0 then K ++ [b] else K) D' ∧ KeepA F h h' ∧ Next F F' h := by
  obtain ⟨gl, gs, rv, us, rfl, l, d, r, hd, hg⟩ := j
  have hu := r.1
  have ap := append_specE wf l d hd E hE r bb (Slot.apart wf hN hg sb) hft hto (by omega) hwl hb hep
  rw [hu, hj] at ap
  refine ap.mono ?_
  rintro x h' ⟨gs', gl', rv', us', rfl, d', l', r', k', n', hd'⟩
  refine ⟨_, rfl, ⟨gl', gs', rv', us', rfl, l', d', r', hd', fun g hg' => ?_⟩, k', n'⟩
  rcases n' g hg' with y | y
  · exact hg g y
  · omega
theorem JSt.records {N : Nat} {E F : List Nat} {h : H} {ol o fr to ep : Nat} {K : List Sec} {D : Dk} (wf : h.Wf) (j : JSt N E F h ol o fr to ep K D) (hK : K.length < 1000000) (hb : ∀ b ∈ K, b.length < 1000000) :
    WCall E0 36 [.ptr ol 0] h fun r h' => ∃ v vs, r = .val v ∧ BRow h' v vs K ∧ Keep (Old h.n) h h' := by
  obtain ⟨gl, gs, rv, us, e, l, d, r, hd, hg⟩ := j
  exact records_spec wf l r (by rw [r.1]; exact hK) hb
theorem JSt.room {N : Nat} {E F : List Nat} {h : H} {ol o fr to ep : Nat} {K : List Sec} {D : Dk} (j : JSt N E F h ol o fr to ep K D) : WCall E0 37 [.ptr ol 0] h fun r h' => h' = h ∧ r = .val (.int .i64 ((to : Int) - fr)) := by
  obtain ⟨gl, gs, rv, us, e, l, d, r, hd, hg⟩ := j
  exact room_spec l
theorem open_st {N : Nat} {E gs : List Nat} {h : H} {o fr to ep : Nat} {D : Dk} (wf : h.Wf) (d : DiskAt h o gs D) (hg : ∀ g ∈ gs, N ≤ g) (hE : ∀ g ∈ E, Root g h ∧ g ∉ gs) (hN : N ≤ h.n) (hdead : D.dead = false) (hft : fr ≤ to) (hto : to ≤ D.kept.length) (hwl : D.waits.length < 1000000) (hep : ep < 18446744073709551616) {K : List Sec} {p : Nat} (hj : jopen (findS D) fr to ep = (K, p)) :
    WCall E0 32 [.ptr o 0, .int .i64 (fr : Int), .int .i64 (to : Int), .int .u64 (ep : Int)] h fun r h' => ∃ ol F', r = .val (.tup [.ptr ol 0, .int .i64 0]) ∧ JSt N E F' h' ol o p to ep K D ∧ Keep (Old h.n) h h' ∧ p ≤ to ∧ ∀ g ∈ E, g ∉ F' := by
  have hEl : ∀ g ∈ E, g < h.n := fun g hg => by
    obtain ⟨cs, e⟩ := (hE g hg).1
    exact wf.ob _ _ e
  have op := jopen_specE E (fun g hg => ⟨hEl g hg, (hE g hg).1⟩) wf d hdead hft hto hwl hep
  rw [hj] at op
  refine op.mono ?_
  rintro r h' ⟨ol, gl, rv, us, rfl, l, rc, k, hgl, h1, h2, h3⟩
  refine ⟨ol, _, rfl, ⟨gl, gs, rv, us, rfl, l, d.keep wf k, rc, fun g x y => ?_, fun g x => ?_⟩, k, h1, fun g x y => ?_⟩
  · have := hgl g x
    have := d.lt wf g y
    omega
  · rcases List.mem_append.1 x with y | y
    · have := hgl g y; omega
    · exact hg g y
  · rcases List.mem_append.1 y with z | z
    · have := hgl g z; have := hEl g x; omega
    · exact (hE g x).2 z
theorem new_st {h : H} (wf : h.Wf) {n : Nat} (hn1 : 1 ≤ n) (hn2 : n ≤ 65536) : WCall E0 15 [.int .i64 (n : Int)] h fun r h' => ∃ o, r = .val (.tup [.ptr o 0, .int .i64 0]) ∧ DSt h.n h' o (Dk.new n) ∧ Keep (Old h.n) h h' := by
  refine (new_spec wf hn1 hn2).mono ?_
  rintro r h' ⟨o, gs, rfl, d, k, hg⟩
  exact ⟨o, rfl, ⟨gs, d, hg⟩, k⟩

/-! ### both -/
def JW (N : Nat) (h : H) (ol o fr to ep : Nat) (K : List Sec) (D : Dk) (v : AV) (L : List Sec) : Prop := ∃ E F, JSt N E F h ol o fr to ep K D ∧ Want N E h v L ∧ ∀ g ∈ E, g ∉ F
theorem JW.keep {N : Nat} {h h' : H} {ol o fr to ep : Nat} {K L : List Sec} {D : Dk} {v : AV} (j : JW N h ol o fr to ep K D v L) (wf : h.Wf) (k : Keep (Old h.n) h h') : JW N h' ol o fr to ep K D v L := by
  obtain ⟨E, F, j, w, d⟩ := j
  exact ⟨E, F, j.keep wf k, w.keep wf k, d⟩
theorem JW.strs {N : Nat} {h : H} {ol o fr to ep : Nat} {K L : List Sec} {D : Dk} {v : AV} (j : JW N h ol o fr to ep K D v L) (wf : h.Wf) : Strs h v L ∧ Slot (Old h.n) h v := by
  obtain ⟨E, F, j, w, d⟩ := j
  exact ⟨w.1, w.slot wf⟩
theorem JW.append {N : Nat} {h : H} {ol o fr to ep : Nat} {K L : List Sec} {D : Dk} {v bv : AV} {b : Sec} (wf : h.Wf) (j : JW N h ol o fr to ep K D v L) (hN : N ≤ h.n) (bb : Bytes h bv b) (sb : Slot (Old N) h bv)
    (hft : fr ≤ to) (hto : to ≤ 900000) (hK : K.length < 900000) (hwl : D.waits.length < 900000) (hb : b.length < 1000000) (hep : ep < 18446744073709551616) {D' : Dk} {e : Nat} (hj : jappend D fr to ep K.length b = (D', e)) :
    WCall E0 39 [.ptr ol 0, bv] h fun r h' => r = .val (.int .i64 (e : Int)) ∧ JW N h' ol o (if e = 0 then fr + jsize b.length else fr) to ep (if e = 0 then K ++ [b] else K) D' v L ∧ Keep (Old N) h h' := by
  obtain ⟨E, F, j, w, d⟩ := j
  refine (j.append wf (fun g hg => ⟨w.root g hg, d g hg⟩) hN bb sb hft hto hK hwl hb hep hj).mono ?_
  rintro r h' ⟨F', rfl, j', k', n'⟩
  refine ⟨rfl, ⟨E, F', j', w.apart wf k' d j.rootF, fun g x y => ?_⟩, k'.old wf hN j.geF⟩
  rcases n' g y with z | z
  · exact d g x z
  · have := w.lt wf g x; omega
theorem JW.want {N : Nat} {h : H} {ol o fr to ep : Nat} {K L : List Sec} {D : Dk} {v : AV} (wf : h.Wf) (j : JW N h ol o fr to ep K D v L) (hN : N ≤ h.n) (hL : L.length < 1000000) (s : Sec) :
    ∃ v' h', appendA (h.new [.str s]) 1 v (.slice h.n 0 1 1) = some (v', h') ∧ JW N h' ol o fr to ep K D v' (L ++ [s]) ∧ Keep (Old N) h h' := by
  obtain ⟨E, F, j, w, d⟩ := j
  obtain ⟨v', h', E', e, w', k', n'⟩ := w.app wf hN hL s
  refine ⟨v', h', e, ⟨E', F, j.apart wf k' n' d w.root, w', fun g x y => ?_⟩, k'.old wf hN w.ge⟩
  rcases n' g x with z | z
  · exact d g z y
  · have := j.ltF wf g y; omega
theorem JW.records {N : Nat} {h : H} {ol o fr to ep : Nat} {K L : List Sec} {D : Dk} {v : AV} (wf : h.Wf) (j : JW N h ol o fr to ep K D v L) (hK : K.length < 1000000) (hb : ∀ b ∈ K, b.length < 1000000) :
    WCall E0 36 [.ptr ol 0] h fun r h' => ∃ v vs, r = .val v ∧ BRow h' v vs K ∧ Keep (Old h.n) h h' := by
  obtain ⟨E, F, j, w, d⟩ := j
  exact j.records wf hK hb
theorem JW.room {N : Nat} {h : H} {ol o fr to ep : Nat} {K L : List Sec} {D : Dk} {v : AV} (j : JW N h ol o fr to ep K D v L) : WCall E0 37 [.ptr ol 0] h fun r h' => h' = h ∧ r = .val (.int .i64 ((to : Int) - fr)) := by
  obtain ⟨E, F, j, w, d⟩ := j
  exact j.room
theorem JW.first {N : Nat} {h : H} {o fr to ep : Nat} {D : Dk} (wf : h.Wf) (d : DSt N h o D) (hN : N ≤ h.n) (hdead : D.dead = false) (hft : fr ≤ to) (hto : to ≤ D.kept.length) (hwl : D.waits.length < 1000000) (hep : ep < 18446744073709551616) {K : List Sec} {p : Nat} (hj : jopen (findS D) fr to ep = (K, p)) :
    WCall E0 32 [.ptr o 0, .int .i64 (fr : Int), .int .i64 (to : Int), .int .u64 (ep : Int)] h fun r h' => ∃ ol, r = .val (.tup [.ptr ol 0, .int .i64 0]) ∧ JW N h' ol o p to ep K D .nils [] ∧ Keep (Old h.n) h h' ∧ p ≤ to := by
  obtain ⟨gs, d, hg⟩ := d
  refine (open_st (E := []) wf d hg (by simp) hN hdead hft hto hwl hep hj).mono ?_
  rintro r h' ⟨ol, F', rfl, j', k', hp, hd'⟩
  exact ⟨ol, rfl, ⟨[], F', j', Want.nil _ _, hd'⟩, k', hp⟩
theorem JW.again {N : Nat} {h : H} {ol o fr0 to0 ep0 fr to ep : Nat} {K0 L : List Sec} {D : Dk} {v : AV} (wf : h.Wf) (j : JW N h ol o fr0 to0 ep0 K0 D v L) (hN : N ≤ h.n) (hdead : D.dead = false) (hft : fr ≤ to) (hto : to ≤ D.kept.length) (hwl : D.waits.length < 1000000) (hep : ep < 18446744073709551616) {K : List Sec} {p : Nat} (hj : jopen (findS D) fr to ep = (K, p)) :
    WCall E0 32 [.ptr o 0, .int .i64 (fr : Int), .int .i64 (to : Int), .int .u64 (ep : Int)] h fun r h' => ∃ ol', r = .val (.tup [.ptr ol' 0, .int .i64 0]) ∧ JW N h' ol' o p to ep K D v L ∧ Keep (Old h.n) h h' ∧ p ≤ to := by
  obtain ⟨E, F, j, w, dd⟩ := j
  obtain ⟨gl, gs, rv, us, rfl, l, d, r, hd, hg⟩ := j
  refine (open_st (E := E) wf d (fun g x => hg g (by simp [x])) (fun g x => ⟨w.root g x, fun y => dd g x (by simp [y])⟩) hN hdead hft hto hwl hep hj).mono ?_
  rintro r h' ⟨ol', F', rfl, j', k', hp, hd'⟩
  exact ⟨ol', rfl, ⟨E, F', j', w.keep wf k', hd'⟩, k', hp⟩
/-- an argument's records: one of them -/
theorem rec_get {h0 h : H} {x : AV} {z : List Sec} (s : SliceR 1 BytesR h0 [x] z) (k : Keep (Old h0.n) h0 h) {i : Nat} (hi : i < z.length) :
    ∃ o q v, indexAddrA 1 x (.int .i64 (i : Int)) = some (.ptr o q) ∧ Bytes h v z[i] ∧ Slot (Old h0.n) h v ∧ z[i].length ≤ maxLen ∧ ∀ h', Keep (Old h0.n) h0 h' → loadA h' false 1 (.ptr o q) = some v := by
  obtain ⟨o, q, us, ep, -, hr, hu⟩ := s.get (by decide) hi .i64
  obtain ⟨v, rfl, bv, sv, hvl⟩ := hr
  exact ⟨o, q, v, ep, bv.keep k sv, sv.keep k fun _ x => x, hvl, fun h' k' => hu h' k' 0 v rfl⟩
end Go.Proofs.Ytmfbememiffkjaa.Ev.C
