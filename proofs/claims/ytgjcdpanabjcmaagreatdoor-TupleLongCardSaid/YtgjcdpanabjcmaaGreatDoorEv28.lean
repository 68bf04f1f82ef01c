/- Slices of one's own out of one stretch of time, appended to later: all that was made ahead of it or behind it stays. -/
import Derived.Test.YtgjcdpanabjcmaaGreatDoorEv27
namespace Go.Proofs.YtgjcdpanabjcmaaGreatDoor.Ev
set_option linter.unusedVariables false
set_option linter.unusedSimpArgs false
/-- rows whose group was not made between these -/
def Mid (N M : Nat) (h : H) : Nat → Prop := fun j => j < h.n ∧ ¬ (N ≤ j ∧ j < M) ∧ ∀ cs g, h.get j = some (.cells cs (some g)) → ¬ (N ≤ g ∧ g < M)
structure OwnS (N M : Nat) (h : H) (v : AV) : Prop where
  own : v = .nils ∨ ∃ g, N ≤ g ∧ g < M ∧ Grp g h v
  slot : Slot (Old M) h v
theorem Own.phase {N : Nat} {h : H} (wf : h.Wf) {v : AV} (o : Own N h v) : OwnS N h.n h v := by
  refine ⟨?_, o.slot wf⟩
  rcases o.grp with rfl | ⟨g, hn, a⟩
  · exact .inl rfl
  · exact .inr ⟨g, hn, a.lt wf, a⟩
theorem OwnS.keep {N M : Nat} {h h' : H} {v : AV} (o : OwnS N M h v) (k : Keep (Old M) h h') : OwnS N M h' v := by
  refine ⟨?_, o.slot.keep k fun o ho => ho⟩
  rcases o.own with rfl | ⟨g, h1, h2, a⟩
  · exact .inl rfl
  · exact .inr ⟨g, h1, h2, a.keep o.slot k⟩
theorem Mid.old {N M : Nat} {h : H} (wf : h.Wf) {j : Nat} (hj : j < N) (hN : N ≤ h.n) : Mid N M h j :=
  ⟨by omega, by omega, fun cs g e => by have := (wf.mem _ _ _ e).1; omega⟩
theorem Box.mid {N M r : Nat} {cs : List AV} {h : H} (wf : h.Wf) (b : Box r cs h) (hr : ¬ (N ≤ r ∧ r < M)) : Mid N M h r :=
  ⟨b.lt wf, hr, fun cs' g e => by rw [b.get] at e; cases e; exact hr⟩
theorem Own.mid {N M : Nat} {h : H} (wf : h.Wf) {v : AV} (o : Own M h v) : Slot (Mid N M h) h v := by
  cases v <;> first | trivial | exact o.elim | skip
  obtain ⟨cs, g, h1, h2, h3, h4, h5, h6, cs', h7⟩ := o
  refine ⟨⟨wf.ob _ _ h1, by omega, fun cs1 g1 e => ?_⟩, fun cs1 g1 e => ?_⟩
  · rw [h1] at e; cases e; omega
  · rw [h1] at e; cases e
    refine ⟨wf.ob _ _ h7, by omega, fun cs2 g2 e2 => ?_⟩
    rw [h7] at e2; cases e2; omega
theorem append_mid {N M : Nat} {h : H} (wf : h.Wf) (hN : N ≤ h.n) {v y : AV} {es n k : Nat} {cs new : List AV} (a : Sl h es v n cs) (o : OwnS N M h v) (b : Sl h es y k new) (hone : new.all AV.one = true) (hbig : n + k < 4294967296) :
    ∃ v' h', appendA h es v y = some (v', h') ∧ Sl h' es v' (n + k) (cs ++ new) ∧ Own N h' v' ∧ Keep (Mid N M h) h h' := by
  rcases o.own with rfl | ⟨g, h1, h2, gg⟩
  · obtain ⟨v', h', e, s, o', k'⟩ := append_own wf (Nat.le_refl _) a (by trivial) b hone hbig
    exact ⟨v', h', e, s, o'.less hN, k'.weaken fun j hj => hj.1⟩
  · obtain ⟨v', h', e, s, o', k'⟩ := append_grp wf a gg b hone hbig
    refine ⟨v', h', e, s, o'.own (k'.wf wf) h1, k'.weaken fun j hj => ⟨hj.1, fun hm => ?_, fun cs' g' e' hm => ?_⟩⟩
    · simp at hm; subst hm; exact hj.2.1 ⟨h1, h2⟩
    · simp at hm; subst hm; exact hj.2.2 _ _ e' ⟨h1, h2⟩
theorem Bytes.appMid {N M : Nat} {h : H} (wf : h.Wf) (hN : N ≤ h.n) {v y : AV} {s t : List UInt8} (a : Bytes h v s) (o : OwnS N M h v) (b : Bytes h y t) (hbig : s.length + t.length < 4294967296) :
    ∃ v' h', appendA h 1 v y = some (v', h') ∧ Bytes h' v' (s ++ t) ∧ Own N h' v' ∧ Keep (Mid N M h) h h' := by
  obtain ⟨v', h', e, sl, o', k⟩ := append_mid wf hN a o b (byteCells_one _) hbig
  refine ⟨v', h', e, ?_, o', k⟩
  unfold Bytes
  rw [List.length_append, byteCells_append]
  exact sl
theorem Keep.midOld {N M : Nat} {h h' : H} (wf : h.Wf) (hN : N ≤ h.n) (k : Keep (Mid N M h) h h') : Keep (Old N) h h' := k.weaken fun j hj => Mid.old wf hj hN
theorem Box.strs {r : Nat} {s : List UInt8} {h : H} (b : Box r [.str s] h) : Strs h (.slice r 0 1 1) [s] := by
  refine ⟨rfl, ?_⟩
  simp only [H.firstCells, b.row]
  rfl
theorem Box.slot {r : Nat} {cs : List AV} {h : H} (wf : h.Wf) (b : Box r cs h) (i len es : Nat) : Slot (Old h.n) h (.slice r i len es) :=
  ⟨b.lt wf, fun cs' g e => by rw [b.get] at e; cases e; exact b.lt wf⟩
@[go_sem] theorem res_ct (s : S) (h : H) (t u n : Nat) (agg : Bool) : resultsA [.cell u agg n, .tmp t] s h = (loadA h agg n (s u)).map fun v => .tup [v, s t] := by
  simp only [resultsA, resultsL, result1]
  cases loadA h agg n (s u) <;> rfl
theorem Box.bytes {r : Nat} {t : List UInt8} {h : H} (b : Box r (byteCells t) h) : Bytes h (.slice r 0 t.length 1) t := by
  refine ⟨rfl, ?_⟩
  simp only [H.firstCells, b.row]
  rw [if_pos ⟨trivial, Nat.le_refl _⟩, if_pos (by simp [byteCells])]
  simp only [List.drop_zero, Nat.mul_one]
  rw [List.take_of_length_le (by simp [byteCells])]
end Go.Proofs.YtgjcdpanabjcmaaGreatDoor.Ev
