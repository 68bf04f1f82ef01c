/- An iterator that ranges over another: whose rows are whose. -/
import Derived.Test.YtmfbememiffkjaaEvL3
namespace Go.Proofs.Ytmfbememiffkjaa.Ev
set_option linter.unusedVariables false
set_option linter.unusedSimpArgs false

/-- clean, of the rows that M tells -/
def CleanIn (M : Nat → Prop) (N : Nat) (G : Nat → Prop) (h : H) : Prop := ∀ k cs g, h.get k = some (.cells cs (some g)) → M k → N ≤ k → ¬ G k → N ≤ g ∧ ¬ G g
/-- N, Gu: the outer caller's rows; M, G: the inner loop's own -/
structure Nest (N M : Nat) (Gu G : Nat → Prop) (h : H) : Prop where
  le : N ≤ M
  sub : ∀ k, Gu k → G k
  gi : GIn N Gu h
  cl : CleanIn (Mine M G) N Gu h
theorem Nest.keep {N M : Nat} {Gu G : Nat → Prop} {h h' : H} (a : Nest N M Gu G h) (k : Keep (Mine M G) h h') : Nest N M Gu G h' :=
  ⟨a.le, a.sub, a.gi.up k.n, fun o cs g e hm hN hG => by
    rw [k.get o hm] at e
    exact a.cl o cs g e hm hN hG⟩
theorem Nest.mine {N M : Nat} {Gu G : Nat → Prop} {h : H} (a : Nest N M Gu G h) : ∀ k, Mine N Gu k → Mine M G k := fun k hk => hk.imp (fun x => Nat.lt_of_lt_of_le x a.le) (a.sub k)
theorem Nest.clean {N M : Nat} {Gu G : Nat → Prop} {h : H} (a : Nest N M Gu G h) (c : Clean M G h) : Clean N Gu h := by
  intro o cs g e hN hG
  by_cases hm : Mine M G o
  · exact a.cl o cs g e hm hN hG
  · obtain ⟨x, y⟩ := c o cs g e (by by_cases hx : o < M; exact absurd (.inl hx) hm; omega) (fun hx => hm (.inr hx))
    exact ⟨Nat.le_trans a.le x, fun hg => y (a.sub _ hg)⟩
theorem Nest.start {N : Nat} {Gu : Nat → Prop} {h : H} (c : Clean N Gu h) (gi : GIn N Gu h) (hle : N ≤ h.n) (hu : ∀ k, ¬ Gu k) : Nest N h.n Gu (fun _ => False) h :=
  ⟨hle, fun k hk => absurd hk (hu k), gi, fun o cs g e _ hN hG => c o cs g e hN hG⟩
/-- behind a step of the outer caller's -/
theorem Nest.step {N M : Nat} {Gu G : Nat → Prop} {h1 hb h3 : H} (a : Nest N M Gu G h1) (hn : h1.n ≤ hb.n) (c : Clean N Gu hb) (k : Keep (Its N Gu hb) hb h3) (wf3 : h3.Wf) :
    Nest N M (More Gu hb.n h3.n) (More G h1.n h3.n) h3 :=
  ⟨a.le, fun o ho => ho.imp (a.sub o) (fun x => ⟨by omega, x.2⟩), (a.gi.up hn).more k.n, fun o cs g e _ hN hG => (c.round (a.gi.up hn) wf3 k) o cs g e hN hG⟩
@[go_sem] theorem res_cc (s : S) (h : H) (t u n m : Nat) (agg agg' : Bool) : resultsA [.cell t agg n, .cell u agg' m] s h = (loadA h agg n (s t)).bind fun v => (loadA h agg' m (s u)).map fun w => .tup [v, w] := by
  simp only [resultsA, resultsL, result1]
  cases loadA h agg n (s t) <;> cases loadA h agg' m (s u) <;> rfl
/-- a part of a row, as a slice -/
theorem Box.part {r : Nat} {cs : List AV} {h : H} (b : Box r cs h) {i n : Nat} (hi : i + n ≤ cs.length) : Sl h 1 (.slice r i n 1) n ((cs.drop i).take n) := by
  refine ⟨rfl, ?_⟩
  simp only [H.firstCells, b.row]
  rw [if_pos ⟨trivial, Nat.le_refl _⟩, if_pos (by omega), Nat.mul_one]
theorem Box.own {N r : Nat} {cs : List AV} {h : H} (b : Box r cs h) (hN : N ≤ r) {i n : Nat} (hi : i + n ≤ cs.length) : Own N h (.slice r i n 1) :=
  ⟨cs, r, b.get, b.tip, b.live, hN, hN, by omega, _, b.get⟩
end Go.Proofs.Ytmfbememiffkjaa.Ev
