/- Whatever the interpreter answers for code and for calls, the model answers. -/
import Derived.Test.YtgjcdpanabjcmaaGreatDoorEv12
import Derived.LoopNIn
import Derived.Laws.Sem
namespace Go.Proofs.YtgjcdpanabjcmaaGreatDoor.Ev
set_option linter.unusedVariables false
set_option linter.unusedSimpArgs false

section
variable {B0 : Nat} {P : Program}

/-! ### results -/
def resOne (tmps : Array Value) : ResultVar → Sem Value
  | .tmp t => pure (tmps.getD t undef)
  | .cell a t => do loadVar t (← asAddr (tmps.getD a undef))
theorem result1_ok {m : M} {h : H} {w : World} (r : Rel P B0 m h w) {nt : Nat} {s : S} {a : Act} (hA : ARel m nt s a) {rv : ResultVar} {ar : ARes} (ht : trRes P rv = some ar) {v : AV}
    (he : result1 s h ar = some v) : ∃ v', VRel m v v' ∧ (resOne a.tmps rv).run P w = .ok v' w := by
  cases rv with
  | tmp t =>
    cases ht
    simp only [result1, Option.some.injEq] at he
    subst he
    exact ⟨_, hA.tmp t, rfl⟩
  | cell x t =>
    simp only [trRes] at ht
    split at ht
    · rename_i b n h1 h2
      cases ht
      obtain ⟨_, ad, hx, v', hl, hv⟩ := sound_load r h1 h2 (hA.tmp x) he
      refine ⟨v', hv, ?_⟩
      simp only [resOne, Sem.run_bind]
      rw [hx]
      exact hl
    · cases ht

theorem results_list {m : M} {h : H} {w : World} (r : Rel P B0 m h w) {nt : Nat} {s : S} {a : Act} (hA : ARel m nt s a) : ∀ {l : List ResultVar} {k : List ARes} {vs : List AV}, trRess P l = some k →
    resultsL s h k = some vs → ∃ vs', VRels m vs vs' ∧ (l.mapM (resOne a.tmps)).run P w = .ok vs' w
  | [], k, vs, ht, he => by cases ht; cases he; exact ⟨[], .nil, rfl⟩
  | rv :: l, k, vs, ht, he => by
    simp only [trRess] at ht
    split at ht
    case h_2 => cases ht
    rename_i a1 b1 h1 h2
    cases ht
    simp only [resultsL] at he
    split at he
    case h_2 => cases he
    rename_i v vs0 h3 h4
    cases he
    obtain ⟨v', hv, e1⟩ := result1_ok r hA h1 h3
    obtain ⟨vs', hvs, e2⟩ := results_list r hA h2 h4
    refine ⟨v' :: vs', .cons hv hvs, ?_⟩
    rw [List.mapM_cons]
    simp only [Sem.run_bind]
    rw [e1]
    simp only [Result.andThen_ok]
    rw [e2]
    rfl

theorem results_ok {m : M} {h : H} {w : World} (r : Rel P B0 m h w) {nt : Nat} {s : S} {a : Act} (hA : ARel m nt s a) {fn : Func} {k : List ARes} (ht : trRess P fn.results.toList = some k) {v : AV}
    (he : resultsA k s h = some v) : ∃ v', VRel m v v' ∧ (results fn a.tmps).run P w = .ok v' w := by
  unfold resultsA at he
  obtain ⟨vs, h1, h2⟩ := Option.map_eq_some_iff.1 he
  obtain ⟨vs', hvs, e⟩ := results_list r hA ht h1
  have key : (results fn a.tmps).run P w = .ok (if h : (⟨vs'⟩ : Array Value).size = 1 then (⟨vs'⟩ : Array Value)[0] else .tuple ⟨vs'⟩) w := by
    show (do let vs ← fn.results.mapM (resOne a.tmps); pure (if h : vs.size = 1 then vs[0] else .tuple vs) : Sem Value).run P w = _
    rw [Array.mapM_eq_mapM_toList]
    simp only [Sem.run_bind, map_eq_pure_bind]
    rw [e]
    rfl
  refine ⟨_, ?_, key⟩
  subst h2
  cases hvs with
  | nil => exact .tup .nil
  | cons h0 t =>
    cases t with
    | nil => exact h0
    | cons h3 t => exact .tup (.cons h0 (.cons h3 t))
end
end Go.Proofs.YtgjcdpanabjcmaaGreatDoor.Ev
