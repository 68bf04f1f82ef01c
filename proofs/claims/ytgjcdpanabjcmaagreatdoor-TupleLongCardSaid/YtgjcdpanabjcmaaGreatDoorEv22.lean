/- From the interpreter's answer to the row's call. -/
import Derived.Test.YtgjcdpanabjcmaaGreatDoorEv21
import Derived.Below
namespace Go.Proofs.YtgjcdpanabjcmaaGreatDoor.Ev
open Go.RowKit
set_option linter.unusedVariables false
set_option linter.unusedSimpArgs false

/-- the table of functions of a program: what the translation takes -/
noncomputable def table (P : Program) (i : Nat) : Option AFunc :=
  match P.funcs[i]? with
  | some fn => if fn.name == "runtime.NumGoroutine" then none else trFunc P fn
  | none => none
noncomputable def tableD (P : Program) (i : Nat) : Option ADef :=
  match P.funcs[i]? with
  | some fn => if fn.name == "runtime.NumGoroutine" then none else trFuncD P fn
  | none => none
noncomputable def tableR (P : Program) (i : Nat) : Option ARec :=
  match P.funcs[i]? with
  | some fn => if fn.name == "runtime.NumGoroutine" then none else trFuncR P fn
  | none => none
noncomputable abbrev env (P : Program) (ov : Ovs) : Env := { T := table P, ov := ov, D := tableD P, R := tableR P }
theorem env_T (a : Nat → Option AFunc) (b : Ovs) (c : Nat → Option ADef) (d : Nat → Option ARec) (i : Nat) : (Env.mk a b c d).T i = a i := rfl
theorem env_D (a : Nat → Option AFunc) (b : Ovs) (c : Nat → Option ADef) (d : Nat → Option ARec) (i : Nat) : (Env.mk a b c d).D i = c i := rfl
theorem env_R (a : Nat → Option AFunc) (b : Ovs) (c : Nat → Option ADef) (d : Nat → Option ARec) (i : Nat) : (Env.mk a b c d).R i = d i := rfl
theorem env_ov (a : Nat → Option AFunc) (b : Ovs) (c : Nat → Option ADef) (d : Nat → Option ARec) (i : Nat) : (Env.mk a b c d).ov i = b i := rfl
theorem table_ok (P : Program) (ov : Ovs) : TableOK P (env P ov) := by
  refine ⟨fun f af h => ?_, fun f af h => ?_, fun f af h => ?_⟩
  · simp only [env] at h
    unfold table at h
    split at h
    case h_2 => cases h
    rename_i fn hf
    split at h
    case isTrue => cases h
    rename_i hn
    exact ⟨fn, hf, by simpa using hn, h⟩
  · simp only [env] at h
    unfold tableD at h
    split at h
    case h_2 => cases h
    rename_i fn hf
    split at h
    case isTrue => cases h
    rename_i hn
    exact ⟨fn, hf, by simpa using hn, h⟩
  · simp only [env] at h
    unfold tableR at h
    split at h
    case h_2 => cases h
    rename_i fn hf
    split at h
    case isTrue => cases h
    rename_i hn
    exact ⟨fn, hf, by simpa using hn, h⟩
theorem table_plain (P : Program) (ov : Ovs) : ∀ g fn, (env P ov).R g = some fn → fn.ops.all (fun st => st.op.plain) = true := by
  intro g fn h
  obtain ⟨fnc, _, _, htr⟩ := (table_ok P ov).R g fn h
  unfold trFuncR at htr
  split at htr
  case h_2 => cases htr
  split at htr
  case h_2 => cases htr
  split at htr
  case h_2 => cases htr
  split at htr
  case h_2 => cases htr
  split at htr
  case isFalse => cases htr
  rename_i hcond
  cases htr
  exact hcond.2.2.2

theorem law_calls {P : Program} {ov : Ovs} (hm : P.follows .mixedOrders = true) (hO : ∀ B, OvOK P B ov) {n : Nat} {fn : Func} (hf : P.funcs[n]? = some fn) (hn : (fn.name == "runtime.NumGoroutine") = false) (hb : fn.body.isSome = true)
    {m : M} {h : H} {W : World} (r : Rel P W.heap.size m h W) {avs : List AV} {cargs : List Value} (hv : VRels m avs cargs) (q : WCall (env P ov) n avs h fun r _ => r = .val (.bool true)) :
    Calls P n ⟨cargs⟩ W fun e W' => e = .returned (.bool true) ∧ Below W.heap.size W W' := by
  obtain ⟨c, hc⟩ := Option.isSome_iff_exists.1 hb
  have hok : FnOK P W.heap.size n avs h fun r _ => r = .val (.bool true) := holds_ok hm (table_ok P ov) (hO _) q
  obtain ⟨h1, h2⟩ := runs_enter hf hn hc (hok m W cargs r hv)
  have hpost : ∀ e w', CallR P W.heap.size m h W (fun r _ => r = .val (.bool true)) e w' → e = .returned (.bool true) ∧ Below W.heap.size W w' := by
    rintro e w' ⟨r1, h', rfl, m1, hE, r1, f1⟩
    cases hE with
    | val hvr =>
      cases hvr
      exact ⟨rfl, f1.os, f1.tape, f1.output, f1.size, fun b hb => f1.below b hb hb⟩
  have h3 := CallsIn.mono h2 hpost
  have h4 : CallsIn Fence.wide 0 P n ⟨cargs⟩ W fun e W' => e = .returned (.bool true) ∧ Below W.heap.size W W' := h3
  exact callsIn_wide.1 h4

/-- no function is stood for, but those named -/
theorem ovOK_none (P : Program) (B : Nat) : OvOK P B (fun _ => none) := fun f g h => by cases h
end Go.Proofs.YtgjcdpanabjcmaaGreatDoor.Ev
