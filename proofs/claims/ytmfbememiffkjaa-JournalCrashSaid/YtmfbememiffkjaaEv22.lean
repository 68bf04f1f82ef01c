/- From the interpreter's answer to the row's call. -/
import Derived.Test.YtmfbememiffkjaaEv21
import Derived.Below
namespace Go.Proofs.Ytmfbememiffkjaa.Ev
open Go.RowKit
set_option linter.unusedVariables false
set_option linter.unusedSimpArgs false

/-- the table of functions of a program: what the translation takes -/
noncomputable def table (P : Program) (i : Nat) : Option AFunc :=
  match P.funcs[i]? with
  | some fn => if fn.name == "runtime.NumGoroutine" then none else trFunc P fn
  | none => none
theorem table_ok (P : Program) : TableOK P (table P) := by
  intro f af h
  unfold table at h
  split at h
  case h_2 => cases h
  rename_i fn hf
  split at h
  case isTrue => cases h
  rename_i hn
  exact ⟨fn, hf, by simpa using hn, h⟩

theorem law_calls {P : Program} {ov : Ovs} (hm : P.follows .mixedOrders = true) (hO : ∀ B, OvOK P B ov) {n : Nat} {fn : Func} (hf : P.funcs[n]? = some fn) (hn : (fn.name == "runtime.NumGoroutine") = false) (hb : fn.body.isSome = true)
    {m : M} {h : H} {W : World} (r : Rel P W.heap.size m h W) {avs : List AV} {cargs : List Value} (hv : VRels m avs cargs) (q : WCall ⟨table P, ov⟩ n avs h fun r _ => r = .val (.bool true)) :
    Calls P n ⟨cargs⟩ W fun e W' => e = .returned (.bool true) ∧ Below W.heap.size W W' := by
  obtain ⟨k, r0, h', e, rfl⟩ := q
  obtain ⟨c, hc⟩ := Option.isSome_iff_exists.1 hb
  have hpost : ∀ e w', CallPost P W.heap.size m h W (.val (.bool true)) h' e w' → e = .returned (.bool true) ∧ Below W.heap.size W w' := by
    rintro e w' ⟨m1, hE, r1, f1⟩
    cases hE with
    | val hvr =>
      cases hvr
      exact ⟨rfl, f1.os, f1.tape, f1.output, f1.size, fun b hb => f1.below b hb hb⟩
  obtain ⟨h1, h2⟩ := sound_call hm (table_ok P) (hO _) e m W cargs r hv
  have h3 := CallsIn.mono h2 hpost
  have h4 : CallsIn Fence.wide 0 P n ⟨cargs⟩ W fun e W' => e = .returned (.bool true) ∧ Below W.heap.size W W' := h3
  exact callsIn_wide.1 h4

/-- no function is stood for, but those named -/
theorem ovOK_none (P : Program) (B : Nat) : OvOK P B (fun _ => none) := fun f g h => by cases h
end Go.Proofs.Ytmfbememiffkjaa.Ev
