import Derived.Test.YthhibhhpcjggnabRows
import Derived.Test.YthhibhhpcjggnabTFields
namespace Go.Proofs.Ythhibhhpcjggnab
open Go Go.Proofs.Ythhibhhpcjggnab.Ev
set_option linter.unusedVariables false
/-- the call of the examples, told apart -/
abbrev ovs : Ovs := Go.Proofs.Ythhibhhpcjggnab.Ev.C.ov0
def outIs (x : Option (AOut × H)) : Bool := match x with | some (.val (.bool true), _) => true | _ => false
set_option maxRecDepth 100000 in
theorem awake01 : outIs ((ev (table Try.prog) (fun _ => none) 200).call 12 [] H0) = true := by kernel_rfl
theorem awake01_run : ∃ h1, (ev (table Try.prog) (fun _ => none) 200).call 12 [] H0 = some (.val (.bool true), h1) := by
  have h := awake01
  generalize (ev (table Try.prog) (fun _ => none) 200).call 12 [] H0 = x at h ⊢
  unfold outIs at h
  split at h
  · exact ⟨_, rfl⟩
  · cases h
theorem ovs_ok : ∀ B, OvOK Try.prog B ovs := by
  intro B f g hf args h r h' hg
  unfold ovs Go.Proofs.Ythhibhhpcjggnab.Ev.C.ov0 at hf
  split at hf
  case isFalse => cases hf
  rename_i e
  subst e
  cases hf
  cases args with
  | cons a l => cases hg
  | nil =>
    cases hg
    obtain ⟨h1, e1⟩ := awake01_run
    exact apart_ok Try.checked.mixed (table_ok _) (ovOK_none _) rfl rfl e1 h
end Go.Proofs.Ythhibhhpcjggnab
