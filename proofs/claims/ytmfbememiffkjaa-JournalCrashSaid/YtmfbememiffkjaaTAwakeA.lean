/- The examples of the laws 03 and 04 are so: their closed calls answer true, on every tape, in every memory. -/
import Derived.Test.YtmfbememiffkjaaRows
import Derived.Test.YtmfbememiffkjaaTDevA
import Derived.Test.YtmfbememiffkjaaEv30
namespace Go.Proofs.Ytmfbememiffkjaa
open Go Go.Proofs.Ytmfbememiffkjaa.Ev
set_option linter.unusedVariables false
/-- the calls of the examples, told apart -/
abbrev ovs : Ovs := Go.Proofs.Ytmfbememiffkjaa.Ev.C.ov0
def outIs (x : Option (AOut × H)) : Bool := match x with | some (.val (.bool true), _) => true | _ => false
set_option maxRecDepth 100000 in
theorem awake03 : outIs ((ev (table Try.prog) (fun _ => none) 400).call (.fn 13) [] H0) = true := by kernel_rfl
set_option maxRecDepth 100000 in
theorem awake04 : outIs ((ev (table Try.prog) (fun _ => none) 2000).call (.fn 30) [] H0) = true := by kernel_rfl
theorem out_run {x : Option (AOut × H)} (h : outIs x = true) : ∃ h1, x = some (.val (.bool true), h1) := by
  unfold outIs at h
  split at h
  · exact ⟨_, rfl⟩
  · cases h
theorem yes_ok {f : Nat} {h1 : H} {k : Nat} (e1 : (ev (table Try.prog) (fun _ => none) k).call (.fn f) [] H0 = some (.val (.bool true), h1)) {B : Nat} {args : List AV} {h h' : H} {r : AOut} (hg : Go.Proofs.Ytmfbememiffkjaa.Ev.C.yes args h = some (r, h')) :
    args = [] ∧ r = .val (.bool true) ∧ h' = h := by
  cases args with
  | cons a l => cases hg
  | nil => cases hg; exact ⟨rfl, rfl, rfl⟩
theorem ovs_ok : ∀ B, OvOK Try.prog B ovs := by
  intro B f g hf args h r h' hg
  obtain ⟨h1, e1⟩ := out_run awake03
  obtain ⟨h2, e2⟩ := out_run awake04
  unfold ovs Go.Proofs.Ytmfbememiffkjaa.Ev.C.ov0 at hf
  split at hf
  · rename_i e
    subst e
    cases hf
    obtain ⟨rfl, rfl, rfl⟩ := yes_ok (B := B) e1 hg
    exact apart_ok Try.checked.mixed (table_ok _) (ovOK_none _) rfl rfl e1 h'
  · split at hf
    case isFalse => cases hf
    rename_i e
    subst e
    cases hf
    obtain ⟨rfl, rfl, rfl⟩ := yes_ok (B := B) e2 hg
    exact apart_ok Try.checked.mixed (table_ok _) (ovOK_none _) rfl rfl e2 h'
end Go.Proofs.Ytmfbememiffkjaa

/- Byte slices in a slice among the arguments. -/
namespace Go.Proofs.Ytmfbememiffkjaa
open Go Go.Proofs.Ytmfbememiffkjaa.Ev
theorem opensBytes : Opens Try.prog 34 1 BytesR := Opens.bytes Try.underlying34 Try.underlying5 (by kernel_rfl)
end Go.Proofs.Ytmfbememiffkjaa
