/- The example runs, with its texts compiled apart. -/
import Derived.Test.YtlbaphapjclkdaaGreatDoorTAq
namespace Go.Proofs.YtlbaphapjclkdaaGreatDoor.Ev.C
open Go Go.Proofs.YtlbaphapjclkdaaGreatDoor.Ev
set_option linter.unusedVariables false
set_option maxRecDepth 1000000 in
theorem no_run : layB [21] noV noO ((ev (env PP ovA) 1500).call (.fn n_table_Compile) [.str []] HK) = true := by kernel_rfl
noncomputable def ovX : Ovs := fun f => if f = n_table_Compile then some exG else ovA f
theorem ovX_ok : ∀ B, B ≠ 0 → OvOK PP B ovX := by
  intro B hB f g hf args h r h' hg
  unfold ovX at hf
  split at hf
  · rename_i e; subst e; cases hf
    unfold exG at hg
    split at hg
    · rename_i x hx
      cases hg
      exact layG_ok mixed (table_ok _ _) ovA_ok hB (table_plain _ _) (by decide) (by decide) (by decide) ex_run hx
    · split at hg
      · rename_i x hx
        cases hg
        exact layG_ok mixed (table_ok _ _) ovA_ok hB (table_plain _ _) (by decide) (by decide) (by decide) ex_run2 hx
      · exact layG_ok mixed (table_ok _ _) ovA_ok hB (table_plain _ _) (by decide) (by decide) (by decide) no_run hg
  · exact ovA_ok B hB f g hf args h r h' hg
set_option maxRecDepth 1000000 in
theorem awake_run : outIs ((ev (env PP ovX) 1500).call (.fn nAwake) [] (HG g_token_keys 4 (strCells keysL))) = true := by kernel_rfl
theorem ov0_ok : ∀ B, B ≠ 0 → OvOK PP B ov0 := by
  intro B hB f g hf args h r h' hg
  unfold ov0 at hf
  split at hf
  · rename_i e; subst e; cases hf
    exact ibs_ok hg
  split at hf
  · rename_i e; subst e; cases hf
    exact cr_ok hB hg
  split at hf
  · rename_i e; subst e; cases hf
    exact join_ok hB hg
  split at hf
  · rename_i e; subst e; cases hf
    exact count_ok hg
  · split at hf
    case isFalse => cases hf
    rename_i e; subst e; cases hf
    obtain ⟨h1, e1⟩ := out_run awake_run
    unfold yes at hg
    split at hg
    case h_2 => cases hg
    split at hg
    case isFalse => cases hg
    rename_i hb
    cases hg
    exact apart_okG mixed (table_ok _ _) ovX_ok hB (table_plain _ _) rfl rfl (by decide) rfl e1 (startB_ok hb)
end Go.Proofs.YtlbaphapjclkdaaGreatDoor.Ev.C
