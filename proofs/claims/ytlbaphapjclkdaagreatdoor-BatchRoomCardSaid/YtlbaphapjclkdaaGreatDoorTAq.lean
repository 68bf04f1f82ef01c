/- The example's text as it is shown comes to the same. -/
import Derived.Test.YtlbaphapjclkdaaGreatDoorTAp
namespace Go.Proofs.YtlbaphapjclkdaaGreatDoor.Ev.C
open Go Go.Proofs.YtlbaphapjclkdaaGreatDoor.Ev
set_option maxRecDepth 1000000 in
theorem ex_run2 : layB [381, 433, 439, 443, 475] exV exO ((ev (env PP ovA) 1500).call (.fn n_table_Compile) [.str exU] HK) = true := by kernel_rfl
end Go.Proofs.YtlbaphapjclkdaaGreatDoor.Ev.C
