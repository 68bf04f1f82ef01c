/- BatchRoom: the compiling of its text comes to just what stands for it. -/
import Derived.Test.YtlbaphapjclkdaaGreatDoorTRoom
namespace Go.Proofs.YtlbaphapjclkdaaGreatDoor.Ev.C
open Go Go.Proofs.YtlbaphapjclkdaaGreatDoor.Ev
set_option maxRecDepth 1000000 in
theorem comp_run : layB [355, 407, 413, 417, 449] compV compO ((ev (env PP ovA) 1500).call (.fn n_table_Compile) [.str roomT] HK) = true := by kernel_rfl
end Go.Proofs.YtlbaphapjclkdaaGreatDoor.Ev.C
