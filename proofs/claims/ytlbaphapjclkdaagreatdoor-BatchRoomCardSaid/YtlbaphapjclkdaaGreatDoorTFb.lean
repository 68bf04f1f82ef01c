/- BatchRoom: the writes, by quotas. -/
import Derived.Test.YtlbaphapjclkdaaGreatDoorTRoom
namespace Go.Proofs.YtlbaphapjclkdaaGreatDoor.Ev.C
open Go Go.Proofs.YtlbaphapjclkdaaGreatDoor.Ev
set_option maxRecDepth 1000000 in
theorem tail_2 : roomB 2 = true := by kernel_rfl
set_option maxRecDepth 1000000 in
theorem tail_3 : roomB 3 = true := by kernel_rfl
end Go.Proofs.YtlbaphapjclkdaaGreatDoor.Ev.C
