/- BatchRoom: so many schemas, each trimmed. -/
import Derived.Test.YtlbaphapjclkdaaGreatDoorTRoom
namespace Go.Proofs.YtlbaphapjclkdaaGreatDoor.Ev.C
open Go Go.Proofs.YtlbaphapjclkdaaGreatDoor.Ev
set_option maxRecDepth 1000000 in
theorem chain_3 : chainAll 33 39 = true := by kernel_rfl
end Go.Proofs.YtlbaphapjclkdaaGreatDoor.Ev.C
