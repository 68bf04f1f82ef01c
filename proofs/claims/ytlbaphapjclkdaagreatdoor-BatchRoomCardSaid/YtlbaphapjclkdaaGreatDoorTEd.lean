/- BatchRoom: so many schemas, each trimmed. -/
import Derived.Test.YtlbaphapjclkdaaGreatDoorTRoom
namespace Go.Proofs.YtlbaphapjclkdaaGreatDoor.Ev.C
open Go Go.Proofs.YtlbaphapjclkdaaGreatDoor.Ev
set_option maxRecDepth 1000000 in
theorem chain_4 : chainAll 40 45 = true := by kernel_rfl
end Go.Proofs.YtlbaphapjclkdaaGreatDoor.Ev.C
