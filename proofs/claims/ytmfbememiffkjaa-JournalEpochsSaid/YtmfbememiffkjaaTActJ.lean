/- Byte slices in a slice among the arguments. -/
import Derived.Test.YtmfbememiffkjaaEv30
import Derived.Test.YtmfbememiffkjaaTAwakeA
namespace Go.Proofs.Ytmfbememiffkjaa
open Go Go.Proofs.Ytmfbememiffkjaa.Ev
theorem opensBytes : Opens Try.prog 34 1 BytesR := Opens.bytes Try.underlying34 Try.underlying5 (by kernel_rfl)
end Go.Proofs.Ytmfbememiffkjaa
