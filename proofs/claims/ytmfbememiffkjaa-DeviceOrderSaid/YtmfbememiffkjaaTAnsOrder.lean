/- The answer of the law DeviceOrder, for every input: over the interpreter. -/
import Derived.Test.YtmfbememiffkjaaTWOrder
import Derived.Test.YtmfbememiffkjaaTAwakeA
namespace Go.Proofs.Ytmfbememiffkjaa
open Go Go.Proofs.Ytmfbememiffkjaa.Ev
theorem opensBytes : Opens Try.prog 34 1 BytesR := Opens.bytes Try.underlying34 Try.underlying5 (by kernel_rfl)
theorem opensBool : Opens Try.prog 4 1 (fun _ us (b : Bool) => us = [.bool b]) := Opens.bool Try.underlying4
theorem deviceOrder_answer {x0 x1 : AV} {h : H} (z0 : List (List UInt8)) (z1 : List Bool) (wf : h.Wf) (s0 : SliceR 1 BytesR h [x0] z0) (s1 : SliceR 1 (fun _ us (b : Bool) => us = [.bool b]) h [x1] z1) :
    WCall ⟨table Try.prog, ovs⟩ 6 [x0, x1] h fun r _ => r = .val (.bool true) := C.order_answer wf s0 s1.bools
end Go.Proofs.Ytmfbememiffkjaa
