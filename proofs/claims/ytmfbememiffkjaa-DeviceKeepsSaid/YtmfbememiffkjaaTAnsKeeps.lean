/- The answer of the law DeviceKeeps, for every input: over the interpreter. -/
import Derived.Test.YtmfbememiffkjaaTWKeeps
import Derived.Test.YtmfbememiffkjaaTActP
namespace Go.Proofs.Ytmfbememiffkjaa
open Go Go.Proofs.Ytmfbememiffkjaa.Ev
theorem deviceKeeps_answer {x1 x2 x3 : AV} {h : H} (a0 : Int) (z1 z2 : List Go.Proofs.Ytmfbememiffkjaa.Ev.C.Act) (z3 : List Bool) (wf : h.Wf) (w0 : (Lit.int .u8 a0).wf = true) (s1 : SliceR 4 Go.Proofs.Ytmfbememiffkjaa.Ev.C.ActR h [x1] z1) (s2 : SliceR 4 Go.Proofs.Ytmfbememiffkjaa.Ev.C.ActR h [x2] z2)
    (s3 : SliceR 1 (fun _ us (b : Bool) => us = [.bool b]) h [x3] z3) :
    WCall ⟨table Try.prog, ovs⟩ 4 [.int .u8 a0, x1, x2, x3] h fun r _ => r = .val (.bool true) := by
  obtain ⟨x, y⟩ := u8_arg w0
  obtain ⟨n, rfl⟩ := Int.eq_ofNat_of_zero_le x
  exact C.keeps_answer wf (by omega) s1 s2 s3.bools
end Go.Proofs.Ytmfbememiffkjaa
