/- The answer of the law DeviceArms, for every input: over the interpreter. -/
import Derived.Test.YtmfbememiffkjaaTWArms
import Derived.Test.YtmfbememiffkjaaTAwakeA
namespace Go.Proofs.Ytmfbememiffkjaa
open Go Go.Proofs.Ytmfbememiffkjaa.Ev
theorem deviceArms_answer {h : H} (a0 a1 : Int) (wf : h.Wf) (w0 : (Lit.int .u8 a0).wf = true) (w1 : (Lit.int .u8 a1).wf = true) :
    WCall ⟨table Try.prog, ovs⟩ 7 [.int .u8 a0, .int .u8 a1] h fun r _ => r = .val (.bool true) := by
  obtain ⟨x, y⟩ := u8_arg w0
  obtain ⟨x', y'⟩ := u8_arg w1
  obtain ⟨n, rfl⟩ := Int.eq_ofNat_of_zero_le x
  obtain ⟨m, rfl⟩ := Int.eq_ofNat_of_zero_le x'
  exact C.arms_answer wf (by omega) (by omega)
end Go.Proofs.Ytmfbememiffkjaa
