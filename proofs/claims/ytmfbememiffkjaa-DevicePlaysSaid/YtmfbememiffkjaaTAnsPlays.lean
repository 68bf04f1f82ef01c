/- The answer of the law DevicePlays, for every input: over the interpreter. -/
import Derived.Test.YtmfbememiffkjaaTWPlays
import Derived.Test.YtmfbememiffkjaaTActP
namespace Go.Proofs.Ytmfbememiffkjaa
open Go Go.Proofs.Ytmfbememiffkjaa.Ev
theorem devicePlays_answer {x1 : AV} {h : H} (a0 : Int) (z1 : List Go.Proofs.Ytmfbememiffkjaa.Ev.C.Act) (wf : h.Wf) (w0 : (Lit.int .u8 a0).wf = true) (s1 : SliceR 4 Go.Proofs.Ytmfbememiffkjaa.Ev.C.ActR h [x1] z1) :
    WCall ⟨table Try.prog, ovs⟩ 3 [.int .u8 a0, x1] h fun r _ => r = .val (.bool true) := by
  obtain ⟨x, y⟩ := u8_arg w0
  obtain ⟨n, rfl⟩ := Int.eq_ofNat_of_zero_le x
  exact C.plays_answer wf (by omega) s1
end Go.Proofs.Ytmfbememiffkjaa
