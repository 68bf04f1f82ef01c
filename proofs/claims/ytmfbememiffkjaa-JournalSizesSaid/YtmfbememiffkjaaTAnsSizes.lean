/- The answer of the law JournalSizes, for every input: over the interpreter. -/
import Derived.Test.YtmfbememiffkjaaTWSizes
import Derived.Test.YtmfbememiffkjaaTAwakeA
namespace Go.Proofs.Ytmfbememiffkjaa
open Go Go.Proofs.Ytmfbememiffkjaa.Ev
theorem journalSizes_answer {h : H} (a0 a1 : Int) (wf : h.Wf) (w0 : (Lit.int .u16 a0).wf = true) (w1 : (Lit.int .u64 a1).wf = true) :
    WCall ⟨table Try.prog, ovs⟩ 10 [.int .u16 a0, .int .u64 a1] h fun r _ => r = .val (.bool true) := by
  obtain ⟨x, y⟩ := u16_arg w0
  obtain ⟨n, rfl⟩ := Int.eq_ofNat_of_zero_le x
  obtain ⟨m, rfl, hm⟩ := u64_arg w1
  exact C.sizes_answer wf (by omega) hm
end Go.Proofs.Ytmfbememiffkjaa
