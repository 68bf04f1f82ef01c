/- The answer of the law JournalEpochs, for every input: over the interpreter. -/
import Derived.Test.YtmfbememiffkjaaTWEpochs
import Derived.Test.YtmfbememiffkjaaTActJ
namespace Go.Proofs.Ytmfbememiffkjaa
open Go Go.Proofs.Ytmfbememiffkjaa.Ev
theorem journalEpochs_answer {x0 x1 : AV} {h : H} (z0 z1 : List (List UInt8)) (a2 a3 : Int) (wf : h.Wf) (s0 : SliceR 1 BytesR h [x0] z0) (s1 : SliceR 1 BytesR h [x1] z1) (w2 : (Lit.int .u64 a2).wf = true) (w3 : (Lit.int .u64 a3).wf = true) :
    WCall ⟨table Try.prog, ovs⟩ 9 [x0, x1, .int .u64 a2, .int .u64 a3] h fun r _ => r = .val (.bool true) := by
  obtain ⟨n, rfl, hn⟩ := u64_arg w2
  obtain ⟨m, rfl, hm⟩ := u64_arg w3
  exact C.epochs_answer wf s0 s1 hn hm
end Go.Proofs.Ytmfbememiffkjaa
