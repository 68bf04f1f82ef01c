/- The answer of the law JournalWrites, for every input: over the interpreter. -/
import Derived.Test.YtmfbememiffkjaaTWWrites
import Derived.Test.YtmfbememiffkjaaTAwakeA
namespace Go.Proofs.Ytmfbememiffkjaa
open Go Go.Proofs.Ytmfbememiffkjaa.Ev
theorem journalWrites_answer {x3 : AV} {h : H} (a0 a1 a2 : Int) (z3 : List (List UInt8)) (wf : h.Wf) (w0 : (Lit.int .u8 a0).wf = true) (w1 : (Lit.int .u8 a1).wf = true) (w2 : (Lit.int .u64 a2).wf = true) (s3 : SliceR 1 BytesR h [x3] z3) :
    WCall ⟨table Try.prog, ovs⟩ 11 [.int .u8 a0, .int .u8 a1, .int .u64 a2, x3] h fun r _ => r = .val (.bool true) := by
  obtain ⟨x1, y1⟩ := u8_arg w0
  obtain ⟨x2, y2⟩ := u8_arg w1
  obtain ⟨n1, rfl⟩ := Int.eq_ofNat_of_zero_le x1
  obtain ⟨n2, rfl⟩ := Int.eq_ofNat_of_zero_le x2
  obtain ⟨n3, rfl, hn⟩ := u64_arg w2
  exact C.writes_answer wf s3 (by omega) (by omega) hn
end Go.Proofs.Ytmfbememiffkjaa
