/- The answer of the law JournalCrash, for every input: over the interpreter. -/
import Derived.Test.YtmfbememiffkjaaTWCrash
import Derived.Test.YtmfbememiffkjaaTAwakeA
namespace Go.Proofs.Ytmfbememiffkjaa
open Go Go.Proofs.Ytmfbememiffkjaa.Ev
theorem opensBool : Opens Try.prog 4 1 (fun _ us (b : Bool) => us = [.bool b]) := Opens.bool Try.underlying4
theorem opensU8 : Opens Try.prog 5 1 (fun _ us (z : Int) => us = [.int .u8 z] ∧ (Lit.int .u8 z).wf = true) := Opens.int Try.underlying5
theorem journalCrash_answer {x0 x2 x3 : AV} {h : H} (z0 : List (List UInt8)) (a1 : Int) (z2 : List Bool) (z3 : List Int) (wf : h.Wf) (s0 : SliceR 1 BytesR h [x0] z0) (w1 : (Lit.int .u8 a1).wf = true) (s2 : SliceR 1 (fun _ us (b : Bool) => us = [.bool b]) h [x2] z2)
    (s3 : SliceR 1 (fun _ us (z : Int) => us = [.int .u8 z] ∧ (Lit.int .u8 z).wf = true) h [x3] z3) :
    WCall ⟨table Try.prog, ovs⟩ 12 [x0, .int .u8 a1, x2, x3] h fun r _ => r = .val (.bool true) := by
  obtain ⟨x, y⟩ := u8_arg w1
  obtain ⟨n, rfl⟩ := Int.eq_ofNat_of_zero_le x
  obtain ⟨bs, hb⟩ := s3.bytes
  exact C.crash_answer wf s0 (by omega) s2.bools hb
end Go.Proofs.Ytmfbememiffkjaa
