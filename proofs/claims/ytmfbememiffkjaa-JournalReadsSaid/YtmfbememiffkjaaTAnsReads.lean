/- The answer of the law JournalReads, for every input: over the interpreter. -/
import Derived.Test.YtmfbememiffkjaaTWReads
import Derived.Test.YtmfbememiffkjaaTAwakeA
namespace Go.Proofs.Ytmfbememiffkjaa
open Go Go.Proofs.Ytmfbememiffkjaa.Ev
theorem opensLay : Opens Try.prog 60 5 Go.Proofs.Ytmfbememiffkjaa.Ev.C.LayR :=
  (Opens.struct Try.underlying60 (OpensF.cons (Opens.int Try.underlying5) rfl rfl (by kernel_rfl) (OpensF.cons (Opens.int Try.underlying5) rfl rfl (by kernel_rfl) (OpensF.cons (Opens.int Try.underlying5) rfl rfl (by kernel_rfl) (OpensF.cons (Opens.int Try.underlying58) rfl rfl (by kernel_rfl) (OpensF.cons opensBytes rfl rfl (by kernel_rfl) (OpensF.nil _)))))) (by kernel_rfl)).imp
    Go.Proofs.Ytmfbememiffkjaa.Ev.C.LayR Go.Proofs.Ytmfbememiffkjaa.Ev.C.LayR.stab (fun h us a r => Go.Proofs.Ytmfbememiffkjaa.Ev.C.LayR.conv h us a r)
theorem journalReads_answer {x0 : AV} {h : H} (z0 : List Go.Proofs.Ytmfbememiffkjaa.Ev.C.Lay) (a1 a2 a3 : Int) (wf : h.Wf) (s0 : SliceR 5 Go.Proofs.Ytmfbememiffkjaa.Ev.C.LayR h [x0] z0) (w1 : (Lit.int .u8 a1).wf = true) (w2 : (Lit.int .u8 a2).wf = true) (w3 : (Lit.int .u8 a3).wf = true) :
    WCall ⟨table Try.prog, ovs⟩ 8 [x0, .int .u8 a1, .int .u8 a2, .int .u8 a3] h fun r _ => r = .val (.bool true) := by
  obtain ⟨x1, y1⟩ := u8_arg w1
  obtain ⟨x2, y2⟩ := u8_arg w2
  obtain ⟨x3, y3⟩ := u8_arg w3
  obtain ⟨n1, rfl⟩ := Int.eq_ofNat_of_zero_le x1
  obtain ⟨n2, rfl⟩ := Int.eq_ofNat_of_zero_le x2
  obtain ⟨n3, rfl⟩ := Int.eq_ofNat_of_zero_le x3
  exact C.reads_answer wf s0 (by omega) (by omega) (by omega)
end Go.Proofs.Ytmfbememiffkjaa
