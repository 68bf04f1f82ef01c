/- Acts among the arguments. -/
import Derived.Test.YtmfbememiffkjaaTAct
import Derived.Test.YtmfbememiffkjaaTAwakeA
namespace Go.Proofs.Ytmfbememiffkjaa
open Go Go.Proofs.Ytmfbememiffkjaa.Ev
theorem opensBytes : Opens Try.prog 34 1 BytesR := Opens.bytes Try.underlying34 Try.underlying5 (by kernel_rfl)
theorem opensBools : Opens Try.prog 35 1 BoolsR := Opens.bools Try.underlying35 Try.underlying4 (by kernel_rfl)
theorem opensBool : Opens Try.prog 4 1 (fun _ us (b : Bool) => us = [.bool b]) := Opens.bool Try.underlying4
theorem opensAct : Opens Try.prog 37 4 Go.Proofs.Ytmfbememiffkjaa.Ev.C.ActR :=
  (Opens.struct Try.underlying37 (OpensF.cons (Opens.int Try.underlying5) rfl rfl (by kernel_rfl) (OpensF.cons (Opens.int Try.underlying3) rfl rfl (by kernel_rfl) (OpensF.cons opensBytes rfl rfl (by kernel_rfl) (OpensF.cons opensBools rfl rfl (by kernel_rfl) (OpensF.nil _))))) (by kernel_rfl)).imp
    Go.Proofs.Ytmfbememiffkjaa.Ev.C.ActR Go.Proofs.Ytmfbememiffkjaa.Ev.C.ActR.stab (fun h us a r => Go.Proofs.Ytmfbememiffkjaa.Ev.C.ActR.conv h us a r)
end Go.Proofs.Ytmfbememiffkjaa
