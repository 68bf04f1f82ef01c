/- The answer of the law StrataLevels, for every input: over the interpreter. -/
import Derived.Test.YtaahagjaldgmoaaDoorTLevelsLaw
import Derived.Test.YtaahagjaldgmoaaDoorTAwake
namespace Go.Proofs.YtaahagjaldgmoaaDoor
open Go Go.Proofs.YtaahagjaldgmoaaDoor.Ev
set_option linter.unusedVariables false
theorem strataLevels_answer {x1 : AV} {h : H} (a0 : Int) (z1 : List C.Ed) (ks : C.KStart h) (wf : h.Wf) (w0 : (Lit.int .u8 a0).wf = true) (s1 : SliceR 3 (fun _ us e => us = C.edC e) h [x1] z1) :
    WCall (env C.PP C.ov0) C.n_doormanlaw10_StrataLevels [.int .u8 a0, x1] h fun r _ => r = .val (.bool true) := by
  obtain ⟨x, y⟩ := u8_arg w0
  obtain ⟨n, rfl⟩ := Int.eq_ofNat_of_zero_le x
  obtain ⟨t1, t2, t3⟩ := SliceR.flat s1
  rw [← C.E0_env]
  exact C.levels_answer ks wf (by omega) t1 t2
end Go.Proofs.YtaahagjaldgmoaaDoor
