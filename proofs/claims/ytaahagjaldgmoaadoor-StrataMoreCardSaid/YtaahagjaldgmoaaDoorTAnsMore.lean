/- The answer of the law StrataMore, for every input: over the interpreter. -/
import Derived.Test.YtaahagjaldgmoaaDoorTMore
import Derived.Test.YtaahagjaldgmoaaDoorTAwake
namespace Go.Proofs.YtaahagjaldgmoaaDoor
open Go Go.Proofs.YtaahagjaldgmoaaDoor.Ev
set_option linter.unusedVariables false
theorem strataMore_answer {x1 : AV} {u2 : List AV} {h : H} (a0 : Int) (z1 : List C.Ed) (z2 : C.Ed) (ks : C.KStart h) (wf : h.Wf) (w0 : (Lit.int .u8 a0).wf = true) (s1 : SliceR 3 (fun _ us e => us = C.edC e) h [x1] z1) (s2 : u2 = C.edC z2) :
    WCall (env C.PP C.ov0) C.n_doormanlaw10_StrataMore [.int .u8 a0, x1, .agg u2] h fun r _ => r = .val (.bool true) := by
  obtain ⟨x, y⟩ := u8_arg w0
  obtain ⟨n, rfl⟩ := Int.eq_ofNat_of_zero_le x
  obtain ⟨t1, t2, t3⟩ := SliceR.flat s1
  subst s2
  rw [← C.E0_env]
  exact C.more_answer ks wf (by omega) t1 t2
end Go.Proofs.YtaahagjaldgmoaaDoor
