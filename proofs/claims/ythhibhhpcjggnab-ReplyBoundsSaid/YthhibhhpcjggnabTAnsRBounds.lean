/- The answer of the law ReplyBounds, for every input: over the interpreter. -/
import Derived.Test.YthhibhhpcjggnabTWRBounds
import Derived.Test.YthhibhhpcjggnabTAnsRPuts
namespace Go.Proofs.Ythhibhhpcjggnab
open Go Go.Proofs.Ythhibhhpcjggnab.Ev
set_option linter.unusedVariables false
theorem replyBounds_answer {h : H} (code rev steps n : Int) (wf : h.Wf)
    (w0 : (Lit.int .i64 code).wf = true) (w1 : (Lit.int .i64 rev).wf = true) (w2 : (Lit.int .i64 steps).wf = true) (w3 : (Lit.int .u8 n).wf = true) :
    WCall ⟨table Try.prog, ovs⟩ 11 [.int .i64 code, .int .i64 rev, .int .i64 steps, .int .u8 n] h fun r _ => r = .val (.bool true) := by
  obtain ⟨m1, m2⟩ := u8_arg w3
  obtain ⟨a, rfl⟩ := Int.eq_ofNat_of_zero_le m1
  exact C.rbounds_answer wf (by omega)
end Go.Proofs.Ythhibhhpcjggnab
