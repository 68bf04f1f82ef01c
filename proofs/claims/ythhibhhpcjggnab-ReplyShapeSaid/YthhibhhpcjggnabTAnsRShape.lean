/- The answer of the law ReplyShape, for every input: over the interpreter. -/
import Derived.Test.YthhibhhpcjggnabTWRShape
import Derived.Test.YthhibhhpcjggnabTAnsRPuts
namespace Go.Proofs.Ythhibhhpcjggnab
open Go Go.Proofs.Ythhibhhpcjggnab.Ev
set_option linter.unusedVariables false
theorem replyShape_answer {x3_4 x3_5 : AV} {h : H} (a b steps : Int) (a0 a1 a2 : Int) (a3 : Bool) (len4 : Nat) (z4 : List ByteArray) (len5 : Nat) (z5 : List Int) (wf : h.Wf)
    (wa : (Lit.int .u8 a).wf = true) (wb : (Lit.int .u8 b).wf = true) (ws : (Lit.int .u16 steps).wf = true)
    (w0 : (Lit.int .i64 a0).wf = true) (w1 : (Lit.int .i64 a1).wf = true) (w2 : (Lit.int .i64 a2).wf = true)
    (n4 : len4 ≤ maxLen) (w4 : ∀ s ∈ z4, (bytesL s).length ≤ maxLen) (s4 : Sl h 1 x3_4 len4 ((z4.take len4).map (fun s => AV.str (bytesL s)))) (t4 : Slot (Old h.n) h x3_4)
    (n5 : len5 ≤ maxLen) (w5 : ∀ n ∈ z5, (Lit.int .u8 n).wf = true) (s5 : Sl h 1 x3_5 len5 ((z5.take len5).map (AV.int .u8))) (t5 : Slot (Old h.n) h x3_5) :
    WCall ⟨table Try.prog, ovs⟩ 10 [.int .u8 a, .int .u8 b, .int .u16 steps, .agg [.int .i64 a0, .int .i64 a1, .int .i64 a2, .bool a3, x3_4, x3_5]] h fun r _ => r = .val (.bool true) := by
  obtain ⟨l, m, ar⟩ := is_rep (a0 := a0) (a1 := a1) (a2 := a2) (a3 := a3) n4 w4 s4 t4 n5 w5 s5 t5
  obtain ⟨m1, m2⟩ := u8_arg wa
  obtain ⟨a, rfl⟩ := Int.eq_ofNat_of_zero_le m1
  obtain ⟨m3, m4⟩ := u8_arg wb
  obtain ⟨b, rfl⟩ := Int.eq_ofNat_of_zero_le m3
  obtain ⟨m5, m6⟩ := u16_arg ws
  obtain ⟨s, rfl⟩ := Int.eq_ofNat_of_zero_le m5
  exact C.rshape_answer wf (by omega) (by omega) (by omega) ar
end Go.Proofs.Ythhibhhpcjggnab
