/- The answer of the law ReplyTakes, for every input: over the interpreter. -/
import Derived.Test.YthhibhhpcjggnabTWRTakes
import Derived.Test.YthhibhhpcjggnabTAnsRPuts
namespace Go.Proofs.Ythhibhhpcjggnab
open Go Go.Proofs.Ythhibhhpcjggnab.Ev
set_option linter.unusedVariables false
theorem replyTakes_answer {x0 x1_4 x1_5 x3 : AV} {h : H} (len0 : Nat) (z0 : List Int) (a0 a1 a2 : Int) (a3 : Bool) (len4 : Nat) (z4 : List ByteArray) (len5 : Nat) (z5 : List Int) (cut : Int) (len3 : Nat) (z3 : List Int) (wf : h.Wf)
    (v0 : ∀ n ∈ z0, (Lit.int .u8 n).wf = true) (y0 : len0 * 1 ≤ 140737488351232) (s0 : Sl h 1 x0 len0 ((z0.take len0).map (AV.int .u8))) (t0 : Slot (Old h.n) h x0)
    (w0 : (Lit.int .i64 a0).wf = true) (w1 : (Lit.int .i64 a1).wf = true) (w2 : (Lit.int .i64 a2).wf = true)
    (n4 : len4 ≤ maxLen) (w4 : ∀ s ∈ z4, (bytesL s).length ≤ maxLen) (s4 : Sl h 1 x1_4 len4 ((z4.take len4).map (fun s => AV.str (bytesL s)))) (t4 : Slot (Old h.n) h x1_4)
    (n5 : len5 ≤ maxLen) (w5 : ∀ n ∈ z5, (Lit.int .u8 n).wf = true) (s5 : Sl h 1 x1_5 len5 ((z5.take len5).map (AV.int .u8))) (t5 : Slot (Old h.n) h x1_5)
    (wc : (Lit.int .u16 cut).wf = true)
    (v3 : ∀ n ∈ z3, (Lit.int .u8 n).wf = true) (y3 : len3 * 1 ≤ 140737488351232) (s3 : Sl h 1 x3 len3 ((z3.take len3).map (AV.int .u8))) (t3 : Slot (Old h.n) h x3) :
    WCall ⟨table Try.prog, ovs⟩ 9 [x0, .agg [.int .i64 a0, .int .i64 a1, .int .i64 a2, .bool a3, x1_4, x1_5], .int .u16 cut, x3] h fun r _ => r = .val (.bool true) := by
  obtain ⟨l, m, a⟩ := is_rep (a0 := a0) (a1 := a1) (a2 := a2) (a3 := a3) n4 w4 s4 t4 n5 w5 s5 t5
  obtain ⟨bs, b0, l0⟩ := bytes_arg v0 s0
  obtain ⟨ms, b3, l3⟩ := bytes_arg v3 s3
  obtain ⟨m1, m2⟩ := u16_arg wc
  obtain ⟨c, rfl⟩ := Int.eq_ofNat_of_zero_le m1
  exact C.rtakes_answer wf b0 t0 a b3 t3 (by omega) (by omega) (by omega)
end Go.Proofs.Ythhibhhpcjggnab
