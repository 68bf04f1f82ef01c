/- The answer of the law ReplyPuts, for every input: over the interpreter. -/
import Derived.Test.YthhibhhpcjggnabTWRPuts
import Derived.Test.YthhibhhpcjggnabEv29
import Derived.Test.YthhibhhpcjggnabTAwake
namespace Go.Proofs.Ythhibhhpcjggnab
open Go Go.Proofs.Ythhibhhpcjggnab.Ev
set_option linter.unusedVariables false
theorem is_rep {x4 x5 : AV} {h : H} {a0 a1 a2 : Int} {a3 : Bool} {len4 : Nat} {z4 : List ByteArray} {len5 : Nat} {z5 : List Int} 
    (n4 : len4 ≤ maxLen) (w4 : ∀ s ∈ z4, (bytesL s).length ≤ maxLen) (s4 : Sl h 1 x4 len4 ((z4.take len4).map (fun s => AV.str (bytesL s)))) (t4 : Slot (Old h.n) h x4)
    (n5 : len5 ≤ maxLen) (w5 : ∀ n ∈ z5, (Lit.int .u8 n).wf = true) (s5 : Sl h 1 x5 len5 ((z5.take len5).map (AV.int .u8))) (t5 : Slot (Old h.n) h x5) :
    ∃ l m, C.IsRep h ⟨a0, a1, a2, a3, l, m⟩ x4 x5 := by
  obtain ⟨l, b4, l4, hs⟩ := strs_arg w4 s4
  obtain ⟨m, b5, l5⟩ := bytes_arg w5 s5
  unfold maxLen at n4 n5
  exact ⟨l, m, b4, b5, t4, t5, by show l.length < _; omega, by show m.length < _; omega⟩
theorem replyPuts_answer {x0_4 x0_5 : AV} {h : H} (a0 a1 a2 : Int) (a3 : Bool) (len4 : Nat) (z4 : List ByteArray) (len5 : Nat) (z5 : List Int) (e steps : Int) (wf : h.Wf)
    (w0 : (Lit.int .i64 a0).wf = true) (w1 : (Lit.int .i64 a1).wf = true) (w2 : (Lit.int .i64 a2).wf = true)
    (n4 : len4 ≤ maxLen) (w4 : ∀ s ∈ z4, (bytesL s).length ≤ maxLen) (s4 : Sl h 1 x0_4 len4 ((z4.take len4).map (fun s => AV.str (bytesL s)))) (t4 : Slot (Old h.n) h x0_4)
    (n5 : len5 ≤ maxLen) (w5 : ∀ n ∈ z5, (Lit.int .u8 n).wf = true) (s5 : Sl h 1 x0_5 len5 ((z5.take len5).map (AV.int .u8))) (t5 : Slot (Old h.n) h x0_5)
    (we : (Lit.int .i64 e).wf = true) (ws : (Lit.int .i64 steps).wf = true) :
    WCall ⟨table Try.prog, ovs⟩ 8 [.agg [.int .i64 a0, .int .i64 a1, .int .i64 a2, .bool a3, x0_4, x0_5], .int .i64 e, .int .i64 steps] h fun r _ => r = .val (.bool true) := by
  obtain ⟨l, m, a⟩ := is_rep (a0 := a0) (a1 := a1) (a2 := a2) (a3 := a3) n4 w4 s4 t4 n5 w5 s5 t5
  exact C.rputs_answer wf a
end Go.Proofs.Ythhibhhpcjggnab
