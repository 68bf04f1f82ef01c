/- The answer of the law FieldsLists, for every input: over the interpreter. -/
import Derived.Test.YthhibhhpcjggnabTWLists
import Derived.Test.YthhibhhpcjggnabTAwake
namespace Go.Proofs.Ythhibhhpcjggnab
open Go Go.Proofs.Ythhibhhpcjggnab.Ev
theorem fieldsLists_answer {x0 : AV} {h : H} (len0 : Nat) (z0 : List ByteArray) (a1 : Int) (wf : h.Wf)
    (w0 : ∀ s ∈ z0, (bytesL s).length ≤ maxLen) (y0 : len0 * 16 ≤ 140737488351232) (s0 : Sl h 1 x0 len0 ((z0.take len0).map (fun s => AV.str (bytesL s)))) (t0 : Slot (Old h.n) h x0)
    (w1 : (Lit.int .i8 a1).wf = true) :
    WCall ⟨table Try.prog, ovs⟩ 7 [x0, .int .i8 a1] h fun r _ => r = .val (.bool true) := by
  obtain ⟨l, b0, l0, hs⟩ := strs_arg w0 s0
  obtain ⟨m1, m2⟩ := i8_arg w1
  exact C.lists_answer wf b0 t0 (by omega) (fun t ht => by have := hs t ht; unfold maxLen at this; omega) m1 m2
end Go.Proofs.Ythhibhhpcjggnab
