/- The answer of the law FieldsOne, for every input: over the interpreter. -/
import Derived.Test.YthhibhhpcjggnabWOne
import Derived.Test.YthhibhhpcjggnabAw
namespace Go.Proofs.Ythhibhhpcjggnab
open Go Go.Proofs.Ythhibhhpcjggnab.Ev
theorem fieldsOne_answer {x0 x1 : AV} {h : H} (len0 : Nat) (z0 : List Int) (len1 : Nat) (z1 : List Int) (a2 a3 : Int) (wf : h.Wf)
    (w0 : ∀ n ∈ z0, (Lit.int .u8 n).wf = true) (y0 : len0 * 1 ≤ 140737488351232) (s0 : Sl h 1 x0 len0 ((z0.take len0).map (AV.int .u8))) (t0 : Slot (Old h.n) h x0)
    (w1 : ∀ n ∈ z1, (Lit.int .u8 n).wf = true) (y1 : len1 * 1 ≤ 140737488351232) (s1 : Sl h 1 x1 len1 ((z1.take len1).map (AV.int .u8))) (t1 : Slot (Old h.n) h x1)
    (w2 : (Lit.int .u64 a2).wf = true) (w3 : (Lit.int .u64 a3).wf = true) :
    WCall ⟨table Try.prog, ovs⟩ 6 [x0, x1, .int .u64 a2, .int .u64 a3] h fun r _ => r = .val (.bool true) := by
  obtain ⟨bs, b0, l0⟩ := bytes_arg w0 s0
  obtain ⟨ms, b1, l1⟩ := bytes_arg w1 s1
  obtain ⟨x, rfl, hx⟩ := u64_arg w2
  obtain ⟨y, rfl, hy⟩ := u64_arg w3
  exact C.one_answer wf b0 t0 b1 t1 (by omega) (by omega) hx hy
end Go.Proofs.Ythhibhhpcjggnab
