/- The answer of the law FieldsReads, for every input: over the interpreter. -/
import Derived.Test.YthhibhhpcjggnabTWReads2
import Derived.Test.YthhibhhpcjggnabTAwake
namespace Go.Proofs.Ythhibhhpcjggnab
open Go Go.Proofs.Ythhibhhpcjggnab.Ev
theorem fieldsReads_answer {x0 x1 : AV} {h : H} (len0 : Nat) (z0 : List Int) (len1 : Nat) (z1 : List Int) (wf : h.Wf)
    (w0 : ∀ n ∈ z0, (Lit.int .u8 n).wf = true) (y0 : len0 * 1 ≤ 140737488351232) (s0 : Sl h 1 x0 len0 ((z0.take len0).map (AV.int .u8))) (t0 : Slot (Old h.n) h x0)
    (w1 : ∀ n ∈ z1, (Lit.int .i8 n).wf = true) (y1 : len1 * 1 ≤ 140737488351232) (s1 : Sl h 1 x1 len1 ((z1.take len1).map (AV.int .i8))) (t1 : Slot (Old h.n) h x1) :
    WCall ⟨table Try.prog, ovs⟩ 4 [x0, x1] h fun r _ => r = .val (.bool true) := by
  obtain ⟨bs, b0, l0⟩ := bytes_arg w0 s0
  have hs := s1.size
  rw [List.length_map, Nat.mul_one] at hs
  have s1' : Sl h 1 x1 (z1.take len1).length ((z1.take len1).map (AV.int .i8)) := by rw [hs]; exact s1
  exact C.reads_answer wf b0 t0 s1' t1 (by omega) (by omega) fun o ho => i8_arg (w1 o (List.mem_of_mem_take ho))
end Go.Proofs.Ythhibhhpcjggnab
