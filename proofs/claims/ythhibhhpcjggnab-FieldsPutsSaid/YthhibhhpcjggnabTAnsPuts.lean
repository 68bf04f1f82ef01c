/- The answer of the law FieldsPuts, for every input: over the interpreter. -/
import Derived.Test.YthhibhhpcjggnabTWPuts
import Derived.Test.YthhibhhpcjggnabTAwake
namespace Go.Proofs.Ythhibhhpcjggnab
open Go Go.Proofs.Ythhibhhpcjggnab.Ev
theorem fieldsPuts_answer {x0 x1 x2 : AV} {h : H} (len0 : Nat) (z0 : List Int) (len1 : Nat) (z1 : List ByteArray) (len2 : Nat) (z2 : List Int) (wf : h.Wf)
    (w0 : ∀ n ∈ z0, (Lit.int .u64 n).wf = true) (y0 : len0 * 8 ≤ 140737488351232) (s0 : Sl h 1 x0 len0 ((z0.take len0).map (AV.int .u64))) (t0 : Slot (Old h.n) h x0)
    (w1 : ∀ s ∈ z1, (bytesL s).length ≤ maxLen) (y1 : len1 * 16 ≤ 140737488351232) (s1 : Sl h 1 x1 len1 ((z1.take len1).map (fun s => AV.str (bytesL s)))) (t1 : Slot (Old h.n) h x1)
    (w2 : ∀ n ∈ z2, (Lit.int .u8 n).wf = true) (y2 : len2 * 1 ≤ 140737488351232) (s2 : Sl h 1 x2 len2 ((z2.take len2).map (AV.int .u8))) (t2 : Slot (Old h.n) h x2) :
    WCall ⟨table Try.prog, ovs⟩ 3 [x0, x1, x2] h fun r _ => r = .val (.bool true) := by
  obtain ⟨l, b0, l0, hl⟩ := u64s_arg w0 s0
  obtain ⟨t, b1, l1, hs⟩ := strs_arg w1 s1
  obtain ⟨bs, b2, l2⟩ := bytes_arg w2 s2
  exact C.puts_answer wf b0 t0 b1 t1 b2 t2 hl (by omega) (by omega) (fun t ht => by have := hs t ht; unfold maxLen at this; omega) (by omega)
end Go.Proofs.Ythhibhhpcjggnab
