/- The answer of the law FieldsBack, for every input: over the interpreter. -/
import Derived.Test.YthhibhhpcjggnabTWBack
import Derived.Test.YthhibhhpcjggnabTAwake
namespace Go.Proofs.Ythhibhhpcjggnab
open Go Go.Proofs.Ythhibhhpcjggnab.Ev
theorem fieldsBack_answer {x0 x1 : AV} {h : H} (len0 : Nat) (z0 : List Int) (len1 : Nat) (z1 : List ByteArray) (a2 : Int) (wf : h.Wf)
    (w0 : ∀ n ∈ z0, (Lit.int .u64 n).wf = true) (y0 : len0 * 8 ≤ 140737488351232) (s0 : Sl h 1 x0 len0 ((z0.take len0).map (AV.int .u64))) (t0 : Slot (Old h.n) h x0)
    (w1 : ∀ s ∈ z1, (bytesL s).length ≤ maxLen) (y1 : len1 * 16 ≤ 140737488351232) (s1 : Sl h 1 x1 len1 ((z1.take len1).map (fun s => AV.str (bytesL s)))) (t1 : Slot (Old h.n) h x1)
    (w2 : (Lit.int .u16 a2).wf = true) :
    WCall ⟨table Try.prog, ovs⟩ 5 [x0, x1, .int .u16 a2] h fun r _ => r = .val (.bool true) := by
  obtain ⟨l, b0, l0, hl⟩ := u64s_arg w0 s0
  obtain ⟨t, b1, l1, hs⟩ := strs_arg w1 s1
  obtain ⟨m1, m2⟩ := u16_arg w2
  obtain ⟨c, rfl⟩ := Int.eq_ofNat_of_zero_le m1
  exact C.back_answer wf b0 t0 b1 t1 hl (by omega) (by omega) (fun t ht => by have := hs t ht; unfold maxLen at this; omega) (by omega)
end Go.Proofs.Ythhibhhpcjggnab
