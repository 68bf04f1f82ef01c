/- A struct of six cells among the arguments of a row. -/
import Derived.Test.YtgjcdpanabjcmaaGreatDoorEv28
import Derived.Lib.SmallJoins
namespace Go.Proofs.YtgjcdpanabjcmaaGreatDoor.Ev
open Go.ChangeShapes Go.WideShapes Go.RowKit Go.Deep Go.Joins
set_option linter.unusedVariables false
set_option linter.unusedSimpArgs false
theorem arr6 {α : Type} {cs : Array α} (h : cs.size = 6) : ∃ c0 c1 c2 c3 c4 c5, cs = #[c0, c1, c2, c3, c4, c5] := by
  obtain ⟨l⟩ := cs
  match l, h with
  | [c0, c1, c2, c3, c4, c5], _ => exact ⟨c0, c1, c2, c3, c4, c5, rfl⟩
section
variable {H : Type} {enc : TypeId × Value → H} {P : Program} {w : World} {base : Nat} {spare : Nat → Bool} {held : Bool}
theorem trod_str6 {t : TypeId} {f0 f1 f2 f3 f4 f5 : Field} {fuel : Nat} {cs : List Value} {x : DataW H × List MemPlace} (ht : P.underlying t = some (.struct #[f0, f1, f2, f3, f4, f5])) (h : DataW.trod enc P w base spare held fuel t cs = some x) :
    ∃ y0 y1 y2 y3 y4 y5 n, x = (.agg [y0.1, y1.1, y2.1, y3.1, y4.1, y5.1], y0.2 ++ (y1.2 ++ (y2.2 ++ (y3.2 ++ (y4.2 ++ y5.2))))) ∧ DataW.trod enc P w base spare held n f0.type ((cs.drop f0.offset).take (P.cellsOf f0.type)) = some y0 ∧
      DataW.trod enc P w base spare held n f1.type ((cs.drop f1.offset).take (P.cellsOf f1.type)) = some y1 ∧ DataW.trod enc P w base spare held n f2.type ((cs.drop f2.offset).take (P.cellsOf f2.type)) = some y2 ∧
      DataW.trod enc P w base spare held n f3.type ((cs.drop f3.offset).take (P.cellsOf f3.type)) = some y3 ∧ DataW.trod enc P w base spare held n f4.type ((cs.drop f4.offset).take (P.cellsOf f4.type)) = some y4 ∧
      DataW.trod enc P w base spare held n f5.type ((cs.drop f5.offset).take (P.cellsOf f5.type)) = some y5 := by
  obtain ⟨xs, n, _, rfl, hl, hlen, hf⟩ := DataW.trod_struct ht h
  match xs, hlen with
  | [y0, y1, y2, y3, y4, y5], _ => exact ⟨y0, y1, y2, y3, y4, y5, n, by simp, by simpa using hf 0 f0 rfl, by simpa using hf 1 f1 rfl, by simpa using hf 2 f2 rfl, by simpa using hf 3 f3 rfl, by simpa using hf 4 f4 rfl, by simpa using hf 5 f5 rfl⟩
theorem open_agg6 {r : Reach} {b0 : Nat} {t t0 t1 t2 t3 t4 t5 : TypeId} {f0 f1 f2 f3 f4 f5 : Field} {v : Value} {d : DataW H} {p : List MemPlace} (hs : P.underlying t = some (.struct #[f0, f1, f2, f3, f4, f5]))
    (hone : oneCellFields P #[f0, f1, f2, f3, f4, f5] = true) (hC : P.cellsOf t = 6) (hts : P.cellTypes P.depth t = some [t0, t1, t2, t3, t4, t5])
    (hv : Value.okWide P w r b0 t v) (h : DataW.Trod enc P w base spare held t v d p) :
    ∃ (v0 v1 v2 v3 v4 v5 : Value) (y0 y1 y2 y3 y4 y5 : DataW H × List MemPlace) (n : Nat), v = .agg #[v0, v1, v2, v3, v4, v5] ∧
      DataW.trod enc P w base spare held n f0.type [v0] = some y0 ∧ DataW.trod enc P w base spare held n f1.type [v1] = some y1 ∧ DataW.trod enc P w base spare held n f2.type [v2] = some y2 ∧ DataW.trod enc P w base spare held n f3.type [v3] = some y3 ∧
      DataW.trod enc P w base spare held n f4.type [v4] = some y4 ∧ DataW.trod enc P w base spare held n f5.type [v5] = some y5 ∧ Cell.okWide P w r b0 t4 v4 ∧ Cell.okWide P w r b0 t5 v5 := by
  have hv0 := hv
  simp only [Value.okWide, hs] at hv
  obtain ⟨cs, rfl, hsz, ts, hts', _, hcells⟩ := hv
  rw [hts] at hts'
  cases hts'
  obtain ⟨c0, c1, c2, c3, c4, c5, rfl⟩ := arr6 (hsz.trans hC)
  obtain ⟨fuel, hf⟩ := h
  obtain ⟨y0, y1, y2, y3, y4, y5, n, hx, h0, h1, h2, h3, h4, h5⟩ := trod_str6 hs hf
  obtain ⟨o0, k0⟩ := hone_of hone 0 f0 rfl
  obtain ⟨o1, k1⟩ := hone_of hone 1 f1 rfl
  obtain ⟨o2, k2⟩ := hone_of hone 2 f2 rfl
  obtain ⟨o3, k3⟩ := hone_of hone 3 f3 rfl
  obtain ⟨o4, k4⟩ := hone_of hone 4 f4 rfl
  obtain ⟨o5, k5⟩ := hone_of hone 5 f5 rfl
  obtain ⟨u4, e4, q4⟩ := hcells 4 c4 rfl
  obtain ⟨u5, e5, q5⟩ := hcells 5 c5 rfl
  cases e4
  cases e5
  exact ⟨c0, c1, c2, c3, c4, c5, y0, y1, y2, y3, y4, y5, n, rfl, by simpa [Value.cells, o0, k0] using h0, by simpa [Value.cells, o1, k1] using h1, by simpa [Value.cells, o2, k2] using h2, by simpa [Value.cells, o3, k3] using h3,
    by simpa [Value.cells, o4, k4] using h4, by simpa [Value.cells, o5, k5] using h5, q4, q5⟩
theorem cell_block {r : Reach} {b0 : Nat} {t e : TypeId} {x : Addr} {l c : Nat} (ht : P.underlying t = some (.slice e)) (h : Cell.okWide P w r b0 t (.slice (some x) l c)) : x.block < w.heap.size := by
  refine okWide_block (base := b0) (r := r) (l := l) (c := c) ht ?_
  simp only [Value.okWide, ht]
  exact h
end
theorem StrRow.lenLe {W : World} {a : Option Addr} {len cap : Nat} {zs : List ByteArray} (w : StrRow W a len cap zs) : len ≤ maxLen := by
  rcases w with ⟨_, h, _, _⟩ | ⟨x, _, _, h, h2, _⟩
  · omega
  · omega
theorem IntRow.lenLe {W : World} {k : IntKind} {a : Option Addr} {len cap : Nat} {zs : List Int} (w : IntRow W k a len cap zs) : len ≤ maxLen := by
  rcases w with ⟨_, h, _, _⟩ | ⟨x, _, _, h, h2, _⟩
  · omega
  · omega
theorem i64_arg {a : Int} (w : (Lit.int .i64 a).wf = true) : -9223372036854775808 ≤ a ∧ a < 9223372036854775808 := by
  simp only [Lit.wf, IntKind.min, IntKind.max] at w
  revert w
  simp [IntKind.signed, IntKind.bits]
  omega
theorem u8_arg {a : Int} (w : (Lit.int .u8 a).wf = true) : 0 ≤ a ∧ a < 256 := by
  simp only [Lit.wf, IntKind.min, IntKind.max] at w
  revert w
  simp [IntKind.signed, IntKind.bits]
  omega
end Go.Proofs.YtgjcdpanabjcmaaGreatDoor.Ev
