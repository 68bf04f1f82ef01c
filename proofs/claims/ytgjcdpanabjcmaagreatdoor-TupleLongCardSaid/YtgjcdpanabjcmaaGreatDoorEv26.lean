/- Arguments of a row: slices of texts. -/
import Derived.Test.YtgjcdpanabjcmaaGreatDoorEv25
import Derived.SliceStrings
namespace Go.Proofs.YtgjcdpanabjcmaaGreatDoor.Ev
open Go.ChangeShapes Go.WideShapes Go.RowKit
set_option linter.unusedVariables false
set_option linter.unusedSimpArgs false

def StrRow (W : World) (a : Option Addr) (len cap : Nat) (zs : List ByteArray) : Prop :=
  (a = none ∧ len = 0 ∧ cap = 0 ∧ zs = []) ∨
  ∃ x, a = some x ∧ x.block < W.heap.size ∧ len ≤ cap ∧ cap ≤ maxLen ∧ zs.length = cap ∧ (∀ i, i < zs.length → W.cell? (x.add i) = some (.string (zs.getD i ByteArray.empty))) ∧ ∀ s ∈ zs, s.size ≤ maxLen
abbrev bytesL (s : ByteArray) : List UInt8 := s.data.toList
theorem StrRow.size {W : World} {a : Option Addr} {len cap : Nat} {zs : List ByteArray} (w : StrRow W a len cap zs) : ∀ s ∈ zs, (bytesL s).length ≤ maxLen := by
  rcases w with ⟨_, _, _, rfl⟩ | ⟨x, _, _, _, _, _, _, h⟩
  · intro n hn; cases hn
  · intro s hs
    have := h s hs
    rw [Array.length_toList]
    exact this
theorem StrRow.len {W : World} {a : Option Addr} {len cap : Nat} {zs : List ByteArray} (w : StrRow W a len cap zs) : len ≤ zs.length := by
  rcases w with ⟨_, h, _, rfl⟩ | ⟨x, _, _, h, _, h2, _, _⟩
  · rw [h]; exact Nat.zero_le _
  · omega

theorem open_strs_arg {P : Program} {m : M} {h : H} {W : World} {a : Option Addr} {len cap : Nat} {zs : List ByteArray} (r : Rel P W.heap.size m h W) (w : StrRow W a len cap zs) :
    ∃ m' h' v, Rel P W.heap.size m' h' W ∧ M.le m m' ∧ Keep (Old h.n) h h' ∧ VRel m' v (.slice a len cap) ∧ Sl h' 1 v len ((zs.take len).map (fun s => AV.str (bytesL s))) ∧ Slot (Old h'.n) h' v := by
  have q : ArgRow W.heap.size m W 1 a len cap (zs.map (fun s => AV.str (bytesL s))) := by
    rcases w with ⟨h1, h2, h3, rfl⟩ | ⟨x, h1, h2, h3, h4, h5, h6, h7⟩
    · exact .inl ⟨h1, h2, h3, rfl⟩
    · refine .inr ⟨x, h1, h2, h3, by simpa using h5, fun i u hu => ?_⟩
      rw [List.getElem?_map] at hu
      obtain ⟨z, hz, rfl⟩ := Option.map_eq_some_iff.1 hu
      have hi := (List.getElem?_eq_some_iff.1 hz).1
      refine ⟨_, h6 i hi, ?_⟩
      rw [List.getD_eq_getElem?_getD, hz]
      exact VRel.of_string z
  obtain ⟨m', h', v, r1, l1, k1, v1, s1, t1⟩ := open_arg r (by decide) q
  refine ⟨m', h', v, r1, l1, k1, v1, ?_, t1⟩
  rw [Nat.mul_one, ← List.map_take] at s1
  exact s1

theorem sized_strs {H : Type} {enc : TypeId × Value → H} {P : Program} {W : World} {base : Nat} {spare : Nat → Bool} {held : Bool} {t e : TypeId} {a : Option Addr} {len cap : Nat} {d : DataW H} {ps : List MemPlace} {ts : List TypeId} {ds : List (DataW H)} {j : Nat}
    (hsz : (DataW.weightsEach P ts ds).all (· ≤ reachBytes) = true) (ht : ts[j]? = some t) (hd : ds[j]? = some d) (hu : P.underlying t = some (.slice e)) (he : P.underlying e = some .string) (hc : P.cellsOf e = 1) {B : Nat} (hB : P.bytesOf e = B)
    (h : DataW.Trod enc P W base spare held t (.slice a len cap) d ps) : len * B ≤ 140737488351232 := by
  obtain ⟨fuel, hf⟩ := h
  rcases open_strings hu he hc hf with ⟨hcs, _⟩ | ⟨x, l, c, zs, hcs, _, hl, _, hz, hx, _, _⟩
  · simp only [Value.cells, List.cons.injEq, Value.slice.injEq, and_true] at hcs
    rw [hcs.2.1, Nat.zero_mul]
    exact Nat.zero_le _
  · simp only [Value.cells, List.cons.injEq, Value.slice.injEq, and_true] at hcs
    obtain ⟨_, rfl, rfl⟩ := hcs
    obtain ⟨rfl, _⟩ := Prod.mk.inj hx
    have z := sized_slice hsz ht hd hu
    have hle : len ≤ zs.length := by rw [hz]; split <;> omega
    have hcount : (strs (H := H) (zs.take len)).length + (strs (H := H) (zs.drop len)).length = zs.length := by simp [strs]; omega
    rw [hB, hcount] at z
    exact Nat.le_trans (Nat.mul_le_mul_right _ hle) z
/-- a row's texts -/
theorem strs_arg {h : H} {x : AV} {len : Nat} {z : List ByteArray} (w : ∀ s ∈ z, (bytesL s).length ≤ maxLen) (s : Sl h 1 x len ((z.take len).map (fun s => AV.str (bytesL s)))) :
    ∃ l : List (List UInt8), Strs h x l ∧ l.length = len ∧ ∀ t ∈ l, t.length ≤ maxLen := by
  have hs := s.size
  rw [List.length_map] at hs
  have hl : ((z.take len).map bytesL).length = len := by rw [List.length_map]; omega
  refine ⟨(z.take len).map bytesL, ?_, hl, fun t ht => ?_⟩
  · unfold Strs
    rw [hl]
    have : strCells ((z.take len).map bytesL) = (z.take len).map (fun s => AV.str (bytesL s)) := by rw [strCells, List.map_map]; rfl
    rw [this]; exact s
  · obtain ⟨u, hu, rfl⟩ := List.mem_map.1 ht
    exact w u (List.mem_of_mem_take hu)
theorem u64s_arg {h : H} {x : AV} {len : Nat} {z : List Int} (w : ∀ n ∈ z, (Lit.int .u64 n).wf = true) (s : Sl h 1 x len ((z.take len).map (AV.int .u64))) :
    ∃ l : List Nat, U64s h x l ∧ l.length = len ∧ ∀ t ∈ l, t < 18446744073709551616 := by
  have hs := s.size
  rw [List.length_map] at hs
  have hl : ((z.take len).map Int.toNat).length = len := by rw [List.length_map]; omega
  refine ⟨(z.take len).map Int.toNat, ?_, hl, fun t ht => ?_⟩
  · unfold U64s
    rw [hl]
    have : ((z.take len).map Int.toNat).map (fun x => AV.int .u64 (x : Nat)) = (z.take len).map (AV.int .u64) := by
      rw [List.map_map]
      refine List.map_congr_left fun n hn => ?_
      obtain ⟨y, e, _⟩ := u64_arg (w n (List.mem_of_mem_take hn))
      subst e
      simp
    rw [this]; exact s
  · obtain ⟨u, hu, rfl⟩ := List.mem_map.1 ht
    obtain ⟨y, e, hy⟩ := u64_arg (w u (List.mem_of_mem_take hu))
    subst e
    simpa using hy
theorem i8_arg {a : Int} (w : (Lit.int .i8 a).wf = true) : -128 ≤ a ∧ a ≤ 127 := by
  simp only [Lit.wf, IntKind.min, IntKind.max] at w
  revert w
  simp [IntKind.signed, IntKind.bits]
theorem u16_arg {a : Int} (w : (Lit.int .u16 a).wf = true) : 0 ≤ a ∧ a < 65536 := by
  simp only [Lit.wf, IntKind.min, IntKind.max] at w
  revert w
  simp [IntKind.signed, IntKind.bits]
  omega
end Go.Proofs.YtgjcdpanabjcmaaGreatDoor.Ev
