/- Arguments of a row: slices of whole numbers, texts. -/
import Derived.Test.YtgjcdpanabjcmaaGreatDoorEv22
import Derived.SizedLaws
import Derived.ChangeSlices
import Derived.ChangeOld
namespace Go.Proofs.YtgjcdpanabjcmaaGreatDoor.Ev
open Go.ChangeShapes Go.WideShapes Go.RowKit
set_option linter.unusedVariables false
set_option linter.unusedSimpArgs false

def IntRow (W : World) (k : IntKind) (a : Option Addr) (len cap : Nat) (zs : List Int) : Prop :=
  (a = none ∧ len = 0 ∧ cap = 0 ∧ zs = []) ∨
  ∃ x, a = some x ∧ x.block < W.heap.size ∧ len ≤ cap ∧ cap ≤ maxLen ∧ zs.length = cap ∧ (∀ i, i < zs.length → W.cell? (x.add i) = some (.int k (zs.getD i 0))) ∧ ∀ n ∈ zs, (Lit.int k n).wf = true
theorem IntRow.wf {W : World} {k : IntKind} {a : Option Addr} {len cap : Nat} {zs : List Int} (w : IntRow W k a len cap zs) : ∀ n ∈ zs, (Lit.int k n).wf = true := by
  rcases w with ⟨_, _, _, rfl⟩ | ⟨x, _, _, _, _, _, _, h⟩
  · intro n hn; cases hn
  · exact h

theorem okWide_block {P : Program} {W : World} {r : Reach} {base : Nat} {t e : TypeId} {x : Addr} {l c : Nat} (ht : P.underlying t = some (.slice e)) (h : Value.okWide P W r base t (.slice (some x) l c)) : x.block < W.heap.size := by
  simp only [Value.okWide, ht, Cell.okWide, Cell.ok] at h
  obtain ⟨_, _, _, _, row, cells, hs, _⟩ := h
  unfold World.shape? at hs
  split at hs
  · rename_i hb; exact (Array.getElem?_eq_some_iff.1 hb).1
  · cases hs

theorem open_ints_arg {P : Program} {m : M} {h : H} {W : World} {k : IntKind} {a : Option Addr} {len cap : Nat} {zs : List Int} (r : Rel P W.heap.size m h W) (w : IntRow W k a len cap zs) :
    ∃ m' h' v, Rel P W.heap.size m' h' W ∧ M.le m m' ∧ Keep (Old h.n) h h' ∧ VRel m' v (.slice a len cap) ∧ Sl h' 1 v len ((zs.take len).map (AV.int k)) ∧ Slot (Old h'.n) h' v := by
  have q : ArgRow W.heap.size m W 1 a len cap (zs.map (AV.int k)) := by
    rcases w with ⟨h1, h2, h3, rfl⟩ | ⟨x, h1, h2, h3, h4, h5, h6, h7⟩
    · exact .inl ⟨h1, h2, h3, rfl⟩
    · refine .inr ⟨x, h1, h2, h3, by simpa using h5, fun i u hu => ?_⟩
      rw [List.getElem?_map] at hu
      obtain ⟨z, hz, rfl⟩ := Option.map_eq_some_iff.1 hu
      have hi := (List.getElem?_eq_some_iff.1 hz).1
      refine ⟨_, h6 i hi, ?_⟩
      rw [List.getD_eq_getElem?_getD, hz]
      exact .int k z
  obtain ⟨m', h', v, r1, l1, k1, v1, s1, t1⟩ := open_arg r (by decide) q
  refine ⟨m', h', v, r1, l1, k1, v1, ?_, t1⟩
  rw [Nat.mul_one, ← List.map_take] at s1
  exact s1

theorem sized_ints {H : Type} {enc : TypeId × Value → H} {P : Program} {W : World} {base : Nat} {spare : Nat → Bool} {held : Bool} {t e : TypeId} {k : IntKind} {a : Option Addr} {len cap : Nat} {d : DataW H} {ps : List MemPlace} {ts : List TypeId} {ds : List (DataW H)} {j : Nat}
    (hsz : (DataW.weightsEach P ts ds).all (· ≤ reachBytes) = true) (ht : ts[j]? = some t) (hd : ds[j]? = some d) (hu : P.underlying t = some (.slice e)) (he : P.underlying e = some (.int k)) (hc : P.cellsOf e = 1) {B : Nat} (hB : P.bytesOf e = B)
    (h : DataW.Trod enc P W base spare held t (.slice a len cap) d ps) : len * B ≤ 140737488351232 := by
  obtain ⟨fuel, hf⟩ := h
  rcases open_ints hu he hc hf with ⟨hcs, _⟩ | ⟨x, l, c, zs, hcs, _, hl, _, hz, hx, _, _⟩
  · simp only [Value.cells, List.cons.injEq, Value.slice.injEq, and_true] at hcs
    rw [hcs.2.1, Nat.zero_mul]
    exact Nat.zero_le _
  · simp only [Value.cells, List.cons.injEq, Value.slice.injEq, and_true] at hcs
    obtain ⟨_, rfl, rfl⟩ := hcs
    obtain ⟨rfl, _⟩ := Prod.mk.inj hx
    have z := sized_slice hsz ht hd hu
    have hle : len ≤ zs.length := by rw [hz]; split <;> omega
    have hcount : (lits (H := H) k (zs.take len)).length + (lits (H := H) k (zs.drop len)).length = zs.length := by simp [lits]; omega
    rw [hB, hcount] at z
    exact Nat.le_trans (Nat.mul_le_mul_right _ hle) z

theorem VRel.of_string {m : M} (s : ByteArray) : VRel m (.str s.data.toList) (.string s) := by
  cases s with | mk d => cases d with | mk l => exact .str l

/-- numbers below 256 that are bytes -/
theorem bytes_of_ints : ∀ (zs : List Int), (∀ n ∈ zs, (Lit.int .u8 n).wf = true) → zs.map (AV.int .u8) = byteCells (zs.map fun n => UInt8.ofNat n.toNat)
  | [], _ => rfl
  | n :: zs, h => by
    have h1 := h n (by simp)
    have h2 := bytes_of_ints zs (fun x hx => h x (by simp [hx]))
    simp only [List.map_cons, byteCells] at h2 ⊢
    rw [h2]
    congr 1
    have : 0 ≤ n ∧ n < 256 := by
      simp only [Lit.wf, IntKind.min, IntKind.max] at h1
      revert h1
      simp [IntKind.signed, IntKind.bits]
      omega
    rw [show ((UInt8.ofNat n.toNat).toNat : Int) = n from by
      rw [UInt8.toNat_ofNat_of_lt' (by simp [UInt8.size]; omega)]; omega]
end Go.Proofs.YtgjcdpanabjcmaaGreatDoor.Ev
