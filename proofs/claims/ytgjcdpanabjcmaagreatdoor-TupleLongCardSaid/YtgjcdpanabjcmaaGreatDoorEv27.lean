/- Texts cut and looked at, one byte as a text, results that stand in cells. -/
import Derived.Test.YtgjcdpanabjcmaaGreatDoorEv26
namespace Go.Proofs.YtgjcdpanabjcmaaGreatDoor.Ev
set_option linter.unusedVariables false
set_option linter.unusedSimpArgs false
@[go_sem] theorem res_tc (s : S) (h : H) (t u n : Nat) (agg : Bool) : resultsA [.tmp t, .cell u agg n] s h = (loadA h agg n (s u)).map fun v => .tup [s t, v] := by
  simp only [resultsA, resultsL, result1]
  cases loadA h agg n (s u) <;> rfl
@[go_sem] theorem res_c (s : S) (h : H) (u n : Nat) (agg : Bool) : resultsA [.cell u agg n] s h = loadA h agg n (s u) := by
  simp only [resultsA, resultsL, result1]
  cases loadA h agg n (s u) <;> rfl
theorem indexStr_at {t : List UInt8} {i : Nat} (hi : i < t.length) (k : IntKind) : indexStrA (.str t) (.int k (i : Int)) = some (.int .u8 (t[i].toNat : Int)) := by
  simp only [indexStrA]
  rw [if_pos (by omega), Int.toNat_natCast, List.getElem?_eq_getElem hi]
  rfl
theorem sliceT_to {t : List UInt8} {k : Nat} (hk : k ≤ t.length) (kd : IntKind) : sliceTA none (some (.int kd (k : Int))) (.str t) = some (.str (t.take k)) := by
  simp only [sliceTA, bounds_to hk, Option.map_some, List.drop_zero, Nat.sub_zero]
theorem sliceT_from {t : List UInt8} {k : Nat} (hk : k ≤ t.length) (kd : IntKind) : sliceTA (some (.int kd (k : Int))) none (.str t) = some (.str (t.drop k)) := by
  simp only [sliceTA, bounds_from hk, Option.map_some]
  rw [List.take_of_length_le (by simp)]
theorem byte_new {h : H} (wf : h.Wf) (c : UInt8) : Bytes (h.new [.int .u8 (c.toNat : Int)]) (.slice h.n 0 1 1) [c] := Sl.new (n := 1) (es := 1) wf (vs := byteCells [c]) (by simp [byteCells])
theorem Box.putAll {r : Nat} {cs vs : List AV} {h : H} (wf : h.Wf) (b : Box r cs h) {n : Nat} (hn : vs.length = n) (h1 : vs.all AV.one = true) (hi : n = cs.length) :
    ∃ h', storeA h n (.ptr r 0) (.agg vs) = some h' ∧ Box r vs h' ∧ KeepA [r] h h' := by
  obtain ⟨h', e, b', k⟩ := b.put wf (i := 0) (n := n) (v := .agg vs) hn h1 (by omega)
  refine ⟨h', e, ?_, k⟩
  rw [splice_all (by show vs.length = _; omega)] at b'
  exact b'
theorem KeepA.newbox {h h' : H} {r N : Nat} (k : KeepA [r] h h') (wf : h.Wf) (hN : N ≤ h.n) (hr : N ≤ r) : Keep (Old N) h h' := k.old wf hN (by simpa using hr)
theorem wrapN {n : Nat} (h : n < 18446744073709551616) : IntKind.u64.wrap (n : Int) = (n : Int) := wrap_u64 (Int.natCast_nonneg _) (by omega)
theorem wrapI {n : Nat} (h : n < 9223372036854775808) : IntKind.i64.wrap (n : Int) = (n : Int) := wrap_i64 (by have := Int.natCast_nonneg n; omega) (by omega)
end Go.Proofs.YtgjcdpanabjcmaaGreatDoor.Ev
