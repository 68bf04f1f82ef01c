/- Least levels, in plain words: what asks for them. -/
import Derived.Test.YtaahagjaldgmoaaDoorTLevels
import Derived.Test.YtaahagjaldgmoaaDoorEv31
namespace Go.Proofs.YtaahagjaldgmoaaDoor.Ev.C
open Go Go.Proofs.YtaahagjaldgmoaaDoor.Ev
set_option linter.unusedVariables false
theorem Least.tight {k : Nat} {l : List Ed} {f : List Nat} (L : Least k l f) {i : Nat} (hi : 0 < lv f i) : ∃ e ∈ l, e.1.toNat = i ∧ lv f i = lv f e.2.1.toNat + wt e.2.2 := by
  refine Classical.byContradiction fun hno => ?_
  have hno' : ∀ e ∈ l, e.1.toNat = i → lv f i ≠ lv f e.2.1.toNat + wt e.2.2 := fun e he h1 h2 => hno ⟨e, he, h1, h2⟩
  have hs : Sol l (fun j => if j = i then lv f i - 1 else lv f j) := by
    intro e he
    have h1 := L.sol e he
    have h2 : (if e.2.1.toNat = i then lv f i - 1 else lv f e.2.1.toNat) ≤ lv f e.2.1.toNat := by
      split
      · rename_i h; rw [h]; omega
      · exact Nat.le_refl _
    show (if e.2.1.toNat = i then lv f i - 1 else lv f e.2.1.toNat) + wt e.2.2 ≤ if e.1.toNat = i then lv f i - 1 else lv f e.1.toNat
    by_cases h : e.1.toNat = i
    · have h3 := hno' e he h
      rw [if_pos h]
      rw [h] at h1
      omega
    · rw [if_neg h]; omega
  have := L.least _ hs i
  simp only [if_true] at this
  omega
theorem Least.gap {k : Nat} {l : List Ed} {f : List Nat} (L : Least k l f) {i v : Nat} (hv : 0 < v) (hi : v ≤ lv f i) : ∃ e ∈ l, e.2.2 = true ∧ lv f e.1.toNat = v := by
  refine Classical.byContradiction fun hno => ?_
  have hno' : ∀ e ∈ l, e.2.2 = true → lv f e.1.toNat ≠ v := fun e he h1 h2 => hno ⟨e, he, h1, h2⟩
  have hs : Sol l (fun j => if v ≤ lv f j then lv f j - 1 else lv f j) := by
    intro e he
    have h1 := L.sol e he
    show (if v ≤ lv f e.2.1.toNat then lv f e.2.1.toNat - 1 else lv f e.2.1.toNat) + wt e.2.2 ≤ if v ≤ lv f e.1.toNat then lv f e.1.toNat - 1 else lv f e.1.toNat
    generalize lv f e.2.1.toNat = B at h1 ⊢
    cases hw : e.2.2
    · rw [hw] at h1
      simp only [wt, Bool.false_eq_true, if_false] at h1 ⊢
      generalize lv f e.1.toNat = A at h1 ⊢
      split <;> split <;> omega
    · have h2 := hno' e he hw
      rw [hw] at h1
      simp only [wt, if_true] at h1 ⊢
      generalize lv f e.1.toNat = A at h1 h2 ⊢
      split <;> split <;> omega
  have := L.least _ hs i
  simp only [hi, if_true] at this
  omega
theorem Least.nots {k : Nat} {l : List Ed} {f : List Nat} (L : Least k l f) (i : Nat) : lv f i ≤ (l.filter (·.2.2)).length := by
  have h := nodup_sub_len (l := (List.range (lv f i)).map (· + 1)) (m := (l.filter (·.2.2)).map fun e => lv f e.1.toNat) ?_ ?_
  · simpa using h
  · rw [List.nodup_iff_pairwise_ne, List.pairwise_map]
    exact (List.nodup_iff_pairwise_ne.1 List.nodup_range).imp fun h => by omega
  · intro x hx
    obtain ⟨v, hv, rfl⟩ := List.mem_map.1 hx
    obtain ⟨e, he, hn, hl⟩ := L.gap (v := v + 1) (i := i) (by omega) (by have := List.mem_range.1 hv; omega)
    exact List.mem_map.2 ⟨e, List.mem_filter.2 ⟨he, by simpa using hn⟩, hl⟩
theorem NoSol.nots {k : Nat} {l : List Ed} (n : NoSol k l) : 0 < (l.filter (·.2.2)).length := by
  refine Classical.byContradiction fun hno => ?_
  have h0 : l.filter (·.2.2) = [] := List.eq_nil_of_length_eq_zero (by omega)
  obtain ⟨i, hi⟩ := n (fun _ => 0) fun e he => by
    cases hw : e.2.2
    · simp [wt]
    · have : e ∈ l.filter (·.2.2) := List.mem_filter.2 ⟨he, by simpa using hw⟩
      rw [h0] at this; cases this
  omega
end Go.Proofs.YtaahagjaldgmoaaDoor.Ev.C
