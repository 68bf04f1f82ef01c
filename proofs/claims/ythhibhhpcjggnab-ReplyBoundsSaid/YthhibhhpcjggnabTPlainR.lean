/- An answer and its bytes: by plain definition. -/
import Derived.Test.YthhibhhpcjggnabTRefs
namespace Go.Proofs.Ythhibhhpcjggnab.Ev.C
open Go Go.Proofs.Ythhibhhpcjggnab.Ev
set_option linter.unusedSimpArgs false
set_option linter.unusedVariables false
structure Rep where
  code : Int
  rev : Int
  steps : Int
  is : Bool
  list : List (List UInt8)
  more : List UInt8
def inB (x : Int) : Bool := decide (0 ≤ x) && decide (x ≤ 2147483648)
def emptyR (r : Rep) : Bool := decide (r.rev = 0) && !r.is && decide (r.list.length + r.more.length = 0)
def mayR (r : Rep) : Bool := inB r.code && inB r.rev && inB r.steps && decide (r.list.length ≤ 64) && (decide (r.code = 0) || emptyR r)
def isN (b : Bool) : Nat := if b then 1 else 0
def body (r : Rep) : List UInt8 := num r.code.toNat ++ (num r.rev.toNat ++ (num r.steps.toNat ++ (num (isN r.is) ++ (lst r.list ++ txt r.more))))
def putR (r : Rep) : List UInt8 := if mayR r then body r else []
def smallN (n : Nat) : Int := (min n 2147483649 : Nat)
/-- what is read of any bytes -/
def readR (bs : List UInt8) : Rep × RS :=
  let a := rNum (bs, 0); let b := rNum a.2; let c := rNum b.2; let d := rNum c.2; let l := rList 64 d.2; let t := rText l.2
  (⟨smallN a.1, smallN b.1, smallN c.1, decide (d.1 = 1), l.1, t.1⟩, t.2)
theorem inB_iff {x : Int} : inB x = true ↔ 0 ≤ x ∧ x ≤ 2147483648 := by simp [inB]
theorem mayR_iff {r : Rep} : mayR r = true ↔ (0 ≤ r.code ∧ r.code ≤ 2147483648) ∧ (0 ≤ r.rev ∧ r.rev ≤ 2147483648) ∧ (0 ≤ r.steps ∧ r.steps ≤ 2147483648) ∧ r.list.length ≤ 64 ∧ (r.code = 0 ∨ emptyR r = true) := by
  simp only [mayR, Bool.and_eq_true, inB_iff, decide_eq_true_eq, Bool.or_eq_true]
  constructor
  · rintro ⟨⟨⟨⟨a, b⟩, c⟩, d⟩, e⟩; exact ⟨a, b, c, d, e⟩
  · rintro ⟨a, b, c, d, e⟩; exact ⟨⟨⟨⟨a, b⟩, c⟩, d⟩, e⟩
theorem small_id {x : Int} (h0 : 0 ≤ x) (h1 : x ≤ 2147483648) : smallN x.toNat = x := by
  unfold smallN
  omega
theorem readR_body {r : Rep} (h : mayR r = true) (hl : ∀ t ∈ r.list, t.length < 18446744073709551616) (hm : r.more.length < 18446744073709551616) (rest : List UInt8) : readR (body r ++ rest) = (r, (rest, 0)) := by
  obtain ⟨⟨a1, a2⟩, ⟨b1, b2⟩, ⟨c1, c2⟩, d1, d2⟩ := mayR_iff.1 h
  have e1 : rNum (body r ++ rest, 0) = (r.code.toNat, (num r.rev.toNat ++ (num r.steps.toNat ++ (num (isN r.is) ++ (lst r.list ++ (txt r.more ++ rest)))), 0)) := by
    rw [show body r ++ rest = num r.code.toNat ++ (num r.rev.toNat ++ (num r.steps.toNat ++ (num (isN r.is) ++ (lst r.list ++ (txt r.more ++ rest))))) from by simp only [body, List.append_assoc]]
    exact rNum_num (by omega) _
  have hi : isN r.is < 18446744073709551616 := by unfold isN; split <;> decide
  have e5 := rList_lst (l := r.list) (by omega) hl (txt r.more ++ rest) 64
  rw [if_neg (by omega)] at e5
  have e7 : decide (isN r.is = 1) = r.is := by unfold isN; cases r.is <;> rfl
  simp only [readR, e1, rNum_num (x := r.rev.toNat) (by omega), rNum_num (x := r.steps.toNat) (by omega), rNum_num hi, e5, rText_txt hm, e7, small_id a1 a2, small_id b1 b2, small_id c1 c2]
theorem body_pos (r : Rep) : 0 < (body r).length := by
  have := num_pos r.code.toNat
  simp only [body, List.length_append]; omega
/-- bytes of two answers, one a beginning of the other: the same -/
theorem body_prefix {r r' : Rep} (h : mayR r = true) (h' : mayR r' = true) (hl : ∀ t ∈ r.list, t.length < 18446744073709551616) (hm : r.more.length < 18446744073709551616)
    (hl' : ∀ t ∈ r'.list, t.length < 18446744073709551616) (hm' : r'.more.length < 18446744073709551616) {a b : List UInt8} (e : body r ++ a = body r' ++ b) : a = b := by
  have e1 := readR_body h hl hm a
  have e2 := readR_body h' hl' hm' b
  rw [e, e2] at e1
  have := congrArg (fun p => p.2.1) e1
  exact this.symm
end Go.Proofs.Ythhibhhpcjggnab.Ev.C
