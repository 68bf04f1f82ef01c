/-
  No cell of these rows narrows 'for every input' (looked for: loops, veiled, ifaces, maps, wideKeys, modest, calm, conditions, laid).
  DERIVED. THE GIVEN ROWS OF THIS SEAT. 9 by the template 'for every input the law returns true; each argument reads behind the call as it read before'; 0 by the template 'total and deterministic' (their statements: YthhibhhpcjggnabTotals.lean).
  GIVEN WITH THE SEED: the statements are not yours to turn. If you find one false, say at which input.
  Laid BY PROGRAM, IN A SANDBOX (cutbox-rows.mjs): the forced cells as the released guide's own fill.sh prints them over the translation afa71abdc43bb670… (all of the seat's roots in one cut). By AI agents, Wed Nov 11 2026. No macro, syntax, notation, axiom, sorry.
-/
import Derived.Test.YthhibhhpcjggnabChecked
import GoSem.Claim
import GoSem.ClaimJoined
import GoSem.ClaimMapViews
import Derived.JoinedTies
import Derived.KernelRfl
namespace Go.Proofs.Ythhibhhpcjggnab
/- THE CELL 'sum', in the pinned program and in every row, IS THE sha256 OF THE DUMP (.gsa) THAT YthhibhhpcjggnabProg.lean LOADS. Nothing in Lean hashes anything: it is a label: what it is worth is what the hold of that sum in a sandbox is worth. -/
noncomputable def Try.pinned : Pinned := { name := "ythhibhhpcjggnab", sum := "afa71abdc43bb67049d216a0e0ee45c22215e6cb96826c876d2a4bed2b1efabf", checked := Try.checked }
namespace Rows
def none {H : Type} : Left H := { results := [], args := [] }

/-- 'doormanlaw01.FieldsPuts': WHATEVER THE INPUT: true; the input reads as it did. -/
def fieldsPutsSpec : ChangeSpec := { name := "fieldsPuts", fn := fun _ => fun
  | [d1, d2, d3] => { results := [.lit (.bool true)], args := [d1, d2, d3] }
  | _ => none }
def fieldsPutsRow : OpenClaim := { program := "ythhibhhpcjggnab", sum := "afa71abdc43bb67049d216a0e0ee45c22215e6cb96826c876d2a4bed2b1efabf", func := "doorman/doormanlaw01.FieldsPuts", spec := "fieldsPuts", apart := false }
def FieldsPutsSaid : Prop := fieldsPutsRow.holds Try.pinned (OpenSpec.ofChange fieldsPutsSpec)

/-- ITS FALSE NEIGHBOUR: 'it returns false'. Refute it at one input. -/
def fieldsPutsWrong : ChangeSpec := { name := "fieldsPuts", fn := fun _ => fun
  | [d1, d2, d3] => { results := [.lit (.bool false)], args := [d1, d2, d3] }
  | _ => none }
def FieldsPutsWrongFalsely : Prop := fieldsPutsRow.holds Try.pinned (OpenSpec.ofChange fieldsPutsWrong)

/-- 'doormanlaw01.FieldsReads': WHATEVER THE INPUT: true; the input reads as it did. -/
def fieldsReadsSpec : ChangeSpec := { name := "fieldsReads", fn := fun _ => fun
  | [d1, d2] => { results := [.lit (.bool true)], args := [d1, d2] }
  | _ => none }
def fieldsReadsRow : OpenClaim := { program := "ythhibhhpcjggnab", sum := "afa71abdc43bb67049d216a0e0ee45c22215e6cb96826c876d2a4bed2b1efabf", func := "doorman/doormanlaw01.FieldsReads", spec := "fieldsReads", apart := false }
def FieldsReadsSaid : Prop := fieldsReadsRow.holds Try.pinned (OpenSpec.ofChange fieldsReadsSpec)

/-- ITS FALSE NEIGHBOUR: 'it returns false'. Refute it at one input. -/
def fieldsReadsWrong : ChangeSpec := { name := "fieldsReads", fn := fun _ => fun
  | [d1, d2] => { results := [.lit (.bool false)], args := [d1, d2] }
  | _ => none }
def FieldsReadsWrongFalsely : Prop := fieldsReadsRow.holds Try.pinned (OpenSpec.ofChange fieldsReadsWrong)

/-- 'doormanlaw01.FieldsBack': WHATEVER THE INPUT: true; the input reads as it did. -/
def fieldsBackSpec : ChangeSpec := { name := "fieldsBack", fn := fun _ => fun
  | [d1, d2, d3] => { results := [.lit (.bool true)], args := [d1, d2, d3] }
  | _ => none }
def fieldsBackRow : OpenClaim := { program := "ythhibhhpcjggnab", sum := "afa71abdc43bb67049d216a0e0ee45c22215e6cb96826c876d2a4bed2b1efabf", func := "doorman/doormanlaw01.FieldsBack", spec := "fieldsBack", apart := false }
def FieldsBackSaid : Prop := fieldsBackRow.holds Try.pinned (OpenSpec.ofChange fieldsBackSpec)

/-- ITS FALSE NEIGHBOUR: 'it returns false'. Refute it at one input. -/
def fieldsBackWrong : ChangeSpec := { name := "fieldsBack", fn := fun _ => fun
  | [d1, d2, d3] => { results := [.lit (.bool false)], args := [d1, d2, d3] }
  | _ => none }
def FieldsBackWrongFalsely : Prop := fieldsBackRow.holds Try.pinned (OpenSpec.ofChange fieldsBackWrong)

/-- 'doormanlaw01.FieldsOne': WHATEVER THE INPUT: true; the input reads as it did. -/
def fieldsOneSpec : ChangeSpec := { name := "fieldsOne", fn := fun _ => fun
  | [d1, d2, d3, d4] => { results := [.lit (.bool true)], args := [d1, d2, d3, d4] }
  | _ => none }
def fieldsOneRow : OpenClaim := { program := "ythhibhhpcjggnab", sum := "afa71abdc43bb67049d216a0e0ee45c22215e6cb96826c876d2a4bed2b1efabf", func := "doorman/doormanlaw01.FieldsOne", spec := "fieldsOne", apart := false }
def FieldsOneSaid : Prop := fieldsOneRow.holds Try.pinned (OpenSpec.ofChange fieldsOneSpec)

/-- ITS FALSE NEIGHBOUR: 'it returns false'. Refute it at one input. -/
def fieldsOneWrong : ChangeSpec := { name := "fieldsOne", fn := fun _ => fun
  | [d1, d2, d3, d4] => { results := [.lit (.bool false)], args := [d1, d2, d3, d4] }
  | _ => none }
def FieldsOneWrongFalsely : Prop := fieldsOneRow.holds Try.pinned (OpenSpec.ofChange fieldsOneWrong)

/-- 'doormanlaw01.FieldsLists': WHATEVER THE INPUT: true; the input reads as it did. -/
def fieldsListsSpec : ChangeSpec := { name := "fieldsLists", fn := fun _ => fun
  | [d1, d2] => { results := [.lit (.bool true)], args := [d1, d2] }
  | _ => none }
def fieldsListsRow : OpenClaim := { program := "ythhibhhpcjggnab", sum := "afa71abdc43bb67049d216a0e0ee45c22215e6cb96826c876d2a4bed2b1efabf", func := "doorman/doormanlaw01.FieldsLists", spec := "fieldsLists", apart := false }
def FieldsListsSaid : Prop := fieldsListsRow.holds Try.pinned (OpenSpec.ofChange fieldsListsSpec)

/-- ITS FALSE NEIGHBOUR: 'it returns false'. Refute it at one input. -/
def fieldsListsWrong : ChangeSpec := { name := "fieldsLists", fn := fun _ => fun
  | [d1, d2] => { results := [.lit (.bool false)], args := [d1, d2] }
  | _ => none }
def FieldsListsWrongFalsely : Prop := fieldsListsRow.holds Try.pinned (OpenSpec.ofChange fieldsListsWrong)

/-- 'doormanlaw20.ReplyPuts': WHATEVER THE INPUT: true; the input reads as it did. -/
def replyPutsSpec : ChangeSpec := { name := "replyPuts", fn := fun _ => fun
  | [d1, d2, d3] => { results := [.lit (.bool true)], args := [d1, d2, d3] }
  | _ => none }
def replyPutsRow : OpenClaim := { program := "ythhibhhpcjggnab", sum := "afa71abdc43bb67049d216a0e0ee45c22215e6cb96826c876d2a4bed2b1efabf", func := "doorman/doormanlaw20.ReplyPuts", spec := "replyPuts", unfollowed := true, recurses := true, apart := false }
def ReplyPutsSaid : Prop := replyPutsRow.holds Try.pinned (OpenSpec.ofChange replyPutsSpec)

/-- ITS FALSE NEIGHBOUR: 'it returns false'. Refute it at one input. -/
def replyPutsWrong : ChangeSpec := { name := "replyPuts", fn := fun _ => fun
  | [d1, d2, d3] => { results := [.lit (.bool false)], args := [d1, d2, d3] }
  | _ => none }
def ReplyPutsWrongFalsely : Prop := replyPutsRow.holds Try.pinned (OpenSpec.ofChange replyPutsWrong)

/-- 'doormanlaw20.ReplyTakes': WHATEVER THE INPUT: true; the input reads as it did. -/
def replyTakesSpec : ChangeSpec := { name := "replyTakes", fn := fun _ => fun
  | [d1, d2, d3, d4] => { results := [.lit (.bool true)], args := [d1, d2, d3, d4] }
  | _ => none }
def replyTakesRow : OpenClaim := { program := "ythhibhhpcjggnab", sum := "afa71abdc43bb67049d216a0e0ee45c22215e6cb96826c876d2a4bed2b1efabf", func := "doorman/doormanlaw20.ReplyTakes", spec := "replyTakes", unfollowed := true, recurses := true, apart := false }
def ReplyTakesSaid : Prop := replyTakesRow.holds Try.pinned (OpenSpec.ofChange replyTakesSpec)

/-- ITS FALSE NEIGHBOUR: 'it returns false'. Refute it at one input. -/
def replyTakesWrong : ChangeSpec := { name := "replyTakes", fn := fun _ => fun
  | [d1, d2, d3, d4] => { results := [.lit (.bool false)], args := [d1, d2, d3, d4] }
  | _ => none }
def ReplyTakesWrongFalsely : Prop := replyTakesRow.holds Try.pinned (OpenSpec.ofChange replyTakesWrong)

/-- 'doormanlaw20.ReplyShape': WHATEVER THE INPUT: true; the input reads as it did. -/
def replyShapeSpec : ChangeSpec := { name := "replyShape", fn := fun _ => fun
  | [d1, d2, d3, d4] => { results := [.lit (.bool true)], args := [d1, d2, d3, d4] }
  | _ => none }
def replyShapeRow : OpenClaim := { program := "ythhibhhpcjggnab", sum := "afa71abdc43bb67049d216a0e0ee45c22215e6cb96826c876d2a4bed2b1efabf", func := "doorman/doormanlaw20.ReplyShape", spec := "replyShape", unfollowed := true, recurses := true, apart := false }
def ReplyShapeSaid : Prop := replyShapeRow.holds Try.pinned (OpenSpec.ofChange replyShapeSpec)

/-- ITS FALSE NEIGHBOUR: 'it returns false'. Refute it at one input. -/
def replyShapeWrong : ChangeSpec := { name := "replyShape", fn := fun _ => fun
  | [d1, d2, d3, d4] => { results := [.lit (.bool false)], args := [d1, d2, d3, d4] }
  | _ => none }
def ReplyShapeWrongFalsely : Prop := replyShapeRow.holds Try.pinned (OpenSpec.ofChange replyShapeWrong)

/-- 'doormanlaw20.ReplyBounds': WHATEVER THE INPUT: true; the input reads as it did. -/
def replyBoundsSpec : ChangeSpec := { name := "replyBounds", fn := fun _ => fun
  | [d1, d2, d3, d4] => { results := [.lit (.bool true)], args := [d1, d2, d3, d4] }
  | _ => none }
def replyBoundsRow : OpenClaim := { program := "ythhibhhpcjggnab", sum := "afa71abdc43bb67049d216a0e0ee45c22215e6cb96826c876d2a4bed2b1efabf", func := "doorman/doormanlaw20.ReplyBounds", spec := "replyBounds", unfollowed := true, recurses := true, apart := false }
def ReplyBoundsSaid : Prop := replyBoundsRow.holds Try.pinned (OpenSpec.ofChange replyBoundsSpec)

/-- ITS FALSE NEIGHBOUR: 'it returns false'. Refute it at one input. -/
def replyBoundsWrong : ChangeSpec := { name := "replyBounds", fn := fun _ => fun
  | [d1, d2, d3, d4] => { results := [.lit (.bool false)], args := [d1, d2, d3, d4] }
  | _ => none }
def ReplyBoundsWrongFalsely : Prop := replyBoundsRow.holds Try.pinned (OpenSpec.ofChange replyBoundsWrong)

/- THE SECOND FORM. 'bulk': how many values and letters a reading holds, each counted each time it is reached (what is shared counts as often as it is met; a slice's spare places count too). A statement '..UptoSaid' is the law's where the arguments, and the package variables that the reading takes, are together of bulk at most 1048576: NARROWER than '..Said'. Prove '..Said' where nothing that the law and all that it calls make is longer than what came in: it says more and counts as full. Else prove '..UptoSaid'. A law counts once. -/
mutual
def uptoBulk {H : Type} : DataW H → Nat
  | .lit (.string bytes) => bytes.length + 1
  | .lit _ => 1
  | .nil => 1
  | .ptr d => uptoBulk d + 1
  | .slice elems spare => uptoBulkAll elems + uptoBulkAll spare + 1
  | .agg parts => uptoBulkAll parts + 1
  | .iface _ d => uptoBulk d + 1
  | .map entries => uptoBulkEntries entries + 1
  | .held _ => 1
def uptoBulkAll {H : Type} : List (DataW H) → Nat
  | [] => 0
  | d :: r => uptoBulk d + uptoBulkAll r
def uptoBulkEntries {H : Type} : List (Lit × DataW H) → Nat
  | [] => 0
  | x :: r => uptoBulkEntry x + uptoBulkEntries r
def uptoBulkEntry {H : Type} : Lit × DataW H → Nat
  | (.string bytes, d) => bytes.length + uptoBulk d + 1
  | (_, d) => uptoBulk d + 1
 end
def uptoSmall : (H : Type) → List (DataW H) → Bool := fun _ ds => decide (uptoBulkAll ds ≤ 1048576)
def OpenSpec.upto (s : _root_.Go.ChangeSpec) : _root_.Go.OpenSpec := { _root_.Go.OpenSpec.ofChange s with cond := some uptoSmall }

/-- 'doormanlaw01.FieldsPuts', WHERE WHAT IT READS IS OF BULK AT MOST 1048576: true; the input reads as it did. -/
def fieldsPutsUptoRow : OpenClaim := { program := "ythhibhhpcjggnab", sum := "afa71abdc43bb67049d216a0e0ee45c22215e6cb96826c876d2a4bed2b1efabf", func := "doorman/doormanlaw01.FieldsPuts", spec := "fieldsPuts", apart := false, narrowed := true }
def FieldsPutsUptoSaid : Prop := fieldsPutsUptoRow.holds Try.pinned (OpenSpec.upto fieldsPutsSpec)

/-- 'doormanlaw01.FieldsReads', WHERE WHAT IT READS IS OF BULK AT MOST 1048576: true; the input reads as it did. -/
def fieldsReadsUptoRow : OpenClaim := { program := "ythhibhhpcjggnab", sum := "afa71abdc43bb67049d216a0e0ee45c22215e6cb96826c876d2a4bed2b1efabf", func := "doorman/doormanlaw01.FieldsReads", spec := "fieldsReads", apart := false, narrowed := true }
def FieldsReadsUptoSaid : Prop := fieldsReadsUptoRow.holds Try.pinned (OpenSpec.upto fieldsReadsSpec)

/-- 'doormanlaw01.FieldsBack', WHERE WHAT IT READS IS OF BULK AT MOST 1048576: true; the input reads as it did. -/
def fieldsBackUptoRow : OpenClaim := { program := "ythhibhhpcjggnab", sum := "afa71abdc43bb67049d216a0e0ee45c22215e6cb96826c876d2a4bed2b1efabf", func := "doorman/doormanlaw01.FieldsBack", spec := "fieldsBack", apart := false, narrowed := true }
def FieldsBackUptoSaid : Prop := fieldsBackUptoRow.holds Try.pinned (OpenSpec.upto fieldsBackSpec)

/-- 'doormanlaw01.FieldsOne', WHERE WHAT IT READS IS OF BULK AT MOST 1048576: true; the input reads as it did. -/
def fieldsOneUptoRow : OpenClaim := { program := "ythhibhhpcjggnab", sum := "afa71abdc43bb67049d216a0e0ee45c22215e6cb96826c876d2a4bed2b1efabf", func := "doorman/doormanlaw01.FieldsOne", spec := "fieldsOne", apart := false, narrowed := true }
def FieldsOneUptoSaid : Prop := fieldsOneUptoRow.holds Try.pinned (OpenSpec.upto fieldsOneSpec)

/-- 'doormanlaw01.FieldsLists', WHERE WHAT IT READS IS OF BULK AT MOST 1048576: true; the input reads as it did. -/
def fieldsListsUptoRow : OpenClaim := { program := "ythhibhhpcjggnab", sum := "afa71abdc43bb67049d216a0e0ee45c22215e6cb96826c876d2a4bed2b1efabf", func := "doorman/doormanlaw01.FieldsLists", spec := "fieldsLists", apart := false, narrowed := true }
def FieldsListsUptoSaid : Prop := fieldsListsUptoRow.holds Try.pinned (OpenSpec.upto fieldsListsSpec)

/-- 'doormanlaw20.ReplyPuts', WHERE WHAT IT READS IS OF BULK AT MOST 1048576: true; the input reads as it did. -/
def replyPutsUptoRow : OpenClaim := { program := "ythhibhhpcjggnab", sum := "afa71abdc43bb67049d216a0e0ee45c22215e6cb96826c876d2a4bed2b1efabf", func := "doorman/doormanlaw20.ReplyPuts", spec := "replyPuts", unfollowed := true, recurses := true, apart := false, narrowed := true }
def ReplyPutsUptoSaid : Prop := replyPutsUptoRow.holds Try.pinned (OpenSpec.upto replyPutsSpec)

/-- 'doormanlaw20.ReplyTakes', WHERE WHAT IT READS IS OF BULK AT MOST 1048576: true; the input reads as it did. -/
def replyTakesUptoRow : OpenClaim := { program := "ythhibhhpcjggnab", sum := "afa71abdc43bb67049d216a0e0ee45c22215e6cb96826c876d2a4bed2b1efabf", func := "doorman/doormanlaw20.ReplyTakes", spec := "replyTakes", unfollowed := true, recurses := true, apart := false, narrowed := true }
def ReplyTakesUptoSaid : Prop := replyTakesUptoRow.holds Try.pinned (OpenSpec.upto replyTakesSpec)

/-- 'doormanlaw20.ReplyShape', WHERE WHAT IT READS IS OF BULK AT MOST 1048576: true; the input reads as it did. -/
def replyShapeUptoRow : OpenClaim := { program := "ythhibhhpcjggnab", sum := "afa71abdc43bb67049d216a0e0ee45c22215e6cb96826c876d2a4bed2b1efabf", func := "doorman/doormanlaw20.ReplyShape", spec := "replyShape", unfollowed := true, recurses := true, apart := false, narrowed := true }
def ReplyShapeUptoSaid : Prop := replyShapeUptoRow.holds Try.pinned (OpenSpec.upto replyShapeSpec)

/-- 'doormanlaw20.ReplyBounds', WHERE WHAT IT READS IS OF BULK AT MOST 1048576: true; the input reads as it did. -/
def replyBoundsUptoRow : OpenClaim := { program := "ythhibhhpcjggnab", sum := "afa71abdc43bb67049d216a0e0ee45c22215e6cb96826c876d2a4bed2b1efabf", func := "doorman/doormanlaw20.ReplyBounds", spec := "replyBounds", unfollowed := true, recurses := true, apart := false, narrowed := true }
def ReplyBoundsUptoSaid : Prop := replyBoundsUptoRow.holds Try.pinned (OpenSpec.upto replyBoundsSpec)

end Rows
end Go.Proofs.Ythhibhhpcjggnab
