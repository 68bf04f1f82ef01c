/-
  NARROWER THAN 'FOR EVERY INPUT', by the rows' own cells (each row's printed sentence says how): StrataEdges: laid · TupleRight: laid.
  DERIVED. THE GIVEN ROWS OF THIS SEAT. 2 by the template 'for every input the law returns true; each argument reads behind the call as it read before'; 0 by the template 'total and deterministic' (their statements: YtdbmeidhlijopaaGreatDoorTotals.lean).
  GIVEN WITH THE SEED: the statements are not yours to turn. If you find one false, say at which input.
  Laid BY PROGRAM, IN A SANDBOX (cutbox-rows.mjs): the forced cells as the released guide's own fill.sh prints them over the translation 18aca9d7946f1d9b… (all of the seat's roots in one cut). By AI agents, Wed Nov 11 2026. No macro, syntax, notation, axiom, sorry.
-/
import Derived.Test.YtdbmeidhlijopaaGreatDoorChecked
import GoSem.PinnedTables
import GoSem.Claim
import GoSem.ClaimJoined
import GoSem.ClaimMapViews
import Derived.JoinedTies
import Derived.KernelRfl
namespace Go.Proofs.YtdbmeidhlijopaaGreatDoor
/- THE CELL 'sum', in the pinned program and in every row, IS THE sha256 OF THE DUMP (.gsa) THAT YtdbmeidhlijopaaGreatDoorProg.lean LOADS. Nothing in Lean hashes anything: it is a label: what it is worth is what the hold of that sum in a sandbox is worth. -/
noncomputable def Tryz.pinned : Pinned := { name := "ytdbmeidhlijopaagreatdoor", sum := "18aca9d7946f1d9b6f7182c95277054e49967faaf78a6086f95d6f4b529ae19d", checked := Tryz.checked }
namespace Rows
def none {H : Type} : Left H := { results := [], args := [] }

/- WHAT THE LISTED PACKAGE-LEVEL VARIABLES READ AS WHEN THE CALL BEGINS. Each datum BY PROGRAM (the guide's laid-datum.mjs) off the statement by which the dump's own 'gosem.cut.vars' lays the variable. In a bare row this is a premise. The card (YtdbmeidhlijopaaGreatDoorCards.lean) ties it to the program's text. -/
def laid_doorman_token_keys {H : Type} : DataW H := .slice [.lit (.string [116, 121, 112, 101]), .lit (.string [114, 101, 108]), .lit (.string [105, 115]), .lit (.string [116, 104, 105, 115])] []
def laid_unicode_utf8_acceptRanges {H : Type} : DataW H := .agg [.agg [.lit (.int .u8 128), .lit (.int .u8 191)], .agg [.lit (.int .u8 160), .lit (.int .u8 191)], .agg [.lit (.int .u8 128), .lit (.int .u8 159)], .agg [.lit (.int .u8 144), .lit (.int .u8 191)], .agg [.lit (.int .u8 128), .lit (.int .u8 143)], .agg [.lit (.int .u8 0), .lit (.int .u8 0)], .agg [.lit (.int .u8 0), .lit (.int .u8 0)], .agg [.lit (.int .u8 0), .lit (.int .u8 0)], .agg [.lit (.int .u8 0), .lit (.int .u8 0)], .agg [.lit (.int .u8 0), .lit (.int .u8 0)], .agg [.lit (.int .u8 0), .lit (.int .u8 0)], .agg [.lit (.int .u8 0), .lit (.int .u8 0)], .agg [.lit (.int .u8 0), .lit (.int .u8 0)], .agg [.lit (.int .u8 0), .lit (.int .u8 0)], .agg [.lit (.int .u8 0), .lit (.int .u8 0)], .agg [.lit (.int .u8 0), .lit (.int .u8 0)]]
/-- One of Go's own tables, pinned by name: the form's constant. -/
def laid_unicode_utf8_first : DataW Unit := Go.Pinned.utf8First

/-- 'doormanlaw10.StrataEdges': WHATEVER THE INPUT: true; the input reads as it did. -/
def strataEdgesSpec : ChangeSpec := { name := "strataEdges", fn := fun _ => fun
  | [d] => { results := [.lit (.bool true)], args := [d] }
  | _ => none }
def strataEdgesRow : OpenClaim := { program := "ytdbmeidhlijopaagreatdoor", sum := "18aca9d7946f1d9b6f7182c95277054e49967faaf78a6086f95d6f4b529ae19d", func := "doorman/doormanlaw10.StrataEdges", spec := "strataEdges", inPlace := ["internal/bytealg.IndexByteString", "internal/bytealg.IndexString"], unfollowed := true, recurses := true, named := ["internal/bytealg.MaxLen", "doorman/token.keys"], plainKeys := false, apart := false, laid := [("doorman/token.keys", laid_doorman_token_keys)] }
def StrataEdgesSaid : Prop := strataEdgesRow.holds Tryz.pinned (OpenSpec.ofChange strataEdgesSpec)

/-- ITS FALSE NEIGHBOUR: 'it returns false'. Refute it at one input. -/
def strataEdgesWrong : ChangeSpec := { name := "strataEdges", fn := fun _ => fun
  | [d] => { results := [.lit (.bool false)], args := [d] }
  | _ => none }
def StrataEdgesWrongFalsely : Prop := strataEdgesRow.holds Tryz.pinned (OpenSpec.ofChange strataEdgesWrong)

/-- 'doormanlaw12.TupleRight': WHATEVER THE INPUT: true; the input reads as it did. -/
def tupleRightSpec : ChangeSpec := { name := "tupleRight", fn := fun _ => fun
  | [d1, d2] => { results := [.lit (.bool true)], args := [d1, d2] }
  | _ => none }
def tupleRightRow : OpenClaim := { program := "ytdbmeidhlijopaagreatdoor", sum := "18aca9d7946f1d9b6f7182c95277054e49967faaf78a6086f95d6f4b529ae19d", func := "doorman/doormanlaw12.TupleRight", spec := "tupleRight", inPlace := ["internal/bytealg.IndexByteString", "internal/bytealg.IndexString", "internal/abi.NoEscape", "internal/bytealg.MakeNoZero", "internal/bytealg.CountString"], unfollowed := true, recurses := true, named := ["internal/bytealg.MaxLen", "unicode/utf8.first", "unicode/utf8.acceptRanges", "doorman/token.keys"], plainKeys := false, apart := false, laid := [("unicode/utf8.acceptRanges", laid_unicode_utf8_acceptRanges), ("doorman/token.keys", laid_doorman_token_keys), ("unicode/utf8.first", laid_unicode_utf8_first)] }
def TupleRightSaid : Prop := tupleRightRow.holds Tryz.pinned (OpenSpec.ofChange tupleRightSpec)

/-- ITS FALSE NEIGHBOUR: 'it returns false'. Refute it at one input. -/
def tupleRightWrong : ChangeSpec := { name := "tupleRight", fn := fun _ => fun
  | [d1, d2] => { results := [.lit (.bool false)], args := [d1, d2] }
  | _ => none }
def TupleRightWrongFalsely : Prop := tupleRightRow.holds Tryz.pinned (OpenSpec.ofChange tupleRightWrong)

/- THE SECOND FORM. 'bulk': how many values and letters a reading holds, each counted each time it is reached (what is shared counts as often as it is met; a slice's spare places count too). A statement '..UptoSaid' is the law's where the arguments, and the package variables that the reading takes, are together of bulk at most 1048576: NARROWER than '..Said'. Prove '..Said' where nothing that the law and all that it calls make is longer than what came in: it says more and counts as full. Else prove '..UptoSaid'. A law counts once. -/
mutual
def uptoBulk {H : Type} : DataW H → Nat
  | .lit (.string bytes) => bytes.length + 1
  | .lit _ => 1
  | .nil => 1
  | .ptr d => uptoBulk d + 1
  | .slice elems spare => uptoBulkAll elems + uptoBulkAll spare + 1
  | .agg parts => uptoBulkAll parts + 1
  | .iface _ d => uptoBulk d + 1
  | .map entries => uptoBulkEntries entries + 1
  | .held _ => 1
def uptoBulkAll {H : Type} : List (DataW H) → Nat
  | [] => 0
  | d :: r => uptoBulk d + uptoBulkAll r
def uptoBulkEntries {H : Type} : List (Lit × DataW H) → Nat
  | [] => 0
  | x :: r => uptoBulkEntry x + uptoBulkEntries r
def uptoBulkEntry {H : Type} : Lit × DataW H → Nat
  | (.string bytes, d) => bytes.length + uptoBulk d + 1
  | (_, d) => uptoBulk d + 1
 end
def uptoSmall : (H : Type) → List (DataW H) → Bool := fun _ ds => decide (uptoBulkAll ds ≤ 1048576)
def OpenSpec.upto (s : _root_.Go.ChangeSpec) : _root_.Go.OpenSpec := { _root_.Go.OpenSpec.ofChange s with cond := some uptoSmall }

/-- 'doormanlaw10.StrataEdges', WHERE WHAT IT READS IS OF BULK AT MOST 1048576: true; the input reads as it did. -/
def strataEdgesUptoRow : OpenClaim := { program := "ytdbmeidhlijopaagreatdoor", sum := "18aca9d7946f1d9b6f7182c95277054e49967faaf78a6086f95d6f4b529ae19d", func := "doorman/doormanlaw10.StrataEdges", spec := "strataEdges", inPlace := ["internal/bytealg.IndexByteString", "internal/bytealg.IndexString"], unfollowed := true, recurses := true, named := ["internal/bytealg.MaxLen", "doorman/token.keys"], plainKeys := false, apart := false, laid := [("doorman/token.keys", laid_doorman_token_keys)], narrowed := true }
def StrataEdgesUptoSaid : Prop := strataEdgesUptoRow.holds Tryz.pinned (OpenSpec.upto strataEdgesSpec)

/-- 'doormanlaw12.TupleRight', WHERE WHAT IT READS IS OF BULK AT MOST 1048576: true; the input reads as it did. -/
def tupleRightUptoRow : OpenClaim := { program := "ytdbmeidhlijopaagreatdoor", sum := "18aca9d7946f1d9b6f7182c95277054e49967faaf78a6086f95d6f4b529ae19d", func := "doorman/doormanlaw12.TupleRight", spec := "tupleRight", inPlace := ["internal/bytealg.IndexByteString", "internal/bytealg.IndexString", "internal/abi.NoEscape", "internal/bytealg.MakeNoZero", "internal/bytealg.CountString"], unfollowed := true, recurses := true, named := ["internal/bytealg.MaxLen", "unicode/utf8.first", "unicode/utf8.acceptRanges", "doorman/token.keys"], plainKeys := false, apart := false, laid := [("unicode/utf8.acceptRanges", laid_unicode_utf8_acceptRanges), ("doorman/token.keys", laid_doorman_token_keys), ("unicode/utf8.first", laid_unicode_utf8_first)], narrowed := true }
def TupleRightUptoSaid : Prop := tupleRightUptoRow.holds Tryz.pinned (OpenSpec.upto tupleRightSpec)

end Rows
end Go.Proofs.YtdbmeidhlijopaaGreatDoor
