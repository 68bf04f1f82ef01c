/-
  NARROWER THAN 'FOR EVERY INPUT', by the rows' own cells (each row's printed sentence says how): TupleTexts: laid · TupleBack: laid · TupleOrder: laid · TupleRight: laid · TupleNodes: laid · TupleLong: laid.
  DERIVED. THE GIVEN ROWS OF THIS SEAT. 6 by the template 'for every input the law returns true; each argument reads behind the call as it read before'; 0 by the template 'total and deterministic' (their statements: YtgjcdpanabjcmaaGreatDoorTotals.lean).
  GIVEN WITH THE SEED: the statements are not yours to turn. If you find one false, say at which input.
  Laid BY PROGRAM, IN A SANDBOX (cutbox-rows.mjs): the forced cells as the released guide's own fill.sh prints them over the translation 8c375380bdf0131a… (all of the seat's roots in one cut). By AI agents, Wed Nov 11 2026. No macro, syntax, notation, axiom, sorry.
-/
import Derived.Test.YtgjcdpanabjcmaaGreatDoorChecked
import GoSem.PinnedTables
import GoSem.Claim
import GoSem.ClaimJoined
import GoSem.ClaimMapViews
import Derived.JoinedTies
import Derived.KernelRfl
namespace Go.Proofs.YtgjcdpanabjcmaaGreatDoor
/- THE CELL 'sum', in the pinned program and in every row, IS THE sha256 OF THE DUMP (.gsa) THAT YtgjcdpanabjcmaaGreatDoorProg.lean LOADS. Nothing in Lean hashes anything: it is a label: what it is worth is what the hold of that sum in a sandbox is worth. -/
noncomputable def Tryz.pinned : Pinned := { name := "ytgjcdpanabjcmaagreatdoor", sum := "8c375380bdf0131a704477dc9049360e26e2937887d78bb64c6d344779381320", checked := Tryz.checked }
namespace Rows
def none {H : Type} : Left H := { results := [], args := [] }

/- WHAT THE LISTED PACKAGE-LEVEL VARIABLES READ AS WHEN THE CALL BEGINS. Each datum BY PROGRAM (the guide's laid-datum.mjs) off the statement by which the dump's own 'gosem.cut.vars' lays the variable. In a bare row this is a premise. The card (YtgjcdpanabjcmaaGreatDoorCards.lean) ties it to the program's text. -/
def laid_unicode_utf8_acceptRanges {H : Type} : DataW H := .agg [.agg [.lit (.int .u8 128), .lit (.int .u8 191)], .agg [.lit (.int .u8 160), .lit (.int .u8 191)], .agg [.lit (.int .u8 128), .lit (.int .u8 159)], .agg [.lit (.int .u8 144), .lit (.int .u8 191)], .agg [.lit (.int .u8 128), .lit (.int .u8 143)], .agg [.lit (.int .u8 0), .lit (.int .u8 0)], .agg [.lit (.int .u8 0), .lit (.int .u8 0)], .agg [.lit (.int .u8 0), .lit (.int .u8 0)], .agg [.lit (.int .u8 0), .lit (.int .u8 0)], .agg [.lit (.int .u8 0), .lit (.int .u8 0)], .agg [.lit (.int .u8 0), .lit (.int .u8 0)], .agg [.lit (.int .u8 0), .lit (.int .u8 0)], .agg [.lit (.int .u8 0), .lit (.int .u8 0)], .agg [.lit (.int .u8 0), .lit (.int .u8 0)], .agg [.lit (.int .u8 0), .lit (.int .u8 0)], .agg [.lit (.int .u8 0), .lit (.int .u8 0)]]
def laid_doorman_token_keys {H : Type} : DataW H := .slice [.lit (.string [116, 121, 112, 101]), .lit (.string [114, 101, 108]), .lit (.string [105, 115]), .lit (.string [116, 104, 105, 115])] []
/-- One of Go's own tables, pinned by name: the form's constant. -/
def laid_unicode_utf8_first : DataW Unit := Go.Pinned.utf8First

/-- 'doormanlaw12.TupleTexts': WHATEVER THE INPUT: true; the input reads as it did. -/
def tupleTextsSpec : ChangeSpec := { name := "tupleTexts", fn := fun _ => fun
  | [d1, d2] => { results := [.lit (.bool true)], args := [d1, d2] }
  | _ => none }
def tupleTextsRow : OpenClaim := { program := "ytgjcdpanabjcmaagreatdoor", sum := "8c375380bdf0131a704477dc9049360e26e2937887d78bb64c6d344779381320", func := "doorman/doormanlaw12.TupleTexts", spec := "tupleTexts", inPlace := ["internal/bytealg.IndexByteString", "internal/bytealg.IndexString", "internal/abi.NoEscape", "internal/bytealg.MakeNoZero", "internal/bytealg.CountString"], unfollowed := true, recurses := true, named := ["internal/bytealg.MaxLen", "unicode/utf8.first", "unicode/utf8.acceptRanges", "doorman/token.keys"], plainKeys := false, apart := false, laid := [("unicode/utf8.acceptRanges", laid_unicode_utf8_acceptRanges), ("doorman/token.keys", laid_doorman_token_keys), ("unicode/utf8.first", laid_unicode_utf8_first)] }
def TupleTextsSaid : Prop := tupleTextsRow.holds Tryz.pinned (OpenSpec.ofChange tupleTextsSpec)

/-- ITS FALSE NEIGHBOUR: 'it returns false'. Refute it at one input. -/
def tupleTextsWrong : ChangeSpec := { name := "tupleTexts", fn := fun _ => fun
  | [d1, d2] => { results := [.lit (.bool false)], args := [d1, d2] }
  | _ => none }
def TupleTextsWrongFalsely : Prop := tupleTextsRow.holds Tryz.pinned (OpenSpec.ofChange tupleTextsWrong)

/-- 'doormanlaw12.TupleBack': WHATEVER THE INPUT: true; the input reads as it did. -/
def tupleBackSpec : ChangeSpec := { name := "tupleBack", fn := fun _ => fun
  | [d] => { results := [.lit (.bool true)], args := [d] }
  | _ => none }
def tupleBackRow : OpenClaim := { program := "ytgjcdpanabjcmaagreatdoor", sum := "8c375380bdf0131a704477dc9049360e26e2937887d78bb64c6d344779381320", func := "doorman/doormanlaw12.TupleBack", spec := "tupleBack", inPlace := ["internal/bytealg.IndexByteString", "internal/bytealg.IndexString", "internal/abi.NoEscape", "internal/bytealg.MakeNoZero", "internal/bytealg.CountString"], unfollowed := true, recurses := true, named := ["internal/bytealg.MaxLen", "unicode/utf8.first", "unicode/utf8.acceptRanges", "doorman/token.keys"], plainKeys := false, apart := false, laid := [("unicode/utf8.acceptRanges", laid_unicode_utf8_acceptRanges), ("doorman/token.keys", laid_doorman_token_keys), ("unicode/utf8.first", laid_unicode_utf8_first)] }
def TupleBackSaid : Prop := tupleBackRow.holds Tryz.pinned (OpenSpec.ofChange tupleBackSpec)

/-- ITS FALSE NEIGHBOUR: 'it returns false'. Refute it at one input. -/
def tupleBackWrong : ChangeSpec := { name := "tupleBack", fn := fun _ => fun
  | [d] => { results := [.lit (.bool false)], args := [d] }
  | _ => none }
def TupleBackWrongFalsely : Prop := tupleBackRow.holds Tryz.pinned (OpenSpec.ofChange tupleBackWrong)

/-- 'doormanlaw12.TupleOrder': WHATEVER THE INPUT: true; the input reads as it did. -/
def tupleOrderSpec : ChangeSpec := { name := "tupleOrder", fn := fun _ => fun
  | [d1, d2] => { results := [.lit (.bool true)], args := [d1, d2] }
  | _ => none }
def tupleOrderRow : OpenClaim := { program := "ytgjcdpanabjcmaagreatdoor", sum := "8c375380bdf0131a704477dc9049360e26e2937887d78bb64c6d344779381320", func := "doorman/doormanlaw12.TupleOrder", spec := "tupleOrder", inPlace := ["internal/bytealg.IndexByteString", "internal/bytealg.IndexString", "internal/abi.NoEscape", "internal/bytealg.MakeNoZero", "internal/bytealg.CountString"], unfollowed := true, recurses := true, named := ["internal/bytealg.MaxLen", "unicode/utf8.first", "unicode/utf8.acceptRanges", "doorman/token.keys"], plainKeys := false, apart := false, laid := [("unicode/utf8.acceptRanges", laid_unicode_utf8_acceptRanges), ("doorman/token.keys", laid_doorman_token_keys), ("unicode/utf8.first", laid_unicode_utf8_first)] }
def TupleOrderSaid : Prop := tupleOrderRow.holds Tryz.pinned (OpenSpec.ofChange tupleOrderSpec)

/-- ITS FALSE NEIGHBOUR: 'it returns false'. Refute it at one input. -/
def tupleOrderWrong : ChangeSpec := { name := "tupleOrder", fn := fun _ => fun
  | [d1, d2] => { results := [.lit (.bool false)], args := [d1, d2] }
  | _ => none }
def TupleOrderWrongFalsely : Prop := tupleOrderRow.holds Tryz.pinned (OpenSpec.ofChange tupleOrderWrong)

/-- 'doormanlaw12.TupleRight': WHATEVER THE INPUT: true; the input reads as it did. -/
def tupleRightSpec : ChangeSpec := { name := "tupleRight", fn := fun _ => fun
  | [d1, d2] => { results := [.lit (.bool true)], args := [d1, d2] }
  | _ => none }
def tupleRightRow : OpenClaim := { program := "ytgjcdpanabjcmaagreatdoor", sum := "8c375380bdf0131a704477dc9049360e26e2937887d78bb64c6d344779381320", func := "doorman/doormanlaw12.TupleRight", spec := "tupleRight", inPlace := ["internal/bytealg.IndexByteString", "internal/bytealg.IndexString", "internal/abi.NoEscape", "internal/bytealg.MakeNoZero", "internal/bytealg.CountString"], unfollowed := true, recurses := true, named := ["internal/bytealg.MaxLen", "unicode/utf8.first", "unicode/utf8.acceptRanges", "doorman/token.keys"], plainKeys := false, apart := false, laid := [("unicode/utf8.acceptRanges", laid_unicode_utf8_acceptRanges), ("doorman/token.keys", laid_doorman_token_keys), ("unicode/utf8.first", laid_unicode_utf8_first)] }
def TupleRightSaid : Prop := tupleRightRow.holds Tryz.pinned (OpenSpec.ofChange tupleRightSpec)

/-- ITS FALSE NEIGHBOUR: 'it returns false'. Refute it at one input. -/
def tupleRightWrong : ChangeSpec := { name := "tupleRight", fn := fun _ => fun
  | [d1, d2] => { results := [.lit (.bool false)], args := [d1, d2] }
  | _ => none }
def TupleRightWrongFalsely : Prop := tupleRightRow.holds Tryz.pinned (OpenSpec.ofChange tupleRightWrong)

/-- 'doormanlaw12.TupleNodes': WHATEVER THE INPUT: true; the input reads as it did. -/
def tupleNodesSpec : ChangeSpec := { name := "tupleNodes", fn := fun _ => fun
  | [d1, d2, d3] => { results := [.lit (.bool true)], args := [d1, d2, d3] }
  | _ => none }
def tupleNodesRow : OpenClaim := { program := "ytgjcdpanabjcmaagreatdoor", sum := "8c375380bdf0131a704477dc9049360e26e2937887d78bb64c6d344779381320", func := "doorman/doormanlaw12.TupleNodes", spec := "tupleNodes", inPlace := ["internal/bytealg.IndexByteString", "internal/bytealg.IndexString", "internal/abi.NoEscape", "internal/bytealg.MakeNoZero", "internal/bytealg.CountString"], unfollowed := true, recurses := true, named := ["internal/bytealg.MaxLen", "unicode/utf8.first", "unicode/utf8.acceptRanges", "doorman/token.keys"], plainKeys := false, apart := false, laid := [("unicode/utf8.acceptRanges", laid_unicode_utf8_acceptRanges), ("doorman/token.keys", laid_doorman_token_keys), ("unicode/utf8.first", laid_unicode_utf8_first)] }
def TupleNodesSaid : Prop := tupleNodesRow.holds Tryz.pinned (OpenSpec.ofChange tupleNodesSpec)

/-- ITS FALSE NEIGHBOUR: 'it returns false'. Refute it at one input. -/
def tupleNodesWrong : ChangeSpec := { name := "tupleNodes", fn := fun _ => fun
  | [d1, d2, d3] => { results := [.lit (.bool false)], args := [d1, d2, d3] }
  | _ => none }
def TupleNodesWrongFalsely : Prop := tupleNodesRow.holds Tryz.pinned (OpenSpec.ofChange tupleNodesWrong)

/-- 'doormanlaw12.TupleLong': WHATEVER THE INPUT: true; the input reads as it did. -/
def tupleLongSpec : ChangeSpec := { name := "tupleLong", fn := fun _ => fun
  | [d1, d2] => { results := [.lit (.bool true)], args := [d1, d2] }
  | _ => none }
def tupleLongRow : OpenClaim := { program := "ytgjcdpanabjcmaagreatdoor", sum := "8c375380bdf0131a704477dc9049360e26e2937887d78bb64c6d344779381320", func := "doorman/doormanlaw12.TupleLong", spec := "tupleLong", inPlace := ["internal/bytealg.IndexByteString", "internal/bytealg.IndexString", "internal/abi.NoEscape", "internal/bytealg.MakeNoZero", "internal/bytealg.CountString"], unfollowed := true, recurses := true, named := ["internal/bytealg.MaxLen", "unicode/utf8.first", "unicode/utf8.acceptRanges", "doorman/token.keys"], plainKeys := false, apart := false, laid := [("unicode/utf8.acceptRanges", laid_unicode_utf8_acceptRanges), ("doorman/token.keys", laid_doorman_token_keys), ("unicode/utf8.first", laid_unicode_utf8_first)] }
def TupleLongSaid : Prop := tupleLongRow.holds Tryz.pinned (OpenSpec.ofChange tupleLongSpec)

/-- ITS FALSE NEIGHBOUR: 'it returns false'. Refute it at one input. -/
def tupleLongWrong : ChangeSpec := { name := "tupleLong", fn := fun _ => fun
  | [d1, d2] => { results := [.lit (.bool false)], args := [d1, d2] }
  | _ => none }
def TupleLongWrongFalsely : Prop := tupleLongRow.holds Tryz.pinned (OpenSpec.ofChange tupleLongWrong)

/- THE SECOND FORM. 'bulk': how many values and letters a reading holds, each counted each time it is reached (what is shared counts as often as it is met; a slice's spare places count too). A statement '..UptoSaid' is the law's where the arguments, and the package variables that the reading takes, are together of bulk at most 1048576: NARROWER than '..Said'. Prove '..Said' where nothing that the law and all that it calls make is longer than what came in: it says more and counts as full. Else prove '..UptoSaid'. A law counts once. -/
mutual
def uptoBulk {H : Type} : DataW H → Nat
  | .lit (.string bytes) => bytes.length + 1
  | .lit _ => 1
  | .nil => 1
  | .ptr d => uptoBulk d + 1
  | .slice elems spare => uptoBulkAll elems + uptoBulkAll spare + 1
  | .agg parts => uptoBulkAll parts + 1
  | .iface _ d => uptoBulk d + 1
  | .map entries => uptoBulkEntries entries + 1
  | .held _ => 1
def uptoBulkAll {H : Type} : List (DataW H) → Nat
  | [] => 0
  | d :: r => uptoBulk d + uptoBulkAll r
def uptoBulkEntries {H : Type} : List (Lit × DataW H) → Nat
  | [] => 0
  | x :: r => uptoBulkEntry x + uptoBulkEntries r
def uptoBulkEntry {H : Type} : Lit × DataW H → Nat
  | (.string bytes, d) => bytes.length + uptoBulk d + 1
  | (_, d) => uptoBulk d + 1
 end
def uptoSmall : (H : Type) → List (DataW H) → Bool := fun _ ds => decide (uptoBulkAll ds ≤ 1048576)
def OpenSpec.upto (s : _root_.Go.ChangeSpec) : _root_.Go.OpenSpec := { _root_.Go.OpenSpec.ofChange s with cond := some uptoSmall }

/-- 'doormanlaw12.TupleTexts', WHERE WHAT IT READS IS OF BULK AT MOST 1048576: true; the input reads as it did. -/
def tupleTextsUptoRow : OpenClaim := { program := "ytgjcdpanabjcmaagreatdoor", sum := "8c375380bdf0131a704477dc9049360e26e2937887d78bb64c6d344779381320", func := "doorman/doormanlaw12.TupleTexts", spec := "tupleTexts", inPlace := ["internal/bytealg.IndexByteString", "internal/bytealg.IndexString", "internal/abi.NoEscape", "internal/bytealg.MakeNoZero", "internal/bytealg.CountString"], unfollowed := true, recurses := true, named := ["internal/bytealg.MaxLen", "unicode/utf8.first", "unicode/utf8.acceptRanges", "doorman/token.keys"], plainKeys := false, apart := false, laid := [("unicode/utf8.acceptRanges", laid_unicode_utf8_acceptRanges), ("doorman/token.keys", laid_doorman_token_keys), ("unicode/utf8.first", laid_unicode_utf8_first)], narrowed := true }
def TupleTextsUptoSaid : Prop := tupleTextsUptoRow.holds Tryz.pinned (OpenSpec.upto tupleTextsSpec)

/-- 'doormanlaw12.TupleBack', WHERE WHAT IT READS IS OF BULK AT MOST 1048576: true; the input reads as it did. -/
def tupleBackUptoRow : OpenClaim := { program := "ytgjcdpanabjcmaagreatdoor", sum := "8c375380bdf0131a704477dc9049360e26e2937887d78bb64c6d344779381320", func := "doorman/doormanlaw12.TupleBack", spec := "tupleBack", inPlace := ["internal/bytealg.IndexByteString", "internal/bytealg.IndexString", "internal/abi.NoEscape", "internal/bytealg.MakeNoZero", "internal/bytealg.CountString"], unfollowed := true, recurses := true, named := ["internal/bytealg.MaxLen", "unicode/utf8.first", "unicode/utf8.acceptRanges", "doorman/token.keys"], plainKeys := false, apart := false, laid := [("unicode/utf8.acceptRanges", laid_unicode_utf8_acceptRanges), ("doorman/token.keys", laid_doorman_token_keys), ("unicode/utf8.first", laid_unicode_utf8_first)], narrowed := true }
def TupleBackUptoSaid : Prop := tupleBackUptoRow.holds Tryz.pinned (OpenSpec.upto tupleBackSpec)

/-- 'doormanlaw12.TupleOrder', WHERE WHAT IT READS IS OF BULK AT MOST 1048576: true; the input reads as it did. -/
def tupleOrderUptoRow : OpenClaim := { program := "ytgjcdpanabjcmaagreatdoor", sum := "8c375380bdf0131a704477dc9049360e26e2937887d78bb64c6d344779381320", func := "doorman/doormanlaw12.TupleOrder", spec := "tupleOrder", inPlace := ["internal/bytealg.IndexByteString", "internal/bytealg.IndexString", "internal/abi.NoEscape", "internal/bytealg.MakeNoZero", "internal/bytealg.CountString"], unfollowed := true, recurses := true, named := ["internal/bytealg.MaxLen", "unicode/utf8.first", "unicode/utf8.acceptRanges", "doorman/token.keys"], plainKeys := false, apart := false, laid := [("unicode/utf8.acceptRanges", laid_unicode_utf8_acceptRanges), ("doorman/token.keys", laid_doorman_token_keys), ("unicode/utf8.first", laid_unicode_utf8_first)], narrowed := true }
def TupleOrderUptoSaid : Prop := tupleOrderUptoRow.holds Tryz.pinned (OpenSpec.upto tupleOrderSpec)

/-- 'doormanlaw12.TupleRight', WHERE WHAT IT READS IS OF BULK AT MOST 1048576: true; the input reads as it did. -/
def tupleRightUptoRow : OpenClaim := { program := "ytgjcdpanabjcmaagreatdoor", sum := "8c375380bdf0131a704477dc9049360e26e2937887d78bb64c6d344779381320", func := "doorman/doormanlaw12.TupleRight", spec := "tupleRight", inPlace := ["internal/bytealg.IndexByteString", "internal/bytealg.IndexString", "internal/abi.NoEscape", "internal/bytealg.MakeNoZero", "internal/bytealg.CountString"], unfollowed := true, recurses := true, named := ["internal/bytealg.MaxLen", "unicode/utf8.first", "unicode/utf8.acceptRanges", "doorman/token.keys"], plainKeys := false, apart := false, laid := [("unicode/utf8.acceptRanges", laid_unicode_utf8_acceptRanges), ("doorman/token.keys", laid_doorman_token_keys), ("unicode/utf8.first", laid_unicode_utf8_first)], narrowed := true }
def TupleRightUptoSaid : Prop := tupleRightUptoRow.holds Tryz.pinned (OpenSpec.upto tupleRightSpec)

/-- 'doormanlaw12.TupleNodes', WHERE WHAT IT READS IS OF BULK AT MOST 1048576: true; the input reads as it did. -/
def tupleNodesUptoRow : OpenClaim := { program := "ytgjcdpanabjcmaagreatdoor", sum := "8c375380bdf0131a704477dc9049360e26e2937887d78bb64c6d344779381320", func := "doorman/doormanlaw12.TupleNodes", spec := "tupleNodes", inPlace := ["internal/bytealg.IndexByteString", "internal/bytealg.IndexString", "internal/abi.NoEscape", "internal/bytealg.MakeNoZero", "internal/bytealg.CountString"], unfollowed := true, recurses := true, named := ["internal/bytealg.MaxLen", "unicode/utf8.first", "unicode/utf8.acceptRanges", "doorman/token.keys"], plainKeys := false, apart := false, laid := [("unicode/utf8.acceptRanges", laid_unicode_utf8_acceptRanges), ("doorman/token.keys", laid_doorman_token_keys), ("unicode/utf8.first", laid_unicode_utf8_first)], narrowed := true }
def TupleNodesUptoSaid : Prop := tupleNodesUptoRow.holds Tryz.pinned (OpenSpec.upto tupleNodesSpec)

/-- 'doormanlaw12.TupleLong', WHERE WHAT IT READS IS OF BULK AT MOST 1048576: true; the input reads as it did. -/
def tupleLongUptoRow : OpenClaim := { program := "ytgjcdpanabjcmaagreatdoor", sum := "8c375380bdf0131a704477dc9049360e26e2937887d78bb64c6d344779381320", func := "doorman/doormanlaw12.TupleLong", spec := "tupleLong", inPlace := ["internal/bytealg.IndexByteString", "internal/bytealg.IndexString", "internal/abi.NoEscape", "internal/bytealg.MakeNoZero", "internal/bytealg.CountString"], unfollowed := true, recurses := true, named := ["internal/bytealg.MaxLen", "unicode/utf8.first", "unicode/utf8.acceptRanges", "doorman/token.keys"], plainKeys := false, apart := false, laid := [("unicode/utf8.acceptRanges", laid_unicode_utf8_acceptRanges), ("doorman/token.keys", laid_doorman_token_keys), ("unicode/utf8.first", laid_unicode_utf8_first)], narrowed := true }
def TupleLongUptoSaid : Prop := tupleLongUptoRow.holds Tryz.pinned (OpenSpec.upto tupleLongSpec)

end Rows
end Go.Proofs.YtgjcdpanabjcmaaGreatDoor
