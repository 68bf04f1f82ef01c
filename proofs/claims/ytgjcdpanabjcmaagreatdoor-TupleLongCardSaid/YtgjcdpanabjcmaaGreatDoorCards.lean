/-
  DERIVED. GIVEN WITH THE SEED: THE CARDS: each row of YtgjcdpanabjcmaaGreatDoorRows.lean that lists a variable, with what it lists TIED to the program's text (the seventh form; the later family's looks); each row that meets fmt, with fmt's text TOLD by the authors' own Lean function (tested against real Go, not proved from fmt's source: count such statements apart). THE CARD IS WHAT COUNTS. Prove the row's statement (the work); the ties are given (YtgjcdpanabjcmaaGreatDoorTie.lean); close each card by the builder's one call (the guide's Derived/Test/ToyasCard.lean, 'card_holds'). Laid BY PROGRAM, IN A SANDBOX (cutbox-door.mjs). By AI agents, Wed Nov 11 2026. No macro, syntax, notation, axiom, sorry.
-/
import Derived.Test.YtgjcdpanabjcmaaGreatDoorRows
import GoSem.ClaimSeven
namespace Go.Proofs.YtgjcdpanabjcmaaGreatDoor
namespace Rows

/-- THE TIED CARD OF 'doormanlaw12.TupleTexts'. -/
def tupleTextsCard : Claim7 := { stood := { row := tupleTextsRow, standIns := [], harness := (true, "53c7441483265e494c3c2baaab14e2cc2f075b61445c5cfcc66d13c4b867dd8d"), looks := true }, kinds := [], alts := [], laidByText := true, laidKinds := [.data, .widerDeep, .pinned], laidTests := true, laidLooks := .later }
def TupleTextsCardSaid : Prop := Claim7.holds Tryz.pinned (.plain (OpenSpec.ofChange tupleTextsSpec)) tupleTextsCard

/-- THE TIED CARD OF 'doormanlaw12.TupleBack'. -/
def tupleBackCard : Claim7 := { stood := { row := tupleBackRow, standIns := [], harness := (true, "53c7441483265e494c3c2baaab14e2cc2f075b61445c5cfcc66d13c4b867dd8d"), looks := true }, kinds := [], alts := [], laidByText := true, laidKinds := [.data, .widerDeep, .pinned], laidTests := true, laidLooks := .later }
def TupleBackCardSaid : Prop := Claim7.holds Tryz.pinned (.plain (OpenSpec.ofChange tupleBackSpec)) tupleBackCard

/-- THE TIED CARD OF 'doormanlaw12.TupleOrder'. -/
def tupleOrderCard : Claim7 := { stood := { row := tupleOrderRow, standIns := [], harness := (true, "53c7441483265e494c3c2baaab14e2cc2f075b61445c5cfcc66d13c4b867dd8d"), looks := true }, kinds := [], alts := [], laidByText := true, laidKinds := [.data, .widerDeep, .pinned], laidTests := true, laidLooks := .later }
def TupleOrderCardSaid : Prop := Claim7.holds Tryz.pinned (.plain (OpenSpec.ofChange tupleOrderSpec)) tupleOrderCard

/-- THE TIED CARD OF 'doormanlaw12.TupleRight'. -/
def tupleRightCard : Claim7 := { stood := { row := tupleRightRow, standIns := [], harness := (true, "53c7441483265e494c3c2baaab14e2cc2f075b61445c5cfcc66d13c4b867dd8d"), looks := true }, kinds := [], alts := [], laidByText := true, laidKinds := [.data, .widerDeep, .pinned], laidTests := true, laidLooks := .later }
def TupleRightCardSaid : Prop := Claim7.holds Tryz.pinned (.plain (OpenSpec.ofChange tupleRightSpec)) tupleRightCard

/-- THE TIED CARD OF 'doormanlaw12.TupleNodes'. -/
def tupleNodesCard : Claim7 := { stood := { row := tupleNodesRow, standIns := [], harness := (true, "53c7441483265e494c3c2baaab14e2cc2f075b61445c5cfcc66d13c4b867dd8d"), looks := true }, kinds := [], alts := [], laidByText := true, laidKinds := [.data, .widerDeep, .pinned], laidTests := true, laidLooks := .later }
def TupleNodesCardSaid : Prop := Claim7.holds Tryz.pinned (.plain (OpenSpec.ofChange tupleNodesSpec)) tupleNodesCard

/-- THE TIED CARD OF 'doormanlaw12.TupleLong'. -/
def tupleLongCard : Claim7 := { stood := { row := tupleLongRow, standIns := [], harness := (true, "53c7441483265e494c3c2baaab14e2cc2f075b61445c5cfcc66d13c4b867dd8d"), looks := true }, kinds := [], alts := [], laidByText := true, laidKinds := [.data, .widerDeep, .pinned], laidTests := true, laidLooks := .later }
def TupleLongCardSaid : Prop := Claim7.holds Tryz.pinned (.plain (OpenSpec.ofChange tupleLongSpec)) tupleLongCard

/-- THE SECOND FORM's CARD OF 'doormanlaw12.TupleTexts'. -/
def tupleTextsUptoCard : Claim7 := { stood := { row := tupleTextsUptoRow, standIns := [], harness := (true, "53c7441483265e494c3c2baaab14e2cc2f075b61445c5cfcc66d13c4b867dd8d"), looks := true }, kinds := [], alts := [], laidByText := true, laidKinds := [.data, .widerDeep, .pinned], laidTests := true, laidLooks := .later }
def TupleTextsUptoCardSaid : Prop := Claim7.holds Tryz.pinned (.plain (OpenSpec.upto tupleTextsSpec)) tupleTextsUptoCard

/-- THE SECOND FORM's CARD OF 'doormanlaw12.TupleBack'. -/
def tupleBackUptoCard : Claim7 := { stood := { row := tupleBackUptoRow, standIns := [], harness := (true, "53c7441483265e494c3c2baaab14e2cc2f075b61445c5cfcc66d13c4b867dd8d"), looks := true }, kinds := [], alts := [], laidByText := true, laidKinds := [.data, .widerDeep, .pinned], laidTests := true, laidLooks := .later }
def TupleBackUptoCardSaid : Prop := Claim7.holds Tryz.pinned (.plain (OpenSpec.upto tupleBackSpec)) tupleBackUptoCard

/-- THE SECOND FORM's CARD OF 'doormanlaw12.TupleOrder'. -/
def tupleOrderUptoCard : Claim7 := { stood := { row := tupleOrderUptoRow, standIns := [], harness := (true, "53c7441483265e494c3c2baaab14e2cc2f075b61445c5cfcc66d13c4b867dd8d"), looks := true }, kinds := [], alts := [], laidByText := true, laidKinds := [.data, .widerDeep, .pinned], laidTests := true, laidLooks := .later }
def TupleOrderUptoCardSaid : Prop := Claim7.holds Tryz.pinned (.plain (OpenSpec.upto tupleOrderSpec)) tupleOrderUptoCard

/-- THE SECOND FORM's CARD OF 'doormanlaw12.TupleRight'. -/
def tupleRightUptoCard : Claim7 := { stood := { row := tupleRightUptoRow, standIns := [], harness := (true, "53c7441483265e494c3c2baaab14e2cc2f075b61445c5cfcc66d13c4b867dd8d"), looks := true }, kinds := [], alts := [], laidByText := true, laidKinds := [.data, .widerDeep, .pinned], laidTests := true, laidLooks := .later }
def TupleRightUptoCardSaid : Prop := Claim7.holds Tryz.pinned (.plain (OpenSpec.upto tupleRightSpec)) tupleRightUptoCard

/-- THE SECOND FORM's CARD OF 'doormanlaw12.TupleNodes'. -/
def tupleNodesUptoCard : Claim7 := { stood := { row := tupleNodesUptoRow, standIns := [], harness := (true, "53c7441483265e494c3c2baaab14e2cc2f075b61445c5cfcc66d13c4b867dd8d"), looks := true }, kinds := [], alts := [], laidByText := true, laidKinds := [.data, .widerDeep, .pinned], laidTests := true, laidLooks := .later }
def TupleNodesUptoCardSaid : Prop := Claim7.holds Tryz.pinned (.plain (OpenSpec.upto tupleNodesSpec)) tupleNodesUptoCard

/-- THE SECOND FORM's CARD OF 'doormanlaw12.TupleLong'. -/
def tupleLongUptoCard : Claim7 := { stood := { row := tupleLongUptoRow, standIns := [], harness := (true, "53c7441483265e494c3c2baaab14e2cc2f075b61445c5cfcc66d13c4b867dd8d"), looks := true }, kinds := [], alts := [], laidByText := true, laidKinds := [.data, .widerDeep, .pinned], laidTests := true, laidLooks := .later }
def TupleLongUptoCardSaid : Prop := Claim7.holds Tryz.pinned (.plain (OpenSpec.upto tupleLongSpec)) tupleLongUptoCard
end Rows
end Go.Proofs.YtgjcdpanabjcmaaGreatDoor
