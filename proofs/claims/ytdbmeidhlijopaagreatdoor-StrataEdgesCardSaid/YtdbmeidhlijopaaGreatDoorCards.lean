/-
  DERIVED. GIVEN WITH THE SEED: THE CARDS: each row of YtdbmeidhlijopaaGreatDoorRows.lean that lists a variable, with what it lists TIED to the program's text (the seventh form; the later family's looks); each row that meets fmt, with fmt's text TOLD by the authors' own Lean function (tested against real Go, not proved from fmt's source: count such statements apart). THE CARD IS WHAT COUNTS. Prove the row's statement (the work); the ties are given (YtdbmeidhlijopaaGreatDoorTie.lean); close each card by the builder's one call (the guide's Derived/Test/ToyasCard.lean, 'card_holds'). Laid BY PROGRAM, IN A SANDBOX (cutbox-door.mjs). By AI agents, Wed Nov 11 2026. No macro, syntax, notation, axiom, sorry.
-/
import Derived.Test.YtdbmeidhlijopaaGreatDoorRows
import GoSem.ClaimSeven
namespace Go.Proofs.YtdbmeidhlijopaaGreatDoor
namespace Rows

/-- THE TIED CARD OF 'doormanlaw10.StrataEdges'. -/
def strataEdgesCard : Claim7 := { stood := { row := strataEdgesRow, standIns := [], harness := (true, "13415fc25a84cb6c8252322ee5e36224b89ab3de068120331018e0933f16add5"), looks := true }, kinds := [], alts := [], laidByText := true, laidKinds := [.widerDeep], laidTests := true, laidLooks := .later }
def StrataEdgesCardSaid : Prop := Claim7.holds Tryz.pinned (.plain (OpenSpec.ofChange strataEdgesSpec)) strataEdgesCard

/-- THE TIED CARD OF 'doormanlaw12.TupleRight'. -/
def tupleRightCard : Claim7 := { stood := { row := tupleRightRow, standIns := [], harness := (true, "13415fc25a84cb6c8252322ee5e36224b89ab3de068120331018e0933f16add5"), looks := true }, kinds := [], alts := [], laidByText := true, laidKinds := [.data, .widerDeep, .pinned], laidTests := true, laidLooks := .later }
def TupleRightCardSaid : Prop := Claim7.holds Tryz.pinned (.plain (OpenSpec.ofChange tupleRightSpec)) tupleRightCard

/-- THE SECOND FORM's CARD OF 'doormanlaw10.StrataEdges'. -/
def strataEdgesUptoCard : Claim7 := { stood := { row := strataEdgesUptoRow, standIns := [], harness := (true, "13415fc25a84cb6c8252322ee5e36224b89ab3de068120331018e0933f16add5"), looks := true }, kinds := [], alts := [], laidByText := true, laidKinds := [.widerDeep], laidTests := true, laidLooks := .later }
def StrataEdgesUptoCardSaid : Prop := Claim7.holds Tryz.pinned (.plain (OpenSpec.upto strataEdgesSpec)) strataEdgesUptoCard

/-- THE SECOND FORM's CARD OF 'doormanlaw12.TupleRight'. -/
def tupleRightUptoCard : Claim7 := { stood := { row := tupleRightUptoRow, standIns := [], harness := (true, "13415fc25a84cb6c8252322ee5e36224b89ab3de068120331018e0933f16add5"), looks := true }, kinds := [], alts := [], laidByText := true, laidKinds := [.data, .widerDeep, .pinned], laidTests := true, laidLooks := .later }
def TupleRightUptoCardSaid : Prop := Claim7.holds Tryz.pinned (.plain (OpenSpec.upto tupleRightSpec)) tupleRightUptoCard
end Rows
end Go.Proofs.YtdbmeidhlijopaaGreatDoor
