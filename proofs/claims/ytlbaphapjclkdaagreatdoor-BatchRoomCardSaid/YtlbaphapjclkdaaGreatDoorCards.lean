/-
  DERIVED. GIVEN WITH THE SEED: THE CARDS: each row of YtlbaphapjclkdaaGreatDoorRows.lean that lists a variable, with what it lists TIED to the program's text (the seventh form; the later family's looks); each row that meets fmt, with fmt's text TOLD by the authors' own Lean function (tested against real Go, not proved from fmt's source: count such statements apart). THE CARD IS WHAT COUNTS. Prove the row's statement (the work); the ties are given (YtlbaphapjclkdaaGreatDoorTie.lean); close each card by the builder's one call (the guide's Derived/Test/ToyasCard.lean, 'card_holds'). Laid BY PROGRAM, IN A SANDBOX (cutbox-door.mjs). By AI agents, Wed Nov 11 2026. No macro, syntax, notation, axiom, sorry.
-/
import Derived.Test.YtlbaphapjclkdaaGreatDoorRows
import GoSem.ClaimSeven
namespace Go.Proofs.YtlbaphapjclkdaaGreatDoor
namespace Rows

/-- THE TIED CARD OF 'doormanlaw15.BatchRoom'. -/
def batchRoomCard : Claim7 := { stood := { row := batchRoomRow, standIns := [], harness := (true, "a740f8e196c92e7fe43a024c98e94e40be75446cc255bc1d3ba019d222353be1"), looks := true }, kinds := [], alts := [], laidByText := true, laidKinds := [.data, .widerDeep, .pinned], laidTests := true, laidLooks := .later }
def BatchRoomCardSaid : Prop := Claim7.holds Tryz.pinned (.plain (OpenSpec.ofChange batchRoomSpec)) batchRoomCard

/-- THE SECOND FORM's CARD OF 'doormanlaw15.BatchRoom'. -/
def batchRoomUptoCard : Claim7 := { stood := { row := batchRoomUptoRow, standIns := [], harness := (true, "a740f8e196c92e7fe43a024c98e94e40be75446cc255bc1d3ba019d222353be1"), looks := true }, kinds := [], alts := [], laidByText := true, laidKinds := [.data, .widerDeep, .pinned], laidTests := true, laidLooks := .later }
def BatchRoomUptoCardSaid : Prop := Claim7.holds Tryz.pinned (.plain (OpenSpec.upto batchRoomSpec)) batchRoomUptoCard
end Rows
end Go.Proofs.YtlbaphapjclkdaaGreatDoor
