/-
  DERIVED. GIVEN WITH THE SEED: THE CARDS: each row of YtdbmeidhlijopaaDoorRows.lean that lists a variable, with what it lists TIED to the program's text (the seventh form; the later family's looks); each row that meets fmt, with fmt's text TOLD by the authors' own Lean function (tested against real Go, not proved from fmt's source: count such statements apart). THE CARD IS WHAT COUNTS. Prove the row's statement (the work); the ties are given (YtdbmeidhlijopaaDoorTie.lean); close each card by the builder's one call (the guide's Derived/Test/ToyasCard.lean, 'card_holds'). Laid BY PROGRAM, IN A SANDBOX (cutbox-door.mjs). By AI agents, Wed Nov 11 2026. No macro, syntax, notation, axiom, sorry.
-/
import Derived.Test.YtdbmeidhlijopaaDoorRows
import GoSem.ClaimSeven
namespace Go.Proofs.YtdbmeidhlijopaaDoor
namespace Rows

/-- THE TIED CARD OF 'doormanlaw10.StrataRight'. -/
def strataRightCard : Claim7 := { stood := { row := strataRightRow, standIns := [], harness := (true, "2b15597022ddfb18bfae01cca17f4976f1b2f1d8c74073fe8ae0f03741f2990b"), looks := true }, kinds := [], alts := [], laidByText := true, laidKinds := [.widerDeep], laidTests := true, laidLooks := .later }
def StrataRightCardSaid : Prop := Claim7.holds Tryd.pinned (.plain (OpenSpec.ofChange strataRightSpec)) strataRightCard

/-- THE SECOND FORM's CARD OF 'doormanlaw10.StrataRight'. -/
def strataRightUptoCard : Claim7 := { stood := { row := strataRightUptoRow, standIns := [], harness := (true, "2b15597022ddfb18bfae01cca17f4976f1b2f1d8c74073fe8ae0f03741f2990b"), looks := true }, kinds := [], alts := [], laidByText := true, laidKinds := [.widerDeep], laidTests := true, laidLooks := .later }
def StrataRightUptoCardSaid : Prop := Claim7.holds Tryd.pinned (.plain (OpenSpec.upto strataRightSpec)) strataRightUptoCard
end Rows
end Go.Proofs.YtdbmeidhlijopaaDoor
