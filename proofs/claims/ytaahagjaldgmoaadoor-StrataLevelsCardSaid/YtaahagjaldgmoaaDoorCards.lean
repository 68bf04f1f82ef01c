/-
  DERIVED. GIVEN WITH THE SEED: THE CARDS: each row of YtaahagjaldgmoaaDoorRows.lean that lists a variable, with what it lists TIED to the program's text (the seventh form; the later family's looks); each row that meets fmt, with fmt's text TOLD by the authors' own Lean function (tested against real Go, not proved from fmt's source: count such statements apart). THE CARD IS WHAT COUNTS. Prove the row's statement (the work); the ties are given (YtaahagjaldgmoaaDoorTie.lean); close each card by the builder's one call (the guide's Derived/Test/ToyasCard.lean, 'card_holds'). Laid BY PROGRAM, IN A SANDBOX (cutbox-door.mjs). By AI agents, Wed Nov 11 2026. No macro, syntax, notation, axiom, sorry.
-/
import Derived.Test.YtaahagjaldgmoaaDoorRows
import GoSem.ClaimSeven
namespace Go.Proofs.YtaahagjaldgmoaaDoor
namespace Rows

/-- THE TIED CARD OF 'doormanlaw10.StrataLevels'. -/
def strataLevelsCard : Claim7 := { stood := { row := strataLevelsRow, standIns := [], harness := (true, "4f8e2eed283459dee75ec162b45c90da818f3b3e75670dbac55e4e48c05ccccf"), looks := true }, kinds := [], alts := [], laidByText := true, laidKinds := [.widerDeep], laidTests := true, laidLooks := .later }
def StrataLevelsCardSaid : Prop := Claim7.holds Tryd.pinned (.plain (OpenSpec.ofChange strataLevelsSpec)) strataLevelsCard

/-- THE TIED CARD OF 'doormanlaw10.StrataLeast'. -/
def strataLeastCard : Claim7 := { stood := { row := strataLeastRow, standIns := [], harness := (true, "4f8e2eed283459dee75ec162b45c90da818f3b3e75670dbac55e4e48c05ccccf"), looks := true }, kinds := [], alts := [], laidByText := true, laidKinds := [.widerDeep], laidTests := true, laidLooks := .later }
def StrataLeastCardSaid : Prop := Claim7.holds Tryd.pinned (.plain (OpenSpec.ofChange strataLeastSpec)) strataLeastCard

/-- THE TIED CARD OF 'doormanlaw10.StrataOrder'. -/
def strataOrderCard : Claim7 := { stood := { row := strataOrderRow, standIns := [], harness := (true, "4f8e2eed283459dee75ec162b45c90da818f3b3e75670dbac55e4e48c05ccccf"), looks := true }, kinds := [], alts := [], laidByText := true, laidKinds := [.widerDeep], laidTests := true, laidLooks := .later }
def StrataOrderCardSaid : Prop := Claim7.holds Tryd.pinned (.plain (OpenSpec.ofChange strataOrderSpec)) strataOrderCard

/-- THE TIED CARD OF 'doormanlaw10.StrataMore'. -/
def strataMoreCard : Claim7 := { stood := { row := strataMoreRow, standIns := [], harness := (true, "4f8e2eed283459dee75ec162b45c90da818f3b3e75670dbac55e4e48c05ccccf"), looks := true }, kinds := [], alts := [], laidByText := true, laidKinds := [.widerDeep], laidTests := true, laidLooks := .later }
def StrataMoreCardSaid : Prop := Claim7.holds Tryd.pinned (.plain (OpenSpec.ofChange strataMoreSpec)) strataMoreCard

/-- THE TIED CARD OF 'doormanlaw10.StrataRight'. -/
def strataRightCard : Claim7 := { stood := { row := strataRightRow, standIns := [], harness := (true, "4f8e2eed283459dee75ec162b45c90da818f3b3e75670dbac55e4e48c05ccccf"), looks := true }, kinds := [], alts := [], laidByText := true, laidKinds := [.widerDeep], laidTests := true, laidLooks := .later }
def StrataRightCardSaid : Prop := Claim7.holds Tryd.pinned (.plain (OpenSpec.ofChange strataRightSpec)) strataRightCard

/-- THE SECOND FORM's CARD OF 'doormanlaw10.StrataLevels'. -/
def strataLevelsUptoCard : Claim7 := { stood := { row := strataLevelsUptoRow, standIns := [], harness := (true, "4f8e2eed283459dee75ec162b45c90da818f3b3e75670dbac55e4e48c05ccccf"), looks := true }, kinds := [], alts := [], laidByText := true, laidKinds := [.widerDeep], laidTests := true, laidLooks := .later }
def StrataLevelsUptoCardSaid : Prop := Claim7.holds Tryd.pinned (.plain (OpenSpec.upto strataLevelsSpec)) strataLevelsUptoCard

/-- THE SECOND FORM's CARD OF 'doormanlaw10.StrataLeast'. -/
def strataLeastUptoCard : Claim7 := { stood := { row := strataLeastUptoRow, standIns := [], harness := (true, "4f8e2eed283459dee75ec162b45c90da818f3b3e75670dbac55e4e48c05ccccf"), looks := true }, kinds := [], alts := [], laidByText := true, laidKinds := [.widerDeep], laidTests := true, laidLooks := .later }
def StrataLeastUptoCardSaid : Prop := Claim7.holds Tryd.pinned (.plain (OpenSpec.upto strataLeastSpec)) strataLeastUptoCard

/-- THE SECOND FORM's CARD OF 'doormanlaw10.StrataOrder'. -/
def strataOrderUptoCard : Claim7 := { stood := { row := strataOrderUptoRow, standIns := [], harness := (true, "4f8e2eed283459dee75ec162b45c90da818f3b3e75670dbac55e4e48c05ccccf"), looks := true }, kinds := [], alts := [], laidByText := true, laidKinds := [.widerDeep], laidTests := true, laidLooks := .later }
def StrataOrderUptoCardSaid : Prop := Claim7.holds Tryd.pinned (.plain (OpenSpec.upto strataOrderSpec)) strataOrderUptoCard

/-- THE SECOND FORM's CARD OF 'doormanlaw10.StrataMore'. -/
def strataMoreUptoCard : Claim7 := { stood := { row := strataMoreUptoRow, standIns := [], harness := (true, "4f8e2eed283459dee75ec162b45c90da818f3b3e75670dbac55e4e48c05ccccf"), looks := true }, kinds := [], alts := [], laidByText := true, laidKinds := [.widerDeep], laidTests := true, laidLooks := .later }
def StrataMoreUptoCardSaid : Prop := Claim7.holds Tryd.pinned (.plain (OpenSpec.upto strataMoreSpec)) strataMoreUptoCard

/-- THE SECOND FORM's CARD OF 'doormanlaw10.StrataRight'. -/
def strataRightUptoCard : Claim7 := { stood := { row := strataRightUptoRow, standIns := [], harness := (true, "4f8e2eed283459dee75ec162b45c90da818f3b3e75670dbac55e4e48c05ccccf"), looks := true }, kinds := [], alts := [], laidByText := true, laidKinds := [.widerDeep], laidTests := true, laidLooks := .later }
def StrataRightUptoCardSaid : Prop := Claim7.holds Tryd.pinned (.plain (OpenSpec.upto strataRightSpec)) strataRightUptoCard
end Rows
end Go.Proofs.YtaahagjaldgmoaaDoor
