/-
  DERIVED. GIVEN WITH THE SEED: THE CARDS: each row of YtboeidgbbanecaaGreatDoorRows.lean that lists a variable, with what it lists TIED to the program's text (the seventh form; the later family's looks); each row that meets fmt, with fmt's text TOLD by the authors' own Lean function (tested against real Go, not proved from fmt's source: count such statements apart). THE CARD IS WHAT COUNTS. Prove the row's statement (the work); the ties are given (YtboeidgbbanecaaGreatDoorTie.lean); close each card by the builder's one call (the guide's Derived/Test/ToyasCard.lean, 'card_holds'). Laid BY PROGRAM, IN A SANDBOX (cutbox-door.mjs). By AI agents, Wed Nov 11 2026. No macro, syntax, notation, axiom, sorry.
-/
import Derived.Test.YtboeidgbbanecaaGreatDoorRows
import GoSem.ClaimSeven
namespace Go.Proofs.YtboeidgbbanecaaGreatDoor
namespace Rows

/-- THE TIED CARD OF 'ropewalklaw23.DeskNames'. -/
def deskNamesCard : Claim7 := { stood := { row := deskNamesRow, standIns := [], harness := (true, "48f2373a885a10c4843d3e3fa9602e3752537c7685883ddadcc70c15f2e4c334"), looks := true }, kinds := [], alts := [], laidByText := true, laidKinds := [.data, .data, .data, .data, .handle, .sentinel, .sentinel, .pinned], laidTests := true, laidLooks := .later }
def DeskNamesCardSaid : Prop := Claim7.holds Tryz.pinned (.plain (OpenSpec.ofChange deskNamesSpec)) deskNamesCard

/-- THE TIED CARD OF 'ropewalklaw23.DeskNil'. -/
def deskNilCard : Claim7 := { stood := { row := deskNilRow, standIns := [], harness := (true, "48f2373a885a10c4843d3e3fa9602e3752537c7685883ddadcc70c15f2e4c334"), looks := true }, kinds := [], alts := [], laidByText := true, laidKinds := [.data, .data, .data, .data, .handle, .sentinel, .sentinel, .pinned], laidTests := true, laidLooks := .later }
def DeskNilCardSaid : Prop := Claim7.holds Tryz.pinned (.plain (OpenSpec.ofChange deskNilSpec)) deskNilCard

/-- THE SECOND FORM's CARD OF 'ropewalklaw23.DeskNames'. -/
def deskNamesUptoCard : Claim7 := { stood := { row := deskNamesUptoRow, standIns := [], harness := (true, "48f2373a885a10c4843d3e3fa9602e3752537c7685883ddadcc70c15f2e4c334"), looks := true }, kinds := [], alts := [], laidByText := true, laidKinds := [.data, .data, .data, .data, .handle, .sentinel, .sentinel, .pinned], laidTests := true, laidLooks := .later }
def DeskNamesUptoCardSaid : Prop := Claim7.holds Tryz.pinned (.plain (OpenSpec.upto deskNamesSpec)) deskNamesUptoCard

/-- THE SECOND FORM's CARD OF 'ropewalklaw23.DeskNil'. -/
def deskNilUptoCard : Claim7 := { stood := { row := deskNilUptoRow, standIns := [], harness := (true, "48f2373a885a10c4843d3e3fa9602e3752537c7685883ddadcc70c15f2e4c334"), looks := true }, kinds := [], alts := [], laidByText := true, laidKinds := [.data, .data, .data, .data, .handle, .sentinel, .sentinel, .pinned], laidTests := true, laidLooks := .later }
def DeskNilUptoCardSaid : Prop := Claim7.holds Tryz.pinned (.plain (OpenSpec.upto deskNilSpec)) deskNilUptoCard
end Rows
end Go.Proofs.YtboeidgbbanecaaGreatDoor
