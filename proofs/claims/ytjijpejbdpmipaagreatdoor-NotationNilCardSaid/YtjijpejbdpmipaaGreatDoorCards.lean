/-
  DERIVED. GIVEN WITH THE SEED: THE CARDS: each row of YtjijpejbdpmipaaGreatDoorRows.lean that lists a variable, with what it lists TIED to the program's text (the seventh form; the later family's looks); each row that meets fmt, with fmt's text TOLD by the authors' own Lean function (tested against real Go, not proved from fmt's source: count such statements apart). THE CARD IS WHAT COUNTS. Prove the row's statement (the work); the ties are given (YtjijpejbdpmipaaGreatDoorTie.lean); close each card by the builder's one call (the guide's Derived/Test/ToyasCard.lean, 'card_holds'). Laid BY PROGRAM, IN A SANDBOX (cutbox-door.mjs). By AI agents, Wed Nov 11 2026. No macro, syntax, notation, axiom, sorry.
-/
import Derived.Test.YtjijpejbdpmipaaGreatDoorRows
import GoSem.ClaimSeven
namespace Go.Proofs.YtjijpejbdpmipaaGreatDoor
namespace Rows

/-- THE TIED CARD OF 'ropewalklaw04.NotationNames'. -/
def notationNamesCard : Claim7 := { stood := { row := notationNamesRow, standIns := [], harness := (true, "21b42d577645a4886af7ad58d1d49f01fa5da8abd7e14e4838e18207f4b74fc9"), looks := true }, kinds := [], alts := [], laidByText := true, laidKinds := [.data, .data, .data, .handle, .sentinel, .sentinel], laidTests := true, laidLooks := .later }
def NotationNamesCardSaid : Prop := Claim7.holds Tryz.pinned (.plain (OpenSpec.ofChange notationNamesSpec)) notationNamesCard

/-- THE TIED CARD OF 'ropewalklaw04.NotationSymbols'. -/
def notationSymbolsCard : Claim7 := { stood := { row := notationSymbolsRow, standIns := [], harness := (true, "21b42d577645a4886af7ad58d1d49f01fa5da8abd7e14e4838e18207f4b74fc9"), looks := true }, kinds := [], alts := [], laidByText := true, laidKinds := [.data, .data, .data, .handle, .sentinel, .sentinel], laidTests := true, laidLooks := .later }
def NotationSymbolsCardSaid : Prop := Claim7.holds Tryz.pinned (.plain (OpenSpec.ofChange notationSymbolsSpec)) notationSymbolsCard

/-- THE TIED CARD OF 'ropewalklaw04.NotationTerms'. -/
def notationTermsCard : Claim7 := { stood := { row := notationTermsRow, standIns := [], harness := (true, "21b42d577645a4886af7ad58d1d49f01fa5da8abd7e14e4838e18207f4b74fc9"), looks := true }, kinds := [], alts := [], laidByText := true, laidKinds := [.data, .data, .data, .handle, .sentinel, .sentinel], laidTests := true, laidLooks := .later }
def NotationTermsCardSaid : Prop := Claim7.holds Tryz.pinned (.plain (OpenSpec.ofChange notationTermsSpec)) notationTermsCard

/-- THE TIED CARD OF 'ropewalklaw04.NotationMoves'. -/
def notationMovesCard : Claim7 := { stood := { row := notationMovesRow, standIns := [], harness := (true, "21b42d577645a4886af7ad58d1d49f01fa5da8abd7e14e4838e18207f4b74fc9"), looks := true }, kinds := [], alts := [], laidByText := true, laidKinds := [.data, .data, .data, .handle, .sentinel, .sentinel], laidTests := true, laidLooks := .later }
def NotationMovesCardSaid : Prop := Claim7.holds Tryz.pinned (.plain (OpenSpec.ofChange notationMovesSpec)) notationMovesCard

/-- THE TIED CARD OF 'ropewalklaw04.NotationRules'. -/
def notationRulesCard : Claim7 := { stood := { row := notationRulesRow, standIns := [], harness := (true, "21b42d577645a4886af7ad58d1d49f01fa5da8abd7e14e4838e18207f4b74fc9"), looks := true }, kinds := [], alts := [], laidByText := true, laidKinds := [.data, .data, .data, .handle, .sentinel, .sentinel], laidTests := true, laidLooks := .later }
def NotationRulesCardSaid : Prop := Claim7.holds Tryz.pinned (.plain (OpenSpec.ofChange notationRulesSpec)) notationRulesCard

/-- THE TIED CARD OF 'ropewalklaw04.NotationBlanks'. -/
def notationBlanksCard : Claim7 := { stood := { row := notationBlanksRow, standIns := [], harness := (true, "21b42d577645a4886af7ad58d1d49f01fa5da8abd7e14e4838e18207f4b74fc9"), looks := true }, kinds := [], alts := [], laidByText := true, laidKinds := [.data, .data, .data, .handle, .sentinel, .sentinel], laidTests := true, laidLooks := .later }
def NotationBlanksCardSaid : Prop := Claim7.holds Tryz.pinned (.plain (OpenSpec.ofChange notationBlanksSpec)) notationBlanksCard

/-- THE TIED CARD OF 'ropewalklaw04.NotationMovesBack'. -/
def notationMovesBackCard : Claim7 := { stood := { row := notationMovesBackRow, standIns := [], harness := (true, "21b42d577645a4886af7ad58d1d49f01fa5da8abd7e14e4838e18207f4b74fc9"), looks := true }, kinds := [], alts := [], laidByText := true, laidKinds := [.data, .data, .data, .handle, .sentinel, .sentinel], laidTests := true, laidLooks := .later }
def NotationMovesBackCardSaid : Prop := Claim7.holds Tryz.pinned (.plain (OpenSpec.ofChange notationMovesBackSpec)) notationMovesBackCard

/-- THE TIED CARD OF 'ropewalklaw04.NotationPrints'. -/
def notationPrintsCard : Claim7 := { stood := { row := notationPrintsRow, standIns := [], harness := (true, "21b42d577645a4886af7ad58d1d49f01fa5da8abd7e14e4838e18207f4b74fc9"), looks := true }, kinds := [], alts := [], laidByText := true, laidKinds := [.data, .data, .data, .handle, .sentinel, .sentinel], laidTests := true, laidLooks := .later }
def NotationPrintsCardSaid : Prop := Claim7.holds Tryz.pinned (.plain (OpenSpec.ofChange notationPrintsSpec)) notationPrintsCard

/-- THE TIED CARD OF 'ropewalklaw04.NotationNil'. -/
def notationNilCard : Claim7 := { stood := { row := notationNilRow, standIns := [], harness := (true, "21b42d577645a4886af7ad58d1d49f01fa5da8abd7e14e4838e18207f4b74fc9"), looks := true }, kinds := [], alts := [], laidByText := true, laidKinds := [.data, .data, .data, .handle, .sentinel, .sentinel], laidTests := true, laidLooks := .later }
def NotationNilCardSaid : Prop := Claim7.holds Tryz.pinned (.plain (OpenSpec.ofChange notationNilSpec)) notationNilCard

/-- THE TIED CARD OF 'ropewalklaw04.NotationWraps'. -/
def notationWrapsCard : Claim7 := { stood := { row := notationWrapsRow, standIns := [], harness := (true, "21b42d577645a4886af7ad58d1d49f01fa5da8abd7e14e4838e18207f4b74fc9"), looks := true }, kinds := [], alts := [], laidByText := true, laidKinds := [.data, .data, .data, .handle, .sentinel, .sentinel], laidTests := true, laidLooks := .later }
def NotationWrapsCardSaid : Prop := Claim7.holds Tryz.pinned (.plain (OpenSpec.ofChange notationWrapsSpec)) notationWrapsCard

/-- THE TIED CARD OF 'ropewalklaw04.NotationBack'. -/
def notationBackCard : Claim7 := { stood := { row := notationBackRow, standIns := [], harness := (true, "21b42d577645a4886af7ad58d1d49f01fa5da8abd7e14e4838e18207f4b74fc9"), looks := true }, kinds := [], alts := [], laidByText := true, laidKinds := [.data, .data, .data, .handle, .sentinel, .sentinel], laidTests := true, laidLooks := .later }
def NotationBackCardSaid : Prop := Claim7.holds Tryz.pinned (.plain (OpenSpec.ofChange notationBackSpec)) notationBackCard

/-- THE SECOND FORM's CARD OF 'ropewalklaw04.NotationNames'. -/
def notationNamesUptoCard : Claim7 := { stood := { row := notationNamesUptoRow, standIns := [], harness := (true, "21b42d577645a4886af7ad58d1d49f01fa5da8abd7e14e4838e18207f4b74fc9"), looks := true }, kinds := [], alts := [], laidByText := true, laidKinds := [.data, .data, .data, .handle, .sentinel, .sentinel], laidTests := true, laidLooks := .later }
def NotationNamesUptoCardSaid : Prop := Claim7.holds Tryz.pinned (.plain (OpenSpec.upto notationNamesSpec)) notationNamesUptoCard

/-- THE SECOND FORM's CARD OF 'ropewalklaw04.NotationSymbols'. -/
def notationSymbolsUptoCard : Claim7 := { stood := { row := notationSymbolsUptoRow, standIns := [], harness := (true, "21b42d577645a4886af7ad58d1d49f01fa5da8abd7e14e4838e18207f4b74fc9"), looks := true }, kinds := [], alts := [], laidByText := true, laidKinds := [.data, .data, .data, .handle, .sentinel, .sentinel], laidTests := true, laidLooks := .later }
def NotationSymbolsUptoCardSaid : Prop := Claim7.holds Tryz.pinned (.plain (OpenSpec.upto notationSymbolsSpec)) notationSymbolsUptoCard

/-- THE SECOND FORM's CARD OF 'ropewalklaw04.NotationTerms'. -/
def notationTermsUptoCard : Claim7 := { stood := { row := notationTermsUptoRow, standIns := [], harness := (true, "21b42d577645a4886af7ad58d1d49f01fa5da8abd7e14e4838e18207f4b74fc9"), looks := true }, kinds := [], alts := [], laidByText := true, laidKinds := [.data, .data, .data, .handle, .sentinel, .sentinel], laidTests := true, laidLooks := .later }
def NotationTermsUptoCardSaid : Prop := Claim7.holds Tryz.pinned (.plain (OpenSpec.upto notationTermsSpec)) notationTermsUptoCard

/-- THE SECOND FORM's CARD OF 'ropewalklaw04.NotationMoves'. -/
def notationMovesUptoCard : Claim7 := { stood := { row := notationMovesUptoRow, standIns := [], harness := (true, "21b42d577645a4886af7ad58d1d49f01fa5da8abd7e14e4838e18207f4b74fc9"), looks := true }, kinds := [], alts := [], laidByText := true, laidKinds := [.data, .data, .data, .handle, .sentinel, .sentinel], laidTests := true, laidLooks := .later }
def NotationMovesUptoCardSaid : Prop := Claim7.holds Tryz.pinned (.plain (OpenSpec.upto notationMovesSpec)) notationMovesUptoCard

/-- THE SECOND FORM's CARD OF 'ropewalklaw04.NotationRules'. -/
def notationRulesUptoCard : Claim7 := { stood := { row := notationRulesUptoRow, standIns := [], harness := (true, "21b42d577645a4886af7ad58d1d49f01fa5da8abd7e14e4838e18207f4b74fc9"), looks := true }, kinds := [], alts := [], laidByText := true, laidKinds := [.data, .data, .data, .handle, .sentinel, .sentinel], laidTests := true, laidLooks := .later }
def NotationRulesUptoCardSaid : Prop := Claim7.holds Tryz.pinned (.plain (OpenSpec.upto notationRulesSpec)) notationRulesUptoCard

/-- THE SECOND FORM's CARD OF 'ropewalklaw04.NotationBlanks'. -/
def notationBlanksUptoCard : Claim7 := { stood := { row := notationBlanksUptoRow, standIns := [], harness := (true, "21b42d577645a4886af7ad58d1d49f01fa5da8abd7e14e4838e18207f4b74fc9"), looks := true }, kinds := [], alts := [], laidByText := true, laidKinds := [.data, .data, .data, .handle, .sentinel, .sentinel], laidTests := true, laidLooks := .later }
def NotationBlanksUptoCardSaid : Prop := Claim7.holds Tryz.pinned (.plain (OpenSpec.upto notationBlanksSpec)) notationBlanksUptoCard

/-- THE SECOND FORM's CARD OF 'ropewalklaw04.NotationMovesBack'. -/
def notationMovesBackUptoCard : Claim7 := { stood := { row := notationMovesBackUptoRow, standIns := [], harness := (true, "21b42d577645a4886af7ad58d1d49f01fa5da8abd7e14e4838e18207f4b74fc9"), looks := true }, kinds := [], alts := [], laidByText := true, laidKinds := [.data, .data, .data, .handle, .sentinel, .sentinel], laidTests := true, laidLooks := .later }
def NotationMovesBackUptoCardSaid : Prop := Claim7.holds Tryz.pinned (.plain (OpenSpec.upto notationMovesBackSpec)) notationMovesBackUptoCard

/-- THE SECOND FORM's CARD OF 'ropewalklaw04.NotationPrints'. -/
def notationPrintsUptoCard : Claim7 := { stood := { row := notationPrintsUptoRow, standIns := [], harness := (true, "21b42d577645a4886af7ad58d1d49f01fa5da8abd7e14e4838e18207f4b74fc9"), looks := true }, kinds := [], alts := [], laidByText := true, laidKinds := [.data, .data, .data, .handle, .sentinel, .sentinel], laidTests := true, laidLooks := .later }
def NotationPrintsUptoCardSaid : Prop := Claim7.holds Tryz.pinned (.plain (OpenSpec.upto notationPrintsSpec)) notationPrintsUptoCard

/-- THE SECOND FORM's CARD OF 'ropewalklaw04.NotationNil'. -/
def notationNilUptoCard : Claim7 := { stood := { row := notationNilUptoRow, standIns := [], harness := (true, "21b42d577645a4886af7ad58d1d49f01fa5da8abd7e14e4838e18207f4b74fc9"), looks := true }, kinds := [], alts := [], laidByText := true, laidKinds := [.data, .data, .data, .handle, .sentinel, .sentinel], laidTests := true, laidLooks := .later }
def NotationNilUptoCardSaid : Prop := Claim7.holds Tryz.pinned (.plain (OpenSpec.upto notationNilSpec)) notationNilUptoCard

/-- THE SECOND FORM's CARD OF 'ropewalklaw04.NotationWraps'. -/
def notationWrapsUptoCard : Claim7 := { stood := { row := notationWrapsUptoRow, standIns := [], harness := (true, "21b42d577645a4886af7ad58d1d49f01fa5da8abd7e14e4838e18207f4b74fc9"), looks := true }, kinds := [], alts := [], laidByText := true, laidKinds := [.data, .data, .data, .handle, .sentinel, .sentinel], laidTests := true, laidLooks := .later }
def NotationWrapsUptoCardSaid : Prop := Claim7.holds Tryz.pinned (.plain (OpenSpec.upto notationWrapsSpec)) notationWrapsUptoCard

/-- THE SECOND FORM's CARD OF 'ropewalklaw04.NotationBack'. -/
def notationBackUptoCard : Claim7 := { stood := { row := notationBackUptoRow, standIns := [], harness := (true, "21b42d577645a4886af7ad58d1d49f01fa5da8abd7e14e4838e18207f4b74fc9"), looks := true }, kinds := [], alts := [], laidByText := true, laidKinds := [.data, .data, .data, .handle, .sentinel, .sentinel], laidTests := true, laidLooks := .later }
def NotationBackUptoCardSaid : Prop := Claim7.holds Tryz.pinned (.plain (OpenSpec.upto notationBackSpec)) notationBackUptoCard
end Rows
end Go.Proofs.YtjijpejbdpmipaaGreatDoor
