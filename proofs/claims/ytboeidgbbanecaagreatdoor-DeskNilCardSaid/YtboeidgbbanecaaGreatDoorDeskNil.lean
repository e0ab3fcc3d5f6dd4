/- The Go function ropewalklaw23.DeskNil returns true for every argument, whatever the rest of the program's memory holds, and leaves what was there as it was.
   Conditions: those of the given statement (the listed package-level variables start as the program's text lays them; the card ties them). No bound of its own. -/
import Derived.Test.YtboeidgbbanecaaGreatDoorDeskNilRow
import Derived.Test.YtboeidgbbanecaaGreatDoorGoes
import Derived.Test.YtboeidgbbanecaaGreatDoorCards
import Derived.Test.YtboeidgbbanecaaGreatDoorTie
import Derived.WalkKit
import Derived.ProofKit
import Derived.OpenShut
import Derived.ShutString
import Derived.SevenTiedAt
import Derived.Carry
namespace Go.Proofs.YtboeidgbbanecaaGreatDoor.deskNil
open Go.ChangeShapes Go.WideShapes Go.ChangeAt Go.RowKit
open Go.ChangeMaps (open_string shut_string)
set_option linter.unusedVariables false      -- a walk need not use every 'w<i>' (that an integer argument fits its kind)


set_option maxRecDepth 100000 in
set_option maxHeartbeats 100000000 in
theorem proved : Rows.DeskNilCardSaid :=
  Claim7.holds_tied_plain_at .later [] [.data, .data, .data, .data, .handle, .sentinel, .sentinel, .pinned] true (true, "48f2373a885a10c4843d3e3fa9602e3752537c7685883ddadcc70c15f2e4c334") true
    over (fun _ h => by cases h) (by kernel_rfl) (fun _ h => by cases h) deskNil_row_tie rfl ⟨rfl, rfl⟩ (by kernel_rfl) rfl
    (fun f fn hf hfn => by
      obtain rfl : f = 4 := Option.some.inj ((show Tryz.prog.funcNamed "ropewalk/ropewalklaw23.DeskNil" = some 4 by kernel_rfl).symm.trans hf) |>.symm
      obtain rfl : fn = Tryz.f4 := (Option.some.inj (Tryz.func4.symm.trans hfn)).symm
      exact ⟨by kernel_rfl, fun j t ht => by
        rw [Tryz.params4] at ht
        have h3 : t = 9 := by
          rcases j with _ | j
          · exact by simpa using ht.symm
          · simp at ht
        rcases h3 with rfl
        · exact (show Tryz.prog.wantsStandIn 9 = false by kernel_rfl)⟩)
    (goesBy_none none_goes)
#print axioms proved
end Go.Proofs.YtboeidgbbanecaaGreatDoor.deskNil
