/- A world in which the listed package-level variables hold what the program's text lays in them. -/
import Derived.Test.YtboeidgbbanecaaGreatDoorRows
import Derived.ProofKit
import Derived.LaidMore
import Derived.Lay
import Derived.Lib.LaidIn
import Derived.OpenShut
import Derived.Stop.Joined
namespace Go.Proofs.YtboeidgbbanecaaGreatDoor
open Go.ChangeShapes Go.WideShapes Go.ChangeAt Go.RowKit

theorem own : ownKnob Tryz.prog.godebug = none := by kernel_rfl

/-- The listed variables. -/
def listed : List (String × DataW Unit) := Rows.deskNamesRow.laid
/-- The one that the program's text leaves to a constant of the form. -/
def pinned : List (String × DataW Unit) := listed.filter fun x => ["unicode/utf8.first"].contains x.1
theorem pinned_eq : ((listed.filter fun x => x.2.handleName?.isNone).filter fun x => ["unicode/utf8.first"].contains x.1) = pinned := by kernel_rfl

noncomputable def doorW (os : Os) : World := (World.doorLaid Tryz.prog 400 os).layVars Tryz.prog pinned

theorem doorW_met (os : Os) : laidMet Tryz.prog (listed.filter fun x => x.2.handleName?.isNone) (doorW os) :=
  laidMet_layVars (w0 := World.doorLaid Tryz.prog 400 os) ["unicode/utf8.first"] [7, 8, 4, 3, 6, 14, 5, 15] (by rw [pinned_eq]; rfl) (by rw [pinned_eq]; kernel_rfl) (by rw [pinned_eq]; kernel_rfl)
    (LaidIn.of_run [7, 8, 4, 3, 6, 14, 5, 15] 8 (by kernel_rfl) (by kernel_rfl) (by kernel_rfl) (by kernel_rfl))

theorem doorW_os (os : Os) : (doorW os).os = os := (World.layVars_os _ _ _).trans rfl

theorem door_met (os : Os) (args : Array Value) : laidMetH Tryz.prog listed ((doorW os).forCall (fun _ _ => 0) ⟨#[], args, []⟩).memory :=
  laidMetH_of_parts3 (fuel := 8) ((doorW_met os).of_heap (by simp [World.memory, World.forCall, Input.heap])) (by kernel_rfl) (by kernel_rfl)

theorem door_shaped (os : Os) (args : Array Value) : ((doorW os).forCall (fun _ _ => 0) ⟨#[], args, []⟩).Shaped Tryz.prog :=
  World.shaped_of_ZipB (by kernel_rfl) (by kernel_rfl)
end Go.Proofs.YtboeidgbbanecaaGreatDoor
