/- The machine runs the Go function ropewalklaw04.NotationNames to 'true'; so the call returns true. -/
import Derived.Test.YtjijpejbdpmipaaGreatDoorNat
namespace Go.Proofs.YtjijpejbdpmipaaGreatDoor.notationNames
open Go.RowKit

theorem ran : Sim.isTrue (Sim.evF (fun _ => none) nat (Sim.progF Tryz.prog) (2999 + 1) 3 [] .empty) = true := by kernel_rfl

theorem walk (w : World) : Calls Tryz.prog 3 #[] w fun e w' => e = .returned (.bool true) ∧ Below w.heap.size w w' :=
  Sim.calls_true nat_ok (n := 2999) rfl ran w

end Go.Proofs.YtjijpejbdpmipaaGreatDoor.notationNames
