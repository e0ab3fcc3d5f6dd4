/- The machine runs the Go function ropewalk/ropewalklaw23.DeskNames to 'true'; so the call returns true. -/
import Derived.Test.YtboeidgbbanecaaGreatDoorNat
namespace Go.Proofs.YtboeidgbbanecaaGreatDoor.deskNames
open Go.RowKit

theorem true_at  : Sim.isTrue (Sim.evF glob nat (Sim.progF Tryz.prog) (2999 + 1) 3 [] .empty) = true := by kernel_rfl

theorem ran  (w : World) (hg : Sim.GlobOk glob w) : Calls Tryz.prog 3 #[] w fun e w' => e = .returned (.bool true) ∧ Below w.heap.size w w' :=
  Sim.calls_true_at nat_ok (n := 2999) rfl (args := []) (vs := []) (rfl) (true_at ) hg

end Go.Proofs.YtboeidgbbanecaaGreatDoor.deskNames
