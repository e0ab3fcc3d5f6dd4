/- The machine runs the Go function ropewalk/ropewalklaw23.DeskNil to 'true', its arguments not looked into; so the call returns true. -/
import Derived.Test.YtboeidgbbanecaaGreatDoorNat
namespace Go.Proofs.YtboeidgbbanecaaGreatDoor.deskNil
open Go.RowKit

theorem true_at (a0 : ByteArray) : Sim.isTrue (Sim.evF glob nat (Sim.progF Tryz.prog) (2999 + 1) 4 [.opq (.string a0)] .empty) = true := by kernel_rfl

theorem ran (a0 : ByteArray) (w : World) (hg : Sim.GlobOk glob w) : Calls Tryz.prog 4 #[.string a0] w fun e w' => e = .returned (.bool true) ∧ Below w.heap.size w w' :=
  Sim.calls_true_at nat_ok (n := 2999) rfl (args := [.opq (.string a0)]) (vs := [.string a0]) (by simp [Sim.VRelL, Sim.VRel, Sim.plainV]) (true_at a0) hg

end Go.Proofs.YtboeidgbbanecaaGreatDoor.deskNil
