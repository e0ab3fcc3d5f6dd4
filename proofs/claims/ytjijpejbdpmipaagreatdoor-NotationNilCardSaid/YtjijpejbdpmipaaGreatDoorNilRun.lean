/- The machine runs the Go function ropewalklaw04.NotationNil to 'true', its arguments not looked into; so the call returns true. -/
import Derived.Test.YtjijpejbdpmipaaGreatDoorNat
namespace Go.Proofs.YtjijpejbdpmipaaGreatDoor.notationNil
open Go.RowKit

theorem true_at (a0 : ByteArray) (a1 : Option Addr) (len1 cap1 : Nat) :
    Sim.isTrue (Sim.evF (fun _ => none) nat (Sim.progF Tryz.prog) (2999 + 1) 11 [.opq (.string a0), .opq (.slice a1 len1 cap1)] .empty) = true := by kernel_rfl

theorem ran (a0 : ByteArray) (a1 : Option Addr) (len1 cap1 : Nat) (w : World) :
    Calls Tryz.prog 11 #[.string a0, .slice a1 len1 cap1] w fun e w' => e = .returned (.bool true) ∧ Below w.heap.size w w' :=
  Sim.calls_true nat_ok (n := 2999) rfl (by simp [Sim.VRelL, Sim.VRel, Sim.plainV]) (true_at a0 a1 len1 cap1) w

end Go.Proofs.YtjijpejbdpmipaaGreatDoor.notationNil
