/- The program's three functions of the library that have no body. -/
import Derived.KernelRfl
import Derived.Test.YtjijpejbdpmipaaGreatDoorProg
import Derived.Test.YtjijpejbdpmipaaGreatDoorSimN
namespace Go.Proofs.YtjijpejbdpmipaaGreatDoor
open Go Go.Sim

theorem nat176_name : (Tryz.f176.name == "runtime.NumGoroutine") = false := by kernel_rfl
theorem nat176_body : Tryz.f176.body.isNone = true := by kernel_rfl
theorem nat176_next : Extern.findNext Tryz.f176 = none := by kernel_rfl
theorem nat176_find : Extern.find Tryz.f176 = some Extern.BytealgIndexByte.indexByte := by kernel_rfl
theorem nat152_name : (Tryz.f152.name == "runtime.NumGoroutine") = false := by kernel_rfl
theorem nat152_body : Tryz.f152.body.isNone = true := by kernel_rfl
theorem nat152_next : Extern.findNext Tryz.f152 = none := by kernel_rfl
theorem nat152_find : Extern.find Tryz.f152 = some Extern.AbiNoEscape.same := by kernel_rfl
theorem nat172_name : (Tryz.f172.name == "runtime.NumGoroutine") = false := by kernel_rfl
theorem nat172_body : Tryz.f172.body.isNone = true := by kernel_rfl
theorem nat172_next : Extern.findNext Tryz.f172 = none := by kernel_rfl
theorem nat172_find : Extern.find Tryz.f172 = some (Extern.BytealgMakeNoZero.makeNoZero Tryz.f172.params #[174]) := by kernel_rfl
theorem nat172_type : Tryz.prog.underlying 174 = some (.slice 5) := by kernel_rfl

noncomputable def nat (f : Nat) : Option (List V → H → Option (Out × H)) :=
  bif Nat.beq f 176 then some natIndex else bif Nat.beq f 152 then some natSame else bif Nat.beq f 172 then some (natMake 5) else none

theorem nat176_ok (B : Nat) : Nat1 Tryz.prog (fun _ => none) B 176 natIndex := natIndex_ok (P := Tryz.prog) (G := fun _ => none) (B := B) (f := 176) (fn := Tryz.f176) Tryz.func176 nat176_name nat176_body nat176_next nat176_find
theorem nat152_ok (B : Nat) : Nat1 Tryz.prog (fun _ => none) B 152 natSame := natSame_ok (P := Tryz.prog) (G := fun _ => none) (B := B) (f := 152) (fn := Tryz.f152) Tryz.func152 nat152_name nat152_body nat152_next nat152_find
theorem nat172_ok (B : Nat) : Nat1 Tryz.prog (fun _ => none) B 172 (natMake 5) := natMake_ok (P := Tryz.prog) (G := fun _ => none) (B := B) (f := 172) (fn := Tryz.f172) (t := 174) (e := 5) Tryz.func172 nat172_name nat172_body nat172_next nat172_find nat172_type

theorem nat_ok (B : Nat) : NatOk Tryz.prog (fun _ => none) B nat := by
  refine ⟨fun f g hg => ?_⟩
  unfold nat at hg
  simp only [Bool.cond_eq_ite, Nat.beq_eq] at hg
  split at hg
  · rename_i e
    have e2 := Option.some.inj hg
    rw [← e2, e]
    exact nat176_ok B
  split at hg
  · rename_i e
    have e2 := Option.some.inj hg
    rw [← e2, e]
    exact nat152_ok B
  split at hg
  · rename_i e
    have e2 := Option.some.inj hg
    rw [← e2, e]
    exact nat172_ok B
  · cases hg
end Go.Proofs.YtjijpejbdpmipaaGreatDoor
