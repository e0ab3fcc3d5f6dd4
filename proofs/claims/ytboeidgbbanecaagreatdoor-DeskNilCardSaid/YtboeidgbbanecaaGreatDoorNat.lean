/- The functions of the library that are known by a law of their own. -/
import Derived.KernelRfl
import Derived.Test.YtboeidgbbanecaaGreatDoorProg
import Derived.Test.YtboeidgbbanecaaGreatDoorGlob
import Derived.Test.YtboeidgbbanecaaGreatDoorAs
namespace Go.Proofs.YtboeidgbbanecaaGreatDoor
open Go Go.Sim

theorem nat202_name : (Tryz.f202.name == "runtime.NumGoroutine") = false := by kernel_rfl
theorem nat202_body : Tryz.f202.body.isNone = true := by kernel_rfl
theorem nat202_next : Extern.findNext Tryz.f202 = none := by kernel_rfl
theorem nat202_find : Extern.find Tryz.f202 = some Extern.BytealgIndexByte.indexByte := by kernel_rfl
theorem nat202_ok (B : Nat) : Nat1 Tryz.prog glob B 202 natIndex := natIndex_ok (f := 202) (fn := Tryz.f202) Tryz.func202 nat202_name nat202_body nat202_next nat202_find
theorem nat124_name : (Tryz.f124.name == "runtime.NumGoroutine") = false := by kernel_rfl
theorem nat124_body : Tryz.f124.body.isNone = true := by kernel_rfl
theorem nat124_next : Extern.findNext Tryz.f124 = none := by kernel_rfl
theorem nat124_find : Extern.find Tryz.f124 = some Extern.AbiNoEscape.same := by kernel_rfl
theorem nat124_ok (B : Nat) : Nat1 Tryz.prog glob B 124 natSame := natSame_ok (f := 124) (fn := Tryz.f124) Tryz.func124 nat124_name nat124_body nat124_next nat124_find
theorem nat310_name : (Tryz.f310.name == "runtime.NumGoroutine") = false := by kernel_rfl
theorem nat310_body : Tryz.f310.body.isNone = true := by kernel_rfl
theorem nat310_next : Extern.findNext Tryz.f310 = none := by kernel_rfl
theorem nat310_find : Extern.find Tryz.f310 = some (Extern.BytealgMakeNoZero.makeNoZero Tryz.f310.params #[65]) := by kernel_rfl
theorem nat310_type : Tryz.prog.underlying 65 = some (.slice 5) := by kernel_rfl
theorem nat310_ok (B : Nat) : Nat1 Tryz.prog glob B 310 (natMake 5) := natMake_ok (f := 310) (fn := Tryz.f310) (t := 65) (e := 5) Tryz.func310 nat310_name nat310_body nat310_next nat310_find nat310_type
theorem nat199_name : (Tryz.f199.name == "runtime.NumGoroutine") = false := by kernel_rfl
theorem nat199_body : Tryz.f199.body.isNone = true := by kernel_rfl
theorem nat199_next : Extern.findNext Tryz.f199 = none := by kernel_rfl
theorem nat199_find : Extern.find Tryz.f199 = some Extern.BytealgCount.count := by kernel_rfl
theorem nat199_ok (B : Nat) : Nat1 Tryz.prog glob B 199 natCount := natCount_ok (f := 199) (fn := Tryz.f199) Tryz.func199 nat199_name nat199_body nat199_next nat199_find
theorem nat65_known : AsKnown Tryz.prog 65 58 115 0 (.iface 320 (.agg #[.pointer (some ⟨9, 25, none⟩)])) where
  enter := fun vs w => run_enter Tryz.func65 (by kernel_rfl) (by kernel_rfl) vs w
  nil := as_nil
  hit := fun e t old w hg ht hf => (as_hit e t old w hg ht hf).mono fun ev w' h => ⟨h.1, _, _, _, _, h.2⟩
theorem nat65_ok (B : Nat) : Nat1 Tryz.prog glob B 65 (natAs 58 115) := natAs_ok nat65_known rfl glob_val

noncomputable def nat (f : Nat) : Option (List V → H → Option (Out × H)) :=
  bif Nat.beq f 202 then some natIndex else bif Nat.beq f 124 then some natSame else bif Nat.beq f 310 then some (natMake 5) else bif Nat.beq f 199 then some natCount else bif Nat.beq f 65 then some (natAs 58 115) else none

theorem nat_ok (B : Nat) : NatOk Tryz.prog glob B nat := by
  refine ⟨fun f g hg => ?_⟩
  unfold nat at hg
  simp only [Bool.cond_eq_ite, Nat.beq_eq] at hg
  split at hg
  · rename_i e
    have e2 := Option.some.inj hg
    rw [← e2, e]
    exact nat202_ok B
  split at hg
  · rename_i e
    have e2 := Option.some.inj hg
    rw [← e2, e]
    exact nat124_ok B
  split at hg
  · rename_i e
    have e2 := Option.some.inj hg
    rw [← e2, e]
    exact nat310_ok B
  split at hg
  · rename_i e
    have e2 := Option.some.inj hg
    rw [← e2, e]
    exact nat199_ok B
  split at hg
  · rename_i e
    have e2 := Option.some.inj hg
    rw [← e2, e]
    exact nat65_ok B
  cases hg
end Go.Proofs.YtboeidgbbanecaaGreatDoor
