/- The row of DeskNil. -/
import Derived.Test.YtboeidgbbanecaaGreatDoorDeskNilStep
import Derived.WalkKit
import Derived.ProofKit
import Derived.OpenShut
import Derived.ShutString
import Derived.SevenTiedAt
import Derived.Carry
namespace Go.Proofs.YtboeidgbbanecaaGreatDoor.deskNil
open Go.ChangeShapes Go.WideShapes Go.ChangeAt Go.RowKit
open Go.ChangeMaps (open_string shut_string)
set_option linter.unusedVariables false      -- a walk need not use every 'w<i>' (that an integer argument fits its kind)


set_option maxRecDepth 100000 in
set_option maxHeartbeats 100000000 in
/-- The closed facts, one by one (all at once they take more memory than there is). -/
theorem closed : joinedFacts Tryz.pinned.checked.prog 4 Tryz.f4 Rows.deskNilSpec Rows.deskNilRow = true := by
  unfold joinedFacts
  repeat' with_reducible refine Bool.and_eq_true_iff.2 ⟨?_, ?_⟩
  all_goals (as_aux_lemma => kernel_rfl)

set_option maxRecDepth 100000 in
set_option maxHeartbeats 100000000 in
theorem over : Rows.deskNilRow.holds Tryz.pinned (OpenSpec.ofChange Rows.deskNilSpec) :=
  OpenClaim.holds_of_wide 4 Tryz.f4 rfl rfl rfl rfl rfl rfl rfl ⟨rfl, rfl, rfl, rfl, rfl⟩ rfl rfl rfl rfl rfl (by kernel_rfl) Tryz.func4 closed
    (of_decide_eq_true (by kernel_rfl)) (by unfold Func.isWrapper; first | (rw [if_pos (by decide +kernel)]; kernel_rfl) | (rw [if_neg (by decide +kernel)]; exact ⟨rfl, rfl⟩))
    (fun os started H enc _ => lifted os started H enc)

end Go.Proofs.YtboeidgbbanecaaGreatDoor.deskNil
