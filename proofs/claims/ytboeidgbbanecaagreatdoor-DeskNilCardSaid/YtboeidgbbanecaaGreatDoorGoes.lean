/- No function of the program's form starts a goroutine: so no call comes to one (the closed fact of the card, without the closure). -/
import Derived.Test.YtboeidgbbanecaaGreatDoorRows
import Derived.WalkKit
import Derived.ProofKit
import Derived.SevenTiedAt
namespace Go.Proofs.YtboeidgbbanecaaGreatDoor
open Go.RowKit

theorem goes_none {P : Program} (h : P.funcs.any Func.goes = false) (f : FuncId) : P.goes f = false := by
  have h' : ∀ g : FuncId, ((P.funcs[g]?).any Func.goes) = false := by
    intro g
    cases hg : P.funcs[g]? with
    | none => rfl
    | some fn =>
      have hm : fn ∈ P.funcs := Array.mem_of_getElem? hg
      have := (Array.any_eq_false'.1 h) fn hm
      simpa using this
  unfold Program.goes
  rw [h, Bool.and_false, Bool.or_false]
  have e : (fun g : FuncId => (P.funcs[g]?).any Func.goes) = fun _ => false := funext h'
  rw [e]
  simp

theorem goesBy_none {c : OpenClaim} {P : Program} (h : P.funcs.any Func.goes = false) : false = c.goesBy P := by
  unfold OpenClaim.goesBy Program.goesAt Program.goesFrom
  have a : (P.funcNamed c.func).any P.goes = false := by
    cases P.funcNamed c.func with
    | none => rfl
    | some f => exact goes_none h f
  rw [a]
  cases c.start <;> simp [goes_none h]

set_option maxRecDepth 100000 in
set_option maxHeartbeats 100000000 in
theorem none_goes : Tryz.prog.funcs.any Func.goes = false := by kernel_rfl

end Go.Proofs.YtboeidgbbanecaaGreatDoor
