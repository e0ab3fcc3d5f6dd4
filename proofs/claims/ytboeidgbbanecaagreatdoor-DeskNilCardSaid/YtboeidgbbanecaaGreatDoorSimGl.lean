/- A listed table of integers, as the laid condition gives it: its cells. -/
import Derived.Test.YtboeidgbbanecaaGreatDoorSimAs
import Derived.OpenShut
import Derived.LaidSub
import Derived.ChangeArms
import Derived.LaidHandle
namespace Go.Sim
open Go.RowKit

theorem ints_of_trod {H : Type} {enc : TypeId × Value → H} {P : Program} {w : World} {base : Nat} {spare : Nat → Bool} {held : Bool} {fuel t n e : Nat} {k : IntKind} {ks : List Int} {cs : List Value} {p : List MemPlace}
    (hu : P.underlying t = some (.array n e)) (he : P.underlying e = some (.int k)) (hc : P.cellsOf e = 1)
    (h : DataW.trod enc P w base spare held fuel t cs = some (.agg (ks.map fun z => .lit (.int k z)), p)) : ∀ (i : Nat) (z : Int), ks[i]? = some z → cs[i]? = some (.int k z) := by
  intro i z hz
  obtain ⟨xs, m, rfl, hx, hlen, hxs, hel⟩ := DataW.trod_array hu h
  simp only [Prod.mk.injEq, DataW.agg.injEq] at hx
  have hxs2 : xs.length = ks.length := by
    have := congrArg List.length hx.1
    simpa using this.symm
  have hi : i < ks.length := by
    rcases Nat.lt_or_ge i ks.length with h1 | h1
    · exact h1
    · rw [List.getElem?_eq_none h1] at hz; cases hz
  have h1 := hel i (by omega)
  have hxi : xs[i]? = some xs[i] := List.getElem?_eq_getElem (by omega)
  rw [hxi, hc, Nat.mul_one] at h1
  obtain ⟨z', e1, e2, _⟩ := DataW.trod_int he h1
  have h2 : (ks.map fun z => (DataW.lit (.int k z) : DataW H))[i]? = (xs.map (·.1))[i]? := by rw [hx.1]
  rw [List.getElem?_map, List.getElem?_map, hz, hxi, e2] at h2
  simp only [Option.map_some, Option.some.injEq, DataW.lit.injEq, Lit.int.injEq, true_and] at h2
  subst h2
  have h3 : ((cs.drop i).take 1)[0]? = some (.int k z) := by rw [e1]; rfl
  rw [List.getElem?_take, if_pos (by omega), List.getElem?_drop] at h3
  simpa using h3

theorem table_cells {P : Program} {W : World} {laid : List (String × DataW Unit)} {name : String} {d : DataW Unit} {g t n e : Nat} {k : IntKind} {ks : List Int} (h : laidMet P laid W) (hf : (laid.filter fun x => x.1 == name) = [(name, d)])
    (hg : P.globalNamed name = some g) (ht : (P.globals[g]?).map (·.type) = some t) (hd : d = .agg (ks.map fun z => .lit (.int k z)))
    (hu : P.underlying t = some (.array n e)) (he : P.underlying e = some (.int k)) (hc : P.cellsOf e = 1) : ∀ (i : Nat) (z : Int), ks[i]? = some z → W.cell? ⟨g, i, none⟩ = some (.int k z) := by
  obtain ⟨ps, hl, _⟩ := h
  obtain ⟨ps', hl', _⟩ := DataW.LaidVars.filter (fun x => x.1 == name) hl
  rw [hf] at hl'
  obtain ⟨g', t', cs, fuel, p, q, e1, e2, e3, e4, _⟩ := hl'
  rw [hg] at e1
  cases e1
  rw [ht] at e2
  cases e2
  rw [hd] at e4
  intro i z hz
  have h1 := ints_of_trod hu he hc e4 i z hz
  rw [World.var?_cell hg e3 i]
  simpa using h1

end Go.Sim
