/- The package-level variable errors.errorType, as the laid condition gives it. After the guide's worked example (Derived/Test/ToyasProofs.lean), at this program's numbers. -/
import Derived.Test.YtboeidgbbanecaaGreatDoorDoor
import Derived.Test.YtboeidgbbanecaaGreatDoorSimGl
namespace Go.Proofs.YtboeidgbbanecaaGreatDoor
open Go Go.Sim

theorem glob_et : Tryz.prog.globalNamed "errors.errorType" = some 0 := by kernel_rfl
theorem glob_rt : (Tryz.prog.cutTypes.find? (·.1 == "internal/reflectlite.rtype")).map (·.2) = some 320 := by kernel_rfl
theorem glob_row : ((List.range 628).filter fun t => Tryz.prog.rowNamed t [101, 114, 114, 111, 114]) = [25] := by kernel_rfl
theorem glob_size : Tryz.prog.types.size = 628 := by kernel_rfl
theorem glob_handle : typeHandle Tryz.prog 25 = .pointer (some ⟨9, 25, none⟩) := by kernel_rfl
theorem glob_listed : (listed.filter fun x => x.2.handleName?.isSome) = [("errors.errorType", Rows.laid_errors_errorType)] := by kernel_rfl
theorem glob_funcs : (Rows.laid_errors_errorType : DataW Unit).funcsIn? = none := by kernel_rfl
theorem glob_name : (Rows.laid_errors_errorType : DataW Unit).handleName? = some [101, 114, 114, 111, 114] := by kernel_rfl

theorem glob_cell {W : World} (h : laidMetH Tryz.prog listed W) : W.cell? ⟨0, 0, none⟩ = some (.iface 320 (.agg #[.pointer (some ⟨9, 25, none⟩)])) := by
  unfold laidMetH at h
  rw [glob_listed] at h
  have h2 := h.2 _ (List.mem_singleton.2 rfl)
  simp only [glob_funcs] at h2
  obtain ⟨name, u, ty, e1, e2, e3, e4, e5⟩ := h2
  have en : name = [101, 114, 114, 111, 114] := (Option.some.inj (glob_name.symm.trans e1)).symm
  subst en
  obtain rfl := Option.some.inj (glob_rt.symm.trans e2)
  have hm : ty ∈ (List.range 628).filter fun t => Tryz.prog.rowNamed t [101, 114, 114, 111, 114] := List.mem_filter.2 ⟨List.mem_range.2 (by rw [← glob_size]; exact e3), e4⟩
  rw [glob_row] at hm
  obtain rfl := List.mem_singleton.1 hm
  rw [glob_handle] at e5
  simpa using World.var?_cell glob_et e5 0

/-- The table internal/strconv.uint64pow10. -/
def tab0 : List Int := [1, 10, 100, 1000, 10000, 100000, 1000000, 10000000, 100000000, 1000000000, 10000000000, 100000000000, 1000000000000, 10000000000000, 100000000000000, 1000000000000000, 10000000000000000, 100000000000000000, 1000000000000000000, 10000000000000000000]
theorem tab0_listed : ((listed.filter fun x => x.2.handleName?.isNone).filter fun x => x.1 == "internal/strconv.uint64pow10") = [("internal/strconv.uint64pow10", Rows.laid_internal_strconv_uint64pow10)] := by kernel_rfl
theorem tab0_named : Tryz.prog.globalNamed "internal/strconv.uint64pow10" = some 4 := by kernel_rfl
theorem tab0_type : (Tryz.prog.globals[4]?).map (·.type) = some 468 := by kernel_rfl
theorem tab0_data : (Rows.laid_internal_strconv_uint64pow10 : DataW Unit) = .agg (tab0.map fun z => .lit (.int .u64 z)) := by kernel_rfl
theorem tab0_array : Tryz.prog.underlying 468 = some (.array 20 411) := by kernel_rfl
theorem tab0_elem : Tryz.prog.underlying 411 = some (.int .u64) := by kernel_rfl
theorem tab0_one : Tryz.prog.cellsOf 411 = 1 := by kernel_rfl
theorem tab0_cells {W : World} (h : laidMetH Tryz.prog listed W) : ∀ (i : Nat) (z : Int), tab0[i]? = some z → W.cell? ⟨4, i, none⟩ = some (.int .u64 z) := by
  unfold laidMetH at h
  rw [glob_listed] at h
  exact table_cells h.1 tab0_listed tab0_named tab0_type tab0_data tab0_array tab0_elem tab0_one

/-- What the machine knows of the variables. -/
def glob (g : Nat) : Option (List V) := bif Nat.beq g 0 then some [.ifc 320 (.ag [.glob 9 25])] else bif Nat.beq g 4 then some (tab0.map fun z => .i .u64 z) else none

theorem glob_val (v : Value) (h : VRel (fun _ => none) (.ifc 320 (.ag [.glob 9 25])) v) : v = .iface 320 (.agg #[.pointer (some ⟨9, 25, none⟩)]) := by
  simp only [VRel, VRelL] at h
  obtain ⟨y, rfl, cs, rfl, w, ws, rfl, rfl, rfl⟩ := h
  rfl

theorem glob_lt {W : World} {a : Addr} {v : Value} (hc : W.cell? a = some v) : a.block < W.heap.size := by
  rcases Nat.lt_or_ge a.block W.heap.size with h0 | h0
  · exact h0
  · simp [World.cell?, Array.getElem?_eq_none h0] at hc

theorem globOk {W : World} (h : laidMetH Tryz.prog listed W) : GlobOk glob W := by
  have hc := glob_cell h
  have ht0 := tab0_cells h
  refine ⟨fun g l hg => ?_, fun g l hg i x hx => ?_⟩
  · unfold glob at hg
    simp only [Bool.cond_eq_ite, Nat.beq_eq] at hg
    split at hg
    · rename_i e
      rw [e]
      exact glob_lt hc
    split at hg
    · rename_i e
      rw [e]
      exact glob_lt (ht0 0 _ rfl)
    cases hg
  · unfold glob at hg
    simp only [Bool.cond_eq_ite, Nat.beq_eq] at hg
    split at hg
    · rename_i e
      rw [e]
      cases hg
      cases i with
      | zero =>
        simp at hx
        subst hx
        refine ⟨_, hc, ?_⟩
        simp only [VRel, VRelL]
        exact ⟨_, rfl, _, rfl, _, _, rfl, rfl, rfl⟩
      | succ i => simp at hx
    split at hg
    · rename_i e
      rw [e]
      cases hg
      rw [List.getElem?_map, Option.map_eq_some_iff] at hx
      obtain ⟨z, hz, rfl⟩ := hx
      exact ⟨_, ht0 i z hz, by simp only [VRel]⟩
    cases hg
end Go.Proofs.YtboeidgbbanecaaGreatDoor
