/- errors.As at a pointer to a pointer variable, as a function of the abstract machine. -/
import Derived.Test.YtboeidgbbanecaaGreatDoorSimN
namespace Go.Sim
open Go.RowKit

/-- errors.As: of no error: false; of an error of the type that the target points to: it is stored there, true. -/
noncomputable def natAs (p pp : Nat) (args : List V) (h : H) : Option (Out × H) := match args with
  | [.nilif, _] => some (.ret (.b false), h)
  | [.ifc t (.ptr b o), .ifc u (.ptr c oc)] => bif Nat.beq t p && Nat.beq u pp then (storeAt h c oc [.ptr b o]).map fun h' => (.ret (.b true), h') else none
  | _ => none

section
variable {P : Program} {G : Gl} {B : Nat} {φ : Phi} {h : H} {w : World}

theorem Rel.push (r : Rel G B φ h w) (o : Obj) : Rel G B φ h (w.alloc o) := by
  have hsame : ∀ j, j < w.heap.size → (w.alloc o).heap[j]? = w.heap[j]? := by
    intro j hj
    show (w.heap.push o)[j]? = _
    rw [Array.getElem?_push, if_neg (by omega)]
  have hsz : (w.alloc o).heap.size = w.heap.size + 1 := Array.size_push _
  refine ⟨?_, r.gl, fun g l hg i x hi => ?_, fun b a e => ?_, r.nxt, fun b k a e ha => ?_, r.base, r.disj, r.fams⟩
  · rw [hsz]; have := r.bsz; omega
  · obtain ⟨v, hv, hr⟩ := r.glob g l hg i x hi
    refine ⟨v, ?_, hr⟩
    have h1 := r.gl g l hg
    have h2 := r.bsz
    unfold World.cell? at *
    rw [hsame g (by omega)]
    exact hv
  · obtain ⟨h1, h2⟩ := r.dom b a e
    exact ⟨h1, by rw [hsz]; omega⟩
  · exact (r.blk b k a e ha).same (hsame _ (r.dom b a ha).2)

theorem Below.push' {w : World} (o : Obj) (hB : B ≤ w.heap.size) : Below B w (w.alloc o) := Below.push o hB

/-- A function with a body is entered. -/
theorem run_enter {f : Nat} {fn : Func} (hf : P.funcs[f]? = some fn) (hb : fn.body.isNone = false) (hn : (fn.name == "runtime.NumGoroutine") = false) (vs : Array Value) (w : World) : (callFunc f vs).run P w = .ok (.enter f vs) w := by
  have hn' : ¬ fn.name = "runtime.NumGoroutine" := by simpa using hn
  have hb' : fn.body ≠ none := fun e => by rw [e] at hb; cases hb
  simp [callFunc, run_program, hf, hb', hn']

/-- What is known of errors.As by Go's own text. -/
structure AsKnown (P : Program) (f p pp g0 : Nat) (gv : Value) : Prop where
  enter : ∀ (vs : Array Value) (w : World), (callFunc f vs).run P w = .ok (.enter f vs) w
  nil : ∀ (t : Value) (w : World), Calls P f #[.nilIface, t] w fun e w' => e = .returned (.bool false) ∧ w' = w
  hit : ∀ (e t : Addr) (old : Value) (w : World), w.cell? ⟨g0, 0, none⟩ = some gv → w.cell? t = some old → w.frozen? t = false →
    Calls P f #[.iface p (.pointer (some e)), .iface pp (.pointer (some t))] w fun ev w' => ev = .returned (.bool true) ∧ ∃ o1 o2 o3 o4, w' = ((((w.alloc o1).alloc o2).alloc o3).alloc o4).setCell t (.pointer (some e))

theorem natAs_ok {f p pp g0 : Nat} {gv : Value} {gx : V} (hk : AsKnown P f p pp g0 gv) (hG : G g0 = some [gx]) (hgx : ∀ v, VRel (fun _ => none) gx v → v = gv) : Nat1 P G B f (natAs p pp) := by
  refine ⟨fun args h out h' hr φ w vs r hv => ?_⟩
  rw [hk.enter]
  unfold natAs at hr
  split at hr
  · cases hr
    simp only [VRelL, VRel] at hv
    obtain ⟨v, vs', rfl, rfl, v2, vs2, rfl, _, rfl⟩ := hv
    refine Calls.mono (hk.nil v2 w) fun e w' ⟨he, hw⟩ => ?_
    subst he
    subst hw
    exact ⟨φ, Ext.refl φ, r, Below.refl B _, _, rfl, by simp only [VRel]⟩
  · rename_i t b o u c oc
    rw [Bool.cond_eq_ite] at hr
    split at hr
    rotate_left
    · cases hr
    rename_i hcond
    rw [Bool.and_eq_true, Nat.beq_eq, Nat.beq_eq] at hcond
    obtain ⟨rfl, rfl⟩ := hcond
    rw [Option.map_eq_some_iff] at hr
    obtain ⟨h2, hst, he⟩ := hr
    simp only [Prod.mk.injEq] at he
    obtain ⟨rfl, rfl⟩ := he
    simp only [VRelL, VRel] at hv
    obtain ⟨v, vs', rfl, ⟨y, rfl, qa, hqa, rfl⟩, v2, vs2, rfl, ⟨y2, rfl, qc, hqc, rfl⟩, rfl⟩ := hv
    obtain ⟨gval, hgv, hgr⟩ := r.glob g0 _ hG 0 gx rfl
    have hgvv := hgx gval hgr
    subst hgvv
    -- the target's cell
    have hcell : ∃ old, w.cell? ⟨qc.b, qc.o + oc, none⟩ = some old ∧ w.frozen? ⟨qc.b, qc.o + oc, none⟩ = false := by
      unfold storeAt at hst
      split at hst
      · rename_i ty fam l hb
        simp only [Bool.cond_eq_ite, Bool.and_eq_true, Nat.ble_eq] at hst
        split at hst
        · rename_i hcond
          obtain ⟨cs, lo, hi, h1, h2, h3, h4, h5, h6⟩ := r.blk c _ qc hb hqc
          simp only [List.length_cons, List.length_nil] at hcond
          have hlt : oc < l.length := by omega
          obtain ⟨v, hv, _⟩ := h5 oc l[oc] (List.getElem?_eq_getElem hlt)
          refine ⟨v, ?_, ?_⟩
          · unfold World.cell?
            rw [h1]
            simpa using hv
          · unfold World.frozen?
            rw [h1]
            have := h6 rfl (qc.o + oc) (by omega) (by omega)
            simp only
            by_cases hh : lo ≤ qc.o + oc
            · simp [hh]; omega
            · simp [hh]
        · cases hst
      · cases hst
    obtain ⟨old, ho1, ho2⟩ := hcell
    refine Calls.mono (hk.hit ⟨qa.b, qa.o + o, none⟩ ⟨qc.b, qc.o + oc, none⟩ old w hgv ho1 ho2) fun e w' ⟨he, o1, o2, o3, o4, hw⟩ => ?_
    subst he
    have r4 := (((r.push o1).push o2).push o3).push o4
    have hB := r.bsz
    have b4 : Below B w ((((w.alloc o1).alloc o2).alloc o3).alloc o4) :=
      (((Below.push' o1 hB).trans (Below.push' o2 (r.push o1).bsz)).trans (Below.push' o3 ((r.push o1).push o2).bsz)).trans (Below.push' o4 (((r.push o1).push o2).push o3).bsz)
    obtain ⟨w5, e1, e2, e3⟩ := storeAt_rel (P := P) r4 hst hqc (vs := [.pointer (some ⟨qa.b, qa.o + o, none⟩)]) (by simp only [VRelL, VRel]; exact ⟨_, _, rfl, ⟨qa, hqa, rfl⟩, rfl⟩)
    have hc4 : ((((w.alloc o1).alloc o2).alloc o3).alloc o4).heap[qc.b]? = w.heap[qc.b]? := by
      have hl := (r.dom c qc hqc).2
      have key : ∀ (w : World) (o : Obj), qc.b < w.heap.size → (w.alloc o).heap[qc.b]? = w.heap[qc.b]? ∧ qc.b < (w.alloc o).heap.size := fun w o hl => by
        refine ⟨?_, by rw [show (w.alloc o).heap.size = w.heap.size + 1 from Array.size_push _]; omega⟩
        show (w.heap.push o)[qc.b]? = _
        rw [Array.getElem?_push, if_neg (by omega)]
      obtain ⟨k1, l1⟩ := key w o1 hl
      obtain ⟨k2, l2⟩ := key _ o2 l1
      obtain ⟨k3, l3⟩ := key _ o3 l2
      obtain ⟨k4, _⟩ := key _ o4 l3
      rw [k4, k3, k2, k1]
    have hw5 : w5 = ((((w.alloc o1).alloc o2).alloc o3).alloc o4).setCell ⟨qc.b, qc.o + oc, none⟩ (.pointer (some ⟨qa.b, qa.o + o, none⟩)) := by
      rw [storeCells, addr_add _ _ rfl, Sem.run_bind, run_store _ _ _ _ _ rfl] at e1
      have c1 : ((((w.alloc o1).alloc o2).alloc o3).alloc o4).cell? ⟨qc.b, qc.o + oc + 0, none⟩ = some old := by
        rw [Nat.add_zero]
        unfold World.cell? at ho1 ⊢
        rw [hc4]
        exact ho1
      have c2 : ((((w.alloc o1).alloc o2).alloc o3).alloc o4).frozen? ⟨qc.b, qc.o + oc + 0, none⟩ = false := by
        rw [Nat.add_zero]
        unfold World.frozen? at ho2 ⊢
        rw [hc4]
        exact ho2
      rw [c1] at e1
      simp only [c2, Bool.false_eq_true, if_false, Result.andThen_ok] at e1
      have e1' : (Result.ok () (((((w.alloc o1).alloc o2).alloc o3).alloc o4).setCell ⟨qc.b, qc.o + oc + 0, none⟩ (.pointer (some ⟨qa.b, qa.o + o, none⟩))) : Result Unit) = .ok () w5 := by
        rw [← e1]
        simp [storeCells]
      injection e1' with _ e5
      rw [← e5, Nat.add_zero]
    rw [hw, ← hw5]
    exact ⟨φ, Ext.refl φ, e2, b4.trans e3, _, rfl, by simp only [VRel]⟩
  · cases hr

end
end Go.Sim
