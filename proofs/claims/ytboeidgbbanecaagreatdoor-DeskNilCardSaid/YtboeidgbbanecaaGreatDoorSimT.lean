/- Each operation of the abstract machine is what the model's operation does: values, memory read, memory made, memory written. -/
import Derived.Test.YtboeidgbbanecaaGreatDoorSimS
import Derived.Laws.StructEq
import Derived.Laws.Append
namespace Go.Sim
open Go.RowKit

/-- What an operation comes to, on both sides. -/
def Good (P : Program) (G : Gl) (B : Nat) (φ : Phi) (h : H) (w : World) (s : Sem Next) (r : OR) : Prop :=
  match r with
  | .v x h' => ∃ v w' φ', s.run P w = .ok (.value v) w' ∧ ExtN h.next φ φ' ∧ Rel G B φ' h' w' ∧ VRel φ' x v ∧ Below B w w'
  | .u h' => ∃ w' φ', s.run P w = .ok .skip w' ∧ ExtN h.next φ φ' ∧ Rel G B φ' h' w' ∧ Below B w w'
  | .p x h' => h' = h ∧ ∃ v, s.run P w = .halt (.panic v) w ∧ VRel φ x v
  | .c f args => ∃ vs, VRelL φ args vs ∧ s.run P w = (callFunc f ⟨vs⟩).run P w
  | .d f args => ∃ vs cs, VRelL φ args (vs ++ cs) ∧ s.run P w = .ok (.defer { target := .fn (.func f) ⟨cs⟩, args := ⟨vs⟩ }) w

section
variable {P : Program} {G : Gl} {B : Nat} {φ : Phi} {h : H} {w : World}

/-- An operation that gives a value and leaves all else alone. -/
theorem Good.val {s : Sem Next} {x : V} {v : Value} (r : Rel G B φ h w) (hs : s.run P w = .ok (.value v) w) (hv : VRel φ x v) : Good P G B φ h w s (.v x h) :=
  ⟨v, w, φ, hs, ExtN.refl _ φ, r, hv, Below.refl B w⟩

mutual
theorem toV_rel (φ : Phi) : ∀ {v : Value} {x : V}, toV v = some x → VRel φ x v
  | .bool _, _, h => by simp only [toV] at h; cases h; simp [VRel]
  | .int _ _, _, h => by simp only [toV] at h; cases h; simp [VRel]
  | .string s, _, h => by simp only [toV] at h; cases h; simp [VRel, natsOf]
  | .pointer none, _, h => by simp only [toV] at h; cases h; simp [VRel]
  | .slice none 0 0, _, h => by simp only [toV] at h; cases h; simp [VRel]
  | .map none, _, h => by simp only [toV] at h; cases h; simp [VRel]
  | .func (.func f) ⟨[]⟩ ⟨[]⟩, _, h => by simp only [toV] at h; cases h; simp only [VRel]; exact ⟨[], rfl, rfl⟩
  | .nilFunc, _, h => by simp only [toV] at h; cases h; simp [VRel]
  | .nilIface, _, h => by simp only [toV] at h; cases h; simp [VRel]
  | .agg ⟨cs⟩, _, h => by
    simp only [toV, Option.map_eq_some_iff] at h
    obtain ⟨l, hl, rfl⟩ := h
    simp only [VRel]
    exact ⟨cs, rfl, toVL_rel φ hl⟩
  | .tuple ⟨cs⟩, _, h => by
    simp only [toV, Option.map_eq_some_iff] at h
    obtain ⟨l, hl, rfl⟩ := h
    simp only [VRel]
    exact ⟨cs, rfl, toVL_rel φ hl⟩
  | .float .., _, h => by simp [toV] at h
  | .complex .., _, h => by simp [toV] at h
  | .pointer (some _), _, h => by simp [toV] at h
  | .slice (some _) _ _, _, h => by simp [toV] at h
  | .slice none (_ + 1) _, _, h => by simp [toV] at h
  | .slice none 0 (_ + 1), _, h => by simp [toV] at h
  | .map (some _), _, h => by simp [toV] at h
  | .chan _, _, h => by simp [toV] at h
  | .func (.func _) ⟨_ :: _⟩ _, _, h => by simp [toV] at h
  | .func (.func _) ⟨[]⟩ ⟨_ :: _⟩, _, h => by simp [toV] at h
  | .func (.method _) _ _, _, h => by simp [toV] at h
  | .func (.methodOf _ _) _ _, _, h => by simp [toV] at h
  | .func (.via _ _ _ _) _ _, _, h => by simp [toV] at h
  | .func (.yield _) _ _, _, h => by simp [toV] at h
  | .iface _ _, _, h => by simp [toV] at h
theorem toVL_rel (φ : Phi) : ∀ {vs : List Value} {xs : List V}, toVL vs = some xs → VRelL φ xs vs
  | [], _, h => by simp only [toVL] at h; cases h; simp [VRelL]
  | v :: vs, _, h => by
    simp only [toVL] at h
    split at h
    · rename_i y ys h1 h2
      cases h
      simp only [VRelL]
      exact ⟨v, vs, rfl, toV_rel φ h1, toVL_rel φ h2⟩
    · cases h
end

theorem toV_int {v : Value} {k : IntKind} {n : Int} (h : toV v = some (.i k n)) : v = .int k n := by
  have := toV_rel (fun _ => none) h
  simpa only [VRel] using this

theorem eval_rel {t : List V} {a : Act} (ht : VRelL φ t a.tmps.toList) {o : Operand} {x : O} (hc : cO o = some x) : VRel φ (opd t x) (a.eval o) := by
  cases o with
  | tmp n =>
    simp only [cO] at hc; cases hc
    simp only [opd, Act.eval, getV_eq]
    have hl := ht.length
    rcases Nat.lt_or_ge n t.length with hn | hn
    · obtain ⟨v, hv, hr⟩ := ht.get (i := n) (x := t[n]) (by simp [hn])
      rw [List.getElem?_eq_getElem hn, Option.getD_some]
      rw [Array.getElem?_toList] at hv
      rw [Array.getD_eq_getD_getElem?, hv]
      exact hr
    · rw [List.getElem?_eq_none hn]
      rw [Array.getD_eq_getD_getElem?, Array.getElem?_eq_none (by have : t.length = a.tmps.size := (by simpa using hl); omega)]
      simp only [Option.getD_none, undef, VRel, VRelL]
      exact ⟨[], rfl, rfl⟩
  | const v =>
    simp only [cO, Option.map_eq_some_iff] at hc
    obtain ⟨y, hy, rfl⟩ := hc
    exact toV_rel φ hy
  | «global» g =>
    simp only [cO] at hc; cases hc
    simp [opd, Act.eval, VRel]
  | func f =>
    simp only [cO] at hc; cases hc
    simp only [opd, Act.eval, VRel, VRelL]
    exact ⟨[], rfl, rfl⟩

theorem evals_rel {t : List V} {a : Act} (ht : VRelL φ t a.tmps.toList) : ∀ {os : List Operand} {xs : List O}, cOs os = some xs → VRelL φ (xs.map (opd t)) (os.map a.eval)
  | [], _, hc => by simp only [cOs] at hc; cases hc; simp [VRelL]
  | o :: os, _, hc => by
    simp only [cOs] at hc
    split at hc
    · rename_i y ys h1 h2
      cases hc
      simp only [List.map_cons, VRelL]
      exact ⟨_, _, rfl, eval_rel ht h1, evals_rel ht h2⟩
    · cases hc

/-! Memory read. -/

theorem rowOf_rel (r : Rel G B φ h w) {b o n : Nat} {l : List V} {a : RA} (hr : rowOf h b o n = some l) (ha : φ b = some a) :
    l.length = n ∧ ∃ vs : List Value, vs.length = n ∧ VRelL φ l vs ∧ (∀ x ∈ l, x.one = true) ∧ (∀ j v, vs[j]? = some v → w.cell? ⟨a.b, a.o + o + j, none⟩ = some v) ∧
      ∃ ty wr fam cs, h.get b = some (.cells ty wr fam cs) ∧ o + n ≤ cs.length := by
  unfold rowOf at hr
  split at hr
  · rename_i ty wr fam cs hb
    simp only [Bool.cond_eq_ite, Nat.ble_eq, forceL_eq] at hr
    split at hr
    · rename_i hlen
      cases hr
      have hk := r.blk b _ a hb ha
      obtain ⟨c, lo, hi, h1, h2, h3, h4, h5, h6⟩ := hk
      have hcs : a.o + cs.length ≤ c.size := by omega
      refine ⟨by simp; omega, (c.toList.drop (a.o + o)).take n, by simp; omega, ?_, ?_, ?_, ty, wr, fam, cs, hb, hlen⟩
      · refine VRelL.of (by simp; omega) fun i x hx => ?_
        rw [List.getElem?_take] at hx ⊢
        split at hx
        · rename_i hi'
          rw [if_pos hi']
          rw [List.getElem?_drop] at hx ⊢
          obtain ⟨v, hv, hr, _⟩ := h5 _ _ hx
          refine ⟨v, ?_, hr⟩
          rw [Array.getElem?_toList, Nat.add_assoc]
          exact hv
        · cases hx
      · intro x hx
        have hx' : x ∈ cs := List.mem_of_mem_drop (List.mem_of_mem_take hx)
        obtain ⟨i, hi', he⟩ := List.getElem_of_mem hx'
        obtain ⟨_, _, _, h1'⟩ := h5 i x (by rw [List.getElem?_eq_getElem hi', he])
        exact h1'
      · intro j v hj
        rw [List.getElem?_take] at hj
        split at hj
        · rw [List.getElem?_drop, Array.getElem?_toList] at hj
          unfold World.cell?
          rw [h1]
          simpa using hj
        · cases hj
    · cases hr
  · cases hr

theorem run_loadCells_at (a : Addr) (hs : a.spot = none) (vs : List Value) (hv : ∀ j v, vs[j]? = some v → w.cell? ⟨a.block, a.off + j, none⟩ = some v) :
    (loadCells a vs.length).run P w = .ok ⟨vs⟩ w := by
  have := run_loadCells_list (P := P) (w := w) a vs (fun j v hj => by rw [addr_add _ _ hs]; exact hv j v hj)
  simpa using this

/-- A load through what an abstract address stands for. -/
theorem loadAt_rel (r : Rel G B φ h w) {n : Nat} {x : V} {v : Value} {l : List V} (hx : VRel φ x v) (hl : loadAt G h n x = some l) :
    ∃ (a : Addr) (vs : List Value), v = .pointer (some a) ∧ a.spot = none ∧ vs.length = n ∧ VRelL φ l vs ∧ (∀ j u, vs[j]? = some u → w.cell? ⟨a.block, a.off + j, none⟩ = some u) := by
  unfold loadAt at hl
  split at hl
  · rename_i b o
    simp only [VRel] at hx
    obtain ⟨a, ha, rfl⟩ := hx
    obtain ⟨_, vs, h1, h2, _, h3, _⟩ := rowOf_rel r hl ha
    exact ⟨_, vs, rfl, rfl, h1, h2, h3⟩
  · rename_i g o
    simp only [VRel] at hx
    subst hx
    split at hl
    · rename_i cs hg
      simp only [Bool.cond_eq_ite, Nat.ble_eq, forceL_eq] at hl
      split at hl
      · rename_i hlen
        cases hl
        have hcell : ∀ i, i < cs.length → ∃ v, w.cell? ⟨g, i, none⟩ = some v ∧ ∀ x, cs[i]? = some x → VRel (fun _ => none) x v := by
          intro i hi
          obtain ⟨v, hv, hr⟩ := r.glob g cs hg i cs[i] (by simp [hi])
          exact ⟨v, hv, fun x hx => by rw [List.getElem?_eq_getElem hi] at hx; cases hx; exact hr⟩
        refine ⟨⟨g, o, none⟩, (List.range n).map fun j => (w.cell? ⟨g, o + j, none⟩).getD undef, rfl, rfl, by simp, ?_, ?_⟩
        · refine VRelL.of (by simp; omega) fun i x hx => ?_
          rw [List.getElem?_take] at hx
          split at hx
          · rename_i hi'
            rw [List.getElem?_drop] at hx
            obtain ⟨v, hv, hr⟩ := hcell (o + i) (by omega)
            refine ⟨v, ?_, (hr x hx).mono (fun _ _ e => by cases e)⟩
            simp [hi', hv]
          · cases hx
        · intro j u hj
          have hjn : j < n := by
            rcases Nat.lt_or_ge j n with h' | h'
            · exact h'
            · rw [List.getElem?_eq_none (by simpa using h')] at hj; cases hj
          obtain ⟨v, hv, _⟩ := hcell (o + j) (by omega)
          simp [hjn, hv] at hj
          subst hj
          exact hv
      · cases hl
    · cases hl
  · cases hl

theorem run_isAgg_of {t : TypeId} {g : Bool} (hg : aggT P t = some g) : (isAgg t).run P w = .ok g w := by
  unfold aggT at hg
  unfold isAgg
  split at hg
  · rename_i hu
    cases hg
    simp [run_underlying hu]
  · rename_i hu
    cases hg
    simp [run_underlying hu]
  · rename_i d h1 h2 hu
    cases hg
    simp only [Sem.run_bind, run_underlying hu, Result.andThen_ok]
    cases d <;> first
      | rfl
      | exact (h1 _ rfl).elim
      | exact (h2 _ _ rfl).elim
  · cases hg

theorem run_sizeOf_of {t : TypeId} {n : Nat} (hn : sizeT P t = some n) : (sizeOf t).run P w = .ok n w := by
  unfold sizeT at hn
  rw [Option.map_eq_some_iff] at hn
  obtain ⟨i, hi, rfl⟩ := hn
  simp [sizeOf, typeInfo, hi]

theorem run_zero_of {t : TypeId} {x : V} (hz : zeroT P t = some x) : ∃ z, (zeroValue t).run P w = .ok z w ∧ toV z = some x ∧ ∃ i, P.info? t = some i ∧ i.zero = some z := by
  unfold zeroT at hz
  rw [Option.bind_eq_some_iff] at hz
  obtain ⟨z, hz, hx⟩ := hz
  rw [Option.bind_eq_some_iff] at hz
  obtain ⟨i, hi, hz⟩ := hz
  exact ⟨z, by simp [zeroValue, typeInfo, hi, hz], hx, i, hi, hz⟩

end
end Go.Sim
