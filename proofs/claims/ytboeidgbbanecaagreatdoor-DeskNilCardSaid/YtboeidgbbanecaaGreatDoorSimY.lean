/- Operations, third part: structs and rows that are built; slices; what grows. -/
import Derived.Test.YtboeidgbbanecaaGreatDoorSimX
namespace Go.Sim
open Go.RowKit

section
variable {P : Program} {G : Gl} {B : Nat} {φ : Phi} {h : H} {w : World} {t : List V} {a : Act} {o : Oper} {op : AOp} {res : OR}

def layG (l : List Value) (o : Nat) (xs : List Value) : List Value := l.take o ++ xs ++ l.drop (o + xs.length)

theorem lay_rel {l : List V} {vs : List Value} (hl : VRelL φ l vs) {xs : List V} {us : List Value} (hx : VRelL φ xs us) (o : Nat) : VRelL φ (lay l o xs) (layG vs o us) := by
  unfold lay layG
  rw [hx.length]
  exact ((hl.take o).append hx).append (hl.drop _)

theorem set_last : ∀ (xs : List Value) (x u : Value) (n : Nat), xs.length = n → (xs ++ [x]).set n u = xs ++ [u]
  | [], x, u, n, h => by simp at h; subst h; rfl
  | y :: xs, x, u, n, h => by
    cases n with
    | zero => simp at h
    | succ n => simp only [List.cons_append, List.set_cons_succ]; rw [set_last xs x u n (by simpa using h)]

theorem foldl_set : ∀ (us : List Value) (k off : Nat) (cs : Array Value), off + k + us.length ≤ cs.size →
    ((us.zipIdx k).foldl (fun (cs : Array Value) (p : Value × Nat) => cs.setIfInBounds (off + p.2) p.1) cs).toList = layG cs.toList (off + k) us
  | [], k, off, cs, _ => by simp [layG]
  | u :: us, k, off, cs, hl => by
    simp only [List.length_cons] at hl
    rw [List.zipIdx_cons, List.foldl_cons, foldl_set us (k + 1) off _ (by simp; omega)]
    unfold layG
    simp only [Array.toList_setIfInBounds, List.length_cons]
    have hlen : off + k < cs.toList.length := by simp; omega
    rw [List.take_set, List.drop_set_of_lt (by omega)]
    rw [show off + (k + 1) = (off + k) + 1 from by omega, List.take_add_one, List.getElem?_eq_getElem hlen]
    simp only [Option.toList_some]
    have e : ((cs.toList.take (off + k)) ++ [cs.toList[off + k]]).set (off + k) u = cs.toList.take (off + k) ++ [u] :=
      set_last _ _ _ _ (by rw [List.length_take]; omega)
    rw [e, show off + k + 1 + us.length = off + k + (us.length + 1) from by omega]
    simp

theorem fill_rel {place : Nat → Option (Nat × Nat)} : ∀ {ps : List (Nat × Value)} {qs : List (Nat × Nat × V)} {cs : List V} {as' : Array Value} {out : List V}, VRelL φ cs as'.toList →
    ps.length = qs.length → (∀ (i : Nat) (p : Nat × Value), ps[i]? = some p → ∃ q : Nat × Nat × V, qs[i]? = some q ∧ place p.1 = some (q.1, q.2.1) ∧ VRel φ q.2.2 p.2) → fillL cs qs = some out →
    ∃ r, Instr.fill place as' ps = some r ∧ VRelL φ out r.toList
  | [], qs, cs, as', out, hl, hlen, _, hf => by
    cases qs with
    | nil => simp only [fillL, Option.some.injEq] at hf; subst hf; exact ⟨as', rfl, hl⟩
    | cons => simp at hlen
  | (i, v) :: ps, qs, cs, as', out, hl, hlen, hp, hf => by
    cases qs with
    | nil => simp at hlen
    | cons q qs =>
      obtain ⟨off, n, x⟩ := q
      obtain ⟨q, hq, hpl, hv⟩ := hp 0 (i, v) (by simp)
      simp at hq
      subst hq
      simp only at hpl hv
      simp only [fillL, Bool.cond_eq_ite, Bool.and_eq_true, Nat.beq_eq, Nat.ble_eq, forceL_eq] at hf
      split at hf
      · rename_i hcond
        have hc := hv.cells
        have hcl := hc.length
        have hll := hl.length
        simp only [Array.length_toList] at hcl hll
        have hfold : (v.cells.zipIdx.foldl (fun (cs : Array Value) (p : Value × Nat) => cs.setIfInBounds (off + p.2) p.1) as').toList = layG as'.toList off v.cells.toList := by
          have := foldl_set v.cells.toList 0 off as' (by simp; omega)
          rw [Nat.add_zero] at this
          rw [← this, ← Array.foldl_toList, Array.toList_zipIdx]
        obtain ⟨r, hr, hrel⟩ := fill_rel (place := place) (ps := ps) (qs := qs) (cs := lay cs off x.cells) (as' := v.cells.zipIdx.foldl (fun (cs : Array Value) (p : Value × Nat) => cs.setIfInBounds (off + p.2) p.1) as')
          (by rw [hfold]; exact lay_rel hl hc off) (by simpa using hlen) (fun j p hj => by
            obtain ⟨q, hq, h2⟩ := hp (j + 1) p (by simpa using hj)
            exact ⟨q, by simpa using hq, h2⟩) hf
        refine ⟨r, ?_, hrel⟩
        unfold Instr.fill
        rw [hpl]
        simp only
        rw [if_neg (by simp; omega)]
        exact hr
      · cases hf

theorem reps_length (z : List V) : ∀ n, (reps z n).length = n * z.length
  | 0 => by simp [reps]
  | n + 1 => by simp [reps, reps_length z n, Nat.succ_mul, Nat.add_comm]

theorem reps_get (z : List V) (hz : 0 < z.length) : ∀ (n i : Nat), i < n * z.length → (reps z n)[i]? = z[i % z.length]?
  | 0, i, h => by simp at h
  | n + 1, i, h => by
    simp only [reps]
    by_cases hi : i < z.length
    · rw [List.getElem?_append_left hi, Nat.mod_eq_of_lt hi]
    · rw [List.getElem?_append_right (by omega), reps_get z hz n (i - z.length) (by rw [Nat.succ_mul] at h; omega)]
      congr 1
      rw [Nat.mod_eq_sub_mod (a := i) (by omega)]

theorem reps_one {z : List V} (h : allOne z = true) : ∀ n, allOne (reps z n) = true
  | 0 => rfl
  | n + 1 => by
    have := reps_one h n
    unfold allOne at *
    simp [reps, List.all_append, h, this]

theorem zeros_rel {z : List V} {zs : Array Value} (hz : VRelL φ z zs.toList) (hpos : 0 < z.length) (n : Nat) :
    VRelL φ (reps z n) ((Array.range (n * zs.size)).map (zs[· % zs.size]!)).toList := by
  have hl := hz.length
  simp only [Array.length_toList] at hl
  refine VRelL.of (by simp [reps_length, hl]) fun i x hx => ?_
  have hi : i < n * z.length := by
    rcases Nat.lt_or_ge i (n * z.length) with h' | h'
    · exact h'
    · rw [List.getElem?_eq_none (by rw [reps_length]; exact h')] at hx; cases hx
  rw [reps_get z hpos n i hi] at hx
  obtain ⟨v, hv, hr⟩ := hz.get hx
  refine ⟨v, ?_, hr⟩
  rw [hl] at hv hi
  have hm : i % zs.size < zs.size := Nat.mod_lt _ (by omega)
  rw [Array.getElem?_toList, Array.getElem?_eq_getElem hm] at hv
  cases hv
  rw [Array.getElem?_toList]
  simp [hi, hm]

theorem cParts_spec {place : Nat → Option (Nat × Nat)} : ∀ {ps : List (Nat × Operand)} {qs : List (Nat × Nat × O)}, cParts place ps = some qs →
    ps.length = qs.length ∧ ∀ (i : Nat) (p : Nat × Operand), ps[i]? = some p → ∃ q : Nat × Nat × O, qs[i]? = some q ∧ place p.1 = some (q.1, q.2.1) ∧ cO p.2 = some q.2.2
  | [], qs, h => by simp only [cParts, Option.some.injEq] at h; subst h; simp
  | (i, x) :: ps, qs, h => by
    simp only [cParts] at h
    split at h
    · rename_i o n y ys h1 h2 h3
      cases h
      obtain ⟨hl, hp⟩ := cParts_spec h3
      refine ⟨by simp [hl], fun j p hj => ?_⟩
      cases j with
      | zero => simp at hj; subst hj; exact ⟨(o, n, y), by simp, h1, h2⟩
      | succ j => simp at hj; simpa using hp j p hj
    · cases h

theorem parts_rel (ht : VRelL φ t a.tmps.toList) {place : Nat → Option (Nat × Nat)} {ps : Array (Nat × Operand)} {qs : List (Nat × Nat × O)} (hc : cParts place ps.toList = some qs) :
    (ps.map fun (i, x) => (i, a.eval x)).toList.length = (qs.map fun (o, n, x) => (o, n, opd t x)).length ∧
    ∀ (i : Nat) (p : Nat × Value), (ps.map fun (i, x) => (i, a.eval x)).toList[i]? = some p → ∃ q : Nat × Nat × V, (qs.map fun (o, n, x) => (o, n, opd t x))[i]? = some q ∧ place p.1 = some (q.1, q.2.1) ∧ VRel φ q.2.2 p.2 := by
  obtain ⟨hl, hp⟩ := cParts_spec hc
  refine ⟨by simpa using hl, fun i p hi => ?_⟩
  rw [Array.toList_map, List.getElem?_map, Option.map_eq_some_iff] at hi
  obtain ⟨p0, hp0, rfl⟩ := hi
  obtain ⟨q, hq, h1, h2⟩ := hp i p0 hp0
  exact ⟨(q.1, q.2.1, opd t q.2.2), by rw [List.getElem?_map, hq]; rfl, h1, eval_rel ht h2⟩

theorem fieldPlaces {fs : Array Field} (hall : (fs.all fun f => (P.info? f.type).isSome) = true) :
    (fs.mapM fun f => do pure (f.offset, ← sizeOf f.type) : Sem (Array (Nat × Nat))).run P w = .ok (fs.map fun f => (f.offset, P.cellsOf f.type)) w := by
  have : ∀ (l : List Field), (∀ f ∈ l, (P.info? f.type).isSome = true) → (l.mapM fun f => do pure (f.offset, ← sizeOf f.type) : Sem (List (Nat × Nat))).run P w = .ok (l.map fun f => (f.offset, P.cellsOf f.type)) w := by
    intro l
    induction l with
    | nil => intro _; simp
    | cons f l ih =>
      intro hl
      obtain ⟨i, hi⟩ := Option.isSome_iff_exists.1 (hl f (by simp))
      rw [List.mapM_cons]
      simp only [Sem.run_bind, sizeOf, typeInfo, run_program, Result.andThen_ok, hi, Sem.run_pure]
      have := ih (fun g hg => hl g (by simp [hg]))
      simp only [sizeOf, typeInfo] at this
      rw [this]
      simp [Program.cellsOf, hi]
  rw [Array.mapM_eq_mapM_toList]
  rw [Array.all_eq_true'] at hall
  rw [Sem.run_map, this fs.toList (fun f hf => hall f (by simpa using hf))]
  simp only [Result.andThen_ok]
  congr 1
  rw [← Array.toList_inj]
  simp

theorem good_build (r : Rel G B φ h w) (ht : VRelL φ t a.tmps.toList) {ty : TypeId} {ps : Array (Nat × Operand)} (ho : o.op = .build ty ps)
    (hc : cOp P (.build ty ps) = some op) (hr : runOp G (opd t) h op = some res) : Good P G B φ h w (execOp a.eval o) res := by
  simp only [cOp, bind, Option.bind_eq_some_iff] at hc
  obtain ⟨z, hz, hc⟩ := hc
  obtain ⟨zv, hzrun, hzv, _⟩ := run_zero_of (P := P) (w := w) hz
  have hzc := (toV_rel φ hzv).cells
  split at hc
  · rename_i fs hu
    split at hc
    · rename_i hall
      rw [Option.bind_eq_some_iff] at hc
      obtain ⟨qs, hqs, hc⟩ := hc
      cases hc
      simp only [runOp, opBuild, Option.map_eq_some_iff] at hr
      obtain ⟨cs, hcs, rfl⟩ := hr
      obtain ⟨p1, p2⟩ := parts_rel ht hqs
      obtain ⟨out, hout, hrel⟩ := fill_rel (place := fun i => (fs.map fun f => (f.offset, P.cellsOf f.type))[i]?) hzc p1 (fun i p hi => by
        obtain ⟨q, hq, h1, h2⟩ := p2 i p hi
        refine ⟨q, hq, ?_, h2⟩
        rw [← h1]
        simp only [Array.getElem?_map]
        cases hf : fs[p.1]? with
        | none => rfl
        | some f =>
          simp only [Option.map_some]
          rw [Array.all_eq_true'] at hall
          obtain ⟨i, hi⟩ := Option.isSome_iff_exists.1 (hall f (Array.mem_of_getElem? hf))
          simp [sizeT, hi, Program.cellsOf]) hcs
      refine Good.val r (v := .agg out) ?_ (by simp only [VRel]; exact ⟨out.toList, rfl, hrel⟩)
      simp only [execOp, ho, Instr.build, Sem.run_bind, hzrun, Result.andThen_ok, run_underlying hu, fieldPlaces hall, hout]
      simp
    · cases hc
  · rename_i len e hu
    simp only [Option.bind_eq_some_iff] at hc
    obtain ⟨n, hn, qs, hqs, hc⟩ := hc
    cases hc
    simp only [runOp, opBuild, Option.map_eq_some_iff] at hr
    obtain ⟨cs, hcs, rfl⟩ := hr
    obtain ⟨p1, p2⟩ := parts_rel ht hqs
    obtain ⟨out, hout, hrel⟩ := fill_rel (place := fun i => some (i * n, n)) hzc p1 p2 hcs
    refine Good.val r (v := .agg out) ?_ (by simp only [VRel]; exact ⟨out.toList, rfl, hrel⟩)
    simp only [execOp, ho, Instr.build, Sem.run_bind, hzrun, Result.andThen_ok, run_underlying hu, run_sizeOf_of hn, hout]
    simp
  · cases hc

end
end Go.Sim
