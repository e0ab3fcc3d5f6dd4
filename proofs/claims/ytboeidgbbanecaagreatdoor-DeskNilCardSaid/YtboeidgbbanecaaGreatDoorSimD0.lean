/- Operations of the abstract machine: what they look at, and which of them leave memory alone. -/
import Derived.Test.YtboeidgbbanecaaGreatDoorSimE
namespace Go.Sim
open Go.RowKit

mutual
theorem eqV_eq : ∀ {x y : V}, eqV x y = true → x = y
  | .b _, y, h => by cases y <;> simp [eqV] at h <;> simp [h]
  | .i _ _, y, h => by cases y <;> simp [eqV] at h <;> simp [h]
  | .s _, y, h => by cases y <;> simp [eqV] at h <;> simp [h]
  | .nilp, y, h => by cases y <;> simp [eqV] at h; rfl
  | .nilsl, y, h => by cases y <;> simp [eqV] at h; rfl
  | .nilm, y, h => by cases y <;> simp [eqV] at h; rfl
  | .nilfn, y, h => by cases y <;> simp [eqV] at h; rfl
  | .nilif, y, h => by cases y <;> simp [eqV] at h; rfl
  | .ptr _ _, y, h => by cases y <;> simp [eqV] at h <;> simp [h]
  | .glob _ _, y, h => by cases y <;> simp [eqV] at h <;> simp [h]
  | .sl _ _ _ _ _, y, h => by cases y <;> simp [eqV] at h <;> simp [h]
  | .mp _, y, h => by cases y <;> simp [eqV] at h <;> simp [h]
  | .fn _ _, y, h => by cases y <;> simp [eqV] at h; exact h.1 ▸ eqVs_eq h.2 ▸ rfl
  | .ifc _ _, y, h => by cases y <;> simp [eqV] at h; exact h.1 ▸ eqV_eq h.2 ▸ rfl
  | .ag _, y, h => by cases y <;> simp [eqV] at h; exact eqVs_eq h ▸ rfl
  | .tup _, y, h => by cases y <;> simp [eqV] at h; exact eqVs_eq h ▸ rfl
  | .opq _, y, h => by cases y <;> simp [eqV] at h
theorem eqVs_eq : ∀ {xs ys : List V}, eqVs xs ys = true → xs = ys
  | [], ys, h => by cases ys <;> simp [eqVs] at h; rfl
  | x :: xs, ys, h => by
    cases ys with
    | nil => simp [eqVs] at h
    | cons y ys => simp [eqVs] at h; rw [eqV_eq h.1, eqVs_eq h.2]
end

section
variable {G : Nat → Option (List V)} {ρ ρ' : O → V} {h : H}

theorem omap_congr {x : Option O} (H : ∀ y ∈ x.toList, ρ y = ρ' y) : x.map ρ = x.map ρ' := by
  cases x with
  | none => rfl
  | some y => simp [H y (by simp)]

theorem runOp_congr (op : AOp) (H : ∀ x ∈ op.opds, ρ x = ρ' x) : runOp G ρ h op = runOp G ρ' h op := by
  cases op
  case build z ps =>
    have : (ps.map fun (o, n, x) => (o, n, ρ x)) = ps.map fun (o, n, x) => (o, n, ρ' x) := List.map_congr_left fun p hp => by
      have := H p.2.2 (List.mem_map.2 ⟨p, hp, rfl⟩)
      obtain ⟨o, n, x⟩ := p
      simp only at this ⊢
      rw [this]
    simp only [runOp, opBuild, this]
  case bslice ty z cs len ps =>
    have : (ps.map fun (i, x) => (i * z, z, ρ x)) = ps.map fun (i, x) => (i * z, z, ρ' x) := List.map_congr_left fun p hp => by
      have := H p.2 (List.mem_map.2 ⟨p, hp, rfl⟩)
      obtain ⟨i, x⟩ := p
      simp only at this ⊢
      rw [this]
    simp only [runOp, opBslice, this]
  case mkfn f caps =>
    have h2 : caps.map ρ = caps.map ρ' := List.map_congr_left fun y hy => H y hy
    simp only [runOp, h2]
  case callf f args =>
    have h2 : args.map ρ = args.map ρ' := List.map_congr_left fun y hy => H y hy
    simp only [runOp, h2]
  case callv x args =>
    have h1 := H x (by simp [AOp.opds])
    have h2 : args.map ρ = args.map ρ' := List.map_congr_left fun y hy => H y (by simp [AOp.opds, hy])
    simp only [runOp, opCallv, h1, h2]
  case defer x args =>
    have h1 := H x (by simp [AOp.opds])
    have h2 : args.map ρ = args.map ρ' := List.map_congr_left fun y hy => H y (by simp [AOp.opds, hy])
    simp only [runOp, opDefer, h1, h2]
  case slice z x lo hi mx =>
    have h1 := H x (by simp [AOp.opds])
    have h2 : lo.map ρ = lo.map ρ' := omap_congr fun y hy => H y (by simp only [AOp.opds, List.mem_cons, List.mem_append]; exact .inr (.inl (.inl hy)))
    have h3 : hi.map ρ = hi.map ρ' := omap_congr fun y hy => H y (by simp only [AOp.opds, List.mem_cons, List.mem_append]; exact .inr (.inl (.inr hy)))
    have h4 : ∀ m, mx = some m → ρ m = ρ' m := fun m e => H m (by simp [AOp.opds, e])
    have h5 : ∀ m, hi = some m → ρ m = ρ' m := fun m e => H m (by simp [AOp.opds, e])
    have h6 : ∀ m, lo = some m → ρ m = ρ' m := fun m e => H m (by simp [AOp.opds, e])
    simp only [runOp, opSlice, h1, h2, h3]
    cases mx <;> cases hi <;> cases lo <;> simp_all
  case sliceS x lo hi =>
    have h1 := H x (by simp [AOp.opds])
    have h2 : lo.map ρ = lo.map ρ' := omap_congr fun y hy => H y (by simp only [AOp.opds, List.mem_cons, List.mem_append]; exact .inr (.inl hy))
    have h3 : hi.map ρ = hi.map ρ' := omap_congr fun y hy => H y (by simp only [AOp.opds, List.mem_cons, List.mem_append]; exact .inr (.inr hy))
    simp only [runOp, opSliceS, h1, h2, h3]
  case sliceA len z x lo hi =>
    have h1 := H x (by simp [AOp.opds])
    have h2 : lo.map ρ = lo.map ρ' := omap_congr fun y hy => H y (by simp only [AOp.opds, List.mem_cons, List.mem_append]; exact .inr (.inl hy))
    have h3 : hi.map ρ = hi.map ρ' := omap_congr fun y hy => H y (by simp only [AOp.opds, List.mem_cons, List.mem_append]; exact .inr (.inr hy))
    simp only [runOp, opSliceA, h1, h2, h3]
  all_goals
    simp only [AOp.opds, List.mem_cons, List.not_mem_nil, or_false, forall_eq_or_imp, forall_eq] at H
    simp only [runOp, opPick, opBox, opLoad1, opLoadN, opStore, opNilchk, opUn, opConvI, opConvSS, opConvBS, opMkslice, opFaddr, opField, opIaddr, opIaddrA, opIndexA, opIndexS, opLookup, opMupd, opRange, opNext, opAssert,
      opExtract, opLen, opMm, opMdel, opCopy, opPanic, opConvSB, opCap, opSdata, opUstr, opConvUP, opConvPU, H]

theorem opd_congr {t t' : List V} (op : AOp) (H : ∀ s ∈ op.opds.flatMap O.slot, getV t s = getV t' s) : runOp G (opd t) h op = runOp G (opd t') h op := by
  refine runOp_congr op fun x hx => ?_
  cases x with
  | t n => exact H n (List.mem_flatMap.2 ⟨_, hx, by simp [O.slot]⟩)
  | _ => rfl

theorem looks_run {t t' : List V} (o : AOper) (H : ∀ s ∈ o.looks, getV t s = getV t' s) : runOp G (opd t) h o.op = runOp G (opd t') h o.op :=
  opd_congr o.op fun s hs => H s (List.mem_append_right _ hs)

theorem looks_wanted {t t' : List V} (o : AOper) (H : ∀ s ∈ o.looks, getV t s = getV t' s) : wantedA t o.g = wantedA t' o.g := by
  cases hg : o.g with
  | none => rfl
  | some p =>
    obtain ⟨s, b⟩ := p
    simp only [wantedA]
    rw [H s (by simp [AOper.looks, hg])]

/-- What needs no memory. -/
theorem pure_keep {op : AOp} (hc : op.cls = .pure) : ∃ f : Option V, ∀ h, runOp G ρ h op = f.map fun x => .v x h := by
  cases op <;> simp only [AOp.cls, reduceCtorEq] at hc
  case mov x => exact ⟨some (ρ x), fun _ => rfl⟩
  case pick c a b => simp only [runOp, opPick]; cases ρ c <;> first | exact ⟨none, fun _ => rfl⟩ | exact ⟨some _, fun _ => rfl⟩
  case build z ps => exact ⟨(fillL z (ps.map fun (o, n, x) => (o, n, ρ x))).map .ag, fun h => by simp [runOp, opBuild, Function.comp_def]⟩
  case nilchk x => simp only [runOp, opNilchk]; cases ρ x <;> first | exact ⟨none, fun _ => rfl⟩ | exact ⟨some _, fun _ => rfl⟩
  case bin op x y => exact ⟨bin op (ρ x) (ρ y), fun _ => rfl⟩
  case mm mx x y =>
    simp only [runOp, opMm]
    cases ρ x <;> cases ρ y <;> first
      | exact ⟨none, fun _ => rfl⟩
      | (rename_i k a k' b; dsimp only; cases eqK k k' <;> first | exact ⟨none, fun _ => rfl⟩ | exact ⟨some _, fun _ => rfl⟩)
  case eqv neg kd ks cst x y => exact ⟨(eqv kd ks cst (ρ x) (ρ y)).map fun b => .b (b != neg), fun h => by simp [runOp, Function.comp_def]⟩
  case un op x =>
    simp only [runOp, opUn]
    cases op <;> cases ρ x <;> first
      | exact ⟨none, fun _ => rfl⟩
      | exact ⟨some _, fun _ => rfl⟩
      | exact ⟨_, fun _ => rfl⟩
  case convI k x =>
    simp only [runOp, opConvI]
    cases ρ x <;> first | exact ⟨none, fun _ => rfl⟩ | exact ⟨_, fun _ => rfl⟩
  case convSS x => simp only [runOp, opConvSS]; cases ρ x <;> first | exact ⟨none, fun _ => rfl⟩ | exact ⟨some _, fun _ => rfl⟩
  case mkif t x => exact ⟨some (.ifc t (ρ x)), fun _ => by simp [runOp]⟩
  case mkfn f caps => exact ⟨some _, fun _ => rfl⟩
  case slice z x lo hi mx =>
    simp only [runOp, opSlice, mkSl_eq]
    cases ρ x
    case nilsl =>
      cases mx with
      | some m => exact ⟨none, fun _ => rfl⟩
      | none => cases bnds 0 0 (lo.map ρ) (hi.map ρ) <;> first | exact ⟨none, fun _ => rfl⟩ | exact ⟨some _, fun _ => rfl⟩
    case sl b o n z' ex =>
      cases hb : Nat.beq z' z
      · simp only [hb]; exact ⟨none, fun _ => rfl⟩
      simp only [hb, Bool.not_true, cond_false]
      cases mx with
      | none =>
        cases bnds n n (lo.map ρ) (hi.map ρ) with
        | none => exact ⟨none, fun _ => rfl⟩
        | some p => obtain ⟨l, hh⟩ := p; exact ⟨some _, fun _ => rfl⟩
      | some m =>
        cases hi with
        | none => exact ⟨none, fun _ => rfl⟩
        | some hx =>
          simp only
          cases bnd (ρ m) n with
          | none => exact ⟨none, fun _ => rfl⟩
          | some m =>
            simp only
            cases bnd (ρ hx) m with
            | none => exact ⟨none, fun _ => rfl⟩
            | some hh =>
              cases lo with
              | none => exact ⟨some _, fun _ => rfl⟩
              | some lx =>
                simp only
                cases bnd (ρ lx) hh with
                | none => exact ⟨none, fun _ => rfl⟩
                | some l => exact ⟨some _, fun _ => rfl⟩
    all_goals exact ⟨none, fun _ => rfl⟩
  case sliceS x lo hi =>
    simp only [runOp, opSliceS, forceL_eq]
    cases ρ x
    case s t =>
      simp only
      cases bnds t.length t.length (lo.map ρ) (hi.map ρ) with
      | none => exact ⟨none, fun _ => rfl⟩
      | some p => obtain ⟨l, hh⟩ := p; exact ⟨some _, fun _ => rfl⟩
    all_goals exact ⟨none, fun _ => rfl⟩
  case faddr off x =>
    simp only [runOp, opFaddr, mkPtr, forceN_eq]
    cases ρ x <;> first | exact ⟨none, fun _ => rfl⟩ | exact ⟨some _, fun _ => rfl⟩
  case field off n x =>
    simp only [runOp, opField, forceL_eq]
    cases ρ x
    case ag l =>
      cases n with
      | none => exact ⟨l[off]?, fun _ => rfl⟩
      | some n => cases hb : Nat.ble (off + n) l.length <;> simp only [hb] <;> first | exact ⟨none, fun _ => rfl⟩ | exact ⟨some _, fun _ => rfl⟩
    all_goals exact ⟨none, fun _ => rfl⟩
  case iaddr z x i =>
    simp only [runOp, opIaddr, mkPtr, forceN_eq]
    cases ρ x <;> cases ρ i <;> first
      | exact ⟨none, fun _ => rfl⟩
      | (rename_i b o n z' ex k j; cases hb : Nat.beq z' z && inR j n <;> simp only [hb] <;> first | exact ⟨none, fun _ => rfl⟩ | exact ⟨some _, fun _ => rfl⟩)
  case iaddrA len z x i =>
    simp only [runOp, opIaddrA, mkPtr, forceN_eq]
    cases ρ x <;> cases ρ i <;> first
      | exact ⟨none, fun _ => rfl⟩
      | (rename_i b o k j; cases hb : inR j len <;> simp only [hb] <;> first | exact ⟨none, fun _ => rfl⟩ | exact ⟨some _, fun _ => rfl⟩)
  case indexA len z n x i =>
    simp only [runOp, opIndexA, forceL_eq]
    cases ρ x <;> cases ρ i <;> first
      | exact ⟨none, fun _ => rfl⟩
      | (rename_i l k j
         dsimp only
         cases hb : inR j len
         · exact ⟨none, fun _ => rfl⟩
         · simp only [cond_true]
           cases n with
           | none => exact ⟨l[j.toNat * z]?, fun _ => rfl⟩
           | some n => cases hb : Nat.ble (j.toNat * z + n) l.length <;> simp only [hb, cond_true, cond_false] <;> first | exact ⟨none, fun _ => rfl⟩ | exact ⟨some _, fun _ => rfl⟩)
  case indexS x i =>
    simp only [runOp, opIndexS]
    cases ρ x <;> cases ρ i <;> first
      | exact ⟨none, fun _ => rfl⟩
      | (rename_i l k j
         cases j with
         | ofNat j => exact ⟨(l[j]?).map fun c => .i .u8 (.ofNat c), fun h => by simp [Function.comp_def]⟩
         | negSucc j => exact ⟨none, fun _ => rfl⟩)
  case assert t zero ok x =>
    simp only [runOp, opAssert]
    cases ρ x <;> first
      | exact ⟨none, fun _ => rfl⟩
      | (cases ok <;> first | exact ⟨none, fun _ => rfl⟩ | exact ⟨some _, fun _ => rfl⟩ | fail)
      | (rename_i u v; dsimp only; cases Nat.beq u t <;> cases ok <;> first | exact ⟨none, fun _ => rfl⟩ | exact ⟨some _, fun _ => rfl⟩)
  case extract x i =>
    simp only [runOp, opExtract]
    cases ρ x <;> first | exact ⟨none, fun _ => rfl⟩ | (rename_i l; exact ⟨l[i]?, fun _ => rfl⟩)
  case cap x =>
    simp only [runOp, opCap]
    cases ρ x <;> first
      | exact ⟨none, fun _ => rfl⟩
      | exact ⟨some _, fun _ => rfl⟩
      | (rename_i ex; cases ex <;> first | exact ⟨none, fun _ => rfl⟩ | exact ⟨some _, fun _ => rfl⟩)
  case sdata x =>
    simp only [runOp, opSdata]
    cases ρ x <;> first
      | exact ⟨none, fun _ => rfl⟩
      | exact ⟨some _, fun _ => rfl⟩
      | (rename_i b o n z ex; cases hb : Nat.beq n 0 <;> simp only [hb] <;> first | exact ⟨none, fun _ => rfl⟩ | exact ⟨some _, fun _ => rfl⟩)

/-- What only reads memory. -/
theorem read_keep {op : AOp} (hc : op.cls = .read) {r : OR} (hr : runOp G ρ h op = some r) : ∃ x, r = .v x h := by
  cases op <;> simp only [AOp.cls, reduceCtorEq] at hc
  case load1 x =>
    simp only [runOp, opLoad1] at hr
    split at hr
    · rw [Option.map_eq_some_iff] at hr; obtain ⟨v, _, rfl⟩ := hr; exact ⟨_, rfl⟩
    · split at hr <;> cases hr; exact ⟨_, rfl⟩
  case loadN n x => simp only [runOp, opLoadN] at hr; rw [Option.map_eq_some_iff] at hr; obtain ⟨v, _, rfl⟩ := hr; exact ⟨_, rfl⟩
  case convBS x =>
    simp only [runOp, opConvBS] at hr
    split at hr
    · cases hr; exact ⟨_, rfl⟩
    · rename_i b o n z e hx
      cases hb : Nat.beq z 1 <;> simp only [hb, cond_true, cond_false] at hr
      · cases hr
      · split at hr
        · rw [Option.map_eq_some_iff] at hr; obtain ⟨v, _, rfl⟩ := hr; exact ⟨_, rfl⟩
        · cases hr
    · cases hr
  case sliceA len z x lo hi =>
    simp only [runOp, opSliceA, mkSl_eq] at hr
    split at hr
    · split at hr
      · split at hr <;> cases hr; exact ⟨_, rfl⟩
      · cases hr
    · cases hr
  case lookup kd zero ok x k =>
    simp only [runOp, opLookup] at hr
    cases hb : !(isKey kd (ρ k)) <;> simp only [hb, cond_true, cond_false] at hr
    · split at hr <;> cases hr <;> exact ⟨_, rfl⟩
    · cases hr
  case len kd x =>
    simp only [runOp, opLen, forceN_eq] at hr
    split at hr
    all_goals first
      | (rename_i l hx; cases hb : Nat.beq kd 0 <;> simp only [hb, cond_true, cond_false] at hr <;> cases hr; exact ⟨_, rfl⟩)
      | (cases hb : Nat.beq kd 1 <;> simp only [hb, cond_true, cond_false] at hr <;> cases hr; exact ⟨_, rfl⟩)
      | (cases hb : Nat.beq kd 2 <;> simp only [hb, cond_true, cond_false] at hr <;> cases hr; exact ⟨_, rfl⟩)
      | (cases hb : Nat.beq kd 2 <;> simp only [hb, cond_true, cond_false] at hr
         · cases hr
         · split at hr <;> cases hr; exact ⟨_, rfl⟩)
      | cases hr
  case convUP x =>
    simp only [runOp, opConvUP] at hr
    split at hr
    · cases hr; exact ⟨_, rfl⟩
    · split at hr <;> cases hr; exact ⟨_, rfl⟩
    · cases hr
  case convPU u n x =>
    simp only [runOp, opConvPU] at hr
    split at hr
    · cases hr; exact ⟨_, rfl⟩
    · rename_i b o hx
      cases hb : Nat.beq o 0 <;> simp only [hb, cond_true, cond_false] at hr
      · cases hr
      · split at hr
        · rename_i ty wr l hg
          cases hb2 : Nat.beq ty u && Nat.beq l.length n <;> simp only [hb2, cond_true, cond_false] at hr <;> cases hr
          exact ⟨_, rfl⟩
        · cases hr
    · cases hr

/-- What makes memory. -/
theorem alloc_shape {op : AOp} (hc : op.isAlloc = true) {r : OR} (hr : runOp G ρ h op = some r) :
    ∃ ty l x, ∀ h, runOp G ρ h op = some (.v (reb h.next x) (h.new (.cells ty true none l))) ∧ (reb h.next x).blk? = some h.next := by
  have hc' : op.cls = .alloc := by
    unfold AOp.isAlloc at hc
    split at hc
    · assumption
    · cases hc
  cases op <;> simp only [AOp.cls, reduceCtorEq] at hc'
  case alloc ty z => exact ⟨ty, z, .ptr 0 0, fun _ => ⟨rfl, rfl⟩⟩
  case box ty n x =>
    simp only [runOp, opBox] at hr ⊢
    cases hb : Nat.beq (ρ x).cells.length n && allOne (ρ x).cells <;> rw [hb] at hr
    · cases hr
    · exact ⟨ty, (ρ x).cells, .ptr 0 0, fun _ => ⟨rfl, rfl⟩⟩
  case bslice ty z cs len ps =>
    simp only [runOp, opBslice] at hr ⊢
    split at hr
    · rename_i cs' hcs
      cases hb : allOne cs' <;> rw [hb] at hr
      · cases hr
      · exact ⟨ty, cs', .sl 0 0 len z true, fun _ => by simp only [cond_true]; exact ⟨rfl, rfl⟩⟩
    · cases hr

end
end Go.Sim
