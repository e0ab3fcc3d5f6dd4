/- A function that defers one closure, which asks for the panic. -/
import Derived.Test.YtboeidgbbanecaaGreatDoorSimF
import Derived.Recover
namespace Go.Sim
open Go.RowKit

theorem cS_seq {P : Program} {c : Code} {A D : S} (h : cS P c = .seq A D) : ∃ c1 c2, c = .seq c1 c2 ∧ cS P c1 = A ∧ cS P c2 = D := by
  cases c <;> simp only [cS] at h
  case seq c1 c2 => cases h; exact ⟨c1, c2, rfl, rfl, rfl⟩
  case region id ops dr => repeat' (first | cases h | split at h)
  case cond => repeat' (first | cases h | split at h)
  all_goals cases h

theorem cS_reg {P : Program} {c : Code} {aos : List AOper} (h : cS P c = .reg aos) : ∃ id ops, c = .region id ops false ∧ cOpers P ops ops.toList = some aos := by
  cases c <;> simp only [cS] at h
  case region id ops dr =>
    split at h
    · rename_i ys hys
      split at h
      · split at h <;> cases h
      · rename_i hdr
        cases h
        simp only [Bool.not_eq_true] at hdr
        subst hdr
        exact ⟨id, ops, rfl, hys⟩
    · cases h
  case cond => repeat' (first | cases h | split at h)
  all_goals cases h

theorem cOp_recover {P : Program} {op : Op} (h : cOp P op = some .recover) : ∃ c : Call, op = .call c ∧ c.callee = .builtin .recover := by
  cases op
  case call c =>
    simp only [cOp, bind, Option.bind_eq_some_iff] at h
    obtain ⟨xs, _, h⟩ := h
    split at h
    case h_5 hcal => exact ⟨c, rfl, hcal⟩
    all_goals
      exfalso
      repeat' (first | contradiction | (cases h; done) | (simp only [Option.bind_eq_some_iff] at h; obtain ⟨_, _, h⟩ := h) | (obtain ⟨_, _, h⟩ := h) | split at h)
  all_goals
    exfalso
    first
      | (simp [cOp] at h; done)
      | (simp only [cOp, bind, Option.bind_eq_some_iff] at h
         repeat' (first | contradiction | (cases h; done) | (simp only [Option.bind_eq_some_iff, Option.map_eq_some_iff] at h; obtain ⟨_, _, h⟩ := h) | (obtain ⟨_, _, h⟩ := h) | split at h))

section
variable {P : Program} {G : Gl} {B : Nat} {cf : Nat → List V → H → Option (Out × H)}

theorem movs_S {ops : Array Oper} {Q : Exit → Act → List Frame → World → Prop} {cs : List Frame} : ∀ (os : List Oper) (aos : List AOper) (i : Nat) (st : St) (x : X) (st' : St),
    (∀ k o, os[k]? = some o → ops[i + k]? = some o) → cOpers P ops os = some aos → aos.all isMov = true → evOps G cf aos st = some (x, st') →
    ∀ φ a w, Rel G B φ st.h w → VRelL φ st.t a.tmps.toList → DRel φ st.d a.defers →
    (∀ φ' a' w', x = .nrm → Ext φ φ' → Rel G B φ' st'.h w' → VRelL φ' st'.t a'.tmps.toList → DRel φ' st'.d a'.defers → Below B w w' → Q .normal a' cs w') → wpOpsS P ops Q (List.range' i os.length) a cs w := by
  intro os
  induction os with
  | nil =>
    intro aos i st x st' _ hc hm he φ a w hr ht hd hp
    simp only [cOpers, Option.some.injEq] at hc
    subst hc
    simp only [evOps_nil, Option.some.injEq, Prod.mk.injEq] at he
    obtain ⟨rfl, rfl⟩ := he
    exact hp φ a w rfl (Ext.refl φ) hr ht hd (Below.refl B w)
  | cons o os ih =>
    intro aos i st x st' hidx hc hm he φ a w hr ht hd hp
    simp only [cOpers] at hc
    split at hc
    · rename_i aop g ys h1 h2 h3
      cases hc
      have ho : ops[i]? = some o := by simpa using hidx 0 o (by simp)
      have hidx' : ∀ k o', os[k]? = some o' → ops[(i + 1) + k]? = some o' := fun k o' hk => by
        have := hidx (k + 1) o' (by simpa using hk)
        rwa [show i + 1 + k = i + (k + 1) from by omega]
      rw [List.all_cons, Bool.and_eq_true] at hm
      obtain ⟨hm1, hm2⟩ := hm
      have hmv : ∃ y, aop = .mov y ∧ g = none := by
        unfold isMov at hm1
        split at hm1
        · rename_i heq
          simp only [AOper.mk.injEq] at heq
          exact ⟨_, heq.2.1, heq.2.2⟩
        · cases hm1
      obtain ⟨y, rfl, rfl⟩ := hmv
      have hwant := wanted_rel ht h2
      rw [List.length_cons, List.range'_succ]
      simp only [wpOpsS, ho]
      rw [evOps_cons] at he
      simp only [wantedA, cond_true, runOp] at he
      rw [← hwant]
      simp only [wantedA, if_true]
      obtain ⟨u, w', φ', e1, e2, e3, e4, e5⟩ := runOp_good (P := P) (B := B) (φ := φ) (w := w) (G := G) (h := st.h) (res := .v (opd st.t y) st.h) hr ht h1 rfl
      rw [e1]
      simp only [Oper.upon]
      exact ih ys (i + 1) _ x st' hidx' h3 hm2 he φ' _ w' e3 (put_rel (ht.mono e2.1) e4 _) (by rw [put_defers]; exact hd.mono e2.1)
        fun φ'' a'' w'' q1 q2 q3 q4 q5 q6 => hp φ'' a'' w'' q1 (e2.1.trans q2) q3 q4 q5 (e5.trans q6)
    · cases hc

theorem evRec_sound (hcf : CallOk P G B cf) (hdr : Drawn P G B cf) {g : Nat} {fng : Func} {ag : AF} (hg : P.funcs[g]? = some fng) (hag : cF P fng = some ag) {n : Nat} {gargs : List V} {rv : V} {h h' : H}
    (he : evRec G cf n ag gargs rv h = some h') {φ : Phi} {w : World} (r : Rel G B φ h w) {vs : List Value} (hv : VRelL φ gargs vs) {u u' : FrameMode} {v : Value} (hrv : VRel φ rv v)
    (hu : ∀ (c₀ : Frame) (cs : List Frame), c₀.mode = u → (recoverD (c₀ :: cs) = some (v, { c₀ with mode := u' } :: cs)) ∨ (recoverD (c₀ :: cs) = none ∧ v = .nilIface ∧ u' = u)) {R : Ending → FrameMode → World → Prop}
    (hR : ∀ φ' w' v', Ext φ φ' → Rel G B φ' h' w' → Below B w w' → R (.returned v') u' w') : CallsD P g ⟨vs⟩ u w R := by
  unfold cF at hag
  split at hag
  rotate_left
  · cases hag
  rename_i b rs hb hrs
  split at hag <;> cases hag
  unfold evRec at he
  simp only at he
  split at he
  rotate_left
  · cases he
  rename_i d ops rest hbody
  split at he
  rotate_left
  · cases he
  rename_i hmov
  split at he
  rotate_left
  · cases he
  rename_i st hops
  obtain ⟨c1, c2, rfl, hc1, hc2⟩ := cS_seq hbody
  obtain ⟨id, cops, rfl, hcops⟩ := cS_reg hc1
  refine callsD_of_wpS hg hb fun c₀ cs hc₀ => ?_
  refine wpS_seq (wpS_region ?_)
  rw [← Array.length_toList, List.range_eq_range']
  cases hl : cops.toList with
  | nil => rw [hl] at hcops; simp [cOpers] at hcops
  | cons o0 os =>
    have hcops' := hcops
    rw [hl] at hcops'
    simp only [cOpers] at hcops'
    split at hcops'
    rotate_left
    · cases hcops'
    rename_i aop gg ys h1 h2 h3
    simp only [Option.some.injEq, List.cons.injEq, AOper.mk.injEq] at hcops'
    obtain ⟨⟨hd0, rfl, rfl⟩, rfl⟩ := hcops'
    have hidx : ∀ k o', os[k]? = some o' → cops[1 + k]? = some o' := fun k o' hk => by
      rw [← Array.getElem?_toList, hl, Nat.add_comm]
      simpa using hk
    have ho : cops[0]? = some o0 := by rw [← Array.getElem?_toList, hl]; rfl
    rw [List.length_cons, List.range'_succ]
    simp only [wpOpsS, ho]
    have hlen := hv.length
    have ht : VRelL φ (gargs ++ List.replicate (fng.ntmps - gargs.length) V.un) ((⟨vs⟩ : Array Value) ++ Array.replicate (fng.ntmps - (⟨vs⟩ : Array Value).size) undef).toList := by
      simp only [Array.toList_append, Array.toList_replicate, List.size_toArray]
      rw [← hlen]
      exact hv.append (undefs_rel φ _)
    have hwant := wanted_rel (a := { tmps := (⟨vs⟩ : Array Value) ++ Array.replicate (fng.ntmps - (⟨vs⟩ : Array Value).size) undef, defers := [] }) ht h2
    rw [← hwant]
    simp only [wantedA, if_true]
    obtain ⟨c, hc, hcal⟩ := cOp_recover h1
    have hrec : ∀ ρ, (execOp ρ o0).run P w = .ok .recover w := fun ρ => by
      simp [execOp, hc, resolve, hcal, builtin, invoke]
    rw [hrec]
    simp only
    -- behind it
    have hafter : ∀ cs', cs' = { c₀ with mode := u' } :: cs →
        wpOpsS P cops (Exit.thenS (c2.wpS P (bodyPostS P fng c₀ cs R)) (bodyPostS P fng c₀ cs R)) (List.range' 1 os.length)
          (({ tmps := (⟨vs⟩ : Array Value) ++ Array.replicate (fng.ntmps - (⟨vs⟩ : Array Value).size) undef, defers := [] } : Act).put o0.dst v) cs' w := by
      intro cs' hcs'
      refine movs_S (P := P) (G := G) (B := B) (cf := cf) os ys 1 _ _ _ hidx h3 hmov hops φ _ w r ?_ ?_ ?_
      · have := put_rel (a := { tmps := (⟨vs⟩ : Array Value) ++ Array.replicate (fng.ntmps - (⟨vs⟩ : Array Value).size) undef, defers := [] }) ht hrv (some d)
        rw [hd0]
        exact this
      · rw [put_defers]; rfl
      · intro φ1 a1 w1 _ q1 q2 q3 q4 q5
        simp only [Exit.thenS]
        have hdone : ∀ x t2 h2', (x = .nrm ∨ x = .ret) → ev G cf n rest st = some (x, ⟨t2, h2', []⟩) → h2' = h' → c2.wpS P (bodyPostS P fng c₀ cs R) a1 cs' w1 := by
          intro x t2 h2' hx hev hh
          subst hh
          subst hc2
          refine wpS_of_wp ?_
          refine (ev_sound hcf hdr n).1 c2 st x _ hev _ φ1 a1 w1 q2 q3 q4 fun φ2 e a2 w2 p1 p2 p3 p4 p5 p6 => ?_
          simp only [DRel] at p5
          have hrs' : cRVs P fng.results.toList = some [] := hrs
          obtain ⟨v', e1, e2⟩ := run_results (P := P) fng p3 p4 hrs' (ys := []) rfl
          have hfin := hR φ2 w2 v' (q1.trans p1) p3 (q5.trans p6)
          rcases hx with rfl | rfl
          · cases p2; exact ⟨p5, u', hcs', v', e1, hfin⟩
          · cases p2; exact ⟨p5, u', hcs', v', e1, hfin⟩
        split at he
        · rename_i t2 h2' hev; cases he; exact hdone _ _ _ (.inl rfl) hev rfl
        · rename_i t2 h2' hev; cases he; exact hdone _ _ _ (.inr rfl) hev rfl
        · cases he
    rcases hu c₀ cs hc₀ with hrd | ⟨hrd, rfl, rfl⟩
    · rw [hrd]
      exact hafter _ rfl
    · rw [hrd]
      exact hafter _ (by rw [← hc₀])

/-- A function with one deferred call is sound. -/
theorem defer_ok {F : Nat → Option AF} (hF : ∀ f af, F f = some af → ∃ fn, P.funcs[f]? = some fn ∧ cF P fn = some af) (hcf : CallOk P G B cf) (hdr : Drawn P G B cf) : DeferOk P G B F cf := by
  intro f fn af n args h x t1 h1 g gargs out h' hf haf hev hB φ w vs r hv
  unfold cF at haf
  split at haf
  rotate_left
  · cases haf
  rename_i b rs hb hrs
  split at haf <;> cases haf
  refine calls_of_wp_defers hf hb ?_
  have hlen := hv.length
  have ht : VRelL φ (args ++ List.replicate (fn.ntmps - args.length) V.un) ((⟨vs⟩ : Array Value) ++ Array.replicate (fn.ntmps - (⟨vs⟩ : Array Value).size) undef).toList := by
    simp only [Array.toList_append, Array.toList_replicate, List.size_toArray]
    rw [← hlen]
    exact hv.append (undefs_rel φ _)
  unfold evB at hB
  rw [hev] at hB
  simp only at hB
  split at hB
  rotate_left
  · cases hB
  rename_i ag hFg
  obtain ⟨fng, hg, hag⟩ := hF g ag hFg
  refine (ev_sound hcf hdr n).1 b _ x _ hev _ φ { tmps := _, defers := [] } w r ht rfl fun φ' e a' w' q1 q2 q3 q4 q5 q6 => ?_
  simp only [DRel] at q5
  obtain ⟨us, cs, ds', hds, hgv, rfl⟩ := q5
  have hleave : ∀ (u u' : FrameMode) (rv : V) (v : Value) (h2 : H) (xx : X), u ≠ .run → settle u' = .returning → VRel φ' rv v →
      (∀ (c₀ : Frame) (cs : List Frame), c₀.mode = u → (recoverD (c₀ :: cs) = some (v, { c₀ with mode := u' } :: cs)) ∨ (recoverD (c₀ :: cs) = none ∧ v = .nilIface ∧ u' = u)) →
      evRec G cf n ag gargs rv h1 = some h2 → (xx = .nrm ∨ xx = .ret) → finish xx t1 h2 rs = some (out, h') → Leaves P fn a'.tmps (OutRel G B φ w out h') a'.defers u w' := by
    intro u u' rv v h2 xx hu hset hrv hrd hrec hxx hfin
    rw [hds]
    refine leaves_cons hu (f := g) (args := ⟨us ++ cs⟩) ?_ ?_
    · have : ((⟨us⟩ : Array Value) ++ ⟨cs⟩) = ⟨us ++ cs⟩ := by simp
      simp only [invoke, this]
      exact run_callFunc_enter hg hag _ w'
    · refine evRec_sound hcf hdr hg hag hrec q3 hgv hrv hrd fun φ2 w2 v' p1 p2 p3 => ?_
      simp only [hset, Leaves]
      have hfin' : ∃ ys, resultsOf h2 t1 rs = some ys ∧ out = .ret (tupled ys) ∧ h' = h2 := by
        rcases hxx with rfl | rfl <;> simp only [finish] at hfin
        all_goals
          split at hfin <;> cases hfin
          exact ⟨_, by assumption, rfl, rfl⟩
      obtain ⟨ys, hys, rfl, rfl⟩ := hfin'
      obtain ⟨v2, e1, e2⟩ := run_results (P := P) fn p2 (q4.mono p1) hrs hys
      exact ⟨v2, e1, φ2, q1.trans p1, p2, q6.trans p3, v2, rfl, e2⟩
  split at hB
  · cases hB
  · rename_i v
    split at hB
    rotate_left
    · cases hB
    rename_i h2 hrec
    obtain ⟨u, rfl, hu⟩ := q2
    exact hleave (.panicking [{ v := u, recovered := false }]) (.panicking [{ v := u, recovered := true }]) v u h2 .ret (by simp) rfl hu
      (fun c₀ cs hc => .inl (by simp [recoverD, hc])) hrec (.inr rfl) hB
  · rename_i x' hx1 hx2
    split at hB
    rotate_left
    · cases hB
    rename_i h2 hrec
    have hret : Leaves P fn a'.tmps (OutRel G B φ w out h') a'.defers .returning w' := by
      refine hleave .returning .returning .nilif .nilIface h2 x (by simp) rfl (by simp [VRel]) (fun c₀ cs hc => .inr ⟨by simp [recoverD, hc], rfl, rfl⟩) hrec ?_ hB
      cases x with
      | nrm => exact .inl rfl
      | ret => exact .inr rfl
      | ext id => exact (hx1 id rfl).elim
      | pan v => exact (hx2 v rfl).elim
    cases x with
    | nrm => cases q2; exact hret
    | ret => cases q2; exact hret
    | ext id => exact (hx1 id rfl).elim
    | pan v => exact (hx2 v rfl).elim

end
end Go.Sim
