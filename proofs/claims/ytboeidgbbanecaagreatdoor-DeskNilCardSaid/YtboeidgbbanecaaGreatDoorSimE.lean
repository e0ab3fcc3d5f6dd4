/- What the abstract machine comes to, the model's code comes to: operations one behind the other, and code. -/
import Derived.Test.YtboeidgbbanecaaGreatDoorSimQ
import Derived.LoopN
import Derived.Scope
namespace Go.Sim
open Go.RowKit

def DRel (φ : Phi) : List (Nat × List V) → List Deferred → Prop
  | [], ds => ds = []
  | (f, args) :: xs, ds => ∃ vs cs ds', ds = { target := .fn (.func f) ⟨cs⟩, args := ⟨vs⟩ } :: ds' ∧ VRelL φ args (vs ++ cs) ∧ DRel φ xs ds'

theorem DRel.mono {φ φ' : Phi} (h : Ext φ φ') : ∀ {xs : List (Nat × List V)} {ds : List Deferred}, DRel φ xs ds → DRel φ' xs ds
  | [], _, hr => hr
  | (_, _) :: _, _, hr => by
    simp only [DRel] at hr ⊢
    obtain ⟨vs, cs, ds', e, h1, h2⟩ := hr
    exact ⟨vs, cs, ds', e, h1.mono h, DRel.mono h h2⟩

def ExitRel (φ : Phi) : X → Exit → Prop
  | .nrm, e => e = .normal
  | .ext id, e => e = .exit id
  | .ret, e => e = .ret
  | .pan x, e => ∃ v, e = .panic [{ v, recovered := false }] ∧ VRel φ x v

/-- What stands behind the code may be asked at whatever it comes to. -/
def Post (G : Gl) (B : Nat) (φ : Phi) (w : World) (x : X) (st : St) (Q : Exit → Act → World → Prop) : Prop :=
  ∀ φ' e a' w', Ext φ φ' → ExitRel φ' x e → Rel G B φ' st.h w' → VRelL φ' st.t a'.tmps.toList → DRel φ' st.d a'.defers → Below B w w' → Q e a' w'

def OutRel (G : Gl) (B : Nat) (φ : Phi) (w : World) (out : Out) (h' : H) (e : Ending) (w' : World) : Prop :=
  ∃ φ', Ext φ φ' ∧ Rel G B φ' h' w' ∧ Below B w w' ∧
    (match out with
    | .ret x => ∃ v, e = .returned v ∧ VRel φ' x v
    | .pan x => ∃ v, e = .panicked [{ v, recovered := false }] ∧ VRel φ' x v)

/-- What a call comes to by itself, or by its body. -/
def Upon (P : Program) (r : Result Next) (R : Ending → World → Prop) : Prop :=
  match r with
  | .ok (.value v) w' => R (.returned v) w'
  | .ok (.enter f args) w' => Calls P f args w' R
  | .halt (.panic v) w' => R (.panicked [{ v, recovered := false }]) w'
  | _ => False

/-- The calls that the abstract machine makes are sound. -/
def CallOk (P : Program) (G : Gl) (B : Nat) (cf : Nat → List V → H → Option (Out × H)) : Prop :=
  ∀ f args h out h', cf f args h = some (out, h') → ∀ φ w vs, Rel G B φ h w → VRelL φ args vs → Upon P ((callFunc f ⟨vs⟩).run P w) (OutRel G B φ w out h')

section
variable {P : Program} {G : Gl} {B : Nat} {cf : Nat → List V → H → Option (Out × H)} {Q : Exit → Act → World → Prop}

theorem put_rel {φ : Phi} {t : List V} {a : Act} (ht : VRelL φ t a.tmps.toList) {x : V} {v : Value} (hx : VRel φ x v) (dst : Option Nat) : VRelL φ (putT t dst x) (a.put dst v).tmps.toList := by
  cases dst with
  | none => exact ht
  | some d =>
    simp only [putT, Act.put, Array.toList_setIfInBounds]
    refine VRelL.of (by simp [ht.length]) fun i y hy => ?_
    rw [List.getElem?_set] at hy ⊢
    have hl := ht.length
    split at hy
    · rename_i e
      rw [if_pos e]
      split at hy
      · rename_i hlt
        cases hy
        rw [if_pos (by omega)]
        exact ⟨v, rfl, hx⟩
      · cases hy
    · rename_i e
      rw [if_neg e]
      exact ht.get hy

theorem put_defers (a : Act) (dst : Option Nat) (v : Value) : (a.put dst v).defers = a.defers := by cases dst <;> rfl

theorem undef_rel (φ : Phi) : VRel φ V.un undef := by
  simp only [V.un, undef, VRel, VRelL]
  exact ⟨[], rfl, rfl⟩

theorem wanted_rel {φ : Phi} {t : List V} {a : Act} (ht : VRelL φ t a.tmps.toList) {ops : Array Oper} {o : Oper} {g : Option (Nat × Bool)} (hg : cGuard ops o.guard = some g) : wantedA t g = Region.wanted o (yielded ops a.tmps) := by
  cases hgu : o.guard with
  | none =>
    rw [hgu] at hg
    simp only [cGuard, Option.some.injEq] at hg
    subst hg
    simp [wantedA, Region.wanted, hgu]
  | some jw =>
    obtain ⟨j, w⟩ := jw
    rw [hgu] at hg
    simp only [cGuard] at hg
    split at hg
    · rename_i s hs
      cases hg
      simp only [wantedA, Region.wanted, hgu, yielded, hs, Option.bind_some]
      rw [getV_eq]
      cases ht' : t[s]? with
      | none =>
        have hl := ht.length
        have : a.tmps[s]? = none := by
          rw [← Array.getElem?_toList]
          exact List.getElem?_eq_none (by rw [← hl]; exact List.getElem?_eq_none_iff.1 ht')
        rw [this]
        rfl
      | some x =>
        obtain ⟨v, hv, hr⟩ := ht.get ht'
        rw [Array.getElem?_toList] at hv
        rw [hv]
        cases x <;> simp only [VRel] at hr <;> first
          | (subst hr; simp; try (cases w <;> rename_i b <;> cases b <;> rfl))
          | (obtain ⟨_, rfl, _⟩ := hr; simp)
          | (obtain ⟨_, _, rfl⟩ := hr; simp)
          | (obtain ⟨_, _, _, _, rfl, _⟩ := hr; simp)
          | (obtain ⟨rfl, hp⟩ := hr; cases v <;> simp [plainV] at hp ⊢)
    · cases hg

theorem Post.step {φ φ' : Phi} {w w' : World} {x : X} {st : St} (hp : Post G B φ w x st Q) (hx : Ext φ φ') (hb : Below B w w') : Post G B φ' w' x st Q :=
  fun φ'' e a'' w'' h1 h2 h3 h4 h5 h6 => hp φ'' e a'' w'' (hx.trans h1) h2 h3 h4 h5 (hb.trans h6)

theorem evOps_nil (st : St) : evOps G cf [] st = some (.nrm, st) := rfl
theorem evOps_cons (o : AOper) (os : List AOper) (st : St) : evOps G cf (o :: os) st = bif wantedA st.t o.g then (match runOp G (opd st.t) st.h o.op with
    | none => none
    | some (.v x h) => evOps G cf os ⟨putT st.t o.dst x, h, st.d⟩
    | some (.u h) => evOps G cf os ⟨putT st.t o.dst V.un, h, st.d⟩
    | some (.p x h) => some (.pan x, ⟨st.t, h, st.d⟩)
    | some (.d f args) => evOps G cf os ⟨putT st.t o.dst V.un, st.h, (f, args) :: st.d⟩
    | some (.c f args) => match cf f args st.h with
      | none => none
      | some (.ret v, h) => evOps G cf os ⟨putT st.t o.dst v, h, st.d⟩
      | some (.pan v, h) => some (.pan v, ⟨st.t, h, st.d⟩)) else evOps G cf os ⟨putT st.t o.dst V.un, st.h, st.d⟩ := by
  show (bif wantedA st.t o.g then after cf o st (runOp G (opd st.t) st.h o.op) (evOps G cf os) else putF st.t o.dst V.un fun t => evOps G cf os ⟨t, st.h, st.d⟩) = _
  cases runOp G (opd st.t) st.h o.op with
  | none => simp [after]
  | some r =>
    cases r <;> simp [after]
    split <;> simp_all

theorem evOps_sound (hcf : CallOk P G B cf) {ops : Array Oper} : ∀ (os : List Oper) (aos : List AOper) (i : Nat) (st : St) (x : X) (st' : St),
    (∀ k o, os[k]? = some o → ops[i + k]? = some o) → cOpers P ops os = some aos → evOps G cf aos st = some (x, st') →
    ∀ φ a w, Rel G B φ st.h w → VRelL φ st.t a.tmps.toList → DRel φ st.d a.defers → Post G B φ w x st' Q → wpOps P ops Q (List.range' i os.length) a w := by
  intro os
  induction os with
  | nil =>
    intro aos i st x st' _ hc he φ a w hr ht hd hp
    simp only [cOpers, Option.some.injEq] at hc
    subst hc
    simp only [evOps_nil, Option.some.injEq, Prod.mk.injEq] at he
    obtain ⟨rfl, rfl⟩ := he
    exact hp φ _ a w (Ext.refl φ) rfl hr ht hd (Below.refl B w)
  | cons o os ih =>
    intro aos i st x st' hidx hc he φ a w hr ht hd hp
    simp only [cOpers] at hc
    split at hc
    · rename_i aop g ys h1 h2 h3
      cases hc
      have ho : ops[i]? = some o := by simpa using hidx 0 o (by simp)
      have hidx' : ∀ k o', os[k]? = some o' → ops[(i + 1) + k]? = some o' := fun k o' hk => by
        have := hidx (k + 1) o' (by simpa using hk)
        rwa [show i + 1 + k = i + (k + 1) from by omega]
      have hwant := wanted_rel ht h2
      rw [List.length_cons, List.range'_succ]
      simp only [wpOps, ho]
      rw [evOps_cons] at he
      simp only at he
      cases hw : wantedA st.t g with
      | false =>
        rw [hw, cond_false] at he
        rw [← hwant, hw]
        simp only [Bool.false_eq_true, if_false]
        exact ih ys (i + 1) _ x st' hidx' h3 he φ _ w hr (put_rel ht (undef_rel φ) _) (by rw [put_defers]; exact hd) hp
      | true =>
        rw [hw, cond_true] at he
        rw [← hwant, hw]
        simp only [if_true]
        refine .inl ?_
        unfold Oper.wp
        split at he
        · cases he
        · rename_i v h' hrun
          have hg := runOp_good (P := P) (B := B) (φ := φ) (w := w) hr ht h1 hrun
          obtain ⟨u, w', φ', e1, e2, e3, e4, e5⟩ := hg
          rw [e1]
          simp only [Oper.upon]
          exact ih ys (i + 1) _ x st' hidx' h3 he φ' _ w' e3 (put_rel (ht.mono e2.1) e4 _) (by rw [put_defers]; exact hd.mono e2.1) (hp.step e2.1 e5)
        · rename_i h' hrun
          have hg := runOp_good (P := P) (B := B) (φ := φ) (w := w) hr ht h1 hrun
          obtain ⟨w', φ', e1, e2, e3, e5⟩ := hg
          rw [e1]
          simp only [Oper.upon]
          exact ih ys (i + 1) _ x st' hidx' h3 he φ' _ w' e3 (put_rel (ht.mono e2.1) (undef_rel φ') _) (by rw [put_defers]; exact hd.mono e2.1) (hp.step e2.1 e5)
        · rename_i v h' hrun
          cases he
          have hg := runOp_good (P := P) (B := B) (φ := φ) (w := w) hr ht h1 hrun
          obtain ⟨rfl, u, e1, e2⟩ := hg
          rw [e1]
          simp only [Oper.upon]
          exact hp φ _ a w (Ext.refl φ) ⟨u, rfl, e2⟩ hr ht hd (Below.refl B w)
        · rename_i f args hrun
          have hg := runOp_good (P := P) (B := B) (φ := φ) (w := w) hr ht h1 hrun
          obtain ⟨vs, cs, e1, e2⟩ := hg
          rw [e2]
          simp only [Oper.upon]
          refine ih ys (i + 1) _ x st' hidx' h3 he φ _ w hr (put_rel (t := st.t) (a := { a with defers := ({ target := .fn (.func f) ⟨cs⟩, args := ⟨vs⟩ } : Deferred) :: a.defers }) ht (undef_rel φ) o.dst) ?_ hp
          rw [put_defers]
          exact ⟨vs, cs, a.defers, rfl, e1, hd⟩
        · rename_i f args hrun
          have hg := runOp_good (P := P) (B := B) (φ := φ) (w := w) hr ht h1 hrun
          obtain ⟨vs, e1, e2⟩ := hg
          rw [e2]
          split at he
          · cases he
          · rename_i v h' hcall
            have hu := hcf f args st.h _ _ hcall φ w vs hr e1
            have hend : ∀ e w', OutRel G B φ w (.ret v) h' e w' → ∃ u, e = .returned u ∧ wpOps P ops Q (List.range' (i + 1) os.length) (a.put o.dst u) w' := by
              intro e w' hout
              obtain ⟨φ', q1, q2, q3, u, q4, q5⟩ := hout
              exact ⟨u, q4, ih ys (i + 1) _ x st' hidx' h3 he φ' _ w' q2 (put_rel (ht.mono q1) q5 _) (by rw [put_defers]; exact hd.mono q1) (hp.step q1 q3)⟩
            cases hres : (callFunc f ⟨vs⟩).run P w with
            | ok n w' =>
              rw [hres] at hu
              cases n <;> simp only [Upon] at hu <;> first
                | exact hu.elim
                | (obtain ⟨u, q1, q2⟩ := hend _ _ hu; cases q1; exact q2)
                | (simp only [Oper.upon]
                   refine hu.mono fun e w'' hout => ?_
                   obtain ⟨u, rfl, q2⟩ := hend _ _ hout
                   exact q2)
            | halt hh w' =>
              rw [hres] at hu
              cases hh <;> simp only [Upon] at hu <;> first
                | exact hu.elim
                | (obtain ⟨u, q1, q2⟩ := hend _ _ hu; cases q1)
          · rename_i v h' hcall
            cases he
            have hu := hcf f args st.h _ _ hcall φ w vs hr e1
            have hend : ∀ e w', OutRel G B φ w (.pan v) h' e w' → ∃ u, e = .panicked [{ v := u, recovered := false }] ∧ Q (.panic [{ v := u, recovered := false }]) a w' := by
              intro e w' hout
              obtain ⟨φ', q1, q2, q3, u, q4, q5⟩ := hout
              exact ⟨u, q4, hp φ' _ a w' q1 ⟨u, rfl, q5⟩ q2 (ht.mono q1) (hd.mono q1) q3⟩
            cases hres : (callFunc f ⟨vs⟩).run P w with
            | ok n w' =>
              rw [hres] at hu
              cases n <;> simp only [Upon] at hu <;> first
                | exact hu.elim
                | (obtain ⟨u, q1, q2⟩ := hend _ _ hu; cases q1)
                | (simp only [Oper.upon]
                   refine hu.mono fun e w'' hout => ?_
                   obtain ⟨u, rfl, q2⟩ := hend _ _ hout
                   exact q2)
            | halt hh w' =>
              rw [hres] at hu
              cases hh <;> simp only [Upon] at hu <;> first
                | exact hu.elim
                | (obtain ⟨u, q1, q2⟩ := hend _ _ hu; cases q1; exact q2)
    · cases hc

/-- Code with no region of open order in it. -/
theorem ev_sound (hcf : CallOk P G B cf)
    (hdr : ∀ (ops : Array Oper) (aos : List AOper) (id : Nat) (st st' : St) (hs : List H), cOpers P ops ops.toList = some aos → drawOk ops.toList aos (befores ops.toList []) = true → P.follows .mixedOrders = true →
      evDr G cf (wins aos (befores ops.toList [])) st [] = some (st', hs) →
      sameAll G st'.t hs.reverse (wins aos (befores ops.toList [])) = true →
      ∀ (Q : Exit → Act → World → Prop) φ a w, Rel G B φ st.h w → VRelL φ st.t a.tmps.toList → DRel φ st.d a.defers → Post G B φ w .nrm st' Q → (Code.region id ops true).wp P Q a w) :
    ∀ n, (∀ (c : Code) (st : St) (x : X) (st' : St), ev G cf n (cS P c) st = some (x, st') →
      ∀ (Q : Exit → Act → World → Prop) φ a w, Rel G B φ st.h w → VRelL φ st.t a.tmps.toList → DRel φ st.d a.defers → Post G B φ w x st' Q → c.wp P Q a w) ∧
    (∀ (c : Code) (st : St) (x : X) (st' : St), ev G cf n (.loop (cS P c)) st = some (x, st') →
      ∀ (Q : Exit → Act → World → Prop) φ a w, Rel G B φ st.h w → VRelL φ st.t a.tmps.toList → DRel φ st.d a.defers → Post G B φ w x st' Q → Code.rounds P c Q n a w) := by
  intro n
  induction n with
  | zero => constructor <;> (intro c st x st' he; cases he)
  | succ n ih =>
    obtain ⟨ihA, ihB⟩ := ih
    have hB : ∀ (c : Code) (st : St) (x : X) (st' : St), ev G cf (n + 1) (.loop (cS P c)) st = some (x, st') →
      ∀ (Q : Exit → Act → World → Prop) φ a w, Rel G B φ st.h w → VRelL φ st.t a.tmps.toList → DRel φ st.d a.defers → Post G B φ w x st' Q → Code.rounds P c Q (n + 1) a w := by
      intro c st x st' he Q φ a w hr ht hd hp
      rw [rounds_succ]
      simp only [ev_succ, evS] at he
      split at he
      · rename_i st1 he1
        refine ihA c st .nrm st1 he1 _ φ a w hr ht hd fun φ' e a' w' q1 q2 q3 q4 q5 q6 => ?_
        subst q2
        exact ihB c st1 x st' he Q φ' a' w' q3 q4 q5 (hp.step q1 q6)
      · rename_i r hne
        refine ihA c st x st' he _ φ a w hr ht hd fun φ' e a' w' q1 q2 q3 q4 q5 q6 => ?_
        cases x with
        | nrm => exact (hne st' he).elim
        | ext id => cases q2; exact hp φ' _ a' w' q1 rfl q3 q4 q5 q6
        | ret => cases q2; exact hp φ' _ a' w' q1 rfl q3 q4 q5 q6
        | pan v => obtain ⟨u, rfl, hu⟩ := q2; exact hp φ' _ a' w' q1 ⟨u, rfl, hu⟩ q3 q4 q5 q6
    refine ⟨?_, hB⟩
    intro c st x st' he Q φ a w hr ht hd hp
    cases c with
    | skip =>
      simp only [ev_succ, cS, evS, Option.some.injEq, Prod.mk.injEq] at he
      obtain ⟨rfl, rfl⟩ := he
      exact wp_skip (hp φ _ a w (Ext.refl φ) rfl hr ht hd (Below.refl B w))
    | region id ops dr =>
      simp only [ev_succ, cS] at he
      split at he
      · rename_i ys hys
        split at he
        · rename_i hdr'
          subst hdr'
          split at he
          · rename_i hok
            rw [Bool.and_eq_true] at hok
            simp only [evS] at he
            split at he
            · rename_i st1 hs he1
              cases hsame : sameAll G st1.t hs.reverse (wins ys (befores ops.toList [])) with
              | true =>
                rw [hsame, cond_true] at he
                cases he
                exact hdr ops ys id st st' hs hys hok.1 hok.2 he1 hsame Q φ a w hr ht hd hp
              | false =>
                rw [hsame, cond_false] at he
                cases he
            · cases he
          · simp [evS] at he
        · rename_i hdr'
          simp only [Bool.not_eq_true] at hdr'
          subst hdr'
          simp only [evS] at he
          refine wp_region ?_
          rw [List.range_eq_range']
          have := evOps_sound (P := P) (Q := Q) hcf ops.toList ys 0 st x st' (fun k o hk => by rw [Array.getElem?_toList] at hk; simpa using hk) hys he φ a w hr ht hd hp
          simpa using this
      · simp [evS] at he
    | seq c1 c2 =>
      simp only [ev_succ, cS, evS] at he
      refine wp_seq ?_
      split at he
      · rename_i st1 he1
        refine ihA c1 st .nrm st1 he1 _ φ a w hr ht hd fun φ' e a' w' q1 q2 q3 q4 q5 q6 => ?_
        subst q2
        exact ihA c2 st1 x st' he Q φ' a' w' q3 q4 q5 (hp.step q1 q6)
      · rename_i r hne
        refine ihA c1 st x st' he _ φ a w hr ht hd fun φ' e a' w' q1 q2 q3 q4 q5 q6 => ?_
        cases x with
        | nrm => exact (hne st' he).elim
        | ext id => cases q2; exact hp φ' _ a' w' q1 rfl q3 q4 q5 q6
        | ret => cases q2; exact hp φ' _ a' w' q1 rfl q3 q4 q5 q6
        | pan v => obtain ⟨u, rfl, hu⟩ := q2; exact hp φ' _ a' w' q1 ⟨u, rfl, hu⟩ q3 q4 q5 q6
    | cond o c1 c2 =>
      simp only [ev_succ, cS] at he
      split at he
      · rename_i o' ho'
        simp only [evS] at he
        have hv := eval_rel ht ho'
        split at he
        · rename_i e
          rw [e] at hv
          simp only [VRel] at hv
          exact wp_cond_true hv (ihA c1 st x st' he Q φ a w hr ht hd hp)
        · rename_i e
          rw [e] at hv
          simp only [VRel] at hv
          exact wp_cond_false hv (ihA c2 st x st' he Q φ a w hr ht hd hp)
        · cases he
      · simp [evS] at he
    | block id c =>
      simp only [ev_succ, cS, evS] at he
      refine wp_block ?_
      split at he
      · rename_i j st1 he1
        refine ihA c st (.ext j) st1 he1 _ φ a w hr ht hd fun φ' e a' w' q1 q2 q3 q4 q5 q6 => ?_
        cases q2
        by_cases hj : j = id
        · subst hj
          have : Nat.beq j j = true := Nat.beq_refl j
          rw [this, cond_true] at he
          cases he
          show (if j = j then Q .normal a' w' else Q (.exit j) a' w')
          rw [if_pos rfl]
          exact hp φ' _ a' w' q1 rfl q3 q4 q5 q6
        · have : Nat.beq j id = false := by
            cases hb : Nat.beq j id with
            | false => rfl
            | true => exact (hj (Nat.eq_of_beq_eq_true hb)).elim
          rw [this, cond_false] at he
          cases he
          show (if j = id then Q .normal a' w' else Q (.exit j) a' w')
          rw [if_neg hj]
          exact hp φ' _ a' w' q1 rfl q3 q4 q5 q6
      · rename_i r hne
        refine ihA c st x st' he _ φ a w hr ht hd fun φ' e a' w' q1 q2 q3 q4 q5 q6 => ?_
        cases x with
        | nrm => cases q2; exact hp φ' _ a' w' q1 rfl q3 q4 q5 q6
        | ext id' => exact (hne _ _ he).elim
        | ret => cases q2; exact hp φ' _ a' w' q1 rfl q3 q4 q5 q6
        | pan v => obtain ⟨u, rfl, hu⟩ := q2; exact hp φ' _ a' w' q1 ⟨u, rfl, hu⟩ q3 q4 q5 q6
    | loop c => exact wp_loop_rounds (n + 1) (hB c st x st' he Q φ a w hr ht hd hp)
    | exit id =>
      simp only [ev_succ, cS, evS, Option.some.injEq, Prod.mk.injEq] at he
      obtain ⟨rfl, rfl⟩ := he
      exact wp_exit (hp φ _ a w (Ext.refl φ) rfl hr ht hd (Below.refl B w))
    | scope c =>
      simp only [ev_succ, cS, evS] at he
      refine wp_scope_straight (ihA c st x st' he _ φ a w hr ht hd fun φ' e a' w' q1 q2 q3 q4 q5 q6 => ?_)
      cases x with
      | nrm => cases q2; exact hp φ' _ a' w' q1 rfl q3 q4 q5 q6
      | ext id' => cases q2; exact hp φ' _ a' w' q1 rfl q3 q4 q5 q6
      | ret => cases q2; exact hp φ' _ a' w' q1 rfl q3 q4 q5 q6
      | pan v => obtain ⟨u, rfl, hu⟩ := q2; exact hp φ' _ a' w' q1 ⟨u, rfl, hu⟩ q3 q4 q5 q6
    | label l =>
      simp only [ev_succ, cS, evS, Option.some.injEq, Prod.mk.injEq] at he
      obtain ⟨rfl, rfl⟩ := he
      exact wp_label (hp φ _ a w (Ext.refl φ) rfl hr ht hd (Below.refl B w))
    | ret =>
      simp only [ev_succ, cS, evS, Option.some.injEq, Prod.mk.injEq] at he
      obtain ⟨rfl, rfl⟩ := he
      exact wp_ret (hp φ _ a w (Ext.refl φ) rfl hr ht hd (Below.refl B w))
    | rangeFunc f ps b c => simp [ev_succ, cS, evS] at he
    | goto l => simp [ev_succ, cS, evS] at he
    | refuse s => simp [ev_succ, cS, evS] at he

end
end Go.Sim
