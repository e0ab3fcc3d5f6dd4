/- What a function comes to. -/
import Derived.Test.YtboeidgbbanecaaGreatDoorSimE
import Derived.Laws.Sem
namespace Go.Sim
open Go.RowKit

section
variable {P : Program} {G : Gl} {B : Nat} {φ : Phi} {h : H} {w : World} {t : List V} {a : Act}

def resF (tmps : Array Value) : ResultVar → Sem Value
  | .tmp t => pure (tmps.getD t undef)
  | .cell a t => do loadVar t (← asAddr (tmps.getD a undef))

theorem results_eq (fn : Func) (tmps : Array Value) : results fn tmps = (do
    let vs ← fn.results.mapM (resF tmps)
    pure (if h : vs.size = 1 then vs[0] else .tuple vs)) := by
  unfold results
  congr 2

theorem result_rel (r : Rel G B φ h w) (ht : VRelL φ t a.tmps.toList) {rv : ResultVar} {x : RV} (hc : cRV P rv = some x) {y : V} (hy : resultOf h t x = some y) :
    ∃ v, (resF a.tmps rv).run P w = .ok v w ∧ VRel φ y v := by
  cases rv with
  | tmp n =>
    simp only [cRV, Option.some.injEq] at hc
    subst hc
    simp only [resultOf, Option.some.injEq] at hy
    subst hy
    have := eval_rel ht (o := .tmp n) (x := .t n) rfl
    refine ⟨a.eval (.tmp n), ?_, this⟩
    simp [Act.eval, resF]
  | cell b ty =>
    simp only [cRV] at hc
    split at hc <;> cases hc
    rename_i g n hg hn
    simp only [resultOf] at hy
    have hb := eval_rel ht (o := .tmp b) (x := .t b) rfl
    split at hy
    rotate_left
    · cases hy
    rename_i bb oo e
    have hb' : VRel φ (.ptr bb oo) (a.eval (.tmp b)) := by rw [← e]; exact hb
    have hv := hb'
    simp only [VRel] at hv
    obtain ⟨q, hq, hv⟩ := hv
    have hload : ∀ u, (Instr.loadAt ty (a.eval (.tmp b))).run P w = .ok u w → (resF a.tmps (.cell b ty)).run P w = .ok u w := by
      intro u hu
      have hev : a.tmps.getD b undef = .pointer (some ⟨q.b, q.o + oo, none⟩) := by
        rw [← hv]; simp [Act.eval]
      rw [hv] at hu
      show ((do loadVar ty (← asAddr (a.tmps.getD b undef)) : Sem Value)).run P w = _
      rw [hev]
      simpa [Instr.loadAt, Instr.sureAddr, asAddr] using hu
    cases g with
    | false =>
      simp only [Bool.false_eq_true, if_false] at hy
      split at hy <;> cases hy
      rename_i hrow
      obtain ⟨u, h1, _, h3⟩ := run_loadVar_of (P := P) (G := G) r hg hn hb' (l := [y]) (by simpa [loadAt] using hrow)
      exact ⟨u, hload u h1, h3 rfl y rfl⟩
    | true =>
      simp only [if_true] at hy
      rw [Option.map_eq_some_iff] at hy
      obtain ⟨l, hrow, rfl⟩ := hy
      obtain ⟨u, h1, h2, _⟩ := run_loadVar_of (P := P) (G := G) r hg hn hb' (l := l) (by simpa [loadAt] using hrow)
      exact ⟨u, hload u h1, h2 rfl⟩

theorem results_rel (r : Rel G B φ h w) (ht : VRelL φ t a.tmps.toList) : ∀ {rvs : List ResultVar} {xs : List RV}, cRVs P rvs = some xs → ∀ {ys : List V}, resultsOf h t xs = some ys →
    ∃ vs, (rvs.mapM (resF a.tmps)).run P w = .ok vs w ∧ VRelL φ ys vs
  | [], xs, hc, ys, hy => by
    simp only [cRVs, Option.some.injEq] at hc
    subst hc
    simp only [resultsOf, Option.some.injEq] at hy
    subst hy
    exact ⟨[], by simp [List.mapM_nil], rfl⟩
  | rv :: rvs, xs, hc, ys, hy => by
    simp only [cRVs] at hc
    split at hc <;> cases hc
    rename_i x xs h1 h2
    simp only [resultsOf] at hy
    split at hy <;> cases hy
    rename_i y ys h3 h4
    obtain ⟨v, e1, e2⟩ := result_rel r ht h1 h3
    obtain ⟨vs, e3, e4⟩ := results_rel r ht h2 h4
    refine ⟨v :: vs, ?_, ⟨v, vs, rfl, e2, e4⟩⟩
    rw [List.mapM_cons]
    simp only [Sem.run_bind, e1, e3, Result.andThen_ok, Sem.run_pure]

theorem run_results (fn : Func) (r : Rel G B φ h w) (ht : VRelL φ t a.tmps.toList) {xs : List RV} (hc : cRVs P fn.results.toList = some xs) {ys : List V} (hy : resultsOf h t xs = some ys) :
    ∃ v, (results fn a.tmps).run P w = .ok v w ∧ VRel φ (tupled ys) v := by
  obtain ⟨vs, h1, h2⟩ := results_rel r ht hc hy
  rw [results_eq, Array.mapM_eq_mapM_toList]
  have hl := h2.length
  refine ⟨if hs : vs.length = 1 then vs[0] else .tuple vs.toArray, ?_, ?_⟩
  · simp only [Sem.run_bind, Sem.run_map, h1, Result.andThen_ok, Sem.run_pure]
    simp
  · match ys, vs, h2 with
    | [], [], _ => simp [tupled, VRel, VRelL]
    | [y], [v], h2 =>
      simp only [VRelL] at h2
      obtain ⟨_, _, e, h3, _⟩ := h2
      cases e
      simpa [tupled] using h3
    | y1 :: y2 :: ys, v1 :: v2 :: vs, h2 =>
      have : tupled (y1 :: y2 :: ys) = .tup (y1 :: y2 :: ys) := rfl
      rw [this, dif_neg (by simp)]
      simp only [VRel]
      exact ⟨_, rfl, h2⟩

theorem undefs_rel (φ : Phi) (n : Nat) : VRelL φ (List.replicate n V.un) (List.replicate n undef) := by
  induction n with
  | zero => rfl
  | succ n ih => exact ⟨_, _, rfl, undef_rel φ, ih⟩

/-- What 'ev_sound' wants of the regions of open order. -/
def Drawn (P : Program) (G : Gl) (B : Nat) (cf : Nat → List V → H → Option (Out × H)) : Prop :=
  ∀ (ops : Array Oper) (aos : List AOper) (id : Nat) (st st' : St) (hs : List H), cOpers P ops ops.toList = some aos → drawOk ops.toList aos (befores ops.toList []) = true → P.follows .mixedOrders = true →
      evDr G cf (wins aos (befores ops.toList [])) st [] = some (st', hs) →
      sameAll G st'.t hs.reverse (wins aos (befores ops.toList [])) = true →
      ∀ (Q : Exit → Act → World → Prop) φ a w, Rel G B φ st.h w → VRelL φ st.t a.tmps.toList → DRel φ st.d a.defers → Post G B φ w .nrm st' Q → (Code.region id ops true).wp P Q a w

variable {cf : Nat → List V → H → Option (Out × H)}

/-- A function that defers nothing. -/
theorem plain_sound (hcf : CallOk P G B cf) (hdr : Drawn P G B cf) {f : Nat} {fn : Func} {af : AF} (hf : P.funcs[f]? = some fn) (haf : cF P fn = some af) {n : Nat} {args : List V} {h1 : H} {x : X} {t1 : List V} {out : Out} {h' : H}
    (he : ev G cf n af.body ⟨args ++ List.replicate (af.ntmps - args.length) V.un, h, []⟩ = some (x, ⟨t1, h1, []⟩)) (hfin : finish x t1 h1 af.results = some (out, h'))
    {vs : List Value} (r : Rel G B φ h w) (hv : VRelL φ args vs) : Calls P f ⟨vs⟩ w (OutRel G B φ w out h') := by
  unfold cF at haf
  split at haf
  rotate_left
  · cases haf
  rename_i b rs hb hrs
  split at haf <;> cases haf
  refine calls_of_wp hf hb ?_
  have hlen := hv.length
  have ht : VRelL φ (args ++ List.replicate (fn.ntmps - args.length) V.un) ((⟨vs⟩ : Array Value) ++ Array.replicate (fn.ntmps - (⟨vs⟩ : Array Value).size) undef).toList := by
    simp only [Array.toList_append, Array.toList_replicate, List.size_toArray]
    rw [← hlen]
    exact hv.append (undefs_rel φ _)
  refine (ev_sound hcf hdr n).1 b _ x _ he _ φ { tmps := _, defers := [] } w r ht rfl fun φ' e a' w' q1 q2 q3 q4 q5 q6 => ?_
  simp only [DRel] at q5
  cases x with
  | ext id => cases hfin
  | pan v =>
    simp only [finish, Option.some.injEq, Prod.mk.injEq] at hfin
    obtain ⟨rfl, rfl⟩ := hfin
    obtain ⟨u, rfl, hu⟩ := q2
    exact ⟨q5, φ', q1, q3, q6, u, rfl, hu⟩
  | nrm =>
    simp only [finish] at hfin
    split at hfin <;> cases hfin
    rename_i ys hys
    cases q2
    obtain ⟨v, e1, e2⟩ := run_results (P := P) fn q3 q4 hrs hys
    exact ⟨q5, v, e1, φ', q1, q3, q6, v, rfl, e2⟩
  | ret =>
    simp only [finish] at hfin
    split at hfin <;> cases hfin
    rename_i ys hys
    cases q2
    obtain ⟨v, e1, e2⟩ := run_results (P := P) fn q3 q4 hrs hys
    exact ⟨q5, v, e1, φ', q1, q3, q6, v, rfl, e2⟩

/-- A call of a function of the program begins it. -/
theorem run_callFunc_enter {f : Nat} {fn : Func} {af : AF} (hf : P.funcs[f]? = some fn) (haf : cF P fn = some af) (args : Array Value) (w : World) : (callFunc f args).run P w = .ok (.enter f args) w := by
  unfold cF at haf
  split at haf
  rotate_left
  · cases haf
  rename_i b rs hb hrs
  split at haf <;> cases haf
  rename_i hn
  have hn' : ¬ fn.name = "runtime.NumGoroutine" := by simpa using hn
  simp [callFunc, run_program, hf, hb, hn']

/-- A function that is known by a law of its own is sound. -/
structure Nat1 (P : Program) (G : Gl) (B : Nat) (f : Nat) (g : List V → H → Option (Out × H)) : Prop where
  ok : ∀ args h out h', g args h = some (out, h') → ∀ φ w vs, Rel G B φ h w → VRelL φ args vs → Upon P ((callFunc f ⟨vs⟩).run P w) (OutRel G B φ w out h')

/-- What these functions come to is sound. -/
structure NatOk (P : Program) (G : Gl) (B : Nat) (N : Nat → Option (List V → H → Option (Out × H))) : Prop where
  ok : ∀ f g, N f = some g → Nat1 P G B f g

/-- A function with one deferred call is sound (to be proved). -/
def DeferOk (P : Program) (G : Gl) (B : Nat) (F : Nat → Option AF) (cf : Nat → List V → H → Option (Out × H)) : Prop :=
  ∀ f fn af n args h x t1 h1 g gargs out h', P.funcs[f]? = some fn → cF P fn = some af →
    ev G cf n af.body ⟨args ++ List.replicate (af.ntmps - args.length) V.un, h, []⟩ = some (x, ⟨t1, h1, [(g, gargs)]⟩) → evB G F cf n af args h = some (out, h') →
    ∀ φ w vs, Rel G B φ h w → VRelL φ args vs → Calls P f ⟨vs⟩ w (OutRel G B φ w out h')

theorem evF_ok {N : Nat → Option (List V → H → Option (Out × H))} {F : Nat → Option AF} (hN : NatOk P G B N) (hF : ∀ f af, F f = some af → ∃ fn, P.funcs[f]? = some fn ∧ cF P fn = some af)
    (hdr : ∀ cf, CallOk P G B cf → Drawn P G B cf) (hde : ∀ cf, CallOk P G B cf → DeferOk P G B F cf) : ∀ n, CallOk P G B (evF G N F n) := by
  intro n
  induction n with
  | zero => intro f args h out h' he; cases he
  | succ n ih =>
    intro f args h out h' he φ w vs r hv
    have he : (match N f with
      | some g => g args h
      | none => match F f with
        | none => none
        | some af => evB G F (evF G N F n) n af args h) = some (out, h') := he
    split at he
    · rename_i g hg
      exact (hN.ok f g hg).ok args h out h' he φ w vs r hv
    · split at he
      · cases he
      rename_i af haf
      obtain ⟨fn, hf, hc⟩ := hF f af haf
      rw [run_callFunc_enter hf hc]
      have he0 := he
      unfold evB at he
      split at he
      · rename_i x t1 h1 hev
        exact plain_sound ih (hdr _ ih) hf hc hev he r hv
      · rename_i x t1 h1 g gargs hev
        exact hde _ ih f fn af n args h x t1 h1 g gargs out h' hf hc hev he0 φ w vs r hv
      · cases he

end
end Go.Sim
