/- Operations, thirteenth part: min, max, delete. -/
import Derived.Test.YtboeidgbbanecaaGreatDoorSimV5
import Derived.Test.YtboeidgbbanecaaGreatDoorSimV
import Derived.Test.YtboeidgbbanecaaGreatDoorSimV4
namespace Go.Sim
open Go.RowKit

section
variable {P : Program} {G : Gl} {B : Nat} {φ : Phi} {h : H} {w : World} {t : List V} {a : Act} {o : Oper} {op : AOp} {res : OR}

theorem good_mm (r : Rel G B φ h w) (ht : VRelL φ t a.tmps.toList) {c : Call} (ho : o.op = .call c) {x y : Operand} {x' y' : O} {mx : Bool} (hcal : (c.callee = .builtin .min ∧ mx = false) ∨ (c.callee = .builtin .max ∧ mx = true))
    (hargs : c.args = #[x, y]) (hx : cO x = some x') (hy : cO y = some y') (hr : opMm (opd t) h mx x' y' = some res) : Good P G B φ h w (execOp a.eval o) res := by
  have hvx := eval_rel ht hx
  have hvy := eval_rel ht hy
  unfold opMm at hr
  split at hr
  rotate_left
  · cases hr
  rename_i k m k' n e1 e2
  rw [e1] at hvx
  rw [e2] at hvy
  simp only [VRel] at hvx hvy
  rw [Bool.cond_eq_ite] at hr
  split at hr
  rotate_left
  · cases hr
  rename_i hk
  have := eqK_iff.1 hk
  subst this
  cases hr
  rcases hcal with ⟨hcal, rfl⟩ | ⟨hcal, rfl⟩
  · refine Good.val (v := .int k (if n < m then n else m)) r ?_ ?_
    · simp [execOp, ho, resolve, hcal, hargs, invoke, builtin, hvx, hvy, Builtin.min_, Builtin.min2]
    · simp only [cond_false, ltI_eq]
      by_cases hlt : n < m <;> simp [hlt, VRel]
  · refine Good.val (v := .int k (if m < n then n else m)) r ?_ ?_
    · simp [execOp, ho, resolve, hcal, hargs, invoke, builtin, hvx, hvy, Builtin.max_, Builtin.max2]
    · simp only [cond_true, ltI_eq]
      by_cases hlt : m < n <;> simp [hlt, VRel]

theorem eraseK_rel {kt : TypeId} {kd : Nat} (hk : keyKind P kt = some kd) {k : V} {v : Value} (hkey : isKey kd k = true) (hv : VRel φ k v) {d : TypeDesc} (hd : P.underlying kt = some d) :
    ∀ {es : List (V × V)} {res : List MapEntry} {i : Nat} {r : Option V}, EntRel φ es res → findK k es = some r →
      (Instr.findNow d v res i = some none ∧ EntRel φ (eraseK k es) res) ∨ (∃ j u, Instr.findNow d v res i = some (some (i + j, u)) ∧ j < res.length ∧ EntRel φ (eraseK k es) (res.eraseIdx j))
  | [], res, i, r, he, hf => by
    simp only [EntRel] at he
    subst he
    exact .inl ⟨rfl, rfl⟩
  | (k', x') :: es, res, i, r, he, hf => by
    simp only [EntRel] at he
    obtain ⟨e, es', rfl, h1, h2, h3⟩ := he
    simp only [findK] at hf
    split at hf
    · rename_i heq
      cases hf
      obtain ⟨d', hd', hs⟩ := sameNow_eq hk hkey hv h1 heq
      rw [hd] at hd'; cases hd'
      refine .inr ⟨0, e.val, by simp [Instr.findNow, hs], by simp, ?_⟩
      simp only [eraseK, heq, List.eraseIdx_cons_zero]
      exact h3
    · rename_i heq
      obtain ⟨d', hd', hs⟩ := sameNow_eq hk hkey hv h1 heq
      rw [hd] at hd'; cases hd'
      rcases eraseK_rel hk hkey hv hd (i := i + 1) h3 hf with ⟨q2, q3⟩ | ⟨j, u, q2, q3, q4⟩
      · refine .inl ⟨by simp [Instr.findNow, hs, q2], ?_⟩
        simp only [eraseK, heq, EntRel]
        exact ⟨_, _, rfl, h1, h2, q3⟩
      · refine .inr ⟨j + 1, u, by simp only [Instr.findNow, hs, q2]; congr 3; omega, by simpa using q3, ?_⟩
        simp only [eraseK, heq, List.eraseIdx_cons_succ, EntRel]
        exact ⟨_, _, rfl, h1, h2, q4⟩
    · cases hf

theorem good_mdel (r : Rel G B φ h w) (ht : VRelL φ t a.tmps.toList) {c : Call} (ho : o.op = .call c) {m k : Operand} {m' k' : O} {mt kt' kt e : TypeId} {kd : Nat} (hcal : c.callee = .builtin .delete)
    (hargs : c.args = #[m, k]) (hat : c.argTypes = #[mt, kt']) (hm' : cO m = some m') (hk' : cO k = some k') (hu : P.underlying mt = some (.map kt e)) (hkd : keyKind P kt = some kd)
    (hr : opMdel (opd t) h kd m' k' = some res) : Good P G B φ h w (execOp a.eval o) res := by
  obtain ⟨d, hd⟩ := keyKind_some hkd
  have hm := eval_rel ht hm'
  have hk := eval_rel ht hk'
  have hexec : ∀ w', (Builtin.delete_ #[mt, kt'] o.type #[a.eval m, a.eval k]).run P w = .ok (.tuple #[]) w' → (execOp a.eval o).run P w = .ok (.value (.tuple #[])) w' := by
    intro w' hw'
    simp [execOp, ho, resolve, hcal, hargs, invoke, builtin, hat, hw']
  unfold opMdel at hr
  rw [Bool.cond_eq_ite] at hr
  split at hr
  · cases hr
  rename_i hkey
  simp only [Bool.not_eq_true', Bool.not_eq_false] at hkey
  split at hr
  · rename_i e1
    cases hr
    rw [e1] at hm
    simp only [VRel] at hm
    refine Good.val r (hexec _ ?_) (by simp only [VRel, VRelL]; exact ⟨[], rfl, rfl⟩)
    simp [Builtin.delete_, run_underlying hu, hm, run_checkKey hkd]
  · rename_i rr e1
    split at hr
    · rename_i es hg
      split at hr
      · rename_i fr hf
        cases hr
        rw [e1] at hm
        simp only [VRel] at hm
        obtain ⟨q, hq, hv⟩ := hm
        obtain ⟨res, cl, hb, hent⟩ := r.blk rr _ q hg hq
        have hget : ∀ ob : Obj, (w.heap.setIfInBounds q.b ob)[q.b]? = some ob := fun ob => by
          have := (r.dom rr q hq).2
          rw [Array.getElem?_setIfInBounds_self]
          simp [this]
        have fin : ∀ (res' : Array MapEntry) (cl' : Nat), EntRel φ (eraseK (opd t k') es) res'.toList →
            (execOp a.eval o).run P w = .ok (.value (.tuple #[])) { w with heap := w.heap.setIfInBounds q.b (.map res' cl') } →
            Good P G B φ h w (execOp a.eval o) (.v (.tup []) (h.set rr (.map (eraseK (opd t k') es)))) := by
          intro res' cl' h1 h2
          obtain ⟨hrel, hbel⟩ := r.setObj (ob := .map res' cl') (k' := .map (eraseK (opd t k') es)) hg hq rfl rfl rfl rfl rfl
            ⟨res', cl', hget _, h1⟩ (fun _ _ _ _ _ e => by cases e)
          exact ⟨_, _, φ, h2, ExtN.refl _ φ, hrel, (by simp only [VRel, VRelL]; exact ⟨[], rfl, rfl⟩), hbel⟩
        rcases eraseK_rel hkd hkey hk hd (i := 0) hent hf with ⟨q2, q3⟩ | ⟨j, u, q2, q3, q4⟩
        · refine fin res cl q3 (hexec _ ?_)
          simp [Builtin.delete_, hv, run_underlying hu, run_getObj_mp hb, run_checkKey hkd, Instr.findKey, run_underlying hd, q2, run_setObj_mp _ hb]
        · refine fin (res.eraseIdxIfInBounds j) cl ?_ (hexec _ ?_)
          · have hj : j < res.size := by simpa using q3
            rw [Array.eraseIdxIfInBounds, dif_pos hj, Array.toList_eraseIdx]
            exact q4
          · simp [Builtin.delete_, hv, run_underlying hu, run_getObj_mp hb, run_checkKey hkd, Instr.findKey, run_underlying hd, q2, run_setObj_mp _ hb]
      · cases hr
    · cases hr
  · cases hr

end
end Go.Sim
