/- Operations, eighth part: maps, comparisons, conversions, len, cap. -/
import Derived.Test.YtboeidgbbanecaaGreatDoorSimV3
namespace Go.Sim
open Go.RowKit

section
variable {P : Program} {G : Gl} {B : Nat} {φ : Phi} {h : H} {w : World} {t : List V} {a : Act} {o : Oper} {op : AOp} {res : OR}

/-! Maps. -/

theorem bytes_beq (s u : ByteArray) : (s == u) = bin.eqN (natsOf s) (natsOf u) := by
  rw [show (s == u) = (s.data == u.data) from rfl, Bool.eq_iff_iff, eqN_iff, beq_iff_eq]
  constructor
  · intro h
    have : s = u := by cases s; cases u; cases h; rfl
    rw [this]
  · intro h
    rw [natsOf_inj h]

/-- A key's kind, and what the model knows of its type. -/
theorem sameNow_eq {kt : TypeId} {kd : Nat} (hk : keyKind P kt = some kd) {k k' : V} {v v' : Value} (hkey : isKey kd k = true) (hv : VRel φ k v) (hv' : VRel φ k' v') {b : Bool} (he : eqBase k k' = some b) :
    ∃ d, P.underlying kt = some d ∧ Instr.sameNow d v v' = some b := by
  unfold keyKind at hk
  cases k <;> simp only [isKey, Nat.beq_eq, Bool.false_eq_true] at hkey <;> cases k' <;> simp only [eqBase, reduceCtorEq, Bool.cond_eq_ite, Option.some.injEq] at he
  · subst hkey
    simp only [VRel] at hv hv'
    split at hk <;> cases hk
    rename_i hd
    exact ⟨_, hd, by rw [hv, hv']; simp [Instr.sameNow, he]⟩
  · subst hkey
    simp only [VRel] at hv hv'
    split at he
    · rename_i hkk
      have hkk := eqK_iff.1 hkk
      subst hkk
      cases he
      split at hk <;> cases hk
      rename_i hd
      exact ⟨_, hd, by rw [hv, hv']; simp [Instr.sameNow, eqI_eq]⟩
    · cases he
  · subst hkey
    simp only [VRel] at hv hv'
    obtain ⟨s, rfl, hs⟩ := hv
    obtain ⟨u, rfl, hu⟩ := hv'
    split at hk <;> cases hk
    rename_i hd
    exact ⟨_, hd, by simp [Instr.sameNow, bytes_beq, hs, hu, he]⟩

theorem keyKind_some {kt : TypeId} {kd : Nat} (hk : keyKind P kt = some kd) : ∃ d, P.underlying kt = some d := by
  unfold keyKind at hk
  split at hk <;> first | exact ⟨_, by assumption⟩ | cases hk

theorem findK_rel {kt : TypeId} {kd : Nat} (hk : keyKind P kt = some kd) {k : V} {v : Value} (hkey : isKey kd k = true) (hv : VRel φ k v) {d : TypeDesc} (hd : P.underlying kt = some d) :
    ∀ {es : List (V × V)} {res : List MapEntry} {i : Nat} {r : Option V}, EntRel φ es res → findK k es = some r →
      (r = none ∧ Instr.findNow d v res i = some none) ∨ (∃ x j u, r = some x ∧ Instr.findNow d v res i = some (some (i + j, u)) ∧ VRel φ x u ∧ (∃ e, res[j]? = some e ∧ Instr.sameNow d v e.key = some true) ∧
        ∀ (x' : V) (u' : Value) (nk : Value), VRel φ x' u' → VRel φ k nk → EntRel φ (putK k x' es) (res.modify j fun e => { e with key := nk, val := u' }))
  | [], res, i, r, he, hf => by
    simp only [EntRel] at he
    subst he
    simp only [findK, Option.some.injEq] at hf
    exact .inl ⟨hf.symm, rfl⟩
  | (k', x') :: es, res, i, r, he, hf => by
    simp only [EntRel] at he
    obtain ⟨e, es', rfl, h1, h2, h3⟩ := he
    simp only [findK] at hf
    split at hf
    · rename_i heq
      cases hf
      obtain ⟨d', hd', hs⟩ := sameNow_eq hk hkey hv h1 heq
      rw [hd] at hd'; cases hd'
      refine .inr ⟨x', 0, e.val, rfl, by simp [Instr.findNow, hs], h2, ⟨e, rfl, hs⟩, fun x2 u2 nk hx2 hnk => ?_⟩
      simp only [putK, heq, List.modify_zero_cons, EntRel]
      exact ⟨_, _, rfl, hnk, hx2, h3⟩
    · rename_i heq
      obtain ⟨d', hd', hs⟩ := sameNow_eq hk hkey hv h1 heq
      rw [hd] at hd'; cases hd'
      rcases findK_rel hk hkey hv hd (i := i + 1) h3 hf with ⟨q1, q2⟩ | ⟨x, j, u, q1, q2, q3, q4, q5⟩
      · exact .inl ⟨q1, by simp [Instr.findNow, hs, q2]⟩
      · refine .inr ⟨x, j + 1, u, q1, by simp only [Instr.findNow, hs, q2]; congr 3; omega, q3, by simpa using q4, fun x2 u2 nk hx2 hnk => ?_⟩
        simp only [putK, heq, List.modify_succ_cons, EntRel]
        exact ⟨_, _, rfl, h1, h2, q5 x2 u2 nk hx2 hnk⟩
    · cases hf

theorem run_checkKey {kt : TypeId} {kd : Nat} (hk : keyKind P kt = some kd) (b : Bool) (v : Value) : (Instr.checkKey b 10000 kt v).run P w = .ok () w := by
  unfold keyKind at hk
  show Sem.run P (Instr.checkKey b (9999 + 1) kt v) w = _
  split at hk <;> first
    | (rename_i hu; rw [Instr.checkKey]; simp only [Sem.run_bind, run_underlying hu, Result.andThen_ok]; cases v <;> rfl)
    | cases hk

theorem good_lookup (r : Rel G B φ h w) (ht : VRelL φ t a.tmps.toList) {ty : TypeId} {x k : Operand} {ok : Bool} (ho : o.op = .lookup ty x k ok)
    (hc : cOp P (.lookup ty x k ok) = some op) (hr : runOp G (opd t) h op = some res) : Good P G B φ h w (execOp a.eval o) res := by
  simp only [cOp] at hc
  split at hc
  · rename_i kt e hu
    simp only [bind, Option.bind_eq_some_iff] at hc
    obtain ⟨kd, hkd, z, hz, x', hx', k', hk', hc⟩ := hc
    cases hc
    obtain ⟨d, hd⟩ := keyKind_some hkd
    obtain ⟨zv, hzrun, hzv, _⟩ := run_zero_of (P := P) (w := w) hz
    have hzr := toV_rel φ hzv
    have hx := eval_rel ht hx'
    have hk := eval_rel ht hk'
    simp only [runOp, opLookup, Bool.cond_eq_ite, Bool.not_eq_true'] at hr
    split at hr
    · cases hr
    rename_i hkey
    simp only [Bool.not_eq_false] at hkey
    have fin : ∀ (es : Array MapEntry), (a.eval x = .map none ∧ es = #[] ∨ ∃ r cl, a.eval x = .map (some r) ∧ (getObj r).run P w = .ok (.map es cl) w) → ∀ (v : Option (Nat × Value)), Instr.findNow d (a.eval k) es.toList 0 = some v →
        (execOp a.eval o).run P w = .ok (.value (if ok then .tuple #[(match v with | some (_, u) => u | none => zv), .bool v.isSome] else (match v with | some (_, u) => u | none => zv))) w := by
      intro es hes v hv
      rcases hes with ⟨e1, e2⟩ | ⟨r, cl, e1, e2⟩
      · subst e2
        simp only [execOp, ho, Instr.lookup, Sem.run_bind, run_underlying hu, Result.andThen_ok, e1, Sem.run_pure, run_checkKey hkd, Instr.findKey, run_underlying hd, hv]
        cases v with
        | none => simp [hzrun]
        | some p => simp
      · simp only [execOp, ho, Instr.lookup, Sem.run_bind, run_underlying hu, Result.andThen_ok, e1, e2, Sem.run_pure, run_checkKey hkd, Instr.findKey, run_underlying hd, hv]
        cases v with
        | none => simp [hzrun]
        | some p => simp
    have tup : ∀ (x1 : V) (v1 : Value) (b : Bool), VRel φ x1 v1 → VRel φ (if ok then .tup [x1, .b b] else x1) (if ok then .tuple #[v1, .bool b] else v1) := by
      intro x1 v1 b h1
      cases ok
      · simpa using h1
      · simp only [if_true, VRel, VRelL]
        exact ⟨_, rfl, _, _, rfl, h1, _, _, rfl, rfl, rfl⟩
    split at hr
    · cases hr
    · rename_i v hf
      cases hr
      split at hf
      · cases hf
      · rename_i rr e1
        split at hf
        · rename_i es hg
          rw [e1] at hx
          simp only [VRel] at hx
          obtain ⟨q, hq, hv⟩ := hx
          obtain ⟨res, cl, hb, hent⟩ := r.blk rr _ q hg hq
          rcases findK_rel hkd hkey hk hd (i := 0) hent hf with ⟨q1, _⟩ | ⟨x2, j, u, q1, q2, q3, _, _⟩
          · cases q1
          · cases q1
            exact Good.val r (fin res (.inr ⟨_, _, hv, run_getObj_mp hb⟩) _ q2) (tup _ _ _ q3)
        · cases hf
      · cases hf
    · rename_i hf
      cases hr
      split at hf
      · rename_i e1
        rw [e1] at hx
        simp only [VRel] at hx
        exact Good.val r (fin #[] (.inl ⟨hx, rfl⟩) none (by simp [Instr.findNow])) (tup _ _ _ hzr)
      · rename_i rr e1
        split at hf
        · rename_i es hg
          rw [e1] at hx
          simp only [VRel] at hx
          obtain ⟨q, hq, hv⟩ := hx
          obtain ⟨res, cl, hb, hent⟩ := r.blk rr _ q hg hq
          rcases findK_rel hkd hkey hk hd (i := 0) hent hf with ⟨_, q2⟩ | ⟨x2, j, u, q1, _⟩
          · exact Good.val r (fin res (.inr ⟨_, _, hv, run_getObj_mp hb⟩) _ q2) (tup _ _ _ hzr)
          · cases q1
        · cases hf
      · cases hf
  · cases hc

theorem EntRel.push {k x : V} {nk u : Value} {n : Nat} (hk : VRel φ k nk) (hx : VRel φ x u) : ∀ {es : List (V × V)} {res : List MapEntry}, EntRel φ es res → findK k es = some none → EntRel φ (putK k x es) (res ++ [⟨nk, u, n⟩])
  | [], res, he, _ => by
    simp only [EntRel] at he
    subst he
    exact ⟨_, _, rfl, hk, hx, rfl⟩
  | (k', x') :: es, res, he, hf => by
    simp only [EntRel] at he
    obtain ⟨e, es', rfl, h1, h2, h3⟩ := he
    simp only [findK] at hf
    split at hf
    · cases hf
    · rename_i heq
      simp only [putK, heq, List.cons_append, EntRel]
      exact ⟨_, _, rfl, h1, h2, EntRel.push hk hx h3 hf⟩
    · cases hf

theorem sameBits_of {d : TypeDesc} {v u : Value} (hs : Instr.sameNow d v u = some true) : Instr.sameBits 10000 u v = true := by
  cases d <;> cases v <;> cases u <;> simp only [Instr.sameNow, reduceCtorEq, Option.some.injEq] at hs
  · simp only [beq_iff_eq] at hs
    simp [Instr.sameBits, hs]
  · split at hs
    · rename_i hk
      simp only [Option.some.injEq, beq_iff_eq] at hs
      simp [Instr.sameBits, hs, hk]
    · cases hs
  · rw [bytes_beq, eqN_iff] at hs
    have := natsOf_inj hs
    subst this
    simp [Instr.sameBits, bytes_beq, eqN_iff.2 rfl]

theorem good_mapUpdate (r : Rel G B φ h w) (ht : VRelL φ t a.tmps.toList) {ty : TypeId} {m k x : Operand} (ho : o.op = .mapUpdate ty m k x ∨ o.op = .insert ty m k x)
    (hc : cOp P (.mapUpdate ty m k x) = some op) (hr : runOp G (opd t) h op = some res) : Good P G B φ h w (execOp a.eval o) res := by
  simp only [cOp] at hc
  split at hc
  · rename_i kt e hu
    simp only [bind, Option.bind_eq_some_iff] at hc
    obtain ⟨kd, hkd, m', hm', k', hk', x', hx', hc⟩ := hc
    cases hc
    obtain ⟨d, hd⟩ := keyKind_some hkd
    have hm := eval_rel ht hm'
    have hk := eval_rel ht hk'
    have hx := eval_rel ht hx'
    simp only [runOp, opMupd, Bool.cond_eq_ite, Bool.not_eq_true'] at hr
    split at hr
    · rename_i rr e1
      split at hr
      · rename_i es hg
        split at hr
        · cases hr
        rename_i hkey
        simp only [Bool.not_eq_false] at hkey
        split at hr
        · rename_i fr hf
          cases hr
          rw [e1] at hm
          simp only [VRel] at hm
          obtain ⟨q, hq, hv⟩ := hm
          obtain ⟨res, cl, hb, hent⟩ := r.blk rr _ q hg hq
          have hget : ∀ ob : Obj, (w.heap.setIfInBounds q.b ob)[q.b]? = some ob := fun ob => by
            have := (r.dom rr q hq).2
            rw [Array.getElem?_setIfInBounds_self]
            simp [this]
          have fin : ∀ (res' : Array MapEntry) (cl' : Nat), EntRel φ (putK (opd t k') (opd t x') es) res'.toList →
              (execOp a.eval o).run P w = .ok .skip { w with heap := w.heap.setIfInBounds q.b (.map res' cl') } →
              Good P G B φ h w (execOp a.eval o) (.u (h.set rr (.map (putK (opd t k') (opd t x') es)))) := by
            intro res' cl' h1 h2
            obtain ⟨hrel, hbel⟩ := r.setObj (ob := .map res' cl') (k' := .map (putK (opd t k') (opd t x') es)) hg hq rfl rfl rfl rfl rfl
              ⟨res', cl', hget _, h1⟩ (fun _ _ _ _ _ e => by cases e)
            exact ⟨_, φ, h2, ExtN.refl _ φ, hrel, hbel⟩
          have hexec : execOp a.eval o = (do Instr.mapUpdate ty (a.eval m) (a.eval k) (a.eval x); pure .skip) := by
            rcases ho with ho | ho <;> simp only [execOp, ho]
          rcases findK_rel hkd hkey hk hd (i := 0) hent hf with ⟨q1, q2⟩ | ⟨x2, j, u, q1, q2, q3, ⟨e0, q4, q5⟩, q6⟩
          · subst q1
            refine fin (res.push { key := a.eval k, val := a.eval x, born := cl }) (cl + 1) (by simpa using EntRel.push hk hx hent hf) ?_
            rw [hexec]
            simp [Instr.mapUpdate, hv, run_underlying hu, run_getObj_mp hb, run_checkKey hkd, Instr.findKey, run_underlying hd, q2, run_setObj_mp _ hb]
          · refine fin (res.modify j fun e => { e with key := a.eval k, val := a.eval x }) cl (by simpa using q6 _ _ _ hx hk) ?_
            rw [hexec]
            have hres : res[j]? = some e0 := by simpa using q4
            simp [Instr.mapUpdate, hv, run_underlying hu, run_getObj_mp hb, run_checkKey hkd, Instr.findKey, run_underlying hd, q2, run_setObj_mp _ hb, hres, Instr.keyThatStays, sameBits_of q5]
        · cases hr
      · cases hr
    · cases hr
  · cases hc

end
end Go.Sim
