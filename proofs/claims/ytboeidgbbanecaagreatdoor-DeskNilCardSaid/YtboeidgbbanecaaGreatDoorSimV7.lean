/- Operations, eleventh part: comparisons. -/
import Derived.Test.YtboeidgbbanecaaGreatDoorSimV6
import Derived.Laws.StructEq
import Derived.Laws.Cover3
import Derived.Laws.Pointers
namespace Go.Sim
open Go.RowKit

section
variable {P : Program} {G : Gl} {B : Nat} {φ : Phi} {h : H} {w : World} {t : List V} {a : Act} {o : Oper} {op : AOp} {res : OR}

theorem sizeT_some {ty : TypeId} {d : TypeDesc} (hd : P.underlying ty = some d) : ∃ n, sizeT P ty = some n := by
  unfold sizeT
  cases hi : P.info? ty with
  | some i => exact ⟨_, rfl⟩
  | none => simp [Program.underlying, hi] at hd

/-- Two fields of one plain type. -/
theorem equalIn_plain {ft : TypeId} {kd : Nat} (hk : keyKind P ft = some kd) {x y : V} {v u : Value} {b : Bool} (hkey : isKey kd x = true) (he : eqBase x y = some b) (hx : VRel φ x v) (hy : VRel φ y u) (n : Nat) :
    (Op.equalIn (n + 1) ft v u).run P w = .ok b w := by
  obtain ⟨d, hd, hs⟩ := sameNow_eq hk hkey hx hy he
  unfold keyKind at hk
  rw [hd] at hk
  cases d <;> cases v <;> cases u <;> simp only [Instr.sameNow, reduceCtorEq, Option.some.injEq] at hs
  · subst hs
    simp [Op.equalIn, run_underlying hd]
  · split at hs
    · rename_i hkk
      cases hs
      simp [Op.equalIn, run_underlying hd, hkk]
    · cases hs
  · subst hs
    simp [Op.equalIn, run_underlying hd]

theorem eqFields_rel {vs us : List Value} {xs ys : List V} (hx : VRelL φ xs vs) (hy : VRelL φ ys us) (n : Nat) : ∀ {fs : List Field} {ks : List Nat} {i : Nat} {b : Bool}, flatFields P i fs = true → fieldKinds P fs = some ks →
    eqList ks (xs.drop i) (ys.drop i) = some b → (Op.eqFields (n + 1) ⟨vs⟩ ⟨us⟩ fs).run P w = .ok b w
  | [], ks, i, b, _, hk, he => by
    simp only [fieldKinds, Option.some.injEq] at hk
    subst hk
    unfold eqList at he
    split at he
    · cases he; simp [Op.eqFields]
    · rename_i e _ _; cases e
    · cases he
  | f :: fs, ks, i, b, hf, hk, he => by
    simp only [flatFields, Bool.and_eq_true, bne_iff_ne, ne_eq, beq_iff_eq] at hf
    obtain ⟨⟨⟨f1, f2⟩, f3⟩, f4⟩ := hf
    simp only [fieldKinds] at hk
    split at hk
    rotate_left
    · cases hk
    rename_i k ks' hk1 hk2
    cases hk
    unfold eqList at he
    split at he
    · rename_i e _ _; cases e
    · rename_i k' ks' x xs' y ys' e1 e2 e3
      cases e1
      simp only [Bool.cond_eq_ite] at he
      split at he
      rotate_left
      · cases he
      rename_i hkey
      have gx : xs[i]? = some x := by
        have := congrArg (fun l => l[0]?) e2
        simpa using this
      have gy : ys[i]? = some y := by
        have := congrArg (fun l => l[0]?) e3
        simpa using this
      have dx : xs.drop (i + 1) = xs' := by
        have := congrArg (List.drop 1) e2
        simpa [List.drop_drop] using this
      have dy : ys.drop (i + 1) = ys' := by
        have := congrArg (List.drop 1) e3
        simpa [List.drop_drop] using this
      obtain ⟨d, hd⟩ := keyKind_some hk1
      obtain ⟨m, hm⟩ := sizeT_some hd
      have hg : aggT P f.type = some false := by
        unfold aggT plainT at *
        rw [hd] at f1 ⊢
        cases d <;> simp at f1 ⊢
      obtain ⟨v, p1, p2⟩ := (part_rel hg hm hx f.offset w).2 rfl x (f3 ▸ gx)
      obtain ⟨u, q1, q2⟩ := (part_rel hg hm hy f.offset w).2 rfl y (f3 ▸ gy)
      split at he
      · rename_i hb
        have h1 := equalIn_plain (w := w) hk1 hkey hb p2 q2 n
        have h2 := eqFields_rel hx hy n f4 hk2 (i := i + 1) (b := b) (by rw [dx, dy]; exact he)
        simp [Op.eqFields, f2, p1, q1, h1, h2]
      · rename_i hb
        cases he
        have h1 := equalIn_plain (w := w) hk1 hkey hb p2 q2 n
        simp [Op.eqFields, f2, p1, q1, h1]
      · cases he
    · cases he

set_option maxHeartbeats 2000000 in
theorem eqv_rel {ty : TypeId} {d : TypeDesc} {kd : Nat} {ks : List Nat} {cst : Bool} {x y : V} {v u : Value} {b : Bool} {op : BinOp} {ox oy : Operand} (hd : P.underlying ty = some d) (hk : eqKind P ty d = some kd) (hks : eqKinds P d = some ks)
    (he : eqv kd ks cst x y = some b) (hx : VRel φ x v) (hy : VRel φ y u) (hc : cst = (isConstO ox || isConstO oy)) :
    (eqGuard op ty ox oy v u).run P w = .ok () w ∧ (Op.equal ty v u).run P w = .ok b w ∧ Go.binOp .eql ty v u = (do pure (.bool (← Op.equal ty v u))) ∧ Go.binOp .neq ty v u = (do pure (.bool (!(← Op.equal ty v u)))) := by
  obtain ⟨nn, hn⟩ : ∃ n, ∀ v u, Op.equal ty v u = Op.equalIn (n + 1 + 1) ty v u := ⟨9998, fun _ _ => rfl⟩
  unfold eqKind at hk
  cases d with
  | bool =>
    cases hk
    unfold eqv at he
    split at he <;> simp only [Bool.cond_eq_ite, Nat.beq_eq, Bool.and_eq_true, reduceCtorEq, if_false, if_true, false_and, Option.some.injEq] at he
    simp only [VRel] at hx hy
    subst hx hy
    refine ⟨by cases op <;> simp [eqGuard], ?_, rfl, rfl⟩
    rw [run_equal_bool w ty _ _ hd, he]
  | pointer e =>
    simp only at hk
    split at hk <;> cases hk
    rename_i n hsz
    unfold eqv at he
    split at he <;> simp only [Bool.cond_eq_ite, Nat.beq_eq, Bool.and_eq_true, reduceCtorEq, if_false, if_true, Nat.reduceEqDiff, false_and, true_and, Option.some.injEq] at he
    · simp only [VRel] at hx hy
      subst hx hy he
      exact ⟨by cases op <;> simp [eqGuard], by rw [hn]; simp [Op.equalIn, run_underlying hd], rfl, rfl⟩
    · simp only [VRel] at hx hy
      obtain ⟨q, hq, rfl⟩ := hy
      subst hx he
      exact ⟨by cases op <;> simp [eqGuard], by rw [hn]; simp [Op.equalIn, run_underlying hd], rfl, rfl⟩
    · simp only [VRel] at hx hy
      obtain ⟨q, hq, rfl⟩ := hx
      subst hy he
      exact ⟨by cases op <;> simp [eqGuard], by rw [hn]; simp [Op.equalIn, run_underlying hd], rfl, rfl⟩
    · split at he <;> cases he
      rename_i b1 o1 b2 o2 hb
      subst hb
      simp only [VRel] at hx hy
      obtain ⟨q, hq, rfl⟩ := hx
      obtain ⟨q', hq', rfl⟩ := hy
      rw [hq] at hq'; cases hq'
      refine ⟨by cases op <;> simp [eqGuard], ?_, rfl, rfl⟩
      rw [hn]
      have hab : ((⟨q.b, q.o + o1, none⟩ : Addr) == ⟨q.b, q.o + o2, none⟩) = Nat.beq o1 o2 := by
        rw [Bool.eq_iff_iff, beq_iff_eq, Nat.beq_eq, Addr.mk.injEq]
        constructor
        · intro ⟨_, h1, _⟩; omega
        · intro h1; exact ⟨rfl, by omega, rfl⟩
      simp only [Op.equalIn, Sem.run_bind, run_underlying hd, run_sizeOf_of hsz, Result.andThen_ok]
      rw [if_pos (Nat.succ_ne_zero n)]
      simp only [sameAddr, beq_self_eq_true, if_true]
      rw [hab]
      rfl
  | slice e =>
    cases hk
    unfold eqv at he
    split at he <;> simp only [Bool.cond_eq_ite, Nat.beq_eq, Bool.and_eq_true, reduceCtorEq, if_false, if_true, Nat.reduceEqDiff, false_and, Option.some.injEq] at he
    · simp only [VRel] at hx hy
      subst hx hy he
      exact ⟨by cases op <;> simp [eqGuard], by rw [hn]; simp [Op.equalIn, run_underlying hd], rfl, rfl⟩
    · simp only [VRel] at hx hy
      obtain ⟨q, ad, c, hq, rfl, _⟩ := hy
      subst hx he
      exact ⟨by cases op <;> simp [eqGuard], by rw [hn]; simp [Op.equalIn, run_underlying hd], rfl, rfl⟩
    · simp only [VRel] at hx hy
      obtain ⟨q, ad, c, hq, rfl, _⟩ := hx
      subst hy he
      exact ⟨by cases op <;> simp [eqGuard], by rw [hn]; simp [Op.equalIn, run_underlying hd], rfl, rfl⟩
  | map kt e =>
    cases hk
    unfold eqv at he
    split at he <;> simp only [Bool.cond_eq_ite, Nat.beq_eq, Bool.and_eq_true, reduceCtorEq, if_false, if_true, Nat.reduceEqDiff, false_and, Option.some.injEq] at he
    · simp only [VRel] at hx hy
      subst hx hy he
      exact ⟨by cases op <;> simp [eqGuard], by rw [hn]; simp [Op.equalIn, run_underlying hd], rfl, rfl⟩
    · simp only [VRel] at hx hy
      obtain ⟨q, hq, rfl⟩ := hy
      subst hx he
      exact ⟨by cases op <;> simp [eqGuard], by rw [hn]; simp [Op.equalIn, run_underlying hd], rfl, rfl⟩
    · simp only [VRel] at hx hy
      obtain ⟨q, hq, rfl⟩ := hx
      subst hy he
      exact ⟨by cases op <;> simp [eqGuard], by rw [hn]; simp [Op.equalIn, run_underlying hd], rfl, rfl⟩
  | func ps rs vr =>
    cases hk
    unfold eqv at he
    split at he <;> simp only [Bool.cond_eq_ite, Nat.beq_eq, Bool.and_eq_true, reduceCtorEq, if_false, if_true, Nat.reduceEqDiff, false_and, Option.some.injEq] at he
    · simp only [VRel] at hx hy
      subst hx hy he
      exact ⟨by cases op <;> simp [eqGuard], by rw [hn]; simp [Op.equalIn, run_underlying hd], rfl, rfl⟩
    · simp only [VRel] at hx hy
      obtain ⟨cs, rfl, _⟩ := hy
      subst hx he
      exact ⟨by cases op <;> simp [eqGuard], by rw [hn]; simp [Op.equalIn, run_underlying hd], rfl, rfl⟩
    · simp only [VRel] at hx hy
      obtain ⟨cs, rfl, _⟩ := hx
      subst hy he
      exact ⟨by cases op <;> simp [eqGuard], by rw [hn]; simp [Op.equalIn, run_underlying hd], rfl, rfl⟩
  | interface ms =>
    cases hk
    unfold eqv at he
    split at he <;> simp only [Bool.cond_eq_ite, Nat.beq_eq, Bool.and_eq_true, reduceCtorEq, if_false, if_true, Nat.reduceEqDiff, false_and, true_and, Option.some.injEq] at he
    · simp only [VRel] at hx hy
      obtain ⟨y, rfl, _⟩ := hy
      subst hx he
      exact ⟨by cases op <;> simp [eqGuard], by rw [hn]; simp [Op.equalIn, run_underlying hd], rfl, rfl⟩
    · simp only [VRel] at hx hy
      obtain ⟨y, rfl, _⟩ := hx
      subst hy he
      exact ⟨by cases op <;> simp [eqGuard], by rw [hn]; simp [Op.equalIn, run_underlying hd], rfl, rfl⟩
    · split at he <;> cases he
      rename_i hcst
      simp only [VRel] at hx hy
      subst hx hy
      refine ⟨?_, by rw [hn]; simp [Op.equalIn, run_underlying hd], rfl, rfl⟩
      rw [hcst] at hc
      cases ox <;> cases oy <;> simp [isConstO] at hc <;> cases op <;> simp [eqGuard]
  | struct fs =>
    simp only at hk
    split at hk <;> cases hk
    rename_i hflat
    unfold eqv at he
    split at he <;> simp only [Bool.cond_eq_ite, Nat.beq_eq, Bool.and_eq_true, reduceCtorEq, if_false, if_true, Nat.reduceEqDiff, false_and] at he
    simp only [VRel] at hx hy
    obtain ⟨vs, rfl, hvs⟩ := hx
    obtain ⟨us, rfl, hus⟩ := hy
    unfold flatT at hflat
    rw [hd] at hflat
    simp only [Bool.and_eq_true, Bool.not_eq_true'] at hflat
    obtain ⟨⟨f1, f2⟩, f3⟩ := hflat
    have hfo : P.fieldsOf ty = fs := by simp [Program.fieldsOf, hd]
    refine ⟨run_eqGuard_agg w op ty ox oy _ _ f3, ?_, rfl, rfl⟩
    rw [hn, run_equalIn_struct w _ ty _ _ (by rw [hfo]; exact hd) f2, hfo]
    exact eqFields_rel (w := w) hvs hus _ f1 hks he
  | _ => cases hk

theorem good_eqv (r : Rel G B φ h w) (ht : VRelL φ t a.tmps.toList) {b : BinOp} {ty ty' : TypeId} {x y : Operand} {x' y' : O} {d : TypeDesc} {kd : Nat} {ks : List Nat} {neg : Bool} (ho : o.op = .binOp b ty x y ty')
    (hb : b = if neg then .neq else .eql) (hx : cO x = some x') (hy : cO y = some y') (hd : P.underlying ty = some d) (hk : eqKind P ty d = some kd) (hks : eqKinds P d = some ks)
    (hr : runOp G (opd t) h (.eqv neg kd ks (isConstO x || isConstO y) x' y') = some res) : Good P G B φ h w (execOp a.eval o) res := by
  have hvx := eval_rel ht hx
  have hvy := eval_rel ht hy
  simp only [runOp, Option.map_eq_some_iff] at hr
  obtain ⟨b0, he, rfl⟩ := hr
  obtain ⟨h1, h2, h3, h4⟩ := eqv_rel (w := w) (op := b) hd hk hks he hvx hvy rfl
  refine Good.val r (v := .bool (b0 != neg)) ?_ (by simp only [VRel])
  cases neg
  · simp only [Bool.false_eq_true, if_false] at hb
    subst hb
    simp [execOp, ho, h1, h2, h3]
  · simp only [if_true] at hb
    subst hb
    simp [execOp, ho, h1, h2, h4]

end
end Go.Sim
