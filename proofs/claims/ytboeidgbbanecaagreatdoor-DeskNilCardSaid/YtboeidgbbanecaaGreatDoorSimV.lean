/- Operations, fifth part: append, rows made with a length, maps, assertions, numbers and texts compared, conversions. -/
import Derived.Test.YtboeidgbbanecaaGreatDoorSimZ
namespace Go.Sim
open Go.RowKit

section
variable {P : Program} {G : Gl} {B : Nat} {φ : Phi} {h : H} {w : World} {t : List V} {a : Act} {o : Oper} {op : AOp} {res : OR}

/-! Numbers. -/

theorem eqK_iff {a b : IntKind} : eqK a b = true ↔ a = b := by
  cases a <;> cases b <;> simp [eqK, IntKind.ctorIdx]

theorem eqI_eq (a b : Int) : eqI a b = (a == b) := by
  cases a <;> cases b <;> rw [Bool.eq_iff_iff] <;> simp only [eqI, Nat.beq_eq, beq_iff_eq, Int.ofNat.injEq, Int.negSucc.injEq, reduceCtorEq, Bool.false_eq_true]

theorem ltI_eq (a b : Int) : ltI a b = decide (a < b) := by
  cases a <;> cases b <;> rw [Bool.eq_iff_iff] <;> simp only [ltI, Nat.blt_eq, decide_eq_true_eq, Int.ofNat_eq_natCast, Bool.false_eq_true, Int.negSucc_eq, true_iff, false_iff] <;> omega

theorem wrapK_eq (k : IntKind) (n : Int) : wrapK k n = k.wrap n := by
  cases n with
  | negSucc m => rfl
  | ofNat m =>
    simp only [wrapK, Bool.cond_eq_ite, Nat.blt_eq]
    split
    · rename_i h
      cases k <;> simp only [limK] at h <;> simp only [IntKind.wrap, IntKind.bits, IntKind.signed, Int.ofNat_eq_natCast] <;> (try rw [if_neg (by simp; omega)]) <;> (try simp) <;> omega
    · rfl

theorem pureOf_run {s : Sem Value} {v : V} (hp : pureOf s = some v) : ∃ k n, v = .i k n ∧ ∀ w, s.run P w = .ok (.int k n) w := by
  unfold pureOf at hp
  split at hp
  · rename_i k n
    simp only [mkI, forceI_eq, Option.some.injEq] at hp
    exact ⟨k, n, hp.symm, fun w => rfl⟩
  · cases hp

theorem eqN_iff : ∀ {a b : List Nat}, bin.eqN a b = true ↔ a = b
  | [], [] => by simp [bin.eqN]
  | [], _ :: _ => by simp [bin.eqN]
  | x :: xs, [] => by
    have : bin.eqN (x :: xs) [] = false := rfl
    simp [this]
  | x :: xs, y :: ys => by
    have e : bin.eqN (x :: xs) (y :: ys) = bif Nat.beq x y then bin.eqN xs ys else false := rfl
    rw [e]
    cases hb : Nat.beq x y with
    | true =>
      have := Nat.eq_of_beq_eq_true hb
      simp [this, eqN_iff (a := xs) (b := ys)]
    | false =>
      have := Nat.ne_of_beq_eq_false hb
      simp [this]

theorem natsOf_inj {s u : ByteArray} (h : natsOf s = natsOf u) : s = u := by
  unfold natsOf at h
  have : s.data.toList = u.data.toList := by
    generalize s.data.toList = l at h
    generalize u.data.toList = l' at h
    induction l generalizing l' with
    | nil => cases l' with
      | nil => rfl
      | cons => simp at h
    | cons x l ih => cases l' with
      | nil => simp at h
      | cons y l' =>
        simp only [List.map_cons, List.cons.injEq] at h
        rw [UInt8.toNat_inj.1 h.1, ih l' h.2]
  cases s; cases u
  simp only at this
  congr 1
  exact Array.toList_inj.1 this

theorem natsOf_append (s u : ByteArray) : natsOf (s ++ u) = natsOf s ++ natsOf u := by
  unfold natsOf
  rw [← List.map_append]
  congr 1

theorem strEq (s u : ByteArray) : (s.toList == u.toList) = bin.eqN (natsOf s) (natsOf u) := by
  rw [Bool.eq_iff_iff, eqN_iff, beq_iff_eq, ByteArray.toList_eq, ByteArray.toList_eq]
  constructor
  · intro h; unfold natsOf; rw [h]
  · intro h; rw [natsOf_inj h]

theorem good_bin (r : Rel G B φ h w) (ht : VRelL φ t a.tmps.toList) {b : BinOp} {ty ty' : TypeId} {x y : Operand} {x' y' : O} (ho : o.op = .binOp b ty x y ty')
    (hx : cO x = some x') (hy : cO y = some y') (hr : runOp G (opd t) h (.bin b x' y') = some res) : Good P G B φ h w (execOp a.eval o) res := by
  simp only [runOp, Option.map_eq_some_iff] at hr
  obtain ⟨v, hb, rfl⟩ := hr
  have hvx := eval_rel ht hx
  have hvy := eval_rel ht hy
  unfold bin at hb
  split at hb
  · rename_i k n k' n' e1 e2
    rw [e1] at hvx
    rw [e2] at hvy
    simp only [VRel] at hvx hvy
    have hex : ∀ (u : Value), (Go.binOp b ty (.int k n) (.int k' n')).run P w = .ok u w → (execOp a.eval o).run P w = .ok (.value u) w := by
      intro u hu
      have hg : (eqGuard b ty x y (.int k n) (.int k' n')).run P w = .ok () w := by
        cases b <;> simp [eqGuard]
      simp [execOp, ho, hvx, hvy, hg, hu]
    cases b <;> simp only [Bool.cond_eq_ite, mkI, mkB, forceI_eq, forceB_eq, eqK_iff, ltI_eq, eqI_eq, wrapK_eq, decide_eq_true_eq, beq_iff_eq] at hb
    case shl =>
      split at hb
      · cases hb
      · obtain ⟨k1, n1, rfl, hrun⟩ := pureOf_run (P := P) hb
        exact Good.val r (hex (.int k1 n1) (by simp [Go.binOp, hrun])) (by simp only [VRel])
    case shr =>
      split at hb
      · cases hb
      · obtain ⟨k1, n1, rfl, hrun⟩ := pureOf_run (P := P) hb
        exact Good.val r (hex (.int k1 n1) (by simp [Go.binOp, hrun])) (by simp only [VRel])
    case quo =>
      split at hb
      · rename_i hk
        subst hk
        split at hb
        · cases hb
        · obtain ⟨k1, n1, rfl, hrun⟩ := pureOf_run (P := P) hb
          exact Good.val r (hex (.int k1 n1) (by simp [Go.binOp, hrun])) (by simp only [VRel])
      · cases hb
    case rem =>
      split at hb
      · rename_i hk
        subst hk
        split at hb
        · cases hb
        · obtain ⟨k1, n1, rfl, hrun⟩ := pureOf_run (P := P) hb
          exact Good.val r (hex (.int k1 n1) (by simp [Go.binOp, hrun])) (by simp only [VRel])
      · cases hb
    case and =>
      split at hb
      · rename_i hk
        subst hk
        obtain ⟨k1, n1, rfl, hrun⟩ := pureOf_run (P := P) hb
        exact Good.val r (hex (.int k1 n1) (by simp [Go.binOp, hrun])) (by simp only [VRel])
      · cases hb
    case or =>
      split at hb
      · rename_i hk
        subst hk
        obtain ⟨k1, n1, rfl, hrun⟩ := pureOf_run (P := P) hb
        exact Good.val r (hex (.int k1 n1) (by simp [Go.binOp, hrun])) (by simp only [VRel])
      · cases hb
    case xor =>
      split at hb
      · rename_i hk
        subst hk
        obtain ⟨k1, n1, rfl, hrun⟩ := pureOf_run (P := P) hb
        exact Good.val r (hex (.int k1 n1) (by simp [Go.binOp, hrun])) (by simp only [VRel])
      · cases hb
    case andNot =>
      split at hb
      · rename_i hk
        subst hk
        obtain ⟨k1, n1, rfl, hrun⟩ := pureOf_run (P := P) hb
        exact Good.val r (hex (.int k1 n1) (by simp [Go.binOp, hrun])) (by simp only [VRel])
      · cases hb
    case add =>
      split at hb
      · rename_i hk; subst hk; cases hb
        exact Good.val r (hex (.int k (k.wrap (Int.add n n'))) (by simp [Go.binOp, Op.intArith])) (by simp only [VRel])
      · cases hb
    case sub =>
      split at hb
      · rename_i hk; subst hk; cases hb
        exact Good.val r (hex (.int k (k.wrap (Int.sub n n'))) (by simp [Go.binOp, Op.intArith]; rfl)) (by simp only [VRel])
      · cases hb
    case mul =>
      split at hb
      · rename_i hk; subst hk; cases hb
        exact Good.val r (hex (.int k (k.wrap (Int.mul n n'))) (by simp [Go.binOp, Op.intArith])) (by simp only [VRel])
      · cases hb
    case eql =>
      split at hb
      · rename_i hk; subst hk; cases hb
        exact Good.val r (hex (.bool (n == n')) (by simp [Go.binOp, Op.intCmp])) (by simp only [VRel])
      · cases hb
    case neq =>
      split at hb
      · rename_i hk; subst hk; cases hb
        exact Good.val r (hex (.bool (!(n == n'))) (by simp [Go.binOp, Op.intCmp]; rfl)) (by simp only [VRel])
      · cases hb
    case lss =>
      split at hb
      · rename_i hk; subst hk; cases hb
        exact Good.val r (hex (.bool (decide (n < n'))) (by simp [Go.binOp, Op.intCmp])) (by simp only [VRel])
      · cases hb
    case leq =>
      split at hb
      · rename_i hk; subst hk; cases hb
        exact Good.val r (hex (.bool (!(decide (n' < n)))) (by simp [Go.binOp, Op.intCmp]; rw [Bool.eq_iff_iff]; simp)) (by simp only [VRel])
      · cases hb
    case gtr =>
      split at hb
      · rename_i hk; subst hk; cases hb
        exact Good.val r (hex (.bool (decide (n' < n))) (by simp [Go.binOp, Op.intCmp])) (by simp only [VRel])
      · cases hb
    case geq =>
      split at hb
      · rename_i hk; subst hk; cases hb
        exact Good.val r (hex (.bool (!(decide (n < n')))) (by simp [Go.binOp, Op.intCmp]; rw [Bool.eq_iff_iff]; simp)) (by simp only [VRel])
      · cases hb
  · rename_i l1 l2 e1 e2
    rw [e1] at hvx
    rw [e2] at hvy
    simp only [VRel] at hvx hvy
    obtain ⟨s1, hv1, hs1⟩ := hvx
    obtain ⟨s2, hv2, hs2⟩ := hvy
    have hex : ∀ (u : Value), (Op.stringOp b s1 s2).run P w = .ok u w → (execOp a.eval o).run P w = .ok (.value u) w := by
      intro u hu
      have hg : (eqGuard b ty x y (.string s1) (.string s2)).run P w = .ok () w := by
        cases b <;> simp [eqGuard]
      have hbo : Go.binOp b ty (.string s1) (.string s2) = Op.stringOp b s1 s2 := by cases b <;> rfl
      simp [execOp, ho, hv1, hv2, hg, hbo, hu]
    have z1 := natsOf_length hs1
    have z2 := natsOf_length hs2
    split at hb
    · simp only [Bool.cond_eq_ite, Nat.ble_eq, forceL_eq] at hb
      split at hb
      · rename_i hlen
        cases hb
        refine Good.val r (hex (.string (s1 ++ s2)) ?_) (by simp only [VRel]; exact ⟨_, rfl, by rw [natsOf_append, hs1, hs2]⟩)
        have hm : IntKind.i64.max = 9223372036854775807 := by decide
        simp only [Op.stringOp, hm]
        rw [if_neg (by omega)]
        simp
      · cases hb
    · simp only [mkB, forceB_eq, Option.some.injEq] at hb
      subst hb
      exact Good.val r (hex (.bool (bin.eqN l1 l2)) (by simp [Op.stringOp, strEq, hs1, hs2])) (by simp only [VRel])
    · simp only [mkB, forceB_eq, Option.some.injEq] at hb
      subst hb
      exact Good.val r (hex (.bool (!(bin.eqN l1 l2))) (by simp [Op.stringOp, strEq, hs1, hs2])) (by simp only [VRel])
    · cases hb
  · cases hb

end
end Go.Sim
