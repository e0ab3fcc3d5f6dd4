/- Operations, ninth part: calls, len, cap, copy, defer. -/
import Derived.Test.YtboeidgbbanecaaGreatDoorSimV4
namespace Go.Sim
open Go.RowKit

section
variable {P : Program} {G : Gl} {B : Nat} {φ : Phi} {h : H} {w : World} {t : List V} {a : Act} {o : Oper} {op : AOp} {res : OR}

theorem arr_eta {α : Type} (x : Array α) : (⟨x.toList⟩ : Array α) = x := by cases x; rfl

theorem arr_of {α : Type} {x : Array α} {l : List α} (h : x.toList = l) : x = ⟨l⟩ := by cases x; cases h; rfl

theorem good_callf (ht : VRelL φ t a.tmps.toList) {c : Call} (ho : o.op = .call c) {f : Nat} {xs : List O} (hcal : c.callee = .value (.func f)) (hxs : cOs c.args.toList = some xs) :
    Good P G B φ h w (execOp a.eval o) (.c f (xs.map (opd t))) := by
  refine ⟨c.args.toList.map a.eval, evals_rel ht hxs, ?_⟩
  have : (⟨c.args.toList.map a.eval⟩ : Array Value) = c.args.map a.eval := by
    apply Array.ext'; simp
  simp [execOp, ho, resolve, hcal, Act.eval, Deferred.ofValue, invoke, this]

theorem good_callv (ht : VRelL φ t a.tmps.toList) {c : Call} (ho : o.op = .call c) {x : Operand} {x' : O} {xs : List O} (hcal : c.callee = .value x) (hx : cO x = some x') (hxs : cOs c.args.toList = some xs)
    (hr : opCallv (opd t) x' xs = some res) : Good P G B φ h w (execOp a.eval o) res := by
  have hv := eval_rel ht hx
  unfold opCallv at hr
  split at hr
  · rename_i f caps e
    cases hr
    rw [e] at hv
    simp only [VRel] at hv
    obtain ⟨cs, hv, hcs⟩ := hv
    refine ⟨c.args.toList.map a.eval ++ cs, VRelL.append (evals_rel ht hxs) hcs, ?_⟩
    have : (⟨c.args.toList.map a.eval ++ cs⟩ : Array Value) = c.args.map a.eval ++ (⟨cs⟩ : Array Value) := by
      apply Array.ext'; simp
    simp [execOp, ho, resolve, hcal, hv, Deferred.ofValue, invoke, this]
  · cases hr

theorem good_defer (ht : VRelL φ t a.tmps.toList) {c : Call} (ho : o.op = .defer c) {x : Operand} {x' : O} {xs : List O} (hcal : c.callee = .value x) (hx : cO x = some x') (hxs : cOs c.args.toList = some xs)
    (hr : opDefer (opd t) x' xs = some res) : Good P G B φ h w (execOp a.eval o) res := by
  have hv := eval_rel ht hx
  unfold opDefer at hr
  split at hr
  · rename_i f caps e
    cases hr
    rw [e] at hv
    simp only [VRel] at hv
    obtain ⟨cs, hv, hcs⟩ := hv
    refine ⟨c.args.toList.map a.eval, cs, VRelL.append (evals_rel ht hxs) hcs, ?_⟩
    have : (⟨c.args.toList.map a.eval⟩ : Array Value) = c.args.map a.eval := by
      apply Array.ext'; simp
    simp [execOp, ho, resolve, hcal, hv, Deferred.ofValue, this]
  · cases hr

theorem EntRel.length {φ : Phi} : ∀ {xs : List (V × V)} {es : List MapEntry}, EntRel φ xs es → es.length = xs.length
  | [], _, h => by simp only [EntRel] at h; subst h; rfl
  | (_, _) :: xs, _, h => by
    simp only [EntRel] at h
    obtain ⟨e, es', rfl, _, _, h3⟩ := h
    simp [EntRel.length h3]

def lenKind : Nat → TypeDesc → Prop
  | 0, d => d = .string
  | 1, d => ∃ e, d = .slice e
  | 2, d => ∃ k e, d = .map k e
  | _, _ => False

theorem good_len (r : Rel G B φ h w) (ht : VRelL φ t a.tmps.toList) {c : Call} (ho : o.op = .call c) {x : Operand} {x' : O} {xt : TypeId} {d : TypeDesc} {kd : Nat} (hcal : c.callee = .builtin .len) (hargs : c.args = #[x]) (hat : c.argTypes = #[xt])
    (hx : cO x = some x') (hd : P.underlying xt = some d) (hdd : lenKind kd d)
    (hr : opLen (opd t) h kd x' = some res) : Good P G B φ h w (execOp a.eval o) res := by
  have hv := eval_rel ht hx
  have hexec : ∀ u w', (Builtin.len_ #[xt] o.type #[a.eval x]).run P w = .ok u w' → (execOp a.eval o).run P w = .ok (.value u) w' := by
    intro u w' hu
    simp [execOp, ho, resolve, hcal, hargs, invoke, builtin, hat, hu]
  unfold opLen at hr
  simp only [Bool.cond_eq_ite, Nat.beq_eq, forceN_eq] at hr
  split at hr
  · rename_i l e
    split at hr <;> cases hr
    rename_i hk
    subst hk
    simp only [lenKind] at hdd
    subst hdd
    rw [e] at hv
    simp only [VRel] at hv
    obtain ⟨s, hv, hs⟩ := hv
    refine Good.val r (hexec (.int .i64 s.size) _ ?_) (by simp only [VRel]; rw [← natsOf_length hs]; rfl)
    simp [Builtin.len_, run_underlying hd, hv, goInt]
  · rename_i e
    split at hr <;> cases hr
    rename_i hk
    subst hk
    simp only [lenKind] at hdd
    obtain ⟨et, rfl⟩ := hdd
    rw [e] at hv
    simp only [VRel] at hv
    refine Good.val r (hexec (.int .i64 0) _ ?_) (by simp only [VRel])
    simp [Builtin.len_, run_underlying hd, hv, goInt]
  · rename_i b k n z ex e
    split at hr <;> cases hr
    rename_i hk
    subst hk
    simp only [lenKind] at hdd
    obtain ⟨et, rfl⟩ := hdd
    rw [e] at hv
    simp only [VRel] at hv
    obtain ⟨q, ad, cp, _, hv, _⟩ := hv
    refine Good.val r (hexec (.int .i64 n) _ ?_) (by simp only [VRel]; rfl)
    simp [Builtin.len_, run_underlying hd, hv, goInt]
  · rename_i e
    split at hr <;> cases hr
    rename_i hk
    subst hk
    simp only [lenKind] at hdd
    obtain ⟨kt, et, rfl⟩ := hdd
    rw [e] at hv
    simp only [VRel] at hv
    refine Good.val r (hexec (.int .i64 0) _ ?_) (by simp only [VRel])
    simp [Builtin.len_, run_underlying hd, hv, goInt]
  · rename_i rr e
    split at hr
    rotate_left
    · cases hr
    rename_i hk
    subst hk
    simp only [lenKind] at hdd
    obtain ⟨kt, et, rfl⟩ := hdd
    rw [e] at hv
    simp only [VRel] at hv
    obtain ⟨q, hq, hv⟩ := hv
    split at hr
    · rename_i es hg
      cases hr
      obtain ⟨res, cl, hb, hent⟩ := r.blk rr _ q hg hq
      refine Good.val r (hexec (.int .i64 res.size) _ ?_) (by simp only [VRel]; rw [← hent.length]; simp)
      simp [Builtin.len_, run_underlying hd, hv, goInt, run_getObj_mp hb]
    · cases hr
  · cases hr

theorem good_cap (r : Rel G B φ h w) (ht : VRelL φ t a.tmps.toList) {c : Call} (ho : o.op = .call c) {x : Operand} {x' : O} {xt e : TypeId} (hcal : c.callee = .builtin .cap) (hargs : c.args = #[x]) (hat : c.argTypes = #[xt])
    (hx : cO x = some x') (hd : P.underlying xt = some (.slice e))
    (hr : opCap (opd t) h x' = some res) : Good P G B φ h w (execOp a.eval o) res := by
  have hv := eval_rel ht hx
  have hexec : ∀ u w', (Builtin.cap_ #[xt] o.type #[a.eval x]).run P w = .ok u w' → (execOp a.eval o).run P w = .ok (.value u) w' := by
    intro u w' hu
    simp [execOp, ho, resolve, hcal, hargs, invoke, builtin, hat, hu]
  unfold opCap at hr
  split at hr
  · rename_i e
    cases hr
    rw [e] at hv
    simp only [VRel] at hv
    refine Good.val r (hexec (.int .i64 0) _ ?_) (by simp only [VRel])
    simp [Builtin.cap_, run_underlying hd, hv, goInt]
  · rename_i b k n z e
    cases hr
    rw [e] at hv
    simp only [VRel] at hv
    obtain ⟨q, ad, cp, _, hv, _, hex, _⟩ := hv
    have := hex trivial
    subst this
    refine Good.val r (hexec (.int .i64 cp) _ ?_) (by simp only [VRel]; rfl)
    simp [Builtin.cap_, run_underlying hd, hv, goInt]
  · cases hr

theorem good_sdata (r : Rel G B φ h w) (ht : VRelL φ t a.tmps.toList) {c : Call} (ho : o.op = .call c) {x : Operand} {x' : O} (hcal : c.callee = .builtin .unsafeSliceData) (hargs : c.args = #[x])
    (hx : cO x = some x') (hr : opSdata (opd t) h x' = some res) : Good P G B φ h w (execOp a.eval o) res := by
  have hv := eval_rel ht hx
  have hexec : ∀ u w', (Builtin.unsafeSliceData_ c.argTypes o.type #[a.eval x]).run P w = .ok u w' → (execOp a.eval o).run P w = .ok (.value u) w' := by
    intro u w' hu
    simp [execOp, ho, resolve, hcal, hargs, invoke, builtin, hu]
  unfold opSdata at hr
  split at hr
  · rename_i e
    cases hr
    rw [e] at hv
    simp only [VRel] at hv
    refine Good.val r (hexec (.pointer none) _ ?_) (by simp only [VRel])
    rw [hv]; rfl
  · rename_i b k n z ex e
    simp only [Bool.cond_eq_ite, Nat.beq_eq] at hr
    split at hr
    · cases hr
    rename_i hn
    cases hr
    rw [e] at hv
    simp only [VRel] at hv
    obtain ⟨q, ad, cp, hq, hv, hnc, _, hor⟩ := hv
    rcases hor with h' | ⟨rfl, _⟩
    · omega
    refine Good.val r (hexec (.pointer (some ⟨q.b, q.o + k, none⟩)) _ ?_) (by simp only [VRel]; exact ⟨q, hq, rfl⟩)
    have : cp ≠ 0 := by omega
    rw [hv]
    show (Sem.run P (if cp ≠ 0 then (pure (Value.pointer (some ⟨q.b, q.o + k, none⟩)) : Sem Value) else _) w) = _
    rw [if_pos this]
    rfl
  · cases hr

theorem good_copy (r : Rel G B φ h w) (ht : VRelL φ t a.tmps.toList) {c : Call} (ho : o.op = .call c) {d s : Operand} {d' s' : O} {dt st e : TypeId} {z : Nat} (hcal : c.callee = .builtin .copy) (hargs : c.args = #[d, s]) (hat : c.argTypes = #[dt, st])
    (hd : cO d = some d') (hs : cO s = some s') (hdt : P.underlying dt = some (.slice e)) (hz : sizeT P e = some z) (hz0 : 0 < z)
    (hr : opCopy (opd t) h z d' s' = some res) : Good P G B φ h w (execOp a.eval o) res := by
  have hvd := eval_rel ht hd
  have hvs := eval_rel ht hs
  have hexec : ∀ u w', (Builtin.copy_ #[dt, st] o.type #[a.eval d, a.eval s]).run P w = .ok u w' → (execOp a.eval o).run P w = .ok (.value u) w' := by
    intro u w' hu
    simp [execOp, ho, resolve, hcal, hargs, invoke, builtin, hat, hu]
  unfold opCopy at hr
  split at hr
  · cases hr
  rename_i news hnews
  obtain ⟨m, vs, hm1, hm2, hm3, hm4, hm5⟩ := newsOf_rel (P := P) r hvs hnews hz0
  split at hr
  · rename_i e1
    cases hr
    rw [e1] at hvd
    simp only [VRel] at hvd
    refine Good.val r (hexec (.int .i64 0) _ ?_) (by simp only [VRel])
    have h0 := hm5 0 (Nat.zero_le _)
    simp only [Nat.zero_mul, List.take_zero] at h0
    simp [Builtin.copy_, run_underlying hdt, hvd, hm4, run_sizeOf_of hz, h0, goInt]
  · rename_i b k n z' ex e1
    simp only [Bool.cond_eq_ite, Bool.or_eq_true, Bool.not_eq_true', forceN_eq, Nat.beq_eq] at hr
    split at hr
    · cases hr
    rename_i hcond
    rw [e1] at hvd
    simp only [VRel] at hvd
    obtain ⟨q, ad, cp, hq, hv, hnc, _, hor⟩ := hvd
    have hmq : news.length / z = m := by rw [hm1]; exact Nat.mul_div_cancel _ hz0
    rw [hmq, Option.map_eq_some_iff] at hr
    obtain ⟨h', hst, rfl⟩ := hr
    have hmin : Nat.min m n ≤ m := Nat.min_le_left _ _
    have hrel : VRelL φ (news.take (Nat.min m n * z)) (vs.take (Nat.min m n * z)) := hm2.take _
    obtain ⟨w', h1, h2, h3⟩ := storeAt_rel (P := P) r hst hq hrel
    refine ⟨.int .i64 (Nat.min m n), w', φ, hexec _ _ ?_, ExtN.refl _ φ, h2, by simp only [VRel]; rfl, h3⟩
    have h0 := hm5 _ hmin
    rcases hor with h' | ⟨rfl, _⟩
    · have hmn : Nat.min m n = 0 := by
        have : n = 0 := by omega
        rw [this]; exact Nat.min_eq_right (Nat.zero_le _)
      rw [hmn] at h0 h1 ⊢
      simp only [Nat.zero_mul, List.take_zero] at h0 h1
      have hw : w' = w := by
        simp [storeCells] at h1
        exact h1.symm
      subst hw
      simp [Builtin.copy_, run_underlying hdt, hv, hm4, run_sizeOf_of hz, h0, goInt, hmn, storeCells]
    · simp [Builtin.copy_, run_underlying hdt, hv, hm4, run_sizeOf_of hz, h0, goInt, h1]
  · cases hr

end
end Go.Sim
