/- A region in which any order may come up: what is known of it beforehand, and its own order step by step. -/
import Derived.Test.YtboeidgbbanecaaGreatDoorSimD0
import Derived.Orders
namespace Go.Sim
open Go.RowKit

theorem cOpers_get {P : Program} {ops : Array Oper} : ∀ {os : List Oper} {aos : List AOper}, cOpers P ops os = some aos → aos.length = os.length ∧
    ∀ (i : Nat) (o : Oper), os[i]? = some o → ∃ a : AOper, aos[i]? = some a ∧ cOp P o.op = some a.op ∧ a.dst = o.dst ∧ cGuard ops o.guard = some a.g
  | [], aos, h => by
    simp only [cOpers, Option.some.injEq] at h
    subst h
    exact ⟨rfl, fun i o ho => by simp at ho⟩
  | o :: os, aos, h => by
    simp only [cOpers] at h
    split at h <;> cases h
    rename_i aop g ys h1 h2 h3
    obtain ⟨q1, q2⟩ := cOpers_get h3
    refine ⟨by simp [q1], fun i o' ho => ?_⟩
    cases i with
    | zero => simp at ho; subst ho; exact ⟨_, by simp; rfl, h1, rfl, h2⟩
    | succ i => simpa using q2 i o' (by simpa using ho)

theorem befMask_bit {acc : List Nat} : ∀ {es : List Edge} {i : Nat}, (befMask acc es).testBit i = true → ∃ e ∈ es, i = e.on ∨ ((acc[e.on]?).getD 0).testBit i = true
  | [], i, h => by simp [befMask] at h
  | e :: es, i, h => by
    simp only [befMask, Nat.testBit_or, Bool.or_eq_true] at h
    rcases h with h | h | h
    · refine ⟨e, by simp, .inl ?_⟩
      rw [Nat.one_shiftLeft, Nat.testBit_two_pow] at h
      simpa using (of_decide_eq_true h).symm
    · exact ⟨e, by simp, .inr h⟩
    · obtain ⟨e', h1, h2⟩ := befMask_bit h
      exact ⟨e', by simp [h1], h2⟩

theorem befores_get : ∀ (os : List Oper) (acc : List Nat), (∃ X, befores os acc = acc ++ X) ∧
    ∀ (i : Nat) (o : Oper), os[i]? = some o → ∃ pre : List Nat, (befores os acc)[acc.length + i]? = some (befMask pre (o.after.toList.filter (Region.binds .any))) ∧ pre.length = acc.length + i ∧ ∃ X, befores os acc = pre ++ X
  | [], acc => ⟨⟨[], by simp [befores]⟩, fun i o h => by simp at h⟩
  | o :: os, acc => by
    obtain ⟨⟨X, hX⟩, h2⟩ := befores_get os (acc ++ [befMask acc (o.after.toList.filter (Region.binds .any))])
    simp only [befores]
    refine ⟨⟨[befMask acc (o.after.toList.filter (Region.binds .any))] ++ X, by rw [hX]; simp⟩, fun i o' ho => ?_⟩
    cases i with
    | zero =>
      simp at ho
      subst ho
      refine ⟨acc, ?_, rfl, _, by rw [hX, List.append_assoc]⟩
      rw [hX]
      simp
    | succ i =>
      obtain ⟨pre, q1, q2, q3⟩ := h2 i o' (by simpa using ho)
      refine ⟨pre, ?_, ?_, q3⟩
      · rw [← q1]; congr 1; simp; omega
      · rw [q2]; simp; omega

theorem backsOk_get : ∀ {os : List Oper} {k : Nat}, backsOk k os = true → ∀ (i : Nat) (o : Oper), os[i]? = some o → ∀ e ∈ o.after, Region.binds .any e = true → e.on < k + i
  | [], k, _, i, o, h => by simp at h
  | o :: os, k, hb, i, o', h => by
    simp only [backsOk, Bool.and_eq_true] at hb
    cases i with
    | zero =>
      simp at h
      subst h
      intro e he hbi
      have := hb.1
      unfold backOk at this
      rw [List.all_eq_true] at this
      have := this e (by simpa using he)
      simp [hbi] at this
      omega
    | succ i =>
      intro e he hbi
      have := backsOk_get hb.2 i o' (by simpa using h) e he hbi
      omega

theorem makesAllOk_get : ∀ {os : List Oper} {as' : List AOper}, makesAllOk os as' = true → ∀ (i : Nat) (o : Oper) (a : AOper), os[i]? = some o → as'[i]? = some a → makesOk o a = true
  | [], _, _, i, o, a, h, _ => by simp at h
  | _ :: _, [], _, i, o, a, _, h => by simp at h
  | o :: os, a :: as', hb, i, o', a', h, h' => by
    simp only [makesAllOk, Bool.and_eq_true] at hb
    cases i with
    | zero => simp at h h'; subst h; subst h'; exact hb.1
    | succ i => exact makesAllOk_get hb.2 i o' a' (by simpa using h) (by simpa using h')

/-- What is known beforehand. -/
structure Static (P : Program) (ops : Array Oper) (aos : List AOper) (bs : List Nat) : Prop where
  len : aos.length = ops.size
  at_ : ∀ (i : Nat) (o : Oper), ops[i]? = some o → cOp P o.op = some (opAt aos i).op ∧ (opAt aos i).dst = o.dst ∧ cGuard ops o.guard = some (opAt aos i).g ∧ makesOk o (opAt aos i) = true
  back : ∀ (i : Nat) (o : Oper), ops[i]? = some o → ∀ e ∈ o.after, Region.binds .any e = true → e.on < i
  bef : ∀ k i, isBef bs k i = true → ∃ (o : Oper) (e : Edge), ops[k]? = some o ∧ e ∈ o.after ∧ Region.binds .any e = true ∧ (i = e.on ∨ isBef bs e.on i = true)
  self : ∀ i d, i < aos.length → (opAt aos i).dst = some d → d ∉ (opAt aos i).looks
  eff : ∀ k, k < aos.length → (opAt aos k).op.isEff = true → (opAt aos k).g = none ∧ ∀ j, j < aos.length → (opAt aos j).op.isEff = true → j < k → isBef bs k j = true
  alloc : ∀ i, i < aos.length → (opAt aos i).op.isAlloc = true → ∀ k, k < aos.length → (opAt aos k).op.isEff = true → (k < i → isBef bs i k = true) ∧ (¬ k < i → (opAt aos k).op.isCall = true → isBef bs k i = true)
  slot : ∀ i k d, i < aos.length → k < aos.length → i ≠ k → (opAt aos i).dst = some d → (opAt aos k).dst ≠ some d ∧
    (d ∈ (opAt aos k).looks → isBef bs k i = true ∨ (isBef bs i k = true ∧ (opAt aos k).op.isChk = false))

theorem static_of {P : Program} {ops : Array Oper} {aos : List AOper} (hc : cOpers P ops ops.toList = some aos) (hd : drawOk ops.toList aos (befores ops.toList []) = true) :
    Static P ops aos (befores ops.toList []) := by
  obtain ⟨hlen, hget⟩ := cOpers_get hc
  unfold drawOk at hd
  simp only [Bool.and_eq_true, List.all_eq_true, List.mem_range] at hd
  obtain ⟨⟨hb, hm⟩, hall⟩ := hd
  have hopAt : ∀ i a, aos[i]? = some a → opAt aos i = a := fun i a h => by simp [opAt, h]
  have hback : ∀ i o, ops[i]? = some o → ∀ e ∈ o.after, Region.binds .any e = true → e.on < i := fun i o ho e he hbi => by
    have := backsOk_get hb i o (by rw [Array.getElem?_toList]; exact ho) e he hbi
    omega
  refine ⟨by simpa using hlen, fun i o ho => ?_, hback, fun k i h => ?_, fun i d hi hd => ?_, fun k hk he => ?_, fun i hi ha k hk he => ?_, fun i k d hi hk hne hd => ?_⟩
  · rw [← Array.getElem?_toList] at ho
    obtain ⟨a, ha, h1, h2, h3⟩ := hget i o ho
    rw [hopAt i a ha]
    exact ⟨h1, h2, h3, makesAllOk_get hm i o a ho ha⟩
  · unfold isBef at h
    rcases Nat.lt_or_ge k ops.size with hk | hk
    · have hok : ops.toList[k]? = some ops[k] := by rw [Array.getElem?_toList]; exact Array.getElem?_eq_getElem hk
      obtain ⟨pre, h1, h2, X, h3⟩ := (befores_get ops.toList []).2 k _ hok
      simp only [List.length_nil, Nat.zero_add] at h1 h2
      rw [h1] at h
      simp only [Option.getD_some] at h
      obtain ⟨e, he, hi⟩ := befMask_bit h
      rw [List.mem_filter] at he
      have hlt := hback k _ (by rw [← Array.getElem?_toList]; exact hok) e (by simpa using he.1) he.2
      refine ⟨_, e, by rw [← Array.getElem?_toList]; exact hok, by simpa using he.1, he.2, hi.imp id fun hi => ?_⟩
      unfold isBef
      rw [h3, List.getElem?_append_left (by omega)]
      exact hi
    · have : (befores ops.toList [])[k]? = none := by
        have hl : ∀ (os : List Oper) (acc : List Nat), (befores os acc).length = acc.length + os.length := by
          intro os
          induction os with
          | nil => intro acc; simp [befores]
          | cons o os ih => intro acc; simp only [befores, ih]; simp; omega
        refine List.getElem?_eq_none ?_
        rw [hl]
        simpa using hk
      rw [this] at h
      simp at h
  · have := (hall i hi).1.1.1
    unfold selfOk at this
    rw [hd] at this
    simpa using this
  · have := (hall k hk).1.1.2
    unfold effOk at this
    rw [he] at this
    simp only [Bool.not_true, Bool.false_or, Bool.and_eq_true, List.all_eq_true, List.mem_range] at this
    refine ⟨isNone_eq this.1, fun j hj hej hjk => ?_⟩
    have h2 := this.2 j hj
    have hb : Nat.blt j k = true := by simpa using hjk
    rw [hej, hb] at h2
    simpa using h2
  · have := (hall i hi).1.2
    unfold allocOk at this
    rw [ha] at this
    simp only [Bool.not_true, Bool.false_or, List.all_eq_true, List.mem_range] at this
    have h2 := this k hk
    rw [he] at h2
    simp only [Bool.not_true, Bool.false_or] at h2
    refine ⟨fun hlt => ?_, fun hlt hcall => ?_⟩
    · have hb : Nat.blt k i = true := by simpa using hlt
      rw [hb, cond_true] at h2
      exact h2
    · have hb : Nat.blt k i = false := by
        cases hbb : Nat.blt k i with
        | false => rfl
        | true => exact (hlt (by simpa using hbb)).elim
      rw [hb, cond_false, hcall] at h2
      simpa using h2
  · have := (hall i hi).2 k hk
    unfold slotOk at this
    have hb : Nat.beq i k = false := by
      cases hbb : Nat.beq i k with
      | false => rfl
      | true => exact (hne (Nat.eq_of_beq_eq_true hbb)).elim
    rw [hb, hd] at this
    simp only [Bool.false_or, Bool.and_eq_true, bne_iff_ne, ne_eq, Bool.or_eq_true, Bool.not_eq_true'] at this
    refine ⟨this.1, fun hin => ?_⟩
    rcases this.2 with (h | h) | h
    · have : (opAt aos k).looks.contains d = true := by simpa using hin
      rw [this] at h
      cases h
    · exact .inl h
    · exact .inr h

theorem Static.lt {P : Program} {ops : Array Oper} {aos : List AOper} {bs : List Nat} (hs : Static P ops aos bs) : ∀ k i, isBef bs k i = true → i < k := by
  intro k
  induction k using Nat.strongRecOn with
  | _ k ih =>
    intro i h
    obtain ⟨o, e, h1, h2, h3, h4⟩ := hs.bef k i h
    have := hs.back k o h1 e h2 h3
    rcases h4 with h4 | h4
    · omega
    · have := ih e.on this i h4; omega

/-! Its own order. -/

section
variable {G : Gl} {cf : Nat → List V → H → Option (Out × H)}

/-- One operation done. -/
def StepD (G : Gl) (cf : Nat → List V → H → Option (Out × H)) (o : AOper) (st st1 : St) : Prop :=
  (wantedA st.t o.g = false ∧ st1 = ⟨putT st.t o.dst V.un, st.h, st.d⟩) ∨
  (wantedA st.t o.g = true ∧ st.h.next ≤ st1.h.next ∧ st1.d = st.d ∧
    ((∃ x, runOp G (opd st.t) st.h o.op = some (.v x st1.h) ∧ st1.t = putT st.t o.dst x) ∨
     (runOp G (opd st.t) st.h o.op = some (.u st1.h) ∧ st1.t = putT st.t o.dst V.un) ∨
     (∃ f args x, runOp G (opd st.t) st.h o.op = some (.c f args) ∧ cf f args st.h = some (.ret x, st1.h) ∧ st1.t = putT st.t o.dst x ∧ o.op.isCall = true)))

def cntE (L : List (AOper × Nat × Nat)) (k : Nat) : Nat := (L.take k).countP fun p => p.1.op.isEff

theorem evDr_trace : ∀ (L : List (AOper × Nat × Nat)) (st : St) (hs : List H) (st' : St) (hs' : List H), evDr G cf L st hs = some (st', hs') → (∀ p ∈ L, p.1.op.isEff = true → p.1.g = none) →
    ∃ tr : Nat → St, tr 0 = st ∧ tr L.length = st' ∧ (∀ (i : Nat) (p : AOper × Nat × Nat), L[i]? = some p → StepD G cf p.1 (tr i) (tr (i + 1))) ∧ (∃ X, hs' = X ++ hs) ∧
      ∀ k, k ≤ L.length → (k = L.length ∨ ∃ p, L[k]? = some p ∧ p.1.op.isEff = true) → hs'.reverse[hs.length + cntE L k]? = some (tr k).h
  | [], st, hs, st', hs', h, _ => by
    simp only [evDr, Option.some.injEq, Prod.mk.injEq] at h
    obtain ⟨rfl, rfl⟩ := h
    refine ⟨fun _ => st, rfl, rfl, fun i p hp => by simp at hp, ⟨[st.h], rfl⟩, fun k hk _ => ?_⟩
    simp [cntE]
  | (o, lo, hi) :: os, st, hs, st', hs', h, hg => by
    have hgo := hg (o, lo, hi) (by simp)
    simp only at hgo
    have main : ∀ st1 : St, StepD G cf o st st1 → evDr G cf os st1 (bif o.op.isEff then st.h :: hs else hs) = some (st', hs') →
        ∃ tr : Nat → St, tr 0 = st ∧ tr ((o, lo, hi) :: os).length = st' ∧ (∀ (i : Nat) (p : AOper × Nat × Nat), ((o, lo, hi) :: os)[i]? = some p → StepD G cf p.1 (tr i) (tr (i + 1))) ∧ (∃ X, hs' = X ++ hs) ∧
          ∀ k, k ≤ ((o, lo, hi) :: os).length → (k = ((o, lo, hi) :: os).length ∨ ∃ p, ((o, lo, hi) :: os)[k]? = some p ∧ p.1.op.isEff = true) → hs'.reverse[hs.length + cntE ((o, lo, hi) :: os) k]? = some (tr k).h := by
      intro st1 hstep he
      obtain ⟨tr, t0, tn, ts, ⟨X, tX⟩, th⟩ := evDr_trace os st1 _ st' hs' he fun p hp => hg p (by simp [hp])
      refine ⟨fun i => match i with | 0 => st | i + 1 => tr i, rfl, by simpa using tn, fun i p hp => ?_, ?_, fun k hk hke => ?_⟩
      · cases i with
        | zero => simp at hp; subst hp; simp only; rw [t0]; exact hstep
        | succ i => exact ts i p (by simpa using hp)
      · cases hee : o.op.isEff with
        | true => rw [hee, cond_true] at tX; exact ⟨X ++ [st.h], by rw [tX]; simp⟩
        | false => rw [hee, cond_false] at tX; exact ⟨X, tX⟩
      · cases k with
        | zero =>
          rcases hke with hke | ⟨p, hp, hpe⟩
          · simp at hke
          · simp at hp
            subst hp
            simp only at hpe
            rw [hpe, cond_true] at tX
            simp only [cntE, List.take_zero, List.countP_nil, Nat.add_zero]
            rw [tX]
            simp
        | succ k =>
          have h1 := th k (by simpa using hk) (by simpa using hke)
          simp only
          rw [← h1]
          congr 1
          simp only [cntE, List.take_succ_cons, List.countP_cons]
          cases hee : o.op.isEff <;> simp <;> omega
    simp only [evDr, forceV_eq, forceH_eq, putF_eq, forceVs_eq] at h
    cases hw : wantedA st.t o.g with
    | false =>
      rw [hw, cond_false] at h
      have hne : o.op.isEff = false := by
        cases hee : o.op.isEff with
        | false => rfl
        | true => rw [hgo hee] at hw; simp [wantedA] at hw
      refine main _ (.inl ⟨hw, rfl⟩) ?_
      rw [hne, cond_false]
      exact h
    | true =>
      rw [hw, cond_true] at h
      split at h
      · rename_i x h1 hr
        cases hb : Nat.ble st.h.next h1.next <;> rw [hb] at h
        · cases h
        · exact main ⟨putT st.t o.dst x, h1, st.d⟩ (.inr ⟨hw, by simpa using hb, rfl, .inl ⟨x, hr, rfl⟩⟩) h
      · rename_i h1 hr
        cases hb : Nat.ble st.h.next h1.next <;> rw [hb] at h
        · cases h
        · exact main ⟨putT st.t o.dst V.un, h1, st.d⟩ (.inr ⟨hw, by simpa using hb, rfl, .inr (.inl ⟨hr, rfl⟩)⟩) h
      · rename_i f args hr
        cases hic : o.op.isCall with
        | false => rw [hic] at h; cases h
        | true =>
        rw [hic] at h
        simp only [Bool.not_true, cond_false] at h
        split at h
        · rename_i x h1 hcf
          cases hb : Nat.ble st.h.next h1.next <;> rw [hb] at h
          · cases h
          · exact main ⟨putT st.t o.dst x, h1, st.d⟩ (.inr ⟨hw, by simpa using hb, rfl, .inr (.inr ⟨f, args, x, hr, hcf, rfl, hic⟩)⟩) h
        · cases h
      · cases h

theorem sameFrom_get {t : List V} {o : AOper} : ∀ {hs : List H} {m lo hi : Nat}, sameFrom G t o m lo hi hs = true → ∀ (j : Nat) (h : H), hs[j]? = some h → lo ≤ m + j → m + j ≤ hi → sameAt G t o h = true
  | [], m, lo, hi, _, j, h, hj, _, _ => by simp at hj
  | h0 :: hs, m, lo, hi, hb, j, h, hj, h1, h2 => by
    simp only [sameFrom, Bool.and_eq_true] at hb
    cases j with
    | zero =>
      simp at hj
      subst hj
      have hb1 : (Nat.ble lo m && Nat.ble m hi) = true := by simp; omega
      have := hb.1
      rw [hb1, cond_true] at this
      exact this
    | succ j => exact sameFrom_get hb.2 j h (by simpa using hj) (by omega) (by omega)

theorem sameAll_get {t : List V} {hs : List H} : ∀ {L : List (AOper × Nat × Nat)}, sameAll G t hs L = true → ∀ (i : Nat) (p : AOper × Nat × Nat), L[i]? = some p → p.1.op.isChk = true → wantedA t p.1.g = true → sameFrom G t p.1 0 p.2.1 p.2.2 hs = true
  | [], _, i, p, hp, _, _ => by simp at hp
  | (o, lo, hi) :: L, hb, i, p, hp, h1, h2 => by
    simp only [sameAll, Bool.and_eq_true] at hb
    cases i with
    | zero =>
      simp at hp
      subst hp
      have := hb.1
      simp only at h1 h2
      rw [h1, h2] at this
      exact this
    | succ i => exact sameAll_get hb.2 i p (by simpa using hp) h1 h2

theorem wins_get {aos : List AOper} {bs : List Nat} {i : Nat} (hi : i < aos.length) : (wins aos bs)[i]? = some (opAt aos i, winOf aos bs i) := by
  simp [wins, hi]

theorem wins_length {aos : List AOper} {bs : List Nat} : (wins aos bs).length = aos.length := by simp [wins]

theorem cntE_wins {aos : List AOper} {bs : List Nat} {k : Nat} (hk : k ≤ aos.length) : cntE (wins aos bs) k = (List.range aos.length).countP fun j => (opAt aos j).op.isEff && decide (j < k) := by
  unfold cntE wins
  obtain ⟨m, hm⟩ := Nat.exists_eq_add_of_le hk
  rw [← List.map_take, List.countP_map, hm, List.range_add, List.countP_append]
  have h1 : (List.range k ++ List.map (fun x => k + x) (List.range m)).take k = List.range k := by
    rw [List.take_append_of_le_length (by simp)]
    exact List.take_of_length_le (by simp)
  have h2 : (List.map (fun x => k + x) (List.range m)).countP (fun j => (opAt aos j).op.isEff && decide (j < k)) = 0 := by
    rw [List.countP_eq_zero]
    intro x hx
    rw [List.mem_map] at hx
    obtain ⟨y, _, rfl⟩ := hx
    simp
  rw [h1, h2, Nat.add_zero]
  refine List.countP_congr fun x hx => ?_
  rw [List.mem_range] at hx
  simp [hx]

end
end Go.Sim
