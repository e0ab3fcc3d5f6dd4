/- A region in which any order may come up comes to what its own order comes to. -/
import Derived.Test.YtboeidgbbanecaaGreatDoorSimD1
import Derived.Test.YtboeidgbbanecaaGreatDoorSimF
namespace Go.Sim
open Go.RowKit

theorem next_eff (p : Nat → Bool) (n : Nat) : ∀ m i, n - i = m → i ≤ n → ∃ e, i ≤ e ∧ e ≤ n ∧ (e = n ∨ p e = true) ∧ ∀ j, i ≤ j → j < e → p j = false := by
  intro m
  induction m with
  | zero => intro i h1 h2; exact ⟨i, Nat.le_refl _, h2, .inl (by omega), fun j h3 h4 => by omega⟩
  | succ m ih =>
    intro i h1 h2
    cases hp : p i with
    | true => exact ⟨i, Nat.le_refl _, h2, .inr hp, fun j h3 h4 => by omega⟩
    | false =>
      obtain ⟨e, q1, q2, q3, q4⟩ := ih (i + 1) (by omega) (by omega)
      refine ⟨e, by omega, q2, q3, fun j h3 h4 => ?_⟩
      by_cases hj : j = i
      · subst hj; exact hp
      · exact q4 j (by omega) h4

theorem putT_length (t : List V) (dst : Option Nat) (x : V) : (putT t dst x).length = t.length := by
  cases dst <;> simp [putT]

theorem putT_other {t : List V} {dst : Option Nat} {x : V} {d : Nat} (h : dst ≠ some d) : (putT t dst x)[d]? = t[d]? := by
  cases dst with
  | none => rfl
  | some e =>
    simp only [putT]
    rw [List.getElem?_set_ne]
    intro he
    exact h (by rw [he])

theorem putT_same {t : List V} {d : Nat} {x : V} (h : d < t.length) : (putT t (some d) x)[d]? = some x := by
  simp only [putT]
  rw [List.getElem?_set_self h]

section
variable {P : Program} {G : Gl} {B : Nat} {cf : Nat → List V → H → Option (Out × H)} {ops : Array Oper} {aos : List AOper} {bs : List Nat} {tr : Nat → St}

/-- The heap that is made step by step, no effect among the steps, is seen in the same world. -/
theorem advance {φ : Phi} {w : World} (hstep : ∀ i, i < aos.length → StepD G cf (opAt aos i) (tr i) (tr (i + 1))) : ∀ m i, i + m ≤ aos.length → (∀ j, i ≤ j → j < i + m → (opAt aos j).op.isEff = false) → Rel G B φ (tr i).h w →
    Rel G B φ (tr (i + m)).h w ∧ ∀ j, i ≤ j → j < i + m → (opAt aos j).op.isAlloc = true → wantedA (tr j).t (opAt aos j).g = true → φ (tr j).h.next = none := by
  intro m
  induction m with
  | zero => intro i _ _ r; exact ⟨r, fun j h1 h2 => by omega⟩
  | succ m ih =>
    intro i hm hne r
    obtain ⟨r1, h1⟩ := ih i (by omega) (fun j h1 h2 => hne j h1 (by omega)) r
    have hs := hstep (i + m) (by omega)
    have hn := hne (i + m) (by omega) (by omega)
    have r2 : Rel G B φ (tr (i + (m + 1))).h w := by
      rw [show i + (m + 1) = i + m + 1 from rfl]
      rcases hs with ⟨_, hs⟩ | ⟨_, _, _, hs⟩
      · rw [hs]; exact r1
      · have hkeep : ∀ res, runOp G (opd (tr (i + m)).t) (tr (i + m)).h (opAt aos (i + m)).op = some res → ∃ x h', res = .v x h' ∧ (h' = (tr (i + m)).h ∨ ∃ ty l, h' = (tr (i + m)).h.new (.cells ty true none l)) := by
          intro res hres
          cases hc : (opAt aos (i + m)).op.cls with
          | eff => simp [AOp.isEff, hc] at hn
          | pure =>
            obtain ⟨f, hf⟩ := pure_keep (G := G) (ρ := opd (tr (i + m)).t) hc
            rw [hf, Option.map_eq_some_iff] at hres
            obtain ⟨x, _, rfl⟩ := hres
            exact ⟨x, _, rfl, .inl rfl⟩
          | read =>
            obtain ⟨x, rfl⟩ := read_keep hc hres
            exact ⟨x, _, rfl, .inl rfl⟩
          | alloc =>
            obtain ⟨ty, l, x, hx⟩ := alloc_shape (by simp [AOp.isAlloc, hc]) hres
            rw [(hx _).1] at hres
            cases hres
            exact ⟨_, _, rfl, .inr ⟨ty, l, rfl⟩⟩
        rcases hs with ⟨x, hs, _⟩ | ⟨hs, _⟩ | ⟨f, args, x, hs, _⟩
        · obtain ⟨y, h', e, hh⟩ := hkeep _ hs
          cases e
          rcases hh with hh | ⟨ty, l, hh⟩
          · rw [hh]; exact r1
          · rw [hh, ← H.new_fm]; exact r1.unseen _ _ (FmOk.same rfl)
        · obtain ⟨y, h', e, _⟩ := hkeep _ hs; cases e
        · obtain ⟨y, h', e, _⟩ := hkeep _ hs; cases e
    refine ⟨r2, fun j h2 h3 ha hw => ?_⟩
    rcases Nat.lt_or_ge j (i + m) with hj | hj
    · exact h1 j h2 hj ha hw
    · have : j = i + m := by omega
      subst this
      exact r1.free

theorem tr_len (hstep : ∀ i, i < aos.length → StepD G cf (opAt aos i) (tr i) (tr (i + 1))) : ∀ k, k ≤ aos.length → (tr k).t.length = (tr 0).t.length := by
  intro k
  induction k with
  | zero => intro _; rfl
  | succ k ih =>
    intro hk
    rw [← ih (by omega)]
    rcases hstep k (by omega) with ⟨_, h⟩ | ⟨_, _, _, ⟨x, _, h⟩ | ⟨_, h⟩ | ⟨f, args, x, _, _, h, _⟩⟩
    · rw [h]; exact putT_length _ _ _
    all_goals rw [h]; exact putT_length _ _ _

theorem step_put {o : AOper} {s s1 : St} (h : StepD G cf o s s1) : ∃ x, s1.t = putT s.t o.dst x := by
  rcases h with ⟨_, h⟩ | ⟨_, _, _, ⟨x, _, h⟩ | ⟨_, h⟩ | ⟨f, args, x, _, _, h, _⟩⟩
  · exact ⟨_, by rw [h]⟩
  all_goals exact ⟨_, h⟩

theorem tr_next (hstep : ∀ i, i < aos.length → StepD G cf (opAt aos i) (tr i) (tr (i + 1))) : ∀ m k, k + m ≤ aos.length → (tr k).h.next ≤ (tr (k + m)).h.next := by
  intro m
  induction m with
  | zero => intro k _; exact Nat.le_refl _
  | succ m ih =>
    intro k hk
    refine Nat.le_trans (ih k (by omega)) ?_
    rcases hstep (k + m) (by omega) with ⟨_, h⟩ | ⟨_, h, _⟩
    · show _ ≤ (tr (k + m + 1)).h.next
      rw [h]
      exact Nat.le_refl _
    · exact h

theorem alloc_next (hstep : ∀ i, i < aos.length → StepD G cf (opAt aos i) (tr i) (tr (i + 1))) {i : Nat} (hi : i < aos.length) (ha : (opAt aos i).op.isAlloc = true) (hwi : wantedA (tr i).t (opAt aos i).g = true) :
    (tr i).h.next < (tr (i + 1)).h.next := by
  rcases hstep i hi with ⟨q, _⟩ | ⟨_, _, _, q⟩
  · rw [hwi] at q; cases q
  · rcases q with ⟨y, q, _⟩ | ⟨q, _⟩ | ⟨f, args, y, q, _⟩
    · obtain ⟨ty, l, z, hz⟩ := alloc_shape ha q
      have := (hz _).1.symm.trans q
      simp only [Option.some.injEq, OR.v.injEq] at this
      rw [← this.2, H.next_new]
      exact Nat.lt_succ_self _
    · obtain ⟨ty, l, z, hz⟩ := alloc_shape ha q
      have := (hz _).1.symm.trans q
      simp at this
    · obtain ⟨ty, l, z, hz⟩ := alloc_shape ha q
      have := (hz _).1.symm.trans q
      simp at this

theorem tr_d (hstep : ∀ i, i < aos.length → StepD G cf (opAt aos i) (tr i) (tr (i + 1))) : ∀ k, k ≤ aos.length → (tr k).d = (tr 0).d := by
  intro k
  induction k with
  | zero => intro _; rfl
  | succ k ih =>
    intro hk
    rw [← ih (by omega)]
    rcases hstep k (by omega) with ⟨_, h⟩ | ⟨_, _, h, _⟩
    · rw [h]
    · exact h

/-- A slot before it is written. -/
theorem tr_before (hstep : ∀ i, i < aos.length → StepD G cf (opAt aos i) (tr i) (tr (i + 1))) {d : Nat} : ∀ k, k ≤ aos.length → (∀ i, i < k → (opAt aos i).dst ≠ some d) → (tr k).t[d]? = (tr 0).t[d]? := by
  intro k
  induction k with
  | zero => intro _ _; rfl
  | succ k ih =>
    intro hk hn
    obtain ⟨x, hx⟩ := step_put (hstep k (by omega))
    rw [← ih (by omega) fun i hi => hn i (by omega), hx, putT_other (hn k (by omega))]

/-- A slot behind its writing. -/
theorem tr_behind (hstep : ∀ i, i < aos.length → StepD G cf (opAt aos i) (tr i) (tr (i + 1))) {d : Nat} : ∀ m k, k + m ≤ aos.length → (∀ i, k ≤ i → i < k + m → (opAt aos i).dst ≠ some d) → (tr (k + m)).t[d]? = (tr k).t[d]? := by
  intro m
  induction m with
  | zero => intro k _ _; rfl
  | succ m ih =>
    intro k hk hn
    obtain ⟨x, hx⟩ := step_put (hstep (k + m) (by omega))
    rw [← ih k (by omega) fun i h1 h2 => hn i h1 (by omega)]
    show (tr (k + m + 1)).t[d]? = _
    rw [hx, putT_other (hn (k + m) (by omega) (by omega))]

/-- What holds while operations are done in any order. 'L': those that are done. -/
def Inv (G : Gl) (B : Nat) (aos : List AOper) (bs : List Nat) (tr : Nat → St) (φ0 : Phi) (w0 : World) (L : Nat → Bool) (a : Act) (w : World) : Prop :=
  ∃ (φ : Phi) (e : Nat) (t : List V),
    e ≤ aos.length ∧ (e = aos.length ∨ (opAt aos e).op.isEff = true) ∧
    (∀ j, j < aos.length → (opAt aos j).op.isEff = true → (L j = true ↔ j < e)) ∧
    (∀ k, k < aos.length → L k = true → ∀ i, isBef bs k i = true → L i = true) ∧
    Ext φ0 φ ∧ Rel G B φ (tr e).h w ∧ Below B w0 w ∧ VRelL φ t a.tmps.toList ∧ DRel φ (tr 0).d a.defers ∧ t.length = (tr 0).t.length ∧
    (∀ i d, i < aos.length → L i = true → (opAt aos i).dst = some d → t[d]? = (tr aos.length).t[d]?) ∧
    (∀ d, (∀ i, i < aos.length → L i = true → (opAt aos i).dst ≠ some d) → t[d]? = (tr 0).t[d]?) ∧
    (∀ i, i < aos.length → (opAt aos i).op.isAlloc = true → L i = false → i < e → wantedA (tr i).t (opAt aos i).g = true → φ (tr i).h.next = none)

theorem getV_congr {t t' : List V} {s : Nat} (h : t[s]? = t'[s]?) : getV t s = getV t' s := by rw [getV_eq, getV_eq, h]

theorem inv_step (hcf : CallOk P G B cf) (hs : Static P ops aos bs) (hstep : ∀ i, i < aos.length → StepD G cf (opAt aos i) (tr i) (tr (i + 1)))
    {hp : List H} (hheap : ∀ k, k ≤ aos.length → (k = aos.length ∨ (opAt aos k).op.isEff = true) → hp[(List.range aos.length).countP fun j => (opAt aos j).op.isEff && decide (j < k)]? = some (tr k).h)
    (hsame : ∀ i, i < aos.length → (opAt aos i).op.isChk = true → wantedA (tr aos.length).t (opAt aos i).g = true → sameFrom G (tr aos.length).t (opAt aos i) 0 (winOf aos bs i).1 (winOf aos bs i).2 hp = true)
    {φ0 : Phi} {w0 : World} {L : Nat → Bool} {a : Act} {w : World} {Q : Exit → Act → World → Prop} {k : Nat} {o : Oper} (hk : ops[k]? = some o) (hLk : L k = false)
    (hready : ∀ e ∈ o.after, Region.binds .any e = true → L e.on = true) (hinv : Inv G B aos bs tr φ0 w0 L a w) :
    wpOp P ops Q k (fun a' w' => Inv G B aos bs tr φ0 w0 (fun i => L i || i == k) a' w') a w := by
  obtain ⟨φ, e, t, he, hee, hef, hcl, hext, hrel, hbel, ht, hd, htl, hwr, hun, hpend⟩ := hinv
  have hkn : k < aos.length := by rw [hs.len]; exact (Array.getElem?_eq_some_iff.1 hk).1
  obtain ⟨hop, hdst, hg, hmk⟩ := hs.at_ k o hk
  generalize hao : opAt aos k = ao at hop hdst hg hmk
  have hbk : ∀ i, isBef bs k i = true → L i = true := by
    intro i hi
    obtain ⟨o', ed, h1, h2, h3, h4⟩ := hs.bef k i hi
    rw [hk] at h1; cases h1
    have hlt := hs.back k o hk ed h2 h3
    rcases h4 with h4 | h4
    · rw [h4]; exact hready ed h2 h3
    · exact hcl ed.on (by omega) (hready ed h2 h3) i h4
  have hnb : ∀ i, i < aos.length → L i = true → isBef bs i k = false := fun i hi hL => by
    cases hb : isBef bs i k with
    | false => rfl
    | true => have := hcl i hi hL k hb; rw [hLk] at this; cases this
  -- the slots that it looks at
  have hslots : ∀ d ∈ ao.looks, t[d]? = (tr k).t[d]? ∧ (ao.op.isChk = true → (tr aos.length).t[d]? = (tr k).t[d]?) := by
    intro d hdl
    have hself : ao.dst ≠ some d := fun h => hs.self k d hkn (by rw [hao]; exact h) (by rw [hao]; exact hdl)
    by_cases hex : ∃ i, i < aos.length ∧ (opAt aos i).dst = some d
    · obtain ⟨i, hi, hid⟩ := hex
      have hik : i ≠ k := fun h => by subst h; exact hself (by rw [← hao]; exact hid)
      have huniq : ∀ j, j < aos.length → j ≠ i → (opAt aos j).dst ≠ some d := fun j hj hji => (hs.slot i j d hi hj (Ne.symm hji) hid).1
      have := (hs.slot i k d hi hkn hik hid).2 (by rw [hao]; exact hdl)
      rcases this with h | ⟨h, hchk⟩
      · have hlt := hs.lt k i h
        have e1 := tr_behind hstep (d := d) (aos.length - k) k (by omega) fun j h1 h2 => huniq j (by omega) (by omega)
        rw [show k + (aos.length - k) = aos.length from by omega] at e1
        exact ⟨(hwr i d hi (hbk i h) hid).trans e1, fun _ => e1⟩
      · have hlt := hs.lt i k h
        have hLi : L i = false := by
          cases hb : L i with
          | false => rfl
          | true => have := hcl i hi hb k h; rw [hLk] at this; cases this
        have e1 := tr_before hstep (d := d) k (by omega) fun j hj => huniq j (by omega) (by omega)
        refine ⟨(hun d fun j hj hL hjd => ?_).trans e1.symm, fun hc => by rw [hao] at hchk; rw [hc] at hchk; cases hchk⟩
        have : j = i := Classical.byContradiction fun hne => huniq j hj hne hjd
        subst this
        rw [hLi] at hL; cases hL
    · have hno : ∀ j, j < aos.length → (opAt aos j).dst ≠ some d := fun j hj h => hex ⟨j, hj, h⟩
      have e1 := tr_before hstep (d := d) k (by omega) fun j hj => hno j (by omega)
      have e2 := tr_before hstep (d := d) aos.length (Nat.le_refl _) fun j hj => hno j hj
      exact ⟨(hun d fun j hj _ => hno j hj).trans e1.symm, fun _ => e2.trans e1.symm⟩
  have hwant : wantedA t ao.g = wantedA (tr k).t ao.g := looks_wanted ao fun s hs' => getV_congr (hslots s hs').1
  have hrunEq : ∀ h, runOp G (opd t) h ao.op = runOp G (opd (tr k).t) h ao.op := fun h => looks_run ao fun s hs' => getV_congr (hslots s hs').1
  -- the slot that it writes
  have hput : ∀ x, (∀ d, ao.dst = some d → d < t.length → (tr aos.length).t[d]? = some x) →
      (putT t ao.dst x).length = (tr 0).t.length ∧ (∀ i d, i < aos.length → (L i || i == k) = true → (opAt aos i).dst = some d → (putT t ao.dst x)[d]? = (tr aos.length).t[d]?) ∧
      (∀ d, (∀ i, i < aos.length → (L i || i == k) = true → (opAt aos i).dst ≠ some d) → (putT t ao.dst x)[d]? = (tr 0).t[d]?) := by
    intro x hx
    refine ⟨by rw [putT_length]; exact htl, fun i d hi hL hid => ?_, fun d hno => ?_⟩
    · by_cases hik : i = k
      · subst hik
        rw [hao] at hid
        rcases Nat.lt_or_ge d t.length with hdl | hdl
        · rw [hid, putT_same hdl]; exact (hx d hid hdl).symm
        · have h1 : (putT t ao.dst x)[d]? = none := List.getElem?_eq_none (by rw [putT_length]; exact hdl)
          have h2 : (tr aos.length).t[d]? = none := List.getElem?_eq_none (by rw [tr_len hstep _ (Nat.le_refl _), ← htl]; exact hdl)
          rw [h1, h2]
      · have hLi : L i = true := by simpa [hik] using hL
        have : ao.dst ≠ some d := by rw [← hao]; exact (hs.slot i k d hi hkn hik hid).1
        rw [putT_other this]
        exact hwr i d hi hLi hid
    · have : ao.dst ≠ some d := by rw [← hao]; exact hno k hkn (by simp)
      rw [putT_other this]
      exact hun d fun i hi hL => hno i hi (by simp [hL])
  -- what its own order laid there
  have hcanon : ∀ x, (tr (k + 1)).t = putT (tr k).t ao.dst x → ∀ d, ao.dst = some d → d < t.length → (tr aos.length).t[d]? = some x := by
    intro x hx d hd' hdl
    have e1 := tr_behind hstep (d := d) (aos.length - (k + 1)) (k + 1) (by omega) fun j h1 h2 => (hs.slot k j d hkn (by omega) (by omega) (by rw [hao]; exact hd')).1
    rw [show k + 1 + (aos.length - (k + 1)) = aos.length from by omega] at e1
    rw [e1, hx, hd', putT_same]
    rw [tr_len hstep k (by omega), ← htl]
    exact hdl
  have hclose : ∀ j, j < aos.length → (L j || j == k) = true → ∀ i, isBef bs j i = true → (L i || i == k) = true := by
    intro j hj hL i hi
    by_cases hjk : j = k
    · subst hjk; rw [hbk i hi]; rfl
    · have hLj : L j = true := by simpa [hjk] using hL
      rw [hcl j hj hLj i hi]; rfl
  have hstepk := hstep k hkn
  rw [hao] at hstepk
  unfold wpOp
  simp only [hk]
  rw [← wanted_rel ht hg, hwant]
  -- no effect: the stage stays
  have hstay : ao.op.isEff = false → ∀ j, j < aos.length → (opAt aos j).op.isEff = true → ((L j || j == k) = true ↔ j < e) := by
    intro hne j hj hje
    have hjk : j ≠ k := fun h => by subst h; rw [hao, hne] at hje; cases hje
    simpa [hjk] using hef j hj hje
  have hnot : ∀ i, (L i || i == k) = false → L i = false ∧ i ≠ k := fun i hi => by
    simp only [Bool.or_eq_false_iff, beq_eq_false_iff_ne, ne_eq] at hi
    exact hi
  cases hw : wantedA (tr k).t ao.g with
  | false =>
    simp only [Bool.false_eq_true, if_false]
    rcases hstepk with ⟨_, hs1⟩ | ⟨hs1, _⟩
    rotate_left
    · rw [hw] at hs1; cases hs1
    have hne : ao.op.isEff = false := by
      cases hee' : ao.op.isEff with
      | false => rfl
      | true =>
        have := (hs.eff k hkn (by rw [hao]; exact hee')).1
        rw [hao] at this
        rw [this] at hw
        simp [wantedA] at hw
    obtain ⟨p1, p2, p3⟩ := hput V.un (hcanon V.un (by rw [hs1]))
    exact ⟨φ, e, putT t ao.dst V.un, he, hee, hstay hne, hclose, hext, hrel, hbel, by rw [← hdst]; exact put_rel ht (undef_rel φ) _, by rw [put_defers]; exact hd, p1, p2, p3,
      fun i hi ha hL => hpend i hi ha (hnot i hL).1⟩
  | true =>
    simp only [if_true]
    refine .inl ?_
    rcases hstepk with ⟨hs1, _⟩ | ⟨_, hnx, _, hs1⟩
    · rw [hw] at hs1; cases hs1
    -- the same at a stage in its window
    have hchk : ao.op.isChk = true → sameAt G (tr aos.length).t ao (tr e).h = true := by
      intro hc
      have h1 := hsame k hkn (by rw [hao]; exact hc) (by
        rw [hao, ← hw]
        exact looks_wanted ao fun s hs' => getV_congr ((hslots s hs').2 hc))
      rw [hao] at h1
      refine sameFrom_get h1 _ _ (hheap e he hee) ?_ ?_
      · rw [Nat.zero_add]
        refine List.countP_mono_left fun j hj hjb => ?_
        rw [List.mem_range] at hj
        simp only [Bool.and_eq_true, decide_eq_true_eq] at hjb ⊢
        exact ⟨hjb.1, (hef j hj hjb.1).1 (hbk j hjb.2)⟩
      · rw [Nat.zero_add]
        refine List.countP_mono_left fun j hj hjb => ?_
        rw [List.mem_range] at hj
        simp only [Bool.and_eq_true, decide_eq_true_eq] at hjb ⊢
        refine ⟨hjb.1, ?_⟩
        rw [hnb j hj ((hef j hj hjb.1).2 hjb.2)]
        rfl
    have hTrun : ao.op.isChk = true → ∀ h, runOp G (opd (tr aos.length).t) h ao.op = runOp G (opd t) h ao.op := fun hc h =>
      looks_run ao fun s hs' => getV_congr (((hslots s hs').2 hc).trans (hslots s hs').1.symm)
    -- no memory is made nor written
    have hread : ∀ x, ao.op.isEff = false → runOp G (opd t) (tr e).h ao.op = some (.v x (tr e).h) → (∀ d, ao.dst = some d → d < t.length → (tr aos.length).t[d]? = some x) →
        o.wp P a w (fun a' w' => Inv G B aos bs tr φ0 w0 (fun i => L i || i == k) a' w') Q := by
      intro x hne hrun hx
      obtain ⟨v, w', φ', e1, e2, e3, e4, e5⟩ := runOp_good (P := P) (B := B) (φ := φ) (w := w) hrel ht hop hrun
      unfold Oper.wp
      rw [e1]
      simp only [Oper.upon]
      obtain ⟨p1, p2, p3⟩ := hput x hx
      exact ⟨φ', e, putT t ao.dst x, he, hee, hstay hne, hclose, hext.trans e2.1, e3, hbel.trans e5, by rw [← hdst]; exact put_rel (ht.mono e2.1) e4 _, by rw [put_defers]; exact hd.mono e2.1, p1, p2, p3,
        fun i hi ha hL hie hwi => by
          have hni := tr_next hstep (e - (i + 1)) (i + 1) (by omega)
          rw [show i + 1 + (e - (i + 1)) = e from by omega] at hni
          have hlt := alloc_next hstep hi ha hwi
          rw [e2.2 _ (Nat.lt_of_lt_of_le hlt hni)]
          exact hpend i hi ha (hnot i hL).1 hie hwi⟩
    cases hcls : ao.op.cls with
    | pure =>
      obtain ⟨f, hf⟩ := pure_keep (G := G) (ρ := opd (tr k).t) hcls
      have hne : ao.op.isEff = false := by simp [AOp.isEff, hcls]
      rcases hs1 with ⟨x, h1, h2⟩ | ⟨h1, _⟩ | ⟨f', args, x, h1, _⟩
      · rw [hf, Option.map_eq_some_iff] at h1
        obtain ⟨y, hy, e1⟩ := h1
        simp only [OR.v.injEq] at e1
        obtain ⟨rfl, e1⟩ := e1
        refine hread y hne ?_ (hcanon y h2)
        rw [hrunEq, hf, hy]
        rfl
      · rw [hf, Option.map_eq_some_iff] at h1
        obtain ⟨y, hy, e1⟩ := h1
        cases e1
      · rw [hf, Option.map_eq_some_iff] at h1
        obtain ⟨y, hy, e1⟩ := h1
        cases e1
    | read =>
      have hne : ao.op.isEff = false := by simp [AOp.isEff, hcls]
      have hc : ao.op.isChk = true := by simp [AOp.isChk, hcls]
      have hna : ao.op.isAlloc = false := by simp [AOp.isAlloc, hcls]
      have hsm := hchk hc
      unfold sameAt at hsm
      rw [hTrun hc] at hsm
      split at hsm
      · rename_i x h' d hr hdd
        rw [hna, cond_false] at hsm
        have hx := eqV_eq hsm
        obtain ⟨y, hy⟩ := read_keep hcls hr
        cases hy
        refine hread x hne hr fun d' hd' hdl => ?_
        rw [hdd] at hd'
        cases hd'
        rw [hx, getV_eq]
        have : d < (tr aos.length).t.length := by rw [tr_len hstep _ (Nat.le_refl _), ← htl]; exact hdl
        rw [List.getElem?_eq_getElem this]
        rfl
      · cases hsm
    | alloc =>
      have hne : ao.op.isEff = false := by simp [AOp.isEff, hcls]
      have hc : ao.op.isChk = true := by simp [AOp.isChk, hcls]
      have hal : ao.op.isAlloc = true := by simp [AOp.isAlloc, hcls]
      have hke : k < e := by
        rcases Nat.lt_or_ge k e with h | h
        · exact h
        · exfalso
          have hen : e < aos.length := by omega
          rcases hee with hee | hee
          · omega
          · have hek : e ≠ k := fun h => by subst h; rw [hao, hne] at hee; cases hee
            have := ((hs.alloc k hkn (by rw [hao]; exact hal) e hen hee).1 (by omega))
            have := (hef e hen hee).1 (hbk e this)
            omega
      have hsm := hchk hc
      unfold sameAt at hsm
      rw [hTrun hc] at hsm
      split at hsm
      rotate_left
      · cases hsm
      rename_i x h' d hr hdd
      rw [hal, cond_true] at hsm
      obtain ⟨ty, l, y, hy⟩ := alloc_shape hal hr
      rw [(hy _).1] at hr
      cases hr
      -- its own order's block
      have hcan : (tr (k + 1)).t = putT (tr k).t ao.dst (reb (tr k).h.next y) := by
        have hy' := (hy (tr k).h).1
        rw [hrunEq] at hy'
        rcases hs1 with ⟨x, h1, h2⟩ | ⟨h1, _⟩ | ⟨f', args, x, h1, _⟩
        · rw [hy'] at h1; simp only [Option.some.injEq, OR.v.injEq] at h1; rw [h1.1]; exact h2
        · rw [hy'] at h1; simp at h1
        · rw [hy'] at h1; simp at h1
      have hT := hcanon _ hcan
      have hblk : ∀ n, (reb n y).blk? = some n := by
        intro n
        have := (hy (tr e).h).2
        cases y <;> simp [reb, V.blk?] at this ⊢
      rw [hblk] at hsm
      have hdl : d < t.length := by
        rcases Nat.lt_or_ge d t.length with h | h
        · exact h
        · exfalso
          have h2 : (tr aos.length).t[d]? = none := List.getElem?_eq_none (by rw [tr_len hstep _ (Nat.le_refl _), ← htl]; exact h)
          rw [getV_eq, h2] at hsm
          simp [V.blk?] at hsm
      have hTd := hT d hdd hdl
      rw [getV_eq, hTd, Option.getD_some, hblk] at hsm
      simp only at hsm
      have hgn : ((tr e).h.new (.cells ty true none l)).get (tr e).h.next = some (.cells ty true none l) := by rw [H.get_new, if_pos rfl]
      rw [hgn] at hsm
      split at hsm
      rotate_left
      · cases hsm
      rename_i _ _ ty1 _ _ l1 ty' l' heq1 hgc
      cases heq1
      rw [Bool.and_eq_true, Nat.beq_eq] at hsm
      have hl := eqVs_eq hsm.2
      have hty := hsm.1
      subst hl
      subst hty
      have hφ := hpend k hkn (by rw [hao]; exact hal) hLk hke (by rw [hao]; exact hw)
      -- the model's block
      have hmade : Made P φ (tr e).h w (execOp a.eval o) (.v (reb (tr e).h.next y) ((tr e).h.new (.cells ty true none l))) := by
        have hrun := (hy (tr e).h).1
        unfold makesOk at hmk
        rw [hal] at hmk
        simp only [Bool.not_true, Bool.false_or] at hmk
        split at hmk
        · rename_i heq; exact made_alloc heq (heq ▸ hop) hrun
        · rename_i heq; exact made_box ht heq (heq ▸ hop) hrun
        · rename_i heq; exact made_buildSlice ht heq (heq ▸ hop) hrun
        · cases hmk
      obtain ⟨ty2, l2, c, x2, v, q1, q2, q3, q4, q5⟩ := hmade
      have hinj : (tr e).h.new (.cells ty true none l) = (tr e).h.new (.cells ty2 true none l2) := by
        injection q1
      have hx2 : reb (tr e).h.next y = reb (tr e).h.next x2 := by injection q1
      have hcells : ty = ty2 ∧ l = l2 := by
        have h1 := hgn
        rw [hinj, H.get_new, if_pos rfl] at h1
        cases h1
        exact ⟨rfl, rfl⟩
      obtain ⟨rfl, rfl⟩ := hcells
      have hreb : ∀ n, reb n x2 = reb n y := by
        intro n
        have hb := hblk (tr e).h.next
        cases y <;> cases x2 <;> simp [reb, V.blk?] at hx2 hb ⊢ <;> first | exact hx2.symm | (obtain ⟨h1, h2, h3, h4⟩ := hx2; simp [h1, h2, h3, h4]) | skip
      obtain ⟨hx, hrel'⟩ := hrel.seen (o := .cells c ty) (n := c.size) hgc hφ (CellsOk.made (q3.mono (fun b a' hb => by
        unfold upd
        by_cases ec : b = (tr k).h.next
        · subst ec; rw [hφ] at hb; cases hb
        · rw [if_neg ec]; exact hb)) q4 ⟨[], by simp⟩ (fun _ => by rw [q3.length]; simp))
      have hv := q5 (upd φ (tr k).h.next ⟨w.heap.size, 0, c.size⟩) (tr k).h.next (upd_self _ _ _)
      rw [hreb] at hv
      unfold Oper.wp
      rw [q2]
      simp only [Oper.upon]
      obtain ⟨p1, p2, p3⟩ := hput (reb (tr k).h.next y) hT
      refine ⟨_, e, putT t ao.dst (reb (tr k).h.next y), he, hee, hstay hne, hclose, hext.trans hx, hrel', hbel.trans (Below.push _ hrel.bsz), by rw [← hdst]; exact put_rel (ht.mono hx) hv _,
        by rw [put_defers]; exact hd.mono hx, p1, p2, p3, fun i hi ha hL hie hwi => ?_⟩
      have hik := (hnot i hL).2
      have hinc : ∀ i, i < aos.length → (opAt aos i).op.isAlloc = true → wantedA (tr i).t (opAt aos i).g = true → (tr i).h.next < (tr (i + 1)).h.next := fun i hi ha hwi => alloc_next hstep hi ha hwi
      have hne' : (tr i).h.next ≠ (tr k).h.next := by
        rcases Nat.lt_or_gt_of_ne hik with hlt | hlt
        · have h1 := tr_next hstep (k - (i + 1)) (i + 1) (by omega)
          rw [show i + 1 + (k - (i + 1)) = k from by omega] at h1
          have := hinc i hi ha hwi
          omega
        · have h1 := tr_next hstep (i - (k + 1)) (k + 1) (by omega)
          rw [show k + 1 + (i - (k + 1)) = i from by omega] at h1
          have := hinc k hkn (by rw [hao]; exact hal) (by rw [hao]; exact hw)
          omega
      unfold upd
      rw [if_neg hne']
      exact hpend i hi ha (hnot i hL).1 hie hwi
    | eff =>
      have hef' : ao.op.isEff = true := by simp [AOp.isEff, hcls]
      have hke : k = e := by
        have h1 : ¬ k < e := fun h => by
          have := (hef k hkn (by rw [hao]; exact hef')).2 h
          rw [hLk] at this; cases this
        rcases Nat.lt_or_ge e k with h | h
        · exfalso
          rcases hee with hee | hee
          · omega
          · have := (hs.eff k hkn (by rw [hao]; exact hef')).2 e (by omega) hee h
            have := (hef e (by omega) hee).1 (hbk e this)
            omega
        · omega
      subst hke
      -- on to the next effect
      have hgo : ∀ φ' w' v x, Ext φ φ' → (∀ b, b < (tr k).h.next → (∃ i, i < k ∧ (opAt aos i).op.isAlloc = true ∧ L i = false ∧ b = (tr i).h.next) → φ b = none → φ' b = none) → Rel G B φ' (tr (k + 1)).h w' → VRel φ' x v → Below B w w' →
          (tr (k + 1)).t = putT (tr k).t ao.dst x → Inv G B aos bs tr φ0 w0 (fun i => L i || i == k) (a.put o.dst v) w' := by
        intro φ' w' v x hx hkeep hr hv hb hcan
        obtain ⟨e', g1, g2, g3, g4⟩ := next_eff (fun j => (opAt aos j).op.isEff) aos.length _ (k + 1) rfl (by omega)
        obtain ⟨hr2, hp2⟩ := advance hstep (e' - (k + 1)) (k + 1) (by omega) (fun j h1 h2 => g4 j h1 (by omega)) hr
        rw [show k + 1 + (e' - (k + 1)) = e' from by omega] at hr2 hp2
        obtain ⟨p1, p2, p3⟩ := hput x (hcanon x hcan)
        refine ⟨φ', e', putT t ao.dst x, g2, g3, fun j hj hje => ?_, hclose, hext.trans hx, hr2, hbel.trans hb, by rw [← hdst]; exact put_rel (ht.mono hx) hv _, by rw [put_defers]; exact hd.mono hx, p1, p2, p3,
          fun i hi ha hL hie hwi => ?_⟩
        · by_cases hjk : j = k
          · subst hjk; simp; omega
          · have h1 := hef j hj hje
            simp only [Bool.or_eq_true, beq_iff_eq, hjk, or_false, h1]
            constructor
            · intro h; omega
            · intro h
              rcases Nat.lt_or_ge j k with h2 | h2
              · exact h2
              · have := g4 j (by omega) h
                rw [hje] at this; cases this
        · obtain ⟨hLi, hik⟩ := hnot i hL
          rcases Nat.lt_or_ge i k with h2 | h2
          · have hn := hpend i hi ha hLi h2 hwi
            have hlt := alloc_next hstep hi ha hwi
            have h1 := tr_next hstep (k - (i + 1)) (i + 1) (by omega)
            rw [show i + 1 + (k - (i + 1)) = k from by omega] at h1
            exact hkeep _ (Nat.lt_of_lt_of_le hlt h1) ⟨i, h2, ha, hLi, rfl⟩ hn
          · exact hp2 i (by omega) hie ha hwi
      unfold Oper.wp
      rcases hs1 with ⟨x, h1, h2⟩ | ⟨h1, h2⟩ | ⟨f, args, x, h1, h3, h2, hcall⟩
      · rw [← hrunEq] at h1
        obtain ⟨v, w', φ', e1, e2, e3, e4, e5⟩ := runOp_good (P := P) (B := B) (φ := φ) (w := w) hrel ht hop h1
        rw [e1]
        simp only [Oper.upon]
        exact hgo φ' w' v x e2.1 (fun b hb _ hn => by rw [e2.2 b hb]; exact hn) e3 e4 e5 h2
      · rw [← hrunEq] at h1
        obtain ⟨w', φ', e1, e2, e3, e5⟩ := runOp_good (P := P) (B := B) (φ := φ) (w := w) hrel ht hop h1
        rw [e1]
        simp only [Oper.upon]
        exact hgo φ' w' undef V.un e2.1 (fun b hb _ hn => by rw [e2.2 b hb]; exact hn) e3 (undef_rel φ') e5 h2
      · rw [← hrunEq] at h1
        obtain ⟨vs, e1, e2⟩ := runOp_good (P := P) (B := B) (φ := φ) (w := w) hrel ht hop h1
        rw [e2]
        have hu := hcf f args (tr k).h _ _ h3 φ w vs hrel e1
        have hend : ∀ en w', OutRel G B φ w (.ret x) (tr (k + 1)).h en w' → ∃ u, en = .returned u ∧ Inv G B aos bs tr φ0 w0 (fun i => L i || i == k) (a.put o.dst u) w' := by
          intro en w' hout
          obtain ⟨φ', q1, q2, q3, u, q4, q5⟩ := hout
          refine ⟨u, q4, hgo φ' w' u x q1 (fun b hb hex hn => ?_) q2 q5 q3 h2⟩
          exfalso
          obtain ⟨i, hi, ha, hLi, _⟩ := hex
          have := (hs.alloc i (by omega) ha k hkn (by rw [hao]; exact hef')).2 (by omega) (by rw [hao]; exact hcall)
          rw [hbk i this] at hLi
          cases hLi
        cases hres : (callFunc f ⟨vs⟩).run P w with
        | ok n w' =>
          rw [hres] at hu
          cases n <;> simp only [Upon] at hu <;> first
            | exact hu.elim
            | (obtain ⟨u, q1, q2⟩ := hend _ _ hu; cases q1; exact q2)
            | (simp only [Oper.upon]
               refine hu.mono fun e w'' hout => ?_
               obtain ⟨u, rfl, q2⟩ := hend _ _ hout
               exact q2)
        | halt hh w' =>
          rw [hres] at hu
          cases hh <;> simp only [Upon] at hu <;> first
            | exact hu.elim
            | (obtain ⟨u, q1, q2⟩ := hend _ _ hu; cases q1)


/-- How many are not done. -/
def left (n : Nat) (L : Nat → Bool) : Nat := (List.range n).countP fun i => !L i

theorem left_succ {n : Nat} {L L' : Nat → Bool} (hL : ∀ i, L i = true → L' i = true) {k : Nat} (hk : k < n) (h1 : L k = false) (h2 : L' k = true) : left n L' < left n L := by
  have key : ∀ (l : List Nat), k ∈ l → (l.countP fun i => !L' i) < l.countP fun i => !L i := by
    intro l
    induction l with
    | nil => intro h; simp at h
    | cons x l ih =>
      intro hm
      have hle : (l.countP fun i => !L' i) ≤ l.countP fun i => !L i := List.countP_mono_left fun i _ hi => by
        simp only [Bool.not_eq_true'] at hi ⊢
        cases hb : L i with
        | false => rfl
        | true => rw [hL i hb] at hi; cases hi
      rw [List.countP_cons, List.countP_cons]
      by_cases hx : x = k
      · subst hx
        simp [h1, h2]
        omega
      · have hm' : k ∈ l := by simpa [Ne.symm hx] using hm
        have := ih hm'
        cases hb : L x with
        | true => simp [hL x hb]; omega
        | false => cases hb' : L' x <;> simp <;> omega
  exact key _ (List.mem_range.2 hk)

theorem inv_end (hs : Static P ops aos bs) (hstep : ∀ i, i < aos.length → StepD G cf (opAt aos i) (tr i) (tr (i + 1))) {φ0 : Phi} {w0 : World} {listed : Array Bool} (hsz : listed.size = ops.size) {a : Act} {w : World}
    {Q : Exit → Act → World → Prop} (hr : Region.ready .any ops listed = []) (hinv : Inv G B aos bs tr φ0 w0 (fun i => listed.getD i false) a w) (hp : Post G B φ0 w0 .nrm (tr aos.length) Q) : Q .normal a w := by
  obtain ⟨φ, e, t, he, hee, hef, hcl, hext, hrel, hbel, ht, hd, htl, hwr, hun, hpend⟩ := hinv
  have hall : ∀ k, k < aos.length → listed.getD k false = true := by
    intro k
    induction k using Nat.strongRecOn with
    | _ k ih =>
      intro hk
      cases hb : listed.getD k false with
      | true => rfl
      | false =>
        exfalso
        have hk' : k < ops.size := by rw [← hs.len]; exact hk
        have hmem : k ∈ Region.ready .any ops listed := by
          rw [mem_ready]
          refine ⟨?_, _, Array.getElem?_eq_getElem hk', fun ed h1 h2 => ih _ (hs.back k _ (Array.getElem?_eq_getElem hk') ed h1 h2) ?_⟩
          · have : k < listed.size := by omega
            simp [this] at hb ⊢
            exact hb
          · have := hs.back k _ (Array.getElem?_eq_getElem hk') ed h1 h2; omega
        rw [hr] at hmem
        simp at hmem
  have hen : e = aos.length := by
    rcases hee with h | h
    · exact h
    · rcases Nat.lt_or_ge e aos.length with h1 | h1
      · have := (hef e h1 h).1 (hall e h1); omega
      · omega
  subst hen
  have hteq : t = (tr aos.length).t := by
    refine List.ext_getElem? fun d => ?_
    by_cases hex : ∃ i, i < aos.length ∧ (opAt aos i).dst = some d
    · obtain ⟨i, hi, hid⟩ := hex
      exact hwr i d hi (hall i hi) hid
    · have hno : ∀ j, j < aos.length → (opAt aos j).dst ≠ some d := fun j hj h => hex ⟨j, hj, h⟩
      rw [hun d fun i hi _ => hno i hi, tr_before hstep aos.length (Nat.le_refl _) fun j hj => hno j hj]
  refine hp φ .normal a w hext rfl hrel (by rw [← hteq]; exact ht) ?_ hbel
  rw [tr_d hstep _ (Nat.le_refl _)]
  exact hd

theorem any_sound (hcf : CallOk P G B cf) (hs : Static P ops aos bs) (hstep : ∀ i, i < aos.length → StepD G cf (opAt aos i) (tr i) (tr (i + 1)))
    {hp : List H} (hheap : ∀ k, k ≤ aos.length → (k = aos.length ∨ (opAt aos k).op.isEff = true) → hp[(List.range aos.length).countP fun j => (opAt aos j).op.isEff && decide (j < k)]? = some (tr k).h)
    (hsame : ∀ i, i < aos.length → (opAt aos i).op.isChk = true → wantedA (tr aos.length).t (opAt aos i).g = true → sameFrom G (tr aos.length).t (opAt aos i) 0 (winOf aos bs i).1 (winOf aos bs i).2 hp = true)
    {φ0 : Phi} {w0 : World} {Q : Exit → Act → World → Prop} (hpost : Post G B φ0 w0 .nrm (tr aos.length) Q) : ∀ (fuel : Nat) (listed : Array Bool) (a : Act) (w : World), listed.size = ops.size →
      left aos.length (fun i => listed.getD i false) ≤ fuel → Inv G B aos bs tr φ0 w0 (fun i => listed.getD i false) a w → wpAny P .any ops Q fuel listed a w := by
  intro fuel
  induction fuel with
  | zero =>
    intro listed a w hsz hl hinv
    have hr : Region.ready .any ops listed = [] := by
      cases hr : Region.ready .any ops listed with
      | nil => rfl
      | cons k ks =>
        exfalso
        have hm : k ∈ Region.ready .any ops listed := by rw [hr]; simp
        rw [mem_ready] at hm
        obtain ⟨h0, o, ho, _⟩ := hm
        have hk : k < aos.length := by rw [hs.len]; exact (Array.getElem?_eq_some_iff.1 ho).1
        have hk2 : k < listed.size := by rw [hsz, ← hs.len]; exact hk
        have := left_succ (n := aos.length) (L := fun i => listed.getD i false) (L' := fun _ => true) (fun _ _ => rfl) hk (by simp [hk2] at h0 ⊢; exact h0) rfl
        omega
    exact ⟨hr, inv_end hs hstep hsz hr hinv hpost⟩
  | succ fuel ih =>
    intro listed a w hsz hl hinv
    refine ⟨fun hr => inv_end hs hstep hsz hr hinv hpost, fun k hk => ?_⟩
    rw [mem_ready] at hk
    obtain ⟨h0, o, ho, hall⟩ := hk
    have hkn : k < aos.length := by rw [hs.len]; exact (Array.getElem?_eq_some_iff.1 ho).1
    have hk2 : k < listed.size := by rw [hsz, ← hs.len]; exact hkn
    have hLk : listed.getD k false = false := by simp [hk2] at h0 ⊢; exact h0
    refine wpOp_mono (fun a' w' hi => ?_) (inv_step hcf hs hstep hheap hsame ho hLk hall hinv)
    have hfun : (fun i => (listed.setIfInBounds k true).getD i false) = fun i => listed.getD i false || i == k := by
      funext i
      by_cases hik : i = k
      · subst hik; simp [hk2]
      · rw [getD_set_ne false (Ne.symm hik)]; simp [hik]
    refine ih _ a' w' (by simpa using hsz) ?_ (by rw [hfun]; exact hi)
    rw [hfun]
    have := left_succ (n := aos.length) (L := fun i => listed.getD i false) (L' := fun i => listed.getD i false || i == k) (fun i hi => by simp only [hi, Bool.true_or]) hkn hLk (by simp)
    omega

end

theorem drawn_ok {P : Program} {G : Gl} {B : Nat} {cf : Nat → List V → H → Option (Out × H)} (hcf : CallOk P G B cf) : Drawn P G B cf := by
  intro ops aos id st st' hs hc hok hm he hsame Q φ a w hrel ht hd hpost
  have hst := static_of hc hok
  obtain ⟨tr, t0, tn, tst, _, th⟩ := evDr_trace _ _ _ _ _ he (fun p hp hpe => by
    unfold wins at hp
    rw [List.mem_map] at hp
    obtain ⟨i, hi, rfl⟩ := hp
    exact (hst.eff i (List.mem_range.1 hi) hpe).1)
  rw [wins_length] at tn
  have hstep : ∀ i, i < aos.length → StepD G cf (opAt aos i) (tr i) (tr (i + 1)) := fun i hi => tst i _ (wins_get hi)
  have hheap : ∀ k, k ≤ aos.length → (k = aos.length ∨ (opAt aos k).op.isEff = true) → hs.reverse[(List.range aos.length).countP fun j => (opAt aos j).op.isEff && decide (j < k)]? = some (tr k).h := by
    intro k hk hke
    have h1 := th k (by rw [wins_length]; exact hk) (by
      rcases hke with h | h
      · exact .inl (by rw [wins_length]; exact h)
      · rcases Nat.lt_or_ge k aos.length with h2 | h2
        · exact .inr ⟨_, wins_get h2, h⟩
        · exact .inl (by rw [wins_length]; omega))
    rw [← cntE_wins (bs := befores ops.toList []) hk]
    simpa using h1
  have hsm : ∀ i, i < aos.length → (opAt aos i).op.isChk = true → wantedA (tr aos.length).t (opAt aos i).g = true →
      sameFrom G (tr aos.length).t (opAt aos i) 0 (winOf aos (befores ops.toList []) i).1 (winOf aos (befores ops.toList []) i).2 hs.reverse = true := by
    intro i hi h1 h2
    rw [tn] at h2 ⊢
    exact sameAll_get hsame i _ (wins_get hi) h1 h2
  refine wp_region_any hm ?_
  have hw0 : Below B w { w with drawn := w.drawn + 1 } := ⟨rfl, rfl, rfl, Nat.le_refl _, fun _ _ => rfl⟩
  refine any_sound hcf hst hstep hheap hsm (φ0 := φ) (w0 := w) (by rw [tn]; exact hpost) ops.size _ a _ (by simp) ?_ ?_
  · refine Nat.le_trans (List.countP_le_length) ?_
    rw [List.length_range, hst.len]
    exact Nat.le_refl _
  · have hL : ∀ i, (Array.replicate ops.size false).getD i false = false := fun i => by
      simp only [Array.getD_eq_getD_getElem?]
      rcases Nat.lt_or_ge i ops.size with h | h
      · simp [h]
      · rw [Array.getElem?_eq_none (by simpa using h)]; rfl
    obtain ⟨e', g1, g2, g3, g4⟩ := next_eff (fun j => (opAt aos j).op.isEff) aos.length _ 0 rfl (by omega)
    have hrel0 : Rel G B φ (tr 0).h { w with drawn := w.drawn + 1 } := by rw [t0]; exact hrel.drew _
    obtain ⟨hr2, hp2⟩ := advance hstep e' 0 (by omega) (fun j h1 h2 => g4 j h1 (by omega)) hrel0
    rw [Nat.zero_add] at hr2 hp2
    refine ⟨φ, e', st.t, g2, g3, fun j hj hje => ?_, fun k hk hL' => ?_, Ext.refl φ, hr2, hw0, ht, by rw [t0]; exact hd, by rw [t0], fun i d hi hL' => ?_, fun d _ => by rw [t0], fun i hi ha _ hie hwi => hp2 i (by omega) hie ha hwi⟩
    · simp only [hL j]
      constructor
      · intro h; cases h
      · intro h
        have := g4 j (by omega) h
        rw [hje] at this; cases this
    · simp only [hL k] at hL'; cases hL'
    · simp only [hL i] at hL'; cases hL'

end Go.Sim
