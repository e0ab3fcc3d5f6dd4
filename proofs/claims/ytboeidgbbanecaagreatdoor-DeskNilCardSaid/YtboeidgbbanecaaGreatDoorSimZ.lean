/- Operations, fourth part: rows that are made, cut, appended to. -/
import Derived.Test.YtboeidgbbanecaaGreatDoorSimY
namespace Go.Sim
open Go.RowKit

section
variable {P : Program} {G : Gl} {B : Nat} {φ : Phi} {h : H} {w : World} {t : List V} {a : Act} {o : Oper} {op : AOp} {res : OR}

theorem sliceElem_spec {ty e : TypeId} (he : sliceElem P ty = some e) : P.underlying ty = some (.slice e) := by
  unfold sliceElem at he
  split at he
  · rename_i hu; cases he; exact hu
  · cases he

theorem mkSl_eq (b o n z : Nat) (ex : Bool) (h : H) : mkSl b o n z ex h = some (.v (.sl b o n z ex) h) := by simp [mkSl]

theorem cPartsS_spec : ∀ {ps : List (Nat × Operand)} {qs : List (Nat × O)}, cPartsS ps = some qs →
    ps.length = qs.length ∧ ∀ (i : Nat) (p : Nat × Operand), ps[i]? = some p → ∃ q : Nat × O, qs[i]? = some q ∧ p.1 = q.1 ∧ cO p.2 = some q.2
  | [], qs, h => by simp only [cPartsS, Option.some.injEq] at h; subst h; simp
  | (i, x) :: ps, qs, h => by
    simp only [cPartsS] at h
    split at h
    · rename_i y ys h1 h2
      cases h
      obtain ⟨hl, hp⟩ := cPartsS_spec h2
      refine ⟨by simp [hl], fun j p hj => ?_⟩
      cases j with
      | zero => simp at hj; subst hj; exact ⟨(i, y), by simp, rfl, h1⟩
      | succ j => simp at hj; simpa using hp j p hj
    · cases h

theorem made_buildSlice (ht : VRelL φ t a.tmps.toList) {ty : TypeId} {len : Nat} {ps : Array (Nat × Operand)} (ho : o.op = .buildSlice ty len ps)
    (hc : cOp P (.buildSlice ty len ps) = some op) (hr : runOp G (opd t) h op = some res) : Made P φ h w (execOp a.eval o) res := by
  simp only [cOp, bind, Option.bind_eq_some_iff] at hc
  obtain ⟨e, he, n, hn, z, hz, hc⟩ := hc
  have hu := sliceElem_spec he
  obtain ⟨zv, hzrun, hzv, i, hi, hiz⟩ := run_zero_of (P := P) (w := w) hz
  have hzc := (toV_rel φ hzv).cells
  split at hc
  · rename_i hcond
    obtain ⟨hpos, hzl, hsmall⟩ := hcond
    rw [Option.bind_eq_some_iff] at hc
    obtain ⟨qs, hqs, hc⟩ := hc
    cases hc
    simp only [runOp, opBslice, Bool.cond_eq_ite] at hr
    split at hr
    · rename_i cs hcs
      split at hr
      · rename_i h1
        cases hr
        have hzsz : zv.cells.size = n := by have := hzc.length; simp only [Array.length_toList] at this; omega
        have hzr := zeros_rel hzc (by omega) len
        rw [hzsz] at hzr
        obtain ⟨p1, p2⟩ := cPartsS_spec hqs
        obtain ⟨out, hout, hrel⟩ := fill_rel (place := fun i => some (i * n, n)) (ps := (ps.map fun (i, x) => (i, a.eval x)).toList) hzr (by simpa using p1) (fun i p hp => by
          rw [Array.toList_map, List.getElem?_map, Option.map_eq_some_iff] at hp
          obtain ⟨p0, hp0, rfl⟩ := hp
          obtain ⟨q, hq, q1, q2⟩ := p2 i p0 hp0
          exact ⟨(q.1 * n, n, opd t q.2), by rw [List.getElem?_map, hq]; rfl, by simp [q1], eval_rel ht q2⟩) hcs
        have hisz : i.size = n := by
          unfold sizeT at hn
          rw [hi] at hn
          simpa using hn
        have hlen : out.size = len * n := by
          have h2 := hrel.length
          simp only [Array.length_toList] at h2
          rw [← h2]
          clear h1 hout hrel h2
          have : ∀ (qs : List (Nat × Nat × V)) (cs out : List V), fillL cs qs = some out → out.length = cs.length := by
            intro qs
            induction qs with
            | nil => intro cs out h; simp only [fillL, Option.some.injEq] at h; rw [h]
            | cons q qs ih =>
              intro cs out h
              obtain ⟨o, n, v⟩ := q
              simp only [fillL, Bool.cond_eq_ite, Bool.and_eq_true, Nat.beq_eq, Nat.ble_eq, forceL_eq] at h
              split at h
              · rename_i hc
                rw [ih _ _ h, lay_length (by omega)]
              · cases h
          rw [this _ _ _ hcs, reps_length, hzl]
        refine ⟨e, _, out, .sl 0 0 len n true, .slice (some ⟨w.heap.size, 0, none⟩) len len, rfl, ?_, hrel, h1, fun ψ b hb => ?_⟩
        · simp only [execOp, ho, Instr.buildSlice, Sem.run_bind, run_underlying hu, Result.andThen_ok, run_sizeOf_of hn]
          rw [if_neg (by omega)]
          by_cases h0 : len * n = 0
          · simp only [h0, if_true, pure_bind]
            rw [h0] at hout
            have hempty : ((Array.range 0).map fun x => (#[] : Array Value)[x % (#[] : Array Value).size]!) = (Array.range 0).map (zv.cells[· % n]!) := by simp
            rw [hempty, hout]
            simp [newRow]
          · simp only [h0, if_false, Sem.run_bind, hzrun, Result.andThen_ok, Sem.run_pure, hzsz, hout]
            simp [newRow]
        · simp only [reb, VRel]
          refine ⟨_, _, _, hb, rfl, Nat.le_refl _, fun _ => rfl, .inr ⟨by simp, by simp [hlen]⟩⟩
      · cases hr
    · cases hr
  · cases hc

theorem good_buildSlice (r : Rel G B φ h w) (ht : VRelL φ t a.tmps.toList) {ty : TypeId} {len : Nat} {ps : Array (Nat × Operand)} (ho : o.op = .buildSlice ty len ps)
    (hc : cOp P (.buildSlice ty len ps) = some op) (hr : runOp G (opd t) h op = some res) : Good P G B φ h w (execOp a.eval o) res := (made_buildSlice ht ho hc hr).good r

theorem bnd_spec {x : V} {v : Value} (hx : VRel φ x v) {most n : Nat} (hb : bnd x most = some n) (code : BoundsCode) : (Instr.sliceBound v most code).run P w = .ok n w ∧ n ≤ most := by
  unfold bnd at hb
  split at hb
  · rename_i k i
    simp only [Bool.cond_eq_ite, inRe_iff, forceN_eq] at hb
    split at hb
    · rename_i hc
      cases hb
      simp only [VRel] at hx
      subst hx
      refine ⟨by simp [Instr.sliceBound, asIntOf, hc], by omega⟩
    · cases hb
  · cases hb

/-- Bounds with no third index. 'most': what the model takes for the greatest high bound; 'am': what the abstract machine takes. -/
theorem bnds_spec {lo hi : Option Operand} {lo' hi' : Option O} (ht : VRelL φ t a.tmps.toList) (hlo : cOo lo = some lo') (hhi : cOo hi = some hi') {am len most l hh : Nat} (hm : am ≤ most) (_hl : len ≤ most)
    (hb : bnds am len (lo'.map (opd t)) (hi'.map (opd t)) = some (l, hh)) (sl : Bool) :
    (Instr.sliceBounds sl len most (lo.map a.eval) (hi.map a.eval) none).run P w = .ok (l, hh, most) w ∧ l ≤ hh ∧ (hh ≤ am ∨ hh = len) := by
  have hget : ∀ {x : Option Operand} {y : Option O}, cOo x = some y → (x = none ∧ y = none) ∨ ∃ x' y', x = some x' ∧ y = some y' ∧ VRel φ (opd t y') (a.eval x') := by
    intro x y hxy
    cases x with
    | none => simp only [cOo, Option.some.injEq] at hxy; exact .inl ⟨rfl, hxy.symm⟩
    | some x =>
      simp only [cOo, Option.map_eq_some_iff] at hxy
      obtain ⟨y', hy, rfl⟩ := hxy
      exact .inr ⟨x, y', rfl, rfl, eval_rel ht hy⟩
  have bmono : ∀ {x : V} {v : Value} {n : Nat}, VRel φ x v → bnd x am = some n → ∀ code, (Instr.sliceBound v most code).run P w = .ok n w ∧ n ≤ am := by
    intro x v n hx hb code
    have h1 := (bnd_spec (P := P) (w := w) hx hb code).2
    refine ⟨(bnd_spec hx (most := most) ?_ code).1, h1⟩
    unfold bnd at hb ⊢
    split at hb
    · simp only [Bool.cond_eq_ite, inRe_iff, forceN_eq] at hb ⊢
      split at hb
      · rename_i hc
        cases hb
        rw [if_pos ⟨hc.1, by omega⟩]
      · cases hb
    · cases hb
  rcases hget hhi with ⟨rfl, rfl⟩ | ⟨hx, hy, rfl, rfl, hr⟩
  · rcases hget hlo with ⟨rfl, rfl⟩ | ⟨lx, ly, rfl, rfl, lr⟩
    · simp only [bnds, Option.map_none, Option.some.injEq, Prod.mk.injEq] at hb
      obtain ⟨rfl, rfl⟩ := hb
      exact ⟨by simp [Instr.sliceBounds], by omega, .inr rfl⟩
    · simp only [bnds, Option.map_none, Option.map_some, Option.map_eq_some_iff, Prod.mk.injEq] at hb
      obtain ⟨l', hl', rfl, rfl⟩ := hb
      obtain ⟨q1, q2⟩ := bnd_spec (P := P) (w := w) lr hl' .sliceB
      exact ⟨by simp [Instr.sliceBounds, q1], q2, .inr rfl⟩
  · simp only [bnds, Option.map_some] at hb
    split at hb
    · cases hb
    · rename_i hh' hbh
      have hq := bmono hr hbh
      rcases hget hlo with ⟨rfl, rfl⟩ | ⟨lx, ly, rfl, rfl, lr⟩
      · simp only [Option.map_none, Option.some.injEq, Prod.mk.injEq] at hb
        obtain ⟨rfl, rfl⟩ := hb
        exact ⟨by cases sl <;> simp [Instr.sliceBounds, (hq _).1], by omega, .inl (hq .sliceB).2⟩
      · simp only [Option.map_some, Option.map_eq_some_iff, Prod.mk.injEq] at hb
        obtain ⟨l', hl', rfl, rfl⟩ := hb
        obtain ⟨q1, q2⟩ := bnd_spec (P := P) (w := w) lr hl' .sliceB
        exact ⟨by cases sl <;> simp [Instr.sliceBounds, (hq _).1, q1], q2, .inl (hq .sliceB).2⟩

theorem cOo_none {x : Option Operand} (h : cOo x = some none) : x = none := by
  cases x with
  | none => rfl
  | some x => simp only [cOo, Option.map_eq_some_iff] at h; obtain ⟨_, _, h⟩ := h; cases h

theorem cOo_some {x : Option Operand} {y : O} (h : cOo x = some (some y)) : ∃ x', x = some x' ∧ cO x' = some y := by
  cases x with
  | none => simp [cOo] at h
  | some x =>
    simp only [cOo, Option.map_eq_some_iff] at h
    obtain ⟨z, hz, h⟩ := h
    cases h
    exact ⟨x, rfl, hz⟩

theorem natsOf_extract {s : ByteArray} {l : List Nat} (e : natsOf s = l) (i j : Nat) : natsOf (s.extract i j) = (l.take j).drop i := by
  subst e
  unfold natsOf
  rw [ByteArray.data_extract, Array.toList_extract]
  rw [List.extract_eq_take_drop, List.map_take, List.map_drop, List.take_drop]
  by_cases h : i ≤ j
  · rw [show i + (j - i) = j from by omega]
  · rw [List.drop_eq_nil_of_le (by simp; omega), List.drop_eq_nil_of_le (by simp; omega)]

theorem isNone_eq {α : Type} {x : Option α} (h : x.isNone = true) : x = none := by cases x <;> simp at h; rfl

theorem good_slice (r : Rel G B φ h w) (ht : VRelL φ t a.tmps.toList) {ty : TypeId} {x : Operand} {lo hi mx : Option Operand} (ho : o.op = .slice ty x lo hi mx)
    (hc : cOp P (.slice ty x lo hi mx) = some op) (hr : runOp G (opd t) h op = some res) : Good P G B φ h w (execOp a.eval o) res := by
  simp only [cOp, bind, Option.bind_eq_some_iff] at hc
  obtain ⟨y, hy, lo', hlo, hi', hhi, mx', hmx, hc⟩ := hc
  have hx := eval_rel ht hy
  split at hc
  · -- a string
    rename_i hu
    split at hc
    · rename_i hm
      cases hc
      have := isNone_eq hm
      subst this
      have := cOo_none hmx
      subst this
      simp only [runOp, opSliceS, forceL_eq] at hr
      split at hr
      · rename_i l e
        split at hr
        · rename_i l1 h1 hb
          cases hr
          rw [e] at hx
          simp only [VRel] at hx
          obtain ⟨s, hv, hs⟩ := hx
          have hsz := natsOf_length hs
          obtain ⟨q1, q2, q3⟩ := bnds_spec (P := P) (w := w) ht hlo hhi (Nat.le_refl _) (Nat.le_refl _) hb false
          refine Good.val r (v := .string (s.extract l1 h1)) ?_ (by simp only [VRel]; exact ⟨_, rfl, natsOf_extract hs _ _⟩)
          rw [← hsz] at q1
          simp [execOp, ho, Instr.sliceAt, Instr.slice, run_underlying hu, hv, q1]
        · cases hr
      · cases hr
    · cases hc
  · -- a slice
    rename_i e hu
    rw [Option.bind_eq_some_iff] at hc
    obtain ⟨z, hz, hc⟩ := hc
    cases hc
    simp only [runOp, opSlice, mkSl_eq, Bool.cond_eq_ite] at hr
    split at hr
    · rename_i ex
      cases mx' with
      | some m' => cases hr
      | none =>
        simp only at hr
        split at hr
        · rename_i lh hb
          cases hr
          have := cOo_none hmx
          subst this
          obtain ⟨l1, h1⟩ := lh
          obtain ⟨q1, q2, q3⟩ := bnds_spec (P := P) (w := w) ht hlo hhi (Nat.le_refl 0) (Nat.le_refl 0) hb true
          rw [ex] at hx
          simp only [VRel] at hx
          have e1 : h1 = 0 := by omega
          have e2 : l1 = 0 := by omega
          subst e1
          subst e2
          refine Good.val r (v := .slice none 0 0) ?_ (by simp only [VRel])
          simp [execOp, ho, Instr.sliceAt, Instr.slice, run_underlying hu, hx, q1, run_sizeOf_of hz]
        · cases hr
    · rename_i b k n z' ex e
      split at hr
      · cases hr
      · rename_i hzz
        have hzz' : z' = z := by simpa using hzz
        subst hzz'
        rw [e] at hx
        simp only [VRel] at hx
        obtain ⟨q, ad, c, hq, hv, hnc, hexc, hor⟩ := hx
        -- what the model's slice comes to
        have key : ∀ l1 h1 m1 exx, l1 ≤ h1 → h1 ≤ m1 → m1 ≤ c → (exx = true → m1 = h1) →
            VRel φ (.sl b (k + l1 * z') (h1 - l1) z' exx) (.slice (some (if m1 = l1 then ad else ad.add (l1 * z'))) (h1 - l1) (m1 - l1)) := by
          intro l1 h1 m1 exx hl hh hm hxx
          simp only [VRel]
          refine ⟨q, _, _, hq, rfl, by omega, fun e => by have := hxx e; omega, ?_⟩
          by_cases em : m1 = l1
          · exact .inl (by omega)
          · rw [if_neg em]
            rcases hor with h' | ⟨h', h''⟩
            · omega
            · refine .inr ⟨by rw [h', addr_add _ _ rfl]; simp [Nat.add_assoc], ?_⟩
              have : l1 * z' + (m1 - l1) * z' = m1 * z' := by rw [← Nat.add_mul]; congr 1; omega
              have h2 : m1 * z' ≤ c * z' := Nat.mul_le_mul_right _ hm
              omega
        have fin : ∀ (l1 h1 m1 : Nat) (mxv : Option Value), (Instr.sliceBounds true n c (lo.map a.eval) (hi.map a.eval) mxv).run P w = .ok (l1, h1, m1) w → mx.map a.eval = mxv →
            (execOp a.eval o).run P w = .ok (.value (.slice (some (if m1 = l1 then ad else ad.add (l1 * z'))) (h1 - l1) (m1 - l1))) w := by
          intro l1 h1 m1 mxv hrun hmv
          simp only [execOp, ho, Instr.sliceAt, Instr.slice, Sem.run_bind, run_underlying hu, Result.andThen_ok, hv, hmv, hrun, run_sizeOf_of hz, Sem.run_pure]
          split <;> rfl
        cases mx' with
        | none =>
          simp only at hr
          have := cOo_none hmx
          subst this
          split at hr
          · rename_i l1 h1 hb
            cases hr
            obtain ⟨q1, q2, q3⟩ := bnds_spec (P := P) (w := w) ht hlo hhi hnc hnc hb true
            exact Good.val r (fin l1 h1 c none q1 rfl) (key l1 h1 c (ex && Nat.beq h1 n) q2 (by omega) (Nat.le_refl _) (fun e => by
              rw [Bool.and_eq_true] at e
              have e1 := hexc e.1
              have e2 := Nat.eq_of_beq_eq_true e.2
              omega))
          · cases hr
        | some m' =>
          obtain ⟨m, rfl, hm⟩ := cOo_some hmx
          have hmr := eval_rel ht hm
          simp only at hr
          cases hi' with
          | none => cases hr
          | some hx' =>
            obtain ⟨hv0, rfl, hh0⟩ := cOo_some hhi
            have hhr := eval_rel ht hh0
            simp only at hr
            split at hr
            · cases hr
            · rename_i m1 hbm
              obtain ⟨_, m1l⟩ := bnd_spec (P := P) (w := w) hmr hbm .slice3Acap
              have hbm' : bnd (opd t m') c = some m1 := by
                unfold bnd at hbm ⊢
                split at hbm
                · simp only [Bool.cond_eq_ite, inRe_iff, forceN_eq] at hbm ⊢
                  split at hbm
                  · rename_i hc'
                    cases hbm
                    rw [if_pos ⟨hc'.1, by omega⟩]
                  · cases hbm
                · cases hbm
              have m1c := (bnd_spec (P := P) (w := w) hmr hbm' .slice3Acap).1
              split at hr
              · cases hr
              · rename_i h1 hbh
                obtain ⟨h1c, h1l⟩ := bnd_spec (P := P) (w := w) hhr hbh .slice3B
                cases lo' with
                | none =>
                  have := cOo_none hlo
                  subst this
                  simp only at hr
                  cases hr
                  have k0 := key 0 h1 m1 (Nat.beq h1 m1) (Nat.zero_le _) h1l (by omega) (fun e => (Nat.eq_of_beq_eq_true e).symm)
                  simp only [Nat.zero_mul, Nat.add_zero, Nat.sub_zero] at k0
                  refine Good.val r (fin 0 h1 m1 (some (a.eval m)) ?_ rfl) (by simpa using k0)
                  simp [Instr.sliceBounds, m1c, h1c]
                | some lx =>
                  obtain ⟨lv0, rfl, hl0⟩ := cOo_some hlo
                  have hlr := eval_rel ht hl0
                  simp only at hr
                  split at hr
                  · cases hr
                  · rename_i l1 hbl
                    cases hr
                    obtain ⟨l1c, l1l⟩ := bnd_spec (P := P) (w := w) hlr hbl .slice3C
                    refine Good.val r (fin l1 h1 m1 (some (a.eval m)) ?_ rfl) (key l1 h1 m1 (Nat.beq h1 m1) l1l h1l (by omega) (fun e => (Nat.eq_of_beq_eq_true e).symm))
                    simp [Instr.sliceBounds, m1c, h1c, l1c]
    · cases hr
  · -- an array
    rename_i len e hu
    split at hc
    · rename_i hm
      rw [Option.bind_eq_some_iff] at hc
      obtain ⟨z, hz, hc⟩ := hc
      cases hc
      have := isNone_eq hm
      subst this
      have := cOo_none hmx
      subst this
      simp only [runOp, opSliceA, mkSl_eq] at hr
      split at hr
      · rename_i b k ee
        split at hr
        · rename_i row hrow
          split at hr
          · rename_i l1 h1 hb
            cases hr
            rw [ee] at hx
            simp only [VRel] at hx
            obtain ⟨q, hq, hv⟩ := hx
            obtain ⟨q1, q2, q3⟩ := bnds_spec (P := P) (w := w) ht hlo hhi (Nat.le_refl _) (Nat.le_refl _) hb false
            obtain ⟨_, _, _, _, _, _, ty', wr', fam', cs', hcs', hcl'⟩ := rowOf_rel r hrow hq
            have hk := r.blk b _ q hcs' hq
            obtain ⟨c0, lo0, hi0, z1, z2, z3, _⟩ := hk
            refine Good.val r (v := .slice (some (if len = l1 then ⟨q.b, q.o + k, none⟩ else ⟨q.b, q.o + k + l1 * z, none⟩)) (h1 - l1) (len - l1)) ?_ ?_
            · simp only [execOp, ho, Instr.sliceAt, Sem.run_bind, run_underlying hu, Result.andThen_ok, hv, Instr.sureAddr, Sem.run_pure, Option.map_none, q1, run_sizeOf_of hz, addr_add]
            · simp only [VRel]
              refine ⟨q, _, _, hq, rfl, by omega, fun e => by have := Nat.eq_of_beq_eq_true e; omega, ?_⟩
              by_cases em : len = l1
              · exact .inl (by omega)
              · rw [if_neg em]
                refine .inr ⟨by simp [Nat.add_assoc], ?_⟩
                have : l1 * z + (len - l1) * z = len * z := by rw [← Nat.add_mul]; congr 1; omega
                omega
          · cases hr
        · cases hr
      · cases hr
    · cases hc
  · cases hc

end
end Go.Sim
