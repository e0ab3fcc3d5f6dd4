/- Operations, first part: those that make and write no memory. -/
import Derived.Test.YtboeidgbbanecaaGreatDoorSimT
namespace Go.Sim
open Go.RowKit

section
variable {P : Program} {G : Gl} {B : Nat} {φ : Phi} {h : H} {w : World} {t : List V} {a : Act} {o : Oper} {op : AOp} {res : OR}

theorem good_move (r : Rel G B φ h w) (ht : VRelL φ t a.tmps.toList) {x : Operand} (ho : o.op = .move x ∨ o.op = .assign x)
    (hc : (cO x).map AOp.mov = some op) (hr : runOp G (opd t) h op = some res) : Good P G B φ h w (execOp a.eval o) res := by
  rw [Option.map_eq_some_iff] at hc
  obtain ⟨y, hy, rfl⟩ := hc
  simp only [runOp, Option.some.injEq] at hr
  subst hr
  refine Good.val r ?_ (eval_rel ht hy)
  rcases ho with ho | ho <;> simp [execOp, ho]

theorem good_pick (r : Rel G B φ h w) (ht : VRelL φ t a.tmps.toList) {c x y : Operand} (ho : o.op = .pick c x y)
    (hc : cOp P (.pick c x y) = some op) (hr : runOp G (opd t) h op = some res) : Good P G B φ h w (execOp a.eval o) res := by
  simp only [cOp, bind, Option.bind_eq_some_iff] at hc
  obtain ⟨c', hc', x', hx', y', hy', hc⟩ := hc
  cases hc
  simp only [runOp, opPick] at hr
  have hcr := eval_rel ht hc'
  split at hr
  · rename_i b hb
    cases hr
    rw [hb] at hcr
    simp only [VRel] at hcr
    cases b
    · exact Good.val r (v := a.eval y) (by simp [execOp, ho, asBool, hcr]) (by simpa using eval_rel ht hy')
    · exact Good.val r (v := a.eval x) (by simp [execOp, ho, asBool, hcr]) (by simpa using eval_rel ht hx')
  · cases hr

theorem run_loadVar_of (r : Rel G B φ h w) {ty : TypeId} {g : Bool} {n : Nat} (hg : aggT P ty = some g) (hn : sizeT P ty = some n) {x : V} {v : Value} (hx : VRel φ x v) {l : List V}
    (hl : loadAt G h (if g then n else 1) x = some l) :
    ∃ u, (Instr.loadAt ty v).run P w = .ok u w ∧ (g = true → VRel φ (.ag l) u) ∧ (g = false → ∀ y, l = [y] → VRel φ y u) := by
  obtain ⟨ad, vs, rfl, hs, hlen, hrel, hcell⟩ := loadAt_rel r hx hl
  cases g with
  | true =>
    simp only [if_true] at hlen
    refine ⟨.agg ⟨vs⟩, ?_, fun _ => ?_, fun e => (by cases e)⟩
    · simp only [Instr.loadAt, Instr.sureAddr, loadVar, Sem.run_bind, Sem.run_pure, Result.andThen_ok, run_isAgg_of hg, if_true, run_sizeOf_of hn]
      rw [← hlen, run_loadCells_at ad hs vs hcell]
      rfl
    · simp only [VRel]
      exact ⟨vs, rfl, hrel⟩
  | false =>
    simp only [Bool.false_eq_true, if_false] at hlen
    match vs, hlen with
    | [u], _ =>
      refine ⟨u, ?_, fun e => (by cases e), fun _ y hy => ?_⟩
      · have := hcell 0 u (by simp)
        have he : (⟨ad.block, ad.off + 0, none⟩ : Addr) = ad := by cases ad; simp_all
        rw [he] at this
        simp [Instr.loadAt, Instr.sureAddr, loadVar, run_isAgg_of hg, this]
      · subst hy
        simp only [VRelL] at hrel
        obtain ⟨v', vs', e, h1, _⟩ := hrel
        cases e
        exact h1

theorem cellOf_row {b k : Nat} {v : V} (hc : cellOf h b k = some v) : rowOf h b k 1 = some [v] := by
  unfold cellOf at hc
  unfold rowOf
  split at hc
  · rename_i ty wr fam l hb
    have hk : k < l.length := by
      rcases Nat.lt_or_ge k l.length with h' | h'
      · exact h'
      · rw [List.getElem?_eq_none h'] at hc; cases hc
    rw [List.getElem?_eq_getElem hk] at hc
    cases hc
    simp only [Bool.cond_eq_ite, Nat.ble_eq, forceL_eq]
    rw [if_pos (by omega), List.drop_eq_getElem_cons hk]
    rfl
  · cases hc

theorem load1_spec {y : O} (hr : opLoad1 G (opd t) h y = some res) : ∃ v, loadAt G h 1 (opd t y) = some [v] ∧ res = .v v h := by
  unfold opLoad1 at hr
  split at hr
  · rename_i b k e
    rw [Option.map_eq_some_iff] at hr
    obtain ⟨v, hv, rfl⟩ := hr
    exact ⟨v, by rw [e]; exact cellOf_row hv, rfl⟩
  · split at hr
    · rename_i v hl
      cases hr
      exact ⟨v, hl, rfl⟩
    · cases hr

theorem good_load (r : Rel G B φ h w) (ht : VRelL φ t a.tmps.toList) {ty : TypeId} {x : Operand} (ho : o.op = .load ty x)
    (hc : cOp P (.load ty x) = some op) (hr : runOp G (opd t) h op = some res) : Good P G B φ h w (execOp a.eval o) res := by
  simp only [cOp, bind, Option.bind_eq_some_iff] at hc
  obtain ⟨y, hy, g, hg, n, hn, hc⟩ := hc
  cases hc
  have hx := eval_rel ht hy
  cases g with
  | true =>
    simp only [if_true, runOp, opLoadN, Option.map_eq_some_iff] at hr
    obtain ⟨l, hl, rfl⟩ := hr
    obtain ⟨u, hu, h1, _⟩ := run_loadVar_of (P := P) r hg hn hx (by simpa using hl)
    exact Good.val r (by simp [execOp, ho, hu]) (h1 rfl)
  | false =>
    simp only [Bool.false_eq_true, if_false, runOp] at hr
    obtain ⟨y', hl, rfl⟩ := load1_spec hr
    obtain ⟨u, hu, _, h1⟩ := run_loadVar_of (P := P) r hg hn hx (by simpa using hl)
    exact Good.val r (by simp [execOp, ho, hu]) (h1 rfl _ rfl)

theorem good_nilCheck (r : Rel G B φ h w) (ht : VRelL φ t a.tmps.toList) {x : Operand} (ho : o.op = .nilCheck x)
    (hc : cOp P (.nilCheck x) = some op) (hr : runOp G (opd t) h op = some res) : Good P G B φ h w (execOp a.eval o) res := by
  simp only [cOp, Option.map_eq_some_iff] at hc
  obtain ⟨y, hy, rfl⟩ := hc
  have hx := eval_rel ht hy
  simp only [runOp, opNilchk] at hr
  split at hr
  · rename_i b k e
    cases hr
    rw [e] at hx
    have hx' := hx
    simp only [VRel] at hx
    obtain ⟨q, hq, hv⟩ := hx
    exact Good.val r (v := a.eval x) (by simp [execOp, ho, hv]) hx'
  · rename_i b k e
    cases hr
    rw [e] at hx
    have hx' := hx
    simp only [VRel] at hx
    exact Good.val r (v := a.eval x) (by simp [execOp, ho, hx]) hx'
  · rename_i b k e
    cases hr
    rw [e] at hx
    have hx' := hx
    simp only [VRel] at hx
    obtain ⟨q, hv, hq⟩ := hx
    exact Good.val r (v := a.eval x) (by simp [execOp, ho, hv]) hx'
  · rename_i b k e
    cases hr
    rw [e] at hx
    have hx' := hx
    simp only [VRel] at hx
    obtain ⟨q, hv, hq⟩ := hx
    exact Good.val r (v := a.eval x) (by simp [execOp, ho, hv]) hx'
  · cases hr

theorem good_unOp (r : Rel G B φ h w) (ht : VRelL φ t a.tmps.toList) {u : UnOp} {ty : TypeId} {x : Operand} (ho : o.op = .unOp u ty x)
    (hc : cOp P (.unOp u ty x) = some op) (hr : runOp G (opd t) h op = some res) : Good P G B φ h w (execOp a.eval o) res := by
  simp only [cOp, bind, Option.bind_eq_some_iff] at hc
  obtain ⟨y, hy, hc⟩ := hc
  cases hc
  have hx := eval_rel ht hy
  simp only [runOp, opUn] at hr
  split at hr
  · rename_i x e
    cases hr
    rw [e] at hx
    simp only [VRel] at hx
    exact Good.val r (v := .bool (!x)) (by simp [execOp, ho, hx, Op.unary]) (by simp only [VRel])
  · rename_i k n e
    simp only [mkI, forceI_eq, Option.map_some, Option.some.injEq] at hr
    subst hr
    rw [e] at hx
    simp only [VRel] at hx
    exact Good.val r (v := .int k (k.wrap (0 - n))) (by simp [execOp, ho, hx, Op.unary, Op.intArith]) (by simp only [VRel])
  · cases hr

theorem good_makeInterface (r : Rel G B φ h w) (ht : VRelL φ t a.tmps.toList) {ty : TypeId} {x : Operand} (ho : o.op = .makeInterface ty x)
    (hc : cOp P (.makeInterface ty x) = some op) (hr : runOp G (opd t) h op = some res) : Good P G B φ h w (execOp a.eval o) res := by
  simp only [cOp, bind, Option.bind_eq_some_iff] at hc
  obtain ⟨y, hy, hc⟩ := hc
  have hx := eval_rel ht hy
  split at hc
  · cases hc
  · rename_i d hne hu
    cases hc
    simp only [runOp, forceV_eq, Option.some.injEq] at hr
    subst hr
    refine Good.val r (v := .iface ty (a.eval x)) ?_ (by simp only [VRel]; exact ⟨_, rfl, hx⟩)
    simp only [execOp, ho, Instr.makeInterface, Sem.run_bind, run_underlying hu, Result.andThen_ok]
    cases d <;> first
      | exact (hne _ rfl).elim
      | simp
  · cases hc

theorem good_extract (r : Rel G B φ h w) (ht : VRelL φ t a.tmps.toList) {x : Operand} {i : Nat} (ho : o.op = .extract x i)
    (hc : cOp P (.extract x i) = some op) (hr : runOp G (opd t) h op = some res) : Good P G B φ h w (execOp a.eval o) res := by
  simp only [cOp, bind, Option.bind_eq_some_iff] at hc
  obtain ⟨y, hy, hc⟩ := hc
  cases hc
  have hx := eval_rel ht hy
  simp only [runOp, opExtract] at hr
  split at hr
  · rename_i l e
    rw [Option.map_eq_some_iff] at hr
    obtain ⟨v, hv, rfl⟩ := hr
    rw [e] at hx
    simp only [VRel] at hx
    obtain ⟨cs, he, hl⟩ := hx
    obtain ⟨u, hu, hrel⟩ := hl.get hv
    refine Good.val r (v := u) ?_ hrel
    simp [execOp, ho, he, Instr.extract, hu]
  · cases hr

theorem good_panic (_r : Rel G B φ h w) (ht : VRelL φ t a.tmps.toList) {x : Operand} (ho : o.op = .panic x)
    (hc : cOp P (.panic x) = some op) (hr : runOp G (opd t) h op = some res) : Good P G B φ h w (execOp a.eval o) res := by
  simp only [cOp, Option.map_eq_some_iff] at hc
  obtain ⟨y, hy, rfl⟩ := hc
  have hx := eval_rel ht hy
  simp only [runOp, opPanic] at hr
  split at hr
  · rename_i u v e
    cases hr
    rw [e] at hx
    have hx' := hx
    simp only [VRel] at hx
    obtain ⟨z, hv, hz⟩ := hx
    refine ⟨rfl, a.eval x, ?_, hx'⟩
    rw [hv]
    simp [execOp, ho, Instr.panic, hv]
  · cases hr

theorem good_fieldAddr (r : Rel G B φ h w) (ht : VRelL φ t a.tmps.toList) {s : TypeId} {x : Operand} {i : Nat} (ho : o.op = .fieldAddr s x i)
    (hc : cOp P (.fieldAddr s x i) = some op) (hr : runOp G (opd t) h op = some res) : Good P G B φ h w (execOp a.eval o) res := by
  simp only [cOp, bind, Option.bind_eq_some_iff] at hc
  obtain ⟨fs, hfs, f, hf, n, hn, hc⟩ := hc
  split at hc
  · cases hc
  · rename_i hne
    rw [Option.bind_eq_some_iff] at hc
    obtain ⟨y, hy, hc⟩ := hc
    cases hc
    have hx := eval_rel ht hy
    have hu : P.underlying s = some (.struct fs) := by
      unfold fieldsT at hfs
      split at hfs
      · rename_i e; cases hfs; exact e
      · cases hfs
    have hplace : ∀ ad : Addr, ad.spot = none → (fieldPlace ad f).run P w = .ok ⟨ad.block, ad.off + f.offset, none⟩ w := by
      intro ad hs
      simp [fieldPlace, run_sizeOf_of hn, hne, addr_add _ _ hs]
    simp only [runOp, opFaddr, mkPtr, forceN_eq] at hr
    split at hr
    · rename_i b k e
      cases hr
      rw [e] at hx
      simp only [VRel] at hx
      obtain ⟨q, hq, hv⟩ := hx
      refine Good.val r (v := .pointer (some ⟨q.b, q.o + (k + f.offset), none⟩)) ?_ (by simp only [VRel]; exact ⟨q, hq, rfl⟩)
      simp [execOp, ho, Instr.fieldAt, run_underlying hu, hf, hv, Instr.sureAddr, hplace, Nat.add_assoc]
    · rename_i g k e
      cases hr
      rw [e] at hx
      simp only [VRel] at hx
      refine Good.val r (v := .pointer (some ⟨g, k + f.offset, none⟩)) ?_ (by simp only [VRel])
      simp [execOp, ho, Instr.fieldAt, run_underlying hu, hf, hx, Instr.sureAddr, hplace]
    · cases hr

theorem part_rel {φ : Phi} {ty : TypeId} {g : Bool} {n : Nat} (hg : aggT P ty = some g) (hn : sizeT P ty = some n) {l : List V} {cs : List Value} (hl : VRelL φ l cs) (off : Nat) (w : World) :
    (g = true → ∃ v, (part ty ⟨cs⟩ off).run P w = .ok v w ∧ VRel φ (.ag ((l.drop off).take n)) v) ∧
    (g = false → ∀ x, l[off]? = some x → ∃ v, (part ty ⟨cs⟩ off).run P w = .ok v w ∧ VRel φ x v) := by
  refine ⟨fun e => ?_, fun e x hx => ?_⟩
  · subst e
    refine ⟨.agg ⟨(cs.drop off).take n⟩, ?_, ?_⟩
    · simp only [part, Sem.run_bind, run_isAgg_of hg, Result.andThen_ok, if_true, run_sizeOf_of hn, Sem.run_pure]
      congr 3
      rw [← Array.toList_inj]
      simp [List.take_drop]
    · simp only [VRel]
      exact ⟨_, rfl, (hl.drop off).take n⟩
  · subst e
    obtain ⟨v, hv, hr⟩ := hl.get hx
    exact ⟨v, by simp [part, run_isAgg_of hg, hv], hr⟩

theorem good_field (r : Rel G B φ h w) (ht : VRelL φ t a.tmps.toList) {s : TypeId} {x : Operand} {i : Nat} (ho : o.op = .field s x i)
    (hc : cOp P (.field s x i) = some op) (hr : runOp G (opd t) h op = some res) : Good P G B φ h w (execOp a.eval o) res := by
  simp only [cOp, bind, Option.bind_eq_some_iff] at hc
  obtain ⟨fs, hfs, f, hf, g, hg, n, hn, y, hy, hc⟩ := hc
  cases hc
  have hx := eval_rel ht hy
  have hu : P.underlying s = some (.struct fs) := by
    unfold fieldsT at hfs
    split at hfs
    · rename_i e; cases hfs; exact e
    · cases hfs
  simp only [runOp, opField, forceL_eq, Bool.cond_eq_ite, Nat.ble_eq] at hr
  split at hr
  · rename_i l e
    rw [e] at hx
    simp only [VRel] at hx
    obtain ⟨cs, hv, hl⟩ := hx
    obtain ⟨p1, p2⟩ := part_rel (P := P) hg hn hl f.offset w
    cases g with
    | true =>
      simp only [if_true] at hr
      split at hr
      · cases hr
        obtain ⟨v, h1, h2⟩ := p1 rfl
        exact Good.val r (by simp [execOp, ho, Instr.field, run_underlying hu, hf, hv, asAgg, h1]) h2
      · cases hr
    | false =>
      simp only [Bool.false_eq_true, if_false, Option.map_eq_some_iff] at hr
      obtain ⟨z, hz, rfl⟩ := hr
      obtain ⟨v, h1, h2⟩ := p2 rfl z hz
      exact Good.val r (by simp [execOp, ho, Instr.field, run_underlying hu, hf, hv, asAgg, h1]) h2
  · cases hr

theorem inR_iff {j : Int} {n : Nat} : inR j n = true ↔ 0 ≤ j ∧ j < n := by
  cases j with
  | ofNat m => simp only [inR, Nat.blt_eq, Int.ofNat_eq_natCast]; omega
  | negSucc m => simp only [inR]; simp
theorem inRe_iff {j : Int} {n : Nat} : inRe j n = true ↔ 0 ≤ j ∧ j ≤ n := by
  cases j with
  | ofNat m => simp only [inRe, Nat.ble_eq, Int.ofNat_eq_natCast]; omega
  | negSucc m => simp only [inRe]; simp

theorem good_indexAddr (r : Rel G B φ h w) (ht : VRelL φ t a.tmps.toList) {s : TypeId} {x i : Operand} (ho : o.op = .indexAddr s x i)
    (hc : cOp P (.indexAddr s x i) = some op) (hr : runOp G (opd t) h op = some res) : Good P G B φ h w (execOp a.eval o) res := by
  simp only [cOp, bind, Option.bind_eq_some_iff] at hc
  obtain ⟨y, hy, j, hj, hc⟩ := hc
  have hx := eval_rel ht hy
  have hi := eval_rel ht hj
  split at hc
  · rename_i e hu
    rw [Option.bind_eq_some_iff] at hc
    obtain ⟨z, hz, hc⟩ := hc
    cases hc
    simp only [runOp, opIaddr, mkPtr, forceN_eq, Bool.cond_eq_ite, Bool.and_eq_true, Nat.beq_eq, inR_iff] at hr
    split at hr
    · rename_i b k n z' ex kk jj e1 e2
      split at hr
      · rename_i hcond
        obtain ⟨rfl, h0, hlt⟩ := hcond
        cases hr
        rw [e1] at hx
        rw [e2] at hi
        simp only [VRel] at hx hi
        obtain ⟨q, ad, c, hq, hv, hnc, _, hor⟩ := hx
        have had : ad = ⟨q.b, q.o + k, none⟩ := by
          rcases hor with h' | ⟨h', _⟩
          · omega
          · exact h'
        refine Good.val r (v := .pointer (some ⟨q.b, q.o + (k + jj.toNat * z'), none⟩)) ?_ (by simp only [VRel]; exact ⟨q, hq, rfl⟩)
        simp [execOp, ho, Instr.indexAt, asIntOf, hi, hv, run_underlying hu, h0, hlt, run_sizeOf_of hz, had, addr_add, Nat.add_assoc]
      · cases hr
    · cases hr
  · rename_i len e hu
    rw [Option.bind_eq_some_iff] at hc
    obtain ⟨z, hz, hc⟩ := hc
    cases hc
    simp only [runOp, opIaddrA, mkPtr, forceN_eq, Bool.cond_eq_ite, inR_iff] at hr
    split at hr
    · rename_i b k kk jj e1 e2
      split at hr
      · rename_i hcond
        obtain ⟨h0, hlt⟩ := hcond
        cases hr
        rw [e1] at hx
        rw [e2] at hi
        simp only [VRel] at hx hi
        obtain ⟨q, hq, hv⟩ := hx
        refine Good.val r (v := .pointer (some ⟨q.b, q.o + (k + jj.toNat * z), none⟩)) ?_ (by simp only [VRel]; exact ⟨q, hq, rfl⟩)
        simp [execOp, ho, Instr.indexAt, asIntOf, hi, hv, run_underlying hu, h0, hlt, run_sizeOf_of hz, Instr.sureAddr, addr_add, Nat.add_assoc]
      · cases hr
    · rename_i g k kk jj e1 e2
      split at hr
      · rename_i hcond
        obtain ⟨h0, hlt⟩ := hcond
        cases hr
        rw [e1] at hx
        rw [e2] at hi
        simp only [VRel] at hx hi
        refine Good.val r (v := .pointer (some ⟨g, k + jj.toNat * z, none⟩)) ?_ (by simp only [VRel])
        simp [execOp, ho, Instr.indexAt, asIntOf, hi, hx, run_underlying hu, h0, hlt, run_sizeOf_of hz, Instr.sureAddr, addr_add]
      · cases hr
    · cases hr
  · cases hc

theorem natsOf_get {s : ByteArray} {l : List Nat} (e : natsOf s = l) {i c : Nat} (hi : l[i]? = some c) : ∃ b : UInt8, s[i]? = some b ∧ b.toNat = c := by
  subst e
  unfold natsOf at hi
  rw [List.getElem?_map, Option.map_eq_some_iff] at hi
  obtain ⟨b, hb, rfl⟩ := hi
  refine ⟨b, ?_, rfl⟩
  rw [Array.getElem?_toList] at hb
  rw [Array.getElem?_eq_some_iff] at hb
  obtain ⟨hlt, hb⟩ := hb
  rw [getElem?_pos s i (by exact hlt)]
  exact congrArg some hb

theorem natsOf_length {s : ByteArray} {l : List Nat} (e : natsOf s = l) : s.size = l.length := by
  subst e
  unfold natsOf
  rw [List.length_map, Array.length_toList]
  rfl

theorem good_index (r : Rel G B φ h w) (ht : VRelL φ t a.tmps.toList) {s : TypeId} {x i : Operand} (ho : o.op = .index s x i)
    (hc : cOp P (.index s x i) = some op) (hr : runOp G (opd t) h op = some res) : Good P G B φ h w (execOp a.eval o) res := by
  simp only [cOp, bind, Option.bind_eq_some_iff] at hc
  obtain ⟨y, hy, j, hj, hc⟩ := hc
  have hx := eval_rel ht hy
  have hi := eval_rel ht hj
  split at hc
  · rename_i hu
    cases hc
    simp only [runOp, opIndexS] at hr
    split at hr
    · rename_i l kk jj e1 e2
      · rw [Option.map_eq_some_iff] at hr
        obtain ⟨c, hc, rfl⟩ := hr
        rw [e1] at hx
        rw [e2] at hi
        simp only [VRel] at hx hi
        obtain ⟨bs, hv, hb⟩ := hx
        obtain ⟨b, hb1, hb2⟩ := natsOf_get hb hc
        refine Good.val r (v := .int .u8 (Int.ofNat c)) ?_ (by simp only [VRel])
        simp [execOp, ho, Instr.index, asIntOf, hi, hv, run_underlying hu, hb1, hb2]
    · cases hr
  · rename_i len e hu
    simp only [Option.bind_eq_some_iff] at hc
    obtain ⟨g, hg, n, hn, hc⟩ := hc
    cases hc
    simp only [runOp, opIndexA, forceL_eq, Bool.cond_eq_ite, Nat.ble_eq, inR_iff] at hr
    split at hr
    · rename_i l kk jj e1 e2
      split at hr
      · rename_i hcond
        obtain ⟨h0, hlt⟩ := hcond
        rw [e1] at hx
        rw [e2] at hi
        simp only [VRel] at hx hi
        obtain ⟨cs, hv, hl⟩ := hx
        obtain ⟨p1, p2⟩ := part_rel (P := P) hg hn hl (jj.toNat * n) w
        cases g with
        | true =>
          simp only [if_true] at hr
          split at hr
          · cases hr
            obtain ⟨v, h1, h2⟩ := p1 rfl
            exact Good.val r (by simp [execOp, ho, Instr.index, asIntOf, hi, hv, run_underlying hu, h0, hlt, run_sizeOf_of hn, h1]) h2
          · cases hr
        | false =>
          simp only [Bool.false_eq_true, if_false, Option.map_eq_some_iff] at hr
          obtain ⟨z, hz, rfl⟩ := hr
          obtain ⟨v, h1, h2⟩ := p2 rfl z hz
          exact Good.val r (by simp [execOp, ho, Instr.index, asIntOf, hi, hv, run_underlying hu, h0, hlt, run_sizeOf_of hn, h1]) h2
      · cases hr
    · cases hr
  · cases hc

theorem good_makeFunc (r : Rel G B φ h w) (ht : VRelL φ t a.tmps.toList) {fn : Fn} {first caps : Array Operand} (ho : o.op = .makeFunc fn first caps)
    (hc : cOp P (.makeFunc fn first caps) = some op) (hr : runOp G (opd t) h op = some res) : Good P G B φ h w (execOp a.eval o) res := by
  match fn, first, hc with
  | .func f, ⟨[]⟩, hc =>
    simp only [cOp, bind, Option.bind_eq_some_iff] at hc
    obtain ⟨ys, hys, hc⟩ := hc
    cases hc
    simp only [runOp, Option.some.injEq] at hr
    subst hr
    have hl := evals_rel ht hys
    refine Good.val r (v := .func (.func f) #[] ⟨caps.toList.map a.eval⟩) ?_ (by simp only [VRel]; exact ⟨_, rfl, hl⟩)
    simp only [execOp, ho, Instr.makeFunc]
    simp
    rw [← Array.toList_inj]; simp
  | .func _, ⟨_ :: _⟩, hc => simp [cOp] at hc
  | .method _, _, hc => simp [cOp] at hc
  | .methodOf _ _, _, hc => simp [cOp] at hc
  | .via _ _ _ _, _, hc => simp [cOp] at hc
  | .yield _, _, hc => simp [cOp] at hc

end
end Go.Sim
