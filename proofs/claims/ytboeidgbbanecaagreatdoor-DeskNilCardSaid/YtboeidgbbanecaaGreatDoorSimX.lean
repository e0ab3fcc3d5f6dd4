/- Operations, second part: those that make or write memory; calls. -/
import Derived.Test.YtboeidgbbanecaaGreatDoorSimU
import Derived.Test.YtboeidgbbanecaaGreatDoorSimW
namespace Go.Sim
open Go.RowKit

section
variable {P : Program} {G : Gl} {B : Nat} {φ : Phi} {h : H} {w : World} {t : List V} {a : Act} {o : Oper} {op : AOp} {res : OR}

/-- A block of cells is made on both sides. -/
theorem Rel.cells (r : Rel G B φ h w) {ty : Nat} {wr : Bool} {fam : Option (Nat × Nat)} {l : List V} {vs : List Value} {c : Array Value} {fm : Tr (List Nat)} (hv : VRelL φ l vs)
    (h1 : allOne l = true) (hp : ∃ rest, c.toList = vs ++ rest) (hn : fam = none → l.length = c.size) (hf : FmOk h (.cells ty wr fam l) fm) :
    ExtN h.next φ (upd φ h.next ⟨w.heap.size, 0, c.size⟩) ∧ Rel G B (upd φ h.next ⟨w.heap.size, 0, c.size⟩) { (h.new (.cells ty wr fam l)) with fm := fm } { w with heap := w.heap.push (.cells c ty) } := by
  refine r.new _ fm hf ?_
  exact CellsOk.made (hv.mono (r.ext _)) h1 hp hn

theorem upd_self (φ : Phi) (b : Nat) (a : RA) : upd φ b a b = some a := by unfold upd; rw [if_pos rfl]

theorem H.new_fm (h : H) (k : Blk) : ({ (h.new k) with fm := h.fm } : H) = h.new k := by
  unfold H.new
  rw [forceK_eq]

/-- The same with no change to the families. -/
theorem Rel.var (r : Rel G B φ h w) {ty : Nat} {l : List V} {c : Array Value} (hv : VRelL φ l c.toList) (h1 : allOne l = true) :
    ExtN h.next φ (upd φ h.next ⟨w.heap.size, 0, c.size⟩) ∧ Rel G B (upd φ h.next ⟨w.heap.size, 0, c.size⟩) (h.new (.cells ty true none l)) { w with heap := w.heap.push (.cells c ty) } :=
  H.new_fm h _ ▸ r.cells hv h1 ⟨[], by simp⟩ (fun _ => by rw [hv.length]; simp) (FmOk.same rfl)

/-- A value with its block's number changed. -/
def reb (b : Nat) : V → V
  | .ptr _ o => .ptr b o
  | .sl _ o n z e => .sl b o n z e
  | x => x

/-- A block of cells is made, and its place is what comes of it. -/
def Made (P : Program) (φ : Phi) (h : H) (w : World) (s : Sem Next) (res : OR) : Prop :=
  ∃ ty l c x v, res = .v (reb h.next x) (h.new (.cells ty true none l)) ∧ s.run P w = .ok (.value v) { w with heap := w.heap.push (.cells c ty) } ∧ VRelL φ l c.toList ∧ allOne l = true ∧
    ∀ ψ b, ψ b = some ⟨w.heap.size, 0, c.size⟩ → VRel ψ (reb b x) v

theorem Made.good {s : Sem Next} (r : Rel G B φ h w) (hm : Made P φ h w s res) : Good P G B φ h w s res := by
  obtain ⟨ty, l, c, x, v, rfl, h1, h2, h3, h4⟩ := hm
  obtain ⟨hx, hrel⟩ := r.var (ty := ty) (c := c) h2 h3
  exact ⟨v, _, _, h1, hx, hrel, h4 _ _ (upd_self _ _ _), Below.push _ r.bsz⟩

theorem made_alloc {e : TypeId} (ho : o.op = .alloc e)
    (hc : cOp P (.alloc e) = some op) (hr : runOp G (opd t) h op = some res) : Made P φ h w (execOp a.eval o) res := by
  simp only [cOp, bind, Option.bind_eq_some_iff] at hc
  obtain ⟨z, hz, hc⟩ := hc
  split at hc
  · rename_i h1
    cases hc
    simp only [runOp, Option.some.injEq] at hr
    subst hr
    obtain ⟨zv, hrun, hzv, _⟩ := run_zero_of (P := P) (w := w) hz
    refine ⟨e, _, zv.cells, .ptr 0 0, .pointer (some ⟨w.heap.size, 0, none⟩), rfl, ?_, (toV_rel φ hzv).cells, h1, fun ψ b hb => ?_⟩
    · simp [execOp, ho, Instr.alloc, hrun, newVar, newRow]
    · simp only [reb, VRel]
      exact ⟨_, hb, rfl⟩
  · cases hc

theorem good_alloc (r : Rel G B φ h w) {e : TypeId} (ho : o.op = .alloc e)
    (hc : cOp P (.alloc e) = some op) (hr : runOp G (opd t) h op = some res) : Good P G B φ h w (execOp a.eval o) res := (made_alloc ho hc hr).good r

theorem made_box (ht : VRelL φ t a.tmps.toList) {e : TypeId} {x : Operand} (ho : o.op = .box e x)
    (hc : cOp P (.box e x) = some op) (hr : runOp G (opd t) h op = some res) : Made P φ h w (execOp a.eval o) res := by
  simp only [cOp, bind, Option.bind_eq_some_iff] at hc
  obtain ⟨n, hn, y, hy, hc⟩ := hc
  cases hc
  simp only [runOp, opBox, Bool.cond_eq_ite, Bool.and_eq_true, Nat.beq_eq] at hr
  split at hr
  · rename_i hcond
    cases hr
    refine ⟨e, _, (a.eval x).cells, .ptr 0 0, .pointer (some ⟨w.heap.size, 0, none⟩), rfl, ?_, (eval_rel ht hy).cells, hcond.2, fun ψ b hb => ?_⟩
    · simp [execOp, ho, Instr.box, newVar, newRow]
    · simp only [reb, VRel]
      exact ⟨_, hb, rfl⟩
  · cases hr

theorem good_box (r : Rel G B φ h w) (ht : VRelL φ t a.tmps.toList) {e : TypeId} {x : Operand} (ho : o.op = .box e x)
    (hc : cOp P (.box e x) = some op) (hr : runOp G (opd t) h op = some res) : Good P G B φ h w (execOp a.eval o) res := (made_box ht ho hc hr).good r

theorem good_store (r : Rel G B φ h w) (ht : VRelL φ t a.tmps.toList) {ty : TypeId} {x y : Operand} (ho : o.op = .store ty x y)
    (hc : cOp P (.store ty x y) = some op) (hr : runOp G (opd t) h op = some res) : Good P G B φ h w (execOp a.eval o) res := by
  simp only [cOp, bind, Option.bind_eq_some_iff] at hc
  obtain ⟨n, hn, x', hx', y', hy', hc⟩ := hc
  cases hc
  have hx := eval_rel ht hx'
  have hy := (eval_rel ht hy').cells
  simp only [runOp, opStore, Bool.cond_eq_ite, Nat.beq_eq] at hr
  split at hr
  · rename_i b k e
    split at hr
    · rename_i hlen
      rw [Option.map_eq_some_iff] at hr
      obtain ⟨h', hs, rfl⟩ := hr
      rw [e] at hx
      simp only [VRel] at hx
      obtain ⟨q, hq, hv⟩ := hx
      obtain ⟨w', hrun, hrel, hbel⟩ := storeAt_rel (P := P) r hs hq hy
      refine ⟨w', φ, ?_, ExtN.refl _ φ, hrel, hbel⟩
      have hl := hy.length
      rw [hlen] at hl
      simp only [Array.length_toList] at hl
      simp [execOp, ho, Instr.storeAt, hv, Instr.sureAddr, storeVar, run_sizeOf_of hn, ← hl, hrun]
    · cases hr
  · cases hr

theorem good_makeMap (r : Rel G B φ h w) {ty : TypeId} {rs : Option Operand} (ho : o.op = .makeMap ty rs)
    (hc : cOp P (.makeMap ty rs) = some op) (hr : runOp G (opd t) h op = some res) : Good P G B φ h w (execOp a.eval o) res := by
  cases rs with
  | some _ => simp [cOp] at hc
  | none =>
    simp only [cOp, Option.some.injEq] at hc
    subst hc
    simp only [runOp, Option.some.injEq] at hr
    subst hr
    obtain ⟨hx, hrel⟩ := r.new (o := .map #[] 0) (n := 0) (.map []) h.fm (FmOk.same rfl) ⟨#[], 0, by simp, by simp [EntRel]⟩
    rw [H.new_fm] at hrel
    refine ⟨.map (some w.heap.size), _, _, ?_, hx, hrel, ?_, Below.push _ r.bsz⟩
    · simp [execOp, ho, Instr.makeMap]
    · simp only [VRel]
      exact ⟨_, upd_self _ _ _, rfl⟩

theorem good_range (r : Rel G B φ h w) (ht : VRelL φ t a.tmps.toList) {ty : TypeId} {x : Operand} (ho : o.op = .range ty x)
    (hc : cOp P (.range ty x) = some op) (hr : runOp G (opd t) h op = some res) : Good P G B φ h w (execOp a.eval o) res := by
  simp only [cOp] at hc
  split at hc
  · rename_i hu
    rw [Option.map_eq_some_iff] at hc
    obtain ⟨y, hy, rfl⟩ := hc
    have hx := eval_rel ht hy
    simp only [runOp, opRange] at hr
    split at hr
    · rename_i l e
      cases hr
      rw [e] at hx
      simp only [VRel] at hx
      obtain ⟨bs, hv, hb⟩ := hx
      obtain ⟨hx, hrel⟩ := r.new (o := .stringIter bs 0) (n := 0) (.siter l 0) h.fm (FmOk.same rfl) ⟨rfl, bs, by simp, hb⟩
      rw [H.new_fm] at hrel
      refine ⟨.pointer (some ⟨w.heap.size, 0, none⟩), _, _, ?_, hx, hrel, ?_, Below.push _ r.bsz⟩
      · simp [execOp, ho, Instr.range, run_underlying hu, hv]
      · simp only [VRel]
        exact ⟨_, upd_self _ _ _, rfl⟩
    · cases hr
  · cases hc

/-- A block that is no row of cells is set on both sides. -/
theorem Rel.setObj (r : Rel G B φ h w) {b : Nat} {k k' : Blk} {q : RA} {ob : Obj} (hb : h.get b = some k) (hq : φ b = some q) (hw : k.writes = true) (hc : k.fam = none) (hc' : k'.fam = none) (hw' : k.live = true)
    (_hl' : k'.writes = true) (hk : BlkOk φ k' q { w with heap := w.heap.setIfInBounds q.b ob }) (hsole : ∀ c ty wr fam l, k = .cells ty wr fam l → c = b) :
    Rel G B φ (h.set b k') { w with heap := w.heap.setIfInBounds q.b ob } ∧ Below B w { w with heap := w.heap.setIfInBounds q.b ob } := by
  have hB := r.base b k q hb hq hw
  have hother : ∀ j, j ≠ q.b → ({ w with heap := w.heap.setIfInBounds q.b ob } : World).heap[j]? = w.heap[j]? := by
    intro j hj
    show (w.heap.setIfInBounds q.b ob)[j]? = _
    rw [Array.getElem?_setIfInBounds_ne (by omega)]
  have hsz : ({ w with heap := w.heap.setIfInBounds q.b ob } : World).heap.size = w.heap.size := by simp
  have hlt := (r.dom b q hq).1
  refine ⟨⟨by rw [hsz]; exact r.bsz, r.gl, fun g l hg i x hx => ?_, fun c a' e => ?_, fun c hc0 => ?_, fun c k0 a' e ea => ?_, fun c k0 a' e ea hw0 => ?_, fun c1 c2 k1 k2 a1 a2 hne e1 e2 ea1 ea2 l1 l2 hab => ?_, fun c k0 f p e hk0 => ?_⟩,
    ⟨rfl, rfl, rfl, by simp, fun j hj => hother j (by omega)⟩⟩
  · obtain ⟨v, hv, hr⟩ := r.glob g l hg i x hx
    refine ⟨v, ?_, hr⟩
    have := r.gl g l hg
    unfold World.cell? at *
    rw [hother g (by omega)]
    exact hv
  · rw [hsz, H.next_set]; exact r.dom c a' e
  · rw [H.next_set] at hc0
    rw [H.get_set, if_neg (by omega)]
    exact r.nxt c hc0
  · rw [H.get_set] at e
    by_cases hcb : c = b
    · rw [if_pos hcb] at e
      cases e
      subst hcb
      rw [hq] at ea; cases ea
      exact hk
    · rw [if_neg hcb] at e
      by_cases hkl : k0.live = true
      · have hab : a'.b ≠ q.b := by
          intro hab
          obtain ⟨f, p, p', q1, q2, _⟩ := r.disj c b k0 k a' q hcb e hb ea hq hkl hw' hab
          rw [hc] at q2; cases q2
        exact (r.blk c k0 a' e ea).same (hother _ hab)
      · cases k0 <;> first | trivial | simp [Blk.live] at hkl
  · rw [H.get_set] at e
    by_cases hcb : c = b
    · subst hcb; rw [hq] at ea; cases ea; exact hB
    · rw [if_neg hcb] at e; exact r.base c k0 a' e ea hw0
  · rw [H.get_set] at e1 e2
    by_cases h1 : c1 = b
    · subst h1
      rw [if_neg (fun e => hne e.symm)] at e2
      rw [hq] at ea1; cases ea1
      obtain ⟨f, p, p', q1, _⟩ := r.disj c1 c2 k k2 q a2 hne hb e2 hq ea2 hw' l2 hab
      rw [hc] at q1; cases q1
    · rw [if_neg h1] at e1
      by_cases h2 : c2 = b
      · subst h2
        rw [hq] at ea2; cases ea2
        obtain ⟨f, p, p', _, q2, _⟩ := r.disj c1 c2 k1 k a1 q hne e1 hb ea1 hq l1 hw' hab
        rw [hc] at q2; cases q2
      · rw [if_neg h2] at e2
        exact r.disj c1 c2 k1 k2 a1 a2 hne e1 e2 ea1 ea2 l1 l2 hab
  · rw [H.get_set] at e
    by_cases hcb : c = b
    · rw [if_pos hcb] at e; cases e; rw [hc'] at hk0; cases hk0
    · rw [if_neg hcb] at e; rw [H.next_set, H.fm_set]; exact r.fams c k0 f p e hk0

theorem decodeL_eq {s : ByteArray} {l : List Nat} (e : natsOf s = l) {p : Nat} (hp : p < l.length) : decodeL l p = Utf8.decode s p := by
  have hl : l.map UInt8.ofNat = s.data.toList := by
    subst e
    unfold natsOf
    rw [List.map_map]
    conv => rhs; rw [← List.map_id s.data.toList]
    congr 1
    funext x
    simp
  unfold decodeL
  rw [List.getElem?_eq_getElem hp]
  simp only [Bool.cond_eq_ite, Nat.blt_eq]
  split
  · rename_i hlt
    obtain ⟨b, hb, hbn⟩ := natsOf_get e (List.getElem?_eq_getElem hp)
    have hget : s.get! p = b := by
      have hps : p < s.size := by rw [natsOf_length e]; exact hp
      have : s[p]? = some s[p] := getElem?_pos s p hps
      rw [this] at hb
      cases hb
      have e1 : s.get! p = s.data[p]! := rfl
      rw [e1, getElem!_pos s.data p (by exact hps)]
      rfl
    unfold Utf8.decode
    simp [hget, hbn, hlt]
  · congr 1
    rw [hl]

theorem run_getObj_iter {b p : Nat} {s : ByteArray} (hb : w.heap[b]? = some (.stringIter s p)) : (getObj b).run P w = .ok (.stringIter s p) w := by
  simp [getObj, Sem.run, hb]
theorem run_setObj_iter {b p : Nat} {s : ByteArray} (ob : Obj) (hb : w.heap[b]? = some (.stringIter s p)) : (setObj b ob).run P w = .ok () { w with heap := w.heap.setIfInBounds b ob } := by
  simp [setObj, Sem.run, hb]
theorem run_getObj_mp {b c : Nat} {es : Array MapEntry} (hb : w.heap[b]? = some (.map es c)) : (getObj b).run P w = .ok (.map es c) w := by
  simp [getObj, Sem.run, hb]
theorem run_setObj_mp {b c : Nat} {es : Array MapEntry} (ob : Obj) (hb : w.heap[b]? = some (.map es c)) : (setObj b ob).run P w = .ok () { w with heap := w.heap.setIfInBounds b ob } := by
  simp [setObj, Sem.run, hb]

theorem good_next (r : Rel G B φ h w) (ht : VRelL φ t a.tmps.toList) {x : Operand} {b : Bool} (ho : o.op = .next x b)
    (hc : cOp P (.next x b) = some op) (hr : runOp G (opd t) h op = some res) : Good P G B φ h w (execOp a.eval o) res := by
  cases b with
  | false => simp [cOp] at hc
  | true =>
    simp only [cOp, Option.map_eq_some_iff] at hc
    obtain ⟨y, hy, rfl⟩ := hc
    have hx := eval_rel ht hy
    simp only [runOp, opNext, Bool.cond_eq_ite] at hr
    split at hr
    · rename_i rr k0 e
      rw [e] at hx
      simp only [VRel] at hx
      obtain ⟨q, hq, hv⟩ := hx
      split at hr
      · cases hr
      rename_i hk0
      simp only [Bool.not_eq_true', Bool.not_eq_false, Nat.beq_eq] at hk0
      subst hk0
      split at hr
      · rename_i l p hg
        have hk := r.blk rr _ q hg hq
        obtain ⟨hq0, s, hs, hnat⟩ := hk
        have hsz := natsOf_length hnat
        simp only [Nat.blt_eq, forceN_eq] at hr
        split at hr
        · rename_i hp
          have hd := decodeL_eq hnat hp
          simp only [Option.some.injEq] at hr
          subst hr
          rw [hd]
          have hlt : p < s.size := by omega
          obtain ⟨hrel, hbel⟩ := r.setObj (ob := .stringIter s (p + (Utf8.decode s p).2)) (k' := .siter l (p + (Utf8.decode s p).2)) hg hq rfl rfl rfl rfl rfl
            ⟨hq0, s, by
              have := (r.dom rr q hq).2
              show (w.heap.setIfInBounds q.b _)[q.b]? = _
              simp [this], hnat⟩ (fun _ _ _ _ _ e => by cases e)
          refine ⟨.tuple #[.bool true, .int .i64 p, .int .i32 (Utf8.decode s p).1], _, φ, ?_, ExtN.refl _ φ, hrel, ?_, hbel⟩
          · simp [execOp, ho, hv, hq0, Instr.next, run_getObj_iter hs, run_setObj_iter _ hs, hlt, goInt]
          · simp only [VRel, VRelL]
            exact ⟨_, rfl, _, _, rfl, rfl, _, _, rfl, rfl, _, _, rfl, rfl, rfl⟩
        · rename_i hp
          cases hr
          have hlt : ¬ p < s.size := by omega
          refine Good.val r (v := .tuple #[.bool false]) ?_ (by simp only [VRel, VRelL]; exact ⟨_, rfl, _, _, rfl, rfl, rfl⟩)
          simp [execOp, ho, hv, hq0, Instr.next, run_getObj_iter hs, hlt]
      · cases hr
    · cases hr

end
end Go.Sim
