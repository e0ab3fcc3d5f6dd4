/- How an abstract heap stands to a world of the model; how memory made and memory written keeps that. -/
import Derived.Test.YtboeidgbbanecaaGreatDoorSimC
import Derived.Below
namespace Go.Sim
open Go.RowKit

/-- Where an abstract block lies: a block of the world, from which cell on, and how many cells that block has. -/
structure RA where
  b : Nat
  o : Nat
  n : Nat

abbrev Phi := Nat → Option RA

def natsOf (s : ByteArray) : List Nat := s.data.toList.map UInt8.toNat

/-- A value of one cell that is no truth value. -/
def plainV : Value → Bool
  | .agg _ | .tuple _ | .bool _ => false
  | _ => true

mutual
def VRel (φ : Phi) : V → Value → Prop
  | .b x, v => v = .bool x
  | .i k n, v => v = .int k n
  | .s l, v => ∃ bs, v = .string bs ∧ natsOf bs = l
  | .nilp, v => v = .pointer none
  | .ptr b o, v => ∃ a, φ b = some a ∧ v = .pointer (some ⟨a.b, a.o + o, none⟩)
  | .glob g o, v => v = .pointer (some ⟨g, o, none⟩)
  | .nilsl, v => v = .slice none 0 0
  | .sl b o n z ex, v => ∃ a ad c, φ b = some a ∧ v = .slice (some ad) n c ∧ n ≤ c ∧ (ex = true → c = n) ∧
      (c = 0 ∨ (ad = ⟨a.b, a.o + o, none⟩ ∧ a.o + o + c * z ≤ a.n))
  | .nilm, v => v = .map none
  | .mp r, v => ∃ a, φ r = some a ∧ v = .map (some a.b)
  | .fn f caps, v => ∃ cs, v = .func (.func f) #[] ⟨cs⟩ ∧ VRelL φ caps cs
  | .nilfn, v => v = .nilFunc
  | .ifc t x, v => ∃ y, v = .iface t y ∧ VRel φ x y
  | .nilif, v => v = .nilIface
  | .ag l, v => ∃ cs, v = .agg ⟨cs⟩ ∧ VRelL φ l cs
  | .tup l, v => ∃ cs, v = .tuple ⟨cs⟩ ∧ VRelL φ l cs
  | .opq x, v => v = x ∧ plainV x = true
def VRelL (φ : Phi) : List V → List Value → Prop
  | [], vs => vs = []
  | x :: xs, vs => ∃ v vs', vs = v :: vs' ∧ VRel φ x v ∧ VRelL φ xs vs'
end

def Ext (φ φ' : Phi) : Prop := ∀ b a, φ b = some a → φ' b = some a
theorem Ext.refl (φ : Phi) : Ext φ φ := fun _ _ h => h
/-- The same, and of the blocks that there were none is laid anew. -/
def ExtN (n : Nat) (φ φ' : Phi) : Prop := Ext φ φ' ∧ ∀ b, b < n → φ' b = φ b
theorem ExtN.refl (n : Nat) (φ : Phi) : ExtN n φ φ := ⟨Ext.refl φ, fun _ _ => rfl⟩
theorem Ext.trans {a b c : Phi} (h : Ext a b) (k : Ext b c) : Ext a c := fun x y hh => k x y (h x y hh)

mutual
theorem VRel.mono {φ φ' : Phi} (h : Ext φ φ') : ∀ {x : V} {v : Value}, VRel φ x v → VRel φ' x v
  | .b _, _, hr => by simpa only [VRel] using hr
  | .i _ _, _, hr => by simpa only [VRel] using hr
  | .s _, _, hr => by simpa only [VRel] using hr
  | .nilp, _, hr => by simpa only [VRel] using hr
  | .ptr _ _, _, hr => by
    simp only [VRel] at hr ⊢
    obtain ⟨a, ha, hv⟩ := hr
    exact ⟨a, h _ _ ha, hv⟩
  | .glob _ _, _, hr => by simpa only [VRel] using hr
  | .nilsl, _, hr => by simpa only [VRel] using hr
  | .sl _ _ _ _ _, _, hr => by
    simp only [VRel] at hr ⊢
    obtain ⟨a, ad, c, ha, hv⟩ := hr
    exact ⟨a, ad, c, h _ _ ha, hv⟩
  | .nilm, _, hr => by simpa only [VRel] using hr
  | .mp _, _, hr => by
    simp only [VRel] at hr ⊢
    obtain ⟨a, ha, hv⟩ := hr
    exact ⟨a, h _ _ ha, hv⟩
  | .fn _ _, _, hr => by
    simp only [VRel] at hr ⊢
    obtain ⟨cs, hv, hl⟩ := hr
    exact ⟨cs, hv, VRelL.mono h hl⟩
  | .nilfn, _, hr => by simpa only [VRel] using hr
  | .ifc _ _, _, hr => by
    simp only [VRel] at hr ⊢
    obtain ⟨y, hv, hl⟩ := hr
    exact ⟨y, hv, VRel.mono h hl⟩
  | .nilif, _, hr => by simpa only [VRel] using hr
  | .ag _, _, hr => by
    simp only [VRel] at hr ⊢
    obtain ⟨cs, hv, hl⟩ := hr
    exact ⟨cs, hv, VRelL.mono h hl⟩
  | .tup _, _, hr => by
    simp only [VRel] at hr ⊢
    obtain ⟨cs, hv, hl⟩ := hr
    exact ⟨cs, hv, VRelL.mono h hl⟩
  | .opq _, _, hr => by simpa only [VRel] using hr
theorem VRelL.mono {φ φ' : Phi} (h : Ext φ φ') : ∀ {xs : List V} {vs : List Value}, VRelL φ xs vs → VRelL φ' xs vs
  | [], _, hr => by simpa only [VRelL] using hr
  | _ :: _, _, hr => by
    simp only [VRelL] at hr ⊢
    obtain ⟨v, vs', e, h1, h2⟩ := hr
    exact ⟨v, vs', e, VRel.mono h h1, VRelL.mono h h2⟩
end

theorem VRelL.length {φ : Phi} : ∀ {xs : List V} {vs : List Value}, VRelL φ xs vs → xs.length = vs.length
  | [], _, h => by simp only [VRelL] at h; subst h; rfl
  | _ :: xs, _, h => by
    simp only [VRelL] at h
    obtain ⟨v, vs', rfl, _, h2⟩ := h
    simp [VRelL.length h2]

theorem VRelL.get {φ : Phi} : ∀ {xs : List V} {vs : List Value}, VRelL φ xs vs → ∀ {i : Nat} {x : V}, xs[i]? = some x → ∃ v, vs[i]? = some v ∧ VRel φ x v
  | [], _, _, i, x, hx => by simp at hx
  | y :: xs, _, h, i, x, hx => by
    simp only [VRelL] at h
    obtain ⟨v, vs', rfl, h1, h2⟩ := h
    cases i with
    | zero => simp at hx; subst hx; exact ⟨v, by simp, h1⟩
    | succ i => simp at hx; simpa using VRelL.get h2 hx

theorem VRelL.of {φ : Phi} : ∀ {xs : List V} {vs : List Value}, xs.length = vs.length → (∀ (i : Nat) (x : V), xs[i]? = some x → ∃ v, vs[i]? = some v ∧ VRel φ x v) → VRelL φ xs vs
  | [], vs, hl, _ => by
    simp only [VRelL]
    exact List.eq_nil_of_length_eq_zero (by simpa using hl.symm)
  | x :: xs, vs, hl, h => by
    cases vs with
    | nil => simp at hl
    | cons v vs =>
      simp only [VRelL]
      refine ⟨v, vs, rfl, ?_, VRelL.of (by simpa using hl) fun i y hy => ?_⟩
      · obtain ⟨u, hu, hr⟩ := h 0 x (by simp)
        simp at hu; subst hu; exact hr
      · have := h (i + 1) y (by simpa using hy)
        simpa using this

theorem VRelL.append {φ : Phi} {xs ys : List V} {vs us : List Value} (h : VRelL φ xs vs) (k : VRelL φ ys us) : VRelL φ (xs ++ ys) (vs ++ us) := by
  induction xs generalizing vs with
  | nil => simp only [VRelL] at h; subst h; simpa using k
  | cons x xs ih =>
    simp only [VRelL] at h
    obtain ⟨v, vs', rfl, h1, h2⟩ := h
    simp only [List.cons_append, VRelL]
    exact ⟨v, vs' ++ us, rfl, h1, ih h2⟩

theorem VRelL.take {φ : Phi} {xs : List V} {vs : List Value} (h : VRelL φ xs vs) (n : Nat) : VRelL φ (xs.take n) (vs.take n) := by
  have hl := h.length
  refine VRelL.of (by simp [hl]) fun i x hx => ?_
  rw [List.getElem?_take] at hx ⊢
  split at hx
  · rename_i hi
    obtain ⟨v, hv, hr⟩ := h.get hx
    exact ⟨v, by simpa [hi] using hv, hr⟩
  · simp at hx

theorem VRelL.drop {φ : Phi} {xs : List V} {vs : List Value} (h : VRelL φ xs vs) (n : Nat) : VRelL φ (xs.drop n) (vs.drop n) := by
  have hl := h.length
  refine VRelL.of (by simp [hl]) fun i x hx => ?_
  rw [List.getElem?_drop] at hx ⊢
  exact h.get hx

theorem VRel.one {φ : Phi} {x : V} {v : Value} (h : VRel φ x v) (h1 : x.one = true) : v.oneCell' = true := by
  cases x <;> simp only [VRel] at h <;> simp only [V.one] at h1 <;> first
    | (subst h; rfl)
    | (obtain ⟨_, rfl, _⟩ := h; rfl)
    | (obtain ⟨_, _, rfl⟩ := h; rfl)
    | (obtain ⟨_, _, _, _, rfl, _⟩ := h; rfl)
    | (obtain ⟨rfl, hp⟩ := h; cases v <;> simp [plainV] at hp <;> rfl)
    | simp at h1

theorem VRel.cells {φ : Phi} {x : V} {v : Value} (h : VRel φ x v) : VRelL φ x.cells v.cells.toList := by
  cases x <;> simp only [VRel] at h <;> first
    | (obtain ⟨cs, rfl, h⟩ := h; simpa [V.cells, Value.cells] using h)
    | (subst h; simp [V.cells, Value.cells, VRelL, VRel])
    | (obtain ⟨a, rfl, h⟩ := h; simp only [V.cells, Value.cells, VRelL, VRel]; exact ⟨_, _, rfl, ⟨_, rfl, h⟩, rfl⟩)
    | (obtain ⟨a, h, rfl⟩ := h; simp only [V.cells, Value.cells, VRelL, VRel]; exact ⟨_, _, rfl, ⟨_, h, rfl⟩, rfl⟩)
    | (obtain ⟨a, ad, c, h, rfl, h2⟩ := h; simp only [V.cells, Value.cells, VRelL, VRel]; exact ⟨_, _, rfl, ⟨_, _, _, h, rfl, h2⟩, rfl⟩)
    | (obtain ⟨rfl, hp⟩ := h; cases v <;> simp [plainV] at hp <;> simp [V.cells, Value.cells, VRelL, VRel, plainV])

/-! Trees. -/

theorem Tr.setK_spec {α : Type} : ∀ (f : Nat) (t : Tr α) (n : Nat) (x : α), n < f →
    ∃ t' : Tr α, (∀ (β : Type) (k : Tr α → β), Tr.setK f t n x k = k t') ∧ ∀ m, t'.get m = if m = n then some x else t.get m := by
  intro f
  induction f with
  | zero => intro t n x h; omega
  | succ f ih =>
    intro t n x h
    cases t with
    | lf =>
      cases n with
      | zero =>
        refine ⟨.nd .lf (some x) .lf, fun _ _ => rfl, fun m => ?_⟩
        cases m with
        | zero => simp [Tr.get_zero]
        | succ m => simp [Tr.get_succ, Tr.get_lf]
      | succ n =>
        obtain ⟨t', h1, h2⟩ := ih .lf (n / 2) x (by omega)
        cases hn : Nat.beq (n % 2) 0 with
        | true =>
          refine ⟨.nd t' none .lf, fun β k => ?_, fun m => ?_⟩
          · show (bif Nat.beq (n % 2) 0 then Tr.setK f .lf (n / 2) x (fun l => k (.nd l none .lf)) else _) = _
            rw [hn, cond_true, h1]
          · cases m with
            | zero => simp [Tr.get_zero, Tr.get_lf]
            | succ m =>
              rw [Tr.get_succ, h2]
              have e1 := Nat.eq_of_beq_eq_true hn
              cases hm : Nat.beq (m % 2) 0 with
              | true =>
                have e2 := Nat.eq_of_beq_eq_true hm
                rw [cond_true]
                by_cases e : m = n
                · subst e; simp
                · rw [if_neg (by omega), if_neg (by omega)]; simp [Tr.get_lf]
              | false =>
                have e2 := Nat.ne_of_beq_eq_false hm
                rw [cond_false, if_neg (by omega)]; simp [Tr.get_lf]
        | false =>
          refine ⟨.nd .lf none t', fun β k => ?_, fun m => ?_⟩
          · show (bif Nat.beq (n % 2) 0 then _ else Tr.setK f .lf (n / 2) x (fun r => k (.nd .lf none r))) = _
            rw [hn, cond_false, h1]
          · cases m with
            | zero => simp [Tr.get_zero, Tr.get_lf]
            | succ m =>
              rw [Tr.get_succ, h2]
              have e1 := Nat.ne_of_beq_eq_false hn
              cases hm : Nat.beq (m % 2) 0 with
              | true =>
                have e2 := Nat.eq_of_beq_eq_true hm
                rw [cond_true, if_neg (by omega)]; simp [Tr.get_lf]
              | false =>
                have e2 := Nat.ne_of_beq_eq_false hm
                rw [cond_false]
                by_cases e : m = n
                · subst e; simp
                · rw [if_neg (by omega), if_neg (by omega)]; simp [Tr.get_lf]
    | nd l v r =>
      cases n with
      | zero =>
        refine ⟨.nd l (some x) r, fun _ _ => rfl, fun m => ?_⟩
        cases m with
        | zero => simp [Tr.get_zero]
        | succ m => simp [Tr.get_succ]
      | succ n =>
        cases hn : Nat.beq (n % 2) 0 with
        | true =>
          obtain ⟨t', h1, h2⟩ := ih l (n / 2) x (by omega)
          refine ⟨.nd t' v r, fun β k => ?_, fun m => ?_⟩
          · show (bif Nat.beq (n % 2) 0 then Tr.setK f l (n / 2) x (fun l' => k (.nd l' v r)) else _) = _
            rw [hn, cond_true, h1]
          · cases m with
            | zero => simp [Tr.get_zero]
            | succ m =>
              rw [Tr.get_succ, Tr.get_succ, h2]
              have e1 := Nat.eq_of_beq_eq_true hn
              cases hm : Nat.beq (m % 2) 0 with
              | true =>
                have e2 := Nat.eq_of_beq_eq_true hm
                rw [cond_true, cond_true]
                by_cases e : m = n
                · subst e; simp
                · rw [if_neg (by omega), if_neg (by omega)]
              | false =>
                have e2 := Nat.ne_of_beq_eq_false hm
                rw [cond_false, cond_false, if_neg (by omega)]
        | false =>
          obtain ⟨t', h1, h2⟩ := ih r (n / 2) x (by omega)
          refine ⟨.nd l v t', fun β k => ?_, fun m => ?_⟩
          · show (bif Nat.beq (n % 2) 0 then _ else Tr.setK f r (n / 2) x (fun r' => k (.nd l v r'))) = _
            rw [hn, cond_false, h1]
          · cases m with
            | zero => simp [Tr.get_zero]
            | succ m =>
              rw [Tr.get_succ, Tr.get_succ, h2]
              have e1 := Nat.ne_of_beq_eq_false hn
              cases hm : Nat.beq (m % 2) 0 with
              | true =>
                have e2 := Nat.eq_of_beq_eq_true hm
                rw [cond_true, cond_true, if_neg (by omega)]
              | false =>
                have e2 := Nat.ne_of_beq_eq_false hm
                rw [cond_false, cond_false]
                by_cases e : m = n
                · subst e; simp
                · rw [if_neg (by omega), if_neg (by omega)]

theorem Tr.get_set {α : Type} (t : Tr α) (n m : Nat) (x : α) : (t.set n x).get m = if m = n then some x else t.get m := by
  obtain ⟨t', h1, h2⟩ := Tr.setK_spec (Nat.succ n) t n x (Nat.lt_succ_self n)
  unfold Tr.set
  rw [h1]
  exact h2 m

theorem H.get_set (h : H) (b c : Nat) (x : Blk) : (h.set b x).get c = if c = b then some x else h.get c := by
  unfold H.set
  rw [forceK_eq]
  exact Tr.get_set _ _ _ _
theorem H.get_new (h : H) (c : Nat) (x : Blk) : (h.new x).get c = if c = h.next then some x else h.get c := by
  unfold H.new
  rw [forceK_eq]
  exact Tr.get_set _ _ _ _
theorem H.next_set (h : H) (b : Nat) (x : Blk) : (h.set b x).next = h.next := by
  unfold H.set; rw [forceK_eq]
theorem H.fm_set (h : H) (b : Nat) (x : Blk) : (h.set b x).fm = h.fm := by
  unfold H.set; rw [forceK_eq]
theorem H.next_new (h : H) (x : Blk) : (h.new x).next = h.next + 1 := by
  unfold H.new; rw [forceK_eq]
theorem H.fm_new (h : H) (x : Blk) : (h.new x).fm = h.fm := by
  unfold H.new; rw [forceK_eq]

/-! The relation. -/

/-- A block that no family has is the whole block of the world; one of a family begins no further in it than its place in the family says. -/
def FamOk (fam : Option (Nat × Nat)) (n : Nat) (a : RA) : Prop :=
  match fam with
  | none => a.o = 0 ∧ a.n = n
  | some (_, p) => a.o ≤ p

def CellsOk (φ : Phi) (ty : Nat) (wr : Bool) (fam : Option (Nat × Nat)) (l : List V) (a : RA) (w : World) : Prop :=
  ∃ c lo hi, w.heap[a.b]? = some (.cells c ty (lo, hi)) ∧ c.size = a.n ∧ a.o + l.length ≤ a.n ∧ FamOk fam l.length a ∧
    (∀ i x, l[i]? = some x → ∃ v, c[a.o + i]? = some v ∧ VRel φ x v ∧ x.one = true) ∧
    (wr = true → ∀ j, a.o ≤ j → j < a.n → ¬(lo ≤ j ∧ j < hi))

def EntRel (φ : Phi) : List (V × V) → List MapEntry → Prop
  | [], es => es = []
  | (k, v) :: xs, es => ∃ e es', es = e :: es' ∧ VRel φ k e.key ∧ VRel φ v e.val ∧ EntRel φ xs es'

theorem EntRel.mono {φ φ' : Phi} (h : Ext φ φ') : ∀ {xs : List (V × V)} {es : List MapEntry}, EntRel φ xs es → EntRel φ' xs es
  | [], _, hr => by simpa only [EntRel] using hr
  | (_, _) :: _, _, hr => by
    simp only [EntRel] at hr ⊢
    obtain ⟨e, es', e1, h1, h2, h4⟩ := hr
    exact ⟨e, es', e1, h1.mono h, h2.mono h, EntRel.mono h h4⟩

def BlkOk (φ : Phi) (k : Blk) (a : RA) (w : World) : Prop :=
  match k with
  | .cells ty wr fam l => CellsOk φ ty wr fam l a w
  | .map es => ∃ res clock, w.heap[a.b]? = some (.map res clock) ∧ EntRel φ es res.toList
  | .siter l p => a.o = 0 ∧ ∃ s, w.heap[a.b]? = some (.stringIter s p) ∧ natsOf s = l
  | .dead => True

theorem BlkOk.mono {φ φ' : Phi} (h : Ext φ φ') {k : Blk} {a : RA} {w : World} (hk : BlkOk φ k a w) : BlkOk φ' k a w := by
  cases k with
  | cells ty wr fam l =>
    obtain ⟨c, lo, hi, h1, h2, h3, h4, h5, h6⟩ := hk
    refine ⟨c, lo, hi, h1, h2, h3, h4, fun i x hx => ?_, h6⟩
    obtain ⟨v, hv, hr, h1⟩ := h5 i x hx
    exact ⟨v, hv, hr.mono h, h1⟩
  | map es =>
    obtain ⟨res, cl, h1, h2⟩ := hk
    exact ⟨res, cl, h1, h2.mono h⟩
  | siter l p => exact hk
  | dead => trivial

/-- The same block in another world. -/
theorem BlkOk.same {φ : Phi} {k : Blk} {a : RA} {w w' : World} (hk : BlkOk φ k a w) (e : w'.heap[a.b]? = w.heap[a.b]?) : BlkOk φ k a w' := by
  cases k with
  | cells ty wr fam l =>
    obtain ⟨c, lo, hi, h1, h2⟩ := hk
    exact ⟨c, lo, hi, e.trans h1, h2⟩
  | map es =>
    obtain ⟨res, cl, h1, h2⟩ := hk
    exact ⟨res, cl, e.trans h1, h2⟩
  | siter l p =>
    obtain ⟨h0, s, h1, h2⟩ := hk
    exact ⟨h0, s, e.trans h1, h2⟩
  | dead => trivial

def Blk.writes : Blk → Bool
  | .cells _ wr fam _ => wr || fam.isSome
  | .map _ | .siter _ _ => true
  | .dead => false

def Blk.live : Blk → Bool
  | .dead => false
  | _ => true

def Blk.fam : Blk → Option (Nat × Nat)
  | .cells _ _ fam _ => fam
  | _ => none

abbrev Gl := Nat → Option (List V)

structure Rel (G : Gl) (B : Nat) (φ : Phi) (h : H) (w : World) : Prop where
  bsz : B ≤ w.heap.size
  gl : ∀ g l, G g = some l → g < B
  glob : ∀ g l, G g = some l → ∀ i x, l[i]? = some x → ∃ v, w.cell? ⟨g, i, none⟩ = some v ∧ VRel (fun _ => none) x v
  dom : ∀ b a, φ b = some a → b < h.next ∧ a.b < w.heap.size
  nxt : ∀ b, h.next ≤ b → h.get b = none
  blk : ∀ b k a, h.get b = some k → φ b = some a → BlkOk φ k a w
  base : ∀ b k a, h.get b = some k → φ b = some a → k.writes = true → B ≤ a.b
  disj : ∀ b b' k k' a a', b ≠ b' → h.get b = some k → h.get b' = some k' → φ b = some a → φ b' = some a' → k.live = true → k'.live = true → a.b = a'.b →
    ∃ f p p', k.fam = some (f, p) ∧ k'.fam = some (f, p') ∧ a.o + p' = a'.o + p
  fams : ∀ b k f p, h.get b = some k → k.fam = some (f, p) → f < h.next ∧ ∃ ms, h.fm.get f = some ms ∧ b ∈ ms

end Go.Sim
