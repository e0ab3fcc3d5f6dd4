/- Steps of the relation: new blocks, struck blocks, memory written, a row that grows. -/
import Derived.Test.YtboeidgbbanecaaGreatDoorSimR
namespace Go.Sim
open Go.RowKit

theorem Rel.heap {G : Gl} {B : Nat} {φ : Phi} {h : H} {w w' : World} (r : Rel G B φ h w) (e : w'.heap = w.heap) : Rel G B φ h w' where
  bsz := by rw [e]; exact r.bsz
  gl := r.gl
  glob := by
    intro g l hg i x hx
    obtain ⟨v, hv, hr⟩ := r.glob g l hg i x hx
    exact ⟨v, by unfold World.cell? at *; rw [e]; exact hv, hr⟩
  dom := by rw [e]; exact r.dom
  nxt := r.nxt
  blk := fun b k a hb ha => (r.blk b k a hb ha).same (by rw [e])
  base := r.base
  disj := r.disj
  fams := r.fams

theorem Rel.drew {G : Gl} {B : Nat} {φ : Phi} {h : H} {w : World} (r : Rel G B φ h w) (n : Nat) : Rel G B φ h { w with drawn := n } := r.heap rfl

def upd (φ : Phi) (b : Nat) (a : RA) : Phi := fun c => if c = b then some a else φ c

theorem upd_old (φ : Phi) (n : Nat) (a : RA) : ∀ b, b < n → upd φ n a b = φ b := by
  intro b hb
  unfold upd
  rw [if_neg (by omega)]
theorem Rel.free {G : Gl} {B : Nat} {φ : Phi} {h : H} {w : World} (r : Rel G B φ h w) : φ h.next = none := by
  cases e : φ h.next with
  | none => rfl
  | some a => have := (r.dom _ _ e).1; omega

theorem Rel.extN {G : Gl} {B : Nat} {φ : Phi} {h : H} {w : World} (r : Rel G B φ h w) (a : RA) : ExtN h.next φ (upd φ h.next a) := by
  refine ⟨?_, upd_old φ _ _⟩
  intro b x hb
  unfold upd
  by_cases e : b = h.next
  · subst e; rw [r.free] at hb; cases hb
  · rw [if_neg e]; exact hb

theorem Rel.ext {G : Gl} {B : Nat} {φ : Phi} {h : H} {w : World} (r : Rel G B φ h w) (a : RA) : Ext φ (upd φ h.next a) := by
  intro b x hb
  unfold upd
  by_cases e : b = h.next
  · subst e; rw [r.free] at hb; cases hb
  · rw [if_neg e]; exact hb

/-- What the families' lists must hold behind a new block. -/
structure FmOk (h : H) (k : Blk) (fm : Tr (List Nat)) : Prop where
  old : ∀ f ms, f < h.next → h.fm.get f = some ms → ∃ ms', fm.get f = some ms' ∧ ∀ b, b ∈ ms → b ∈ ms'
  new : ∀ f p, k.fam = some (f, p) → f < h.next + 1 ∧ ∃ ms, fm.get f = some ms ∧ h.next ∈ ms

theorem FmOk.same {h : H} {k : Blk} (hk : k.fam = none) : FmOk h k h.fm :=
  ⟨fun _ ms _ e => ⟨ms, e, fun _ hb => hb⟩, fun f p e => by rw [hk] at e; cases e⟩

theorem FmOk.own {h : H} {k : Blk} {p : Nat} (hk : k.fam = some (h.next, p)) : FmOk h k (h.fm.set h.next [h.next]) :=
  ⟨fun f ms hf e => ⟨ms, by rw [Tr.get_set, if_neg (by omega)]; exact e, fun _ hb => hb⟩,
   fun f q e => by
    rw [hk] at e; cases e
    exact ⟨by omega, [h.next], by rw [Tr.get_set, if_pos rfl], by simp⟩⟩

theorem FmOk.more {h : H} {k : Blk} {f p : Nat} {ms : List Nat} (hk : k.fam = some (f, p)) (hf : f < h.next) (hm : h.fm.get f = some ms) : FmOk h k (h.fm.set f (h.next :: ms)) :=
  ⟨fun g ms' _ e => by
    by_cases eg : g = f
    · subst eg
      rw [hm] at e; cases e
      exact ⟨h.next :: ms, by rw [Tr.get_set, if_pos rfl], fun b hb => by simp [hb]⟩
    · exact ⟨ms', by rw [Tr.get_set, if_neg eg]; exact e, fun _ hb => hb⟩,
   fun g q e => by
    rw [hk] at e; cases e
    exact ⟨by omega, h.next :: ms, by rw [Tr.get_set, if_pos rfl], by simp⟩⟩

/-- A new block, seen in no world yet. -/
theorem Rel.unseen {G : Gl} {B : Nat} {φ : Phi} {h : H} {w : World} (r : Rel G B φ h w) (k : Blk) (fm : Tr (List Nat)) (hf : FmOk h k fm) :
    Rel G B φ { (h.new k) with fm := fm } w := by
  have hg : ∀ c, ({ (h.new k) with fm := fm } : H).get c = if c = h.next then some k else h.get c := fun c => h.get_new c k
  have hnx : ({ (h.new k) with fm := fm } : H).next = h.next + 1 := h.next_new k
  have hlt : ∀ b a, φ b = some a → b ≠ h.next := fun b a e he => by subst he; rw [r.free] at e; cases e
  refine ⟨r.bsz, r.gl, r.glob, fun b a e => ?_, fun b hb => ?_, fun b k' a e ha => ?_, fun b k' a e ha => ?_, fun b b' k1 k2 a a' hne e1 e2 ha ha' => ?_, fun b k' f p e hk => ?_⟩
  · obtain ⟨h1, h2⟩ := r.dom b a e
    exact ⟨by rw [hnx]; exact Nat.lt_succ_of_lt h1, h2⟩
  · have hb' : h.next + 1 ≤ b := by rw [hnx] at hb; exact hb
    rw [hg, if_neg (by omega)]
    exact r.nxt b (by omega)
  · rw [hg, if_neg (hlt b a ha)] at e
    exact r.blk b k' a e ha
  · rw [hg, if_neg (hlt b a ha)] at e
    exact r.base b k' a e ha
  · rw [hg, if_neg (hlt b a ha)] at e1
    rw [hg, if_neg (hlt b' a' ha')] at e2
    exact r.disj b b' k1 k2 a a' hne e1 e2 ha ha'
  · rw [hg] at e
    split at e
    · rename_i hb
      cases e
      obtain ⟨h1, ms, h2, h3⟩ := hf.new f p hk
      exact ⟨by rw [hnx]; exact h1, ms, h2, hb ▸ h3⟩
    · obtain ⟨h1, ms, h2, h3⟩ := r.fams b k' f p e hk
      obtain ⟨ms', h4, h5⟩ := hf.old f ms h1 h2
      exact ⟨by rw [hnx]; exact Nat.lt_succ_of_lt h1, ms', h4, h5 b h3⟩

/-- A block that the heap has, and of which the world has none yet, is laid into a new block of the world. -/
theorem Rel.seen {G : Gl} {B : Nat} {φ : Phi} {h : H} {w : World} (r : Rel G B φ h w) {b : Nat} {k : Blk} {o : Obj} {n : Nat} (hb : h.get b = some k) (hφ : φ b = none)
    (hk : BlkOk (upd φ b ⟨w.heap.size, 0, n⟩) k ⟨w.heap.size, 0, n⟩ { w with heap := w.heap.push o }) :
    Ext φ (upd φ b ⟨w.heap.size, 0, n⟩) ∧ Rel G B (upd φ b ⟨w.heap.size, 0, n⟩) h { w with heap := w.heap.push o } := by
  have hx : Ext φ (upd φ b ⟨w.heap.size, 0, n⟩) := by
    intro c x hc
    unfold upd
    by_cases e : c = b
    · subst e; rw [hφ] at hc; cases hc
    · rw [if_neg e]; exact hc
  have hsz : ({ w with heap := w.heap.push o } : World).heap.size = w.heap.size + 1 := by simp
  have hsame : ∀ j, j < w.heap.size → ({ w with heap := w.heap.push o } : World).heap[j]? = w.heap[j]? := by
    intro j hj
    show (w.heap.push o)[j]? = _
    rw [Array.getElem?_push, if_neg (by omega)]
  have hlt : b < h.next := by
    rcases Nat.lt_or_ge b h.next with h' | h'
    · exact h'
    · rw [r.nxt b h'] at hb; cases hb
  refine ⟨hx, ?_, r.gl, fun g l hg i x hi => ?_, fun c a e => ?_, r.nxt, fun c k' a e ha => ?_, fun c k' a e ha hw => ?_, fun c c' k1 k2 a a' hne e1 e2 ha ha' l1 l2 hab => ?_, r.fams⟩
  · rw [hsz]; have := r.bsz; omega
  · obtain ⟨v, hv, hr⟩ := r.glob g l hg i x hi
    refine ⟨v, ?_, hr⟩
    have h1 := r.gl g l hg
    have h2 := r.bsz
    unfold World.cell? at *
    rw [hsame g (by omega)]
    exact hv
  · unfold upd at e
    split at e
    · rename_i ec
      cases e
      subst ec
      exact ⟨hlt, by rw [hsz]; exact Nat.lt_succ_self _⟩
    · obtain ⟨h1, h2⟩ := r.dom c a e
      exact ⟨h1, by rw [hsz]; omega⟩
  · by_cases ec : c = b
    · subst ec
      rw [hb] at e; cases e
      unfold upd at ha
      rw [if_pos rfl] at ha
      cases ha
      exact hk
    · unfold upd at ha
      rw [if_neg ec] at ha
      exact ((r.blk c k' a e ha).mono hx).same (hsame _ (r.dom c a ha).2)
  · by_cases ec : c = b
    · subst ec
      unfold upd at ha
      rw [if_pos rfl] at ha
      cases ha
      exact r.bsz
    · unfold upd at ha
      rw [if_neg ec] at ha
      exact r.base c k' a e ha hw
  · unfold upd at ha ha'
    by_cases ec : c = b
    · subst ec
      rw [if_pos rfl] at ha
      rw [if_neg (fun e => hne e.symm)] at ha'
      cases ha
      have := (r.dom c' a' ha').2
      simp only at hab
      omega
    · rw [if_neg ec] at ha
      by_cases ec' : c' = b
      · subst ec'
        rw [if_pos rfl] at ha'
        cases ha'
        have := (r.dom c a ha).2
        simp only at hab
        omega
      · rw [if_neg ec'] at ha'
        exact r.disj c c' k1 k2 a a' hne e1 e2 ha ha' l1 l2 hab

theorem Below.push {B : Nat} {w : World} (o : Obj) (hB : B ≤ w.heap.size) : Below B w { w with heap := w.heap.push o } :=
  ⟨rfl, rfl, rfl, by simp, fun k hk => by
    show (w.heap.push o)[k]? = _
    rw [Array.getElem?_push, if_neg (by omega)]⟩

/-- A new block of both. -/
theorem Rel.new {G : Gl} {B : Nat} {φ : Phi} {h : H} {w : World} (r : Rel G B φ h w) (k : Blk) (fm : Tr (List Nat)) (hf : FmOk h k fm) {o : Obj} {n : Nat}
    (hk : BlkOk (upd φ h.next ⟨w.heap.size, 0, n⟩) k ⟨w.heap.size, 0, n⟩ { w with heap := w.heap.push o }) :
    ExtN h.next φ (upd φ h.next ⟨w.heap.size, 0, n⟩) ∧ Rel G B (upd φ h.next ⟨w.heap.size, 0, n⟩) { (h.new k) with fm := fm } { w with heap := w.heap.push o } :=
  let q := (r.unseen k fm hf).seen (b := h.next) (by exact (h.get_new _ _).trans (if_pos rfl)) r.free hk
  ⟨⟨q.1, upd_old φ _ _⟩, q.2⟩

/-- Cells of a new block. -/
theorem CellsOk.made {φ : Phi} {w : World} {ty : Nat} {wr : Bool} {fam : Option (Nat × Nat)} {l : List V} {vs : List Value} {c : Array Value} (h : VRelL φ l vs) (h1 : allOne l = true)
    (hp : ∃ rest, c.toList = vs ++ rest) (hn : fam = none → l.length = c.size) : CellsOk φ ty wr fam l ⟨w.heap.size, 0, c.size⟩ { w with heap := w.heap.push (.cells c ty) } := by
  have hl := h.length
  obtain ⟨rest, hp⟩ := hp
  have hc : c.size = vs.length + rest.length := by rw [← Array.length_toList, hp]; simp
  refine ⟨c, 0, 0, ?_, rfl, ?_, (by cases fam with | none => exact ⟨rfl, (hn rfl).symm⟩ | some q => exact Nat.zero_le _), fun i x hx => ?_, fun _ j _ _ => by omega⟩
  · show (w.heap.push _)[w.heap.size]? = _
    simp
  · simp only; omega
  · obtain ⟨v, hv, hr⟩ := h.get hx
    refine ⟨v, ?_, hr, ?_⟩
    · have hi : i < vs.length := by
        rcases Nat.lt_or_ge i vs.length with h' | h'
        · exact h'
        · rw [List.getElem?_eq_none h'] at hv; cases hv
      rw [← Array.getElem?_toList, hp]
      simp only [Nat.zero_add]
      rw [List.getElem?_append_left hi]
      exact hv
    · unfold allOne at h1
      rw [List.all_eq_true] at h1
      exact h1 x (List.mem_of_getElem? hx)

/-! Struck blocks. -/

structure Weaker (h h' : H) : Prop where
  next : h'.next = h.next
  fm : h'.fm = h.fm
  get : ∀ b, h'.get b = h.get b ∨ (∃ k, h.get b = some k ∧ h'.get b = some .dead)

theorem Weaker.refl (h : H) : Weaker h h := ⟨rfl, rfl, fun _ => .inl rfl⟩

theorem Weaker.trans {a b c : H} (h : Weaker a b) (k : Weaker b c) : Weaker a c :=
  ⟨k.next.trans h.next, k.fm.trans h.fm, fun x => by
    rcases k.get x with e | ⟨q, e1, e2⟩
    · rcases h.get x with e' | ⟨q, e1, e2⟩
      · exact .inl (e.trans e')
      · exact .inr ⟨q, e1, e.trans e2⟩
    · rcases h.get x with e' | ⟨q', e1', e2'⟩
      · exact .inr ⟨q, e' ▸ e1, e2⟩
      · exact .inr ⟨q', e1', e2⟩⟩

theorem Weaker.live {h h' : H} (hw : Weaker h h') {b : Nat} {k : Blk} (e : h'.get b = some k) (hl : k.live = true) : h.get b = some k := by
  rcases hw.get b with e' | ⟨q, e1, e2⟩
  · exact e' ▸ e
  · rw [e2] at e; cases e; cases hl

theorem Rel.weaken {G : Gl} {B : Nat} {φ : Phi} {h h' : H} {w : World} (r : Rel G B φ h w) (hw : Weaker h h') : Rel G B φ h' w where
  bsz := r.bsz
  gl := r.gl
  glob := r.glob
  dom := by rw [hw.next]; exact r.dom
  nxt := fun b hb => by
    rw [hw.next] at hb
    rcases hw.get b with e | ⟨k, e, _⟩
    · rw [e]; exact r.nxt b hb
    · rw [r.nxt b hb] at e; cases e
  blk := fun b k a e ha => by
    cases k with
    | dead => trivial
    | cells => exact r.blk b _ a (hw.live e rfl) ha
    | map => exact r.blk b _ a (hw.live e rfl) ha
    | siter => exact r.blk b _ a (hw.live e rfl) ha
  base := fun b k a e ha hk => by
    cases k with
    | dead => cases hk
    | cells => exact r.base b _ a (hw.live e rfl) ha hk
    | map => exact r.base b _ a (hw.live e rfl) ha hk
    | siter => exact r.base b _ a (hw.live e rfl) ha hk
  disj := fun b b' k k' a a' hne e1 e2 ha ha' l1 l2 => r.disj b b' k k' a a' hne (hw.live e1 l1) (hw.live e2 l2) ha ha' l1 l2
  fams := fun b k f p e hk => by
    rw [hw.next, hw.fm]
    cases k with
    | cells => exact r.fams b _ f p (hw.live e rfl) hk
    | dead => cases hk
    | map => cases hk
    | siter => cases hk

theorem Weaker.kill1 (h : H) (c : Nat) (k : Blk) (e : h.get c = some k) : Weaker h (h.set c .dead) :=
  ⟨h.next_set _ _, h.fm_set _ _, fun b => by
    rw [H.get_set]
    by_cases eb : b = c
    · subst eb; exact .inr ⟨k, e, by simp⟩
    · rw [if_neg eb]; exact .inl rfl⟩

theorem killL_weaker (skip lo m : Nat) : ∀ (cs : List Nat) (h : H), Weaker h (killL skip lo m cs h)
  | [], h => Weaker.refl h
  | c :: cs, h => by
    unfold killL
    by_cases e : Nat.beq c skip = true
    · rw [e, cond_true]; exact killL_weaker skip lo m cs h
    · simp only [Bool.not_eq_true] at e
      rw [e, cond_false]
      split
      · rename_i ty wr f p l hc
        by_cases em : meets p l.length lo m = true
        · rw [em, cond_true]
          exact (Weaker.kill1 h c _ hc).trans (killL_weaker skip lo m cs _)
        · simp only [Bool.not_eq_true] at em
          rw [em, cond_false]
          exact killL_weaker skip lo m cs h
      · exact killL_weaker skip lo m cs h

theorem meets_iff (p n lo m : Nat) : meets p n lo m = true ↔ p < lo + m ∧ lo < p + n := by
  unfold meets
  rw [Bool.and_eq_true, Nat.blt_eq, Nat.blt_eq]

theorem killL_apart (skip lo m : Nat) : ∀ (cs : List Nat) (h : H) (c : Nat), c ∈ cs → c ≠ skip → ∀ ty wr f p l,
    (killL skip lo m cs h).get c = some (.cells ty wr (some (f, p)) l) → meets p l.length lo m = false
  | [], _, c, hc => by simp at hc
  | x :: cs, h, c, hc => by
    intro hs ty wr f p l he
    unfold killL at he
    by_cases hin : c ∈ cs
    · by_cases e : Nat.beq x skip = true
      · rw [e, cond_true] at he
        exact killL_apart skip lo m cs h c hin hs ty wr f p l he
      · simp only [Bool.not_eq_true] at e
        rw [e, cond_false] at he
        split at he
        · rename_i ty' wr' f' p' l' hx
          by_cases em : meets p' l'.length lo m = true
          · rw [em, cond_true] at he
            exact killL_apart skip lo m cs _ c hin hs ty wr f p l he
          · simp only [Bool.not_eq_true] at em
            rw [em, cond_false] at he
            exact killL_apart skip lo m cs h c hin hs ty wr f p l he
        · exact killL_apart skip lo m cs h c hin hs ty wr f p l he
    · have ex : c = x := by
        rcases List.mem_cons.1 hc with h' | h'
        · exact h'
        · exact (hin h').elim
      subst ex
      have e : Nat.beq c skip = false := by
        cases hb : Nat.beq c skip with
        | false => rfl
        | true => exact (hs (Nat.eq_of_beq_eq_true hb)).elim
      rw [e, cond_false] at he
      split at he
      · rename_i ty' wr' f' p' l' hx
        by_cases em : meets p' l'.length lo m = true
        · rw [em, cond_true] at he
          have := (killL_weaker skip lo m cs (h.set c .dead)).live he rfl
          rw [H.get_set, if_pos rfl] at this
          cases this
        · simp only [Bool.not_eq_true] at em
          rw [em, cond_false] at he
          have := (killL_weaker skip lo m cs h).live he rfl
          rw [hx] at this
          cases this
          exact em
      · rename_i hx
        have := (killL_weaker skip lo m cs h).live he rfl
        exact (hx _ _ _ _ _ this).elim

/-! Memory written. -/

/-- The world behind 'vs' stored from cell 'o' of block 'b' on. -/
structure StoredAt (w w' : World) (b o : Nat) (vs : List Value) : Prop where
  os : w'.os = w.os
  tape : w'.tape = w.tape
  output : w'.output = w.output
  size : w'.heap.size = w.heap.size
  other : ∀ k, k ≠ b → w'.heap[k]? = w.heap[k]?
  at_ : ∀ c e fz, w.heap[b]? = some (.cells c e fz) → ∃ c', w'.heap[b]? = some (.cells c' e fz) ∧ c'.size = c.size ∧
    ∀ j, c'[j]? = if o ≤ j ∧ j < o + vs.length then vs[j - o]? else c[j]?

theorem StoredAt.below {w w' : World} {b o : Nat} {vs : List Value} (h : StoredAt w w' b o vs) {B : Nat} (hB : B ≤ b) : Below B w w' :=
  ⟨h.os, h.tape, h.output, Nat.le_of_eq h.size.symm, fun k hk => h.other k (by omega)⟩

theorem addr_add (a : Addr) (n : Nat) (h : a.spot = none) : a.add n = ⟨a.block, a.off + n, none⟩ := by
  unfold Addr.add
  split
  · subst_vars; cases a; simp_all
  · rfl

theorem run_storeCells_at' {P : Program} : ∀ (vs : List Value) (i : Nat) (w : World) (b o : Nat) (c : Array Value) (e : TypeId) (lo hi : Nat),
    w.heap[b]? = some (.cells c e (lo, hi)) → o + i + vs.length ≤ c.size → (∀ j, o + i ≤ j → j < o + i + vs.length → ¬(lo ≤ j ∧ j < hi)) → (∀ v ∈ vs, v.oneCell' = true) →
    ∃ w', (storeCells ⟨b, o, none⟩ vs i).run P w = .ok () w' ∧ StoredAt w w' b (o + i) vs
  | [], i, w, b, o, c, e, lo, hi, hc, hl, hf, h1 => by
    refine ⟨w, by simp [storeCells], rfl, rfl, rfl, rfl, fun _ _ => rfl, fun c' e' fz hh => ⟨c', hh, rfl, fun j => ?_⟩⟩
    rw [if_neg (by simp)]
  | v :: vs, i, w, b, o, c, e, lo, hi, hc, hl, hf, h1 => by
    have hv := h1 v (by simp)
    have hlt : o + i < c.size := by simp at hl; omega
    have hcell : w.cell? ⟨b, o + i, none⟩ = some c[o + i] := by
      unfold World.cell?
      rw [hc]
      simp [hlt]
    have hfz : w.frozen? ⟨b, o + i, none⟩ = false := by
      unfold World.frozen?
      rw [hc]
      have := hf (o + i) (Nat.le_refl _) (by simp)
      simp only
      by_cases h' : lo ≤ o + i
      · simp [h']; omega
      · simp [h']
    have hw1 : (w.setCell ⟨b, o + i, none⟩ v).heap[b]? = some (.cells (c.setIfInBounds (o + i) v) e (lo, hi)) := by
      unfold World.setCell
      simp [Array.getElem?_modify, hc]
    obtain ⟨w', hrun, hst⟩ := run_storeCells_at' (P := P) vs (i + 1) (w.setCell ⟨b, o + i, none⟩ v) b o _ e lo hi hw1 (by simp at hl ⊢; omega)
      (fun j hj1 hj2 => hf j (by omega) (by simp; omega)) (fun u hu => h1 u (by simp [hu]))
    refine ⟨w', ?_, ?_⟩
    · rw [storeCells, addr_add _ _ rfl]
      rw [Sem.run_bind, run_store _ _ _ _ _ hv, hcell]
      simp only [hfz, Bool.false_eq_true, if_false, Result.andThen_ok]
      exact hrun
    · have hsz : (w.setCell ⟨b, o + i, none⟩ v).heap.size = w.heap.size := by simp [World.setCell]
      refine ⟨hst.os, hst.tape, hst.output, hst.size.trans hsz, fun k hk => ?_, fun c0 e0 fz0 hh => ?_⟩
      · rw [hst.other k hk]
        exact Below.heap_setCell _ _ _ _ hk
      · rw [hc] at hh
        cases hh
        obtain ⟨c', h1', h2', h3'⟩ := hst.at_ _ _ _ hw1
        refine ⟨c', h1', by rw [h2']; simp, fun j => ?_⟩
        rw [h3' j]
        by_cases ej : o + (i + 1) ≤ j ∧ j < o + (i + 1) + vs.length
        · rw [if_pos ej, if_pos (by simp; omega)]
          have : j - (o + i) = (j - (o + (i + 1))) + 1 := by omega
          rw [this, List.getElem?_cons_succ]
        · rw [if_neg ej]
          by_cases ej0 : j = o + i
          · subst ej0
            rw [if_pos (by simp)]
            simp [hlt]
          · rw [if_neg (by simp; omega)]
            rw [Array.getElem?_setIfInBounds_ne (by omega)]

end Go.Sim
