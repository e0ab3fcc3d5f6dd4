/- Memory written, on both sides: a store; a row that grows where it lies. -/
import Derived.Test.YtboeidgbbanecaaGreatDoorSimT
namespace Go.Sim
open Go.RowKit

section
variable {P : Program} {G : Gl} {B : Nat} {φ : Phi} {h : H} {w w' : World}

theorem lay_length {l : List V} {o : Nat} {xs : List V} (hl : o + xs.length ≤ l.length) : (lay l o xs).length = l.length := by
  unfold lay; simp; omega

theorem lay_get {l : List V} {o : Nat} {xs : List V} (hl : o + xs.length ≤ l.length) (i : Nat) :
    (lay l o xs)[i]? = if o ≤ i ∧ i < o + xs.length then xs[i - o]? else l[i]? := by
  unfold lay
  by_cases h1 : i < o
  · rw [if_neg (by omega), List.append_assoc, List.getElem?_append_left (by simp; omega), List.getElem?_take, if_pos h1]
  · by_cases h2 : i < o + xs.length
    · rw [if_pos (by omega), List.append_assoc, List.getElem?_append_right (by simp; omega), List.getElem?_append_left (by simp; omega)]
      congr 1
      simp; omega
    · rw [if_neg (by omega), List.getElem?_append_right (by simp; omega), List.getElem?_drop]
      congr 1
      simp; omega

/-- Blocks that a store into another one does not meet stay as they were. -/
theorem BlkOk.stored {k : Blk} {a : RA} (hk : BlkOk φ k a w) {b o : Nat} {vs : List Value} (hst : StoredAt w w' b o vs)
    (hap : a.b ≠ b ∨ ∃ ty wr fam l, k = .cells ty wr fam l ∧ (a.o + l.length ≤ o ∨ o + vs.length ≤ a.o)) : BlkOk φ k a w' := by
  rcases hap with hne | ⟨ty, wr, fam, l, rfl, hap⟩
  · exact hk.same (hst.other _ hne)
  · by_cases hb : a.b = b
    · obtain ⟨c, lo, hi, h1, h2, h3, h4, h5, h6⟩ := hk
      obtain ⟨c', e1, e2, e3⟩ := hst.at_ c ty (lo, hi) (hb ▸ h1)
      refine ⟨c', lo, hi, hb ▸ e1, e2.trans h2, h3, h4, fun i x hx => ?_, h6⟩
      obtain ⟨v, hv, hr⟩ := h5 i x hx
      have hil : i < l.length := by
        rcases Nat.lt_or_ge i l.length with h' | h'
        · exact h'
        · rw [List.getElem?_eq_none h'] at hx; cases hx
      refine ⟨v, ?_, hr⟩
      rw [e3, if_neg (by omega)]
      exact hv
    · exact BlkOk.same hk (hst.other _ hb)

/-- A live block in the same block of the world as 'b' that does not meet what is written lies apart. -/
theorem apart_of (r : Rel G B φ h w) {b c f p : Nat} {k k' : Blk} {a a' : RA} {lo m : Nat} (hne : c ≠ b) (hb : h.get b = some k) (hc : h.get c = some k')
    (ha : φ b = some a) (ha' : φ c = some a') (hl : k.live = true) (hl' : k'.live = true) (hab : a'.b = a.b) (hf : k.fam = some (f, p))
    (hno : ∀ ty wr p' l, k' = .cells ty wr (some (f, p')) l → meets p' l.length (p + lo) m = false) :
    ∃ ty wr fam l, k' = .cells ty wr fam l ∧ (a'.o + l.length ≤ a.o + lo ∨ a.o + lo + m ≤ a'.o ∨ m = 0 ∨ l.length = 0) := by
  obtain ⟨f', p', q', e1, e2, e3⟩ := r.disj c b k' k a' a hne hc hb ha' ha hl' hl hab
  rw [hf] at e2
  cases e2
  cases k' with
  | cells ty wr fam l =>
    refine ⟨ty, wr, fam, l, rfl, ?_⟩
    simp only [Blk.fam] at e1
    subst e1
    have := hno ty wr p' l rfl
    have hm : ¬ (p' < p + lo + m ∧ p + lo < p' + l.length) := by
      rw [← meets_iff]; simp [this]
    omega
  | map => cases e1
  | siter => cases e1
  | dead => cases hl'

/-- A store. -/
theorem storeAt_rel (r : Rel G B φ h w) {b o : Nat} {xs : List V} {vs : List Value} {h' : H} {a : RA} (hs : storeAt h b o xs = some h') (ha : φ b = some a) (hv : VRelL φ xs vs) :
    ∃ w', (storeCells ⟨a.b, a.o + o, none⟩ vs).run P w = .ok () w' ∧ Rel G B φ h' w' ∧ Below B w w' := by
  unfold storeAt at hs
  split at hs
  · rename_i ty fam l hb
    simp only [Bool.cond_eq_ite, Bool.and_eq_true, Nat.ble_eq] at hs
    split at hs
    · rename_i hcond
      obtain ⟨hlen, hone⟩ := hcond
      cases hs
      have hvl := hv.length
      have hk := r.blk b _ a hb ha
      obtain ⟨c, lo, hi, h1, h2, h3, h4, h5, h6⟩ := hk
      have hB := r.base b _ a hb ha rfl
      have hone' : ∀ v ∈ vs, v.oneCell' = true := by
        intro v hv'
        obtain ⟨i, hi', he⟩ := List.getElem_of_mem hv'
        have hxi : xs[i]? = some xs[i] := by rw [List.getElem?_eq_getElem (by omega)]
        obtain ⟨u, hu, hr⟩ := hv.get hxi
        rw [List.getElem?_eq_getElem hi', he] at hu
        cases hu
        unfold allOne at hone
        rw [List.all_eq_true] at hone
        exact hr.one (hone _ (List.getElem_mem _))
      obtain ⟨w', hrun, hst⟩ := run_storeCells_at' (P := P) vs 0 w a.b (a.o + o) c ty lo hi h1 (by omega)
        (fun j hj1 hj2 => h6 rfl j (by omega) (by omega)) hone'
      have hst' : StoredAt w w' a.b (a.o + o) vs := by simpa using hst
      refine ⟨w', by simpa using hrun, ?_, hst'.below hB⟩
      -- the heap with the blocks that the store meets struck
      have hwk : Weaker h (h.kill fam b o xs.length) := by
        unfold H.kill
        split
        · exact Weaker.refl h
        · exact killL_weaker _ _ _ _ _
      have r1 := r.weaken hwk
      have hget : ∀ c, ((h.kill fam b o xs.length).set b (.cells ty true fam (lay l o xs))).get c = if c = b then some (.cells ty true fam (lay l o xs)) else (h.kill fam b o xs.length).get c :=
        fun c => H.get_set _ _ _ _
      have hlt : b < h.next := (r.dom b a ha).1
      refine ⟨?_, r.gl, fun g cs hg i x hx => ?_, fun c' a' e => ?_, fun c' hc' => ?_, fun c' k a' e ea => ?_, fun c' k a' e ea hw => ?_, fun c1 c2 k1 k2 a1 a2 hne e1 e2 ea1 ea2 l1 l2 hab => ?_, fun c' k f p e hk => ?_⟩
      · rw [hst'.size]; exact r.bsz
      · obtain ⟨v, hv', hr⟩ := r.glob g cs hg i x hx
        refine ⟨v, ?_, hr⟩
        have := r.gl g cs hg
        unfold World.cell? at *
        rw [hst'.other g (by omega)]
        exact hv'
      · obtain ⟨q1, q2⟩ := r.dom c' a' e
        exact ⟨by rw [H.next_set, hwk.next]; exact q1, by rw [hst'.size]; exact q2⟩
      · rw [hget]
        have : h.next ≤ c' := by
          rw [H.next_set, hwk.next] at hc'
          exact hc'
        rw [if_neg (by omega)]
        exact r1.nxt c' (by rw [hwk.next]; exact this)
      · rw [hget] at e
        by_cases hcb : c' = b
        · rw [if_pos hcb] at e
          cases e
          subst hcb
          rw [ha] at ea; cases ea
          obtain ⟨c'', e1, e2, e3⟩ := hst'.at_ c ty (lo, hi) h1
          refine ⟨c'', lo, hi, e1, e2.trans h2, by rw [lay_length hlen]; exact h3, by rw [lay_length hlen]; exact h4, fun i x hx => ?_, h6⟩
          rw [lay_get hlen] at hx
          by_cases hin : o ≤ i ∧ i < o + xs.length
          · rw [if_pos hin] at hx
            obtain ⟨v, hv', hr⟩ := hv.get hx
            refine ⟨v, ?_, hr, ?_⟩
            · rw [e3, if_pos (by omega)]
              have : a.o + i - (a.o + o) = i - o := by omega
              rw [this]; exact hv'
            · unfold allOne at hone
              rw [List.all_eq_true] at hone
              exact hone _ (List.mem_of_getElem? hx)
          · rw [if_neg hin] at hx
            obtain ⟨v, hv', hr, hr1⟩ := h5 i x hx
            refine ⟨v, ?_, hr, hr1⟩
            rw [e3, if_neg (by omega)]
            exact hv'
        · rw [if_neg hcb] at e
          have hk0 := r1.blk c' k a' e ea
          by_cases hkl : k.live = true
          · by_cases hab : a'.b = a.b
            · -- the same block of the world: then both are of one family
              have e0 := hwk.live e hkl
              obtain ⟨f, p, p', f1, f2, f3⟩ := r.disj c' b k _ a' a hcb e0 hb ea ha hkl rfl hab
              simp only [Blk.fam] at f2
              have hap := apart_of (lo := o) (m := xs.length) r hcb hb e0 ha ea rfl hkl hab (by simp only [Blk.fam]; exact f2) (by
                intro ty' wr' q l' hkk
                subst f2
                obtain ⟨_, ms, hm1, hm2⟩ := r.fams c' k f q e0 (by rw [hkk]; rfl)
                refine killL_apart b (p' + o) xs.length ((h.fm.get f).getD []) h c' (by rw [hm1]; exact hm2) hcb ty' wr' f q l' ?_
                have : (h.kill (some (f, p')) b o xs.length).get c' = some k := e
                rw [← hkk]
                exact this)
              obtain ⟨ty', wr', fam', l', hkk, hap⟩ := hap
              rcases hap with h' | h' | h' | h'
              · exact hk0.stored hst' (.inr ⟨_, _, _, _, hkk, .inl h'⟩)
              · exact hk0.stored hst' (.inr ⟨_, _, _, _, hkk, .inr (by omega)⟩)
              · by_cases hh : a'.o + l'.length ≤ a.o + o
                · exact hk0.stored hst' (.inr ⟨_, _, _, _, hkk, .inl hh⟩)
                · have hvs : vs = [] := List.eq_nil_of_length_eq_zero (by omega)
                  subst hvs
                  subst hkk
                  obtain ⟨c0, lo0, hi0, q1, q2, q3, q4, q5, q6⟩ := hk0
                  obtain ⟨c'', e1, e2, e3⟩ := hst'.at_ c0 ty' (lo0, hi0) (hab ▸ q1)
                  refine ⟨c'', lo0, hi0, hab ▸ e1, e2.trans q2, q3, q4, fun i x hx => ?_, q6⟩
                  obtain ⟨v, hv', hr⟩ := q5 i x hx
                  refine ⟨v, ?_, hr⟩
                  rw [e3, if_neg (by simp)]
                  exact hv'
              · subst hkk
                obtain ⟨c0, lo0, hi0, q1, q2, q3, q4, q5, q6⟩ := hk0
                obtain ⟨c'', e1, e2, e3⟩ := hst'.at_ c0 ty' (lo0, hi0) (hab ▸ q1)
                refine ⟨c'', lo0, hi0, hab ▸ e1, e2.trans q2, q3, q4, fun i x hx => ?_, q6⟩
                have : i < l'.length := by
                  rcases Nat.lt_or_ge i l'.length with h'' | h''
                  · exact h''
                  · rw [List.getElem?_eq_none h''] at hx; cases hx
                omega
            · exact hk0.stored hst' (.inl hab)
          · cases k with
            | dead => trivial
            | cells => simp [Blk.live] at hkl
            | map => simp [Blk.live] at hkl
            | siter => simp [Blk.live] at hkl
      · rw [hget] at e
        by_cases hcb : c' = b
        · subst hcb; rw [ha] at ea; cases ea; exact hB
        · rw [if_neg hcb] at e
          exact r1.base c' k a' e ea hw
      · have hold : ∀ (c : Nat) (k : Blk), ((h.kill fam b o xs.length).set b (.cells ty true fam (lay l o xs))).get c = some k → k.live = true → ∃ k0, h.get c = some k0 ∧ k0.live = true ∧ k0.fam = k.fam := by
          intro c k e hl'
          rw [hget] at e
          by_cases hcb : c = b
          · rw [if_pos hcb] at e
            cases e
            exact ⟨.cells ty true fam l, hcb ▸ hb, rfl, rfl⟩
          · rw [if_neg hcb] at e
            exact ⟨k, hwk.live e hl', hl', rfl⟩
        obtain ⟨k1', x1, y1, z1⟩ := hold c1 k1 e1 l1
        obtain ⟨k2', x2, y2, z2⟩ := hold c2 k2 e2 l2
        obtain ⟨f, p, p', q1, q2, q3⟩ := r.disj c1 c2 k1' k2' a1 a2 hne x1 x2 ea1 ea2 y1 y2 hab
        exact ⟨f, p, p', z1 ▸ q1, z2 ▸ q2, q3⟩
      · rw [hget] at e
        have : ((h.kill fam b o xs.length).set b (.cells ty true fam (lay l o xs))).next = h.next ∧ ((h.kill fam b o xs.length).set b (.cells ty true fam (lay l o xs))).fm = h.fm := ⟨by rw [H.next_set, hwk.next], by rw [H.fm_set, hwk.fm]⟩
        rw [this.1, this.2]
        by_cases hcb : c' = b
        · rw [if_pos hcb] at e
          cases e
          exact hcb ▸ r.fams b _ f p hb hk
        · rw [if_neg hcb] at e
          have hkl : k.live = true := by cases k <;> simp [Blk.fam] at hk <;> rfl
          exact r.fams c' k f p (hwk.live e hkl) hk
    · cases hs
  · cases hs

/-- A row that grows where it lies: what is appended is stored behind it, and the longer row is a new abstract block in the same block of the world. -/
theorem grow_rel (r : Rel G B φ h w) {b o n m f p ty : Nat} {l old news : List V} {vs : List Value} {a : RA} (hb : h.get b = some (.cells ty true (some (f, p)) l)) (ha : φ b = some a)
    (hold : rowOf h b o n = some old) (hv : VRelL φ news vs) (hone : allOne news = true) (hm : vs.length = m) (hpos : 0 < m) (hroom : a.o + o + n + m ≤ a.n) :
    ∃ w', (storeCells ⟨a.b, a.o + o + n, none⟩ vs).run P w = .ok () w' ∧ Below B w w' ∧ ExtN h.next φ (upd φ h.next ⟨a.b, a.o + o, a.n⟩) ∧
      Rel G B (upd φ h.next ⟨a.b, a.o + o, a.n⟩)
        { ((killL h.next (p + o + n) news.length ((h.fm.get f).getD []) h).new (.cells ty true (some (f, p + o)) (old ++ news))) with
          fm := (killL h.next (p + o + n) news.length ((h.fm.get f).getD []) h).fm.set f (h.next :: (h.fm.get f).getD []) } w' := by
  have hvl := hv.length
  have hk := r.blk b _ a hb ha
  obtain ⟨c, lo, hi, h1, h2, h3, h4, h5, h6⟩ := hk
  have hB := r.base b _ a hb ha rfl
  obtain ⟨holdl, us, hus1, hus2, hus3, hus4, _, _, _, _, hb', hlen⟩ := rowOf_rel r hold ha
  rw [hb] at hb'
  cases hb'
  have hone' : ∀ v ∈ vs, v.oneCell' = true := by
    intro v hv'
    obtain ⟨i, hi', he⟩ := List.getElem_of_mem hv'
    have hxi : news[i]? = some news[i] := by rw [List.getElem?_eq_getElem (by omega)]
    obtain ⟨u, hu, hr⟩ := hv.get hxi
    rw [List.getElem?_eq_getElem hi', he] at hu
    cases hu
    unfold allOne at hone
    rw [List.all_eq_true] at hone
    exact hr.one (hone _ (List.getElem_mem _))
  obtain ⟨w', hrun, hst⟩ := run_storeCells_at' (P := P) vs 0 w a.b (a.o + o + n) c ty lo hi h1 (by omega)
    (fun j hj1 hj2 => h6 rfl j (by omega) (by omega)) hone'
  have hst' : StoredAt w w' a.b (a.o + o + n) vs := by simpa using hst
  have hwk : Weaker h (killL h.next (p + o + n) news.length ((h.fm.get f).getD []) h) := killL_weaker _ _ _ _ _
  generalize hh1 : killL h.next (p + o + n) news.length ((h.fm.get f).getD []) h = h1' at hwk
  have r1 := r.weaken hwk
  obtain ⟨hflt, ms, hm1, hm2⟩ := r.fams b _ f p hb rfl
  have hx : ExtN h.next φ (upd φ h.next ⟨a.b, a.o + o, a.n⟩) := r.extN _
  refine ⟨w', by simpa using hrun, hst'.below hB, hx, ?_⟩
  have hget : ∀ c, ({ (h1'.new (.cells ty true (some (f, p + o)) (old ++ news))) with fm := h1'.fm.set f (h.next :: (h.fm.get f).getD []) } : H).get c =
      if c = h.next then some (.cells ty true (some (f, p + o)) (old ++ news)) else h1'.get c := by
    intro c
    have := H.get_new h1' c (.cells ty true (some (f, p + o)) (old ++ news))
    rw [hwk.next] at this
    exact this
  have hnext : ({ (h1'.new (.cells ty true (some (f, p + o)) (old ++ news))) with fm := h1'.fm.set f (h.next :: (h.fm.get f).getD []) } : H).next = h.next + 1 := by
    show (h1'.new _).next = _
    rw [H.next_new, hwk.next]
  have hfree := r.free
  have hne : ∀ c a', φ c = some a' → c ≠ h.next := fun c a' e he => by subst he; rw [hfree] at e; cases e
  have hupd : ∀ c a', upd φ h.next ⟨a.b, a.o + o, a.n⟩ c = some a' → c ≠ h.next → φ c = some a' := by
    intro c a' e hc
    unfold upd at e
    rwa [if_neg hc] at e
  refine ⟨?_, r.gl, fun g cs hg i x hx' => ?_, fun c' a' e => ?_, fun c' hc' => ?_, fun c' k a' e ea => ?_, fun c' k a' e ea hw => ?_, fun c1 c2 k1 k2 a1 a2 hne' e1 e2 ea1 ea2 l1 l2 hab => ?_, fun c' k f' p' e hk => ?_⟩
  · rw [hst'.size]; exact r.bsz
  · obtain ⟨v, hv', hr⟩ := r.glob g cs hg i x hx'
    refine ⟨v, ?_, hr⟩
    have := r.gl g cs hg
    unfold World.cell? at *
    rw [hst'.other g (by omega)]
    exact hv'
  · rw [hnext, hst'.size]
    by_cases hc : c' = h.next
    · subst hc
      unfold upd at e
      rw [if_pos rfl] at e
      cases e
      exact ⟨by omega, (r.dom b a ha).2⟩
    · obtain ⟨q1, q2⟩ := r.dom c' a' (hupd _ _ e hc)
      exact ⟨by omega, q2⟩
  · rw [hnext] at hc'
    rw [hget, if_neg (by omega)]
    exact r1.nxt c' (by rw [hwk.next]; omega)
  · rw [hget] at e
    by_cases hc : c' = h.next
    · rw [if_pos hc] at e
      cases e
      subst hc
      unfold upd at ea
      rw [if_pos rfl] at ea
      cases ea
      obtain ⟨c'', e1, e2, e3⟩ := hst'.at_ c ty (lo, hi) h1
      refine ⟨c'', lo, hi, e1, e2.trans h2, by simp; omega, (by have h4' : a.o ≤ p := h4; show a.o + o ≤ p + o; omega), fun i x hx' => ?_, fun _ j hj1 hj2 => h6 rfl j (by simp only at hj1; omega) hj2⟩
      by_cases hin : i < old.length
      · rw [List.getElem?_append_left hin] at hx'
        have hone1 := hus3 x (List.mem_of_getElem? hx')
        obtain ⟨v, hv', hr⟩ := hus2.get hx'
        refine ⟨v, ?_, hr.mono hx.1, hone1⟩
        rw [e3, if_neg (by simp only; omega)]
        have := hus4 i v hv'
        unfold World.cell? at this
        rw [h1] at this
        simpa using this
      · rw [List.getElem?_append_right (by omega)] at hx'
        obtain ⟨v, hv', hr⟩ := hv.get hx'
        have hlt : i - old.length < vs.length := by
          rcases Nat.lt_or_ge (i - old.length) vs.length with h' | h'
          · exact h'
          · rw [List.getElem?_eq_none h'] at hv'; cases hv'
        refine ⟨v, ?_, hr.mono hx.1, ?_⟩
        · rw [e3, if_pos (by simp only; omega)]
          have : a.o + o + i - (a.o + o + n) = i - old.length := by omega
          simp only
          rw [this]
          exact hv'
        · unfold allOne at hone
          rw [List.all_eq_true] at hone
          exact hone _ (List.mem_of_getElem? hx')
    · rw [if_neg hc] at e
      have ea' := hupd _ _ ea hc
      have hk0 := r1.blk c' k a' e ea'
      refine BlkOk.mono hx.1 ?_
      by_cases hkl : k.live = true
      · by_cases hab : a'.b = a.b
        · have e0 := hwk.live e hkl
          by_cases hcb : c' = b
          · subst hcb
            rw [hb] at e0
            cases e0
            rw [ha] at ea'; cases ea'
            have hnm := killL_apart h.next (p + o + n) news.length ((h.fm.get f).getD []) h c' (by rw [hm1]; exact hm2) hc ty true f p l (by rw [hh1]; exact e)
            have hnm' : ¬ (p < p + o + n + news.length ∧ p + o + n < p + l.length) := by rw [← meets_iff]; simp [hnm]
            exact hk0.stored hst' (.inr ⟨_, _, _, _, rfl, .inl (by omega)⟩)
          · obtain ⟨f', q, q', f1, f2, f3⟩ := r.disj c' b k _ a' a hcb e0 hb ea' ha hkl rfl hab
            have hap := apart_of (lo := o + n) (m := news.length) r hcb hb e0 ha ea' rfl hkl hab (f := f) (p := p) rfl (by
              intro ty' wr' q l' hkk
              obtain ⟨_, ms', hm1', hm2'⟩ := r.fams c' k f q e0 (by rw [hkk]; rfl)
              have := killL_apart h.next (p + o + n) news.length ((h.fm.get f).getD []) h c' (by rw [hm1']; exact hm2') hc ty' wr' f q l' (by rw [hh1, ← hkk]; exact e)
              rw [← Nat.add_assoc]
              exact this)
            obtain ⟨ty', wr', fam', l', hkk, hap⟩ := hap
            by_cases hvz : vs = []
            · subst hvz
              subst hkk
              obtain ⟨c0, lo0, hi0, q1, q2, q3, q4, q5, q6⟩ := hk0
              obtain ⟨c'', e1, e2, e3⟩ := hst'.at_ c0 ty' (lo0, hi0) (hab ▸ q1)
              refine ⟨c'', lo0, hi0, hab ▸ e1, e2.trans q2, q3, q4, fun i x hx => ?_, q6⟩
              obtain ⟨v, hv', hr⟩ := q5 i x hx
              refine ⟨v, ?_, hr⟩
              rw [e3, if_neg (by simp)]
              exact hv'
            · have hvp : 0 < vs.length := List.length_pos_iff.2 hvz
              by_cases hl0 : l'.length = 0
              · subst hkk
                obtain ⟨c0, lo0, hi0, q1, q2, q3, q4, q5, q6⟩ := hk0
                obtain ⟨c'', e1, e2, e3⟩ := hst'.at_ c0 ty' (lo0, hi0) (hab ▸ q1)
                refine ⟨c'', lo0, hi0, hab ▸ e1, e2.trans q2, q3, q4, fun i x hx => ?_, q6⟩
                have : l' = [] := List.eq_nil_of_length_eq_zero hl0
                subst this
                simp at hx
              · exact hk0.stored hst' (.inr ⟨_, _, _, _, hkk, by omega⟩)
        · exact hk0.stored hst' (.inl hab)
      · cases k with
        | dead => trivial
        | cells => simp [Blk.live] at hkl
        | map => simp [Blk.live] at hkl
        | siter => simp [Blk.live] at hkl
  · rw [hget] at e
    by_cases hc : c' = h.next
    · subst hc
      unfold upd at ea
      rw [if_pos rfl] at ea
      cases ea
      exact hB
    · rw [if_neg hc] at e
      exact r1.base c' k a' e (hupd _ _ ea hc) hw
  · rw [hget] at e1 e2
    have hnew : ∀ c k a', c ≠ h.next → h1'.get c = some k → φ c = some a' → k.live = true → a'.b = a.b → ∃ q, k.fam = some (f, q) ∧ a'.o + p = a.o + q := by
      intro c k a' hc e ea hl' hab
      have e0 := hwk.live e hl'
      by_cases hcb : c = b
      · subst hcb
        rw [hb] at e0; cases e0
        rw [ha] at ea; cases ea
        exact ⟨p, rfl, rfl⟩
      · obtain ⟨f', q, q', f1, f2, f3⟩ := r.disj c b k _ a' a hcb e0 hb ea ha hl' rfl hab
        cases f2
        exact ⟨q, f1, f3⟩
    by_cases hc1 : c1 = h.next
    · subst hc1
      rw [if_pos rfl] at e1
      cases e1
      unfold upd at ea1
      rw [if_pos rfl] at ea1
      cases ea1
      have hc2 : c2 ≠ h.next := fun e => hne' e.symm
      rw [if_neg hc2] at e2
      obtain ⟨q, q1, q2⟩ := hnew c2 k2 a2 hc2 e2 (hupd _ _ ea2 hc2) l2 hab.symm
      exact ⟨f, p + o, q, rfl, q1, by simp only; omega⟩
    · rw [if_neg hc1] at e1
      have ea1' := hupd _ _ ea1 hc1
      by_cases hc2 : c2 = h.next
      · subst hc2
        rw [if_pos rfl] at e2
        cases e2
        unfold upd at ea2
        rw [if_pos rfl] at ea2
        cases ea2
        obtain ⟨q, q1, q2⟩ := hnew c1 k1 a1 hc1 e1 ea1' l1 hab
        exact ⟨f, q, p + o, q1, rfl, by simp only; omega⟩
      · rw [if_neg hc2] at e2
        exact r1.disj c1 c2 k1 k2 a1 a2 hne' e1 e2 ea1' (hupd _ _ ea2 hc2) l1 l2 hab
  · rw [hget] at e
    suffices hh : f' < h.next + 1 ∧ ∃ ms, (h1'.fm.set f (h.next :: (h.fm.get f).getD [])).get f' = some ms ∧ c' ∈ ms by
      obtain ⟨q1, q2⟩ := hh
      exact ⟨by rw [hnext]; exact q1, q2⟩
    rw [Tr.get_set]
    by_cases hc : c' = h.next
    · rw [if_pos hc] at e
      cases e
      cases hk
      exact ⟨by omega, _, if_pos rfl, by simp [hc]⟩
    · rw [if_neg hc] at e
      have hkl : k.live = true := by cases k <;> simp [Blk.fam] at hk <;> rfl
      obtain ⟨q1, ms', q2, q3⟩ := r.fams c' k f' p' (hwk.live e hkl) hk
      refine ⟨by omega, ?_⟩
      by_cases hff : f' = f
      · subst hff
        exact ⟨_, if_pos rfl, by rw [q2]; simp [q3]⟩
      · exact ⟨ms', by rw [if_neg hff, hwk.fm]; exact q2, q3⟩

end
end Go.Sim
