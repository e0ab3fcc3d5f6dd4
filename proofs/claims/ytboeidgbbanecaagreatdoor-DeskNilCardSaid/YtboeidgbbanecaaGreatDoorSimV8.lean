/- Operations, twelfth part: unsafe.String. -/
import Derived.Test.YtboeidgbbanecaaGreatDoorSimV6
namespace Go.Sim
open Go.RowKit

section
variable {P : Program} {G : Gl} {B : Nat} {φ : Phi} {h : H} {w : World} {t : List V} {a : Act} {o : Oper} {op : AOp} {res : OR}

theorem killA_weaker (skip : Nat) : ∀ (cs : List Nat) (h : H), Weaker h (killA skip cs h)
  | [], h => Weaker.refl h
  | c :: cs, h => by
    unfold killA
    by_cases e : Nat.beq c skip = true
    · rw [e, cond_true]; exact killA_weaker skip cs h
    · simp only [Bool.not_eq_true] at e
      rw [e, cond_false]
      split
      · rename_i hc
        exact (Weaker.kill1 h c _ hc).trans (killA_weaker skip cs _)
      · exact killA_weaker skip cs h

theorem killA_skip (skip : Nat) : ∀ (cs : List Nat) (h : H), (killA skip cs h).get skip = h.get skip
  | [], h => rfl
  | c :: cs, h => by
    unfold killA
    by_cases e : Nat.beq c skip = true
    · rw [e, cond_true]; exact killA_skip skip cs h
    · simp only [Bool.not_eq_true] at e
      have hne := Nat.ne_of_beq_eq_false e
      rw [e, cond_false]
      split
      · rw [killA_skip skip cs, H.get_set, if_neg (fun e => hne e.symm)]
      · exact killA_skip skip cs h

theorem killA_dead (skip : Nat) : ∀ (cs : List Nat) (h : H) (c : Nat), c ∈ cs → c ≠ skip → ∀ ty wr fam l, (killA skip cs h).get c ≠ some (.cells ty wr fam l)
  | [], _, c, hc => by simp at hc
  | x :: cs, h, c, hc => by
    intro hs ty wr fam l he
    unfold killA at he
    by_cases e : Nat.beq x skip = true
    · rw [e, cond_true] at he
      have hx := Nat.eq_of_beq_eq_true e
      rcases List.mem_cons.1 hc with h' | h'
      · omega
      · exact killA_dead skip cs h c h' hs ty wr fam l he
    · simp only [Bool.not_eq_true] at e
      rw [e, cond_false] at he
      split at he
      · by_cases hin : c ∈ cs
        · exact killA_dead skip cs _ c hin hs ty wr fam l he
        · have hcx : c = x := by
            rcases List.mem_cons.1 hc with h' | h'
            · exact h'
            · exact (hin h').elim
          subst hcx
          rcases (killA_weaker skip cs (h.set c .dead)).get c with q | ⟨k, q1, q2⟩
          · rw [he, H.get_set, if_pos rfl] at q; cases q
          · rw [he] at q2; cases q2
      · rename_i hno
        by_cases hin : c ∈ cs
        · exact killA_dead skip cs _ c hin hs ty wr fam l he
        · have hcx : c = x := by
            rcases List.mem_cons.1 hc with h' | h'
            · exact h'
            · exact (hin h').elim
          subst hcx
          rcases (killA_weaker skip cs h).get c with q | ⟨k, q1, q2⟩
          · rw [he] at q; exact hno _ _ _ _ q.symm
          · rw [he] at q2; cases q2

/-- One block of the world is changed that one live block alone shows. -/
theorem Rel.setOne (r : Rel G B φ h w) {b : Nat} {k k' : Blk} {q : RA} {ob : Obj} (hb : h.get b = some k) (hq : φ b = some q) (hw : k.writes = true) (hc : k'.fam = k.fam) (_hw' : k.live = true)
    (hk : BlkOk φ k' q { w with heap := w.heap.setIfInBounds q.b ob }) (hsole : ∀ c k0 a', c ≠ b → h.get c = some k0 → φ c = some a' → k0.live = true → a'.b ≠ q.b) :
    Rel G B φ (h.set b k') { w with heap := w.heap.setIfInBounds q.b ob } ∧ Below B w { w with heap := w.heap.setIfInBounds q.b ob } := by
  have hB := r.base b k q hb hq hw
  have hother : ∀ j, j ≠ q.b → ({ w with heap := w.heap.setIfInBounds q.b ob } : World).heap[j]? = w.heap[j]? := by
    intro j hj
    show (w.heap.setIfInBounds q.b ob)[j]? = _
    rw [Array.getElem?_setIfInBounds_ne (by omega)]
  have hsz : ({ w with heap := w.heap.setIfInBounds q.b ob } : World).heap.size = w.heap.size := by simp
  have hlt := (r.dom b q hq).1
  refine ⟨⟨by rw [hsz]; exact r.bsz, r.gl, fun g l hg i x hx => ?_, fun c a' e => ?_, fun c hc0 => ?_, fun c k0 a' e ea => ?_, fun c k0 a' e ea hw0 => ?_, fun c1 c2 k1 k2 a1 a2 hne e1 e2 ea1 ea2 l1 l2 hab => ?_, fun c k0 f p e hk0 => ?_⟩,
    ⟨rfl, rfl, rfl, by simp, fun j hj => hother j (by omega)⟩⟩
  · obtain ⟨v, hv, hr⟩ := r.glob g l hg i x hx
    refine ⟨v, ?_, hr⟩
    have := r.gl g l hg
    unfold World.cell? at *
    rw [hother g (by omega)]
    exact hv
  · rw [hsz, H.next_set]; exact r.dom c a' e
  · rw [H.next_set] at hc0
    rw [H.get_set, if_neg (by omega)]
    exact r.nxt c hc0
  · rw [H.get_set] at e
    by_cases hcb : c = b
    · rw [if_pos hcb] at e
      cases e
      subst hcb
      rw [hq] at ea; cases ea
      exact hk
    · rw [if_neg hcb] at e
      by_cases hkl : k0.live = true
      · exact (r.blk c k0 a' e ea).same (hother _ (hsole c k0 a' hcb e ea hkl))
      · cases k0 <;> first | trivial | simp [Blk.live] at hkl
  · rw [H.get_set] at e
    by_cases hcb : c = b
    · subst hcb; rw [hq] at ea; cases ea; exact hB
    · rw [if_neg hcb] at e; exact r.base c k0 a' e ea hw0
  · rw [H.get_set] at e1 e2
    by_cases h1 : c1 = b
    · subst h1
      rw [if_neg (fun e => hne e.symm)] at e2
      rw [hq] at ea1; cases ea1
      exact (hsole c2 k2 a2 (fun e => hne e.symm) e2 ea2 l2 hab.symm).elim
    · rw [if_neg h1] at e1
      by_cases h2 : c2 = b
      · subst h2
        rw [hq] at ea2; cases ea2
        exact (hsole c1 k1 a1 h1 e1 ea1 l1 hab).elim
      · rw [if_neg h2] at e2
        exact r.disj c1 c2 k1 k2 a1 a2 hne e1 e2 ea1 ea2 l1 l2 hab
  · rw [H.get_set] at e
    rw [H.next_set, H.fm_set]
    by_cases hcb : c = b
    · rw [if_pos hcb] at e; cases e; rw [hc] at hk0; subst hcb; exact r.fams c k f p hb hk0
    · rw [if_neg hcb] at e; exact r.fams c k0 f p e hk0

theorem freeze_eq {w : World} {b off n : Nat} {c : Array Value} {ty : Nat} {fr : Nat × Nat} (hb : w.heap[b]? = some (.cells c ty fr)) (hn : n ≠ 0) :
    ∃ lo hi, w.freeze ⟨b, off, none⟩ n = { w with heap := w.heap.setIfInBounds b (.cells c ty (lo, hi)) } := by
  obtain ⟨lo, hi⟩ := fr
  have hlt : b < w.heap.size := by
    rcases Nat.lt_or_ge b w.heap.size with h' | h'
    · exact h'
    · rw [Array.getElem?_eq_none h'] at hb; cases hb
  have hx : w.heap[b] = .cells c ty (lo, hi) := by
    rw [Array.getElem?_eq_getElem hlt] at hb
    exact Option.some.inj hb
  unfold World.freeze
  rw [if_neg hn]
  refine ⟨(if lo == hi then (off, off + n) else (min lo off, max hi (off + n))).1, (if lo == hi then (off, off + n) else (min lo off, max hi (off + n))).2, ?_⟩
  congr 1
  apply Array.ext_getElem?
  intro i
  rw [Array.getElem?_modify, Array.getElem?_setIfInBounds]
  by_cases h : b = i
  · subst h
    simp [hlt, hx]
  · simp [h]

theorem strOfBytes_bytes {φ : Phi} : ∀ {xs : List V} {vs : List Value} {l : List Nat}, VRelL φ xs vs → strOfBytes xs = some l →
    ∃ us : List UInt8, vs = us.map (fun x => Value.int .u8 x.toNat) ∧ us.map UInt8.toNat = l
  | [], vs, l, hv, hs => by
    simp only [VRelL] at hv
    subst hv
    simp only [strOfBytes, Option.some.injEq] at hs
    subst hs
    exact ⟨[], rfl, rfl⟩
  | x :: xs, vs, l, hv, hs => by
    simp only [VRelL] at hv
    obtain ⟨v, vs', rfl, h1, h2⟩ := hv
    unfold strOfBytes at hs
    split at hs
    · rename_i e; cases e
    · rename_i n rest e
      cases e
      split at hs
      · rename_i l' hl
        simp only [Bool.cond_eq_ite, forceN_eq] at hs
        split at hs <;> cases hs
        rename_i hin
        rw [inR_iff] at hin
        obtain ⟨us, hus, hf⟩ := strOfBytes_bytes h2 hl
        simp only [VRel] at h1
        have : (UInt8.ofNat n.toNat).toNat = n.toNat := by
          rw [UInt8.toNat_ofNat']
          exact Nat.mod_eq_of_lt (by omega)
        refine ⟨UInt8.ofNat n.toNat :: us, ?_, by simp [this, hf]⟩
        rw [h1, hus, List.map_cons, this]
        congr 2
        omega
      · cases hs
    · cases hs

theorem good_ustr (r : Rel G B φ h w) (ht : VRelL φ t a.tmps.toList) {c : Call} (ho : o.op = .call c) {p n : Operand} {p' n' : O} {pt it e : TypeId} (hcal : c.callee = .builtin .unsafeString) (hargs : c.args = #[p, n]) (hat : c.argTypes = #[pt, it])
    (hp : cO p = some p') (hn : cO n = some n') (hpt : P.underlying pt = some (.pointer e)) (hce : P.cellsOf e = 1)
    (hr : opUstr (opd t) h e p' n' = some res) : Good P G B φ h w (execOp a.eval o) res := by
  have hvp := eval_rel ht hp
  have hvn := eval_rel ht hn
  have hexec : ∀ u w', (Builtin.unsafeString_ #[pt, it] o.type #[a.eval p, a.eval n]).run P w = .ok u w' → (execOp a.eval o).run P w = .ok (.value u) w' := by
    intro u w' hu
    simp [execOp, ho, resolve, hcal, hargs, invoke, builtin, hat, hu]
  unfold opUstr at hr
  split at hr
  · rename_i m e1 e2
    simp only [Bool.cond_eq_ite, Nat.beq_eq] at hr
    split at hr <;> cases hr
    rename_i hm
    subst hm
    rw [e1] at hvp
    rw [e2] at hvn
    simp only [VRel] at hvp hvn
    refine Good.val r (v := .string .empty) (hexec _ _ ?_) (by simp only [VRel]; exact ⟨_, rfl, rfl⟩)
    rw [hvp, hvn]
    exact Lib.run_unsafeString_none w pt it o.type none
  · rename_i b k m e1 e2
    simp only [Bool.cond_eq_ite, Bool.and_eq_true, Nat.beq_eq, Nat.blt_eq, Nat.ble_eq] at hr
    split at hr
    rotate_left
    · cases hr
    rename_i hcond
    obtain ⟨⟨hm0, hm63⟩, hk0⟩ := hcond
    subst hk0
    split at hr
    rotate_left
    · cases hr
    rename_i ty' wr f pp l xs hg hxs
    split at hr
    rotate_left
    · cases hr
    rename_i hcond2
    obtain ⟨rfl, rfl⟩ := hcond2
    split at hr
    rotate_left
    · cases hr
    rename_i str hstr
    cases hr
    rw [e1] at hvp
    rw [e2] at hvn
    simp only [VRel] at hvp hvn
    obtain ⟨q, hq, hv⟩ := hvp
    obtain ⟨hxl, vs, hvl, hvs, hone, hcell, _⟩ := rowOf_rel r hxs hq
    obtain ⟨cs, lo, hi, h1, h2, h3, h4, h5, h6⟩ := r.blk b _ q hg hq
    simp only [FamOk] at h4
    have hq0 : q.o = 0 := by omega
    obtain ⟨us, hus, hstr2⟩ := strOfBytes_bytes hvs hstr
    have hul : us.length = m := by
      rw [hus] at hvl; simpa using hvl
    have hne : us ≠ [] := by intro e; rw [e] at hul; simp at hul; omega
    have hsh := World.shape_cells h1
    have hml : m ≤ xs.length := by omega
    have hlen : m ≤ l.length := by
      have := hxs
      unfold rowOf at this
      rw [hg] at this
      simp only [Bool.cond_eq_ite, Nat.ble_eq] at this
      split at this
      · omega
      · cases this
    have hrun := Lib.run_unsafeString_row (w := w) (P := P) pt it o.type ty' hpt hce q.b cs.size hsh us hne (by omega) (by omega) (fun j x hj => by
      have hvj : vs[j]? = some (.int .u8 x.toNat) := by rw [hus]; simp [hj]
      have := hcell j _ hvj
      simp only [hq0, Nat.zero_add] at this
      by_cases hj0 : j = 0
      · subst hj0; simpa [Addr.add] using this
      · simpa [Addr.add, hj0] using this)
    obtain ⟨lo2, hi2, hfz⟩ := freeze_eq (off := 0) (n := us.length) h1 (by omega)
    obtain ⟨hfl, ms, hms, hbm⟩ := r.fams b _ f 0 hg rfl
    have hw := killA_weaker b ms h
    have r' := r.weaken hw
    have hg' : (killA b ms h).get b = some (.cells ty' wr (some (f, 0)) l) := by rw [killA_skip]; exact hg
    obtain ⟨hrel, hbel⟩ := r'.setOne (ob := .cells cs ty' (lo2, hi2)) (k' := .cells ty' false (some (f, 0)) l) hg' hq (by cases wr <;> rfl) rfl rfl
      ⟨cs, lo2, hi2, by
        show (w.heap.setIfInBounds q.b _)[q.b]? = _
        have := (r.dom b q hq).2
        simp [this], h2, h3, by simp only [FamOk]; omega, h5, fun e => by cases e⟩
      (fun c k0 a' hcb hk0 ha' hl0 hab => by
        obtain ⟨f', p1, p2, q1, q2, _⟩ := r'.disj c b k0 _ a' q hcb hk0 hg' ha' hq hl0 rfl hab
        cases q2
        cases k0 with
        | cells ty2 wr2 fam2 l2 =>
          simp only [Blk.fam] at q1
          subst q1
          obtain ⟨_, ms', hms', hcm⟩ := r'.fams c _ f p1 hk0 rfl
          rw [hw.fm, hms] at hms'
          cases hms'
          exact killA_dead b ms h c hcm hcb _ _ _ _ hk0
        | _ => cases q1)
    refine ⟨.string ⟨us.toArray⟩, _, φ, hexec _ _ ?_, ExtN.refl _ φ, ?_, ?_, hbel⟩
    · rw [hv, hvn, ← hfz]
      have hqe : q.o + 0 = 0 := by omega
      rw [hqe]
      have hme : (Int.ofNat m) = ((us.length : Nat) : Int) := by rw [hul]; rfl
      rw [hme]
      exact hrun
    · rw [hms]
      exact hrel
    · simp only [VRel]
      exact ⟨_, rfl, by unfold natsOf; simpa using hstr2⟩
  · cases hr

end
end Go.Sim
