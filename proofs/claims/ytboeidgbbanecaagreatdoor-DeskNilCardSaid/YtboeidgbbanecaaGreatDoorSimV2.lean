/- Operations, sixth part: what is appended to, made with a length, looked up, compared. -/
import Derived.Test.YtboeidgbbanecaaGreatDoorSimV
import Derived.Laws.BytesString
import Derived.Lib.UnsafeStr
namespace Go.Sim
open Go.RowKit

section
variable {P : Program} {G : Gl} {B : Nat} {φ : Phi} {h : H} {w : World} {t : List V} {a : Act} {o : Oper} {op : AOp} {res : OR}

theorem room_iff {n bytes : Nat} : room n bytes = true ↔ n * bytes ≤ 140737488355328 ∧ n ≤ 9223372036854775807 := by
  unfold room
  rw [Bool.and_eq_true, Nat.ble_eq, Nat.ble_eq]

theorem bytesOf_rel {s : ByteArray} {l : List Nat} (e : natsOf s = l) : VRelL φ (bytesOf l) (s.data.map fun b => Value.int .u8 b.toNat).toList := by
  subst e
  refine VRelL.of (by simp [bytesOf, natsOf]) fun i x hx => ?_
  unfold bytesOf natsOf at hx
  rw [List.map_map, List.getElem?_map, Option.map_eq_some_iff] at hx
  obtain ⟨b, hb, rfl⟩ := hx
  rw [Array.getElem?_toList] at hb
  refine ⟨.int .u8 b.toNat, ?_, ?_⟩
  · rw [Array.getElem?_toList]
    simp [hb]
  · simp only [VRel, Function.comp]
    rfl

theorem bytesOf_one (l : List Nat) : allOne (bytesOf l) = true := by
  unfold allOne bytesOf
  rw [List.all_map]
  simp [List.all_eq_true, V.one]

theorem bytesOf_length (l : List Nat) : (bytesOf l).length = l.length := by simp [bytesOf]

/-- What is appended: its cells, on both sides. -/
theorem newsOf_rel (r : Rel G B φ h w) {z : Nat} {x : V} {v : Value} {news : List V} (hx : VRel φ x v) (hn : newsOf h z x = some news) (hz : 0 < z) :
    ∃ (m : Nat) (vs : List Value), news.length = m * z ∧ VRelL φ news vs ∧ allOne news = true ∧ (Builtin.lenOf v).run P w = .ok m w ∧
      (∀ k, k ≤ m → (Builtin.firstCells z k v).run P w = .ok ⟨vs.take (k * z)⟩ w) := by
  unfold newsOf at hn
  split at hn
  · cases hn
    simp only [VRel] at hx
    subst hx
    exact ⟨0, [], by simp, rfl, rfl, by simp [Builtin.lenOf], fun k hk => by simp [Builtin.firstCells]⟩
  · rename_i b k n z' ex
    simp only [Bool.cond_eq_ite, Nat.beq_eq] at hn
    split at hn
    · rename_i hzz
      subst hzz
      simp only [VRel] at hx
      obtain ⟨q, ad, c, hq, rfl, hnc, _, hor⟩ := hx
      obtain ⟨h1, vs, h2, h3, h4, h5, _⟩ := rowOf_rel r hn hq
      refine ⟨n, vs, h1, h3, by unfold allOne; rw [List.all_eq_true]; exact h4, by simp [Builtin.lenOf], fun j hj => ?_⟩
      rcases hor with h' | ⟨h', _⟩
      · have : j = 0 := by omega
        subst this
        simp [Builtin.firstCells, loadCells, loadCellsFrom]
      · have hlen : (vs.take (j * z')).length = j * z' := by
          rw [List.length_take, h2]
          exact Nat.min_eq_left (Nat.mul_le_mul_right _ hj)
        have := run_loadCells_at (P := P) (w := w) ad (by rw [h']) (vs.take (j * z')) (fun i u hu => by
          rw [List.getElem?_take] at hu
          split at hu
          · rw [h']; exact h5 i u hu
          · cases hu)
        rw [hlen] at this
        simpa [Builtin.firstCells] using this
    · cases hn
  · rename_i l
    simp only [Bool.cond_eq_ite, Nat.beq_eq] at hn
    split at hn
    · rename_i hzz
      subst hzz
      cases hn
      simp only [VRel] at hx
      obtain ⟨s, rfl, hs⟩ := hx
      have hsz := natsOf_length hs
      refine ⟨s.size, (s.data.map fun b => Value.int .u8 b.toNat).toList, by rw [bytesOf_length, hsz]; omega, bytesOf_rel hs, bytesOf_one l, by simp [Builtin.lenOf], fun j hj => ?_⟩
      simp only [Builtin.firstCells, Sem.run_pure]
      congr 1
      rw [← Array.toList_inj]
      simp
    · cases hn
  · cases hn

/-- An append that must make a new row. -/
theorem append_grow {st xt e : TypeId} {i : TypeInfo} {z : Value} {d : TypeDesc} (ty : TypeId)
    (hst : P.underlying st = some (.slice e)) (hi : P.info? e = some i) (hz : i.zero = some z) (hzs : z.cells.size = i.size) (hxt : P.underlying xt = some d) (hd : ∀ k, d ≠ .int k)
    {base : Option Addr} {n c m : Nat} {x : Value} {old new : Array Value} (hm4 : (Builtin.lenOf x).run P w = .ok m w) (hlt : c < n + m) (hroom : (n + m) * i.bytes ≤ 140737488355328) (hmax : n + m ≤ 9223372036854775807)
    (hold : (Builtin.firstCells i.size n (.slice base n c)).run P { w with drawn := w.drawn + 1 } = .ok old { w with drawn := w.drawn + 1 })
    (hnew : (Builtin.firstCells i.size m x).run P { w with drawn := w.drawn + 1 } = .ok new { w with drawn := w.drawn + 1 }) (hol : old.size = n * i.size) (hnl : new.size = m * i.size) :
    ∃ cap cells, n + m ≤ cap ∧ cells.size = cap * i.size ∧ (∃ rest, cells.toList = old.toList ++ new.toList ++ rest) ∧
      (Builtin.append_ #[st, xt] ty #[.slice base n c, x]).run P w = .ok (.slice (some ⟨w.heap.size, 0, none⟩) (n + m) cap) { w with drawn := w.drawn + 1, heap := w.heap.push (.cells cells e) } := by
  have hzeros : (d matches .int _) = false := by
    cases d <;> first | rfl | exact (hd _ rfl).elim
  have hns := growslice_fits hlt hroom
  generalize hcap : (n + m) + w.tape w.drawn (.appendCap (n + m) c e) % (2 ^ 63 - (n + m)) = cap
  have hcl : n + m ≤ cap := by omega
  refine ⟨cap, old ++ new ++ Builtin.zeroCells z.cells (cap - (n + m)), hcl, ?_, ?_, ?_⟩
  · simp only [Array.size_append, hol, hnl, Builtin.zeroCells, Array.size_map, Array.size_range, hzs]
    rw [← Nat.add_mul, ← Nat.add_mul]
    congr 1
    omega
  · exact ⟨(Builtin.zeroCells z.cells (cap - (n + m))).toList, by simp⟩
  · have hm' : IntKind.i64.max = 9223372036854775807 := by decide
    have hc1 : ¬ (n + m ≤ c) := by omega
    have hc2 : ¬ (((n + m : Nat) : Int) > 9223372036854775807) := by omega
    have hc2' : ¬ (9223372036854775807 < ((n : Int) + (m : Int))) := by omega
    have hc3 : ¬ (281474976710656 < Builtin.nextslicecap (n + m) c * i.bytes) := by omega
    have hd' : (match d with | .int _ => true | _ => false) = false := by cases d <;> first | rfl | exact (hd _ rfl).elim
    simp [Builtin.append_, run_underlying hst, run_underlying hxt, sizeOf, typeInfo, zeroValue, hi, hz, hm4, hc1, hc2', hc3, Question.forced, newRow]
    have hold' : (Builtin.firstCells i.size n (.slice base n c)).run P w.drew = .ok old w.drew := hold
    have hnew' : (Builtin.firstCells i.size m x).run P w.drew = .ok new w.drew := hnew
    rw [hold']
    simp only [Result.andThen_ok]
    rw [hnew']
    simp only [Result.andThen_ok, Question.cut]
    rw [hcap]
    rfl

/-- An append of nothing. -/
theorem append_none {st xt e : TypeId} {i : TypeInfo} {d : TypeDesc} (ty : TypeId)
    (hst : P.underlying st = some (.slice e)) (hi : P.info? e = some i) (hxt : P.underlying xt = some d) (hd : ∀ k, d ≠ .int k)
    {s : Value} {base : Option Addr} {n c m : Nat} {x : Value} {vs : List Value} (hm4 : (Builtin.lenOf x).run P w = .ok m w)
    (hnew : (Builtin.firstCells i.size m x).run P w = .ok ⟨vs⟩ w) (h0 : m = 0) (hvs : vs = []) (hs : s = .slice base n c) (hnc : n ≤ c) : (Builtin.append_ #[st, xt] ty #[s, x]).run P w = .ok s w := by
  have hd' : (match d with | .int _ => true | _ => false) = false := by cases d <;> first | rfl | exact (hd _ rfl).elim
  subst h0
  subst hvs
  subst hs
  simp [Builtin.append_, run_underlying hst, run_underlying hxt, sizeOf, typeInfo, hi, hm4, hnc, hnew]
  cases base <;> simp [storeCells]

/-- An append that fits. -/
theorem append_fits {st xt e : TypeId} {i : TypeInfo} {d : TypeDesc} (ty : TypeId)
    (hst : P.underlying st = some (.slice e)) (hi : P.info? e = some i) (hxt : P.underlying xt = some d) (hd : ∀ k, d ≠ .int k)
    {b o n c m : Nat} {x : Value} {vs : List Value} {w' : World} (hm4 : (Builtin.lenOf x).run P w = .ok m w) (hnew : (Builtin.firstCells i.size m x).run P w = .ok ⟨vs⟩ w)
    (hfit : n + m ≤ c) (hst' : (storeCells ⟨b, o + n * i.size, none⟩ vs).run P w = .ok () w') :
    (Builtin.append_ #[st, xt] ty #[.slice (some ⟨b, o, none⟩) n c, x]).run P w = .ok (.slice (some ⟨b, o, none⟩) (n + m) c) w' := by
  have hd' : (match d with | .int _ => true | _ => false) = false := by cases d <;> first | rfl | exact (hd _ rfl).elim
  simp [Builtin.append_, run_underlying hst, run_underlying hxt, sizeOf, typeInfo, hi, hm4, hfit, hnew, addr_add, hst']

theorem good_append (r : Rel G B φ h w) (ht : VRelL φ t a.tmps.toList) {c : Call} (ho : o.op = .call c) {s x : Operand} {s' x' : O} {st xt e : TypeId} {i : TypeInfo} {z : Value} {d : TypeDesc}
    (hcal : c.callee = .builtin .append) (hargs : c.args = #[s, x]) (hat : c.argTypes = #[st, xt]) (hs : cO s = some s') (hx : cO x = some x')
    (hst : P.underlying st = some (.slice e)) (hi : P.info? e = some i) (hz : i.zero = some z) (hzs : z.cells.size = i.size) (hxt : P.underlying xt = some d) (hd : ∀ k, d ≠ .int k)
    (hr : appendOp h e i.size i.bytes (opd t s') (opd t x') = some res) : Good P G B φ h w (execOp a.eval o) res := by
  have hvs := eval_rel ht hs
  have hvx := eval_rel ht hx
  have hexec : ∀ u w', (Builtin.append_ #[st, xt] o.type #[a.eval s, a.eval x]).run P w = .ok u w' → (execOp a.eval o).run P w = .ok (.value u) w' := by
    intro u w' hu
    simp [execOp, ho, resolve, hcal, hargs, invoke, builtin, hat, hu]
  unfold appendOp at hr
  split at hr
  · cases hr
  · rename_i news hnews
    simp only [Bool.cond_eq_ite, Bool.or_eq_true, Bool.not_eq_true', forceN_eq, mkSl_eq, Nat.beq_eq] at hr
    split at hr
    · cases hr
    · rename_i hzc
      have hzpos : 0 < i.size := by
        rcases Nat.eq_zero_or_pos i.size with h' | h'
        · exact (hzc (.inl h')).elim
        · exact h'
      obtain ⟨m, vs, hm1, hm2, hm3, hm4, hm5⟩ := newsOf_rel (P := P) r hvx hnews hzpos
      have hmq : news.length / i.size = m := by rw [hm1]; exact Nat.mul_div_cancel _ hzpos
      rw [hmq] at hr
      have hvl : vs.length = m * i.size := by rw [← hm2.length]; exact hm1
      have hfull : (Builtin.firstCells i.size m (a.eval x)).run P w = .ok ⟨vs⟩ w := by
        have := hm5 m (Nat.le_refl _)
        rwa [List.take_of_length_le (by omega)] at this
      have hr' := r.drew (w.drawn + 1)
      obtain ⟨m', vs', gm1, gm2, gm3, gm4, gm5⟩ := newsOf_rel (P := P) hr' hvx hnews hzpos
      have hmm : m' = m := Nat.eq_of_mul_eq_mul_right hzpos (by rw [← gm1, ← hm1])
      subst hmm
      have hvl' : vs'.length = m' * i.size := by rw [← gm2.length]; exact hm1
      have hfull' : (Builtin.firstCells i.size m' (a.eval x)).run P { w with drawn := w.drawn + 1 } = .ok ⟨vs'⟩ { w with drawn := w.drawn + 1 } := by
        have := gm5 m' (Nat.le_refl _)
        rwa [List.take_of_length_le (by omega)] at this
      split at hr
      · -- nil
        rename_i es
        rw [es] at hvs
        simp only [VRel] at hvs
        split at hr
        · rename_i h0
          cases hr
          refine Good.val r (v := .slice none 0 0) (hexec _ _ ?_) (by simp only [VRel])
          rw [hvs]
          exact append_none o.type hst hi hxt hd hm4 hfull h0 (List.eq_nil_of_length_eq_zero (by rw [hvl, h0]; simp)) rfl (Nat.le_refl _)
        · rename_i h0
          split at hr
          · rename_i hroom
            cases hr
            rw [room_iff] at hroom
            obtain ⟨cap, cells, c1, c2, c3, c4⟩ := append_grow (w := w) (base := none) (n := 0) (c := 0) (old := #[]) o.type hst hi hz hzs hxt hd hm4 (by omega) (by simpa using hroom.1) (by simpa using hroom.2)
              (by simp [Builtin.firstCells]) hfull' (by simp) (by simpa using hvl')
            obtain ⟨rest, c3⟩ := c3
            obtain ⟨hx1, hrel⟩ := hr'.cells (ty := e) (wr := true) (fam := some (h.next, 0)) (c := cells) gm2 gm3 ⟨rest, by simpa using c3⟩ (fun e => by cases e) (FmOk.own rfl)
            refine ⟨.slice (some ⟨w.heap.size, 0, none⟩) (0 + m') cap, _, _, hexec _ _ (by rw [hvs]; exact c4), hx1, hrel, ?_, ?_⟩
            · simp only [VRel]
              exact ⟨_, _, cap, upd_self _ _ _, by simp, by simpa using c1, (fun e => by cases e), .inr ⟨rfl, by simp [c2]⟩⟩
            · exact Below.trans (b := { w with drawn := w.drawn + 1 }) ⟨rfl, rfl, rfl, Nat.le_refl _, fun _ _ => rfl⟩ (Below.push _ r.bsz)
          · cases hr
      · rename_i b k n z' ex es
        rw [es] at hvs
        have hvs0 := hvs
        simp only [VRel] at hvs
        obtain ⟨q, ad, c, hq, hv, hnc, hexc, hor⟩ := hvs
        split at hr
        · cases hr
        rename_i hzz
        have hzz' : z' = i.size := by simpa using hzz
        subst hzz'
        split at hr
        · rename_i h0
          cases hr
          refine Good.val r (hexec _ _ ?_) (es ▸ hvs0)
          rw [hv]
          exact append_none o.type hst hi hxt hd hm4 hfull h0 (List.eq_nil_of_length_eq_zero (by rw [hvl, h0]; simp)) rfl hnc
        rename_i h0
        split at hr
        · cases hr
        rename_i hroom
        have hroom' : room (n + m') i.bytes = true := by simpa using hroom
        rw [room_iff] at hroom'
        split at hr
        · cases hr
        rename_i old hold
        obtain ⟨ol1, ous, ol2, ol3, ol4, ol5, _⟩ := rowOf_rel hr' hold hq
        have holds : (Builtin.firstCells i.size n (.slice (some ad) n c)).run P { w with drawn := w.drawn + 1 } = .ok ⟨ous⟩ { w with drawn := w.drawn + 1 } := by
          rcases hor with h' | ⟨h', _⟩
          · have hn0 : n = 0 := by omega
            subst hn0
            have : ous = [] := List.eq_nil_of_length_eq_zero (by simpa using ol2)
            subst this
            simp [Builtin.firstCells, loadCells, loadCellsFrom]
          · have := run_loadCells_at (P := P) (w := { w with drawn := w.drawn + 1 }) ad (by rw [h']) ous (fun j u hu => by rw [h']; exact ol5 j u hu)
            rw [ol2] at this
            simpa [Builtin.firstCells] using this
        have hol1 : allOne old = true := by unfold allOne; rw [List.all_eq_true]; exact ol4
        have hall : allOne (old ++ news) = true := by
          unfold allOne at *
          rw [List.all_append, hol1, hm3]; rfl
        -- a new row
        have grow : ∀ fm : Tr (List Nat), ∀ fam : Nat × Nat, c < n + m' → FmOk h (.cells e true (some fam) (old ++ news)) fm →
            Good P G B φ h w (execOp a.eval o) (.v (.sl h.next 0 (n + m') i.size false) { (h.new (.cells e true (some fam) (old ++ news))) with fm := fm }) := by
          intro fm fam hlt hfm
          obtain ⟨cap, cells, c1, c2, c3, c4⟩ := append_grow (w := w) (base := some ad) (n := n) (c := c) (old := ⟨ous⟩) o.type hst hi hz hzs hxt hd hm4 hlt hroom'.1 hroom'.2
            holds hfull' (by simpa using ol2) (by simpa using hvl')
          obtain ⟨rest, c3⟩ := c3
          obtain ⟨hx1, hrel⟩ := hr'.cells (ty := e) (wr := true) (fam := some fam) (c := cells) (ol3.append gm2) hall ⟨rest, by simpa using c3⟩ (fun e => by cases e) hfm
          refine ⟨.slice (some ⟨w.heap.size, 0, none⟩) (n + m') cap, _, _, hexec _ _ (by rw [hv]; exact c4), hx1, hrel, ?_, ?_⟩
          · simp only [VRel]
            exact ⟨_, _, cap, upd_self _ _ _, by simp, by simpa using c1, (fun e => by cases e), .inr ⟨rfl, by simp [c2]⟩⟩
          · exact Below.trans (b := { w with drawn := w.drawn + 1 }) ⟨rfl, rfl, rfl, Nat.le_refl _, fun _ _ => rfl⟩ (Below.push _ r.bsz)
        split at hr
        · rename_i hexx
          cases hr
          have := hexc hexx
          exact grow _ _ (by omega) (FmOk.own rfl)
        · split at hr
          · rename_i ty' f p lb hb
            split at hr
            · rename_i hty
              subst hty
              cases hr
              by_cases hfit : n + m' ≤ c
              · -- it fits
                have hmpos : 0 < m' := by omega
                rcases hor with h' | ⟨h', hcap⟩
                · omega
                · have hmul : n * i.size + m' * i.size ≤ c * i.size := by rw [← Nat.add_mul]; exact Nat.mul_le_mul_right _ hfit
                  obtain ⟨w', hrun, hbel, hx1, hrel⟩ := grow_rel (P := P) (n := n * i.size) (m := m' * i.size) r hb hq hold hm2 hm3 hvl (Nat.mul_pos hmpos hzpos) (by omega)
                  refine ⟨.slice (some ad) (n + m') c, w', _, hexec _ _ ?_, hx1, hrel, ?_, hbel⟩
                  · rw [hv, h']
                    exact append_fits o.type hst hi hxt hd hm4 hfull hfit hrun
                  · simp only [VRel]
                    exact ⟨_, _, c, upd_self _ _ _, rfl, hfit, (fun e => by cases e), .inr ⟨by rw [h']; simp, by simp only; omega⟩⟩
              · -- it does not
                have hwk : Weaker h (killL h.next (p + k + n * i.size) news.length ((h.fm.get f).getD []) h) := killL_weaker _ _ _ _ _
                generalize killL h.next (p + k + n * i.size) news.length ((h.fm.get f).getD []) h = h1 at hwk
                have r1 := hr'.weaken hwk
                obtain ⟨hflt, ms, hms, _⟩ := r.fams b _ f p hb rfl
                rw [hms, Option.getD_some, ← hwk.next]
                obtain ⟨cap, cells, c1, c2, c3, c4⟩ := append_grow (w := w) (base := some ad) (n := n) (c := c) (old := ⟨ous⟩) o.type hst hi hz hzs hxt hd hm4 (by omega) hroom'.1 hroom'.2
                  holds hfull' (by simpa using ol2) (by simpa using hvl')
                obtain ⟨rest, c3⟩ := c3
                obtain ⟨hx1, hrel⟩ := r1.cells (ty := ty') (wr := true) (fam := some (f, p + k)) (c := cells) (ol3.append gm2) hall ⟨rest, by simpa using c3⟩ (fun e => by cases e)
                  (FmOk.more (f := f) (p := p + k) (ms := ms) rfl (by rw [hwk.next]; exact hflt) (by rw [hwk.fm]; exact hms))
                refine ⟨.slice (some ⟨w.heap.size, 0, none⟩) (n + m') cap, _, _, hexec _ _ (by rw [hv]; exact c4), ⟨hx1.1, fun b hb => hx1.2 b (by rw [hwk.next]; exact hb)⟩, hrel, ?_, ?_⟩
                · simp only [VRel]
                  exact ⟨_, _, cap, upd_self _ _ _, by simp, by simpa using c1, (fun e => by cases e), .inr ⟨rfl, by simp [c2]⟩⟩
                · exact Below.trans (b := { w with drawn := w.drawn + 1 }) ⟨rfl, rfl, rfl, Nat.le_refl _, fun _ _ => rfl⟩ (Below.push _ r.bsz)
            · cases hr
          · cases hr
      · cases hr

end
end Go.Sim
