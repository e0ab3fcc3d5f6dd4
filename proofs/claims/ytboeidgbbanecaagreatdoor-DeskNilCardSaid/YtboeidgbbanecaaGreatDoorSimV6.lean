/- Operations, tenth part: conversions. -/
import Derived.Test.YtboeidgbbanecaaGreatDoorSimV5
import Derived.Lib.ConvBytes
namespace Go.Sim
open Go.RowKit

section
variable {P : Program} {G : Gl} {B : Nat} {φ : Phi} {h : H} {w : World} {t : List V} {a : Act} {o : Oper} {op : AOp} {res : OR}

theorem natsOf_push (s : ByteArray) (b : UInt8) : natsOf (s.push b) = natsOf s ++ [b.toNat] := by
  unfold natsOf
  simp [ByteArray.push]

theorem strOfBytes_rel {φ : Phi} : ∀ {xs : List V} {vs : List Value} {l : List Nat}, VRelL φ xs vs → strOfBytes xs = some l →
    ∃ ns : List Int, vs = ns.map (Value.int .u8) ∧ ∀ s, natsOf (ns.foldl (fun r n => r.push (UInt8.ofNat n.toNat)) s) = natsOf s ++ l
  | [], vs, l, hv, hs => by
    simp only [VRelL] at hv
    subst hv
    simp only [strOfBytes, Option.some.injEq] at hs
    subst hs
    exact ⟨[], rfl, fun s => by simp⟩
  | x :: xs, vs, l, hv, hs => by
    simp only [VRelL] at hv
    obtain ⟨v, vs', rfl, h1, h2⟩ := hv
    unfold strOfBytes at hs
    split at hs
    · rename_i e; cases e
    · rename_i n rest e
      cases e
      split at hs
      · rename_i l' hl
        simp only [Bool.cond_eq_ite, forceN_eq] at hs
        split at hs <;> cases hs
        rename_i hin
        rw [inR_iff] at hin
        obtain ⟨ns, hns, hf⟩ := strOfBytes_rel h2 hl
        simp only [VRel] at h1
        refine ⟨n :: ns, by rw [h1, hns]; rfl, fun s => ?_⟩
        rw [List.foldl_cons, hf, natsOf_push, List.append_assoc]
        have : (UInt8.ofNat n.toNat).toNat = n.toNat := by
          rw [UInt8.toNat_ofNat']
          exact Nat.mod_eq_of_lt (by omega)
        rw [this]
        rfl
      · cases hs
    · cases hs

theorem convBS_good (r : Rel G B φ h w) {s d e : TypeId} {x : Operand} {y : O} (ho : o.op = .convert s d x) (hs : P.underlying s = some (.slice e)) (hd : P.underlying d = some .string) (he : P.underlying e = some (.int .u8))
    (hx : VRel φ (opd t y) (a.eval x)) (hr : runOp G (opd t) h (.convBS y) = some res) : Good P G B φ h w (execOp a.eval o) res := by
  simp only [runOp, opConvBS] at hr
  split at hr
  · rename_i e1
    cases hr
    rw [e1] at hx
    simp only [VRel] at hx
    refine Good.val r (v := .string .empty) ?_ (by simp only [VRel]; exact ⟨_, rfl, rfl⟩)
    simp [execOp, ho, hx, run_convert_bytes_string w s d e _ _ _ hs he hd, Conv.bytesToString]
  · rename_i b k n z ex e1
    simp only [Bool.cond_eq_ite, Nat.beq_eq] at hr
    split at hr
    rotate_left
    · cases hr
    rename_i hz
    subst hz
    split at hr
    rotate_left
    · cases hr
    rename_i l hl
    rw [Option.map_eq_some_iff] at hr
    obtain ⟨str, hstr, rfl⟩ := hr
    have hn : newsOf h 1 (.sl b k n 1 ex) = some l := by
      simp [newsOf, hl]
    obtain ⟨m, vs, hm1, hm2, hm3, hm4, hm5⟩ := newsOf_rel (P := P) r (e1 ▸ hx) hn (by omega)
    rw [e1] at hx
    simp only [VRel] at hx
    obtain ⟨q, ad, c, hq, hv, hnc, _, hor⟩ := hx
    have hmn : m = n := by
      rw [hv] at hm4
      simp [Builtin.lenOf] at hm4
      exact hm4.symm
    subst hmn
    have h5 := hm5 m (Nat.le_refl _)
    have hvl : vs.length = m := by rw [← hm2.length, hm1]; omega
    rw [hv, List.take_of_length_le (by omega)] at h5
    simp only [Builtin.firstCells, Nat.mul_one] at h5
    obtain ⟨ns, hns, hf⟩ := strOfBytes_rel hm2 hstr
    subst hns
    refine Good.val r (v := .string (ns.foldl (fun r n => r.push (UInt8.ofNat n.toNat)) ByteArray.empty)) ?_ (by simp only [VRel]; exact ⟨_, rfl, by rw [hf]; rfl⟩)
    simp [execOp, ho, hv, run_convert_bytes_string w s d e _ _ _ hs he hd, run_bytesToString w ad m c ns h5]
  · cases hr

theorem bytesWorld_eq (w : World) (e : TypeId) (s : ByteArray) :
    Lib.bytesWorld w e s = { w with drawn := w.drawn + 1, heap := w.heap.push (.cells (Lib.bytesCells w e s) e ((Lib.bytesCells w e s).size, (Lib.bytesCells w e s).size + 1)) } := by
  have hm : ∀ (a : Array Obj) (x : Obj) (f : Obj → Obj), (a.push x).modify a.size f = a.push (f x) := by
    intro a x f
    apply Array.ext
    · simp
    · intro i h1 h2
      simp only [Array.getElem_modify, Array.getElem_push]
      by_cases h : a.size = i
      · subst h
        simp
      · have hi : i < a.size := by simp at h1; omega
        simp [h, hi]
  unfold Lib.bytesWorld World.freeze
  rw [if_neg (by decide)]
  show ({ w.drew.alloc (.cells (Lib.bytesCells w e s) e) with heap := (w.heap.push (.cells (Lib.bytesCells w e s) e)).modify w.heap.size _ } : World) = _
  rw [hm]
  rfl

theorem convSB_good (r : Rel G B φ h w) {s d e : TypeId} {x : Operand} {y : O} (ho : o.op = .convert s d x) (hs : P.underlying s = some .string) (hd : P.underlying d = some (.slice e)) (he : P.underlying e = some (.int .u8))
    (hx : VRel φ (opd t y) (a.eval x)) (hr : runOp G (opd t) h (.convSB e y) = some res) : Good P G B φ h w (execOp a.eval o) res := by
  simp only [runOp, opConvSB, Bool.cond_eq_ite, mkSl_eq] at hr
  split at hr
  rotate_left
  · cases hr
  rename_i l e1
  split at hr <;> cases hr
  rename_i hroom
  rw [room_iff] at hroom
  rw [e1] at hx
  simp only [VRel] at hx
  obtain ⟨str, hv, hstr⟩ := hx
  have hsz := natsOf_length hstr
  have hW := bytesWorld_eq w e str
  have hcap : str.size ≤ grownCap w str.size 0 e := grownCap_ge w str.size 0 e
  have hCl : (Lib.bytesCells w e str).size = grownCap w str.size 0 e := by
    simp only [Lib.bytesCells, Array.size_append, Array.size_map, Array.size_replicate]
    have : str.data.size = str.size := rfl
    omega
  have hr' := r.drew (w.drawn + 1)
  have hblk : BlkOk (upd φ h.next ⟨w.heap.size, 0, (Lib.bytesCells w e str).size⟩) (.cells e true (some (h.next, 0)) (bytesOf l)) ⟨w.heap.size, 0, (Lib.bytesCells w e str).size⟩
      { w with drawn := w.drawn + 1, heap := w.heap.push (.cells (Lib.bytesCells w e str) e ((Lib.bytesCells w e str).size, (Lib.bytesCells w e str).size + 1)) } := by
    refine ⟨Lib.bytesCells w e str, (Lib.bytesCells w e str).size, (Lib.bytesCells w e str).size + 1, ?_, rfl, ?_, Nat.zero_le _, fun i x hx => ?_, fun _ j _ h1 h2 => ?_⟩
    · show (w.heap.push _)[w.heap.size]? = _
      simp
    · simp only [bytesOf_length]
      omega
    · obtain ⟨v, h1, h2⟩ := (bytesOf_rel (φ := upd φ h.next ⟨w.heap.size, 0, (Lib.bytesCells w e str).size⟩) hstr).get hx
      refine ⟨v, ?_, h2, ?_⟩
      · simp only [Nat.zero_add, Lib.bytesCells]
        rw [Array.getElem?_toList] at h1
        have hlt : i < (str.data.map fun b => Value.int .u8 b.toNat).size := by
          rcases Nat.lt_or_ge i (str.data.map fun b => Value.int .u8 b.toNat).size with h' | h'
          · exact h'
          · rw [Array.getElem?_eq_none h'] at h1; cases h1
        rw [Array.getElem?_append_left hlt]
        exact h1
      · have := bytesOf_one l
        unfold allOne at this
        rw [List.all_eq_true] at this
        exact this x (List.mem_of_getElem? hx)
    · simp only at h1 h2
      omega
  obtain ⟨hx1, hrel⟩ := hr'.new (.cells e true (some (h.next, 0)) (bytesOf l)) (h.fm.set h.next [h.next]) (FmOk.own rfl) hblk
  refine ⟨.slice (some ⟨w.heap.size, 0, none⟩) str.size (grownCap w str.size 0 e), _, _, ?_, hx1, hrel, ?_, ?_⟩
  · simp only [execOp, ho, Sem.run_bind, hv, Lib.run_convert_string_bytes w s d e str hs hd he, hW]
    rfl
  · simp only [VRel]
    refine ⟨_, ⟨w.heap.size, 0, none⟩, grownCap w str.size 0 e, upd_self _ _ _, by rw [← hsz], by omega, (fun e => by cases e), .inr ⟨rfl, ?_⟩⟩
    simp only
    omega
  · exact Below.trans (b := { w with drawn := w.drawn + 1 }) ⟨rfl, rfl, rfl, Nat.le_refl _, fun _ _ => rfl⟩ (Below.push _ r.bsz)

theorem World.shape_cells {w : World} {b : Nat} {c : Array Value} {ty lo hi : Nat} (hb : w.heap[b]? = some (.cells c ty (lo, hi))) : w.shape? b = some (ty, c.size) := by
  unfold World.shape?; rw [hb]

theorem convUP_good (r : Rel G B φ h w) {s d pt n : TypeId} {x : Operand} {y : O} (ho : o.op = .convert s d x) (hs : P.underlying s = some (.pointer pt)) (hd : P.underlying d = some .unsafePointer) (hn : sizeT P pt = some (n + 1))
    (hx : VRel φ (opd t y) (a.eval x)) (hr : runOp G (opd t) h (.convUP y) = some res) : Good P G B φ h w (execOp a.eval o) res := by
  simp only [runOp, opConvUP] at hr
  split at hr
  · rename_i e1
    cases hr
    rw [e1] at hx
    simp only [VRel] at hx
    refine Good.val r (v := .pointer none) ?_ (by simp only [VRel])
    simp [execOp, ho, hx, Go.convert, run_underlying hs, run_underlying hd, Conv.unsafePointer]
  · rename_i b k e1
    rw [e1] at hx
    have hx0 := hx
    simp only [VRel] at hx
    obtain ⟨q, hq, hv⟩ := hx
    split at hr
    rotate_left
    · cases hr
    rename_i l hl
    cases hr
    obtain ⟨_, _, _, _, _, _, ty, wr, fam, cs, hg, hlen⟩ := rowOf_rel r hl hq
    obtain ⟨c, lo, hi, h1, h2, h3, _⟩ := r.blk b _ q hg hq
    refine Good.val r (v := .pointer (some ⟨q.b, q.o + k, none⟩)) ?_ (by simp only [VRel]; exact ⟨q, hq, rfl⟩)
    have hsh := World.shape_cells h1
    have hlt : ¬ c.size ≤ q.o + k := by omega
    simp [execOp, ho, hv, Go.convert, run_underlying hs, run_underlying hd, Conv.unsafePointer, Conv.seenAt, viewAt, hsh, cellsIn, run_sizeOf_of hn, hlt]
  · cases hr

theorem convPU_good (r : Rel G B φ h w) {s d u n : TypeId} {x : Operand} {y : O} (ho : o.op = .convert s d x) (hs : P.underlying s = some .unsafePointer) (hd : P.underlying d = some (.pointer u)) (hn : sizeT P u = some (n + 1))
    (hx : VRel φ (opd t y) (a.eval x)) (hr : runOp G (opd t) h (.convPU u (n + 1) y) = some res) : Good P G B φ h w (execOp a.eval o) res := by
  simp only [runOp, opConvPU, Bool.cond_eq_ite, Nat.beq_eq, Bool.and_eq_true] at hr
  split at hr
  · rename_i e1
    cases hr
    rw [e1] at hx
    simp only [VRel] at hx
    refine Good.val r (v := .pointer none) ?_ (by simp only [VRel])
    simp [execOp, ho, hx, Go.convert, run_underlying hs, run_underlying hd, Conv.unsafePointer]
  · rename_i b k e1
    rw [e1] at hx
    simp only [VRel] at hx
    obtain ⟨q, hq, hv⟩ := hx
    split at hr
    rotate_left
    · cases hr
    rename_i hk
    subst hk
    split at hr
    rotate_left
    · cases hr
    rename_i ty wr l hg
    split at hr <;> cases hr
    rename_i hcond
    obtain ⟨rfl, hlen⟩ := hcond
    obtain ⟨c, lo, hi, h1, h2, h3, h4, _⟩ := r.blk b _ q hg hq
    simp only [FamOk] at h4
    obtain ⟨ho0, hnl⟩ := h4
    refine Good.val r (v := .pointer (some ⟨q.b, q.o + 0, none⟩)) ?_ (by simp only [VRel]; exact ⟨q, hq, rfl⟩)
    have hsh := World.shape_cells h1
    have hcs : c.size = n + 1 := by omega
    have hcell : P.cellsOf ty = n + 1 := by
      unfold sizeT at hn
      rw [Option.map_eq_some_iff] at hn
      obtain ⟨i, hi, hi2⟩ := hn
      simp [Program.cellsOf, hi, hi2]
    have hlies : liesAt P P.depth ty ((n + 1) / (n + 1)) 0 ty 1 = true := by
      have hd : P.depth = (2 * (P.types.size + Made.depth) + 1) + 1 := rfl
      rw [hd]
      simp only [liesAt, Bool.or_eq_true]
      left
      rw [hd]
      simp [rowAt, hcell, sameLayout]
    rw [Nat.div_self (Nat.succ_pos n)] at hlies
    simp [execOp, ho, hv, Go.convert, run_underlying hs, run_underlying hd, Conv.unsafePointer, Conv.seenAt, viewAt, hsh, run_sizeOf_of hn, variablesAt, hcs, hcell, ho0, hlies]
  · cases hr

theorem good_convert (r : Rel G B φ h w) (ht : VRelL φ t a.tmps.toList) {s d : TypeId} {x : Operand} (ho : o.op = .convert s d x)
    (hc : cOp P (.convert s d x) = some op) (hr : runOp G (opd t) h op = some res) : Good P G B φ h w (execOp a.eval o) res := by
  simp only [cOp, bind, Option.bind_eq_some_iff] at hc
  obtain ⟨y, hy, hc⟩ := hc
  have hx := eval_rel ht hy
  split at hc
  · -- integers
    rename_i k0 k hs hd
    cases hc
    simp only [runOp, opConvI] at hr
    split at hr
    · rename_i k1 n e
      simp only [mkI, forceI_eq, Option.map_some, Option.some.injEq] at hr
      subst hr
      rw [e] at hx
      simp only [VRel] at hx
      exact Good.val r (v := .int k (k.wrap n)) (by simp [execOp, ho, Go.convert, run_underlying hs, run_underlying hd, hx, Conv.intToInt]) (by simp only [VRel, wrapK_eq])
    · cases hr
  · -- texts
    rename_i hs hd
    cases hc
    simp only [runOp, opConvSS] at hr
    split at hr
    · rename_i l e
      cases hr
      rw [e] at hx
      have hx' := hx
      simp only [VRel] at hx
      obtain ⟨bs, hv, hb⟩ := hx
      exact Good.val r (v := a.eval x) (by simp [execOp, ho, Go.convert, run_underlying hs, run_underlying hd, hv]) hx'
    · cases hr
  · rename_i e hs hd
    split at hc <;> cases hc
    rename_i he
    exact convBS_good r ho hs hd he hx hr
  · rename_i e hs hd
    split at hc <;> cases hc
    rename_i he
    exact convSB_good r ho hs hd he hx hr
  · rename_i pt hs hd
    split at hc <;> cases hc
    rename_i n hn
    exact convUP_good r ho hs hd hn hx hr
  · rename_i u hs hd
    split at hc <;> cases hc
    rename_i n hn
    exact convPU_good r ho hs hd hn hx hr
  · cases hc

end
end Go.Sim
