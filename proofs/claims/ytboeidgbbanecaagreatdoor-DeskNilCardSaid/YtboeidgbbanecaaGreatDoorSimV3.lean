/- Operations, seventh part: rows made with a length, maps, assertions, comparisons, len, cap, copy, calls. -/
import Derived.Test.YtboeidgbbanecaaGreatDoorSimV2
import Derived.Laws.MakeOwn
namespace Go.Sim
open Go.RowKit

section
variable {P : Program} {G : Gl} {B : Nat} {φ : Phi} {h : H} {w : World} {t : List V} {a : Act} {o : Oper} {op : AOp} {res : OR}

theorem good_typeAssert (r : Rel G B φ h w) (ht : VRelL φ t a.tmps.toList) {x : Operand} {xt ty : TypeId} {ok : Bool} (ho : o.op = .typeAssert x xt ty ok)
    (hc : cOp P (.typeAssert x xt ty ok) = some op) (hr : runOp G (opd t) h op = some res) : Good P G B φ h w (execOp a.eval o) res := by
  simp only [cOp] at hc
  split at hc
  · cases hc
  · rename_i d hne hu
    simp only [bind, Option.bind_eq_some_iff] at hc
    obtain ⟨z, hz, y, hy, hc⟩ := hc
    cases hc
    have hx := eval_rel ht hy
    obtain ⟨zv, hzrun, hzv, _⟩ := run_zero_of (P := P) (w := w) hz
    have hzr := toV_rel φ hzv
    have hd : ∀ ms, d ≠ .interface ms := fun ms e => hne ms e
    simp only [runOp, opAssert, Bool.cond_eq_ite, Nat.beq_eq] at hr
    have hrun : ∀ v, a.eval x = v → (execOp a.eval o).run P w = ((Instr.typeAssert v xt ty ok).run P w).andThen fun u w' => .ok (.value u) w' := by
      intro v hv
      simp [execOp, ho, hv]
    split at hr
    · rename_i u v e
      rw [e] at hx
      simp only [VRel] at hx
      obtain ⟨yv, hv, hyv⟩ := hx
      split at hr
      · rename_i hut
        subst hut
        cases hr
        cases ok with
        | true =>
          refine Good.val r (v := .tuple #[yv, .bool true]) ?_ (by simp only; exact ⟨_, rfl, _, _, rfl, hyv, _, _, rfl, rfl, rfl⟩)
          rw [hrun _ hv]
          simp only [Instr.typeAssert, Sem.run_bind, run_underlying hu, Result.andThen_ok]
          cases d <;> first | exact (hd _ rfl).elim | simp
        | false =>
          refine Good.val r (v := yv) ?_ (by simpa using hyv)
          rw [hrun _ hv]
          simp only [Instr.typeAssert, Sem.run_bind, run_underlying hu, Result.andThen_ok]
          cases d <;> first | exact (hd _ rfl).elim | simp
      · rename_i hut
        split at hr
        · rename_i hok
          subst hok
          cases hr
          refine Good.val r (v := .tuple #[zv, .bool false]) ?_ (by simp only [VRel, VRelL]; exact ⟨_, rfl, _, _, rfl, hzr, _, _, rfl, rfl, rfl⟩)
          rw [hrun _ hv]
          simp only [Instr.typeAssert, Sem.run_bind, run_underlying hu, Result.andThen_ok]
          cases d <;> first | exact (hd _ rfl).elim | simp [hut, hzrun]
        · cases hr
    · rename_i e
      rw [e] at hx
      simp only [VRel] at hx
      split at hr
      · rename_i hok
        subst hok
        cases hr
        refine Good.val r (v := .tuple #[zv, .bool false]) ?_ (by simp only [VRel, VRelL]; exact ⟨_, rfl, _, _, rfl, hzr, _, _, rfl, rfl, rfl⟩)
        rw [hrun _ hx]
        simp only [Instr.typeAssert, Sem.run_bind, run_underlying hu, Result.andThen_ok]
        cases d <;> first | exact (hd _ rfl).elim | simp [hzrun]
      · cases hr
    · cases hr
  · cases hc

theorem good_makeSlice (r : Rel G B φ h w) (ht : VRelL φ t a.tmps.toList) {ty : TypeId} {x y : Operand} (ho : o.op = .makeSlice ty x y)
    (hc : cOp P (.makeSlice ty x y) = some op) (hr : runOp G (opd t) h op = some res) : Good P G B φ h w (execOp a.eval o) res := by
  simp only [cOp, bind, Option.bind_eq_some_iff] at hc
  obtain ⟨e, he, i, hi, z, hz, hc⟩ := hc
  have hu := sliceElem_spec he
  obtain ⟨zv, hzrun, hzv, i', hi', hiz⟩ := run_zero_of (P := P) (w := w) hz
  rw [hi] at hi'
  cases hi'
  have hzc := (toV_rel φ hzv).cells
  split at hc
  · rename_i h1
    simp only [Option.bind_eq_some_iff] at hc
    obtain ⟨x', hx', y', hy', hc⟩ := hc
    cases hc
    have hx := eval_rel ht hx'
    have hy := eval_rel ht hy'
    simp only [runOp, opMkslice] at hr
    split at hr
    · rename_i l c e1 e2
      rw [e1] at hx
      rw [e2] at hy
      simp only [VRel] at hx hy
      simp only [Bool.cond_eq_ite, Bool.and_eq_true, Nat.ble_eq, Nat.beq_eq, Nat.blt_eq, room_iff, mkSl_eq] at hr
      split at hr
      · rename_i hcond
        obtain ⟨⟨⟨⟨hlc, hroom, hmax⟩, hzl⟩, hpos⟩, _⟩ := hcond
        have hzsz : zv.cells.size = i.size := by have := hzc.length; simp only [Array.length_toList] at this; omega
        have hzr := zeros_rel hzc (by omega) c
        rw [hzsz] at hzr
        have hsz : (madeCells zv.cells (c * i.size)).size = c * i.size := by simp [madeCells]
        have hzr : VRelL φ (reps z.cells c) (madeCells zv.cells (c * i.size)).toList := by
          unfold madeCells
          rw [hzsz]
          exact hzr
        generalize hcells : madeCells zv.cells (c * i.size) = cells at hzr hsz
        have hrun : (execOp a.eval o).run P w = .ok (.value (.slice (some ⟨w.heap.size, 0, none⟩) l c)) { w with heap := w.heap.push (.cells cells e) } := by
          have hb : (i.bytes : Int) * (Int.ofNat c) ≤ 281474976710656 := by
            have : (c * i.bytes : Nat) ≤ 140737488355328 := hroom
            have h2 : ((i.bytes : Int) * (Int.ofNat c)) = ((c * i.bytes : Nat) : Int) := by simp [Int.mul_comm]
            omega
          have hm := run_make (P := P) w ty e i zv hu hi hiz .i64 .i64 (Int.ofNat l) (Int.ofNat c) (Int.natCast_nonneg l) (Int.ofNat_le.2 hlc) hb (by simp only [Int.ofNat_eq_natCast]; omega)
          simp only [execOp, ho, hx, hy, Sem.run_bind, hm, Result.andThen_ok, Sem.run_pure]
          rw [← hcells]
          rfl
        split at hr
        · rename_i hlc'
          subst hlc'
          cases hr
          obtain ⟨hx1, hrel⟩ := r.var (ty := e) (c := cells) hzr (reps_one h1 l)
          refine ⟨_, _, _, hrun, hx1, hrel, ?_, Below.push _ r.bsz⟩
          simp only [VRel]
          exact ⟨_, _, l, upd_self _ _ _, rfl, Nat.le_refl _, fun _ => rfl, .inr ⟨rfl, by simp [hsz]⟩⟩
        · cases hr
          obtain ⟨hx1, hrel⟩ := r.cells (ty := e) (wr := true) (fam := some (h.next, 0)) (c := cells) hzr (reps_one h1 c) ⟨[], by simp⟩ (fun e => by cases e) (FmOk.own rfl)
          refine ⟨_, _, _, hrun, hx1, hrel, ?_, Below.push _ r.bsz⟩
          simp only [VRel]
          exact ⟨_, _, c, upd_self _ _ _, rfl, hlc, (fun e => by cases e), .inr ⟨rfl, by simp [hsz]⟩⟩
      · cases hr
    · cases hr
  · cases hc

end
end Go.Sim
