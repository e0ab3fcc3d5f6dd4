/- Every operation that the machine runs is sound. -/
import Derived.Test.YtboeidgbbanecaaGreatDoorSimV7
import Derived.Test.YtboeidgbbanecaaGreatDoorSimV8
import Derived.Test.YtboeidgbbanecaaGreatDoorSimV9
namespace Go.Sim
open Go.RowKit

section
variable {P : Program} {G : Gl} {B : Nat} {φ : Phi} {h : H} {w : World} {t : List V} {a : Act} {o : Oper} {op : AOp} {res : OR}

theorem cOs_one {xs : List Operand} {x' : O} (hc : cOs xs = some [x']) : ∃ x, xs = [x] ∧ cO x = some x' := by
  cases xs with
  | nil => simp [cOs] at hc
  | cons x xs =>
    simp only [cOs] at hc
    split at hc <;> cases hc
    rename_i y ys h1 h2
    cases xs with
    | nil => exact ⟨x, rfl, h1⟩
    | cons z zs => simp only [cOs] at h2; split at h2 <;> cases h2

theorem cOs_two {xs : List Operand} {x' y' : O} (hc : cOs xs = some [x', y']) : ∃ x y, xs = [x, y] ∧ cO x = some x' ∧ cO y = some y' := by
  cases xs with
  | nil => simp [cOs] at hc
  | cons x xs =>
    simp only [cOs] at hc
    split at hc <;> cases hc
    rename_i h1 h2
    obtain ⟨y, rfl, h3⟩ := cOs_one h2
    exact ⟨x, y, rfl, h1, h3⟩

theorem good_binOp (r : Rel G B φ h w) (ht : VRelL φ t a.tmps.toList) {b : BinOp} {ty ty' : TypeId} {x y : Operand} (ho : o.op = .binOp b ty x y ty')
    (hc : cOp P (.binOp b ty x y ty') = some op) (hr : runOp G (opd t) h op = some res) : Good P G B φ h w (execOp a.eval o) res := by
  simp only [cOp, bind, Option.bind_eq_some_iff] at hc
  obtain ⟨x', hx, y', hy, hc⟩ := hc
  split at hc
  · cases hc; exact good_bin r ht ho hx hy hr
  · cases hc; exact good_bin r ht ho hx hy hr
  · rename_i d _ _ hd
    simp only [Option.bind_eq_some_iff] at hc
    obtain ⟨kd, hk, ks, hks, hc⟩ := hc
    split at hc
    · cases hc; exact good_eqv r ht ho rfl hx hy hd hk hks hr
    · cases hc; exact good_eqv r ht ho rfl hx hy hd hk hks hr
    · cases hc
  · cases hc

theorem good_call (r : Rel G B φ h w) (ht : VRelL φ t a.tmps.toList) {c : Call} (ho : o.op = .call c)
    (hc : cOp P (.call c) = some op) (hr : runOp G (opd t) h op = some res) : Good P G B φ h w (execOp a.eval o) res := by
  simp only [cOp, bind, Option.bind_eq_some_iff] at hc
  obtain ⟨xs, hxs, hc⟩ := hc
  split at hc
  · rename_i f hcal
    cases hc
    simp only [runOp, Option.some.injEq] at hr
    subst hr
    exact good_callf ht ho hcal hxs
  · rename_i x _ hcal
    simp only [Option.bind_eq_some_iff] at hc
    obtain ⟨x', hx, hc⟩ := hc
    cases hc
    exact good_callv ht ho hcal hx hxs hr
  · rename_i hcal
    split at hc
    rotate_left
    · cases hc
    rename_i st xt s x hat
    obtain ⟨s', x', harg, hs, hx⟩ := cOs_two hxs
    simp only [Option.bind_eq_some_iff] at hc
    obtain ⟨e, he, i, hi, z, hz, hc⟩ := hc
    split at hc
    · cases hc
    rename_i hsz
    have hsz' : z.cells.size = i.size := Classical.not_not.1 hsz
    split at hc
    · cases hc
      exact good_append r ht ho hcal (arr_of harg) (arr_of hat) hs hx (sliceElem_spec he) hi hz hsz' (by assumption) (fun k e => by cases e) hr
    · cases hc
      exact good_append r ht ho hcal (arr_of harg) (arr_of hat) hs hx (sliceElem_spec he) hi hz hsz' (by assumption) (fun k e => by cases e) hr
    · cases hc
  · rename_i hcal
    split at hc
    rotate_left
    · cases hc
    rename_i xt x hat
    obtain ⟨x', harg, hx⟩ := cOs_one hxs
    split at hc <;> cases hc
    · rename_i hd; exact good_len r ht ho hcal (arr_of harg) (arr_of hat) hx hd (show lenKind 0 _ from rfl) hr
    · rename_i hd; exact good_len r ht ho hcal (arr_of harg) (arr_of hat) hx hd (show lenKind 1 _ from ⟨_, rfl⟩) hr
    · rename_i hd; exact good_len r ht ho hcal (arr_of harg) (arr_of hat) hx hd (show lenKind 2 _ from ⟨_, _, rfl⟩) hr
  · split at hc <;> cases hc
    cases hr
  · rename_i hcal
    split at hc
    rotate_left
    · cases hc
    rename_i xt x hat
    obtain ⟨x', harg, hx⟩ := cOs_one hxs
    split at hc <;> cases hc
    rename_i hd
    exact good_cap r ht ho hcal (arr_of harg) (arr_of hat) hx hd hr
  · rename_i hcal
    split at hc <;> cases hc
    obtain ⟨x', harg, hx⟩ := cOs_one hxs
    exact good_sdata r ht ho hcal (arr_of harg) hx hr
  · rename_i hcal
    split at hc
    rotate_left
    · cases hc
    rename_i pt it p n hat
    obtain ⟨p', n', harg, hp, hn⟩ := cOs_two hxs
    split at hc
    rotate_left
    · cases hc
    rename_i e hpt
    split at hc
    rotate_left
    · cases hc
    split at hc <;> cases hc
    rename_i hce
    exact good_ustr r ht ho hcal (arr_of harg) (arr_of hat) hp hn hpt hce hr
  · rename_i hcal
    split at hc
    rotate_left
    · cases hc
    rename_i dt st d s hat
    obtain ⟨d', s', harg, hd, hs⟩ := cOs_two hxs
    simp only [Option.bind_eq_some_iff] at hc
    obtain ⟨e, he, n, hn, hc⟩ := hc
    split at hc <;> cases hc
    rename_i hn0
    exact good_copy r ht ho hcal (arr_of harg) (arr_of hat) hd hs (sliceElem_spec he) hn (Nat.pos_of_ne_zero hn0) hr
  · rename_i hcal
    split at hc <;> cases hc
    obtain ⟨x, y, harg, hx, hy⟩ := cOs_two hxs
    exact good_mm r ht ho (.inl ⟨hcal, rfl⟩) (arr_of harg) hx hy hr
  · rename_i hcal
    split at hc <;> cases hc
    obtain ⟨x, y, harg, hx, hy⟩ := cOs_two hxs
    exact good_mm r ht ho (.inr ⟨hcal, rfl⟩) (arr_of harg) hx hy hr
  · rename_i hcal
    split at hc
    rotate_left
    · cases hc
    rename_i mt kt' m k hat
    obtain ⟨m', k', harg, hm, hk⟩ := cOs_two hxs
    split at hc
    rotate_left
    · cases hc
    rename_i kt e hu
    simp only [Option.bind_eq_some_iff] at hc
    obtain ⟨kd, hkd, hc⟩ := hc
    cases hc
    exact good_mdel r ht ho hcal (arr_of harg) (arr_of hat) hm hk hu hkd hr
  · cases hc

theorem runOp_good (r : Rel G B φ h w) (ht : VRelL φ t a.tmps.toList) (hc : cOp P o.op = some op) (hr : runOp G (opd t) h op = some res) : Good P G B φ h w (execOp a.eval o) res := by
  cases ho : o.op <;> rw [ho] at hc
  case move => exact good_move r ht (.inl ho) hc hr
  case assign => exact good_move r ht (.inr ho) hc hr
  case pick => exact good_pick r ht ho hc hr
  case alloc => exact good_alloc r ho hc hr
  case box => exact good_box r ht ho hc hr
  case build => exact good_build r ht ho hc hr
  case buildSlice => exact good_buildSlice r ht ho hc hr
  case load => exact good_load r ht ho hc hr
  case store => exact good_store r ht ho hc hr
  case nilCheck => exact good_nilCheck r ht ho hc hr
  case unOp => exact good_unOp r ht ho hc hr
  case binOp => exact good_binOp r ht ho hc hr
  case convert => exact good_convert r ht ho hc hr
  case makeInterface => exact good_makeInterface r ht ho hc hr
  case makeFunc => exact good_makeFunc r ht ho hc hr
  case makeMap => exact good_makeMap r ho hc hr
  case makeSlice => exact good_makeSlice r ht ho hc hr
  case slice => exact good_slice r ht ho hc hr
  case fieldAddr => exact good_fieldAddr r ht ho hc hr
  case field => exact good_field r ht ho hc hr
  case indexAddr => exact good_indexAddr r ht ho hc hr
  case index => exact good_index r ht ho hc hr
  case lookup => exact good_lookup r ht ho hc hr
  case mapUpdate => exact good_mapUpdate r ht (.inl ho) hc hr
  case insert => exact good_mapUpdate r ht (.inr ho) hc hr
  case range => exact good_range r ht ho hc hr
  case next => exact good_next r ht ho hc hr
  case typeAssert => exact good_typeAssert r ht ho hc hr
  case extract => exact good_extract r ht ho hc hr
  case panic => exact good_panic r ht ho hc hr
  case call => exact good_call r ht ho hc hr
  case defer c =>
    simp only [cOp, bind, Option.bind_eq_some_iff] at hc
    obtain ⟨xs, hxs, hc⟩ := hc
    split at hc
    · rename_i x hcal
      simp only [Option.bind_eq_some_iff] at hc
      obtain ⟨x', hx, hc⟩ := hc
      cases hc
      exact good_defer ht ho hcal hx hxs hr
    · cases hc
  all_goals (simp [cOp] at hc)

end
end Go.Sim
