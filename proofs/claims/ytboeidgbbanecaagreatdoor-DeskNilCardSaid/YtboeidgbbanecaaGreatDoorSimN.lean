/- Functions of the library that have no body here, and a call begun in an empty heap. -/
import Derived.Test.YtboeidgbbanecaaGreatDoorSimD2
import Derived.Test.YtboeidgbbanecaaGreatDoorSimG
import Derived.Lib.Bytealg
import Derived.Lib.MakeNoZero
import Derived.Laws.Externs
namespace Go.Sim
open Go.RowKit

def idxB (c : Nat) : List Nat → Nat → Int
  | [], _ => -1
  | x :: xs, i => bif Nat.beq x c then .ofNat i else idxB c xs (i + 1)

/-- A byte's first place in a string. -/
def natIndex (args : List V) (h : H) : Option (Out × H) := match args with
  | [.s l, .i .u8 (.ofNat c)] => bif Nat.blt c 256 then some (.ret (.i .i64 (idxB c l 0)), h) else none
  | _ => none
/-- The argument as it is. -/
def natSame (args : List V) (h : H) : Option (Out × H) := match args with
  | [x] => some (.ret x, h)
  | _ => none
/-- A row of whatever bytes. -/
noncomputable def natMake (ty : Nat) (args : List V) (h : H) : Option (Out × H) := match args with
  | [.i .i64 (.ofNat n)] => bif Nat.ble n 281474976710656 then some (.ret (.sl h.next 0 n 1 false), h.newF (.cells ty true (some (h.next, 0)) [])) else none
  | _ => none

theorem idxB_ge (c : Nat) : ∀ (l : List Nat) (i : Nat), idxB c l i = -1 ∨ ∃ k, idxB c l i = .ofNat k ∧ i ≤ k
  | [], _ => .inl rfl
  | x :: xs, i => by
    simp only [idxB]
    cases Nat.beq x c with
    | true => exact .inr ⟨i, rfl, Nat.le_refl _⟩
    | false =>
      rcases idxB_ge c xs (i + 1) with h | ⟨k, h, hk⟩
      · exact .inl h
      · exact .inr ⟨k, h, by omega⟩

theorem idxB_succ (c : Nat) : ∀ (l : List Nat) (i : Nat), idxB c l (i + 1) = if idxB c l i = -1 then -1 else idxB c l i + 1
  | [], _ => rfl
  | x :: xs, i => by
    simp only [idxB]
    by_cases hx : Nat.beq x c = true
    · simp only [hx, cond_true]
      rw [if_neg (by simp only [Int.ofNat_eq_natCast]; omega)]
      rfl
    · simp only [Bool.not_eq_true] at hx
      simp only [hx, cond_false]; exact idxB_succ c xs (i + 1)

theorem idxB_eq {c : Nat} (hc : c < 256) : ∀ (l : List UInt8), idxB c (l.map UInt8.toNat) 0 = Lib.indexByte l c.toUInt8
  | [] => rfl
  | b :: l => by
    have hb : Nat.beq b.toNat c = (b == c.toUInt8) := by
      have : c.toUInt8.toNat = c := by simp [Nat.toUInt8, Nat.mod_eq_of_lt hc]
      cases h : Nat.beq b.toNat c with
      | true =>
        have := Nat.eq_of_beq_eq_true h
        symm
        rw [beq_iff_eq]
        apply UInt8.toNat_inj.1
        omega
      | false =>
        have := Nat.ne_of_beq_eq_false h
        symm
        rw [beq_eq_false_iff_ne]
        intro e
        rw [e] at this
        omega
    simp only [List.map_cons, idxB, Lib.indexByte, hb]
    cases b == c.toUInt8 with
    | true => rfl
    | false =>
      simp only [cond_false, Bool.false_eq_true, if_false]
      rw [idxB_succ, idxB_eq hc l]
      by_cases h : Lib.indexByte l c.toUInt8 = -1
      · simp [h]
      · simp [h]

def cntB (c : Nat) : List Nat → Nat → Int
  | [], n => .ofNat n
  | x :: xs, n => bif Nat.beq x c then cntB c xs (n + 1) else cntB c xs n

/-- How often a byte is in a string. -/
def natCount (args : List V) (h : H) : Option (Out × H) := match args with
  | [.s l, .i .u8 (.ofNat c)] => bif Nat.blt c 256 then some (.ret (.i .i64 (cntB c l 0)), h) else none
  | _ => none

theorem beq_u8 {c : Nat} (hc : c < 256) (b : UInt8) : Nat.beq b.toNat c = (b == c.toUInt8) := by
  have : c.toUInt8.toNat = c := by simp [Nat.toUInt8, Nat.mod_eq_of_lt hc]
  cases h : Nat.beq b.toNat c with
  | true =>
    have := Nat.eq_of_beq_eq_true h
    symm
    rw [beq_iff_eq]
    apply UInt8.toNat_inj.1
    omega
  | false =>
    have := Nat.ne_of_beq_eq_false h
    symm
    rw [beq_eq_false_iff_ne]
    intro e
    rw [e] at this
    omega

theorem cntB_eq {c : Nat} (hc : c < 256) : ∀ (l : List UInt8) (n : Nat), cntB c (l.map UInt8.toNat) n = ((n + Lib.countByte l c.toUInt8 : Nat) : Int)
  | [], n => by simp [cntB, Lib.countByte]
  | b :: l, n => by
    simp only [List.map_cons, cntB, beq_u8 hc]
    unfold Lib.countByte
    rw [List.count_cons]
    by_cases h : (b == c.toUInt8) = true
    · simp only [h, cond_true, if_true]
      rw [cntB_eq hc l (n + 1)]
      unfold Lib.countByte
      congr 1
      omega
    · simp only [Bool.not_eq_true] at h
      simp only [h, cond_false, Bool.false_eq_true, if_false]
      rw [cntB_eq hc l n]
      rfl

section
variable {P : Program} {G : Gl} {B : Nat} {f : Nat} {fn : Func}

theorem natCount_ok (hf : P.funcs[f]? = some fn) (hname : (fn.name == "runtime.NumGoroutine") = false) (hb : fn.body.isNone = true) (hn : Extern.findNext fn = none)
    (he : Extern.find fn = some Extern.BytealgCount.count) : Nat1 P G B f natCount := by
  refine ⟨fun args h out h' hr φ w vs r hv => ?_⟩
  unfold natCount at hr
  split at hr
  rotate_left
  · cases hr
  rename_i l c
  rw [Bool.cond_eq_ite] at hr
  split at hr
  rotate_left
  · cases hr
  rename_i hc
  cases hr
  have hc' : c < 256 := by simpa using hc
  simp only [VRelL, VRel] at hv
  obtain ⟨v, vs', rfl, ⟨s, rfl, hs⟩, v2, vs2, rfl, rfl, rfl⟩ := hv
  rw [run_callFunc_extern hf hname hb hn he, Lib.run_countString]
  refine ⟨φ, Ext.refl φ, r, Below.refl B w, _, rfl, ?_⟩
  simp only [VRel]
  rw [← hs]
  have h1 : cntB c (natsOf s) 0 = ((0 + Lib.countByte s.data.toList c.toUInt8 : Nat) : Int) := cntB_eq hc' _ 0
  rw [h1, Nat.zero_add]
  rfl

theorem natIndex_ok (hf : P.funcs[f]? = some fn) (hname : (fn.name == "runtime.NumGoroutine") = false) (hb : fn.body.isNone = true) (hn : Extern.findNext fn = none)
    (he : Extern.find fn = some Extern.BytealgIndexByte.indexByte) : Nat1 P G B f natIndex := by
  refine ⟨fun args h out h' hr φ w vs r hv => ?_⟩
  unfold natIndex at hr
  split at hr
  rotate_left
  · cases hr
  rename_i l c
  rw [Bool.cond_eq_ite] at hr
  split at hr
  rotate_left
  · cases hr
  rename_i hc
  cases hr
  have hc' : c < 256 := by simpa using hc
  simp only [VRelL, VRel] at hv
  obtain ⟨v, vs', rfl, ⟨s, rfl, hs⟩, v2, vs2, rfl, rfl, rfl⟩ := hv
  rw [run_callFunc_extern hf hname hb hn he, Lib.run_indexByteString]
  refine ⟨φ, Ext.refl φ, r, Below.refl B w, _, rfl, ?_⟩
  simp only [VRel]
  have : Lib.indexByte s.data.toList (Int.ofNat c).toNat.toUInt8 = idxB c l 0 := by
    rw [← hs]
    exact (idxB_eq hc' _).symm
  rw [this]

theorem natSame_ok (hf : P.funcs[f]? = some fn) (hname : (fn.name == "runtime.NumGoroutine") = false) (hb : fn.body.isNone = true) (hn : Extern.findNext fn = none)
    (he : Extern.find fn = some Extern.AbiNoEscape.same) : Nat1 P G B f natSame := by
  refine ⟨fun args h out h' hr φ w vs r hv => ?_⟩
  unfold natSame at hr
  split at hr <;> cases hr
  simp only [VRelL] at hv
  obtain ⟨v, vs', rfl, hv, rfl⟩ := hv
  rw [run_callFunc_extern hf hname hb hn he]
  exact ⟨φ, Ext.refl φ, r, Below.refl B w, v, rfl, hv⟩

theorem natMake_ok {t e : TypeId} (hf : P.funcs[f]? = some fn) (hname : (fn.name == "runtime.NumGoroutine") = false) (hb : fn.body.isNone = true) (hn : Extern.findNext fn = none)
    (he : Extern.find fn = some (Extern.BytealgMakeNoZero.makeNoZero fn.params #[t])) (ht : P.underlying t = some (.slice e)) :
    Nat1 P G B f (natMake e) := by
  refine ⟨fun args h out h' hr φ w vs r hv => ?_⟩
  unfold natMake at hr
  split at hr
  rotate_left
  · cases hr
  rename_i n
  rw [Bool.cond_eq_ite] at hr
  split at hr
  rotate_left
  · cases hr
  rename_i hn'
  cases hr
  have hle : n ≤ 281474976710656 := by simpa using hn'
  simp only [VRelL, VRel] at hv
  obtain ⟨v, vs', rfl, rfl, rfl⟩ := hv
  obtain ⟨cs, h1, h2, _⟩ := Lib.run_makeNoZero (P := P) w fn.params t e ht n hle
  rw [run_callFunc_extern hf hname hb hn he]
  have h1' : (Extern.BytealgMakeNoZero.makeNoZero fn.params #[t] ⟨[Value.int .i64 (Int.ofNat n)]⟩).run P w = .ok (.slice (some ⟨w.heap.size, 0, none⟩) n cs.size) (w.drew.drew.alloc (.cells cs e)) := h1
  rw [h1']
  have r2 : Rel G B φ h w.drew.drew := r.heap rfl
  obtain ⟨hx, hrel⟩ := r2.cells (ty := e) (wr := true) (fam := some (h.next, 0)) (l := []) (vs := []) (c := cs) (fm := h.fm.set h.next [h.next]) rfl rfl ⟨cs.toList, by simp⟩ (fun e => by cases e) (FmOk.own rfl)
  refine ⟨_, hx.1, hrel, Below.trans (b := w.drew.drew) ⟨rfl, rfl, rfl, Nat.le_refl _, fun _ _ => rfl⟩ (Below.push _ r.bsz), _, rfl, ?_⟩
  simp only [VRel]
  exact ⟨_, _, _, upd_self _ _ _, rfl, h2, (fun e => by cases e), .inr ⟨rfl, by simp⟩⟩

/-- What the program's functions are compiled to. -/
def progF (P : Program) (f : Nat) : Option AF := match P.funcs[f]? with
  | some fn => cF P fn
  | none => none

theorem progF_ok (P : Program) : ∀ f af, progF P f = some af → ∃ fn, P.funcs[f]? = some fn ∧ cF P fn = some af := by
  intro f af h
  unfold progF at h
  split at h
  · exact ⟨_, by assumption, h⟩
  · cases h

/-- Every call that the machine runs to its end is sound. -/
theorem run_ok {N : Nat → Option (List V → H → Option (Out × H))} (hN : NatOk P G B N) (n : Nat) : CallOk P G B (evF G N (progF P) n) :=
  evF_ok hN (progF_ok P) (fun _ h => drawn_ok h) (fun _ h => defer_ok (progF_ok P) h (drawn_ok h)) n

/-- The package-level variables that the machine knows hold what it knows of them. -/
structure GlobOk (G : Gl) (w : World) : Prop where
  lt : ∀ g l, G g = some l → g < w.heap.size
  at_ : ∀ g l, G g = some l → ∀ i x, l[i]? = some x → ∃ v, w.cell? ⟨g, i, none⟩ = some v ∧ VRel (fun _ => none) x v

theorem globOk_none (w : World) : GlobOk (fun _ => none) w := ⟨(fun _ _ h => by cases h), (fun _ _ h => by cases h)⟩

theorem rel_empty {G : Gl} {w : World} (hg : GlobOk G w) : Rel G w.heap.size (fun _ => none) H.empty w where
  bsz := Nat.le_refl _
  gl := hg.lt
  glob := hg.at_
  dom := fun _ _ h => by cases h
  nxt := fun _ _ => rfl
  blk := fun _ _ _ h => by cases h
  base := fun _ _ _ h => by cases h
  disj := fun _ _ _ _ _ _ _ h => by cases h
  fams := fun _ _ _ _ h => by cases h

/-- Did it come to 'true'? -/
def isTrue : Option (Out × H) → Bool
  | some (.ret (.b true), _) => true
  | _ => false

/-- A call that comes to 'true' in the machine, begun in an empty heap, returns 'true', and leaves all that was there. -/
theorem calls_true_at {N : Nat → Option (List V → H → Option (Out × H))} (hN : ∀ B, NatOk P G B N) {n : Nat} (hnone : N f = none) {args : List V} {vs : List Value} (hv : VRelL (fun _ => none) args vs)
    (h : isTrue (evF G N (progF P) (n + 1) f args .empty) = true) {w : World} (hg : GlobOk G w) :
    Calls P f ⟨vs⟩ w fun e w' => e = .returned (.bool true) ∧ Below w.heap.size w w' := by
  unfold isTrue at h
  split at h
  rotate_left
  · cases h
  rename_i h' he
  have hu := run_ok (hN w.heap.size) (n + 1) f args .empty _ _ he (fun _ => none) w vs (rel_empty hg) hv
  have hex : ∃ af, progF P f = some af := by
    have he' : (match N f with
      | some g => g args .empty
      | none => match progF P f with
        | none => none
        | some af => evB G (progF P) (evF G N (progF P) n) n af args .empty) = some (.ret (.b true), h') := he
    rw [hnone] at he'
    cases hp : progF P f with
    | none => rw [hp] at he'; cases he'
    | some af => exact ⟨af, rfl⟩
  obtain ⟨af, haf⟩ := hex
  obtain ⟨fn, hf, hc⟩ := progF_ok P f af haf
  rw [run_callFunc_enter hf hc] at hu
  refine Calls.mono hu fun e w' ho => ?_
  obtain ⟨φ', _, _, hb, v, rfl, hv⟩ := ho
  simp only [VRel] at hv
  subst hv
  exact ⟨rfl, hb⟩

/-- The same, where no package-level variable is read. -/
theorem calls_true {N : Nat → Option (List V → H → Option (Out × H))} (hN : ∀ B, NatOk P (fun _ => none) B N) {n : Nat} (hnone : N f = none) {args : List V} {vs : List Value} (hv : VRelL (fun _ => none) args vs)
    (h : isTrue (evF (fun _ => none) N (progF P) (n + 1) f args .empty) = true) (w : World) :
    Calls P f ⟨vs⟩ w fun e w' => e = .returned (.bool true) ∧ Below w.heap.size w w' := calls_true_at hN hnone hv h (globOk_none w)

end
end Go.Sim
