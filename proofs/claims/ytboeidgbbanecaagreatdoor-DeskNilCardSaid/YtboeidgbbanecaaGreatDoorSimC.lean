/- From the model's code to the abstract machine's. Nothing is proved here. -/
import Derived.Test.YtboeidgbbanecaaGreatDoorSimA
namespace Go.Sim

mutual
def toV : Value → Option V
  | .bool b => some (.b b)
  | .int k n => some (.i k n)
  | .string s => some (.s (s.data.toList.map UInt8.toNat))
  | .pointer none => some .nilp
  | .slice none 0 0 => some .nilsl
  | .map none => some .nilm
  | .func (.func f) ⟨[]⟩ ⟨[]⟩ => some (.fn f [])
  | .nilFunc => some .nilfn
  | .nilIface => some .nilif
  | .agg ⟨cs⟩ => (toVL cs).map .ag
  | .tuple ⟨cs⟩ => (toVL cs).map .tup
  | _ => none
def toVL : List Value → Option (List V)
  | [] => some []
  | x :: xs => match toV x, toVL xs with
    | some y, some ys => some (y :: ys)
    | _, _ => none
end

def cO : Operand → Option O
  | .tmp t => some (.t t)
  | .const v => (toV v).map .c
  | .global g => some (.g g)
  | .func f => some (.f f)

def cOs : List Operand → Option (List O)
  | [] => some []
  | x :: xs => match cO x, cOs xs with
    | some y, some ys => some (y :: ys)
    | _, _ => none

def cOo : Option Operand → Option (Option O)
  | none => some none
  | some x => (cO x).map some

/-- A plain type: bool, an integer, a string. -/
def plainT (P : Program) (t : TypeId) : Bool :=
  match P.underlying t with
  | some .bool | some (.int _) | some .string => true
  | _ => false

/-- A struct of plain fields, one cell each, laid one behind the other. -/
def flatFields (P : Program) : Nat → List Field → Bool
  | _, [] => true
  | i, f :: fs => plainT P f.type && (f.name != "_") && f.offset == i && flatFields P (i + 1) fs

def flatT (P : Program) (t : TypeId) : Bool :=
  match P.underlying t with
  | some (.struct fs) => flatFields P 0 fs.toList && !(P.stoodInHeld t) && !(P.eqGuardType P.depth t)
  | _ => false

def aggT (P : Program) (t : TypeId) : Option Bool :=
  match P.underlying t with
  | some (.struct _) | some (.array _ _) => some true
  | some _ => some false
  | none => none

/-- Cells, and how many, of a type; its zero value's cells. -/
def sizeT (P : Program) (t : TypeId) : Option Nat := (P.info? t).map (·.size)
def zeroT (P : Program) (t : TypeId) : Option V := ((P.info? t).bind (·.zero)).bind toV

def sliceElem (P : Program) (t : TypeId) : Option TypeId :=
  match P.underlying t with
  | some (.slice e) => some e
  | _ => none

def fieldsT (P : Program) (t : TypeId) : Option (Array Field) :=
  match P.underlying t with
  | some (.struct fs) => some fs
  | _ => none

def cParts (place : Nat → Option (Nat × Nat)) : List (Nat × Operand) → Option (List (Nat × Nat × O))
  | [] => some []
  | (i, x) :: ps => match place i, cO x, cParts place ps with
    | some (o, n), some y, some ys => some ((o, n, y) :: ys)
    | _, _, _ => none

def cPartsS : List (Nat × Operand) → Option (List (Nat × O))
  | [] => some []
  | (i, x) :: ps => match cO x, cPartsS ps with
    | some y, some ys => some ((i, y) :: ys)
    | _, _ => none

def isConstO : Operand → Bool
  | .const _ => true
  | _ => false

/-- The kind of a type for '==' (see 'eqv'). -/
def eqKind (P : Program) (t : TypeId) (d : TypeDesc) : Option Nat :=
  match d with
  | .bool => some 0
  | .pointer e => match sizeT P e with
    | some (_ + 1) => some 1
    | _ => none
  | .slice _ => some 2
  | .map _ _ => some 3
  | .func _ _ _ => some 4
  | .interface _ => some 5
  | .struct _ => if flatT P t then some 6 else none
  | _ => none

/-- The kind of a key's type (see 'isKey'). -/
def keyKind (P : Program) (t : TypeId) : Option Nat :=
  match P.underlying t with
  | some .bool => some 0
  | some (.int _) => some 1
  | some .string => some 2
  | _ => none

def fieldKinds (P : Program) : List Field → Option (List Nat)
  | [] => some []
  | f :: fs => match keyKind P f.type, fieldKinds P fs with
    | some k, some ks => some (k :: ks)
    | _, _ => none

def eqKinds (P : Program) (d : TypeDesc) : Option (List Nat) :=
  match d with
  | .struct fs => fieldKinds P fs.toList
  | _ => some []

def cOp (P : Program) : Op → Option AOp
  | .move x | .assign x => (cO x).map .mov
  | .pick c a b => do some (.pick (← cO c) (← cO a) (← cO b))
  | .alloc e => do
    let z ← zeroT P e
    if allOne z.cells then some (.alloc e z.cells) else none
  | .box e x => do some (.box e (← sizeT P e) (← cO x))
  | .build t ps => do
    let z ← zeroT P t
    match P.underlying t with
    | some (.struct fs) =>
      let place := fun i => match fs[i]? with
        | some f => (sizeT P f.type).map fun n => (f.offset, n)
        | none => none
      if fs.all fun f => (P.info? f.type).isSome then some (.build z.cells (← cParts place ps.toList)) else none
    | some (.array _ e) => do
      let n ← sizeT P e
      some (.build z.cells (← cParts (fun i => some (i * n, n)) ps.toList))
    | _ => none
  | .buildSlice t len ps => do
    let e ← sliceElem P t
    let n ← sizeT P e
    let z ← zeroT P e
    if 0 < n ∧ z.cells.length = n ∧ len * n ≤ 2 ^ 24 then some (.bslice e n (reps z.cells len) len (← cPartsS ps.toList)) else none
  | .load t x => do
    let y ← cO x
    let g ← aggT P t
    let n ← sizeT P t
    some (if g then .loadN n y else .load1 y)
  | .store t a x => do some (.store (← sizeT P t) (← cO a) (← cO x))
  | .nilCheck x => (cO x).map .nilchk
  | .binOp op t x y _ => do
    let a ← cO x
    let b ← cO y
    match P.underlying t with
    | some (.int _) | some .string => some (.bin op a b)
    | some d => do
      let kd ← eqKind P t d
      let ks ← eqKinds P d
      match op with
      | .eql => some (.eqv false kd ks (isConstO x || isConstO y) a b)
      | .neq => some (.eqv true kd ks (isConstO x || isConstO y) a b)
      | _ => none
    | none => none
  | .unOp op _ x => do some (.un op (← cO x))
  | .convert s d x => do
    let y ← cO x
    match P.underlying s, P.underlying d with
    | some (.int _), some (.int k) => some (.convI k y)
    | some .string, some .string => some (.convSS y)
    | some (.slice e), some .string => match P.underlying e with
      | some (.int .u8) => some (.convBS y)
      | _ => none
    | some .string, some (.slice e) => match P.underlying e with
      | some (.int .u8) => some (.convSB e y)
      | _ => none
    | some (.pointer t), some .unsafePointer => match sizeT P t with
      | some (_ + 1) => some (.convUP y)
      | _ => none
    | some .unsafePointer, some (.pointer u) => match sizeT P u with
      | some (n + 1) => some (.convPU u (n + 1) y)
      | _ => none
    | _, _ => none
  | .makeInterface t x => do
    let y ← cO x
    match P.underlying t with
    | some (.interface _) => none
    | some _ => some (.mkif t y)
    | none => none
  | .makeFunc (.func f) ⟨[]⟩ caps => do some (.mkfn f (← cOs caps.toList))
  | .makeMap _ none => some .mkmap
  | .makeSlice t l c => do
    let e ← sliceElem P t
    let i ← P.info? e
    let z ← zeroT P e
    if allOne z.cells then some (.mkslice e i.size i.bytes z.cells (← cO l) (← cO c)) else none
  | .slice t x lo hi mx => do
    let y ← cO x
    let l ← cOo lo
    let h ← cOo hi
    let m ← cOo mx
    match P.underlying t with
    | some .string => if m.isNone then some (.sliceS y l h) else none
    | some (.slice e) => do some (.slice (← sizeT P e) y l h m)
    | some (.array len e) => if m.isNone then do some (.sliceA len (← sizeT P e) y l h) else none
    | _ => none
  | .fieldAddr s x i => do
    let fs ← fieldsT P s
    let f ← fs[i]?
    let n ← sizeT P f.type
    if n = 0 then none else some (.faddr f.offset (← cO x))
  | .field t x i => do
    let fs ← fieldsT P t
    let f ← fs[i]?
    let g ← aggT P f.type
    let n ← sizeT P f.type
    some (.field f.offset (if g then some n else none) (← cO x))
  | .indexAddr t x i => do
    let y ← cO x
    let j ← cO i
    match P.underlying t with
    | some (.slice e) => do some (.iaddr (← sizeT P e) y j)
    | some (.array len e) => do some (.iaddrA len (← sizeT P e) y j)
    | _ => none
  | .index t x i => do
    let y ← cO x
    let j ← cO i
    match P.underlying t with
    | some .string => some (.indexS y j)
    | some (.array len e) => do
      let g ← aggT P e
      let n ← sizeT P e
      some (.indexA len n (if g then some n else none) y j)
    | _ => none
  | .lookup t x k ok => match P.underlying t with
    | some (.map kt e) => do some (.lookup (← keyKind P kt) (← zeroT P e) ok (← cO x) (← cO k))
    | _ => none
  | .mapUpdate t m k x | .insert t m k x => match P.underlying t with
    | some (.map kt _) => do some (.mupd (← keyKind P kt) (← cO m) (← cO k) (← cO x))
    | _ => none
  | .range t x => match P.underlying t with
    | some .string => (cO x).map .range
    | _ => none
  | .next x true => (cO x).map .next
  | .typeAssert x _ t ok => match P.underlying t with
    | some (.interface _) => none
    | some _ => do some (.assert t (← zeroT P t) ok (← cO x))
    | none => none
  | .extract x i => do some (.extract (← cO x) i)
  | .panic x => (cO x).map .panic
  | .call c => do
    let xs ← cOs c.args.toList
    match c.callee with
    | .value (.func f) => some (.callf f xs)
    | .value x => do some (.callv (← cO x) xs)
    | .builtin .append => match c.argTypes.toList, xs with
      | [t, u], [s, x] => do
        let e ← sliceElem P t
        let i ← P.info? e
        let z ← i.zero
        if z.cells.size ≠ i.size then none else match P.underlying u with
        | some (.slice _) | some .string => some (.append e i.size i.bytes s x)
        | _ => none
      | _, _ => none
    | .builtin .len => match c.argTypes.toList, xs with
      | [t], [x] => match P.underlying t with
        | some .string => some (.len 0 x)
        | some (.slice _) => some (.len 1 x)
        | some (.map _ _) => some (.len 2 x)
        | _ => none
      | _, _ => none
    | .builtin .recover => match xs with
      | [] => some .recover
      | _ => none
    | .builtin .cap => match c.argTypes.toList, xs with
      | [t], [x] => match P.underlying t with
        | some (.slice _) => some (.cap x)
        | _ => none
      | _, _ => none
    | .builtin .unsafeSliceData => match xs with
      | [x] => some (.sdata x)
      | _ => none
    | .builtin .unsafeString => match c.argTypes.toList, xs with
      | [t, _], [p, n] => match P.underlying t with
        | some (.pointer e) => match P.underlying e with
          | some (.int .u8) => if P.cellsOf e = 1 then some (.ustr e p n) else none
          | _ => none
        | _ => none
      | _, _ => none
    | .builtin .copy => match c.argTypes.toList, xs with
      | [t, _], [d, s] => do
        let e ← sliceElem P t
        let n ← sizeT P e
        if n = 0 then none else some (.copy n d s)
      | _, _ => none
    | .builtin .min => match xs with
      | [x, y] => some (.mm false x y)
      | _ => none
    | .builtin .max => match xs with
      | [x, y] => some (.mm true x y)
      | _ => none
    | .builtin .delete => match c.argTypes.toList, xs with
      | [t, _], [m, k] => match P.underlying t with
        | some (.map kt _) => do some (.mdel (← keyKind P kt) m k)
        | _ => none
      | _, _ => none
    | _ => none
  | .defer c => do
    let xs ← cOs c.args.toList
    match c.callee with
    | .value x => do some (.defer (← cO x) xs)
    | _ => none
  | _ => none

def cGuard (ops : Array Oper) : Option (Nat × Bool) → Option (Option (Nat × Bool))
  | none => some none
  | some (j, w) => match (ops[j]?).bind (·.dst) with
    | some s => some (some (s, w))
    | none => none

def cOpers (P : Program) (ops : Array Oper) : List Oper → Option (List AOper)
  | [] => some []
  | o :: os => match cOp P o.op, cGuard ops o.guard, cOpers P ops os with
    | some a, some g, some ys => some (⟨o.dst, a, g⟩ :: ys)
    | _, _, _ => none

/-- Of the edges: which ones stand ahead, as bits. -/
def befMask (acc : List Nat) : List Edge → Nat
  | [] => 0
  | e :: es => (1 <<< e.on) ||| ((acc[e.on]?).getD 0 ||| befMask acc es)

/-- Of each operation: which ones stand ahead of it in every order. -/
def befores : List Oper → List Nat → List Nat
  | [], acc => acc
  | o :: os, acc => befores os (acc ++ [befMask acc (o.after.toList.filter (Region.binds .any))])

/-- Stands 'i' ahead of 'k'? -/
def isBef (bs : List Nat) (k i : Nat) : Bool := ((bs[k]?).getD 0).testBit i

def opAt (as' : List AOper) (i : Nat) : AOper := (as'[i]?).getD ⟨none, .mov (.c .nilif), none⟩

def winOf (as' : List AOper) (bs : List Nat) (i : Nat) : Nat × Nat :=
  ((List.range as'.length).countP (fun k => (opAt as' k).op.isEff && isBef bs i k), (List.range as'.length).countP (fun k => (opAt as' k).op.isEff && !isBef bs k i))

def wins (as' : List AOper) (bs : List Nat) : List (AOper × Nat × Nat) := (List.range as'.length).map fun i => (opAt as' i, winOf as' bs i)

/-- Edges lead back. -/
def backOk (i : Nat) (o : Oper) : Bool := o.after.toList.all fun e => !Region.binds .any e || Nat.blt e.on i
def backsOk : Nat → List Oper → Bool
  | _, [] => true
  | i, o :: os => backOk i o && backsOk (i + 1) os

/-- The slot of 'i' is written by no other; what looks at it comes behind it, or ahead of it. -/
def slotOk (as' : List AOper) (bs : List Nat) (i k : Nat) : Bool := Nat.beq i k || (match (opAt as' i).dst with
  | none => true
  | some d => (opAt as' k).dst != some d && (!((opAt as' k).looks.contains d) || isBef bs k i || (isBef bs i k && !(opAt as' k).op.isChk)))
def selfOk (as' : List AOper) (i : Nat) : Bool := match (opAt as' i).dst with
  | none => true
  | some d => !((opAt as' i).looks.contains d)
/-- Effects are one behind the other, and unguarded. -/
def effOk (as' : List AOper) (bs : List Nat) (k : Nat) : Bool := !(opAt as' k).op.isEff ||
  ((opAt as' k).g.isNone && (List.range as'.length).all fun j => !((opAt as' j).op.isEff && Nat.blt j k) || isBef bs k j)
/-- Memory is made behind the effects that stand ahead, and ahead of calls that stand behind. -/
def allocOk (as' : List AOper) (bs : List Nat) (i : Nat) : Bool := !(opAt as' i).op.isAlloc ||
  (List.range as'.length).all fun k => !(opAt as' k).op.isEff || (bif Nat.blt k i then isBef bs i k else (!(opAt as' k).op.isCall || isBef bs k i))

/-- What makes memory is one of three operations. -/
def makesOk (o : Oper) (a : AOper) : Bool := !a.op.isAlloc || (match o.op with
  | .alloc _ | .box _ _ | .buildSlice _ _ _ => true
  | _ => false)
def makesAllOk : List Oper → List AOper → Bool
  | o :: os, a :: as' => makesOk o a && makesAllOk os as'
  | _, _ => true

/-- May such a region be done in its own order? -/
def drawOk (ops : List Oper) (as' : List AOper) (bs : List Nat) : Bool :=
  backsOk 0 ops && makesAllOk ops as' && (List.range as'.length).all fun i => selfOk as' i && effOk as' bs i && allocOk as' bs i && (List.range as'.length).all fun k => slotOk as' bs i k

/-- Code; what has no counterpart is 'bad'. -/
def cS (P : Program) : Code → S
  | .skip => .skip
  | .region _ ops dr => match cOpers P ops ops.toList with
    | some ys => if dr then
        (if drawOk ops.toList ys (befores ops.toList []) && P.follows .mixedOrders then .dreg (wins ys (befores ops.toList [])) else .bad)
      else .reg ys
    | none => .bad
  | .seq a b => .seq (cS P a) (cS P b)
  | .cond c a b => match cO c with
    | some c => .cond c (cS P a) (cS P b)
    | none => .bad
  | .block id a => .blk id (cS P a)
  | .scope a => .scope (cS P a)
  | .label _ => .skip
  | .loop a => .loop (cS P a)
  | .exit id => .exit id
  | .ret => .ret
  | _ => .bad

def cRV (P : Program) : ResultVar → Option RV
  | .tmp t => some (.t t)
  | .cell a t => match aggT P t, sizeT P t with
    | some g, some n => some (.cell a (if g then some n else none))
    | _, _ => none

def cRVs (P : Program) : List ResultVar → Option (List RV)
  | [] => some []
  | r :: rs => match cRV P r, cRVs P rs with
    | some x, some xs => some (x :: xs)
    | _, _ => none

def cF (P : Program) (f : Func) : Option AF :=
  match f.body, cRVs P f.results.toList with
  | some b, some rs => if f.name == "runtime.NumGoroutine" then none else some ⟨f.ntmps, rs, cS P b⟩
  | _, _ => none

end Go.Sim
