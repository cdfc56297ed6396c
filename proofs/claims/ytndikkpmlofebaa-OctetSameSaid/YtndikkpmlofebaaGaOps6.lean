/- The operations of a text, resolved over the program's tables. -/
import Derived.Test.YtndikkpmlofebaaGaOps5
namespace Go.Ga
open Go

def resolveRvs : List Operand → Option (List Rv)
  | [] => some []
  | x :: l => match resolveRv x, resolveRvs l with
    | some r, some rs => some (r :: rs)
    | _, _ => none

def resolveO : Option Operand → Option (Option Rv)
  | none => some none
  | some x => (resolveRv x).map some

def resolveParts (place : Nat → Option (Nat × Nat)) : List (Nat × Operand) → Option (List (Nat × Nat × Rv))
  | [] => some []
  | (i, x) :: l => match place i, resolveRv x, resolveParts place l with
    | some (off, sz), some r, some rs => some ((off, sz, r) :: rs)
    | _, _, _ => none

def aggD : TypeDesc → Bool
  | .struct _ | .array _ _ => true
  | _ => false

def zeroOf (P : Program) (t : TypeId) : Option (TypeInfo × Value) :=
  match P.info? t with
  | some i => match i.zero with
    | some z => if z.cells.toList.all plain then some (i, z) else none
    | none => none
  | none => none

def structPlace (P : Program) (fields : Array Field) (i : Nat) : Option (Nat × Nat) :=
  match fields[i]? with
  | some fl => (P.info? fl.type).map fun ti => (fl.offset, ti.size)
  | none => none

def nilKind : TypeDesc → Option NilK
  | .pointer _ => some .ptr
  | .slice _ => some .sl
  | .map _ _ => some .mp
  | .func _ _ _ => some .fn
  | .interface _ => some .ifc
  | _ => none

def isNilC : NilK → Operand → Bool
  | .ptr, .const (.pointer none) | .sl, .const (.slice none 0 0) | .mp, .const (.map none) | .fn, .const .nilFunc | .ifc, .const .nilIface => true
  | _, _ => false

def isU8 : Option TypeDesc → Bool
  | some (.int .u8) => true
  | _ => false

def resolveBin (P : Program) (op : BinOp) (t : TypeId) (x y : Operand) : Option ROp :=
  match op, P.underlying t with
  | .eql, some .bool | .neq, some .bool => do some (.eqB (op matches .neq) (← resolveRv x) (← resolveRv y))
  | .eql, some (.struct _) | .neq, some (.struct _) | .eql, some (.array _ _) | .neq, some (.array _ _) => do some (.eqA op t (← resolveRv x) (← resolveRv y))
  | .eql, some d | .neq, some d =>
    match nilKind d with
    | some nk => if isNilC nk y then do some (.eqN nk (op matches .neq) (← resolveRv x)) else if isNilC nk x then do some (.eqN nk (op matches .neq) (← resolveRv y)) else none
    | none => do some (.bin op (← resolveRv x) (← resolveRv y))
  | _, some _ => do some (.bin op (← resolveRv x) (← resolveRv y))
  | _, none => none

def resolveConv (P : Program) (s d : TypeId) (x : Operand) : Option ROp :=
  match P.underlying s, P.underlying d with
  | some (.int _), some (.int k) => do some (.toInt k (← resolveRv x))
  | some .string, some .string => do some (.s2s (← resolveRv x))
  | some .string, some (.slice e) => if isU8 (P.underlying e) then do some (.s2b (← resolveRv x)) else none
  | some (.slice _), some (.slice e) => if s == d && isU8 (P.underlying e) then do some (.cvB (← resolveRv x)) else none
  | some (.slice e), some .string => if isU8 (P.underlying e) then do some (.b2s (← resolveRv x)) else none
  | _, _ => none

def resolveBuiltin (P : Program) (b : Builtin) (args : List Operand) (ts : List TypeId) : Option ROp :=
  match b, args, ts with
  | .len, [x], [t] => match P.underlying t with
    | some .string => do some (.lenStr (← resolveRv x))
    | some (.slice _) => do some (.lenSl (← resolveRv x))
    | some (.array n _) => some (.lenK n)
    | some (.pointer p) => match P.underlying p with
      | some (.array n _) => some (.lenK n)
      | _ => none
    | _ => none
  | .append, [x, y], [t, u] => match P.underlying t, P.underlying u with
    | some (.slice e), some (.slice _) => do
      let (i, z) ← zeroOf P e
      if z.cells.size = i.size then some (.append i.size i.bytes (← resolveRv x) (← resolveRv y)) else none
    | some (.slice e), some .string => do
      let (i, z) ← zeroOf P e
      if z.cells.size = i.size ∧ i.size = 1 ∧ i.bytes = 1 then some (.appendS (← resolveRv x) (← resolveRv y)) else none
    | _, _ => none
  | .copy, [x, y], [t, u] => match P.underlying t, P.underlying u with
    | some (.slice e), some (.slice _) => do
      let i ← P.info? e
      some (.copy i.size (← resolveRv x) (← resolveRv y))
    | some (.slice e), some .string => do
      let i ← P.info? e
      if i.size = 1 then some (.copyS (← resolveRv x) (← resolveRv y)) else none
    | _, _ => none
  | .min, x :: ys, _ => do some (.mm false (← resolveRv x) (← resolveRvs ys))
  | .max, x :: ys, _ => do some (.mm true (← resolveRv x) (← resolveRvs ys))
  | _, _, _ => none

/-- What an operation is, once its types are looked up (calls of functions apart). -/
def resolveOp (P : Program) : Op → Option ROp
  | .move x | .assign x => do some (.mv (← resolveRv x))
  | .pick c a b => do some (.pick (← resolveRv c) (← resolveRv a) (← resolveRv b))
  | .alloc t => do
    let (_, z) ← zeroOf P t
    some (.new z.cells.toList)
  | .box _ x => do some (.box (← resolveRv x))
  | .build t parts => do
    let (_, z) ← zeroOf P t
    match P.underlying t with
    | some (.struct fields) => if fields.toList.all fun fl => (P.info? fl.type).isSome then do some (.build z.cells.toList (← resolveParts (structPlace P fields) parts.toList)) else none
    | some (.array _ e) => do
      let i ← P.info? e
      some (.build z.cells.toList (← resolveParts (fun k => some (k * i.size, i.size)) parts.toList))
    | _ => none
  | .buildSlice t len parts => match P.underlying t with
    | some (.slice e) => do
      let (i, z) ← zeroOf P e
      if z.cells.size = i.size ∧ 0 < i.size ∧ len * i.size ≤ 16777216 then do
        some (.mkSl len ((List.range (len * i.size)).map fun j => z.cells.toList.getD (j % z.cells.toList.length) undef) (← resolveParts (fun k => some (k * i.size, i.size)) parts.toList))
      else none
    | _ => none
  | .load t x => match P.underlying t with
    | some d => if aggD d then do
        let i ← P.info? t
        some (.loadN i.size (← resolveRv x))
      else do some (.load1 (← resolveRv x))
    | none => none
  | .store t x v => do
    let i ← P.info? t
    some (.store i.size (← resolveRv x) (← resolveRv v))
  | .nilCheck x => do some (.chk (← resolveRv x))
  | .binOp op t x y _ => resolveBin P op t x y
  | .unOp op _ x => do some (.un op (← resolveRv x))
  | .convert s d x => resolveConv P s d x
  | .makeInterface t x => match P.underlying t with
    | some (.interface _) => none
    | some _ => do some (.iface t (← resolveRv x))
    | none => none
  | .makeFunc (.func g) first caps => if first.isEmpty then do some (.func g (← resolveRvs caps.toList)) else none
  | .makeSlice t l c => match P.underlying t with
    | some (.slice e) => do
      let (i, z) ← zeroOf P e
      some (.make i.size i.bytes z.cells.toList (← resolveRv l) (← resolveRv c))
    | _ => none
  | .slice t x lo hi mx => match P.underlying t with
    | some .string => if mx.isNone then do some (.slStr (← resolveRv x) (← resolveO lo) (← resolveO hi)) else none
    | some (.slice e) => do
      let i ← P.info? e
      some (.sl i.size (← resolveRv x) (← resolveO lo) (← resolveO hi) (← resolveO mx))
    | some (.array n e) => do
      let i ← P.info? e
      some (.slArr n i.size (← resolveRv x) (← resolveO lo) (← resolveO hi) (← resolveO mx))
    | _ => none
  | .fieldAddr s x k => match P.underlying s with
    | some (.struct fields) => match fields[k]? with
      | some fl => do
        let i ← P.info? fl.type
        if 0 < i.size then some (.fieldAddr fl.offset (← resolveRv x)) else none
      | none => none
    | _ => none
  | .field s x k => match P.underlying s with
    | some (.struct fields) => match fields[k]? with
      | some fl => match P.underlying fl.type with
        | some d => if aggD d then do
            let i ← P.info? fl.type
            some (.fieldN fl.offset i.size (← resolveRv x))
          else do some (.field1 fl.offset (← resolveRv x))
        | none => none
      | none => none
    | _ => none
  | .indexAddr t x i => match P.underlying t with
    | some (.slice e) => do
      let ti ← P.info? e
      some (.ixAddr ti.size (← resolveRv x) (← resolveRv i))
    | some (.array n e) => do
      let ti ← P.info? e
      some (.ixAddrA n ti.size (← resolveRv x) (← resolveRv i))
    | _ => none
  | .index t x i => match P.underlying t with
    | some .string => do some (.ixStr (← resolveRv x) (← resolveRv i))
    | some (.array n e) => match P.underlying e with
      | some d => do
        let ti ← P.info? e
        if aggD d then some (.ixArrN n ti.size (← resolveRv x) (← resolveRv i)) else if ti.size = 1 then some (.ixArr n (← resolveRv x) (← resolveRv i)) else none
      | none => none
    | _ => none
  | .extract x i => do some (.extract (← resolveRv x) i)
  | .call c => match c.callee with
    | .builtin b => resolveBuiltin P b c.args.toList c.argTypes.toList
    | _ => none
  | _ => none

end Go.Ga
