/- The operations, resolved: what each comes to on abstract values and memory. -/
import Derived.Test.YtndikkpmlofebaaGaMemOps
import Derived.Laws.Entries
namespace Go.Ga
open Go

abbrev Regs := Nat → Value

/-- An operand: a slot, or a constant. -/
inductive Rv where
  | t (i : Nat)
  | k (v : Value)

def Rv.ev (f : Regs) : Rv → Value
  | .t i => f i
  | .k v => v

/-- A constant: plain, or an aggregate of plain cells. -/
def plainV : Value → Bool
  | .agg cs => cs.toList.all plain
  | v => plain v

/-- What can be nil. -/
inductive NilK where
  | ptr | sl | mp | fn | ifc

def isNilV : NilK → Value → Option Bool
  | .ptr, .pointer a => some a.isNone
  | .sl, .slice a _ _ => some a.isNone
  | .mp, .map a => some a.isNone
  | .fn, .nilFunc => some true
  | .fn, .func _ _ _ => some false
  | .ifc, .nilIface => some true
  | .ifc, .iface _ _ => some false
  | _, _ => none

inductive ROp where
  | mv (x : Rv)
  | pick (c a b : Rv)
  | new (cells : List Value)
  | box (x : Rv)
  | build (zero : List Value) (parts : List (Nat × Nat × Rv))
  | mkSl (len : Nat) (zero : List Value) (parts : List (Nat × Nat × Rv))
  | load1 (x : Rv)
  | loadN (n : Nat) (x : Rv)
  | store (n : Nat) (x v : Rv)
  | chk (x : Rv)
  | bin (op : BinOp) (x y : Rv)
  | eqB (neg : Bool) (x y : Rv)
  | eqN (nk : NilK) (neg : Bool) (x : Rv)
  | eqA (op : BinOp) (t : TypeId) (x y : Rv)
  | un (op : UnOp) (x : Rv)
  | toInt (k : IntKind) (x : Rv)
  | s2b (x : Rv)
  | b2s (x : Rv)
  | s2s (x : Rv)
  | cvB (x : Rv)
  | iface (t : TypeId) (x : Rv)
  | func (fn : FuncId) (caps : List Rv)
  | make (esz bytes : Nat) (zero : List Value) (l c : Rv)
  | slStr (x : Rv) (lo hi : Option Rv)
  | sl (esz : Nat) (x : Rv) (lo hi mx : Option Rv)
  | slArr (n esz : Nat) (x : Rv) (lo hi mx : Option Rv)
  | fieldAddr (off : Nat) (x : Rv)
  | field1 (off : Nat) (x : Rv)
  | fieldN (off n : Nat) (x : Rv)
  | ixAddr (esz : Nat) (x i : Rv)
  | ixAddrA (n esz : Nat) (x i : Rv)
  | ixArr (n : Nat) (x i : Rv)
  | ixArrN (n esz : Nat) (x i : Rv)
  | ixStr (x i : Rv)
  | extract (x : Rv) (i : Nat)
  | lenStr (x : Rv)
  | lenSl (x : Rv)
  | lenK (n : Nat)
  | append (esz bytes : Nat) (x y : Rv)
  | appendS (x y : Rv)
  | copy (esz : Nat) (x y : Rv)
  | copyS (x y : Rv)
  | mm (mx : Bool) (x : Rv) (ys : List Rv)

/-! ### Integers, strings -/

def bitsV (op : BinOp) (k : IntKind) (x y : Int) : Int :=
  let a := BitVec.ofInt k.bits x
  let b := BitVec.ofInt k.bits y
  match op with
  | .and => k.wrap (a &&& b).toNat
  | .or => k.wrap (a ||| b).toNat
  | .xor => k.wrap (a ^^^ b).toNat
  | _ => k.wrap (a &&& ~~~b).toNat

def shlV (k : IntKind) (x y : Int) : Int := k.wrap (x * 2 ^ (min y.toNat k.bits))
def shrV (k : IntKind) (x y : Int) : Int := x.fdiv (2 ^ (min y.toNat k.bits))

/-- A binary operation on whole numbers of one kind. -/
def binI (op : BinOp) (k : IntKind) (a b : Int) (K : Value → Prop) : Prop :=
  match op with
  | .add => K (.int k (k.wrap (a + b)))
  | .sub => K (.int k (k.wrap (a - b)))
  | .mul => K (.int k (k.wrap (a * b)))
  | .quo => b ≠ 0 ∧ K (.int k (k.wrap (a.tdiv b)))
  | .rem => b ≠ 0 ∧ K (.int k (a.tmod b))
  | .and => K (.int k (bitsV .and k a b))
  | .or => K (.int k (bitsV .or k a b))
  | .xor => K (.int k (bitsV .xor k a b))
  | .andNot => K (.int k (bitsV .andNot k a b))
  | .eql => K (.bool (a == b))
  | .neq => K (.bool (a != b))
  | .lss => K (.bool (a < b))
  | .leq => K (.bool (a ≤ b))
  | .gtr => K (.bool (a > b))
  | .geq => K (.bool (a ≥ b))
  | _ => False

def binS (op : BinOp) (x y : ByteArray) (K : Value → Prop) : Prop :=
  match op with
  | .add => ((x.size + y.size : Nat) : Int) ≤ IntKind.i64.max ∧ K (.string (x ++ y))
  | .eql => K (.bool (x.toList == y.toList))
  | .neq => K (.bool (!(x.toList == y.toList)))
  | .lss => K (.bool (Op.bytesLess x.toList y.toList))
  | .leq => K (.bool (Op.bytesLess x.toList y.toList || x.toList == y.toList))
  | .gtr => K (.bool (!(Op.bytesLess x.toList y.toList || x.toList == y.toList)))
  | .geq => K (.bool (!Op.bytesLess x.toList y.toList))
  | _ => False

def binK (op : BinOp) (x y : Value) (K : Value → Prop) : Prop :=
  match x, y with
  | .int k a, .int k' b =>
    match op with
    | .shl => 0 ≤ b ∧ K (.int k (shlV k a b))
    | .shr => 0 ≤ b ∧ K (.int k (shrV k a b))
    | _ => k = k' ∧ binI op k a b K
  | .string a, .string b => binS op a b K
  | _, _ => False

def unK (op : UnOp) (x : Value) (K : Value → Prop) : Prop :=
  match op, x with
  | .not, .bool b => K (.bool !b)
  | .neg, .int k n => K (.int k (k.wrap (0 - n)))
  | .xor, .int k n => K (.int k (bitsV .xor k (if k.signed then -1 else k.max) n))
  | _, _ => False

/-! ### Pieces of values -/

def fillL (cells : List Value) (f : Regs) : List (Nat × Nat × Rv) → Option (List Value)
  | [] => some cells
  | (off, sz, x) :: rest =>
    match cellsV (x.ev f) with
    | some l => if l.length = sz ∧ off + sz ≤ cells.length then fillL (splice cells off l) f rest else none
    | none => none

def byteOf : Value → Option UInt8
  | .int .u8 n => some (UInt8.ofNat n.toNat)
  | _ => none

def bytesOf : List Value → Option (List UInt8)
  | [] => some []
  | v :: l => match byteOf v, bytesOf l with
    | some b, some bs => some (b :: bs)
    | _, _ => none

def u8V (b : UInt8) : Value := .int .u8 b.toNat

def optIx (f : Regs) (o : Option Rv) (d : Int) : Option Int :=
  match o with
  | none => some d
  | some x => match x.ev f with
    | .int _ n => some n
    | _ => none

/-- The cells of the first k elements of a slice (none of an empty one). -/
def rowOf (m : Mem) (a : Option Addr) (cells : Nat) : Option (List Value) :=
  if cells = 0 then some [] else
  match a with
  | none => none
  | some a => match m.get a.block with
    | some (.cells l _) => if a.off + cells ≤ l.length then some ((l.drop a.off).take cells) else none
    | _ => none

/-- Cells into a block that may be written. -/
def writeK (m : Mem) (a : Addr) (off : Nat) (vs : List Value) (K : Mem → Prop) : Prop :=
  match m.get a.block with
  | some (.cells l false) => m.bar ≤ a.block ∧ a.off + off + vs.length ≤ l.length ∧ (∀ v ∈ vs, cellVal v = true) ∧ K (m.put a.block (.cells (splice l (a.off + off) vs) false))
  | _ => False

/-- 'append': in place where the capacity is there; else a new row, and, of a slice that may have more room than is known, the old row is gone. -/
def appendK (esz bytes : Nat) (m : Mem) (A : Option Addr) (n c : Nat) (k : Nat) (news : List Value) (K : Value → Mem → Prop) : Prop :=
  news.length = k * esz ∧ 0 < esz ∧ (∀ v ∈ news, cellVal v = true) ∧
  if n + k ≤ c then
    match A with
    | none => K (.slice A (n + k) c) m
    | some a => if k = 0 then K (.slice A (n + k) c) m else writeK m a (n * esz) news fun m' => K (.slice A (n + k) c) m'
  else
    (n + k) * bytes ≤ 140737488355328 ∧ n + k ≤ 9223372036854775807 ∧
    match rowOf m A (n * esz) with
    | none => False
    | some old =>
      match A with
      | none => K (.slice (some ⟨m.next, 0, some esz⟩) (n + k) (n + k)) (m.add (.cells (old ++ news) false))
      | some a => match a.spot with
        | none => K (.slice (some ⟨m.next, 0, some esz⟩) (n + k) (n + k)) (m.add (.cells (old ++ news) false))
        | some e => e = esz ∧ m.bar ≤ a.block ∧ (∃ l, m.get a.block = some (.cells l false)) ∧ K (.slice (some ⟨m.next, 0, some esz⟩) (n + k) (n + k)) ((m.kill a.block).add (.cells (old ++ news) false))

def mmV (mx : Bool) (k : IntKind) (a : Int) (f : Regs) : List Rv → Option Int
  | [] => some a
  | y :: ys => match y.ev f with
    | .int _ b => mmV mx k (if mx then (if b > a then b else a) else (if b < a then b else a)) f ys
    | _ => none

def pureRun {α : Type} (P : Program) : Sem α → Option α
  | .pure a => some a
  | .program k => pureRun P (k P)
  | .mark _ k => pureRun P k
  | _ => none

/-- What an operation comes to. -/
def ROp.vc (P : Program) (f : Regs) (m : Mem) (K : Value → Mem → Prop) : ROp → Prop
  | .mv x => K (x.ev f) m
  | .pick c a b => match c.ev f with
    | .bool b' => K (if b' then a.ev f else b.ev f) m
    | _ => False
  | .new l => K (.pointer (some ⟨m.next, 0, none⟩)) (m.add (.cells l false))
  | .box x => match cellsV (x.ev f) with
    | some l => K (.pointer (some ⟨m.next, 0, none⟩)) (m.add (.cells l false))
    | none => False
  | .build zero parts => match fillL zero f parts with
    | some l => K (.agg l.toArray) m
    | none => False
  | .mkSl len zero parts => match fillL zero f parts with
    | some l => K (.slice (some ⟨m.next, 0, none⟩) len len) (m.add (.cells l false))
    | none => False
  | .load1 x => match x.ev f with
    | .pointer (some a) => match m.get a.block with
      | some (.cells l _) => a.off < l.length ∧ K (l.getD a.off undef) m
      | _ => False
    | _ => False
  | .loadN n x => match x.ev f with
    | .pointer (some a) => match m.get a.block with
      | some (.cells l _) => a.off + n ≤ l.length ∧ K (.agg ((l.drop a.off).take n).toArray) m
      | _ => False
    | _ => False
  | .store n x v => match x.ev f with
    | .pointer (some a) => match cellsV (v.ev f) with
      | some l => l.length = n ∧ writeK m a 0 l fun m' => K undef m'
      | none => False
    | _ => False
  | .chk x => match x.ev f with
    | .pointer (some a) => K (.pointer (some a)) m
    | .func (.func g) fs cs => K (.func (.func g) fs cs) m
    | _ => False
  | .bin op x y => binK op (x.ev f) (y.ev f) fun v => K v m
  | .eqB neg x y => match x.ev f, y.ev f with
    | .bool a, .bool b => K (.bool (if neg then !(a == b) else (a == b))) m
    | _, _ => False
  | .eqN nk neg x => match isNilV nk (x.ev f) with
    | some b => K (.bool (if neg then !b else b)) m
    | none => False
  | .eqA op t x y => match x.ev f, y.ev f with
    | .agg xs, .agg ys => xs.toList.all plain = true ∧ ys.toList.all plain = true ∧
      match pureRun P (do eqGuard op t (.tmp 0) (.tmp 0) (.agg xs) (.agg ys); binOp op t (.agg xs) (.agg ys)) with
      | some (.bool b) => K (.bool b) m
      | _ => False
    | _, _ => False
  | .un op x => unK op (x.ev f) fun v => K v m
  | .toInt k x => match x.ev f with
    | .int _ n => K (.int k (k.wrap n)) m
    | _ => False
  | .s2b x => match x.ev f with
    | .string s => K (.slice (some ⟨m.next, 0, some 1⟩) s.size s.size) (m.add (.cells (s.data.toList.map u8V) false))
    | _ => False
  | .b2s x => match x.ev f with
    | .slice A n _ => match rowOf m A n with
      | some l => match bytesOf l with
        | some bs => K (.string ⟨bs.toArray⟩) m
        | none => False
      | none => False
    | _ => False
  | .s2s x => match x.ev f with
    | .string s => K (.string s) m
    | _ => False
  | .cvB x => match x.ev f with
    | .slice (some a) n c => match m.get a.block with
      | some (.cells _ false) => m.bar ≤ a.block ∧ 0 < c ∧ K (.slice (some a) n c) m
      | _ => False
    | _ => False
  | .iface t x => K (.iface t (x.ev f)) m
  | .func g caps => K (.func (.func g) #[] (caps.map fun x => x.ev f).toArray) m
  | .make esz bytes zero l c => match l.ev f, c.ev f with
    | .int _ l, .int _ c => 0 ≤ l ∧ l ≤ c ∧ bytes * c ≤ 281474976710656 ∧ c ≤ 9223372036854775807 ∧ zero ≠ [] ∧
      K (.slice (some ⟨m.next, 0, none⟩) l.toNat c.toNat) (m.add (.cells ((List.range (c.toNat * esz)).map fun i => zero.getD (i % zero.length) undef) false))
    | _, _ => False
  | .slStr x lo hi => match x.ev f with
    | .string s => match optIx f hi s.size with
      | some h => match optIx f lo 0 with
        | some l => 0 ≤ l ∧ l ≤ h ∧ h ≤ s.size ∧ K (.string (s.extract l.toNat h.toNat)) m
        | none => False
      | none => False
    | _ => False
  | .sl esz x lo hi mx => match x.ev f with
    | .slice A n c => match optIx f mx c with
      | some M => match optIx f hi n with
        | some H => match optIx f lo 0 with
          | some L => 0 ≤ L ∧ L ≤ H ∧ H ≤ M ∧ M ≤ c ∧ (mx.isSome = true → hi.isSome = true) ∧
            match A with
            | none => K (.slice none 0 0) m
            | some a => (mx.isSome = true ∨ a.spot = none ∨ a.spot = some esz) ∧
              K (.slice (some ⟨a.block, a.off + L.toNat * esz, if mx.isSome then none else a.spot⟩) (H - L).toNat (M - L).toNat) m
          | none => False
        | none => False
      | none => False
    | _ => False
  | .slArr n esz x lo hi mx => match x.ev f with
    | .pointer (some a) => match optIx f mx n with
      | some M => match optIx f hi n with
        | some H => match optIx f lo 0 with
          | some L => 0 ≤ L ∧ L ≤ H ∧ H ≤ M ∧ M ≤ n ∧ (mx.isSome = true → hi.isSome = true) ∧
            K (.slice (some ⟨a.block, a.off + L.toNat * esz, none⟩) (H - L).toNat (M - L).toNat) m
          | none => False
        | none => False
      | none => False
    | _ => False
  | .fieldAddr off x => match x.ev f with
    | .pointer (some a) => K (.pointer (some ⟨a.block, a.off + off, none⟩)) m
    | _ => False
  | .field1 off x => match x.ev f with
    | .agg cs => off < cs.size ∧ K (cs.getD off undef) m
    | _ => False
  | .fieldN off n x => match x.ev f with
    | .agg cs => K (.agg (cs.extract off (off + n))) m
    | _ => False
  | .ixAddr esz x i => match x.ev f, i.ev f with
    | .slice (some a) n _, .int _ i => 0 ≤ i ∧ i < n ∧ K (.pointer (some ⟨a.block, a.off + i.toNat * esz, none⟩)) m
    | _, _ => False
  | .ixAddrA n esz x i => match x.ev f, i.ev f with
    | .pointer (some a), .int _ i => 0 ≤ i ∧ i < n ∧ K (.pointer (some ⟨a.block, a.off + i.toNat * esz, none⟩)) m
    | _, _ => False
  | .ixArr n x i => match x.ev f, i.ev f with
    | .agg cs, .int _ i => 0 ≤ i ∧ i < n ∧ i.toNat < cs.size ∧ K (cs.getD i.toNat undef) m
    | _, _ => False
  | .ixArrN n esz x i => match x.ev f, i.ev f with
    | .agg cs, .int _ i => 0 ≤ i ∧ i < n ∧ K (.agg (cs.extract (i.toNat * esz) (i.toNat * esz + esz))) m
    | _, _ => False
  | .ixStr x i => match x.ev f, i.ev f with
    | .string s, .int _ i => 0 ≤ i ∧ i < s.size ∧ K (u8V (s.data.toList.getD i.toNat 0)) m
    | _, _ => False
  | .extract x i => match x.ev f with
    | .tuple vs => i < vs.size ∧ K (vs.getD i undef) m
    | _ => False
  | .lenStr x => match x.ev f with
    | .string s => K (.int .i64 s.size) m
    | _ => False
  | .lenSl x => match x.ev f with
    | .slice _ n _ => K (.int .i64 n) m
    | _ => False
  | .lenK n => K (.int .i64 n) m
  | .append esz bytes x y => match x.ev f, y.ev f with
    | .slice A n c, .slice B k _ => match rowOf m B (k * esz) with
      | some news => appendK esz bytes m A n c k news K
      | none => False
    | _, _ => False
  | .appendS x y => match x.ev f, y.ev f with
    | .slice A n c, .string s => appendK 1 1 m A n c s.size (s.data.toList.map u8V) K
    | _, _ => False
  | .copy esz x y => match x.ev f, y.ev f with
    | .slice A n _, .slice B k _ => match rowOf m B (Nat.min k n * esz) with
      | some news => match A with
        | none => K (.int .i64 (Nat.min k n : Nat)) m
        | some a => if Nat.min k n * esz = 0 then K (.int .i64 (Nat.min k n : Nat)) m else writeK m a 0 news fun m' => K (.int .i64 (Nat.min k n : Nat)) m'
      | none => False
    | _, _ => False
  | .copyS x y => match x.ev f, y.ev f with
    | .slice A n _, .string s => match A with
      | none => K (.int .i64 (Nat.min s.size n : Nat)) m
      | some a => if Nat.min s.size n = 0 then K (.int .i64 (Nat.min s.size n : Nat)) m
        else writeK m a 0 ((s.data.toList.take (Nat.min s.size n)).map u8V) fun m' => K (.int .i64 (Nat.min s.size n : Nat)) m'
    | _, _ => False
  | .mm mx x ys => match x.ev f with
    | .int k a => match mmV mx k a f ys with
      | some b => K (.int k b) m
      | none => False
    | _ => False

end Go.Ga
