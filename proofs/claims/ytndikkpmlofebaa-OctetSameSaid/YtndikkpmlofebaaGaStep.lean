/- Walking through resolved code: one step at a time, for the simplifier. -/
import Derived.Test.YtndikkpmlofebaaGaLaw
namespace Go.Ga
open Go

/-! ### What is left to do, as data -/

inductive Stk where
  | top (Q : AEx → Regs → Mem → Prop)
  | thn (b : RC) (s : Stk)
  | blk (id : Nat) (s : Stk)

def D (P : Program) : Stk → AEx → Regs → Mem → Prop
  | .top Q => Q
  | .thn b s => thenK (fun f m => b.vc P f m (D P s)) (D P s)
  | .blk id s => blockK id (D P s)

def goQ (P : Program) (qs ts : List RO) (f : Regs) (m : Mem) (Q : AEx → Regs → Mem → Prop) : Prop := goQuiet P qs f m fun f1 m1 => goOps P ts f1 m1 Q

def condK (P : Program) (t : Bool) (a b : RC) (f : Regs) (m : Mem) (Q : AEx → Regs → Mem → Prop) : Prop := (t = true → a.vc P f m Q) ∧ (t = false → b.vc P f m Q)
def guardK (P : Program) (t : Bool) (d : Option Nat) (it : Item) (l : List RO) (f : Regs) (m : Mem) (Q : AEx → Regs → Mem → Prop) : Prop :=
  if t then goOps P (⟨d, it, none⟩ :: l) f m Q else goOps P l (putR f d undef) m Q
def guardQ (P : Program) (t : Bool) (d : Option Nat) (it : Item) (l ts : List RO) (f : Regs) (m : Mem) (Q : AEx → Regs → Mem → Prop) : Prop :=
  if t then goQ P (⟨d, it, none⟩ :: l) ts f m Q else goQ P l ts (putR f d undef) m Q

def callK (P : Program) (g : Nat) (args : List Value) (d : Option Nat) (l : List RO) (f : Regs) (m : Mem) (Q : AEx → Regs → Mem → Prop) : Prop :=
  Fn P g args m fun res m' => match res with
    | .ret v => goOps P l (putR f d v) m' Q
    | .pan v => Q (.pan v) f m'
def callQ (P : Program) (g : Nat) (args : List Value) (d : Option Nat) (l ts : List RO) (f : Regs) (m : Mem) (Q : AEx → Regs → Mem → Prop) : Prop :=
  Fn P g args m.raise fun res m' => match res with
    | .ret v => goQ P l ts (putR f d v) (m'.lower m.bar) Q
    | .pan _ => False

/-! ### Taking values apart -/

def asI (v : Value) (K : IntKind → Int → Prop) : Prop := match v with | .int k n => K k n | _ => False
def asB (v : Value) (K : Bool → Prop) : Prop := match v with | .bool b => K b | _ => False
def asP (v : Value) (K : Addr → Prop) : Prop := match v with | .pointer (some a) => K a | _ => False
def asS (v : Value) (K : Option Addr → Nat → Nat → Prop) : Prop := match v with | .slice a n c => K a n c | _ => False
def asStr (v : Value) (K : ByteArray → Prop) : Prop := match v with | .string s => K s | _ => False
def asT (v : Value) (K : Array Value → Prop) : Prop := match v with | .tuple vs => K vs | _ => False
def asA (v : Value) (K : Array Value → Prop) : Prop := match v with | .agg vs => K vs | _ => False
def asO {α : Type} (o : Option α) (K : α → Prop) : Prop := match o with | some a => K a | none => False
def asC (o : Option Blk) (K : List Value → Bool → Prop) : Prop := match o with | some (.cells c ro) => K c ro | _ => False
def asG (v : Value) (K : Bool → Prop) (Z : Prop) : Prop := match v with | .bool b => K b | .chan _ => False | _ => Z

@[congr] theorem asI_congr {v v' : Value} {K : IntKind → Int → Prop} (h : v = v') : asI v K = asI v' K := by rw [h]
@[congr] theorem asB_congr {v v' : Value} {K : Bool → Prop} (h : v = v') : asB v K = asB v' K := by rw [h]
@[congr] theorem asP_congr {v v' : Value} {K : Addr → Prop} (h : v = v') : asP v K = asP v' K := by rw [h]
@[congr] theorem asS_congr {v v' : Value} {K : Option Addr → Nat → Nat → Prop} (h : v = v') : asS v K = asS v' K := by rw [h]
@[congr] theorem asStr_congr {v v' : Value} {K : ByteArray → Prop} (h : v = v') : asStr v K = asStr v' K := by rw [h]
@[congr] theorem asT_congr {v v' : Value} {K : Array Value → Prop} (h : v = v') : asT v K = asT v' K := by rw [h]
@[congr] theorem asA_congr {v v' : Value} {K : Array Value → Prop} (h : v = v') : asA v K = asA v' K := by rw [h]
@[congr] theorem asO_congr {α : Type} {o o' : Option α} {K : α → Prop} (h : o = o') : asO o K = asO o' K := by rw [h]
@[congr] theorem asC_congr {o o' : Option Blk} {K : List Value → Bool → Prop} (h : o = o') : asC o K = asC o' K := by rw [h]
@[congr] theorem asG_congr {v v' : Value} {K : Bool → Prop} {Z : Prop} (h : v = v') : asG v K Z = asG v' K Z := by rw [h]
@[congr] theorem binK_congr {op : BinOp} {x y x' y' : Value} {K : Value → Prop} (h : x = x') (h2 : y = y') : binK op x y K = binK op x' y' K := by rw [h, h2]
@[congr] theorem unK_congr {op : UnOp} {x x' : Value} {K : Value → Prop} (h : x = x') : unK op x K = unK op x' K := by rw [h]

section
variable {P : Program} {f : Regs} {m : Mem} {Q : AEx → Regs → Mem → Prop} {s : Stk} {d : Option Nat} {l ts : List RO}

theorem asI_e (k : IntKind) (n : Int) (K) : asI (.int k n) K = K k n := (rfl)
theorem asB_e (b : Bool) (K) : asB (.bool b) K = K b := (rfl)
theorem asP_e (a : Addr) (K) : asP (.pointer (some a)) K = K a := (rfl)
theorem asS_e (a n c) (K) : asS (.slice a n c) K = K a n c := (rfl)
theorem asStr_e (s : ByteArray) (K) : asStr (.string s) K = K s := (rfl)
theorem asT_e (s : Array Value) (K) : asT (.tuple s) K = K s := (rfl)
theorem asA_e (s : Array Value) (K) : asA (.agg s) K = K s := (rfl)
theorem asO_e {α : Type} (a : α) (K) : asO (some a) K = K a := (rfl)
theorem asC_e (c : List Value) (ro : Bool) (K) : asC (some (.cells c ro)) K = K c ro := (rfl)
theorem asG_b (b : Bool) (K) (Z : Prop) : asG (.bool b) K Z = K b := (rfl)
theorem asG_u (K) (Z : Prop) : asG undef K Z = Z := (rfl)

/-! ### Code -/
theorem vc_skip : RC.vc P .skip f m Q = Q .normal f m := (rfl)
theorem vc_ops0 (ts : List RO) : RC.vc P (.ops [] ts) f m Q = goOps P ts f m Q := (rfl)
theorem vc_opsQ (o : RO) (qs ts : List RO) : RC.vc P (.ops (o :: qs) ts) f m Q = goQ P (o :: qs) ts f m Q := (rfl)
theorem vc_seq (a b : RC) : RC.vc P (.seq a b) f m (D P s) = RC.vc P a f m (D P (.thn b s)) := (rfl)
theorem vc_block (id : Nat) (b : RC) : RC.vc P (.block id b) f m (D P s) = RC.vc P b f m (D P (.blk id s)) := (rfl)
theorem vc_exit (id : Nat) : RC.vc P (.exit id) f m Q = Q (.exit id) f m := (rfl)
theorem vc_ret : RC.vc P .ret f m Q = Q .ret f m := (rfl)
theorem vc_cond (c : Rv) (a b : RC) : RC.vc P (.cond c a b) f m Q = asB (c.ev f) fun t => condK P t a b f m Q := by
  show (match c.ev f with | .bool t => _ | _ => False) = _
  cases c.ev f <;> rfl

theorem D_top (Q : AEx → Regs → Mem → Prop) (x : AEx) : D P (.top Q) x f m = Q x f m := (rfl)
theorem D_thn_n (b : RC) : D P (.thn b s) .normal f m = RC.vc P b f m (D P s) := (rfl)
theorem D_thn_e (b : RC) (i : Nat) : D P (.thn b s) (.exit i) f m = D P s (.exit i) f m := (rfl)
theorem D_thn_r (b : RC) : D P (.thn b s) .ret f m = D P s .ret f m := (rfl)
theorem D_thn_p (b : RC) (v : Value) : D P (.thn b s) (.pan v) f m = D P s (.pan v) f m := (rfl)
theorem D_blk_n (i : Nat) : D P (.blk i s) .normal f m = D P s .normal f m := (rfl)
theorem D_blk_e (i j : Nat) : D P (.blk i s) (.exit j) f m = if j = i then D P s .normal f m else D P s (.exit j) f m := (rfl)
theorem D_blk_r (i : Nat) : D P (.blk i s) .ret f m = D P s .ret f m := (rfl)
theorem D_blk_p (i : Nat) (v : Value) : D P (.blk i s) (.pan v) f m = D P s (.pan v) f m := (rfl)
theorem condK_t (a b : RC) : condK P true a b f m Q = RC.vc P a f m Q := by simp [condK]
theorem condK_f (a b : RC) : condK P false a b f m Q = RC.vc P b f m Q := by simp [condK]
theorem condK_of {t : Bool} {a b : RC} (h1 : t = true → RC.vc P a f m Q) (h2 : t = false → RC.vc P b f m Q) : condK P t a b f m Q := ⟨h1, h2⟩
theorem condK_dec {p : Prop} [Decidable p] {a b : RC} (h1 : p → RC.vc P a f m Q) (h2 : ¬ p → RC.vc P b f m Q) : condK P (decide p) a b f m Q := ⟨fun h => h1 (of_decide_eq_true h), fun h => h2 (of_decide_eq_false h)⟩

theorem go_nil : goOps P [] f m Q = Q .normal f m := (rfl)
theorem goQ_nil : goQ P [] ts f m Q = goOps P ts f m Q := (rfl)
theorem go_guard (it : Item) (sl : Nat) (w : Bool) : goOps P (⟨d, it, some (sl, w)⟩ :: l) f m Q = asG (f sl) (fun b => guardK P (b == w) d it l f m Q) (goOps P l (putR f d undef) m Q) := by
  simp only [goOps, wantedA]
  cases f sl with
  | bool b =>
    cases h : (b == w)
    · simp only [asG, guardK, h, Bool.false_eq_true, if_false]
    · simp only [asG, guardK, h, if_true, goOps, wantedA]
  | chan => simp [asG]
  | _ => simp [asG]
theorem goQ_guard (it : Item) (sl : Nat) (w : Bool) : goQ P (⟨d, it, some (sl, w)⟩ :: l) ts f m Q = asG (f sl) (fun b => guardQ P (b == w) d it l ts f m Q) (goQ P l ts (putR f d undef) m Q) := by
  simp only [goQ, goQuiet, wantedA]
  cases f sl with
  | bool b =>
    cases h : (b == w)
    · simp only [asG, guardQ, h, Bool.false_eq_true, if_false, goQ]
    · simp only [asG, guardQ, h, if_true, goQ, goQuiet, wantedA]
  | chan => simp [asG]
  | _ => simp [asG]
theorem guardK_t (it : Item) : guardK P true d it l f m Q = goOps P (⟨d, it, none⟩ :: l) f m Q := (rfl)
theorem guardK_f (it : Item) : guardK P false d it l f m Q = goOps P l (putR f d undef) m Q := (rfl)
theorem guardQ_t (it : Item) : guardQ P true d it l ts f m Q = goQ P (⟨d, it, none⟩ :: l) ts f m Q := (rfl)
theorem guardQ_f (it : Item) : guardQ P false d it l ts f m Q = goQ P l ts (putR f d undef) m Q := (rfl)

theorem put_e (d : Nat) (v : Value) (i : Nat) : putR f (some d) v i = if i = d then v else f i := (rfl)
theorem put_n (v : Value) : putR f none v = f := (rfl)
theorem ev_t (i : Nat) : Rv.ev f (.t i) = f i := (rfl)
theorem ev_k (v : Value) : Rv.ev f (.k v) = v := (rfl)

/-! ### Operations: first as they are -/
theorem go_op (o : ROp) : goOps P (⟨d, .op o, none⟩ :: l) f m Q = o.vc P f m fun v m' => goOps P l (putR f d v) m' Q := (rfl)
theorem goQ_op (o : ROp) : goQ P (⟨d, .op o, none⟩ :: l) ts f m Q = o.vc P f m.raise fun v m' => goQ P l ts (putR f d v) (m'.lower m.bar) Q := (rfl)

theorem go_call0 (g : Nat) (caps : Array Value) (args : List Rv) : goOps P (⟨d, .call (.k (.func (.func g) #[] caps)) args, none⟩ :: l) f m Q = callK P g (args.map (Rv.ev f) ++ caps.toList) d l f m Q := by
  simp only [goOps, wantedA, Item.vc, ev_k, callK, true_and]; rfl
theorem goQ_call0 (g : Nat) (caps : Array Value) (args : List Rv) : goQ P (⟨d, .call (.k (.func (.func g) #[] caps)) args, none⟩ :: l) ts f m Q = callQ P g (args.map (Rv.ev f) ++ caps.toList) d l ts f m Q := by
  simp only [goQ, goQuiet, wantedA, Item.vc, ev_k, callQ, true_and]; rfl
def asF (v : Value) (K : Nat → Array Value → Prop) : Prop := match v with | .func (.func g) fs caps => fs = #[] ∧ K g caps | _ => False
@[congr] theorem asF_congr {v v' : Value} {K : Nat → Array Value → Prop} (h : v = v') : asF v K = asF v' K := by rw [h]
theorem asF_e (g : Nat) (cs : Array Value) (K) : asF (.func (.func g) #[] cs) K = K g cs := by simp [asF]
theorem go_callT (t : Nat) (args : List Rv) : goOps P (⟨d, .call (.t t) args, none⟩ :: l) f m Q = asF (f t) fun g caps => callK P g (args.map (Rv.ev f) ++ caps.toList) d l f m Q := by
  simp only [goOps, wantedA, Item.vc, ev_t, callK, asF]
  cases f t with
  | func fn fs caps => cases fn <;> rfl
  | _ => rfl

section
variable {K : Value → Mem → Prop}
theorem o_mv (x : Rv) : ROp.vc P f m K (.mv x) = K (x.ev f) m := (rfl)
theorem o_pick (c a b : Rv) : ROp.vc P f m K (.pick c a b) = asB (c.ev f) fun t => K (if t then a.ev f else b.ev f) m := by
  dsimp only [ROp.vc, asB]; cases c.ev f <;> rfl
theorem o_new (l : List Value) : ROp.vc P f m K (.new l) = K (.pointer (some ⟨m.next, 0, none⟩)) (m.add (.cells l false)) := (rfl)
theorem o_box (x : Rv) : ROp.vc P f m K (.box x) = asO (cellsV (x.ev f)) fun l => K (.pointer (some ⟨m.next, 0, none⟩)) (m.add (.cells l false)) := by
  dsimp only [ROp.vc, asO]; cases cellsV (x.ev f) <;> rfl
theorem o_build (z : List Value) (ps) : ROp.vc P f m K (.build z ps) = asO (fillL z f ps) fun l => K (.agg l.toArray) m := by
  dsimp only [ROp.vc, asO]; cases fillL z f ps <;> rfl
theorem o_mkSl (n : Nat) (z : List Value) (ps) : ROp.vc P f m K (.mkSl n z ps) = asO (fillL z f ps) fun l => K (.slice (some ⟨m.next, 0, none⟩) n n) (m.add (.cells l false)) := by
  dsimp only [ROp.vc, asO]; cases fillL z f ps <;> rfl
theorem o_load1 (x : Rv) : ROp.vc P f m K (.load1 x) = asP (x.ev f) fun a => asC (m.get a.block) fun l _ => a.off < l.length ∧ K (l.getD a.off undef) m := by
  dsimp only [ROp.vc, asP, asC]
  cases x.ev f with
  | pointer a =>
    cases a with
    | none => rfl
    | some a =>
      dsimp only
      cases m.get a.block with
      | none => rfl
      | some b => cases b <;> rfl
  | _ => rfl
theorem o_loadN (n : Nat) (x : Rv) : ROp.vc P f m K (.loadN n x) = asP (x.ev f) fun a => asC (m.get a.block) fun l _ => a.off + n ≤ l.length ∧ K (.agg ((l.drop a.off).take n).toArray) m := by
  dsimp only [ROp.vc, asP, asC]
  cases x.ev f with
  | pointer a =>
    cases a with
    | none => rfl
    | some a =>
      dsimp only
      cases m.get a.block with
      | none => rfl
      | some b => cases b <;> rfl
  | _ => rfl
theorem o_store (n : Nat) (x v : Rv) : ROp.vc P f m K (.store n x v) = asP (x.ev f) fun a => asO (cellsV (v.ev f)) fun l => l.length = n ∧ writeK m a 0 l fun m' => K undef m' := by
  dsimp only [ROp.vc, asP, asO]
  cases x.ev f with
  | pointer a =>
    cases a with
    | none => rfl
    | some a => dsimp only; cases cellsV (v.ev f) <;> rfl
  | _ => rfl
theorem o_bin (op : BinOp) (x y : Rv) : ROp.vc P f m K (.bin op x y) = binK op (x.ev f) (y.ev f) fun v => K v m := (rfl)
theorem o_eqB (neg : Bool) (x y : Rv) : ROp.vc P f m K (.eqB neg x y) = asB (x.ev f) fun a => asB (y.ev f) fun b => K (.bool (if neg then !(a == b) else (a == b))) m := by
  dsimp only [ROp.vc, asB]
  cases x.ev f with
  | bool a => cases y.ev f <;> rfl
  | _ => rfl
theorem o_eqN (nk : NilK) (neg : Bool) (x : Rv) : ROp.vc P f m K (.eqN nk neg x) = asO (isNilV nk (x.ev f)) fun b => K (.bool (if neg then !b else b)) m := by
  dsimp only [ROp.vc, asO]; cases isNilV nk (x.ev f) <;> rfl
theorem o_un (op : UnOp) (x : Rv) : ROp.vc P f m K (.un op x) = unK op (x.ev f) fun v => K v m := (rfl)
theorem o_toInt (k : IntKind) (x : Rv) : ROp.vc P f m K (.toInt k x) = asI (x.ev f) fun _ n => K (.int k (k.wrap n)) m := by
  dsimp only [ROp.vc, asI]; cases x.ev f <;> rfl
theorem o_s2b (x : Rv) : ROp.vc P f m K (.s2b x) = asStr (x.ev f) fun s => K (.slice (some ⟨m.next, 0, some 1⟩) s.size s.size) (m.add (.cells (s.data.toList.map u8V) false)) := by
  dsimp only [ROp.vc, asStr]; cases x.ev f <;> rfl
theorem o_b2s (x : Rv) : ROp.vc P f m K (.b2s x) = asS (x.ev f) fun A n _ => asO (rowOf m A n) fun l => asO (bytesOf l) fun bs => K (.string ⟨bs.toArray⟩) m := by
  dsimp only [ROp.vc, asS, asO]
  cases x.ev f with
  | slice a n c =>
    dsimp only
    cases rowOf m a n with
    | none => rfl
    | some l => dsimp only; cases bytesOf l <;> rfl
  | _ => rfl
theorem o_s2s (x : Rv) : ROp.vc P f m K (.s2s x) = asStr (x.ev f) fun s => K (.string s) m := by
  dsimp only [ROp.vc, asStr]; cases x.ev f <;> rfl
theorem o_iface (t : TypeId) (x : Rv) : ROp.vc P f m K (.iface t x) = K (.iface t (x.ev f)) m := (rfl)
theorem o_func (g : FuncId) (caps : List Rv) : ROp.vc P f m K (.func g caps) = K (.func (.func g) #[] (caps.map fun x => x.ev f).toArray) m := (rfl)
theorem o_make (esz bytes : Nat) (zero : List Value) (l c : Rv) : ROp.vc P f m K (.make esz bytes zero l c) = asI (l.ev f) fun _ l => asI (c.ev f) fun _ c => 0 ≤ l ∧ l ≤ c ∧ bytes * c ≤ 281474976710656 ∧ c ≤ 9223372036854775807 ∧ zero ≠ [] ∧
      K (.slice (some ⟨m.next, 0, none⟩) l.toNat c.toNat) (m.add (.cells ((List.range (c.toNat * esz)).map fun i => zero.getD (i % zero.length) undef) false)) := by
  dsimp only [ROp.vc, asI]
  cases l.ev f with
  | int k a => dsimp only; cases c.ev f <;> rfl
  | _ => rfl
theorem o_slStr (x : Rv) (lo hi : Option Rv) : ROp.vc P f m K (.slStr x lo hi) = asStr (x.ev f) fun s => asO (optIx f hi s.size) fun h => asO (optIx f lo 0) fun l => 0 ≤ l ∧ l ≤ h ∧ h ≤ s.size ∧ K (.string (s.extract l.toNat h.toNat)) m := by
  dsimp only [ROp.vc, asStr, asO]
  cases x.ev f with
  | string s =>
    dsimp only
    cases optIx f hi s.size with
    | none => rfl
    | some h => dsimp only; cases optIx f lo 0 <;> rfl
  | _ => rfl
def slK (m : Mem) (esz : Nat) (mx : Bool) (A : Option Addr) (L H M : Int) (K : Value → Mem → Prop) : Prop := match A with
  | none => K (.slice none 0 0) m
  | some a => (mx = true ∨ a.spot = none ∨ a.spot = some esz) ∧ K (.slice (some ⟨a.block, a.off + L.toNat * esz, if mx then none else a.spot⟩) (H - L).toNat (M - L).toNat) m
theorem slK_n {esz mx L H M} : slK m esz mx none L H M K = K (.slice none 0 0) m := (rfl)
theorem slK_s {esz mx a L H M} : slK m esz mx (some a) L H M K = ((mx = true ∨ a.spot = none ∨ a.spot = some esz) ∧ K (.slice (some ⟨a.block, a.off + L.toNat * esz, if mx then none else a.spot⟩) (H - L).toNat (M - L).toNat) m) := (rfl)
theorem o_sl (esz : Nat) (x : Rv) (lo hi mx : Option Rv) : ROp.vc P f m K (.sl esz x lo hi mx) = asS (x.ev f) fun A n c => asO (optIx f mx c) fun M => asO (optIx f hi n) fun H => asO (optIx f lo 0) fun L =>
    0 ≤ L ∧ L ≤ H ∧ H ≤ M ∧ M ≤ c ∧ (mx.isSome = true → hi.isSome = true) ∧ slK m esz mx.isSome A L H M K := by
  dsimp only [ROp.vc, asS, asO, slK]
  cases x.ev f with
  | slice A n c =>
    dsimp only
    cases optIx f mx c with
    | none => rfl
    | some h =>
      dsimp only
      cases optIx f hi n with
      | none => rfl
      | some h =>
        dsimp only
        cases optIx f lo 0 with
        | none => rfl
        | some h => cases A <;> rfl
  | _ => rfl
theorem o_slArr (n esz : Nat) (x : Rv) (lo hi mx : Option Rv) : ROp.vc P f m K (.slArr n esz x lo hi mx) = asP (x.ev f) fun a => asO (optIx f mx n) fun M => asO (optIx f hi n) fun H => asO (optIx f lo 0) fun L =>
    0 ≤ L ∧ L ≤ H ∧ H ≤ M ∧ M ≤ n ∧ (mx.isSome = true → hi.isSome = true) ∧ K (.slice (some ⟨a.block, a.off + L.toNat * esz, none⟩) (H - L).toNat (M - L).toNat) m := by
  dsimp only [ROp.vc, asP, asO]
  cases x.ev f with
  | pointer A =>
    cases A with
    | none => rfl
    | some A =>
      dsimp only
      cases optIx f mx n with
      | none => rfl
      | some h =>
        dsimp only
        cases optIx f hi n with
        | none => rfl
        | some h => dsimp only; cases optIx f lo 0 <;> rfl
  | _ => rfl
theorem o_fieldAddr (off : Nat) (x : Rv) : ROp.vc P f m K (.fieldAddr off x) = asP (x.ev f) fun a => K (.pointer (some ⟨a.block, a.off + off, none⟩)) m := by
  dsimp only [ROp.vc, asP]
  cases x.ev f with
  | pointer A => cases A <;> rfl
  | _ => rfl
theorem o_field1 (off : Nat) (x : Rv) : ROp.vc P f m K (.field1 off x) = asA (x.ev f) fun cs => off < cs.size ∧ K (cs.getD off undef) m := by
  dsimp only [ROp.vc, asA]; cases x.ev f <;> rfl
theorem o_fieldN (off n : Nat) (x : Rv) : ROp.vc P f m K (.fieldN off n x) = asA (x.ev f) fun cs => K (.agg (cs.extract off (off + n))) m := by
  dsimp only [ROp.vc, asA]; cases x.ev f <;> rfl
theorem o_ixAddr (esz : Nat) (x i : Rv) : ROp.vc P f m K (.ixAddr esz x i) = asS (x.ev f) fun A n _ => asI (i.ev f) fun _ i => asO A fun a => 0 ≤ i ∧ i < n ∧ K (.pointer (some ⟨a.block, a.off + i.toNat * esz, none⟩)) m := by
  dsimp only [ROp.vc, asS, asI, asO]
  cases x.ev f with
  | slice A n c => cases A <;> dsimp only <;> cases i.ev f <;> rfl
  | _ => rfl
theorem o_ixAddrA (n esz : Nat) (x i : Rv) : ROp.vc P f m K (.ixAddrA n esz x i) = asP (x.ev f) fun a => asI (i.ev f) fun _ i => 0 ≤ i ∧ i < n ∧ K (.pointer (some ⟨a.block, a.off + i.toNat * esz, none⟩)) m := by
  dsimp only [ROp.vc, asP, asI]
  cases x.ev f with
  | pointer A => cases A <;> dsimp only <;> cases i.ev f <;> rfl
  | _ => rfl
theorem o_ixArr (n : Nat) (x i : Rv) : ROp.vc P f m K (.ixArr n x i) = asA (x.ev f) fun cs => asI (i.ev f) fun _ i => 0 ≤ i ∧ i < n ∧ i.toNat < cs.size ∧ K (cs.getD i.toNat undef) m := by
  dsimp only [ROp.vc, asA, asI]
  cases x.ev f with
  | agg cs => dsimp only; cases i.ev f <;> rfl
  | _ => rfl
theorem o_ixStr (x i : Rv) : ROp.vc P f m K (.ixStr x i) = asStr (x.ev f) fun s => asI (i.ev f) fun _ i => 0 ≤ i ∧ i < s.size ∧ K (u8V (s.data.toList.getD i.toNat 0)) m := by
  dsimp only [ROp.vc, asStr, asI]
  cases x.ev f with
  | string cs => dsimp only; cases i.ev f <;> rfl
  | _ => rfl
theorem o_extract (x : Rv) (i : Nat) : ROp.vc P f m K (.extract x i) = asT (x.ev f) fun vs => i < vs.size ∧ K (vs.getD i undef) m := by
  dsimp only [ROp.vc, asT]; cases x.ev f <;> rfl
theorem o_lenStr (x : Rv) : ROp.vc P f m K (.lenStr x) = asStr (x.ev f) fun s => K (.int .i64 s.size) m := by
  dsimp only [ROp.vc, asStr]; cases x.ev f <;> rfl
theorem o_lenSl (x : Rv) : ROp.vc P f m K (.lenSl x) = asS (x.ev f) fun _ n _ => K (.int .i64 n) m := by
  dsimp only [ROp.vc, asS]; cases x.ev f <;> rfl
theorem o_lenK (n : Nat) : ROp.vc P f m K (.lenK n) = K (.int .i64 n) m := (rfl)
theorem o_append (esz bytes : Nat) (x y : Rv) : ROp.vc P f m K (.append esz bytes x y) = asS (x.ev f) fun A n c => asS (y.ev f) fun B k _ => asO (rowOf m B (k * esz)) fun news => appendK esz bytes m A n c k news K := by
  dsimp only [ROp.vc, asS, asO]
  cases x.ev f with
  | slice A n c =>
    dsimp only
    cases y.ev f with
    | slice B k _ => dsimp only; cases rowOf m B (k * esz) <;> rfl
    | _ => rfl
  | _ => rfl
theorem o_appendS (x y : Rv) : ROp.vc P f m K (.appendS x y) = asS (x.ev f) fun A n c => asStr (y.ev f) fun s => appendK 1 1 m A n c s.size (s.data.toList.map u8V) K := by
  dsimp only [ROp.vc, asS, asStr]
  cases x.ev f with
  | slice A n c => dsimp only; cases y.ev f <;> rfl
  | _ => rfl
theorem o_mm (mx : Bool) (x : Rv) (ys : List Rv) : ROp.vc P f m K (.mm mx x ys) = asI (x.ev f) fun k a => asO (mmV mx k a f ys) fun b => K (.int k b) m := by
  dsimp only [ROp.vc, asI, asO]
  cases x.ev f with
  | int k a => dsimp only; cases mmV mx k a f ys <;> rfl
  | _ => rfl
end

theorem mm_nil (mx : Bool) (k : IntKind) (a : Int) : mmV mx k a f [] = some a := (rfl)
theorem mm_k (mx : Bool) (k k2 : IntKind) (a b : Int) (ys : List Rv) : mmV mx k a f (.k (.int k2 b) :: ys) = mmV mx k (if mx then (if b > a then b else a) else (if b < a then b else a)) f ys := (rfl)

section
variable {K : Value → Prop} {k : IntKind} {a b : Int}
theorem b_add : binK .add (.int k a) (.int k b) K = K (.int k (k.wrap (a + b))) := by simp [binK, binI]
theorem b_sub : binK .sub (.int k a) (.int k b) K = K (.int k (k.wrap (a - b))) := by simp [binK, binI]
theorem b_mul : binK .mul (.int k a) (.int k b) K = K (.int k (k.wrap (a * b))) := by simp [binK, binI]
theorem b_quo : binK .quo (.int k a) (.int k b) K = (b ≠ 0 ∧ K (.int k (k.wrap (a.tdiv b)))) := by simp [binK, binI]
theorem b_rem : binK .rem (.int k a) (.int k b) K = (b ≠ 0 ∧ K (.int k (a.tmod b))) := by simp [binK, binI]
theorem b_and : binK .and (.int k a) (.int k b) K = K (.int k (bitsV .and k a b)) := by simp [binK, binI]
theorem b_or : binK .or (.int k a) (.int k b) K = K (.int k (bitsV .or k a b)) := by simp [binK, binI]
theorem b_xor : binK .xor (.int k a) (.int k b) K = K (.int k (bitsV .xor k a b)) := by simp [binK, binI]
theorem b_eql : binK .eql (.int k a) (.int k b) K = K (.bool (decide (a = b))) := by simp [binK, binI]; rfl
theorem b_neq : binK .neq (.int k a) (.int k b) K = K (.bool (decide (a ≠ b))) := by
  have : (a != b) = decide (a ≠ b) := by simp [bne]; rfl
  simp [binK, binI, this]
theorem b_lss : binK .lss (.int k a) (.int k b) K = K (.bool (decide (a < b))) := by simp [binK, binI]
theorem b_leq : binK .leq (.int k a) (.int k b) K = K (.bool (decide (a ≤ b))) := by simp [binK, binI]
theorem b_gtr : binK .gtr (.int k a) (.int k b) K = K (.bool (decide (b < a))) := by simp [binK, binI]
theorem b_geq : binK .geq (.int k a) (.int k b) K = K (.bool (decide (b ≤ a))) := by simp [binK, binI]
theorem b_shl {k' : IntKind} : binK .shl (.int k a) (.int k' b) K = (0 ≤ b ∧ K (.int k (shlV k a b))) := by simp [binK]
theorem b_shr {k' : IntKind} : binK .shr (.int k a) (.int k' b) K = (0 ≤ b ∧ K (.int k (shrV k a b))) := by simp [binK]
variable {x y : ByteArray}
theorem b_adds : binK .add (.string x) (.string y) K = (((x.size + y.size : Nat) : Int) ≤ 9223372036854775807 ∧ K (.string (x ++ y))) := (rfl)
theorem b_eqls : binK .eql (.string x) (.string y) K = K (.bool (x.toList == y.toList)) := (rfl)
theorem b_neqs : binK .neq (.string x) (.string y) K = K (.bool (!(x.toList == y.toList))) := (rfl)
theorem u_not {t : Bool} : unK .not (.bool t) K = K (.bool !t) := (rfl)
theorem u_neg : unK .neg (.int k a) K = K (.int k (k.wrap (0 - a))) := (rfl)
end

theorem ix_n {g : Regs} (dflt : Int) : optIx g none dflt = some dflt := (rfl)
theorem ix_k {g : Regs} (k : IntKind) (n dflt : Int) : optIx g (some (.k (.int k n))) dflt = some n := (rfl)
def oI (v : Value) : Option Int := match v with | .int _ n => some n | _ => none
theorem ix_t {g : Regs} (t : Nat) (dflt : Int) : optIx g (some (.t t)) dflt = oI (g t) := (rfl)
theorem oI_e (k : IntKind) (n : Int) : oI (.int k n) = some n := (rfl)

end

/-! ### Memory, its parts -/
def upd (g : Nat → Option Blk) (n : Nat) (b : Option Blk) : Nat → Option Blk := fun k => if k = n then b else g k
theorem upd_e {g : Nat → Option Blk} {n k : Nat} {b : Option Blk} : upd g n b k = if k = n then b else g k := (rfl)
section
variable {nx br : Nat} {g : Nat → Option Blk}
theorem add_e (b : Blk) : (Mem.mk nx br g).add b = ⟨nx + 1, br, upd g nx (some b)⟩ := (rfl)
theorem putm_e (n : Nat) (b : Blk) : (Mem.mk nx br g).put n b = ⟨nx, br, upd g n (some b)⟩ := (rfl)
theorem kill_e (n : Nat) : (Mem.mk nx br g).kill n = ⟨nx, br, upd g n none⟩ := (rfl)
theorem raise_e : (Mem.mk nx br g).raise = ⟨nx, nx, g⟩ := (rfl)
theorem lower_e (b : Nat) : (Mem.mk nx br g).lower b = ⟨nx, b, g⟩ := (rfl)
theorem get_e (n : Nat) : (Mem.mk nx br g).get n = g n := (rfl)
theorem next_e : (Mem.mk nx br g).next = nx := (rfl)
theorem bar_e : (Mem.mk nx br g).bar = br := (rfl)
theorem write_e (a : Addr) (off : Nat) (vs : List Value) (K : Mem → Prop) : writeK (Mem.mk nx br g) a off vs K = asC (g a.block) fun l ro => ro = false ∧ br ≤ a.block ∧ a.off + off + vs.length ≤ l.length ∧ (∀ v ∈ vs, cellVal v = true) ∧ K ⟨nx, br, upd g a.block (some (.cells (splice l (a.off + off) vs) false))⟩ := by
  show (match g a.block with | some (.cells l false) => _ | _ => False) = _
  cases g a.block with
  | none => rfl
  | some b =>
    cases b with
    | map es => rfl
    | cells c ro =>
      cases ro with
      | false => exact propext ⟨fun h => ⟨rfl, h⟩, fun h => h.2⟩
      | true => exact propext ⟨fun h => h.elim, fun h => by cases h.1⟩
end

/-! ### Contracts -/

/-- A call that only makes new things. -/
def Ct (P : Program) (g : Nat) (args : List Value) (nx : Nat) (gt : Nat → Option Blk) (C : Value → Nat → (Nat → Option Blk) → Prop) : Prop :=
  ∀ b, b ≤ nx → Fn P g args ⟨nx, b, gt⟩ fun res m' => ∃ v, res = .ret v ∧ m'.bar = b ∧ nx ≤ m'.next ∧ (∀ n, n < nx → m'.get n = gt n) ∧ C v m'.next m'.get

theorem callK_of {P : Program} {g : Nat} {args : List Value} {nx b : Nat} {gt : Nat → Option Blk} {C : Value → Nat → (Nat → Option Blk) → Prop} {d : Option Nat} {l : List RO} {f : Regs} {Q : AEx → Regs → Mem → Prop}
    (h : Ct P g args nx gt C) (k : ∀ v nx' gt', nx ≤ nx' → (∀ n, n < nx → gt' n = gt n) → C v nx' gt' → goOps P l (putR f d v) ⟨nx', b, gt'⟩ Q) : b ≤ nx → callK P g args d l f ⟨nx, b, gt⟩ Q := fun hb => by
  refine (h b hb).mono fun res m' _ hh => ?_
  obtain ⟨v, rfl, h1, h2, h3, h4⟩ := hh
  have := k v m'.next m'.get h2 h3 h4
  obtain ⟨a1, a2, a3⟩ := m'
  simp only at h1
  subst h1
  exact this

theorem callQ_of {P : Program} {g : Nat} {args : List Value} {nx b : Nat} {gt : Nat → Option Blk} {C : Value → Nat → (Nat → Option Blk) → Prop} {d : Option Nat} {l ts : List RO} {f : Regs} {Q : AEx → Regs → Mem → Prop}
    (h : Ct P g args nx gt C) (k : ∀ v nx' gt', nx ≤ nx' → (∀ n, n < nx → gt' n = gt n) → C v nx' gt' → goQ P l ts (putR f d v) ⟨nx', b, gt'⟩ Q) : callQ P g args d l ts f ⟨nx, b, gt⟩ Q := by
  refine (h nx (Nat.le_refl _)).mono fun res m' _ hh => ?_
  obtain ⟨v, rfl, h1, h2, h3, h4⟩ := hh
  have := k v m'.next m'.get h2 h3 h4
  exact this

/-- A call by what its function comes to. -/
theorem callK_fn {P : Program} {g : Nat} {args : List Value} {m : Mem} {K : Res → Mem → Prop} {d : Option Nat} {l : List RO} {f : Regs} {Q : AEx → Regs → Mem → Prop}
    (h : Fn P g args m K) (k : ∀ res m', K res m' → ∃ v, res = .ret v ∧ goOps P l (putR f d v) m' Q) : callK P g args d l f m Q := by
  refine h.mono fun res m' _ hh => ?_
  obtain ⟨v, rfl, h1⟩ := k res m' hh
  exact h1

def zR : Regs := fun _ => undef
theorem ini0 : (fun i => ([] : List Value).getD i undef) = zR := by funext i; simp [zR]
theorem ini1 (a : Value) : (fun i => [a].getD i undef) = putR zR (some 0) a := by
  funext i; rcases i with _ | i <;> simp [putR, zR]
theorem ini2 (a b : Value) : (fun i => [a, b].getD i undef) = putR (putR zR (some 0) a) (some 1) b := by
  funext i; rcases i with _ | _ | i <;> simp [putR, zR]
theorem ini3 (a b c : Value) : (fun i => [a, b, c].getD i undef) = putR (putR (putR zR (some 0) a) (some 1) b) (some 2) c := by
  funext i; rcases i with _ | _ | _ | i <;> simp [putR, zR]
theorem ini4 (a b c d : Value) : (fun i => [a, b, c, d].getD i undef) = putR (putR (putR (putR zR (some 0) a) (some 1) b) (some 2) c) (some 3) d := by
  funext i; rcases i with _ | _ | _ | _ | i <;> simp [putR, zR]
theorem ini5 (a b c d e : Value) : (fun i => [a, b, c, d, e].getD i undef) = putR (putR (putR (putR (putR zR (some 0) a) (some 1) b) (some 2) c) (some 3) d) (some 4) e := by
  funext i; rcases i with _ | _ | _ | _ | _ | i <;> simp [putR, zR]
theorem ini6 (a b c d e g : Value) : (fun i => [a, b, c, d, e, g].getD i undef) = putR (putR (putR (putR (putR (putR zR (some 0) a) (some 1) b) (some 2) c) (some 3) d) (some 4) e) (some 5) g := by
  funext i; rcases i with _ | _ | _ | _ | _ | _ | i <;> simp [putR, zR]

/-- Where a contract's body ends. -/
def endK (rs : List RVar) (b nx : Nat) (gt : Nat → Option Blk) (C : Value → Nat → (Nat → Option Blk) → Prop) (x : AEx) (f : Regs) (m' : Mem) : Prop :=
  (x = .normal ∨ x = .ret) ∧ asO (resVals f m' rs) fun vs => m'.bar = b ∧ nx ≤ m'.next ∧ (∀ n, n < nx → m'.get n = gt n) ∧ C (oneOrTuple vs) m'.next m'.get

theorem end_n {rs : List RVar} {b nx : Nat} {gt : Nat → Option Blk} {C} {f : Regs} {nx' b' : Nat} {gt'} : endK rs b nx gt C .normal f ⟨nx', b', gt'⟩ = asO (resVals f ⟨nx', b', gt'⟩ rs) fun vs => b' = b ∧ nx ≤ nx' ∧ (∀ n, n < nx → gt' n = gt n) ∧ C (oneOrTuple vs) nx' gt' := by simp [endK]
theorem end_r {rs : List RVar} {b nx : Nat} {gt : Nat → Option Blk} {C} {f : Regs} {nx' b' : Nat} {gt'} : endK rs b nx gt C .ret f ⟨nx', b', gt'⟩ = asO (resVals f ⟨nx', b', gt'⟩ rs) fun vs => b' = b ∧ nx ≤ nx' ∧ (∀ n, n < nx → gt' n = gt n) ∧ C (oneOrTuple vs) nx' gt' := by simp [endK]
theorem res_nil {f : Regs} {m : Mem} : resVals f m [] = some [] := (rfl)
theorem res_t {f : Regs} {m : Mem} (i : Nat) (l : List RVar) : resVals f m (.t i :: l) = (resVals f m l).map (f i :: ·) := (rfl)
theorem one1 (v : Value) : oneOrTuple [v] = v := (rfl)
theorem one2 (v u : Value) : oneOrTuple [v, u] = .tuple #[v, u] := (rfl)
theorem one3 (v u t : Value) : oneOrTuple [v, u, t] = .tuple #[v, u, t] := (rfl)
theorem one0 : oneOrTuple [] = .tuple #[] := (rfl)

theorem Ct.of {P : Program} (hmx : P.follows .mixedOrders = true) {g : Nat} {rf : RFn} (h : resolveFn P g = some rf) {args : List Value} (hn : args.length ≤ rf.n) {nx : Nat} {gt : Nat → Option Blk} {C : Value → Nat → (Nat → Option Blk) → Prop}
    (hv : ∀ b, b ≤ nx → rf.code.vc P (fun i => args.getD i undef) ⟨nx, b, gt⟩ (D P (.top (endK rf.results b nx gt C)))) : Ct P g args nx gt C := by
  intro b hb
  refine fn_sound hmx h hn ?_
  have e : D P (.top (endK rf.results b nx gt C)) = retK rf.results fun res m' => ∃ v, res = .ret v ∧ m'.bar = b ∧ nx ≤ m'.next ∧ (∀ n, n < nx → m'.get n = gt n) ∧ C v m'.next m'.get := by
    funext x f m'
    cases x <;> simp [D, endK, retK, asO] <;> (cases resVals f m' rf.results <;> simp)
  rw [← e]
  exact hv b hb

/-! ### Loops -/
theorem Rounds.more {body : Regs → Mem → (AEx → Regs → Mem → Prop) → Prop} {Q : AEx → Regs → Mem → Prop} : ∀ {n : Nat} {f : Regs} {m : Mem}, Rounds body Q n f m → ∀ k, Rounds body Q (n + k) f m := by
  intro n f m h
  induction h with
  | mk n f m R h hr ih =>
    intro k
    have e : n + 1 + k = (n + k) + 1 := by omega
    rw [e]
    exact .mk _ f m R h fun f1 m1 h1 => ih f1 m1 h1 k

/-- Where a loop's round ends. -/
def loopK (P : Program) (I : Nat → Regs → Mem → Prop) (k : Nat) (s : Stk) (x : AEx) (f : Regs) (m : Mem) : Prop := match x with
  | .normal => ∃ k', k' < k ∧ I k' f m
  | x => D P s x f m
section
variable {P : Program} {I : Nat → Regs → Mem → Prop} {k : Nat} {s : Stk} {f : Regs} {m : Mem}
theorem loopK_n : loopK P I k s .normal f m = ∃ k', k' < k ∧ I k' f m := (rfl)
theorem loopK_e (i : Nat) : loopK P I k s (.exit i) f m = D P s (.exit i) f m := (rfl)
theorem loopK_r : loopK P I k s .ret f m = D P s .ret f m := (rfl)
theorem loopK_p (v : Value) : loopK P I k s (.pan v) f m = D P s (.pan v) f m := (rfl)
end

/-- A loop with an invariant and a measure. -/
theorem loop_of {P : Program} {b : RC} {f : Regs} {m : Mem} {s : Stk} (I : Nat → Regs → Mem → Prop) (k : Nat) (h0 : I k f m)
    (hs : ∀ k f m, I k f m → b.vc P f m (D P (.top (loopK P I k s)))) : RC.vc P (.loop b) f m (D P s) := by
  show ∃ n, Rounds _ _ n f m
  have key : ∀ K k f m, k ≤ K → I k f m → Rounds (fun f m Q => b.vc P f m Q) (D P s) (K + 1) f m := by
    intro K
    induction K with
    | zero =>
      intro k f m hk hi
      refine .mk _ f m (fun _ _ => False) ?_ fun f1 m1 h => h.elim
      have := hs k f m hi
      have e : D P (.top (loopK P I k s)) = thenK (fun _ _ => False) (D P s) := by
        funext x f' m'
        cases x <;> simp [D, thenK, loopK]
        intro x h1; omega
      rw [e] at this
      exact this
    | succ K ih =>
      intro k f m hk hi
      refine .mk _ f m (fun f' m' => ∃ k', k' < k ∧ I k' f' m') ?_ fun f1 m1 h => ?_
      · have := hs k f m hi
        have e : D P (.top (loopK P I k s)) = thenK (fun f' m' => ∃ k', k' < k ∧ I k' f' m') (D P s) := by
          funext x f' m'
          cases x <;> simp [D, thenK, loopK]
        rw [e] at this
        exact this
      · obtain ⟨k', h1, h2⟩ := h
        exact ih k' f1 m1 (by omega) h2
  exact ⟨k + 1, key k k f m (Nat.le_refl _) h0⟩

/-! ### Rows -/
structure Row (nx : Nat) (gt : Nat → Option Blk) (e : Nat) (A : Option Addr) (N : Nat) (l : List Value) : Prop where
  spot : ∀ a, A = some a → a.spot = none ∨ a.spot = some e
  len : l.length = N
  cells : 0 < N → ∃ a c ro, A = some a ∧ a.block < nx ∧ gt a.block = some (.cells c ro) ∧ a.off + N ≤ c.length ∧ ∀ i, i < N → c.getD (a.off + i) undef = l.getD i undef

theorem Row.keep {nx gt e A N l nx' gt'} (h : Row nx gt e A N l) (h1 : nx ≤ nx') (h2 : ∀ n, n < nx → gt' n = gt n) : Row nx' gt' e A N l := by
  refine ⟨h.spot, h.len, fun hN => ?_⟩
  obtain ⟨a, c, ro, e1, e2, e3, e4, e5⟩ := h.cells hN
  exact ⟨a, c, ro, e1, by omega, by rw [h2 _ e2, e3], e4, e5⟩

theorem Row.nil {nx gt e} : Row nx gt e none 0 [] := ⟨fun _ h => (nomatch h), rfl, fun h => absurd h (Nat.lt_irrefl 0)⟩

theorem Row.rowOf {nx b gt e A N l} (h : Row nx gt e A N l) : rowOf ⟨nx, b, gt⟩ A N = some l := by
  unfold Go.Ga.rowOf
  by_cases hN : N = 0
  · rw [if_pos hN]
    have := h.len
    have : l = [] := List.eq_nil_of_length_eq_zero (by omega)
    rw [this]
  · rw [if_neg hN]
    obtain ⟨a, c, ro, rfl, e2, e3, e4, e5⟩ := h.cells (by omega)
    simp only [e3, e4, if_true]
    congr 1
    refine List.ext_getElem (by simp [h.len]; omega) fun i h1 h2 => ?_
    have hi : i < N := by rw [← h.len]; exact h2
    have := e5 i hi
    rw [List.getD_eq_getElem?_getD, List.getD_eq_getElem?_getD, List.getElem?_eq_getElem (by omega), List.getElem?_eq_getElem h2] at this
    simpa using this

/-- A part of a row. -/
theorem Row.part {nx gt e A N l} (h : Row nx gt e A N l) {lo hi : Nat} (h1 : lo ≤ hi) (h2 : hi ≤ N) {a : Addr} (ha : A = some a) :
    Row nx gt e (some ⟨a.block, a.off + lo, a.spot⟩) (hi - lo) ((l.drop lo).take (hi - lo)) := by
  refine ⟨fun a' h' => by injection h' with h'; subst h'; exact h.spot a ha, by simp [h.len]; omega, fun hN => ?_⟩
  obtain ⟨a1, c, ro, e1, e2, e3, e4, e5⟩ := h.cells (by omega)
  have : a1 = a := by rw [ha] at e1; injection e1 with e1; exact e1.symm
  subst this
  refine ⟨_, c, ro, rfl, e2, e3, by simp only; omega, fun i hi => ?_⟩
  have := e5 (lo + i) (by omega)
  simp only
  rw [Nat.add_assoc, this]
  simp [List.getD_eq_getElem?_getD, hi]

/-- A row's part, where nothing may be written behind it. -/
theorem Row.shut {nx gt e e' A N l} (h : Row nx gt e A N l) {a : Addr} (ha : A = some a) : Row nx gt e' (some ⟨a.block, a.off, none⟩) N l := by
  refine ⟨fun a' h' => by injection h' with h'; subst h'; exact .inl rfl, h.len, fun hN => ?_⟩
  obtain ⟨a1, c, ro, e1, e2, e3, e4, e5⟩ := h.cells (by omega)
  have : a1 = a := by rw [ha] at e1; injection e1 with e1; exact e1.symm
  subst this
  exact ⟨_, c, ro, rfl, e2, e3, e4, e5⟩

theorem bytesOf_map (l : List UInt8) : bytesOf (l.map u8V) = some l := by
  induction l with
  | nil => rfl
  | cons b l ih =>
    simp only [List.map_cons, bytesOf, ih, byteOf, u8V]
    simp

theorem getD_u8 {l : List UInt8} {i : Nat} (h : i < l.length) : (l.map u8V).getD i undef = .int .u8 ((l.getD i 0).toNat : Nat) := by
  simp [List.getD_eq_getElem?_getD, List.getElem?_map, List.getElem?_eq_getElem h, u8V]
attribute [irreducible] condK guardK guardQ callK callQ
end Go.Ga
