/- The base of an own program logic: abstract memory, the relation to the machine's world, frames. -/
import Derived.Orders
import Derived.Below
namespace Go.Ga
open Go

/-- An abstract block: a row of cells (never written where 'ro' holds), or a map of plain entries. -/
inductive Blk where
  | cells (c : List Value) (ro : Bool)
  | map (es : List (Value × Value))

/-- Abstract memory: names below 'next' have been given; names below 'bar' are not to be written. -/
structure Mem where
  next : Nat
  bar : Nat
  get : Nat → Option Blk

/-- Where a name lies: nowhere any more, or in a concrete block from a cell on, so many cells. -/
inductive Loc where
  | dead
  | at (cb base csz : Nat)

abbrev Ren := Nat → Option Loc

def AR (r : Ren) (blk off : Nat) (a' : Addr) : Prop :=
  a'.spot = none ∧ ∃ l, r blk = some l ∧ ∀ cb base csz, l = .at cb base csz → a'.block = cb ∧ a'.off = base + off

def Room (r : Ren) (blk top : Nat) : Prop := ∀ cb base csz, r blk = some (.at cb base csz) → top ≤ csz

/-- A slice whose mark is 'none' has just its capacity; one with a mark e may have more (its elements have e cells). -/
structure SR (r : Ren) (a : Addr) (c : Nat) (a' : Addr) (c' : Nat) : Prop where
  le : c ≤ c'
  loc : c' = 0 ∨ AR r a.block a.off a'
  room : ∀ e, a.spot = some e → c' = 0 ∨ Room r a.block (a.off + c' * e)
  exact : a.spot = none → c' = c

/-- A value of which nothing is known. -/
def botV : Value := .chan none

inductive VR (r : Ren) : Value → Value → Prop where
  | bool (b : Bool) : VR r (.bool b) (.bool b)
  | int (k : IntKind) (n : Int) : VR r (.int k n) (.int k n)
  | string (s : ByteArray) : VR r (.string s) (.string s)
  | und : VR r undef undef
  | bot (v : Value) : VR r botV v
  | pnil : VR r (.pointer none) (.pointer none)
  | ptr {a a' : Addr} (hs : a.spot = none) (h : AR r a.block a.off a') : VR r (.pointer (some a)) (.pointer (some a'))
  | snil : VR r (.slice none 0 0) (.slice none 0 0)
  | slice {a a' : Addr} {n c c' : Nat} (hn : n ≤ c) (h : SR r a c a' c') : VR r (.slice (some a) n c) (.slice (some a') n c')
  | mnil : VR r (.map none) (.map none)
  | map {b b' : Nat} (h : ∃ l, r b = some l ∧ ∀ cb base csz, l = .at cb base csz → b' = cb) : VR r (.map (some b)) (.map (some b'))
  | func (fn : Fn) {cs cs' : Array Value} (hs : cs.size = cs'.size) (h : ∀ i, VR r (cs.getD i undef) (cs'.getD i undef)) : VR r (.func fn #[] cs) (.func fn #[] cs')
  | nilFunc : VR r .nilFunc .nilFunc
  | nilIface : VR r .nilIface .nilIface
  | iface (t : TypeId) {v v' : Value} (h : VR r v v') : VR r (.iface t v) (.iface t v')
  | agg {cs cs' : Array Value} (hs : cs.size = cs'.size) (h : ∀ i, VR r (cs.getD i undef) (cs'.getD i undef)) : VR r (.agg cs) (.agg cs')
  | tuple {cs cs' : Array Value} (hs : cs.size = cs'.size) (h : ∀ i, VR r (cs.getD i undef) (cs'.getD i undef)) : VR r (.tuple cs) (.tuple cs')

/-- Of what is known of a name it can only be lost. -/
def Ext (r r' : Ren) : Prop := ∀ n l, r n = some l → r' n = some l ∨ r' n = some .dead

theorem Ext.refl (r : Ren) : Ext r r := fun _ _ h => .inl h
theorem Ext.trans {r r1 r2 : Ren} (h : Ext r r1) (k : Ext r1 r2) : Ext r r2 := fun n l hl => by
  rcases h n l hl with h1 | h1
  · exact k n l h1
  · rcases k n .dead h1 with h2 | h2 <;> exact .inr h2

theorem AR.mono {r r' : Ren} (hx : Ext r r') {b o : Nat} {a' : Addr} (h : AR r b o a') : AR r' b o a' := by
  obtain ⟨hs, l, hl, hat⟩ := h
  rcases hx b l hl with h1 | h1
  · exact ⟨hs, l, h1, hat⟩
  · exact ⟨hs, .dead, h1, fun _ _ _ e => by cases e⟩

theorem Room.mono {r r' : Ren} (hx : Ext r r') {b t : Nat} (hb : ∃ l, r b = some l) (h : Room r b t) : Room r' b t := by
  intro cb base csz hat
  obtain ⟨l, hl⟩ := hb
  rcases hx b l hl with h1 | h1
  · rw [h1] at hat; injection hat with hat; subst hat; exact h _ _ _ hl
  · rw [h1] at hat; cases hat

theorem SR.mono {r r' : Ren} (hx : Ext r r') {a a' : Addr} {c c' : Nat} (h : SR r a c a' c') : SR r' a c a' c' := by
  refine ⟨h.le, h.loc.imp id (AR.mono hx), fun e he => ?_, h.exact⟩
  rcases h.loc with h0 | hl
  · exact .inl h0
  · exact (h.room e he).imp id (Room.mono hx ⟨_, hl.2.choose_spec.1⟩)

theorem VR.mono {r r' : Ren} (hx : Ext r r') {v v' : Value} (h : VR r v v') : VR r' v v' := by
  induction h with
  | bool b => exact .bool b
  | int k n => exact .int k n
  | string s => exact .string s
  | und => exact .und
  | bot v => exact .bot v
  | pnil => exact .pnil
  | ptr hs h => exact .ptr hs (h.mono hx)
  | snil => exact .snil
  | slice hn h => exact .slice hn (h.mono hx)
  | mnil => exact .mnil
  | map h =>
    obtain ⟨l, hl, hat⟩ := h
    rcases hx _ l hl with h1 | h1
    · exact .map ⟨l, h1, hat⟩
    · exact .map ⟨.dead, h1, fun _ _ _ e => by cases e⟩
  | func fn hs _ ih => exact .func fn hs ih
  | nilFunc => exact .nilFunc
  | nilIface => exact .nilIface
  | iface t _ ih => exact .iface t ih
  | agg hs _ ih => exact .agg hs ih
  | tuple hs _ ih => exact .tuple hs ih

/-- A value that names no memory. -/
def plain : Value → Bool
  | .bool _ | .int _ _ | .string _ | .pointer none | .slice none 0 0 | .map none | .nilFunc | .nilIface => true
  | _ => false

theorem VR.of_plain {r : Ren} {v : Value} (h : plain v = true) : VR r v v := by
  unfold plain at h
  split at h <;> first | exact .bool _ | exact .int _ _ | exact .string _ | exact .pnil | exact .snil | exact .mnil | exact .nilFunc | exact .nilIface | cases h

theorem VR.eq_of_plain {r : Ren} {v v' : Value} (h : VR r v v') (hp : plain v = true) : v' = v := by
  cases h <;> first | rfl | (simp [plain, botV] at hp; done)

/-- A cell of its own: no aggregate, no tuple. -/
def cellVal (v : Value) : Bool := v.oneCell' && !(match v with | .chan _ => true | _ => false)

theorem VR.oneCell {r : Ren} {v v' : Value} (h : VR r v v') (hp : cellVal v = true) : v'.oneCell' = true := by
  cases h <;> first | rfl | (simp [cellVal, Value.oneCell', undef, botV] at hp; done)

def cellOf (c : List Value) (i : Nat) : Value := c.getD i undef

/-- What an abstract block says of a concrete one. -/
def BR (r : Ren) (b : Blk) (o : Option Obj) (base csz : Nat) : Prop :=
  match b with
  | .cells l ro => ∃ c e fr, o = some (.cells c e fr) ∧ l.length ≤ csz ∧ base + csz ≤ c.size ∧
      (∀ i, i < l.length → VR r (l.getD i undef) (c.getD (base + i) undef)) ∧ (ro = false → fr.1 = fr.2 ∨ base + csz ≤ fr.1)
  | .map es => ∃ ents clk, o = some (.map ents clk) ∧ ents.toList.map (fun e => (e.key, e.val)) = es ∧ (∀ p ∈ es, plain p.1 = true ∧ plain p.2 = true)

theorem BR.mono {r r' : Ren} (hx : Ext r r') {b : Blk} {o : Option Obj} {base csz : Nat} (h : BR r b o base csz) : BR r' b o base csz := by
  cases b with
  | cells l ro =>
    obtain ⟨c, e, fr, h1, h2, h3, h4, h5⟩ := h
    exact ⟨c, e, fr, h1, h2, h3, fun i hi => (h4 i hi).mono hx, h5⟩
  | map es => exact h

structure MemRel (r : Ren) (m : Mem) (w : World) : Prop where
  wf : m.bar ≤ m.next
  born : ∀ n l, r n = some l → n < m.next
  dead : ∀ n, r n = some .dead → m.get n = none
  live : ∀ n cb base csz, r n = some (.at cb base csz) → ∃ b, m.get n = some b ∧ BR r b (w.heap[cb]?) base csz
  inj : ∀ n n' cb base csz base' csz', r n = some (.at cb base csz) → r n' = some (.at cb base' csz') → n = n'

/-- From one abstract memory to a later one. -/
structure MExt (m m' : Mem) : Prop where
  bar : m'.bar = m.bar
  next : m.next ≤ m'.next
  get : ∀ n, n < m.bar → m'.get n = m.get n

theorem MExt.refl (m : Mem) : MExt m m := ⟨rfl, Nat.le_refl _, fun _ _ => rfl⟩
theorem MExt.trans {a b c : Mem} (h : MExt a b) (k : MExt b c) : MExt a c :=
  ⟨k.bar.trans h.bar, Nat.le_trans h.next k.next, fun n hn => (k.get n (by rw [h.bar]; exact hn)).trans (h.get n hn)⟩

/-- What a step leaves alone. -/
structure Fr (r r' : Ren) (m : Mem) (w w' : World) : Prop where
  size : w.heap.size ≤ w'.heap.size
  os : w'.os = w.os
  tape : w'.tape = w.tape
  output : w'.output = w.output
  out : ∀ cb, cb < w.heap.size → (∀ n base csz, r n ≠ some (.at cb base csz)) → w'.heap[cb]? = w.heap[cb]?
  low : ∀ n cb base csz, n < m.bar → r n = some (.at cb base csz) → w'.heap[cb]? = w.heap[cb]?
  lowR : ∀ n, n < m.bar → r' n = r n
  ext : Ext r r'
  fresh : ∀ n, r n = none → r' n ≠ none → m.next ≤ n
  img : ∀ n cb base csz, r' n = some (.at cb base csz) → r n = some (.at cb base csz) ∨ w.heap.size ≤ cb ∨ ∃ n0 b0 c0, m.bar ≤ n0 ∧ r n0 = some (.at cb b0 c0)

theorem Fr.refl (r : Ren) (m : Mem) (w : World) : Fr r r m w w :=
  ⟨Nat.le_refl _, rfl, rfl, rfl, fun _ _ _ => rfl, fun _ _ _ _ _ _ => rfl, fun _ _ => rfl, Ext.refl r, fun _ h k => absurd h k, fun _ _ _ _ h => .inl h⟩

/-- A draw alone. -/
theorem Fr.drawn (r : Ren) (m : Mem) (w : World) (k : Nat) : Fr r r m w { w with drawn := k } :=
  ⟨Nat.le_refl _, rfl, rfl, rfl, fun _ _ _ => rfl, fun _ _ _ _ _ _ => rfl, fun _ _ => rfl, Ext.refl r, fun _ h k => absurd h k, fun _ _ _ _ h => .inl h⟩

theorem MemRel.drawn {r : Ren} {m : Mem} {w : World} (h : MemRel r m w) (k : Nat) : MemRel r m { w with drawn := k } := ⟨h.wf, h.born, h.dead, h.live, h.inj⟩

theorem Fr.trans {r r1 r2 : Ren} {m m1 : Mem} {w w1 w2 : World} (h : Fr r r1 m w w1) (hm : MExt m m1) (k : Fr r1 r2 m1 w1 w2) : Fr r r2 m w w2 where
  size := Nat.le_trans h.size k.size
  os := k.os.trans h.os
  tape := k.tape.trans h.tape
  output := k.output.trans h.output
  out := fun cb hcb hno => by
    rw [k.out cb (Nat.lt_of_lt_of_le hcb h.size) ?_, h.out cb hcb hno]
    intro n base csz hn
    rcases h.img n cb base csz hn with h1 | h1 | ⟨n0, b0, c0, _, h1⟩
    · exact hno _ _ _ h1
    · omega
    · exact hno _ _ _ h1
  low := fun n cb base csz hn hr => by
    rw [k.low n cb base csz (by rw [hm.bar]; exact hn) (by rw [h.lowR n hn]; exact hr), h.low n cb base csz hn hr]
  lowR := fun n hn => by rw [k.lowR n (by rw [hm.bar]; exact hn), h.lowR n hn]
  ext := h.ext.trans k.ext
  fresh := fun n hn hn' => by
    by_cases h1 : r1 n = none
    · exact Nat.le_trans hm.next (k.fresh n h1 hn')
    · exact h.fresh n hn h1
  img := fun n cb base csz hn => by
    rcases k.img n cb base csz hn with h1 | h1 | ⟨n0, b0, c0, hb, h1⟩
    · exact h.img n cb base csz h1
    · exact .inr (.inl (Nat.le_trans h.size h1))
    · rcases h.img n0 cb b0 c0 h1 with h2 | h2 | h2
      · exact .inr (.inr ⟨n0, b0, c0, by rw [← hm.bar]; exact hb, h2⟩)
      · exact .inr (.inl h2)
      · exact .inr (.inr h2)

/-! ### New blocks, stores -/

def Mem.set (m : Mem) (n : Nat) (b : Option Blk) : Nat → Option Blk := fun k => if k = n then b else m.get k
def Mem.add (m : Mem) (b : Blk) : Mem := { next := m.next + 1, bar := m.bar, get := m.set m.next (some b) }
def Mem.put (m : Mem) (n : Nat) (b : Blk) : Mem := { next := m.next, bar := m.bar, get := m.set n (some b) }
def Mem.kill (m : Mem) (n : Nat) : Mem := { next := m.next, bar := m.bar, get := m.set n none }

def Ren.set (r : Ren) (n : Nat) (l : Loc) : Ren := fun k => if k = n then some l else r k

theorem MExt.add {m : Mem} (h : m.bar ≤ m.next) (b : Blk) : MExt m (m.add b) :=
  ⟨rfl, Nat.le_succ _, fun n hn => by simp only [Mem.add, Mem.set]; rw [if_neg (by omega)]⟩
theorem MExt.put {m : Mem} {n : Nat} (h : m.bar ≤ n) (b : Blk) : MExt m (m.put n b) :=
  ⟨rfl, Nat.le_refl _, fun k hk => by simp only [Mem.put, Mem.set]; rw [if_neg (by omega)]⟩
theorem MExt.kill {m : Mem} {n : Nat} (h : m.bar ≤ n) : MExt m (m.kill n) :=
  ⟨rfl, Nat.le_refl _, fun k hk => by simp only [Mem.kill, Mem.set]; rw [if_neg (by omega)]⟩

theorem Ext.set_new {r : Ren} {n : Nat} (h : r n = none) (l : Loc) : Ext r (r.set n l) := fun k l' hk => by
  left
  unfold Ren.set
  rw [if_neg (fun e => by subst e; rw [h] at hk; cases hk)]
  exact hk

theorem heap_push_lt (w : World) (o : Obj) (k : Nat) (h : k < w.heap.size) : (w.heap.push o)[k]? = w.heap[k]? := by
  rw [Array.getElem?_push, if_neg (by omega)]

/-- A live name's concrete block is there. -/
theorem MemRel.lt {r : Ren} {m : Mem} {w : World} (h : MemRel r m w) {n cb base csz : Nat} (hn : r n = some (.at cb base csz)) : cb < w.heap.size := by
  obtain ⟨b, _, hb⟩ := h.live n cb base csz hn
  rcases Nat.lt_or_ge cb w.heap.size with h1 | h1
  · exact h1
  · rw [Array.getElem?_eq_none h1] at hb
    cases b <;> simp [BR] at hb

/-- A new block: the abstract one under the next name, the concrete one behind all others. -/
theorem MemRel.add {r : Ren} {m : Mem} {w : World} (h : MemRel r m w) (b : Blk) (o : Obj) (csz : Nat) (hb : ∀ r', Ext r r' → BR r' b (some o) 0 csz) (k : Nat) :
    MemRel (r.set m.next (.at w.heap.size 0 csz)) (m.add b) { w with heap := w.heap.push o, drawn := k } ∧ Fr r (r.set m.next (.at w.heap.size 0 csz)) m w { w with heap := w.heap.push o, drawn := k } := by
  have hnew : r m.next = none := by
    cases hr : r m.next with
    | none => rfl
    | some l => have := h.born _ _ hr; omega
  have hx : Ext r (r.set m.next (.at w.heap.size 0 csz)) := Ext.set_new hnew _
  refine ⟨⟨Nat.le_succ_of_le h.wf, ?_, ?_, ?_, ?_⟩, ⟨by simp, rfl, rfl, rfl, ?_, ?_, ?_, hx, ?_, ?_⟩⟩
  · intro n l hn
    unfold Ren.set at hn
    show n < m.next + 1
    split at hn
    · omega
    · have := h.born n l hn; omega
  · intro n hn
    unfold Ren.set at hn
    split at hn
    · cases hn
    · rename_i hne
      simp only [Mem.add, Mem.set, if_neg hne]
      exact h.dead n hn
  · intro n cb base csz' hn
    unfold Ren.set at hn
    split at hn
    · rename_i he
      injection hn with hn; injection hn with h1 h2 h3
      subst h1 h2 h3 he
      refine ⟨b, by simp [Mem.add, Mem.set], ?_⟩
      have : (w.heap.push o)[w.heap.size]? = some o := by simp
      show BR _ b ((w.heap.push o)[w.heap.size]?) 0 csz
      rw [this]
      exact hb _ hx
    · rename_i hne
      obtain ⟨b', hg, hbr⟩ := h.live n cb base csz' hn
      refine ⟨b', by simp only [Mem.add, Mem.set, if_neg hne]; exact hg, ?_⟩
      show BR _ b' ((w.heap.push o)[cb]?) base csz'
      rw [heap_push_lt _ _ _ (h.lt hn)]
      exact hbr.mono hx
  · intro n n' cb base csz1 base' csz2 h1 h2
    unfold Ren.set at h1 h2
    split at h1 <;> split at h2
    · omega
    · injection h1 with h1; injection h1 with h1 _ _
      have := h.lt h2
      omega
    · injection h2 with h2; injection h2 with h2 _ _
      have := h.lt h1
      omega
    · exact h.inj _ _ _ _ _ _ _ h1 h2
  · intro cb hcb _
    exact heap_push_lt _ _ _ hcb
  · intro n cb base csz' _ hn
    exact heap_push_lt _ _ _ (h.lt hn)
  · intro n hn
    have := h.wf
    unfold Ren.set
    rw [if_neg (by omega)]
  · intro n hn hn'
    unfold Ren.set at hn'
    split at hn'
    · omega
    · exact absurd hn hn'
  · intro n cb base csz' hn
    unfold Ren.set at hn
    split at hn
    · injection hn with hn; injection hn with h1 _ _
      exact .inr (.inl (by omega))
    · exact .inl hn

/-- Cells of a live block that may be written, written anew. -/
theorem MemRel.put {r : Ren} {m : Mem} {w : World} (h : MemRel r m w) {n cb base csz : Nat} (hn : r n = some (.at cb base csz)) (hbar : m.bar ≤ n) {b : Blk} {o' : Obj} {heap' : Array Obj}
    (hsz : heap'.size = w.heap.size) (hself : heap'[cb]? = some o') (hother : ∀ k, k ≠ cb → heap'[k]? = w.heap[k]?) (hb : BR r b (some o') base csz) :
    MemRel r (m.put n b) { w with heap := heap' } ∧ Fr r r m w { w with heap := heap' } := by
  refine ⟨⟨h.wf, h.born, ?_, ?_, h.inj⟩, ⟨by show _ ≤ heap'.size; omega, rfl, rfl, rfl, ?_, ?_, fun _ _ => rfl, Ext.refl r, fun _ h k => absurd h k, fun _ _ _ _ h => .inl h⟩⟩
  · intro k hk
    have hne : k ≠ n := by rintro rfl; rw [hn] at hk; cases hk
    simp only [Mem.put, Mem.set, if_neg hne]
    exact h.dead k hk
  · intro k cb' base' csz' hk
    by_cases hkn : k = n
    · subst hkn
      rw [hn] at hk
      injection hk with hk; injection hk with h1 h2 h3
      subst h1 h2 h3
      refine ⟨b, by simp [Mem.put, Mem.set], ?_⟩
      show BR r b (heap'[cb]?) base csz
      rw [hself]; exact hb
    · obtain ⟨b', hg, hbr⟩ := h.live k cb' base' csz' hk
      refine ⟨b', by simp only [Mem.put, Mem.set, if_neg hkn]; exact hg, ?_⟩
      have hne : cb' ≠ cb := by
        rintro rfl
        exact hkn (h.inj _ _ _ _ _ _ _ hk hn)
      show BR r b' (heap'[cb']?) base' csz'
      rw [hother _ hne]; exact hbr
  · intro cb' _ hno
    have hne : cb' ≠ cb := by rintro rfl; exact hno _ _ _ hn
    exact hother _ hne
  · intro k cb' base' csz' hk hr
    have hne : cb' ≠ cb := by
      rintro rfl
      have := h.inj _ _ _ _ _ _ _ hr hn
      omega
    exact hother _ hne

end Go.Ga
