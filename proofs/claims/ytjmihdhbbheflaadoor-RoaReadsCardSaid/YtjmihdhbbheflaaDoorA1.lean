/- Words and contracts of functions for the statement's proof. No condition. -/
import Derived.Orders
import Derived.Below
import Derived.Laws.Cells
import Derived.Laws.IdiomCopy
import Derived.Laws.Append
import Derived.Laws.Entries
import Derived.Laws.BitsLemmas
import Derived.Laws.BytesArg
import Derived.Lib.Bytealg
import Derived.MapKept
import Derived.Lib.MakeNoZero
import Derived.Laws.Externs
set_option linter.all false

namespace Go.Ga
open Go
inductive Blk where
  | cells (c : List Value) (ro : Bool)
  | map (es : List (Value × Value))
structure Mem where
  next : Nat
  bar : Nat
  get : Nat → Option Blk
inductive Loc where
  | dead
  | at (cb base csz : Nat)
abbrev Ren := Nat → Option Loc
def AR (r : Ren) (blk off : Nat) (a' : Addr) : Prop :=
  a'.spot = none ∧ ∃ l, r blk = some l ∧ ∀ cb base csz, l = .at cb base csz → a'.block = cb ∧ a'.off = base + off
def Room (r : Ren) (blk top : Nat) : Prop := ∀ cb base csz, r blk = some (.at cb base csz) → top ≤ csz
structure SR (r : Ren) (a : Addr) (c : Nat) (a' : Addr) (c' : Nat) : Prop where
  le : c ≤ c'
  loc : c' = 0 ∨ AR r a.block a.off a'
  room : ∀ e, a.spot = some e → c' = 0 ∨ Room r a.block (a.off + c' * e)
  exact : a.spot = none → c' = c
def botV : Value := .chan none
inductive VR (r : Ren) : Value → Value → Prop where
  | bool (b : Bool) : VR r (.bool b) (.bool b)
  | int (k : IntKind) (n : Int) : VR r (.int k n) (.int k n)
  | string (s : ByteArray) : VR r (.string s) (.string s)
  | und : VR r undef undef
  | bot (v : Value) : VR r botV v
  | pnil : VR r (.pointer none) (.pointer none)
  | ptr {a a' : Addr} (hs : a.spot = none) (h : AR r a.block a.off a') : VR r (.pointer (some a)) (.pointer (some a'))
  | snil : VR r (.slice none 0 0) (.slice none 0 0)
  | slice {a a' : Addr} {n c c' : Nat} (hn : n ≤ c) (h : SR r a c a' c') : VR r (.slice (some a) n c) (.slice (some a') n c')
  | mnil : VR r (.map none) (.map none)
  | map {b b' : Nat} (h : ∃ l, r b = some l ∧ ∀ cb base csz, l = .at cb base csz → b' = cb) : VR r (.map (some b)) (.map (some b'))
  | func (fn : Fn) {cs cs' : Array Value} (hs : cs.size = cs'.size) (h : ∀ i, VR r (cs.getD i undef) (cs'.getD i undef)) : VR r (.func fn #[] cs) (.func fn #[] cs')
  | nilFunc : VR r .nilFunc .nilFunc
  | nilIface : VR r .nilIface .nilIface
  | iface (t : TypeId) {v v' : Value} (h : VR r v v') : VR r (.iface t v) (.iface t v')
  | agg {cs cs' : Array Value} (hs : cs.size = cs'.size) (h : ∀ i, VR r (cs.getD i undef) (cs'.getD i undef)) : VR r (.agg cs) (.agg cs')
  | tuple {cs cs' : Array Value} (hs : cs.size = cs'.size) (h : ∀ i, VR r (cs.getD i undef) (cs'.getD i undef)) : VR r (.tuple cs) (.tuple cs')
def Ext (r r' : Ren) : Prop := ∀ n l, r n = some l → r' n = some l ∨ r' n = some .dead
theorem Ext.refl (r : Ren) : Ext r r := fun _ _ h => .inl h
theorem Ext.trans {r r1 r2 : Ren} (h : Ext r r1) (k : Ext r1 r2) : Ext r r2 := fun n l hl => by
  rcases h n l hl with h1 | h1
  · exact k n l h1
  · rcases k n .dead h1 with h2 | h2 <;> exact .inr h2
theorem AR.mono {r r' : Ren} (hx : Ext r r') {b o : Nat} {a' : Addr} (h : AR r b o a') : AR r' b o a' := by
  obtain ⟨hs, l, hl, hat⟩ := h
  rcases hx b l hl with h1 | h1
  · exact ⟨hs, l, h1, hat⟩
  · exact ⟨hs, .dead, h1, fun _ _ _ e => by cases e⟩
theorem Room.mono {r r' : Ren} (hx : Ext r r') {b t : Nat} (hb : ∃ l, r b = some l) (h : Room r b t) : Room r' b t := by
  intro cb base csz hat
  obtain ⟨l, hl⟩ := hb
  rcases hx b l hl with h1 | h1
  · rw [h1] at hat; injection hat with hat; subst hat; exact h _ _ _ hl
  · rw [h1] at hat; cases hat
theorem SR.mono {r r' : Ren} (hx : Ext r r') {a a' : Addr} {c c' : Nat} (h : SR r a c a' c') : SR r' a c a' c' := by
  refine ⟨h.le, h.loc.imp id (AR.mono hx), fun e he => ?_, h.exact⟩
  rcases h.loc with h0 | hl
  · exact .inl h0
  · exact (h.room e he).imp id (Room.mono hx ⟨_, hl.2.choose_spec.1⟩)
theorem VR.mono {r r' : Ren} (hx : Ext r r') {v v' : Value} (h : VR r v v') : VR r' v v' := by
  induction h with
  | bool b => exact .bool b
  | int k n => exact .int k n
  | string s => exact .string s
  | und => exact .und
  | bot v => exact .bot v
  | pnil => exact .pnil
  | ptr hs h => exact .ptr hs (h.mono hx)
  | snil => exact .snil
  | slice hn h => exact .slice hn (h.mono hx)
  | mnil => exact .mnil
  | map h =>
    obtain ⟨l, hl, hat⟩ := h
    rcases hx _ l hl with h1 | h1
    · exact .map ⟨l, h1, hat⟩
    · exact .map ⟨.dead, h1, fun _ _ _ e => by cases e⟩
  | func fn hs _ ih => exact .func fn hs ih
  | nilFunc => exact .nilFunc
  | nilIface => exact .nilIface
  | iface t _ ih => exact .iface t ih
  | agg hs _ ih => exact .agg hs ih
  | tuple hs _ ih => exact .tuple hs ih
def plain : Value → Bool
  | .bool _ | .int _ _ | .string _ | .pointer none | .slice none 0 0 | .map none | .nilFunc | .nilIface => true
  | _ => false
theorem VR.of_plain {r : Ren} {v : Value} (h : plain v = true) : VR r v v := by
  unfold plain at h
  split at h <;> first | exact .bool _ | exact .int _ _ | exact .string _ | exact .pnil | exact .snil | exact .mnil | exact .nilFunc | exact .nilIface | cases h
theorem VR.eq_of_plain {r : Ren} {v v' : Value} (h : VR r v v') (hp : plain v = true) : v' = v := by
  cases h <;> first | rfl | (simp [plain, botV] at hp; done)
def plainV : Value → Bool
  | .agg cs => cs.toList.all plain
  | v => plain v
def cellVal (v : Value) : Bool := v.oneCell' && !(match v with | .chan _ => true | _ => false)
theorem VR.oneCell {r : Ren} {v v' : Value} (h : VR r v v') (hp : cellVal v = true) : v'.oneCell' = true := by
  cases h <;> first | rfl | (simp [cellVal, Value.oneCell', undef, botV] at hp; done)
def cellOf (c : List Value) (i : Nat) : Value := c.getD i undef
def BR (r : Ren) (b : Blk) (o : Option Obj) (base csz : Nat) : Prop :=
  match b with
  | .cells l ro => ∃ c e fr, o = some (.cells c e fr) ∧ l.length ≤ csz ∧ base + csz ≤ c.size ∧
      (∀ i, i < l.length → VR r (l.getD i undef) (c.getD (base + i) undef)) ∧ (ro = false → fr.1 = fr.2 ∨ base + csz ≤ fr.1)
  | .map es => ∃ ents clk, o = some (.map ents clk) ∧ ents.toList.map (·.key) = es.map (·.1) ∧ (∀ p ∈ es, plainV p.1 = true) ∧ ∀ i, VR r ((es.map (·.2)).getD i undef) ((ents.toList.map (·.val)).getD i undef)
theorem BR.mono {r r' : Ren} (hx : Ext r r') {b : Blk} {o : Option Obj} {base csz : Nat} (h : BR r b o base csz) : BR r' b o base csz := by
  cases b with
  | cells l ro =>
    obtain ⟨c, e, fr, h1, h2, h3, h4, h5⟩ := h
    exact ⟨c, e, fr, h1, h2, h3, fun i hi => (h4 i hi).mono hx, h5⟩
  | map es =>
    obtain ⟨c, k, h1, h2, h3, h4⟩ := h
    exact ⟨c, k, h1, h2, h3, fun i => (h4 i).mono hx⟩
structure MemRel (r : Ren) (m : Mem) (w : World) : Prop where
  wf : m.bar ≤ m.next
  born : ∀ n l, r n = some l → n < m.next
  dead : ∀ n, r n = some .dead → m.get n = none
  live : ∀ n cb base csz, r n = some (.at cb base csz) → ∃ b, m.get n = some b ∧ BR r b (w.heap[cb]?) base csz
  inj : ∀ n n' cb base csz base' csz', r n = some (.at cb base csz) → r n' = some (.at cb base' csz') → n = n'
structure MExt (m m' : Mem) : Prop where
  bar : m'.bar = m.bar
  next : m.next ≤ m'.next
  get : ∀ n, n < m.bar → m'.get n = m.get n
theorem MExt.refl (m : Mem) : MExt m m := ⟨rfl, Nat.le_refl _, fun _ _ => rfl⟩
theorem MExt.trans {a b c : Mem} (h : MExt a b) (k : MExt b c) : MExt a c :=
  ⟨k.bar.trans h.bar, Nat.le_trans h.next k.next, fun n hn => (k.get n (by rw [h.bar]; exact hn)).trans (h.get n hn)⟩
structure Fr (r r' : Ren) (m : Mem) (w w' : World) : Prop where
  size : w.heap.size ≤ w'.heap.size
  os : w'.os = w.os
  tape : w'.tape = w.tape
  output : w'.output = w.output
  out : ∀ cb, cb < w.heap.size → (∀ n base csz, r n ≠ some (.at cb base csz)) → w'.heap[cb]? = w.heap[cb]?
  low : ∀ n cb base csz, n < m.bar → r n = some (.at cb base csz) → w'.heap[cb]? = w.heap[cb]?
  lowR : ∀ n, n < m.bar → r' n = r n
  ext : Ext r r'
  fresh : ∀ n, r n = none → r' n ≠ none → m.next ≤ n
  img : ∀ n cb base csz, r' n = some (.at cb base csz) → r n = some (.at cb base csz) ∨ w.heap.size ≤ cb ∨ ∃ n0 b0 c0, m.bar ≤ n0 ∧ r n0 = some (.at cb b0 c0)
theorem Fr.refl (r : Ren) (m : Mem) (w : World) : Fr r r m w w :=
  ⟨Nat.le_refl _, rfl, rfl, rfl, fun _ _ _ => rfl, fun _ _ _ _ _ _ => rfl, fun _ _ => rfl, Ext.refl r, fun _ h k => absurd h k, fun _ _ _ _ h => .inl h⟩
theorem Fr.drawn (r : Ren) (m : Mem) (w : World) (k : Nat) : Fr r r m w { w with drawn := k } :=
  ⟨Nat.le_refl _, rfl, rfl, rfl, fun _ _ _ => rfl, fun _ _ _ _ _ _ => rfl, fun _ _ => rfl, Ext.refl r, fun _ h k => absurd h k, fun _ _ _ _ h => .inl h⟩
theorem MemRel.drawn {r : Ren} {m : Mem} {w : World} (h : MemRel r m w) (k : Nat) : MemRel r m { w with drawn := k } := ⟨h.wf, h.born, h.dead, h.live, h.inj⟩
theorem Fr.trans {r r1 r2 : Ren} {m m1 : Mem} {w w1 w2 : World} (h : Fr r r1 m w w1) (hm : MExt m m1) (k : Fr r1 r2 m1 w1 w2) : Fr r r2 m w w2 where
  size := Nat.le_trans h.size k.size
  os := k.os.trans h.os
  tape := k.tape.trans h.tape
  output := k.output.trans h.output
  out := fun cb hcb hno => by
    rw [k.out cb (Nat.lt_of_lt_of_le hcb h.size) ?_, h.out cb hcb hno]
    intro n base csz hn
    rcases h.img n cb base csz hn with h1 | h1 | ⟨n0, b0, c0, _, h1⟩
    · exact hno _ _ _ h1
    · omega
    · exact hno _ _ _ h1
  low := fun n cb base csz hn hr => by
    rw [k.low n cb base csz (by rw [hm.bar]; exact hn) (by rw [h.lowR n hn]; exact hr), h.low n cb base csz hn hr]
  lowR := fun n hn => by rw [k.lowR n (by rw [hm.bar]; exact hn), h.lowR n hn]
  ext := h.ext.trans k.ext
  fresh := fun n hn hn' => by
    by_cases h1 : r1 n = none
    · exact Nat.le_trans hm.next (k.fresh n h1 hn')
    · exact h.fresh n hn h1
  img := fun n cb base csz hn => by
    rcases k.img n cb base csz hn with h1 | h1 | ⟨n0, b0, c0, hb, h1⟩
    · exact h.img n cb base csz h1
    · exact .inr (.inl (Nat.le_trans h.size h1))
    · rcases h.img n0 cb b0 c0 h1 with h2 | h2 | h2
      · exact .inr (.inr ⟨n0, b0, c0, by rw [← hm.bar]; exact hb, h2⟩)
      · exact .inr (.inl h2)
      · exact .inr (.inr h2)
def Mem.set (m : Mem) (n : Nat) (b : Option Blk) : Nat → Option Blk := fun k => if k = n then b else m.get k
def Mem.add (m : Mem) (b : Blk) : Mem := { next := m.next + 1, bar := m.bar, get := m.set m.next (some b) }
def Mem.put (m : Mem) (n : Nat) (b : Blk) : Mem := { next := m.next, bar := m.bar, get := m.set n (some b) }
def Mem.kill (m : Mem) (n : Nat) : Mem := { next := m.next, bar := m.bar, get := m.set n none }
def Ren.set (r : Ren) (n : Nat) (l : Loc) : Ren := fun k => if k = n then some l else r k
theorem MExt.add {m : Mem} (h : m.bar ≤ m.next) (b : Blk) : MExt m (m.add b) :=
  ⟨rfl, Nat.le_succ _, fun n hn => by simp only [Mem.add, Mem.set]; rw [if_neg (by omega)]⟩
theorem MExt.put {m : Mem} {n : Nat} (h : m.bar ≤ n) (b : Blk) : MExt m (m.put n b) :=
  ⟨rfl, Nat.le_refl _, fun k hk => by simp only [Mem.put, Mem.set]; rw [if_neg (by omega)]⟩
theorem MExt.kill {m : Mem} {n : Nat} (h : m.bar ≤ n) : MExt m (m.kill n) :=
  ⟨rfl, Nat.le_refl _, fun k hk => by simp only [Mem.kill, Mem.set]; rw [if_neg (by omega)]⟩
theorem Ext.set_new {r : Ren} {n : Nat} (h : r n = none) (l : Loc) : Ext r (r.set n l) := fun k l' hk => by
  left
  unfold Ren.set
  rw [if_neg (fun e => by subst e; rw [h] at hk; cases hk)]
  exact hk
theorem heap_push_lt (w : World) (o : Obj) (k : Nat) (h : k < w.heap.size) : (w.heap.push o)[k]? = w.heap[k]? := by
  rw [Array.getElem?_push, if_neg (by omega)]
theorem MemRel.lt {r : Ren} {m : Mem} {w : World} (h : MemRel r m w) {n cb base csz : Nat} (hn : r n = some (.at cb base csz)) : cb < w.heap.size := by
  obtain ⟨b, _, hb⟩ := h.live n cb base csz hn
  rcases Nat.lt_or_ge cb w.heap.size with h1 | h1
  · exact h1
  · rw [Array.getElem?_eq_none h1] at hb
    cases b <;> simp [BR] at hb
theorem MemRel.add {r : Ren} {m : Mem} {w : World} (h : MemRel r m w) (b : Blk) (o : Obj) (csz : Nat) (hb : ∀ r', Ext r r' → BR r' b (some o) 0 csz) (k : Nat) :
    MemRel (r.set m.next (.at w.heap.size 0 csz)) (m.add b) { w with heap := w.heap.push o, drawn := k } ∧ Fr r (r.set m.next (.at w.heap.size 0 csz)) m w { w with heap := w.heap.push o, drawn := k } := by
  have hnew : r m.next = none := by
    cases hr : r m.next with
    | none => rfl
    | some l => have := h.born _ _ hr; omega
  have hx : Ext r (r.set m.next (.at w.heap.size 0 csz)) := Ext.set_new hnew _
  refine ⟨⟨Nat.le_succ_of_le h.wf, ?_, ?_, ?_, ?_⟩, ⟨by simp, rfl, rfl, rfl, ?_, ?_, ?_, hx, ?_, ?_⟩⟩
  · intro n l hn
    unfold Ren.set at hn
    show n < m.next + 1
    split at hn
    · omega
    · have := h.born n l hn; omega
  · intro n hn
    unfold Ren.set at hn
    split at hn
    · cases hn
    · rename_i hne
      simp only [Mem.add, Mem.set, if_neg hne]
      exact h.dead n hn
  · intro n cb base csz' hn
    unfold Ren.set at hn
    split at hn
    · rename_i he
      injection hn with hn; injection hn with h1 h2 h3
      subst h1 h2 h3 he
      refine ⟨b, by simp [Mem.add, Mem.set], ?_⟩
      have : (w.heap.push o)[w.heap.size]? = some o := by simp
      show BR _ b ((w.heap.push o)[w.heap.size]?) 0 csz
      rw [this]
      exact hb _ hx
    · rename_i hne
      obtain ⟨b', hg, hbr⟩ := h.live n cb base csz' hn
      refine ⟨b', by simp only [Mem.add, Mem.set, if_neg hne]; exact hg, ?_⟩
      show BR _ b' ((w.heap.push o)[cb]?) base csz'
      rw [heap_push_lt _ _ _ (h.lt hn)]
      exact hbr.mono hx
  · intro n n' cb base csz1 base' csz2 h1 h2
    unfold Ren.set at h1 h2
    split at h1 <;> split at h2
    · omega
    · injection h1 with h1; injection h1 with h1 _ _
      have := h.lt h2
      omega
    · injection h2 with h2; injection h2 with h2 _ _
      have := h.lt h1
      omega
    · exact h.inj _ _ _ _ _ _ _ h1 h2
  · intro cb hcb _
    exact heap_push_lt _ _ _ hcb
  · intro n cb base csz' _ hn
    exact heap_push_lt _ _ _ (h.lt hn)
  · intro n hn
    have := h.wf
    unfold Ren.set
    rw [if_neg (by omega)]
  · intro n hn hn'
    unfold Ren.set at hn'
    split at hn'
    · omega
    · exact absurd hn hn'
  · intro n cb base csz' hn
    unfold Ren.set at hn
    split at hn
    · injection hn with hn; injection hn with h1 _ _
      exact .inr (.inl (by omega))
    · exact .inl hn
theorem MemRel.put {r : Ren} {m : Mem} {w : World} (h : MemRel r m w) {n cb base csz : Nat} (hn : r n = some (.at cb base csz)) (hbar : m.bar ≤ n) {b : Blk} {o' : Obj} {heap' : Array Obj}
    (hsz : heap'.size = w.heap.size) (hself : heap'[cb]? = some o') (hother : ∀ k, k ≠ cb → heap'[k]? = w.heap[k]?) (hb : BR r b (some o') base csz) :
    MemRel r (m.put n b) { w with heap := heap' } ∧ Fr r r m w { w with heap := heap' } := by
  refine ⟨⟨h.wf, h.born, ?_, ?_, h.inj⟩, ⟨by show _ ≤ heap'.size; omega, rfl, rfl, rfl, ?_, ?_, fun _ _ => rfl, Ext.refl r, fun _ h k => absurd h k, fun _ _ _ _ h => .inl h⟩⟩
  · intro k hk
    have hne : k ≠ n := by rintro rfl; rw [hn] at hk; cases hk
    simp only [Mem.put, Mem.set, if_neg hne]
    exact h.dead k hk
  · intro k cb' base' csz' hk
    by_cases hkn : k = n
    · subst hkn
      rw [hn] at hk
      injection hk with hk; injection hk with h1 h2 h3
      subst h1 h2 h3
      refine ⟨b, by simp [Mem.put, Mem.set], ?_⟩
      show BR r b (heap'[cb]?) base csz
      rw [hself]; exact hb
    · obtain ⟨b', hg, hbr⟩ := h.live k cb' base' csz' hk
      refine ⟨b', by simp only [Mem.put, Mem.set, if_neg hkn]; exact hg, ?_⟩
      have hne : cb' ≠ cb := by
        rintro rfl
        exact hkn (h.inj _ _ _ _ _ _ _ hk hn)
      show BR r b' (heap'[cb']?) base' csz'
      rw [hother _ hne]; exact hbr
  · intro cb' _ hno
    have hne : cb' ≠ cb := by rintro rfl; exact hno _ _ _ hn
    exact hother _ hne
  · intro k cb' base' csz' hk hr
    have hne : cb' ≠ cb := by
      rintro rfl
      have := h.inj _ _ _ _ _ _ _ hr hn
      omega
    exact hother _ hne
end Go.Ga

namespace Go.Ga
open Go
section
variable {P : Program} {r : Ren} {m : Mem} {w : World}
def StepOK {α : Type} (P : Program) (s : Sem α) (r : Ren) (m : Mem) (w : World) (R : Ren → α → Prop) (m' : Mem) : Prop :=
  ∃ r' v' w', s.run P w = .ok v' w' ∧ R r' v' ∧ MemRel r' m' w' ∧ Fr r r' m w w'
theorem StepOK.pure {α : Type} {s : Sem α} {R : Ren → α → Prop} {v' : α} (hm : MemRel r m w) (hs : s.run P w = .ok v' w) (hv : R r v') : StepOK P s r m w R m :=
  ⟨r, v', w, hs, hv, hm, Fr.refl r m w⟩
theorem getD_eq_some {c : Array Value} {i : Nat} (h : i < c.size) : c[i]? = some (c.getD i undef) := by
  simp [Array.getD, h]
theorem toList_getD (c : Array Value) (i : Nat) : c.toList.getD i undef = c.getD i undef := by
  simp only [List.getD, Array.getD, Array.getElem?_toList]
  by_cases h : i < c.size <;> simp [h]
theorem live_cells (hm : MemRel r m w) {n cb base csz : Nat} (hn : r n = some (.at cb base csz)) {l : List Value} {ro : Bool} (hg : m.get n = some (.cells l ro)) :
    ∃ c e fr, w.heap[cb]? = some (.cells c e fr) ∧ l.length ≤ csz ∧ base + csz ≤ c.size ∧ (∀ i, i < l.length → VR r (l.getD i undef) (c.getD (base + i) undef)) ∧
      (ro = false → fr.1 = fr.2 ∨ base + csz ≤ fr.1) := by
  obtain ⟨b, hb, hbr⟩ := hm.live n cb base csz hn
  rw [hg] at hb
  injection hb with hb
  subst hb
  exact hbr
theorem AR.live (hm : MemRel r m w) {n off : Nat} {a' : Addr} (h : AR r n off a') {b : Blk} (hg : m.get n = some b) :
    ∃ cb base csz, r n = some (.at cb base csz) ∧ a' = ⟨cb, base + off, none⟩ := by
  obtain ⟨hs, l, hl, hat⟩ := h
  cases l with
  | dead => rw [hm.dead n hl] at hg; cases hg
  | «at» cb base csz =>
    obtain ⟨h1, h2⟩ := hat cb base csz rfl
    refine ⟨cb, base, csz, hl, ?_⟩
    cases a'
    simp_all
theorem addr_add (cb o k : Nat) : (⟨cb, o, none⟩ : Addr).add k = ⟨cb, o + k, none⟩ := by
  unfold Addr.add
  split <;> simp_all
theorem cell_of_heap {c : Array Value} {e : TypeId} {fr : Nat × Nat} {cb o : Nat} (h : w.heap[cb]? = some (.cells c e fr)) (ho : o < c.size) : w.cell? ⟨cb, o, none⟩ = some (c.getD o undef) := by
  simp [World.cell?, h, Array.getD, ho]
theorem loadCells_ok (hm : MemRel r m w) {n off k : Nat} {a' : Addr} (ha : AR r n off a') {l : List Value} {ro : Bool} (hg : m.get n = some (.cells l ro)) (hk : off + k ≤ l.length) :
    ∃ cs : Array Value, (loadCells a' k).run P w = .ok cs w ∧ cs.size = k ∧ ∀ i, i < k → VR r (l.getD (off + i) undef) (cs.getD i undef) := by
  obtain ⟨cb, base, csz, hn, rfl⟩ := ha.live hm hg
  obtain ⟨c, e, fr, hh, h1, h2, h3, _⟩ := live_cells hm hn hg
  refine ⟨_, run_loadCells w _ k (fun j => c.getD (base + off + j) undef) (fun j hj => ?_), by simp, fun i hi => ?_⟩
  · rw [addr_add]
    exact cell_of_heap hh (by omega)
  · have := h3 (off + i) (by omega)
    rw [show base + (off + i) = base + off + i by omega] at this
    simpa [hi] using this
theorem load_ok (hm : MemRel r m w) {n off : Nat} {a' : Addr} (ha : AR r n off a') {l : List Value} {ro : Bool} (hg : m.get n = some (.cells l ro)) (hk : off < l.length) :
    ∃ v', (load a').run P w = .ok v' w ∧ VR r (l.getD off undef) v' := by
  obtain ⟨cb, base, csz, hn, rfl⟩ := ha.live hm hg
  obtain ⟨c, e, fr, hh, h1, h2, h3, _⟩ := live_cells hm hn hg
  refine ⟨c.getD (base + off) undef, ?_, h3 off hk⟩
  rw [run_load, cell_of_heap hh (by omega)]
theorem storeCells_run {cb : Nat} (e : TypeId) (fr : Nat × Nat) : ∀ (vs : List Value) (o i : Nat) (w : World) (c : Array Value), w.heap[cb]? = some (.cells c e fr) → o + i + vs.length ≤ c.size →
    (∀ j, j < vs.length → ¬ (fr.1 ≤ o + i + j ∧ o + i + j < fr.2)) → (∀ v ∈ vs, v.oneCell' = true) →
    ∃ (c' : Array Value) (heap' : Array Obj), (storeCells ⟨cb, o, none⟩ vs i).run P w = .ok () { w with heap := heap' } ∧ heap'.size = w.heap.size ∧ heap'[cb]? = some (.cells c' e fr) ∧ (∀ k, k ≠ cb → heap'[k]? = w.heap[k]?) ∧
      c'.size = c.size ∧ ∀ j, c'.getD j undef = if o + i ≤ j ∧ j < o + i + vs.length then vs.getD (j - (o + i)) undef else c.getD j undef
  | [], o, i, w, c, hh, _, _, _ => ⟨c, w.heap, rfl, rfl, hh, fun _ _ => rfl, rfl, fun j => by rw [if_neg (by simp only [List.length_nil]; omega)]⟩
  | v :: vs, o, i, w, c, hh, hsz, hfr, h1 => by
    simp only [List.length_cons] at hsz
    have hlt : cb < w.heap.size := by
      rcases Nat.lt_or_ge cb w.heap.size with h | h
      · exact h
      · rw [Array.getElem?_eq_none h] at hh; cases hh
    have hcell : w.cell? ⟨cb, o + i, none⟩ = some (c.getD (o + i) undef) := cell_of_heap hh (by omega)
    have hfz : w.frozen? ⟨cb, o + i, none⟩ = false := by
      have := hfr 0 (by simp)
      simp only [Nat.add_zero] at this
      obtain ⟨lo, hi⟩ := fr
      simp only [World.frozen?, hh]
      simp only at this
      rw [← Bool.not_eq_true]
      intro hc
      rw [Bool.and_eq_true, decide_eq_true_eq, decide_eq_true_eq] at hc
      exact this hc
    have hst : (store ((⟨cb, o, none⟩ : Addr).add i) v).run P w = .ok () (w.setCell ⟨cb, o + i, none⟩ v) := by
      rw [addr_add, run_store P w _ v _ (h1 v (by simp)), hcell, hfz]
      rfl
    have hh' : (w.setCell ⟨cb, o + i, none⟩ v).heap[cb]? = some (.cells (c.setIfInBounds (o + i) v) e fr) := by
      simp [World.setCell, Array.getElem?_modify, hh]
    obtain ⟨c', heap', hrun, hs, hself, hoth, hcs, hval⟩ := storeCells_run e fr vs o (i + 1) (w.setCell ⟨cb, o + i, none⟩ v) _ hh' (by simp; omega)
      (fun j hj => by have := hfr (j + 1) (by simp; omega); rwa [show o + i + (j + 1) = o + (i + 1) + j by omega] at this) (fun x hx => h1 x (by simp [hx]))
    refine ⟨c', heap', ?_, by rw [hs]; simp [World.setCell], hself, fun k hk => ?_, by rw [hcs]; simp, fun j => ?_⟩
    · simp only [storeCells, Sem.run_bind, hst, Result.andThen_ok, hrun]
      rfl
    · rw [hoth k hk]
      simp only [World.setCell, Array.getElem?_modify]
      rw [if_neg (fun e => hk e.symm)]
    · rw [hval j]
      by_cases hj : j = o + i
      · subst hj
        rw [if_neg (by omega), if_pos (by simp)]
        simp only [Nat.sub_self]
        simp [Array.getD, show o + i < c.size by omega]
      · by_cases hj2 : o + (i + 1) ≤ j ∧ j < o + (i + 1) + vs.length
        · rw [if_pos hj2, if_pos (by simp; omega)]
          rw [show j - (o + i) = (j - (o + (i + 1))) + 1 by omega]
          simp
        · rw [if_neg hj2, if_neg (by simp; omega)]
          simp only [Array.getD]
          by_cases hjs : j < c.size
          · simp [hjs, show ¬ (o + i = j) by omega]
          · simp [hjs]
def splice (l : List Value) (off : Nat) (vs : List Value) : List Value := l.take off ++ vs ++ l.drop (off + vs.length)
theorem length_splice {l : List Value} {off : Nat} {vs : List Value} (h : off + vs.length ≤ l.length) : (splice l off vs).length = l.length := by
  simp [splice]; omega
theorem getD_splice {l : List Value} {off : Nat} {vs : List Value} (h : off + vs.length ≤ l.length) (j : Nat) :
    (splice l off vs).getD j undef = if off ≤ j ∧ j < off + vs.length then vs.getD (j - off) undef else l.getD j undef := by
  simp only [List.getD_eq_getElem?_getD, splice]
  by_cases h1 : j < off
  · rw [if_neg (by omega), List.append_assoc, List.getElem?_append_left (by simp; omega)]
    simp [h1]
  · by_cases h2 : j < off + vs.length
    · rw [if_pos (by omega), List.getElem?_append_left (by simp; omega), List.getElem?_append_right (by simp; omega)]
      rw [List.length_take, Nat.min_eq_left (by omega)]
    · rw [if_neg (by omega), List.getElem?_append_right (by simp; omega)]
      simp only [List.length_append, List.length_take, List.getElem?_drop]
      congr 2
      omega
theorem storeCells_ok (hm : MemRel r m w) {n off : Nat} {a' : Addr} (ha : AR r n off a') {l : List Value} (hg : m.get n = some (.cells l false)) (hbar : m.bar ≤ n) (vs vs' : List Value)
    (hk : off + vs.length ≤ l.length) (hl : vs'.length = vs.length) (hv : ∀ i, i < vs.length → VR r (vs.getD i undef) (vs'.getD i undef)) (h1 : ∀ v ∈ vs, cellVal v = true) :
    ∃ w', (storeCells a' vs').run P w = .ok () w' ∧ MemRel r (m.put n (.cells (splice l off vs) false)) w' ∧ Fr r r m w w' := by
  obtain ⟨cb, base, csz, hn, rfl⟩ := ha.live hm hg
  obtain ⟨c, e, fr, hh, hc1, hc2, hc3, hc4⟩ := live_cells hm hn hg
  have h1' : ∀ v ∈ vs', v.oneCell' = true := by
    intro v hvm
    obtain ⟨i, hi, rfl⟩ := List.getElem_of_mem hvm
    have hr := hv i (by omega)
    have e1 : vs.getD i undef = vs[i]'(by omega) := by simp [List.getD, List.getElem?_eq_getElem (show i < vs.length by omega)]
    have e2 : vs'.getD i undef = vs'[i] := by simp [List.getD, List.getElem?_eq_getElem hi]
    rw [e1, e2] at hr
    exact hr.oneCell (h1 _ (List.getElem_mem _))
  obtain ⟨c', heap', hrun, hs, hself, hoth, hcs, hval⟩ := storeCells_run (P := P) e fr vs' (base + off) 0 w c hh (by omega)
    (fun j hj => by have := hc4 rfl; omega) h1'
  have hp := hm.put hn hbar (b := .cells (splice l off vs) false) (o' := .cells c' e fr) (heap' := heap') hs hself hoth
    ⟨c', e, fr, rfl, by rw [length_splice hk]; exact hc1, by rw [hcs]; exact hc2, fun i hi => by
      rw [length_splice hk] at hi
      rw [getD_splice hk, hval]
      by_cases hin : off ≤ i ∧ i < off + vs.length
      · rw [if_pos hin, if_pos (by omega)]
        rw [show base + i - (base + off + 0) = i - off by omega]
        exact hv _ (by omega)
      · rw [if_neg hin, if_neg (by omega)]
        exact hc3 i hi, hc4⟩
  exact ⟨_, hrun, hp.1, hp.2⟩
def cellsV : Value → Option (List Value)
  | .agg cs => some cs.toList
  | .tuple _ => none
  | .chan _ => none
  | v => some [v]
theorem VR.cells {v v' : Value} (h : VR r v v') {l : List Value} (hl : cellsV v = some l) :
    v'.cells.size = l.length ∧ ∀ i, VR r (l.getD i undef) (v'.cells.getD i undef) := by
  have single : ∀ {u u' : Value}, VR r u u' → cellsV u = some [u] → u'.cells = #[u'] → cellsV u = some l → u'.cells.size = l.length ∧ ∀ i, VR r (l.getD i undef) (u'.cells.getD i undef) := by
    intro u u' hu h1 h2 h3
    rw [h1] at h3
    injection h3 with h3
    subst h3
    refine ⟨by simp [h2], fun i => ?_⟩
    rw [h2]
    cases i with
    | zero => simpa using hu
    | succ i => simpa [Array.getD] using VR.und
  cases h with
  | agg hs h =>
    simp only [cellsV, Option.some.injEq] at hl
    subst hl
    refine ⟨by simp [Value.cells, hs], fun i => ?_⟩
    rw [toList_getD]
    exact h i
  | und => simp [cellsV, undef] at hl
  | bot v => simp [cellsV, botV] at hl
  | tuple hs h => simp [cellsV] at hl
  | bool b => exact single (.bool b) rfl rfl hl
  | int k n => exact single (.int k n) rfl rfl hl
  | string s => exact single (.string s) rfl rfl hl
  | pnil => exact single .pnil rfl rfl hl
  | ptr hs h => exact single (.ptr hs h) rfl rfl hl
  | snil => exact single .snil rfl rfl hl
  | slice hn h => exact single (.slice hn h) rfl rfl hl
  | mnil => exact single .mnil rfl rfl hl
  | map h => exact single (.map h) rfl rfl hl
  | func fn hs h => exact single (.func fn hs h) rfl rfl hl
  | nilFunc => exact single .nilFunc rfl rfl hl
  | nilIface => exact single .nilIface rfl rfl hl
  | iface t h => exact single (.iface t h) rfl rfl hl
theorem newRow_ok (hm : MemRel r m w) (elem : TypeId) (l : List Value) (c : Array Value) (hle : l.length ≤ c.size) (hv : ∀ i, i < l.length → VR r (l.getD i undef) (c.getD i undef)) (k : Nat) :
    ∃ r', MemRel r' (m.add (.cells l false)) { w with heap := w.heap.push (.cells c elem), drawn := k } ∧ Fr r r' m w { w with heap := w.heap.push (.cells c elem), drawn := k } ∧ r' m.next = some (.at w.heap.size 0 c.size) := by
  have := hm.add (.cells l false) (.cells c elem) c.size (fun r' hx => ⟨c, elem, (0, 0), rfl, hle, by omega, fun i hi => by simpa using (hv i hi).mono hx, fun _ => .inl rfl⟩) k
  exact ⟨_, this.1, this.2, by simp [Ren.set]⟩
end
end Go.Ga

namespace Go.Ga
open Go
abbrev Regs := Nat → Value
inductive Rv where
  | t (i : Nat)
  | k (v : Value)
def Rv.ev (f : Regs) : Rv → Value
  | .t i => f i
  | .k v => v
inductive NilK where
  | ptr | sl | mp | fn | ifc
def isNilV : NilK → Value → Option Bool
  | .ptr, .pointer a => some a.isNone
  | .sl, .slice a _ _ => some a.isNone
  | .mp, .map a => some a.isNone
  | .fn, .nilFunc => some true
  | .fn, .func _ _ _ => some false
  | .ifc, .nilIface => some true
  | .ifc, .iface _ _ => some false
  | _, _ => none
inductive ROp where
  | mv (x : Rv)
  | pick (c a b : Rv)
  | new (cells : List Value)
  | box (x : Rv)
  | build (zero : List Value) (parts : List (Nat × Nat × Rv))
  | mkSl (len : Nat) (zero : List Value) (parts : List (Nat × Nat × Rv))
  | load1 (x : Rv)
  | loadN (n : Nat) (x : Rv)
  | store (n : Nat) (x v : Rv)
  | chk (x : Rv)
  | bin (op : BinOp) (x y : Rv)
  | eqB (neg : Bool) (x y : Rv)
  | eqN (nk : NilK) (neg : Bool) (x : Rv)
  | eqA (op : BinOp) (t : TypeId) (x y : Rv)
  | un (op : UnOp) (x : Rv)
  | toInt (k : IntKind) (x : Rv)
  | s2b (x : Rv)
  | b2s (x : Rv)
  | s2s (x : Rv)
  | cvB (x : Rv)
  | iface (t : TypeId) (x : Rv)
  | func (fn : FuncId) (caps : List Rv)
  | make (esz bytes : Nat) (zero : List Value) (l c : Rv)
  | slStr (x : Rv) (lo hi : Option Rv)
  | sl (esz : Nat) (x : Rv) (lo hi mx : Option Rv)
  | slArr (n esz : Nat) (x : Rv) (lo hi mx : Option Rv)
  | fieldAddr (off : Nat) (x : Rv)
  | field1 (off : Nat) (x : Rv)
  | fieldN (off n : Nat) (x : Rv)
  | ixAddr (esz : Nat) (x i : Rv)
  | ixAddrA (n esz : Nat) (x i : Rv)
  | ixArr (n : Nat) (x i : Rv)
  | ixArrN (n esz : Nat) (x i : Rv)
  | ixStr (x i : Rv)
  | extract (x : Rv) (i : Nat)
  | lenStr (x : Rv)
  | lenSl (x : Rv)
  | lenK (n : Nat)
  | append (esz bytes : Nat) (x y : Rv)
  | appendS (x y : Rv)
  | copy (esz : Nat) (x y : Rv)
  | copyS (x y : Rv)
  | mm (mx : Bool) (x : Rv) (ys : List Rv)
def bitsV (op : BinOp) (k : IntKind) (x y : Int) : Int :=
  let a := BitVec.ofInt k.bits x
  let b := BitVec.ofInt k.bits y
  match op with
  | .and => k.wrap (a &&& b).toNat
  | .or => k.wrap (a ||| b).toNat
  | .xor => k.wrap (a ^^^ b).toNat
  | _ => k.wrap (a &&& ~~~b).toNat
def shlV (k : IntKind) (x y : Int) : Int := k.wrap (x * 2 ^ (min y.toNat k.bits))
def shrV (k : IntKind) (x y : Int) : Int := x.fdiv (2 ^ (min y.toNat k.bits))
def binI (op : BinOp) (k : IntKind) (a b : Int) (K : Value → Prop) : Prop :=
  match op with
  | .add => K (.int k (k.wrap (a + b)))
  | .sub => K (.int k (k.wrap (a - b)))
  | .mul => K (.int k (k.wrap (a * b)))
  | .quo => b ≠ 0 ∧ K (.int k (k.wrap (a.tdiv b)))
  | .rem => b ≠ 0 ∧ K (.int k (a.tmod b))
  | .and => K (.int k (bitsV .and k a b))
  | .or => K (.int k (bitsV .or k a b))
  | .xor => K (.int k (bitsV .xor k a b))
  | .andNot => K (.int k (bitsV .andNot k a b))
  | .eql => K (.bool (a == b))
  | .neq => K (.bool (a != b))
  | .lss => K (.bool (a < b))
  | .leq => K (.bool (a ≤ b))
  | .gtr => K (.bool (a > b))
  | .geq => K (.bool (a ≥ b))
  | _ => False
def binS (op : BinOp) (x y : ByteArray) (K : Value → Prop) : Prop :=
  match op with
  | .add => ((x.size + y.size : Nat) : Int) ≤ IntKind.i64.max ∧ K (.string (x ++ y))
  | .eql => K (.bool (x.toList == y.toList))
  | .neq => K (.bool (!(x.toList == y.toList)))
  | .lss => K (.bool (Op.bytesLess x.toList y.toList))
  | .leq => K (.bool (Op.bytesLess x.toList y.toList || x.toList == y.toList))
  | .gtr => K (.bool (!(Op.bytesLess x.toList y.toList || x.toList == y.toList)))
  | .geq => K (.bool (!Op.bytesLess x.toList y.toList))
  | _ => False
def binK (op : BinOp) (x y : Value) (K : Value → Prop) : Prop :=
  match x, y with
  | .int k a, .int k' b =>
    match op with
    | .shl => 0 ≤ b ∧ K (.int k (shlV k a b))
    | .shr => 0 ≤ b ∧ K (.int k (shrV k a b))
    | _ => k = k' ∧ binI op k a b K
  | .string a, .string b => binS op a b K
  | _, _ => False
def unK (op : UnOp) (x : Value) (K : Value → Prop) : Prop :=
  match op, x with
  | .not, .bool b => K (.bool !b)
  | .neg, .int k n => K (.int k (k.wrap (0 - n)))
  | .xor, .int k n => K (.int k (bitsV .xor k (if k.signed then -1 else k.max) n))
  | _, _ => False
def fillL (cells : List Value) (f : Regs) : List (Nat × Nat × Rv) → Option (List Value)
  | [] => some cells
  | (off, sz, x) :: rest =>
    match cellsV (x.ev f) with
    | some l => if l.length = sz ∧ off + sz ≤ cells.length then fillL (splice cells off l) f rest else none
    | none => none
def byteOf : Value → Option UInt8
  | .int .u8 n => some (UInt8.ofNat n.toNat)
  | _ => none
def bytesOf : List Value → Option (List UInt8)
  | [] => some []
  | v :: l => match byteOf v, bytesOf l with
    | some b, some bs => some (b :: bs)
    | _, _ => none
def u8V (b : UInt8) : Value := .int .u8 b.toNat
def optIx (f : Regs) (o : Option Rv) (d : Int) : Option Int :=
  match o with
  | none => some d
  | some x => match x.ev f with
    | .int _ n => some n
    | _ => none
def rowOf (m : Mem) (a : Option Addr) (cells : Nat) : Option (List Value) :=
  if cells = 0 then some [] else
  match a with
  | none => none
  | some a => match m.get a.block with
    | some (.cells l _) => if a.off + cells ≤ l.length then some ((l.drop a.off).take cells) else none
    | _ => none
def writeK (m : Mem) (a : Addr) (off : Nat) (vs : List Value) (K : Mem → Prop) : Prop :=
  match m.get a.block with
  | some (.cells l false) => m.bar ≤ a.block ∧ a.off + off + vs.length ≤ l.length ∧ (∀ v ∈ vs, cellVal v = true) ∧ K (m.put a.block (.cells (splice l (a.off + off) vs) false))
  | _ => False
def appendK (esz bytes : Nat) (m : Mem) (A : Option Addr) (n c : Nat) (k : Nat) (news : List Value) (K : Value → Mem → Prop) : Prop :=
  news.length = k * esz ∧ 0 < esz ∧ (∀ v ∈ news, cellVal v = true) ∧
  if n + k ≤ c then
    match A with
    | none => K (.slice A (n + k) c) m
    | some a => if k = 0 then K (.slice A (n + k) c) m else writeK m a (n * esz) news fun m' => K (.slice A (n + k) c) m'
  else
    (n + k) * bytes ≤ 140737488355328 ∧ n + k ≤ 9223372036854775807 ∧
    match rowOf m A (n * esz) with
    | none => False
    | some old =>
      match A with
      | none => K (.slice (some ⟨m.next, 0, some esz⟩) (n + k) (n + k)) (m.add (.cells (old ++ news) false))
      | some a => match a.spot with
        | none => K (.slice (some ⟨m.next, 0, some esz⟩) (n + k) (n + k)) (m.add (.cells (old ++ news) false))
        | some e => e = esz ∧ m.bar ≤ a.block ∧ (∃ l, m.get a.block = some (.cells l false)) ∧ K (.slice (some ⟨m.next, 0, some esz⟩) (n + k) (n + k)) ((m.kill a.block).add (.cells (old ++ news) false))
def mmV (mx : Bool) (k : IntKind) (a : Int) (f : Regs) : List Rv → Option Int
  | [] => some a
  | y :: ys => match y.ev f with
    | .int _ b => mmV mx k (if mx then (if b > a then b else a) else (if b < a then b else a)) f ys
    | _ => none
def pureRun {α : Type} (P : Program) : Sem α → Option α
  | .pure a => some a
  | .program k => pureRun P (k P)
  | .mark _ k => pureRun P k
  | _ => none
def ROp.vc (P : Program) (f : Regs) (m : Mem) (K : Value → Mem → Prop) : ROp → Prop
  | .mv x => K (x.ev f) m
  | .pick c a b => match c.ev f with
    | .bool b' => K (if b' then a.ev f else b.ev f) m
    | _ => False
  | .new l => K (.pointer (some ⟨m.next, 0, none⟩)) (m.add (.cells l false))
  | .box x => match cellsV (x.ev f) with
    | some l => K (.pointer (some ⟨m.next, 0, none⟩)) (m.add (.cells l false))
    | none => False
  | .build zero parts => match fillL zero f parts with
    | some l => K (.agg l.toArray) m
    | none => False
  | .mkSl len zero parts => match fillL zero f parts with
    | some l => K (.slice (some ⟨m.next, 0, none⟩) len len) (m.add (.cells l false))
    | none => False
  | .load1 x => match x.ev f with
    | .pointer (some a) => match m.get a.block with
      | some (.cells l _) => a.off < l.length ∧ K (l.getD a.off undef) m
      | _ => False
    | _ => False
  | .loadN n x => match x.ev f with
    | .pointer (some a) => match m.get a.block with
      | some (.cells l _) => a.off + n ≤ l.length ∧ K (.agg ((l.drop a.off).take n).toArray) m
      | _ => False
    | _ => False
  | .store n x v => match x.ev f with
    | .pointer (some a) => match cellsV (v.ev f) with
      | some l => l.length = n ∧ writeK m a 0 l fun m' => K undef m'
      | none => False
    | _ => False
  | .chk x => match x.ev f with
    | .pointer (some a) => K (.pointer (some a)) m
    | .func (.func g) fs cs => K (.func (.func g) fs cs) m
    | _ => False
  | .bin op x y => binK op (x.ev f) (y.ev f) fun v => K v m
  | .eqB neg x y => match x.ev f, y.ev f with
    | .bool a, .bool b => K (.bool (if neg then !(a == b) else (a == b))) m
    | _, _ => False
  | .eqN nk neg x => match isNilV nk (x.ev f) with
    | some b => K (.bool (if neg then !b else b)) m
    | none => False
  | .eqA op t x y => match x.ev f, y.ev f with
    | .agg xs, .agg ys => xs.toList.all plain = true ∧ ys.toList.all plain = true ∧
      match pureRun P (do eqGuard op t (.tmp 0) (.tmp 0) (.agg xs) (.agg ys); binOp op t (.agg xs) (.agg ys)) with
      | some (.bool b) => K (.bool b) m
      | _ => False
    | _, _ => False
  | .un op x => unK op (x.ev f) fun v => K v m
  | .toInt k x => match x.ev f with
    | .int _ n => K (.int k (k.wrap n)) m
    | _ => False
  | .s2b x => match x.ev f with
    | .string s => K (.slice (some ⟨m.next, 0, some 1⟩) s.size s.size) (m.add (.cells (s.data.toList.map u8V) false))
    | _ => False
  | .b2s x => match x.ev f with
    | .slice A n _ => match rowOf m A n with
      | some l => match bytesOf l with
        | some bs => K (.string ⟨bs.toArray⟩) m
        | none => False
      | none => False
    | _ => False
  | .s2s x => match x.ev f with
    | .string s => K (.string s) m
    | _ => False
  | .cvB x => match x.ev f with
    | .slice (some a) n c => match m.get a.block with
      | some (.cells _ false) => m.bar ≤ a.block ∧ 0 < c ∧ K (.slice (some a) n c) m
      | _ => False
    | _ => False
  | .iface t x => K (.iface t (x.ev f)) m
  | .func g caps => K (.func (.func g) #[] (caps.map fun x => x.ev f).toArray) m
  | .make esz bytes zero l c => match l.ev f, c.ev f with
    | .int _ l, .int _ c => 0 ≤ l ∧ l ≤ c ∧ bytes * c ≤ 281474976710656 ∧ c ≤ 9223372036854775807 ∧ zero ≠ [] ∧
      K (.slice (some ⟨m.next, 0, none⟩) l.toNat c.toNat) (m.add (.cells ((List.range (c.toNat * esz)).map fun i => zero.getD (i % zero.length) undef) false))
    | _, _ => False
  | .slStr x lo hi => match x.ev f with
    | .string s => match optIx f hi s.size with
      | some h => match optIx f lo 0 with
        | some l => 0 ≤ l ∧ l ≤ h ∧ h ≤ s.size ∧ K (.string (s.extract l.toNat h.toNat)) m
        | none => False
      | none => False
    | _ => False
  | .sl esz x lo hi mx => match x.ev f with
    | .slice A n c => match optIx f mx c with
      | some M => match optIx f hi n with
        | some H => match optIx f lo 0 with
          | some L => 0 ≤ L ∧ L ≤ H ∧ H ≤ M ∧ M ≤ c ∧ (mx.isSome = true → hi.isSome = true) ∧
            match A with
            | none => K (.slice none 0 0) m
            | some a => (mx.isSome = true ∨ a.spot = none ∨ a.spot = some esz) ∧
              K (.slice (some ⟨a.block, a.off + L.toNat * esz, if mx.isSome then none else a.spot⟩) (H - L).toNat (M - L).toNat) m
          | none => False
        | none => False
      | none => False
    | _ => False
  | .slArr n esz x lo hi mx => match x.ev f with
    | .pointer (some a) => match optIx f mx n with
      | some M => match optIx f hi n with
        | some H => match optIx f lo 0 with
          | some L => 0 ≤ L ∧ L ≤ H ∧ H ≤ M ∧ M ≤ n ∧ (mx.isSome = true → hi.isSome = true) ∧
            K (.slice (some ⟨a.block, a.off + L.toNat * esz, none⟩) (H - L).toNat (M - L).toNat) m
          | none => False
        | none => False
      | none => False
    | _ => False
  | .fieldAddr off x => match x.ev f with
    | .pointer (some a) => K (.pointer (some ⟨a.block, a.off + off, none⟩)) m
    | _ => False
  | .field1 off x => match x.ev f with
    | .agg cs => off < cs.size ∧ K (cs.getD off undef) m
    | _ => False
  | .fieldN off n x => match x.ev f with
    | .agg cs => K (.agg (cs.extract off (off + n))) m
    | _ => False
  | .ixAddr esz x i => match x.ev f, i.ev f with
    | .slice (some a) n _, .int _ i => 0 ≤ i ∧ i < n ∧ K (.pointer (some ⟨a.block, a.off + i.toNat * esz, none⟩)) m
    | _, _ => False
  | .ixAddrA n esz x i => match x.ev f, i.ev f with
    | .pointer (some a), .int _ i => 0 ≤ i ∧ i < n ∧ K (.pointer (some ⟨a.block, a.off + i.toNat * esz, none⟩)) m
    | _, _ => False
  | .ixArr n x i => match x.ev f, i.ev f with
    | .agg cs, .int _ i => 0 ≤ i ∧ i < n ∧ i.toNat < cs.size ∧ K (cs.getD i.toNat undef) m
    | _, _ => False
  | .ixArrN n esz x i => match x.ev f, i.ev f with
    | .agg cs, .int _ i => 0 ≤ i ∧ i < n ∧ K (.agg (cs.extract (i.toNat * esz) (i.toNat * esz + esz))) m
    | _, _ => False
  | .ixStr x i => match x.ev f, i.ev f with
    | .string s, .int _ i => 0 ≤ i ∧ i < s.size ∧ K (u8V (s.data.toList.getD i.toNat 0)) m
    | _, _ => False
  | .extract x i => match x.ev f with
    | .tuple vs => i < vs.size ∧ K (vs.getD i undef) m
    | _ => False
  | .lenStr x => match x.ev f with
    | .string s => K (.int .i64 s.size) m
    | _ => False
  | .lenSl x => match x.ev f with
    | .slice _ n _ => K (.int .i64 n) m
    | _ => False
  | .lenK n => K (.int .i64 n) m
  | .append esz bytes x y => match x.ev f, y.ev f with
    | .slice A n c, .slice B k _ => match rowOf m B (k * esz) with
      | some news => appendK esz bytes m A n c k news K
      | none => False
    | _, _ => False
  | .appendS x y => match x.ev f, y.ev f with
    | .slice A n c, .string s => appendK 1 1 m A n c s.size (s.data.toList.map u8V) K
    | _, _ => False
  | .copy esz x y => match x.ev f, y.ev f with
    | .slice A n _, .slice B k _ => match rowOf m B (Nat.min k n * esz) with
      | some news => match A with
        | none => K (.int .i64 (Nat.min k n : Nat)) m
        | some a => if Nat.min k n * esz = 0 then K (.int .i64 (Nat.min k n : Nat)) m else writeK m a 0 news fun m' => K (.int .i64 (Nat.min k n : Nat)) m'
      | none => False
    | _, _ => False
  | .copyS x y => match x.ev f, y.ev f with
    | .slice A n _, .string s => match A with
      | none => K (.int .i64 (Nat.min s.size n : Nat)) m
      | some a => if Nat.min s.size n = 0 then K (.int .i64 (Nat.min s.size n : Nat)) m
        else writeK m a 0 ((s.data.toList.take (Nat.min s.size n)).map u8V) fun m' => K (.int .i64 (Nat.min s.size n : Nat)) m'
    | _, _ => False
  | .mm mx x ys => match x.ev f with
    | .int k a => match mmV mx k a f ys with
      | some b => K (.int k b) m
      | none => False
    | _ => False
end Go.Ga

namespace Go.Ga
open Go
section
variable {P : Program} {r : Ren} {m : Mem} {w : World} {f : Regs}
theorem VR.of_plainV {r : Ren} {v : Value} (h : plainV v = true) : VR r v v := by
  cases v with
  | agg cs =>
    refine .agg rfl fun i => ?_
    simp only [plainV, List.all_eq_true] at h
    by_cases hi : i < cs.size
    · exact VR.of_plain (h _ (by simp [Array.getD, hi]))
    · simpa [Array.getD, hi] using VR.und
  | _ => exact VR.of_plain h
theorem VR.eq_of_plains {r : Ren} {cs : Array Value} {v' : Value} (h : VR r (.agg cs) v') (hp : cs.toList.all plain = true) : v' = .agg cs := by
  cases h with
  | agg hs hv =>
    rename_i cs'
    congr 1
    apply Array.ext hs.symm
    intro i h1 h2
    have h3 := hv i
    simp only [List.all_eq_true] at hp
    have h4 := hp cs[i] (by simp)
    have e1 : cs.getD i undef = cs[i] := by simp [Array.getD, h2]
    have e2 : cs'.getD i undef = cs'[i] := by simp [Array.getD, h1]
    rw [e1, e2] at h3
    exact h3.eq_of_plain h4
theorem pureRun_ok {α : Type} {s : Sem α} {x : α} (h : pureRun P s = some x) (w : World) : s.run P w = .ok x w := by
  induction s generalizing w with
  | pure a => simp only [pureRun, Option.some.injEq] at h; subst h; rfl
  | program k ih => simp only [pureRun] at h; exact ih _ h w
  | mark _ k ih => simp only [pureRun] at h; exact ih h w
  | _ => simp [pureRun] at h
def resolveRv : Operand → Option Rv
  | .tmp t => some (.t t)
  | .const v => if plainV v then some (.k v) else none
  | .func g => some (.k (.func (.func g) #[] #[]))
  | .global _ => none
theorem resolveRv_rel {x : Operand} {rv : Rv} {a : Act} (h : resolveRv x = some rv) (ht : ∀ t, x = .tmp t → VR r (f t) (a.eval (.tmp t))) : VR r (rv.ev f) (a.eval x) := by
  cases x with
  | tmp t => simp only [resolveRv, Option.some.injEq] at h; subst h; exact ht t rfl
  | const v =>
    simp only [resolveRv] at h
    split at h
    · rename_i hp
      simp only [Option.some.injEq] at h; subst h; exact VR.of_plainV hp
    · cases h
  | func g =>
    simp only [resolveRv, Option.some.injEq] at h; subst h
    exact .func _ rfl fun i => by simpa [Array.getD] using VR.und
  | global g => simp [resolveRv] at h
def OpEv (P : Program) (o : Oper) (f : Regs) (m : Mem) (v : Value) (m' : Mem) : Prop :=
  MExt m m' ∧ ∀ (r : Ren) (w : World) (a : Act), MemRel r m w → (∀ t, Operand.tmp t ∈ o.op.operands → VR r (f t) (a.eval (.tmp t))) →
    ∀ (K : Act → World → Prop) (Q : Exit → Act → World → Prop), (∀ r' v' w', VR r' v v' → MemRel r' m' w' → Fr r r' m w w' → K (a.put o.dst v') w') → o.wp P a w K Q
theorem OpEv.of_value {o : Oper} {v : Value} {m' : Mem} (hx : MExt m m') {s : Act → Sem Value} (he : ∀ a : Act, execOp a.eval o = (do pure (.value (← s a))))
    (h : ∀ (r : Ren) (w : World) (a : Act), MemRel r m w → (∀ t, Operand.tmp t ∈ o.op.operands → VR r (f t) (a.eval (.tmp t))) → StepOK P (s a) r m w (fun r' v' => VR r' v v') m') : OpEv P o f m v m' := by
  refine ⟨hx, fun r w a hm ht K Q hk => ?_⟩
  obtain ⟨r', v', w', hrun, hv, hm', hf⟩ := h r w a hm ht
  unfold Oper.wp
  rw [he a]
  simp only [Sem.run_bind, hrun, Result.andThen_ok, Sem.run_pure, Oper.upon]
  exact hk r' v' w' hv hm' hf
theorem OpEv.of_unit {o : Oper} {m' : Mem} (hx : MExt m m') {s : Act → Sem Unit} (he : ∀ a : Act, execOp a.eval o = (do s a; pure .skip))
    (h : ∀ (r : Ren) (w : World) (a : Act), MemRel r m w → (∀ t, Operand.tmp t ∈ o.op.operands → VR r (f t) (a.eval (.tmp t))) → StepOK P (s a) r m w (fun _ _ => True) m') : OpEv P o f m undef m' := by
  refine ⟨hx, fun r w a hm ht K Q hk => ?_⟩
  obtain ⟨r', v', w', hrun, _, hm', hf⟩ := h r w a hm ht
  unfold Oper.wp
  rw [he a]
  simp only [Sem.run_bind, hrun, Result.andThen_ok, Sem.run_pure, Oper.upon]
  exact hk r' undef w' .und hm' hf
theorem binI_ok {op : BinOp} {k : IntKind} {a b : Int} {K : Value → Prop} (hs : op ≠ .shl) (hs2 : op ≠ .shr) (h : binI op k a b K) (t : TypeId) :
    ∃ v, K v ∧ plain v = true ∧ ∀ w, (binOp op t (.int k a) (.int k b)).run P w = .ok v w := by
  cases op <;> simp only [binI] at h <;> first
    | exact absurd rfl hs
    | exact absurd rfl hs2
    | exact ⟨_, h, rfl, fun w => by simp [binOp, Op.intArith, Op.intBits, Op.intCmp, bitsV]⟩
    | (obtain ⟨hb, h⟩ := h
       exact ⟨_, h, rfl, fun w => by simp [binOp, Op.intDiv, hb]⟩)
    | cases h
theorem binK_ok {op : BinOp} {x y : Value} {K : Value → Prop} (h : binK op x y K) (t : TypeId) :
    plain x = true ∧ plain y = true ∧ ∃ v, K v ∧ plain v = true ∧ ∀ w, (binOp op t x y).run P w = .ok v w := by
  unfold binK at h
  split at h
  · refine ⟨rfl, rfl, ?_⟩
    rename_i k a k' b
    split at h
    · obtain ⟨hb, h⟩ := h
      refine ⟨_, h, rfl, fun w => ?_⟩
      simp [binOp, Op.shift, shlV, show ¬ b < 0 by omega]
    · obtain ⟨hb, h⟩ := h
      refine ⟨_, h, rfl, fun w => ?_⟩
      simp [binOp, Op.shift, shrV, show ¬ b < 0 by omega]
    · rename_i h1 h2
      obtain ⟨rfl, h⟩ := h
      exact binI_ok (fun e => h1 e) (fun e => h2 e) h t
  · refine ⟨rfl, rfl, ?_⟩
    rename_i a b
    cases op <;> simp only [binS] at h <;> first
      | exact ⟨_, h, rfl, fun w => by simp [binOp, Op.stringOp]⟩
      | (obtain ⟨hb, h⟩ := h
         exact ⟨_, h, rfl, fun w => by simp only [binOp, Op.stringOp]; rw [if_neg (by omega)]; rfl⟩)
      | cases h
  · cases h
theorem unK_ok {op : UnOp} {x : Value} {K : Value → Prop} (h : unK op x K) :
    plain x = true ∧ ∃ v, K v ∧ plain v = true ∧ ∀ w, (Op.unary op x).run P w = .ok v w := by
  unfold unK at h
  split at h
  · exact ⟨rfl, _, h, rfl, fun w => rfl⟩
  · exact ⟨rfl, _, h, rfl, fun w => rfl⟩
  · exact ⟨rfl, _, h, rfl, fun w => rfl⟩
  · cases h
theorem isNil_rel {nk : NilK} {x x' : Value} {b : Bool} (h : VR r x x') (hn : isNilV nk x = some b) : isNilV nk x' = some b := by
  cases h <;> cases nk <;> simp_all [isNilV, undef, botV]
end
end Go.Ga

namespace Go.Ga
open Go
section
variable {P : Program} {r : Ren} {m : Mem} {w : World} {f : Regs}
theorem OpEv.of_run {o : Oper} {v : Value} {m' : Mem} (hx : MExt m m')
    (h : ∀ (r : Ren) (w : World) (a : Act), MemRel r m w → (∀ t, Operand.tmp t ∈ o.op.operands → VR r (f t) (a.eval (.tmp t))) →
      ∃ r' v' w', ((execOp a.eval o).run P w = .ok (.value v') w' ∨ ((execOp a.eval o).run P w = .ok .skip w' ∧ v' = undef)) ∧ VR r' v v' ∧ MemRel r' m' w' ∧ Fr r r' m w w') : OpEv P o f m v m' := by
  refine ⟨hx, fun r w a hm ht K Q hk => ?_⟩
  obtain ⟨r', v', w', hrun, hv, hm', hf⟩ := h r w a hm ht
  unfold Oper.wp
  rcases hrun with hrun | ⟨hrun, rfl⟩
  · rw [hrun]; exact hk r' v' w' hv hm' hf
  · rw [hrun]; exact hk r' undef w' hv hm' hf
theorem addr_add' {a : Addr} (h : a.spot = none) (k : Nat) : a.add k = ⟨a.block, a.off + k, none⟩ := by
  obtain ⟨b, o, s⟩ := a
  simp only at h
  subst h
  exact addr_add b o k
theorem AR.add {n off : Nat} {a' : Addr} (h : AR r n off a') (k : Nat) : AR r n (off + k) (a'.add k) := by
  obtain ⟨hs, l, hl, hat⟩ := h
  rw [addr_add' hs]
  refine ⟨rfl, l, hl, fun cb base csz e => ?_⟩
  obtain ⟨h1, h2⟩ := hat cb base csz e
  exact ⟨h1, by simp only; omega⟩
theorem VR.addr {a : Addr} {v' : Value} (h : VR r (.pointer (some a)) v') : ∃ a', v' = .pointer (some a') ∧ AR r a.block a.off a' ∧ a.spot = none := by
  cases h with
  | ptr hs h => exact ⟨_, rfl, h, hs⟩
theorem load1_ok (hm : MemRel r m w) {t : TypeId} {d : TypeDesc} (ht : P.underlying t = some d) (hd : (match d with | .struct _ | .array _ _ => true | _ => false) = false) {a : Addr} {x' : Value} (hx : VR r (.pointer (some a)) x')
    {l : List Value} {ro : Bool} (hg : m.get a.block = some (.cells l ro)) (hk : a.off < l.length) : StepOK P (Instr.loadAt t x') r m w (fun r' v' => VR r' (l.getD a.off undef) v') m := by
  obtain ⟨a', rfl, ha, _⟩ := hx.addr
  obtain ⟨v', hrun, hv⟩ := load_ok (P := P) hm ha hg hk
  refine .pure hm (v' := v') ?_ hv
  simp only [Instr.loadAt, Instr.sureAddr, loadVar, isAgg, Sem.run_bind, Sem.run_pure, Result.andThen_ok, run_underlying ht, Sem.run_ite]
  cases d <;> simp_all
theorem loadN_ok (hm : MemRel r m w) {t : TypeId} {d : TypeDesc} (ht : P.underlying t = some d) (hd : (match d with | .struct _ | .array _ _ => true | _ => false) = true) {i : TypeInfo} (hi : P.info? t = some i) {a : Addr} {x' : Value}
    (hx : VR r (.pointer (some a)) x') {l : List Value} {ro : Bool} (hg : m.get a.block = some (.cells l ro)) (hk : a.off + i.size ≤ l.length) :
    StepOK P (Instr.loadAt t x') r m w (fun r' v' => VR r' (.agg ((l.drop a.off).take i.size).toArray) v') m := by
  obtain ⟨a', rfl, ha, _⟩ := hx.addr
  obtain ⟨cs, hrun, hsz, hv⟩ := loadCells_ok (P := P) hm ha hg hk
  refine .pure hm (v' := .agg cs) ?_ (.agg (by simp [hsz]; omega) fun j => ?_)
  · have hs : (sizeOf t).run P w = .ok i.size w := by simp [sizeOf, typeInfo, hi]
    have ha : (isAgg t).run P w = .ok true w := by
      simp only [isAgg, Sem.run_bind, run_underlying ht, Result.andThen_ok]
      cases d <;> simp_all
    simp only [Instr.loadAt, Instr.sureAddr, loadVar, Sem.run_bind, Sem.run_pure, Result.andThen_ok, ha, if_true, hs, hrun]
  · by_cases hj : j < i.size
    · have := hv j hj
      rw [← toList_getD]
      simp only [List.getD_eq_getElem?_getD, List.getElem?_take, hj, if_true, List.getElem?_drop] at this ⊢
      exact this
    · rw [← toList_getD]
      have e : ((l.drop a.off).take i.size).toArray.toList.getD j undef = undef := by
        simp [List.getD_eq_getElem?_getD, List.getElem?_take, hj]
      have e' : cs.getD j undef = undef := by
        simp only [Array.getD]
        rw [dif_neg (by omega)]
      rw [e, e']
      exact .und
theorem writeK_elim {a : Addr} {off : Nat} {vs : List Value} {K : Mem → Prop} (h : writeK m a off vs K) :
    ∃ l, m.get a.block = some (.cells l false) ∧ m.bar ≤ a.block ∧ a.off + off + vs.length ≤ l.length ∧ (∀ v ∈ vs, cellVal v = true) ∧ K (m.put a.block (.cells (splice l (a.off + off) vs) false)) := by
  unfold writeK at h
  split at h
  · rename_i l hl
    exact ⟨l, hl, h.1, h.2.1, h.2.2.1, h.2.2.2⟩
  · cases h
theorem store_ok (hm : MemRel r m w) {t : TypeId} {i : TypeInfo} (hi : P.info? t = some i) {a : Addr} {x' y y' : Value} (hx : VR r (.pointer (some a)) x') (hy : VR r y y') {vs : List Value} (hvs : cellsV y = some vs) (hn : vs.length = i.size)
    {l : List Value} (hg : m.get a.block = some (.cells l false)) (hbar : m.bar ≤ a.block) (hk : a.off + 0 + vs.length ≤ l.length) (h1 : ∀ v ∈ vs, cellVal v = true) :
    StepOK P (Instr.storeAt t x' y') r m w (fun _ _ => True) (m.put a.block (.cells (splice l (a.off + 0) vs) false)) := by
  obtain ⟨a', rfl, ha, _⟩ := hx.addr
  obtain ⟨hsz, hv⟩ := hy.cells hvs
  obtain ⟨w', hrun, hm', hf⟩ := storeCells_ok (P := P) hm ha hg hbar vs y'.cells.toList (by omega) (by simpa using hsz) (fun j hj => by rw [toList_getD y'.cells]; exact hv j) h1
  refine ⟨r, (), w', ?_, trivial, by simpa using hm', hf⟩
  have hs : (sizeOf t).run P w = .ok i.size w := by simp [sizeOf, typeInfo, hi]
  simp only [Instr.storeAt, Instr.sureAddr, storeVar, Sem.run_bind, Sem.run_pure, Result.andThen_ok, hs, Sem.run_ite]
  rw [if_neg (by rw [hsz, hn]; simp)]
  exact hrun
theorem newRow_step (hm : MemRel r m w) (elem : TypeId) (l : List Value) (c : Array Value) (hle : l.length ≤ c.size) (hv : ∀ i, i < l.length → VR r (l.getD i undef) (c.getD i undef)) :
    ∃ r' w', (newRow elem c).run P w = .ok ⟨w.heap.size, 0, none⟩ w' ∧ MemRel r' (m.add (.cells l false)) w' ∧ Fr r r' m w w' ∧ r' m.next = some (.at w.heap.size 0 c.size) := by
  obtain ⟨r', h1, h2, h3⟩ := newRow_ok hm elem l c hle hv w.drawn
  exact ⟨r', _, by simp only [newRow, Sem.run_bind, run_newObj, Result.andThen_ok, Sem.run_pure], h1, h2, h3⟩
theorem VR.new_ptr {r : Ren} {n cb csz : Nat} (h : r n = some (.at cb 0 csz)) : VR r (.pointer (some ⟨n, 0, none⟩)) (.pointer (some ⟨cb, 0, none⟩)) :=
  .ptr rfl ⟨rfl, _, h, fun _ _ _ e => by injection e with e1 e2 e3; exact ⟨e1, by simp only; omega⟩⟩
theorem VR.new_slice {r : Ren} {n cb csz k : Nat} (h : r n = some (.at cb 0 csz)) : VR r (.slice (some ⟨n, 0, none⟩) k k) (.slice (some ⟨cb, 0, none⟩) k k) :=
  .slice (Nat.le_refl _) ⟨Nat.le_refl _, .inr ⟨rfl, _, h, fun _ _ _ e => by injection e with e1 e2 e3; exact ⟨e1, by simp only; omega⟩⟩, (fun e he => nomatch he), fun _ => rfl⟩
theorem new_ok (hm : MemRel r m w) {t : TypeId} {i : TypeInfo} {z : Value} (hi : P.info? t = some i) (hz : i.zero = some z) (hp : z.cells.toList.all plain = true) :
    StepOK P (Instr.alloc t true (.tuple #[])) r m w (fun r' v' => VR r' (.pointer (some ⟨m.next, 0, none⟩)) v') (m.add (.cells z.cells.toList false)) := by
  obtain ⟨r', w', hrun, h1, h2, h3⟩ := newRow_step (P := P) hm t z.cells.toList z.cells (by simp) (fun j hj => by
    rw [toList_getD]
    simp only [List.all_eq_true] at hp
    have hj' : j < z.cells.size := by simpa using hj
    exact VR.of_plain (hp _ (by simp [Array.getD, hj'])))
  refine ⟨r', _, w', ?_, VR.new_ptr h3, h1, h2⟩
  have hzr : (zeroValue t).run P w = .ok z w := by simp [zeroValue, typeInfo, hi, hz]
  simp only [Instr.alloc, newVar, Sem.run_bind, hzr, Result.andThen_ok, hrun, Sem.run_pure]
theorem box_ok (hm : MemRel r m w) {t : TypeId} {x x' : Value} (hx : VR r x x') {l : List Value} (hl : cellsV x = some l) :
    StepOK P (Instr.box t x') r m w (fun r' v' => VR r' (.pointer (some ⟨m.next, 0, none⟩)) v') (m.add (.cells l false)) := by
  obtain ⟨hsz, hv⟩ := hx.cells hl
  obtain ⟨r', w', hrun, h1, h2, h3⟩ := newRow_step (P := P) hm t l x'.cells (by omega) (fun j _ => hv j)
  refine ⟨r', _, w', ?_, VR.new_ptr h3, h1, h2⟩
  simp only [Instr.box, newVar, Sem.run_bind, Result.andThen_ok, hrun, Sem.run_pure]
theorem foldl_set_getD (off : Nat) : ∀ (vs : List Value) (k : Nat) (cs : Array Value), off + k + vs.length ≤ cs.size →
    ((vs.zipIdx k).foldl (fun (cs : Array Value) (p : Value × Nat) => cs.setIfInBounds (off + p.2) p.1) cs).size = cs.size ∧
    ∀ j, ((vs.zipIdx k).foldl (fun (cs : Array Value) (p : Value × Nat) => cs.setIfInBounds (off + p.2) p.1) cs).getD j undef =
      if off + k ≤ j ∧ j < off + k + vs.length then vs.getD (j - (off + k)) undef else cs.getD j undef
  | [], k, cs, _ => ⟨rfl, fun j => by rw [if_neg (by simp only [List.length_nil]; omega)]; rfl⟩
  | v :: vs, k, cs, h => by
    simp only [List.length_cons] at h
    obtain ⟨h1, h2⟩ := foldl_set_getD off vs (k + 1) (cs.setIfInBounds (off + k) v) (by simp; omega)
    simp only [List.zipIdx_cons, List.foldl_cons]
    refine ⟨by rw [h1]; simp, fun j => ?_⟩
    rw [h2 j]
    by_cases hj : j = off + k
    · subst hj
      rw [if_neg (by omega), if_pos (by simp)]
      simp [Array.getD, show off + k < cs.size by omega]
    · by_cases hj2 : off + (k + 1) ≤ j ∧ j < off + (k + 1) + vs.length
      · rw [if_pos hj2, if_pos (by simp; omega)]
        rw [show j - (off + k) = (j - (off + (k + 1))) + 1 by omega]
        simp
      · rw [if_neg hj2, if_neg (by simp; omega)]
        simp only [Array.getD]
        by_cases hjs : j < cs.size
        · simp [hjs, show ¬ (off + k = j) by omega]
        · simp [hjs]
theorem fill_ok {place : Nat → Option (Nat × Nat)} : ∀ (parts : List (Nat × Nat × Rv)) (cparts : List (Nat × Value)) (l : List Value) (c : Array Value), parts.length = cparts.length →
    (∀ (i : Nat) p q, parts[i]? = some p → cparts[i]? = some q → place q.1 = some (p.1, p.2.1) ∧ VR r (p.2.2.ev f) q.2) → c.size = l.length → (∀ i, VR r (l.getD i undef) (c.getD i undef)) → ∀ {l2}, fillL l f parts = some l2 →
    ∃ c2, Instr.fill place c cparts = some c2 ∧ c2.size = l2.length ∧ l2.length = l.length ∧ ∀ i, VR r (l2.getD i undef) (c2.getD i undef)
  | [], [], l, c, _, _, hc, hv, l2, h => by
    simp only [fillL, Option.some.injEq] at h
    subst h
    exact ⟨c, rfl, hc, rfl, hv⟩
  | [], _ :: _, _, _, h, _, _, _, _, _ => by cases h
  | _ :: _, [], _, _, h, _, _, _, _, _ => by cases h
  | (off, sz, x) :: parts, (i, v) :: cparts, l, c, hlen, hp, hc, hv, l2, h => by
    simp only [fillL] at h
    split at h
    · rename_i vs hvs
      split at h
      · rename_i hcond
        obtain ⟨hpl, hxv⟩ := hp 0 _ _ rfl rfl
        simp only at hpl hxv
        obtain ⟨hsz, hcv⟩ := hxv.cells hvs
        have hf := foldl_set_getD off v.cells.toList 0 c (by simp only [Array.length_toList]; omega)
        have hz : (v.cells.zipIdx.foldl (fun cs (c, j) => cs.setIfInBounds (off + j) c) c) = ((v.cells.toList.zipIdx 0).foldl (fun (cs : Array Value) (p : Value × Nat) => cs.setIfInBounds (off + p.2) p.1) c) := by
          rw [← Array.foldl_toList, Array.toList_zipIdx]
        obtain ⟨c2, h1, h2, h3, h4⟩ := fill_ok (place := place) parts cparts (splice l off vs) (v.cells.zipIdx.foldl (fun cs (c, j) => cs.setIfInBounds (off + j) c) c) (by simpa using hlen)
          (fun j p q hj1 hj2 => hp (j + 1) p q hj1 hj2) (by rw [hz, hf.1, length_splice (by omega)]; exact hc) (fun j => by
            rw [hz, hf.2 j, getD_splice (by omega)]
            simp only [Nat.add_zero, Array.length_toList, hsz]
            by_cases hin : off ≤ j ∧ j < off + vs.length
            · rw [if_pos hin, if_pos hin, toList_getD v.cells]; exact hcv _
            · rw [if_neg hin, if_neg hin]; exact hv j) h
        refine ⟨c2, ?_, h2, by rw [h3, length_splice (by omega)], h4⟩
        simp only [Instr.fill, hpl]
        rw [if_neg]
        · exact h1
        · simp only [ne_eq, Bool.or_eq_true, decide_eq_true_eq, not_or]
          omega
      · cases h
    · cases h
end
end Go.Ga

namespace Go.Ga
open Go
section
variable {P : Program} {r : Ren} {m : Mem} {w : World} {f : Regs}
theorem size_of {t : TypeId} {i : TypeInfo} (hi : P.info? t = some i) (w : World) : (sizeOf t).run P w = .ok i.size w := by simp [sizeOf, typeInfo, hi]
theorem VR.slice_inv {a : Addr} {n c : Nat} {v' : Value} (h : VR r (.slice (some a) n c) v') : ∃ a' c', v' = .slice (some a') n c' ∧ n ≤ c ∧ SR r a c a' c' := by
  cases h with
  | slice hn h => exact ⟨_, _, rfl, hn, h⟩
theorem VR.slice_nil {n c : Nat} {v' : Value} (h : VR r (.slice none n c) v') : n = 0 ∧ c = 0 ∧ v' = .slice none 0 0 := by
  cases h with
  | snil => exact ⟨rfl, rfl, rfl⟩
theorem VR.int_inv {k : IntKind} {n : Int} {v' : Value} (h : VR r (.int k n) v') : v' = .int k n := by cases h; rfl
theorem firstCells_ok (hm : MemRel r m w) {A : Option Addr} {n c : Nat} {v' : Value} (h : VR r (.slice A n c) v') {k esz : Nat} (hk : k ≤ n) {l : List Value} (hl : rowOf m A (k * esz) = some l) (d : Nat) :
    ∃ cs : Array Value, (Builtin.firstCells esz k v').run P { w with drawn := d } = .ok cs { w with drawn := d } ∧ cs.size = l.length ∧ l.length = k * esz ∧ ∀ i, VR r (l.getD i undef) (cs.getD i undef) := by
  have hmd := hm.drawn d
  unfold rowOf at hl
  cases A with
  | none =>
    obtain ⟨h1, h2, rfl⟩ := h.slice_nil
    subst h1 h2
    have : k = 0 := by omega
    subst this
    simp at hl
    subst hl
    exact ⟨#[], rfl, rfl, by simp, fun i => by simpa [Array.getD] using VR.und⟩
  | some a =>
    obtain ⟨a', c', rfl, hn, hs⟩ := h.slice_inv
    split at hl
    · rename_i h0
      simp only [Option.some.injEq] at hl
      subst hl
      refine ⟨#[], ?_, rfl, by simp [h0], fun i => by simpa [Array.getD] using VR.und⟩
      simp only [Builtin.firstCells, h0]
      rfl
    · rename_i h0
      have hk0 : 0 < k := by rcases Nat.eq_zero_or_pos k with h1 | h1; · subst h1; simp at h0
                             · exact h1
      have ha : AR r a.block a.off a' := hs.loc.resolve_left (by have := hs.le; omega)
      simp only at hl
      split at hl
      · rename_i l2 ro hg
        split at hl
        · rename_i hle
          simp only [Option.some.injEq] at hl
          subst hl
          obtain ⟨cs, hrun, hsz, hv⟩ := loadCells_ok (P := P) hmd ha hg hle
          refine ⟨cs, hrun, by simp [hsz]; omega, by simp; omega, fun i => ?_⟩
          by_cases hi : i < k * esz
          · have := hv i hi
            simp only [List.getD_eq_getElem?_getD, List.getElem?_take, hi, if_true, List.getElem?_drop] at this ⊢
            exact this
          · have e : ((l2.drop a.off).take (k * esz)).getD i undef = undef := by
              simp [List.getD_eq_getElem?_getD, List.getElem?_take, hi]
            have e' : cs.getD i undef = undef := by
              simp only [Array.getD]
              rw [dif_neg (by omega)]
            rw [e, e']
            exact .und
        · cases hl
      · cases hl
theorem sliceBound_ok {k : IntKind} {i : Int} {y : Nat} {code : BoundsCode} (h1 : 0 ≤ i) (h2 : i ≤ y) (w : World) : (Instr.sliceBound (.int k i) y code).run P w = .ok i.toNat w := by
  simp [Instr.sliceBound, asIntOf, h1, h2]
theorem optIx_rel {o : Option Rv} {co : Option Operand} {a : Act} (hco : co.mapM resolveRv = some o) (ht : ∀ x t, co = some x → x = .tmp t → VR r (f t) (a.eval (.tmp t))) {d n : Int} (h : optIx f o d = some n) :
    (co = none ∧ o = none ∧ n = d) ∨ ∃ x rv k, co = some x ∧ o = some rv ∧ a.eval x = .int k n := by
  cases co with
  | none =>
    have : o = none := by simpa using hco.symm
    subst this
    simp only [optIx, Option.some.injEq] at h
    exact .inl ⟨rfl, rfl, h.symm⟩
  | some x =>
    cases hr : resolveRv x with
    | none => simp [hr] at hco
    | some rv =>
      have : o = some rv := by simpa [hr] using hco.symm
      subst this
      have hx := resolveRv_rel (f := f) (r := r) (a := a) hr (fun t e => ht x t rfl e)
      simp only [optIx] at h
      split at h
      · rename_i k n' he
        simp only [Option.some.injEq] at h
        subst h
        rw [he] at hx
        exact .inr ⟨x, rv, k, rfl, rfl, hx.int_inv⟩
      · cases h
theorem bounds_ok {isSlice : Bool} {a : Act} {lo hi mx : Option Operand} {rlo rhi rmx : Option Rv} (h1 : lo.mapM resolveRv = some rlo) (h2 : hi.mapM resolveRv = some rhi) (h3 : mx.mapM resolveRv = some rmx)
    (t1 : ∀ x t, lo = some x → x = .tmp t → VR r (f t) (a.eval (.tmp t))) (t2 : ∀ x t, hi = some x → x = .tmp t → VR r (f t) (a.eval (.tmp t))) (t3 : ∀ x t, mx = some x → x = .tmp t → VR r (f t) (a.eval (.tmp t)))
    {n c c' : Nat} (hc : c ≤ c') {L H M : Int} (o3 : optIx f rmx c = some M) (o2 : optIx f rhi n = some H) (o1 : optIx f rlo 0 = some L) (b1 : 0 ≤ L) (b2 : L ≤ H) (b3 : H ≤ M) (b4 : M ≤ c) (hmh : rmx.isSome = true → rhi.isSome = true) (w : World) :
    (Instr.sliceBounds isSlice n c' (lo.map a.eval) (hi.map a.eval) (mx.map a.eval)).run P w = .ok (L.toNat, H.toNat, if rmx.isSome then M.toNat else c') w := by
  rcases optIx_rel h3 t3 o3 with ⟨rfl, rfl, rfl⟩ | ⟨x3, rv3, k3, rfl, rfl, e3⟩
  · rcases optIx_rel h2 t2 o2 with ⟨rfl, rfl, rfl⟩ | ⟨x2, rv2, k2, rfl, rfl, e2⟩
    · rcases optIx_rel h1 t1 o1 with ⟨rfl, rfl, rfl⟩ | ⟨x1, rv1, k1, rfl, rfl, e1⟩
      · simp [Instr.sliceBounds]
      · simp [Instr.sliceBounds, e1, sliceBound_ok b1 b2]
    · have e2' : ∀ code, (Instr.sliceBound (.int k2 H) c' code).run P w = .ok H.toNat w := fun code => sliceBound_ok (by omega) (by omega) w
      rcases optIx_rel h1 t1 o1 with ⟨rfl, rfl, rfl⟩ | ⟨x1, rv1, k1, rfl, rfl, e1⟩
      · simp [Instr.sliceBounds, e2, e2']
      · have e1' : ∀ code, (Instr.sliceBound (.int k1 L) H.toNat code).run P w = .ok L.toNat w := fun code => sliceBound_ok (by omega) (by omega) w
        simp [Instr.sliceBounds, e2, e2', e1, e1']
  · rcases optIx_rel h2 t2 o2 with ⟨rfl, rfl, rfl⟩ | ⟨x2, rv2, k2, rfl, rfl, e2⟩
    · simp at hmh
    · have e3' : ∀ code, (Instr.sliceBound (.int k3 M) c' code).run P w = .ok M.toNat w := fun code => sliceBound_ok (by omega) (by omega) w
      have e2' : ∀ code, (Instr.sliceBound (.int k2 H) M.toNat code).run P w = .ok H.toNat w := fun code => sliceBound_ok (by omega) (by omega) w
      rcases optIx_rel h1 t1 o1 with ⟨rfl, rfl, rfl⟩ | ⟨x1, rv1, k1, rfl, rfl, e1⟩
      · simp [Instr.sliceBounds, e2, e2', e3, e3']
      · have e1' : ∀ code, (Instr.sliceBound (.int k1 L) H.toNat code).run P w = .ok L.toNat w := fun code => sliceBound_ok (by omega) (by omega) w
        simp [Instr.sliceBounds, e2, e2', e3, e3', e1, e1']
def killR (r : Ren) (n : Nat) : Ren := fun k => if k = n then (r k).map (fun _ => Loc.dead) else r k
theorem Ext.kill (r : Ren) (n : Nat) : Ext r (killR r n) := fun k l hk => by
  unfold killR
  split
  · right; rw [hk]; rfl
  · left; exact hk
theorem killR_at {n k cb base csz : Nat} (h : killR r n k = some (.at cb base csz)) : k ≠ n ∧ r k = some (.at cb base csz) := by
  unfold killR at h
  split at h
  · cases hr : r k with
    | none => simp [hr] at h
    | some l => simp [hr] at h
  · rename_i hne; exact ⟨hne, h⟩
theorem MemRel.kill (hm : MemRel r m w) {n : Nat} (hbar : m.bar ≤ n) : MemRel (killR r n) (m.kill n) w ∧ Fr r (killR r n) m w w := by
  refine ⟨⟨hm.wf, fun k l hk => ?_, fun k hk => ?_, fun k cb base csz hk => ?_, fun k k' cb base csz b2 c2 h1 h2 => hm.inj _ _ _ _ _ _ _ (killR_at h1).2 (killR_at h2).2⟩,
    ⟨Nat.le_refl _, rfl, rfl, rfl, fun _ _ _ => rfl, fun _ _ _ _ _ _ => rfl, fun k hk => ?_, Ext.kill r n, fun k hk hk' => ?_, fun k cb base csz hk => .inl (killR_at hk).2⟩⟩
  · show k < m.next
    cases hr : r k with
    | none => unfold killR at hk; split at hk <;> simp [hr] at hk
    | some l' => exact hm.born k l' hr
  · simp only [Mem.kill, Mem.set]
    split
    · rfl
    · rename_i hne
      unfold killR at hk
      rw [if_neg hne] at hk
      exact hm.dead k hk
  · obtain ⟨hne, hr⟩ := killR_at hk
    obtain ⟨b, hg, hb⟩ := hm.live k cb base csz hr
    exact ⟨b, by simp only [Mem.kill, Mem.set, if_neg hne]; exact hg, hb.mono (Ext.kill r n)⟩
  · unfold killR
    rw [if_neg (by omega)]
  · exfalso
    apply hk'
    unfold killR
    split <;> simp [hk]
theorem MemRel.regrow (hm : MemRel r m w) {n cb base csz : Nat} (hn : r n = some (.at cb base csz)) (hbar : m.bar ≤ n) {b : Blk} {o' : Obj} {heap' : Array Obj} (base' csz' : Nat)
    (hsz : heap'.size = w.heap.size) (hself : heap'[cb]? = some o') (hother : ∀ k, k ≠ cb → heap'[k]? = w.heap[k]?) (hb : ∀ r', Ext r r' → BR r' b (some o') base' csz') :
    MemRel ((killR r n).set m.next (.at cb base' csz')) ((m.kill n).add b) { w with heap := heap' } ∧ Fr r ((killR r n).set m.next (.at cb base' csz')) m w { w with heap := heap' } := by
  have hnlt := hm.born n _ hn
  have hnew : killR r n m.next = none := by
    unfold killR
    rw [if_neg (by omega)]
    cases hr : r m.next with
    | none => rfl
    | some l => have := hm.born _ _ hr; omega
  have hx : Ext r ((killR r n).set m.next (.at cb base' csz')) := (Ext.kill r n).trans (Ext.set_new hnew _)
  have hne_cb : ∀ k cb2 b2 c2, killR r n k = some (.at cb2 b2 c2) → cb2 ≠ cb := fun k cb2 b2 c2 hk => by
    obtain ⟨hne, hr⟩ := killR_at hk
    rintro rfl
    exact hne (hm.inj _ _ _ _ _ _ _ hr hn)
  refine ⟨⟨Nat.le_succ_of_le hm.wf, ?_, ?_, ?_, ?_⟩, ⟨by show _ ≤ heap'.size; omega, rfl, rfl, rfl, ?_, ?_, ?_, hx, ?_, ?_⟩⟩
  · intro k l hk
    show k < m.next + 1
    unfold Ren.set at hk
    split at hk
    · omega
    · cases hr : r k with
      | none => unfold killR at hk; split at hk <;> simp [hr] at hk
      | some l' => have := hm.born k l' hr; omega
  · intro k hk
    unfold Ren.set at hk
    split at hk
    · cases hk
    · rename_i hne
      simp only [Mem.add, Mem.set, Mem.kill, if_neg hne]
      split
      · rfl
      · rename_i hne2
        unfold killR at hk
        rw [if_neg hne2] at hk
        exact hm.dead k hk
  · intro k cb2 b2 c2 hk
    unfold Ren.set at hk
    split at hk
    · rename_i he
      injection hk with hk; injection hk with e1 e2 e3
      subst e1 e2 e3 he
      refine ⟨b, by simp [Mem.add, Mem.set, Mem.kill], ?_⟩
      show BR _ b (heap'[cb]?) base' csz'
      rw [hself]
      exact hb _ hx
    · rename_i hne
      obtain ⟨hne2, hr⟩ := killR_at hk
      obtain ⟨b3, hg, hb3⟩ := hm.live k cb2 b2 c2 hr
      refine ⟨b3, by simp only [Mem.add, Mem.set, Mem.kill, if_neg hne, if_neg hne2]; exact hg, ?_⟩
      show BR _ b3 (heap'[cb2]?) b2 c2
      rw [hother _ (hne_cb _ _ _ _ hk)]
      exact hb3.mono hx
  · intro k k' cb2 b2 c2 b3 c3 h1 h2
    unfold Ren.set at h1 h2
    split at h1 <;> split at h2
    · omega
    · injection h1 with h1; injection h1 with e1 _ _
      exact absurd e1.symm (hne_cb _ _ _ _ h2)
    · injection h2 with h2; injection h2 with e1 _ _
      exact absurd e1.symm (hne_cb _ _ _ _ h1)
    · exact hm.inj _ _ _ _ _ _ _ (killR_at h1).2 (killR_at h2).2
  · intro cb2 _ hno
    exact hother _ (fun e => hno n base csz (by rw [e]; exact hn))
  · intro k cb2 b2 c2 hk hr
    refine hother _ (fun e => ?_)
    subst e
    have := hm.inj _ _ _ _ _ _ _ hr hn
    omega
  · intro k hk
    have := hm.wf
    unfold Ren.set killR
    rw [if_neg (by omega), if_neg (by omega)]
  · intro k hk hk'
    unfold Ren.set at hk'
    split at hk'
    · omega
    · exfalso
      apply hk'
      unfold killR
      split <;> simp [hk]
  · intro k cb2 b2 c2 hk
    unfold Ren.set at hk
    split at hk
    · injection hk with hk; injection hk with e1 _ _
      subst e1
      exact .inr (.inr ⟨n, base, csz, hbar, hn⟩)
    · exact .inl (killR_at hk).2
theorem Mem.put_self {n : Nat} {b : Blk} (h : m.get n = some b) : m.put n b = m := by
  obtain ⟨nx, br, g⟩ := m
  simp only [Mem.put]
  congr 1
  funext k
  show (if k = n then some b else g k) = g k
  split
  · rename_i e; subst e; exact h.symm
  · rfl
theorem freeze_ok (hm : MemRel r m w) {n cb base csz : Nat} (hn : r n = some (.at cb base csz)) (hbar : m.bar ≤ n) {l : List Value} (hg : m.get n = some (.cells l false)) (o : Nat) (ho : ∀ c e fr, w.heap[cb]? = some (.cells c e fr) → c.size ≤ o) :
    MemRel r m (w.freeze ⟨cb, o, none⟩ 1) ∧ Fr r r m w (w.freeze ⟨cb, o, none⟩ 1) := by
  obtain ⟨c, e, fr, hh, h1, h2, h3, h4⟩ := live_cells hm hn hg
  have ho' := ho c e fr hh
  obtain ⟨lo, hi⟩ := fr
  have hp := hm.put hn hbar (b := .cells l false) (o' := .cells c e (if lo == hi then (o, o + 1) else (min lo o, max hi (o + 1))))
    (heap' := (w.freeze ⟨cb, o, none⟩ 1).heap) (by simp [World.freeze]) (by simp [World.freeze, Array.getElem?_modify, hh]) (fun k hk => by simp [World.freeze, Array.getElem?_modify, show ¬ (cb = k) by omega])
    ⟨c, e, _, rfl, h1, h2, h3, fun hro => by
      have := h4 hro
      simp only at this
      right
      split
      · simp only; omega
      · rename_i hne
        simp only [beq_iff_eq] at hne
        simp only
        omega⟩
  rw [Mem.put_self hg] at hp
  exact hp
end
end Go.Ga

namespace Go.Ga
open Go
section
variable {P : Program} {r : Ren} {m : Mem} {w : World} {f : Regs}
theorem lappend_getD (l1 l2 : List Value) (i : Nat) : (l1 ++ l2).getD i undef = if i < l1.length then l1.getD i undef else l2.getD (i - l1.length) undef := by
  simp only [List.getD_eq_getElem?_getD, List.getElem?_append]
  split <;> rfl
theorem aappend_getD (c1 c2 : Array Value) (i : Nat) : (c1 ++ c2).getD i undef = if i < c1.size then c1.getD i undef else c2.getD (i - c1.size) undef := by
  rw [← toList_getD, ← toList_getD, ← toList_getD, Array.toList_append, lappend_getD]
  simp
theorem append_fit {t u e : TypeId} {d : TypeDesc} {i : TypeInfo} (ht : P.underlying t = some (.slice e)) (hu : P.underlying u = some d) (hd : (∃ e2, d = .slice e2) ∨ d = .string) (hi : P.info? e = some i) (ty : TypeId) (A' : Option Addr) (n c' k : Nat) (x' : Value)
    (hl : (Builtin.lenOf x').run P w = .ok k w) {news' : Array Value} (hf : (Builtin.firstCells i.size k x').run P w = .ok news' w) (hroom : n + k ≤ c') {w' : World} (hst : ∀ a, A' = some a → (storeCells (a.add (n * i.size)) news'.toList).run P w = .ok () w') (hn : A' = none → w' = w) :
    (Builtin.append_ #[t, u] ty #[.slice A' n c', x']).run P w = .ok (.slice A' (n + k) c') w' := by
  cases A' with
  | none =>
    rw [hn rfl]
    rcases hd with ⟨e2, rfl⟩ | rfl <;> simp [Builtin.append_, run_underlying ht, run_underlying hu, sizeOf, typeInfo, hi, hl, hroom, hf]
  | some a =>
    have h := hst a rfl
    rcases hd with ⟨e2, rfl⟩ | rfl <;> simp [Builtin.append_, run_underlying ht, run_underlying hu, sizeOf, typeInfo, hi, hl, hroom, hf, h]
theorem append_more {t u e : TypeId} {d : TypeDesc} {i : TypeInfo} {z : Value} (ht : P.underlying t = some (.slice e)) (hu : P.underlying u = some d) (hd : (∃ e2, d = .slice e2) ∨ d = .string) (hi : P.info? e = some i) (hz : i.zero = some z) (ty : TypeId)
    (A' : Option Addr) (n c' k : Nat) (x' : Value) (hl : (Builtin.lenOf x').run P w = .ok k w) {news' olds' : Array Value} (hf : (Builtin.firstCells i.size k x').run P { w with drawn := w.drawn + 1 } = .ok news' { w with drawn := w.drawn + 1 })
    (ho : (Builtin.firstCells i.size n (.slice A' n c')).run P { w with drawn := w.drawn + 1 } = .ok olds' { w with drawn := w.drawn + 1 }) (hroom : c' < n + k) (h63 : n + k ≤ 9223372036854775807) (hb : (n + k) * i.bytes ≤ 140737488355328) :
    (Builtin.append_ #[t, u] ty #[.slice A' n c', x']).run P w = .ok (.slice (some ⟨w.heap.size, 0, none⟩) (n + k) (grownCap w (n + k) c' e))
      { w with heap := w.heap.push (.cells (olds' ++ news' ++ Builtin.zeroCells z.cells (grownCap w (n + k) c' e - (n + k))) e), drawn := w.drawn + 1 } := by
  have hn : ¬ (n + k ≤ c') := by omega
  have h63' : ¬ (9223372036854775807 < ((n : Int) + (k : Int))) := by omega
  have h48 := growslice_fits (need := n + k) (old := c') (bytes := i.bytes) (by omega) hb
  have h48' : ¬ (281474976710656 < Builtin.nextslicecap (n + k) c' * i.bytes) := by omega
  have hf2 : (Builtin.firstCells i.size k x').run P w.drew = .ok news' w.drew := hf
  have ho2 : (Builtin.firstCells i.size n (.slice A' n c')).run P w.drew = .ok olds' w.drew := ho
  have hrow : ({ w with heap := w.heap.push (.cells (olds' ++ news' ++ Builtin.zeroCells z.cells (grownCap w (n + k) c' e - (n + k))) e), drawn := w.drawn + 1 } : World) =
    w.drew.alloc (.cells (olds' ++ news' ++ Builtin.zeroCells z.cells (grownCap w (n + k) c' e - (n + k))) e) := rfl
  rw [hrow]
  rcases hd with ⟨e2, rfl⟩ | rfl <;>
    simp [Builtin.append_, run_underlying ht, run_underlying hu, sizeOf, typeInfo, zeroValue, hi, hz, hl, hn, h63', h48', Question.forced, hf2, ho2, newRow, grownCap]
theorem grownCap_ge' (w : World) (need old : Nat) (e : TypeId) : need ≤ grownCap w need old e := by
  simp only [grownCap, Question.cut]
  omega
theorem size_zeroCells' (z : Array Value) (n : Nat) : (Builtin.zeroCells z n).size = n * z.size := by simp [Builtin.zeroCells]
theorem appendK_ok {t u e : TypeId} {d : TypeDesc} {i : TypeInfo} {z : Value} (ht : P.underlying t = some (.slice e)) (hu : P.underlying u = some d) (hd : (∃ e2, d = .slice e2) ∨ d = .string) (hi : P.info? e = some i) (hz : i.zero = some z) (hzs : z.cells.size = i.size)
    (ty : TypeId) {A : Option Addr} {n c k : Nat} {news : List Value} {K : Value → Mem → Prop} (h : appendK i.size i.bytes m A n c k news K) (hwf : m.bar ≤ m.next) :
    ∃ v m', K v m' ∧ MExt m m' ∧ ∀ (r : Ren) (w : World) (s' x' : Value), MemRel r m w → VR r (.slice A n c) s' → (Builtin.lenOf x').run P w = .ok k w →
      (∀ d, ∃ news' : Array Value, (Builtin.firstCells i.size k x').run P { w with drawn := d } = .ok news' { w with drawn := d } ∧ news'.size = news.length ∧ ∀ j, VR r (news.getD j undef) (news'.getD j undef)) →
      StepOK P (Builtin.append_ #[t, u] ty #[s', x']) r m w (fun r' v' => VR r' v v') m' := by
  obtain ⟨hnl, hpos, hone, h⟩ := h
  split at h
  · -- within the capacity
    rename_i hfit
    cases A with
    | none =>
      refine ⟨_, _, h, MExt.refl m, fun r w s' x' hm hs hl hf => ?_⟩
      obtain ⟨h1, h2, rfl⟩ := hs.slice_nil
      subst h1 h2
      have hk : k = 0 := by omega
      subst hk
      obtain ⟨news', hf, _, _⟩ := hf w.drawn
      exact .pure hm (append_fit ht hu hd hi ty none 0 0 0 x' hl hf (Nat.le_refl _) (w' := w) (fun a ha => by cases ha) (fun _ => rfl)) .snil
    | some a =>
      simp only at h
      split at h
      · rename_i hk
        subst hk
        refine ⟨_, _, h, MExt.refl m, fun r w s' x' hm hs hl hf => ?_⟩
        obtain ⟨a', c', rfl, hnc, hsr⟩ := hs.slice_inv
        obtain ⟨news', hf, hsz, _⟩ := hf w.drawn
        have hn' : news'.toList = [] := by
          apply List.eq_nil_of_length_eq_zero
          simp [hsz, hnl]
        exact .pure hm (append_fit ht hu hd hi ty (some a') n c' 0 x' hl hf (by have := hsr.le; omega) (w' := w) (fun b _ => by rw [hn']; rfl) (fun hx => by cases hx)) (.slice hfit hsr)
      · rename_i hk
        obtain ⟨l, hg, hbar, hlen, h1, h⟩ := writeK_elim h
        refine ⟨_, _, h, MExt.put hbar _, fun r w s' x' hm hs hl hf => ?_⟩
        obtain ⟨a', c', rfl, hnc, hsr⟩ := hs.slice_inv
        obtain ⟨news', hf, hsz, hnv⟩ := hf w.drawn
        have ha : AR r a.block a.off a' := hsr.loc.resolve_left (by have := hsr.le; omega)
        obtain ⟨w', hrun, hm', hfr⟩ := storeCells_ok (P := P) hm (ha.add (n * i.size)) hg hbar news news'.toList hlen (by simpa using hsz) (fun j _ => by rw [toList_getD news']; exact hnv j) h1
        exact ⟨r, _, w', append_fit ht hu hd hi ty (some a') n c' k x' hl hf (by have := hsr.le; omega) (fun b hb => by injection hb with hb; subst hb; exact hrun) (fun hx => by cases hx), .slice hfit hsr, hm', hfr⟩
  · -- beyond it
    rename_i hfit
    obtain ⟨hby, h63, h⟩ := h
    split at h
    · cases h
    · rename_i old hold
      -- a new row, whatever is gone
      have grow : ∀ (r r1 : Ren) (m1 : Mem) (w : World) (s' x' : Value), MemRel r m w → VR r (.slice A n c) s' → (Builtin.lenOf x').run P w = .ok k w →
          (∀ d, ∃ news' : Array Value, (Builtin.firstCells i.size k x').run P { w with drawn := d } = .ok news' { w with drawn := d } ∧ news'.size = news.length ∧ ∀ j, VR r (news.getD j undef) (news'.getD j undef)) →
          MemRel r1 m1 w → Fr r r1 m w w → MExt m m1 → m1.next = m.next → (∀ A' c', s' = .slice A' n c' → c' < n + k) →
          StepOK P (Builtin.append_ #[t, u] ty #[s', x']) r m w (fun r' v' => VR r' (.slice (some ⟨m.next, 0, some i.size⟩) (n + k) (n + k)) v') (m1.add (.cells (old ++ news) false)) := by
        intro r r1 m1 w s' x' hm hs hl hf hm1 hf1 hx1 hnx hcap
        obtain ⟨news', hf, hsz, hnv⟩ := hf (w.drawn + 1)
        obtain ⟨olds', ho, hosz, hol, hov⟩ := firstCells_ok (P := P) hm hs (Nat.le_refl n) hold (w.drawn + 1)
        have hs' : ∃ A' c', s' = .slice A' n c' := by
          cases A with
          | none => obtain ⟨h1, h2, rfl⟩ := hs.slice_nil; subst h1; exact ⟨_, _, rfl⟩
          | some a => obtain ⟨a', c', rfl, _⟩ := hs.slice_inv; exact ⟨_, _, rfl⟩
        obtain ⟨A', c', rfl⟩ := hs'
        have hlt := hcap A' c' rfl
        have hrun := append_more (P := P) ht hu hd hi hz ty A' n c' k x' hl hf ho hlt h63 hby
        have hge := grownCap_ge' w (n + k) c' e
        have hsize : (olds' ++ news' ++ Builtin.zeroCells z.cells (grownCap w (n + k) c' e - (n + k))).size = grownCap w (n + k) c' e * i.size := by
          simp only [Array.size_append, size_zeroCells', hzs, hosz, hsz, hol, hnl, ← Nat.add_mul]
          congr 1
          omega
        obtain ⟨r', h1, h2, h3⟩ := newRow_ok hm1 e (old ++ news) (olds' ++ news' ++ Builtin.zeroCells z.cells (grownCap w (n + k) c' e - (n + k))) (by simp; omega) (fun j hj => by
          rw [List.length_append] at hj
          rw [lappend_getD, aappend_getD, if_pos (show j < (olds' ++ news').size by rw [Array.size_append]; omega), aappend_getD, hosz]
          split
          · exact (hov j).mono hf1.ext
          · exact (hnv _).mono hf1.ext) (w.drawn + 1)
        refine ⟨r', _, _, hrun, ?_, h1, hf1.trans hx1 h2⟩
        rw [hnx] at h3
        refine .slice (Nat.le_refl _) ⟨hge, .inr ⟨rfl, _, h3, fun _ _ _ ee => by injection ee with e1 e2 e3; exact ⟨e1, by simp only; omega⟩⟩, fun e' he => .inr fun cb base csz hat => ?_, fun he => by cases he⟩
        injection he with he
        subst he
        simp only at hat
        rw [h3] at hat
        injection hat with hat
        injection hat with _ _ hcs
        rw [← hcs, hsize]
        simp
      cases A with
      | none =>
        refine ⟨_, _, h, MExt.add hwf _, fun r w s' x' hm hs hl hf => grow r r m w s' x' hm hs hl hf hm (Fr.refl r m w) (MExt.refl m) rfl fun A' c' he => ?_⟩
        obtain ⟨h1, h2, rfl⟩ := hs.slice_nil
        injection he with _ _ he
        omega
      | some a =>
        simp only at h
        cases hsp : a.spot with
        | none =>
          simp only [hsp] at h
          refine ⟨_, _, h, MExt.add hwf _, fun r w s' x' hm hs hl hf => grow r r m w s' x' hm hs hl hf hm (Fr.refl r m w) (MExt.refl m) rfl fun A' c' he => ?_⟩
          obtain ⟨a', c2, rfl, _, hsr⟩ := hs.slice_inv
          injection he with _ _ he
          have := hsr.exact hsp
          omega
        | some e1 =>
          simp only [hsp] at h
          obtain ⟨rfl, hbar, ⟨l, hg⟩, h⟩ := h
          refine ⟨_, _, h, (MExt.kill hbar).trans (MExt.add (m := m.kill a.block) hwf _), fun r w s' x' hm hs hl hf => ?_⟩
          obtain ⟨a', c', rfl, hnc, hsr⟩ := hs.slice_inv
          by_cases hroom : n + k ≤ c'
          · -- the machine writes in place: the row is taken over
            have ha : AR r a.block a.off a' := hsr.loc.resolve_left (by omega)
            obtain ⟨cb, base, csz, hn, rfl⟩ := ha.live hm hg
            obtain ⟨cc, ce, fr, hh, hc1, hc2, hc3, hc4⟩ := live_cells hm hn hg
            have hrm : a.off + c' * i.size ≤ csz := (hsr.room i.size hsp).resolve_left (by omega) _ _ _ hn
            obtain ⟨news', hf0, hsz, hnv⟩ := hf w.drawn
            have hone' : ∀ v ∈ news'.toList, v.oneCell' = true := by
              intro v hvm
              obtain ⟨j, hj, rfl⟩ := List.getElem_of_mem hvm
              have hr := hnv j
              have hj' : j < news.length := by simp at hj; omega
              have e1 : news.getD j undef = news[j] := by simp [List.getD, List.getElem?_eq_getElem hj']
              rw [e1, ← toList_getD news'] at hr
              have e2 : news'.toList.getD j undef = news'.toList[j] := by simp [List.getD, List.getElem?_eq_getElem hj]
              rw [e2] at hr
              exact hr.oneCell (hone _ (List.getElem_mem _))
            have hmul : (n + k) * i.size ≤ c' * i.size := Nat.mul_le_mul_right _ hroom
            rw [Nat.add_mul] at hmul
            have hnsz : news'.size = k * i.size := by rw [hsz, hnl]
            have holdlen : old.length = n * i.size := by
              unfold rowOf at hold
              split at hold
              · rename_i h0
                simp only [Option.some.injEq] at hold
                subst hold
                simp [h0]
              · simp only [hg] at hold
                split at hold
                · simp only [Option.some.injEq] at hold
                  subst hold
                  simp
                  omega
                · cases hold
            have holdv : ∀ j, j < n * i.size → a.off + j < l.length ∧ old.getD j undef = l.getD (a.off + j) undef := by
              intro j hj
              unfold rowOf at hold
              split at hold
              · omega
              · simp only [hg] at hold
                split at hold
                · rename_i hle
                  simp only [Option.some.injEq] at hold
                  subst hold
                  refine ⟨by omega, ?_⟩
                  simp only [List.getD_eq_getElem?_getD, List.getElem?_take, hj, if_true, List.getElem?_drop]
                · cases hold
            obtain ⟨c2, heap', hrun, hhs, hself, hoth, hcs, hval⟩ := storeCells_run (P := P) ce fr news'.toList (base + a.off + n * i.size) 0 w cc hh (by simp only [Array.length_toList]; omega)
              (fun j hj => by have := hc4 rfl; simp only [Array.length_toList] at hj; omega) hone'
            have hrg := hm.regrow hn hbar (b := .cells (old ++ news) false) (o' := .cells c2 ce fr) (heap' := heap') (base + a.off) (csz - a.off) hhs hself hoth
              (fun r' hx => ⟨c2, ce, fr, rfl, by rw [List.length_append, holdlen, hnl]; omega, by omega, fun j hj => by
                rw [List.length_append, holdlen, hnl] at hj
                rw [hval, lappend_getD, holdlen]
                simp only [Array.length_toList]
                split
                · rename_i hjo
                  rw [if_neg (by omega), (holdv j hjo).2]
                  have := hc3 (a.off + j) (holdv j hjo).1
                  rw [show base + (a.off + j) = base + a.off + j by omega] at this
                  exact this.mono hx
                · rename_i hjo
                  rw [if_pos (by omega), toList_getD news', show base + a.off + j - (base + a.off + n * i.size + 0) = j - n * i.size by omega]
                  exact (hnv _).mono hx, fun _ => by have := hc4 rfl; omega⟩)
            refine ⟨_, _, _, append_fit ht hu hd hi ty (some ⟨cb, base + a.off, none⟩) n c' k x' hl hf0 hroom (fun b hb => by injection hb with hb; subst hb; rw [addr_add]; exact hrun) (fun hx => by cases hx), ?_, hrg.1, hrg.2⟩
            refine .slice (Nat.le_refl _) ⟨hroom, .inr ⟨rfl, .at cb (base + a.off) (csz - a.off), by simp [Ren.set], fun _ _ _ ee => by injection ee with e1 e2 e3; exact ⟨e1, by simp only; omega⟩⟩, fun e' he => .inr fun cb2 b2 c2 hat => ?_, fun he => by cases he⟩
            injection he with he
            subst he
            simp only [Ren.set, if_true, Option.some.injEq] at hat
            injection hat with _ _ hcs
            show 0 + c' * i.size ≤ c2
            omega
          · have hk := hm.kill hbar
            refine grow r (killR r a.block) (m.kill a.block) w _ x' hm hs hl hf hk.1 hk.2 (MExt.kill hbar) rfl fun A' c2 he => ?_
            injection he with _ _ he
            omega
end
end Go.Ga

namespace Go.Ga
open Go
section
variable {P : Program} {r : Ren} {m : Mem} {w : World} {f : Regs}
theorem lenOf_ok {A : Option Addr} {n c : Nat} {v' : Value} (h : VR r (.slice A n c) v') (w : World) : (Builtin.lenOf v').run P w = .ok n w := by
  cases h <;> rfl
theorem copy_run {t u e : TypeId} {i : TypeInfo} (ht : P.underlying t = some (.slice e)) (hi : P.info? e = some i) (ty : TypeId) (A' : Option Addr) (n c' k : Nat) (x' : Value)
    (hl : (Builtin.lenOf x').run P w = .ok k w) {cs : Array Value} (hf : (Builtin.firstCells i.size (Nat.min k n) x').run P w = .ok cs w) {w' : World} (hst : ∀ a, A' = some a → (storeCells a cs.toList).run P w = .ok () w') (hn : A' = none → w' = w) :
    (Builtin.copy_ #[t, u] ty #[.slice A' n c', x']).run P w = .ok (.int .i64 (Nat.min k n : Nat)) w' := by
  cases A' with
  | none =>
    rw [hn rfl]
    simp only [Builtin.copy_, run_underlying ht, sizeOf, typeInfo, hi, hl, hf, goInt, Sem.run_bind, Sem.run_pure, Result.andThen_ok, run_program, List.getElem?_toArray, List.getElem?_cons_zero, List.getElem?_cons_succ]
  | some a =>
    have h := hst a rfl
    simp only [Builtin.copy_, run_underlying ht, sizeOf, typeInfo, hi, hl, hf, h, goInt, Sem.run_bind, Sem.run_pure, Result.andThen_ok, run_program, List.getElem?_toArray, List.getElem?_cons_zero, List.getElem?_cons_succ]
theorem copy_ok {t u e : TypeId} {i : TypeInfo} (ht : P.underlying t = some (.slice e)) (hi : P.info? e = some i) (ty : TypeId) {A : Option Addr} {n c k : Nat} {news : List Value}
    {a0 : Addr} (hA : A = some a0) {l : List Value} (hg : m.get a0.block = some (.cells l false)) (hbar : m.bar ≤ a0.block) (hlen : a0.off + 0 + news.length ≤ l.length) (h1 : ∀ v ∈ news, cellVal v = true) (hpos : Nat.min k n * i.size ≠ 0)
    (hm : MemRel r m w) {s' x' : Value} (hs : VR r (.slice A n c) s') (hl : (Builtin.lenOf x').run P w = .ok k w)
    (hf : ∃ news' : Array Value, (Builtin.firstCells i.size (Nat.min k n) x').run P w = .ok news' w ∧ news'.size = news.length ∧ ∀ j, VR r (news.getD j undef) (news'.getD j undef)) :
    StepOK P (Builtin.copy_ #[t, u] ty #[s', x']) r m w (fun r' v' => VR r' (.int .i64 (Nat.min k n : Nat)) v') (m.put a0.block (.cells (splice l (a0.off + 0) news) false)) := by
  subst hA
  obtain ⟨a', c', rfl, hnc, hsr⟩ := hs.slice_inv
  obtain ⟨news', hf, hsz, hnv⟩ := hf
  have ha : AR r a0.block a0.off a' := hsr.loc.resolve_left (by
    intro h0
    have hle := hsr.le
    have h2 : n = 0 := by omega
    apply hpos
    rw [h2]
    simp)
  obtain ⟨w', hrun, hm', hfr⟩ := storeCells_ok (P := P) hm ha hg hbar news news'.toList hlen (by simpa using hsz) (fun j _ => by rw [toList_getD news']; exact hnv j) h1
  exact ⟨r, _, w', copy_run ht hi ty (some a') n c' k x' hl hf (fun b hb => by injection hb with hb; subst hb; exact hrun) (fun hx => by cases hx), .int _ _, by simpa using hm', hfr⟩
theorem copy_none {t u e : TypeId} {i : TypeInfo} (ht : P.underlying t = some (.slice e)) (hi : P.info? e = some i) (ty : TypeId) {A : Option Addr} {n c k : Nat} (hz : A = none ∨ Nat.min k n * i.size = 0)
    (hm : MemRel r m w) {s' x' : Value} (hs : VR r (.slice A n c) s') (hl : (Builtin.lenOf x').run P w = .ok k w)
    (hf : ∃ news' : Array Value, (Builtin.firstCells i.size (Nat.min k n) x').run P w = .ok news' w ∧ news'.size = Nat.min k n * i.size) :
    StepOK P (Builtin.copy_ #[t, u] ty #[s', x']) r m w (fun r' v' => VR r' (.int .i64 (Nat.min k n : Nat)) v') m := by
  obtain ⟨news', hf, hsz⟩ := hf
  refine .pure hm (v' := .int .i64 (Nat.min k n : Nat)) ?_ (.int _ _)
  cases A with
  | none =>
    obtain ⟨h1, h2, rfl⟩ := hs.slice_nil
    subst h1
    exact copy_run ht hi ty none 0 _ k x' hl hf (fun b hb => by cases hb) (fun _ => rfl)
  | some a =>
    obtain ⟨a', c', rfl, hnc, hsr⟩ := hs.slice_inv
    have hz' := hz.resolve_left (by simp)
    have hn' : news'.toList = [] := by
      apply List.eq_nil_of_length_eq_zero
      simp [hsz, hz']
    exact copy_run ht hi ty (some a') n c' k x' hl hf (fun b _ => by rw [hn']; rfl) (fun hx => by cases hx)
theorem wrap_i64_id {n : Int} (h1 : 0 ≤ n) (h2 : n ≤ 9223372036854775807) : IntKind.i64.wrap n = n := by
  rw [IntKind.wrap_i64]
  omega
theorem make_ok (hm : MemRel r m w) {t e : TypeId} {i : TypeInfo} {z : Value} (ht : P.underlying t = some (.slice e)) (hi : P.info? e = some i) (hz : i.zero = some z) (hp : z.cells.toList.all plain = true) {kl kc : IntKind} {l c : Int}
    (h1 : 0 ≤ l) (h2 : l ≤ c) (h3 : (i.bytes : Int) * c ≤ 281474976710656) (h4 : c ≤ 9223372036854775807) (hne : z.cells.toList ≠ []) :
    StepOK P (Instr.makeSlice t (.int kl l) (.int kc c)) r m w (fun r' v' => VR r' (.slice (some ⟨m.next, 0, none⟩) l.toNat c.toNat) v')
      (m.add (.cells ((List.range (c.toNat * i.size)).map fun j => z.cells.toList.getD (j % z.cells.toList.length) undef) false)) := by
  have hw1 := wrap_i64_id (n := l) h1 (by omega)
  have hw2 := wrap_i64_id (n := c) (by omega) h4
  have hz0 : 0 < z.cells.size := by
    rcases Nat.eq_zero_or_pos z.cells.size with h | h
    · exact absurd (List.eq_nil_of_length_eq_zero (by simpa using h)) hne
    · exact h
  let zero : Array Value := if c.toNat * i.size = 0 then #[] else z.cells
  have hcell : ∀ j, j < c.toNat * i.size → ((Array.range (c.toNat * i.size)).map (zero[· % zero.size]!)).getD j undef = z.cells.toList.getD (j % z.cells.toList.length) undef := by
    intro j hj
    have hzz : zero = z.cells := by simp only [zero]; rw [if_neg (by omega)]
    have hlt : j % z.cells.size < z.cells.size := Nat.mod_lt _ hz0
    rw [toList_getD]
    simp [Array.getD, hj, hzz, hlt]
  obtain ⟨r', w', hrun, g1, g2, g3⟩ := newRow_step (P := P) hm e ((List.range (c.toNat * i.size)).map fun j => z.cells.toList.getD (j % z.cells.toList.length) undef) ((Array.range (c.toNat * i.size)).map (zero[· % zero.size]!)) (by simp) (fun j hj => by
    have hj' : j < c.toNat * i.size := by simpa using hj
    rw [hcell j hj']
    have : ((List.range (c.toNat * i.size)).map fun j => z.cells.toList.getD (j % z.cells.toList.length) undef).getD j undef = z.cells.toList.getD (j % z.cells.toList.length) undef := by
      simp [List.getD_eq_getElem?_getD, hj']
    rw [this]
    have hlt : j % z.cells.toList.length < z.cells.toList.length := Nat.mod_lt _ (by simpa using hz0)
    simp only [List.all_eq_true] at hp
    refine VR.of_plain (hp _ ?_)
    simp only [List.getD_eq_getElem?_getD, List.getElem?_eq_getElem hlt, Option.getD_some]
    exact List.getElem_mem _)
  refine ⟨r', .slice (some ⟨w.heap.size, 0, none⟩) l.toNat c.toNat, w', ?_, ?_, g1, g2⟩
  · have hb : ¬ (281474976710656 < (i.bytes : Int) * c) := by omega
    have hc0 : ¬ (c < 0) := by omega
    have hl0 : ¬ (l < 0) := by omega
    have hlc : ¬ (c < l) := by omega
    have hrun' : ∀ (x : Array Value), x = zero → (newRow e ((Array.range (c.toNat * i.size)).map (x[· % x.size]!))).run P w = .ok ⟨w.heap.size, 0, none⟩ w' := by
      intro x hx; rw [hx]; exact hrun
    by_cases hn0 : c.toNat * i.size = 0
    · have := hrun' #[] (by simp [zero, hn0])
      simp only [hn0] at this
      simp at this
      simp [Instr.makeSlice, run_underlying ht, asInt, asIntOf, typeInfo, sizeOf, hi, hw1, hw2, hb, hc0, hl0, hlc, hn0, this]
    · have := hrun' z.cells (by simp [zero, hn0])
      simp [Instr.makeSlice, run_underlying ht, asInt, asIntOf, typeInfo, sizeOf, zeroValue, hi, hz, hw1, hw2, hb, hc0, hl0, hlc, hn0, this]
  · exact .slice (by omega) ⟨Nat.le_refl _, .inr ⟨rfl, _, g3, fun _ _ _ ee => by injection ee with e1 e2 e3; exact ⟨e1, by simp only; omega⟩⟩, (fun e he => nomatch he), fun _ => rfl⟩
theorem shape_of {cb : Nat} {c : Array Value} {e : TypeId} {fr : Nat × Nat} (h : w.heap[cb]? = some (.cells c e fr)) : w.shape? cb = some (e, c.size) := by simp [World.shape?, h]
theorem u8V_getD (s : List UInt8) (j : Nat) (h : j < s.length) : (s.map u8V).getD j undef = u8V s[j] := by
  simp [List.getD_eq_getElem?_getD, List.getElem?_eq_getElem h]
theorem VR.u8 (b : UInt8) : VR r (u8V b) (.int .u8 b.toNat) := .int _ _
theorem s2b_ok (hm : MemRel r m w) (e : TypeId) (s : ByteArray) :
    StepOK P (Conv.stringToBytes e s) r m w (fun r' v' => VR r' (.slice (some ⟨m.next, 0, some 1⟩) s.size s.size) v') (m.add (.cells (s.data.toList.map u8V) false)) := by
  have hge := grownCap_ge' w s.size 0 e
  let cells : Array Value := (s.data.map fun b => Value.int .u8 b.toNat) ++ Array.replicate (grownCap w s.size 0 e - s.size) (.int .u8 0)
  have hsz : cells.size = grownCap w s.size 0 e := by
    have : s.data.size = s.size := rfl
    simp only [cells, Array.size_append, Array.size_map, Array.size_replicate, this]
    omega
  obtain ⟨r', g1, g2, g3⟩ := newRow_ok hm e (s.data.toList.map u8V) cells (by rw [hsz]; have : s.data.size = s.size := rfl; simp [this]; exact hge) (fun j hj => by
    have hj' : j < s.data.size := by simpa using hj
    rw [u8V_getD _ _ (by simpa using hj')]
    have hlt : j < (s.data.map fun b => Value.int .u8 b.toNat).size := by simpa using hj'
    simp only [cells]
    rw [aappend_getD, if_pos hlt]
    have : (s.data.map fun b => Value.int .u8 (b.toNat : Int)).getD j undef = .int .u8 (s.data[j].toNat : Int) := by
      simp only [Array.getD, Array.size_map, hj', dite_true]
      simp
    rw [this]
    simpa using VR.u8 s.data[j]) (w.drawn + 1)
  obtain ⟨f1, f2⟩ := freeze_ok g1 (n := m.next) g3 (by exact hm.wf) (l := s.data.toList.map u8V) (by simp [Mem.add, Mem.set]) cells.size (fun c e' fr h => by
    have : (w.heap.push (.cells cells e))[w.heap.size]? = some (.cells cells e) := by simp
    rw [this] at h
    injection h with h; injection h with h _ _
    rw [h]
    exact Nat.le_refl _)
  refine ⟨r', .slice (some ⟨w.heap.size, 0, none⟩) s.size (grownCap w s.size 0 e), _, ?_, ?_, f1, g2.trans (MExt.add hm.wf _) f2⟩
  · have hsh : (w.drew.alloc (.cells cells e)).shape? w.heap.size = some (e, cells.size) := shape_of (fr := (0, 0)) (by show (w.heap.push (Obj.cells cells e))[w.heap.size]? = _; simp)
    have : ({ w with heap := w.heap.push (.cells cells e), drawn := w.drawn + 1 } : World) = w.drew.alloc (.cells cells e) := rfl
    rw [this]
    have hrow : (newRow e cells).run P w.drew = .ok ⟨w.heap.size, 0, none⟩ (w.drew.alloc (.cells cells e)) := by
      simp only [newRow, Sem.run_bind, run_newObj, Result.andThen_ok, Sem.run_pure]
      rfl
    have hch : (choose (.appendCap s.size 0 e)).run P w = .ok (grownCap w s.size 0 e) w.drew := by
      rw [run_choose]
      rfl
    simp only [Conv.stringToBytes, Sem.run_bind, hch, Result.andThen_ok]
    have hcells : ((s.data.map fun b => Value.int .u8 (b.toNat : Int)) ++ Array.replicate (grownCap w s.size 0 e - s.size) (.int .u8 0)) = cells := rfl
    rw [hcells, hrow]
    simp only [Result.andThen_ok, markStringish, Sem.run_bind, run_shape, hsh, run_freeze, Sem.run_pure]
  · refine .slice (Nat.le_refl _) ⟨hge, .inr ⟨rfl, _, g3, fun _ _ _ ee => by injection ee with e1 e2 e3; exact ⟨e1, by simp only; omega⟩⟩, fun e' he => .inr fun cb base csz hat => ?_, fun he => by cases he⟩
    injection he with he
    subst he
    simp only at hat
    rw [g3] at hat
    injection hat with hat
    injection hat with _ _ hcs
    rw [← hcs, hsz]
    simp
theorem cvB_ok (hm : MemRel r m w) {a : Addr} {n c : Nat} {x' : Value} (hx : VR r (.slice (some a) n c) x') {l : List Value} (hg : m.get a.block = some (.cells l false)) (hbar : m.bar ≤ a.block) (hc : 0 < c) :
    ∃ w' a' c', x' = .slice (some a') n c' ∧ (markStringish a').run P w = .ok () w' ∧ MemRel r m w' ∧ Fr r r m w w' := by
  obtain ⟨a', c', rfl, hnc, hsr⟩ := hx.slice_inv
  have ha : AR r a.block a.off a' := hsr.loc.resolve_left (by have := hsr.le; omega)
  obtain ⟨cb, base, csz, hn, rfl⟩ := ha.live hm hg
  obtain ⟨cc, ce, fr, hh, _⟩ := live_cells hm hn hg
  obtain ⟨h1, h2⟩ := freeze_ok hm hn hbar hg cc.size (fun c2 e2 fr2 h => by rw [hh] at h; injection h with h; injection h with h _ _; rw [h]; exact Nat.le_refl _)
  exact ⟨_, _, _, rfl, by simp only [markStringish, Sem.run_bind, run_shape, shape_of hh, Result.andThen_ok, run_freeze], h1, h2⟩
theorem bytesOf_spec : ∀ {l : List Value} {bs : List UInt8}, bytesOf l = some bs → ∃ ns : List Int, l = ns.map (Value.int .u8) ∧ bs = ns.map (fun n => UInt8.ofNat n.toNat)
  | [], bs, h => by
    simp only [bytesOf, Option.some.injEq] at h
    exact ⟨[], rfl, h.symm⟩
  | v :: l, bs, h => by
    simp only [bytesOf] at h
    split at h
    · rename_i b bs2 hb hbs
      simp only [Option.some.injEq] at h
      obtain ⟨ns, rfl, rfl⟩ := bytesOf_spec hbs
      unfold byteOf at hb
      split at hb
      · rename_i n
        simp only [Option.some.injEq] at hb
        exact ⟨n :: ns, rfl, by rw [← h, ← hb]; rfl⟩
      · cases hb
    · cases h
theorem b2s_ok (hm : MemRel r m w) {A : Option Addr} {n c : Nat} {x' : Value} (hx : VR r (.slice A n c) x') {l : List Value} (hl : rowOf m A n = some l) {bs : List UInt8} (hb : bytesOf l = some bs) :
    (Conv.bytesToString x').run P w = .ok (.string ⟨bs.toArray⟩) w := by
  obtain ⟨ns, rfl, rfl⟩ := bytesOf_spec hb
  obtain ⟨cs, hrun, hsz, hln, hv⟩ := firstCells_ok (P := P) (esz := 1) hm hx (Nat.le_refl n) (by simpa using hl) w.drawn
  cases A with
  | none =>
    obtain ⟨h1, h2, rfl⟩ := hx.slice_nil
    subst h1
    have : ns = [] := List.eq_nil_of_length_eq_zero (by simpa using hln)
    subst this
    simp [Conv.bytesToString]
    rfl
  | some a =>
    obtain ⟨a', c', rfl, hnc, hsr⟩ := hx.slice_inv
    have hcs : cs = (ns.map (Value.int .u8)).toArray := by
      apply Array.ext
      · simpa using hsz
      · intro i h1 h2
        have h3 := hv i
        have hi : i < ns.length := by simpa using h2
        have e1 : (ns.map (Value.int .u8)).getD i undef = .int .u8 ns[i] := by simp [List.getD_eq_getElem?_getD, List.getElem?_eq_getElem hi]
        have e2 : cs.getD i undef = cs[i] := by simp [Array.getD, h1]
        rw [e1, e2] at h3
        rw [h3.int_inv]
        simp
    have hload : (loadCells a' n).run P w = .ok (ns.map (Value.int .u8)).toArray w := by
      have : (Builtin.firstCells 1 n (.slice (some a') n c')) = loadCells a' n := by simp [Builtin.firstCells]
      rw [this, hcs] at hrun
      exact hrun
    rw [run_bytesToString w a' n c' ns hload, foldl_push_bytes]
    simp [ByteArray.empty, ByteArray.emptyWithCapacity]
    rfl
end
end Go.Ga

namespace Go.Ga
open Go
def resolveRvs : List Operand → Option (List Rv)
  | [] => some []
  | x :: l => match resolveRv x, resolveRvs l with
    | some r, some rs => some (r :: rs)
    | _, _ => none
def resolveO : Option Operand → Option (Option Rv)
  | none => some none
  | some x => (resolveRv x).map some
def resolveParts (place : Nat → Option (Nat × Nat)) : List (Nat × Operand) → Option (List (Nat × Nat × Rv))
  | [] => some []
  | (i, x) :: l => match place i, resolveRv x, resolveParts place l with
    | some (off, sz), some r, some rs => some ((off, sz, r) :: rs)
    | _, _, _ => none
def aggD : TypeDesc → Bool
  | .struct _ | .array _ _ => true
  | _ => false
def zeroOf (P : Program) (t : TypeId) : Option (TypeInfo × Value) :=
  match P.info? t with
  | some i => match i.zero with
    | some z => if z.cells.toList.all plain then some (i, z) else none
    | none => none
  | none => none
def structPlace (P : Program) (fields : Array Field) (i : Nat) : Option (Nat × Nat) :=
  match fields[i]? with
  | some fl => (P.info? fl.type).map fun ti => (fl.offset, ti.size)
  | none => none
def nilKind : TypeDesc → Option NilK
  | .pointer _ => some .ptr
  | .slice _ => some .sl
  | .map _ _ => some .mp
  | .func _ _ _ => some .fn
  | .interface _ => some .ifc
  | _ => none
def isNilC : NilK → Operand → Bool
  | .ptr, .const (.pointer none) | .sl, .const (.slice none 0 0) | .mp, .const (.map none) | .fn, .const .nilFunc | .ifc, .const .nilIface => true
  | _, _ => false
def isU8 : Option TypeDesc → Bool
  | some (.int .u8) => true
  | _ => false
def resolveBin (P : Program) (op : BinOp) (t : TypeId) (x y : Operand) : Option ROp :=
  match op, P.underlying t with
  | .eql, some .bool | .neq, some .bool => do some (.eqB (op matches .neq) (← resolveRv x) (← resolveRv y))
  | .eql, some (.struct _) | .neq, some (.struct _) | .eql, some (.array _ _) | .neq, some (.array _ _) => do some (.eqA op t (← resolveRv x) (← resolveRv y))
  | .eql, some d | .neq, some d =>
    match nilKind d with
    | some nk => if isNilC nk y then do some (.eqN nk (op matches .neq) (← resolveRv x)) else if isNilC nk x then do some (.eqN nk (op matches .neq) (← resolveRv y)) else none
    | none => do some (.bin op (← resolveRv x) (← resolveRv y))
  | _, some _ => do some (.bin op (← resolveRv x) (← resolveRv y))
  | _, none => none
def resolveConv (P : Program) (s d : TypeId) (x : Operand) : Option ROp :=
  match P.underlying s, P.underlying d with
  | some (.int _), some (.int k) => do some (.toInt k (← resolveRv x))
  | some .string, some .string => do some (.s2s (← resolveRv x))
  | some .string, some (.slice e) => if isU8 (P.underlying e) then do some (.s2b (← resolveRv x)) else none
  | some (.slice _), some (.slice e) => if s == d && isU8 (P.underlying e) then do some (.cvB (← resolveRv x)) else none
  | some (.slice e), some .string => if isU8 (P.underlying e) then do some (.b2s (← resolveRv x)) else none
  | _, _ => none
def resolveBuiltin (P : Program) (b : Builtin) (args : List Operand) (ts : List TypeId) : Option ROp :=
  match b, args, ts with
  | .len, [x], [t] => match P.underlying t with
    | some .string => do some (.lenStr (← resolveRv x))
    | some (.slice _) => do some (.lenSl (← resolveRv x))
    | some (.array n _) => some (.lenK n)
    | some (.pointer p) => match P.underlying p with
      | some (.array n _) => some (.lenK n)
      | _ => none
    | _ => none
  | .append, [x, y], [t, u] => match P.underlying t, P.underlying u with
    | some (.slice e), some (.slice _) => do
      let (i, z) ← zeroOf P e
      if z.cells.size = i.size then some (.append i.size i.bytes (← resolveRv x) (← resolveRv y)) else none
    | some (.slice e), some .string => do
      let (i, z) ← zeroOf P e
      if z.cells.size = i.size ∧ i.size = 1 ∧ i.bytes = 1 then some (.appendS (← resolveRv x) (← resolveRv y)) else none
    | _, _ => none
  | .copy, [x, y], [t, u] => match P.underlying t, P.underlying u with
    | some (.slice e), some (.slice _) => do
      let i ← P.info? e
      some (.copy i.size (← resolveRv x) (← resolveRv y))
    | some (.slice e), some .string => do
      let i ← P.info? e
      if i.size = 1 then some (.copyS (← resolveRv x) (← resolveRv y)) else none
    | _, _ => none
  | .min, x :: ys, _ => do some (.mm false (← resolveRv x) (← resolveRvs ys))
  | .max, x :: ys, _ => do some (.mm true (← resolveRv x) (← resolveRvs ys))
  | _, _, _ => none
def resolveOp (P : Program) : Op → Option ROp
  | .move x | .assign x => do some (.mv (← resolveRv x))
  | .pick c a b => do some (.pick (← resolveRv c) (← resolveRv a) (← resolveRv b))
  | .alloc t => do
    let (_, z) ← zeroOf P t
    some (.new z.cells.toList)
  | .box _ x => do some (.box (← resolveRv x))
  | .build t parts => do
    let (_, z) ← zeroOf P t
    match P.underlying t with
    | some (.struct fields) => if fields.toList.all fun fl => (P.info? fl.type).isSome then do some (.build z.cells.toList (← resolveParts (structPlace P fields) parts.toList)) else none
    | some (.array _ e) => do
      let i ← P.info? e
      some (.build z.cells.toList (← resolveParts (fun k => some (k * i.size, i.size)) parts.toList))
    | _ => none
  | .buildSlice t len parts => match P.underlying t with
    | some (.slice e) => do
      let (i, z) ← zeroOf P e
      if z.cells.size = i.size ∧ 0 < i.size ∧ len * i.size ≤ 16777216 then do
        some (.mkSl len ((List.range (len * i.size)).map fun j => z.cells.toList.getD (j % z.cells.toList.length) undef) (← resolveParts (fun k => some (k * i.size, i.size)) parts.toList))
      else none
    | _ => none
  | .load t x => match P.underlying t with
    | some d => if aggD d then do
        let i ← P.info? t
        some (.loadN i.size (← resolveRv x))
      else do some (.load1 (← resolveRv x))
    | none => none
  | .store t x v => do
    let i ← P.info? t
    some (.store i.size (← resolveRv x) (← resolveRv v))
  | .nilCheck x => do some (.chk (← resolveRv x))
  | .binOp op t x y _ => resolveBin P op t x y
  | .unOp op _ x => do some (.un op (← resolveRv x))
  | .convert s d x => resolveConv P s d x
  | .makeInterface t x => match P.underlying t with
    | some (.interface _) => none
    | some _ => do some (.iface t (← resolveRv x))
    | none => none
  | .makeFunc (.func g) first caps => if first.isEmpty then do some (.func g (← resolveRvs caps.toList)) else none
  | .makeSlice t l c => match P.underlying t with
    | some (.slice e) => do
      let (i, z) ← zeroOf P e
      some (.make i.size i.bytes z.cells.toList (← resolveRv l) (← resolveRv c))
    | _ => none
  | .slice t x lo hi mx => match P.underlying t with
    | some .string => if mx.isNone then do some (.slStr (← resolveRv x) (← resolveO lo) (← resolveO hi)) else none
    | some (.slice e) => do
      let i ← P.info? e
      some (.sl i.size (← resolveRv x) (← resolveO lo) (← resolveO hi) (← resolveO mx))
    | some (.array n e) => do
      let i ← P.info? e
      some (.slArr n i.size (← resolveRv x) (← resolveO lo) (← resolveO hi) (← resolveO mx))
    | _ => none
  | .fieldAddr s x k => match P.underlying s with
    | some (.struct fields) => match fields[k]? with
      | some fl => do
        let i ← P.info? fl.type
        if 0 < i.size then some (.fieldAddr fl.offset (← resolveRv x)) else none
      | none => none
    | _ => none
  | .field s x k => match P.underlying s with
    | some (.struct fields) => match fields[k]? with
      | some fl => match P.underlying fl.type with
        | some d => if aggD d then do
            let i ← P.info? fl.type
            some (.fieldN fl.offset i.size (← resolveRv x))
          else do some (.field1 fl.offset (← resolveRv x))
        | none => none
      | none => none
    | _ => none
  | .indexAddr t x i => match P.underlying t with
    | some (.slice e) => do
      let ti ← P.info? e
      some (.ixAddr ti.size (← resolveRv x) (← resolveRv i))
    | some (.array n e) => do
      let ti ← P.info? e
      some (.ixAddrA n ti.size (← resolveRv x) (← resolveRv i))
    | _ => none
  | .index t x i => match P.underlying t with
    | some .string => do some (.ixStr (← resolveRv x) (← resolveRv i))
    | some (.array n e) => match P.underlying e with
      | some d => do
        let ti ← P.info? e
        if aggD d then some (.ixArrN n ti.size (← resolveRv x) (← resolveRv i)) else if ti.size = 1 then some (.ixArr n (← resolveRv x) (← resolveRv i)) else none
      | none => none
    | _ => none
  | .extract x i => do some (.extract (← resolveRv x) i)
  | .call c => match c.callee with
    | .builtin b => resolveBuiltin P b c.args.toList c.argTypes.toList
    | _ => none
  | _ => none
end Go.Ga

namespace Go.Ga
open Go
section
variable {P : Program} {f : Regs} {m : Mem} {K : Value → Mem → Prop}
def Sound (P : Program) (o : Oper) (f : Regs) (m : Mem) (K : Value → Mem → Prop) : Prop := ∃ v m', OpEv P o f m v m' ∧ K v m'
theorem Sound.plain {o : Oper} {v : Value} (hk : K v m) (h : ∀ (r : Ren) (w : World) (a : Act), MemRel r m w → (∀ t, Operand.tmp t ∈ o.op.operands → VR r (f t) (a.eval (.tmp t))) →
    ∃ v', (execOp a.eval o).run P w = .ok (.value v') w ∧ VR r v v') : Sound P o f m K :=
  ⟨v, m, OpEv.of_run (MExt.refl m) fun r w a hm ht => by
    obtain ⟨v', h1, h2⟩ := h r w a hm ht
    exact ⟨r, v', w, .inl h1, h2, hm, Fr.refl r m w⟩, hk⟩
theorem Sound.step {o : Oper} {v : Value} {m' : Mem} (hk : K v m') (hx : MExt m m') (s : Act → Sem Value) (he : ∀ (a : Act), execOp a.eval o = (do pure (.value (← s a))))
    (h : ∀ (r : Ren) (w : World) (a : Act), MemRel r m w → (∀ t, Operand.tmp t ∈ o.op.operands → VR r (f t) (a.eval (.tmp t))) → StepOK P (s a) r m w (fun r' v' => VR r' v v') m') : Sound P o f m K :=
  ⟨v, m', OpEv.of_value hx he h, hk⟩
theorem rvR {r : Ren} {a : Act} {x : Operand} {rv : Rv} {ops : Array Operand} (hr : resolveRv x = some rv) (hx : x ∈ ops) (ht : ∀ t, Operand.tmp t ∈ ops → VR r (f t) (a.eval (.tmp t))) : VR r (rv.ev f) (a.eval x) :=
  resolveRv_rel hr fun t e => by subst e; exact ht t hx
variable {d : Option Tmp} {ty : TypeId} {pos : String} {af : Array Edge} {gd : Option (Nat × Bool)} {rop : ROp}
theorem sound_move {x : Operand} (h : resolveOp P (.move x) = some rop) (hv : rop.vc P f m K) : Sound P ⟨d, .move x, ty, pos, af, gd⟩ f m K := by
  simp only [resolveOp, Option.bind_eq_bind, Option.bind_eq_some_iff, Option.some.injEq] at h
  obtain ⟨rv, hr, rfl⟩ := h
  exact .plain hv fun r w a hm ht => ⟨_, rfl, rvR hr (by simp [Op.operands]) ht⟩
theorem sound_assign {x : Operand} (h : resolveOp P (.assign x) = some rop) (hv : rop.vc P f m K) : Sound P ⟨d, .assign x, ty, pos, af, gd⟩ f m K := by
  simp only [resolveOp, Option.bind_eq_bind, Option.bind_eq_some_iff, Option.some.injEq] at h
  obtain ⟨rv, hr, rfl⟩ := h
  exact .plain hv fun r w a hm ht => ⟨_, rfl, rvR hr (by simp [Op.operands]) ht⟩
theorem sound_pick {c x y : Operand} (h : resolveOp P (.pick c x y) = some rop) (hv : rop.vc P f m K) : Sound P ⟨d, .pick c x y, ty, pos, af, gd⟩ f m K := by
  simp only [resolveOp, Option.bind_eq_bind, Option.bind_eq_some_iff, Option.some.injEq] at h
  obtain ⟨rc, hc, rx, hx, ry, hy, rfl⟩ := h
  simp only [ROp.vc] at hv
  split at hv
  · rename_i b hb
    refine .plain hv fun r w a hm ht => ?_
    have h1 := rvR hc (by simp [Op.operands]) ht
    have h2 := rvR hx (by simp [Op.operands]) ht
    have h3 := rvR hy (by simp [Op.operands]) ht
    rw [hb] at h1
    cases h1' : a.eval c <;> rw [h1'] at h1 <;> cases h1
    refine ⟨if b then a.eval x else a.eval y, by simp [execOp, asBool, h1'], ?_⟩
    cases b <;> assumption
  · cases hv
theorem zeroOf_spec {t : TypeId} {i : TypeInfo} {z : Value} (h : zeroOf P t = some (i, z)) : P.info? t = some i ∧ i.zero = some z ∧ z.cells.toList.all plain = true := by
  unfold zeroOf at h
  split at h
  · rename_i i' hi
    split at h
    · rename_i z' hz
      split at h
      · rename_i hp
        simp only [Option.some.injEq, Prod.mk.injEq] at h
        obtain ⟨rfl, rfl⟩ := h
        exact ⟨hi, hz, hp⟩
      · cases h
    · cases h
  · cases h
theorem sound_alloc {t : TypeId} (h : resolveOp P (.alloc t) = some rop) (hv : rop.vc P f m K) (hwf : m.bar ≤ m.next) : Sound P ⟨d, .alloc t, ty, pos, af, gd⟩ f m K := by
  simp only [resolveOp, Option.bind_eq_bind, Option.bind_eq_some_iff, Option.some.injEq] at h
  obtain ⟨⟨i, z⟩, hz, rfl⟩ := h
  obtain ⟨h1, h2, h3⟩ := zeroOf_spec hz
  exact .step hv (MExt.add hwf _) (fun _ => Instr.alloc t true (.tuple #[])) (fun _ => rfl) fun r w a hm ht => new_ok hm h1 h2 h3
theorem sound_box {t : TypeId} {x : Operand} (h : resolveOp P (.box t x) = some rop) (hv : rop.vc P f m K) (hwf : m.bar ≤ m.next) : Sound P ⟨d, .box t x, ty, pos, af, gd⟩ f m K := by
  simp only [resolveOp, Option.bind_eq_bind, Option.bind_eq_some_iff, Option.some.injEq] at h
  obtain ⟨rv, hr, rfl⟩ := h
  simp only [ROp.vc] at hv
  split at hv
  · rename_i l hl
    exact .step hv (MExt.add hwf _) (fun a => Instr.box t (a.eval x)) (fun _ => rfl) fun r w a hm ht => box_ok hm (rvR hr (by simp [Op.operands]) ht) hl
  · cases hv
theorem resolveParts_spec {place : Nat → Option (Nat × Nat)} {a : Act} {r : Ren} : ∀ {parts : List (Nat × Operand)} {rp : List (Nat × Nat × Rv)}, resolveParts place parts = some rp → (∀ p ∈ parts, ∀ t, p.2 = .tmp t → VR r (f t) (a.eval (.tmp t))) →
    rp.length = (parts.map fun p => (p.1, a.eval p.2)).length ∧ ∀ (i : Nat) p q, rp[i]? = some p → (parts.map fun p => (p.1, a.eval p.2))[i]? = some q → place q.1 = some (p.1, p.2.1) ∧ VR r (p.2.2.ev f) q.2
  | [], rp, h, _ => by
    simp only [resolveParts, Option.some.injEq] at h
    subst h
    exact ⟨rfl, fun i p q hp _ => by simp at hp⟩
  | (j, x) :: l, rp, h, ht => by
    simp only [resolveParts] at h
    split at h
    · rename_i off sz rx rs hp hr hrs
      simp only [Option.some.injEq] at h
      subst h
      obtain ⟨h1, h2⟩ := resolveParts_spec hrs (fun p hp => ht p (by simp [hp]))
      refine ⟨by simpa using h1, fun i p q hpi hqi => ?_⟩
      cases i with
      | zero =>
        simp only [List.map_cons, List.getElem?_cons_zero, Option.some.injEq] at hpi hqi
        subst hpi hqi
        exact ⟨hp, resolveRv_rel hr fun t e => ht (j, x) (by simp) t e⟩
      | succ i =>
        simp only [List.map_cons, List.getElem?_cons_succ] at hpi hqi
        exact h2 i p q hpi hqi
    · cases h
theorem zero_rel {r : Ren} {z : Value} (h : z.cells.toList.all plain = true) (i : Nat) : VR r (z.cells.toList.getD i undef) (z.cells.getD i undef) := by
  rw [toList_getD]
  by_cases hi : i < z.cells.size
  · simp only [List.all_eq_true] at h
    exact VR.of_plain (h _ (by simp [Array.getD, hi]))
  · simpa [Array.getD, hi] using VR.und
theorem VR.agg_of {r : Ren} {l : List Value} {c : Array Value} (hs : c.size = l.length) (h : ∀ i, VR r (l.getD i undef) (c.getD i undef)) : VR r (.agg l.toArray) (.agg c) :=
  .agg (by simp [hs]) fun i => by
    have := h i
    rw [← toList_getD l.toArray]
    exact this
theorem mapM_places (fields : Array Field) (h : ∀ fl ∈ fields.toList, (P.info? fl.type).isSome) (w : World) :
    ∃ places : Array (Nat × Nat), (fields.mapM (m := Sem) fun (fl : Field) => do pure (fl.offset, ← sizeOf fl.type)).run P w = .ok places w ∧ ∀ i, places[i]? = structPlace P fields i := by
  have key : ∀ (l : List Field), (∀ fl ∈ l, (P.info? fl.type).isSome) → ∃ pl : List (Nat × Nat), (l.mapM (m := Sem) fun (fl : Field) => do pure (fl.offset, ← sizeOf fl.type)).run P w = .ok pl w ∧ ∀ i : Nat, pl[i]? = (l[i]?).bind fun (fl : Field) => (P.info? fl.type).map fun ti => (fl.offset, ti.size) := by
    intro l
    induction l with
    | nil => intro _; exact ⟨[], rfl, fun i => by simp⟩
    | cons fl l ih =>
      intro hl
      obtain ⟨pl, hrun, hpl⟩ := ih (fun x hx => hl x (by simp [hx]))
      obtain ⟨ti, hti⟩ := Option.isSome_iff_exists.1 (hl fl (by simp))
      refine ⟨(fl.offset, ti.size) :: pl, ?_, fun i => ?_⟩
      · simp only [List.mapM_cons, Sem.run_bind, size_of hti, Result.andThen_ok, Sem.run_pure, hrun]
      · cases i with
        | zero => simp [hti]
        | succ i => simpa using hpl i
  obtain ⟨pl, hrun, hpl⟩ := key fields.toList h
  refine ⟨pl.toArray, ?_, fun i => ?_⟩
  · rw [Array.mapM_eq_mapM_toList, Sem.run_map, hrun]
    rfl
  · simp only [List.getElem?_toArray, hpl i, structPlace]
    cases hf : fields[i]? with
    | none => simp [hf]
    | some fl => simp [hf]
theorem sound_build {t : TypeId} {parts : Array (Nat × Operand)} (h : resolveOp P (.build t parts) = some rop) (hv : rop.vc P f m K) : Sound P ⟨d, .build t parts, ty, pos, af, gd⟩ f m K := by
  simp only [resolveOp, Option.bind_eq_bind, Option.bind_eq_some_iff] at h
  obtain ⟨⟨i, z⟩, hz, h⟩ := h
  obtain ⟨h1, h2, h3⟩ := zeroOf_spec hz
  have hzr : ∀ w, (zeroValue t).run P w = .ok z w := fun w => by simp [zeroValue, typeInfo, h1, h2]
  have hparts : ∀ (a : Act), (parts.map fun (x : Nat × Operand) => (x.1, a.eval x.2)).toList = parts.toList.map fun p => (p.1, a.eval p.2) := fun a => by simp
  have done : ∀ {place rp}, resolveParts place parts.toList = some rp → (ROp.build z.cells.toList rp).vc P f m K → (∀ (w : World) (c2 : Array Value) (a : Act), Instr.fill place z.cells (parts.toList.map fun p => (p.1, a.eval p.2)) = some c2 →
      (Instr.build t (parts.map fun (x : Nat × Operand) => (x.1, a.eval x.2))).run P w = .ok (.agg c2) w) → Sound P ⟨d, .build t parts, ty, pos, af, gd⟩ f m K := by
    intro place rp hrp hv hrun
    simp only [ROp.vc] at hv
    split at hv
    · rename_i l hl
      refine .plain hv fun r w a hm ht => ?_
      obtain ⟨hlen, hp⟩ := resolveParts_spec (a := a) (r := r) hrp (fun p hp t e => ht t (by
        simp only [Op.operands, List.mem_toArray, List.mem_map]
        exact ⟨p, hp, e⟩))
      obtain ⟨c2, hc, hs2, _, hv2⟩ := fill_ok (r := r) (f := f) (place := place) rp _ z.cells.toList z.cells hlen hp (by simp) (fun i => zero_rel h3 i) hl
      exact ⟨.agg c2, by simp only [execOp, Sem.run_bind, hrun w c2 a hc, Result.andThen_ok, Sem.run_pure], VR.agg_of hs2 hv2⟩
    · cases hv
  split at h
  · rename_i fields hf
    split at h
    · rename_i hall
      simp only [Option.bind_eq_some_iff, Option.some.injEq] at h
      obtain ⟨rp, hrp, rfl⟩ := h
      refine done hrp hv fun w c2 a hc => ?_
      obtain ⟨places, hpl, hpe⟩ := mapM_places (P := P) fields (by rw [List.all_eq_true] at hall; exact hall) w
      have hpe' : (fun i => places[i]?) = structPlace P fields := funext hpe
      simp only [Instr.build, Sem.run_bind, hzr, Result.andThen_ok, run_underlying hf, hpl, hpe', hparts, hc, Sem.run_pure]
    · cases h
  · rename_i n e hf
    simp only [Option.bind_eq_some_iff, Option.some.injEq] at h
    obtain ⟨ti, hti, rp, hrp, rfl⟩ := h
    refine done hrp hv fun w c2 a hc => ?_
    simp only [Instr.build, Sem.run_bind, hzr, Result.andThen_ok, run_underlying hf, size_of hti, hparts, hc, Sem.run_pure]
  · cases h
theorem sound_buildSlice {t : TypeId} {len : Nat} {parts : Array (Nat × Operand)} (h : resolveOp P (.buildSlice t len parts) = some rop) (hv : rop.vc P f m K) (hwf : m.bar ≤ m.next) : Sound P ⟨d, .buildSlice t len parts, ty, pos, af, gd⟩ f m K := by
  simp only [resolveOp] at h
  split at h
  · rename_i e he
    simp only [Option.bind_eq_bind, Option.bind_eq_some_iff] at h
    obtain ⟨⟨i, z⟩, hz, h⟩ := h
    obtain ⟨h1, h2, h3⟩ := zeroOf_spec hz
    split at h
    · rename_i hc
      have hc : z.cells.size = i.size ∧ 0 < i.size ∧ len * i.size ≤ 16777216 := hc
      simp only [Option.bind_eq_some_iff, Option.some.injEq] at h
      obtain ⟨rp, hrp, rfl⟩ := h
      simp only [ROp.vc] at hv
      split at hv
      · rename_i l hl
        refine .step hv (MExt.add hwf _) (fun a => Instr.buildSlice t len (parts.map fun (x : Nat × Operand) => (x.1, a.eval x.2))) (fun _ => rfl) fun r w a hm ht => ?_
        obtain ⟨hlen, hp⟩ := resolveParts_spec (a := a) (r := r) hrp (fun p hp t e => ht t (by
          simp only [Op.operands, List.mem_toArray, List.mem_map]
          exact ⟨p, hp, e⟩))
        let zero : Array Value := if len * i.size = 0 then #[] else z.cells
        have hz0 : 0 < z.cells.size := by omega
        have hcell : ∀ j, VR r (((List.range (len * i.size)).map fun j => z.cells.toList.getD (j % z.cells.toList.length) undef).getD j undef) (((Array.range (len * i.size)).map (zero[· % zero.size]!)).getD j undef) := by
          intro j
          by_cases hj : j < len * i.size
          · have hzz : zero = z.cells := by simp only [zero]; rw [if_neg (by omega)]
            have hlt : j % z.cells.size < z.cells.size := Nat.mod_lt _ hz0
            have e1 : ((List.range (len * i.size)).map fun j => z.cells.toList.getD (j % z.cells.toList.length) undef).getD j undef = z.cells.toList.getD (j % z.cells.toList.length) undef := by
              simp [List.getD_eq_getElem?_getD, hj]
            have e2 : ((Array.range (len * i.size)).map (zero[· % zero.size]!)).getD j undef = z.cells.getD (j % z.cells.size) undef := by
              simp [Array.getD, hj, hzz, hlt]
            rw [e1, e2]
            have := zero_rel (r := r) h3 (j % z.cells.size)
            simpa using this
          · have e2 : ((Array.range (len * i.size)).map (zero[· % zero.size]!)).getD j undef = undef := by simp [Array.getD, hj]
            have e1 : ((List.range (len * i.size)).map fun j => z.cells.toList.getD (j % z.cells.toList.length) undef).getD j undef = undef := by
              simp [List.getD_eq_getElem?_getD, hj]
            rw [e1, e2]
            exact .und
        obtain ⟨c2, hfill, hs2, hl2, hv2⟩ := fill_ok (r := r) (f := f) (place := fun k => some (k * i.size, i.size)) rp _ _ ((Array.range (len * i.size)).map (zero[· % zero.size]!)) hlen hp (by simp) hcell hl
        obtain ⟨r', w', hrun, g1, g2, g3⟩ := newRow_step (P := P) hm e l c2 (by omega) (fun j _ => hv2 j)
        have hparts : (parts.map fun (x : Nat × Operand) => (x.1, a.eval x.2)).toList = parts.toList.map fun p => (p.1, a.eval p.2) := by simp
        refine ⟨r', .slice (some ⟨w.heap.size, 0, none⟩) len len, w', ?_, VR.new_slice g3, g1, g2⟩
        by_cases hn0 : len * i.size = 0
        · have hzz : zero = #[] := by simp [zero, hn0]
          rw [hzz] at hfill
          rw [hn0] at hfill
          simp at hfill
          simp [Instr.buildSlice, run_underlying he, sizeOf, typeInfo, h1, hn0, hfill, hrun]
        · have hzz : zero = z.cells := by simp [zero, hn0]
          rw [hzz] at hfill
          have hbig' : ¬ (16777216 < len * i.size) := by omega
          simp [Instr.buildSlice, run_underlying he, sizeOf, typeInfo, zeroValue, h1, h2, hn0, hbig', hfill, hrun]
      · cases hv
    · cases h
  · cases h
end
end Go.Ga

namespace Go.Ga
open Go
section
variable {P : Program} {f : Regs} {m : Mem} {K : Value → Mem → Prop}
variable {d : Option Tmp} {ty : TypeId} {pos : String} {af : Array Edge} {gd : Option (Nat × Bool)} {rop : ROp}
theorem sound_load {t : TypeId} {x : Operand} (h : resolveOp P (.load t x) = some rop) (hv : rop.vc P f m K) : Sound P ⟨d, .load t x, ty, pos, af, gd⟩ f m K := by
  simp only [resolveOp] at h
  split at h
  · rename_i dd hd
    split at h
    · rename_i hagg
      simp only [Option.bind_eq_bind, Option.bind_eq_some_iff, Option.some.injEq] at h
      obtain ⟨i, hi, rv, hr, rfl⟩ := h
      simp only [ROp.vc] at hv
      split at hv
      · rename_i a0 ha0
        split at hv
        · rename_i l ro hg
          refine .step hv.2 (MExt.refl m) (fun a => Instr.loadAt t (a.eval x)) (fun _ => rfl) fun r w a hm ht => ?_
          have hx := rvR hr (by simp [Op.operands]) ht
          rw [ha0] at hx
          exact loadN_ok hm hd (by cases dd <;> simp_all [aggD]) hi hx hg hv.1
        · cases hv
      · cases hv
    · rename_i hagg
      simp only [Option.bind_eq_bind, Option.bind_eq_some_iff, Option.some.injEq] at h
      obtain ⟨rv, hr, rfl⟩ := h
      simp only [ROp.vc] at hv
      split at hv
      · rename_i a0 ha0
        split at hv
        · rename_i l ro hg
          refine .step hv.2 (MExt.refl m) (fun a => Instr.loadAt t (a.eval x)) (fun _ => rfl) fun r w a hm ht => ?_
          have hx := rvR hr (by simp [Op.operands]) ht
          rw [ha0] at hx
          exact load1_ok hm hd (by cases dd <;> simp_all [aggD]) hx hg hv.1
        · cases hv
      · cases hv
  · cases h
theorem sound_store {t : TypeId} {x y : Operand} (h : resolveOp P (.store t x y) = some rop) (hv : rop.vc P f m K) : Sound P ⟨d, .store t x y, ty, pos, af, gd⟩ f m K := by
  simp only [resolveOp, Option.bind_eq_bind, Option.bind_eq_some_iff, Option.some.injEq] at h
  obtain ⟨i, hi, rx, hx, ry, hy, rfl⟩ := h
  simp only [ROp.vc] at hv
  split at hv
  · rename_i a0 ha0
    split at hv
    · rename_i l hl
      obtain ⟨hlen, hv⟩ := hv
      obtain ⟨l0, hg, hbar, hk, h1, hK⟩ := writeK_elim hv
      refine ⟨undef, _, OpEv.of_unit (MExt.put hbar _) (s := fun a => Instr.storeAt t (a.eval x) (a.eval y)) (fun _ => rfl) fun r w a hm ht => ?_, hK⟩
      have h2 := rvR hx (by simp [Op.operands]) ht
      have h3 := rvR hy (by simp [Op.operands]) ht
      rw [ha0] at h2
      exact store_ok hm hi h2 h3 hl hlen hg hbar hk h1
    · cases hv
  · cases hv
theorem sound_chk {x : Operand} (h : resolveOp P (.nilCheck x) = some rop) (hv : rop.vc P f m K) : Sound P ⟨d, .nilCheck x, ty, pos, af, gd⟩ f m K := by
  simp only [resolveOp, Option.bind_eq_bind, Option.bind_eq_some_iff, Option.some.injEq] at h
  obtain ⟨rv, hr, rfl⟩ := h
  simp only [ROp.vc] at hv
  split at hv
  · rename_i a0 ha0
    refine .plain hv fun r w a hm ht => ?_
    have hx := rvR hr (by simp [Op.operands]) ht
    rw [ha0] at hx
    obtain ⟨a', he, _⟩ := hx.addr
    rw [he] at hx
    exact ⟨_, by simp [execOp, he], hx⟩
  · rename_i g fs cs ha0
    refine .plain hv fun r w a hm ht => ?_
    have hx := rvR hr (by simp [Op.operands]) ht
    rw [ha0] at hx
    cases he : a.eval x <;> rw [he] at hx <;> cases hx
    rename_i cs' hs hv'
    exact ⟨_, by simp [execOp, he], .func _ hs hv'⟩
  · cases hv
def guardFree : Value → Bool
  | .nilIface | .agg _ => false
  | _ => true
theorem eqGuard_free {op : BinOp} {t : TypeId} {x y : Operand} {a b : Value} (h : guardFree a = true) (w : World) : (eqGuard op t x y a b).run P w = .ok () w := by
  cases op <;> first
    | rfl
    | (cases a <;> first
        | rfl
        | simp [guardFree] at h)
theorem binK_free {op : BinOp} {x y : Value} {K : Value → Prop} (h : binK op x y K) : guardFree x = true := by
  unfold binK at h
  split at h
  · rfl
  · rfl
  · cases h
theorem equal_bool {t : TypeId} (ht : P.underlying t = some .bool) (a b : Bool) (w : World) : (Op.equal t (.bool a) (.bool b)).run P w = .ok (a == b) w := by
  have h : ∀ dp, (Op.equalIn (dp + 1) t (.bool a) (.bool b)).run P w = .ok (a == b) w := fun dp => by simp [Op.equalIn, run_underlying ht]
  exact h 9999
def nilV : NilK → Value
  | .ptr => .pointer none
  | .sl => .slice none 0 0
  | .mp => .map none
  | .fn => .nilFunc
  | .ifc => .nilIface
theorem equal_nil {t : TypeId} {dd : TypeDesc} {nk : NilK} (ht : P.underlying t = some dd) (hk : nilKind dd = some nk) {v : Value} {b : Bool} (hb : isNilV nk v = some b) (w : World) :
    (Op.equal t v (nilV nk)).run P w = .ok b w ∧ (Op.equal t (nilV nk) v).run P w = .ok b w := by
  have h : ∀ dp, (Op.equalIn (dp + 1) t v (nilV nk)).run P w = .ok b w ∧ (Op.equalIn (dp + 1) t (nilV nk) v).run P w = .ok b w := by
    intro dp
    cases nk <;> cases dd <;> simp only [nilKind, Option.some.injEq, reduceCtorEq] at hk
    · cases v <;> simp only [isNilV, Option.some.injEq, reduceCtorEq] at hb
      rename_i a0
      subst hb
      cases a0 <;> simp [Op.equalIn, run_underlying ht, nilV]
    · cases v <;> simp only [isNilV, Option.some.injEq, reduceCtorEq] at hb
      rename_i a0 _ _
      subst hb
      cases a0 <;> simp [Op.equalIn, run_underlying ht, nilV]
    · cases v <;> simp only [isNilV, Option.some.injEq, reduceCtorEq] at hb
      rename_i a0
      subst hb
      cases a0 <;> simp [Op.equalIn, run_underlying ht, nilV]
    · cases v <;> simp only [isNilV, Option.some.injEq, reduceCtorEq] at hb <;> subst hb <;> simp [Op.equalIn, run_underlying ht, nilV]
    · cases v <;> simp only [isNilV, Option.some.injEq, reduceCtorEq] at hb <;> subst hb <;> simp [Op.equalIn, run_underlying ht, nilV]
  exact h 9999
theorem binOp_eq_nil {t : TypeId} {nk : NilK} {v : Value} {b : Bool} (hb : isNilV nk v = some b) {u u' : Value} (hu : (u = v ∧ u' = nilV nk) ∨ (u = nilV nk ∧ u' = v)) {w : World} (he : (Op.equal t u u').run P w = .ok b w) (neg : Bool) :
    (binOp (if neg then .neq else .eql) t u u').run P w = .ok (.bool (if neg then !b else b)) w := by
  rcases hu with ⟨h1, h2⟩ | ⟨h1, h2⟩ <;> rw [h1, h2] at he ⊢ <;> clear h1 h2 <;> cases nk <;> cases v <;> simp only [isNilV, Option.some.injEq, reduceCtorEq] at hb <;> cases neg <;> simp only [nilV] at he ⊢ <;> simp [binOp, he]
theorem eqGuard_nil {op : BinOp} {t : TypeId} {nk : NilK} {v : Value} {b : Bool} (hb : isNilV nk v = some b) {x y : Operand} {u u' : Value} (hu : (u = v ∧ u' = nilV nk ∧ y = .const (nilV nk)) ∨ (u = nilV nk ∧ u' = v ∧ x = .const (nilV nk))) (w : World) :
    (eqGuard op t x y u u').run P w = .ok () w := by
  rcases hu with ⟨h1, h2, h3⟩ | ⟨h1, h2, h3⟩ <;> rw [h1, h2, h3] <;> clear h1 h2 h3 <;> cases nk <;> cases v <;> simp only [isNilV, Option.some.injEq, reduceCtorEq] at hb <;> first
    | exact eqGuard_free rfl w
    | (cases op <;> first | rfl | simp [eqGuard, nilV])
theorem isNilC_spec {nk : NilK} {c : Operand} (h : isNilC nk c = true) : c = .const (nilV nk) := by
  unfold isNilC at h
  split at h <;> first | rfl | cases h
theorem sound_bin {op : BinOp} {t yt : TypeId} {x y : Operand} (h : resolveOp P (.binOp op t x y yt) = some rop) (hv : rop.vc P f m K) : Sound P ⟨d, .binOp op t x y yt, ty, pos, af, gd⟩ f m K := by
  have nbin : ∀ {op t x y yt}, (resolveOp P (.binOp op t x y yt) = some rop) → resolveBin P op t x y = some rop := fun h => h
  have h := nbin h
  have mx : x ∈ (Op.binOp op t x y yt).operands := by simp [Op.operands]
  have my : y ∈ (Op.binOp op t x y yt).operands := by simp [Op.operands]
  -- numbers, strings
  have plainBin : ∀ rx ry, resolveRv x = some rx → resolveRv y = some ry → (ROp.bin op rx ry).vc P f m K → Sound P ⟨d, .binOp op t x y yt, ty, pos, af, gd⟩ f m K := by
    intro rx ry hx hy hv
    have hv : binK op (rx.ev f) (ry.ev f) fun v => K v m := hv
    obtain ⟨p1, p2, v, hK, hp, hrun⟩ := binK_ok (P := P) hv t
    refine .plain hK fun r w a hm ht => ⟨v, ?_, VR.of_plain hp⟩
    have e1 := (rvR hx mx ht).eq_of_plain p1
    have e2 := (rvR hy my ht).eq_of_plain p2
    have hg : (eqGuard op t x y (rx.ev f) (ry.ev f)).run P w = .ok () w := eqGuard_free (binK_free hv) w
    simp only [execOp, e1, e2, Sem.run_bind, hg, Result.andThen_ok, hrun, Sem.run_pure]
  have eqb : ∀ neg rx ry, op = (if neg then .neq else .eql) → P.underlying t = some .bool → resolveRv x = some rx → resolveRv y = some ry → (ROp.eqB neg rx ry).vc P f m K → Sound P ⟨d, .binOp op t x y yt, ty, pos, af, gd⟩ f m K := by
    intro neg rx ry hop ht0 hx hy hv
    simp only [ROp.vc] at hv
    split at hv
    · rename_i b1 b2 h1 h2
      refine .plain hv fun r w a hm ht => ⟨_, ?_, .bool _⟩
      have e1 := (rvR hx mx ht).eq_of_plain (by rw [h1]; rfl)
      have e2 := (rvR hy my ht).eq_of_plain (by rw [h2]; rfl)
      rw [h1] at e1
      rw [h2] at e2
      have hg : (eqGuard op t x y (.bool b1) (.bool b2)).run P w = .ok () w := eqGuard_free rfl w
      have heq := equal_bool (P := P) ht0 b1 b2 w
      cases neg <;> subst hop <;> simp only [Bool.false_eq_true, if_false, if_true] at hg ⊢ <;> simp [execOp, e1, e2, hg, binOp, heq]
    · cases hv
  have eqa : ∀ rx ry, resolveRv x = some rx → resolveRv y = some ry → (ROp.eqA op t rx ry).vc P f m K → Sound P ⟨d, .binOp op t x y yt, ty, pos, af, gd⟩ f m K := by
    intro rx ry hx hy hv
    simp only [ROp.vc] at hv
    split at hv
    · rename_i xs ys h1 h2
      obtain ⟨p1, p2, hv⟩ := hv
      split at hv
      · rename_i b hb
        refine .plain hv fun r w a hm ht => ⟨_, ?_, .bool _⟩
        have e1 := rvR hx mx ht
        have e2 := rvR hy my ht
        rw [h1] at e1
        rw [h2] at e2
        have e1 := e1.eq_of_plains p1
        have e2 := e2.eq_of_plains p2
        have := pureRun_ok hb w
        simp only [execOp, e1, e2]
        have he : ∀ (x y : Operand), eqGuard op t x y (.agg xs) (.agg ys) = eqGuard op t (.tmp 0) (.tmp 0) (.agg xs) (.agg ys) := fun _ _ => rfl
        rw [he x y]
        simp only [Sem.run_bind] at this ⊢
        rw [this]
        rfl
      · cases hv
    · cases hv
  have eqn : ∀ nk neg rx (u c : Operand) (dd : TypeDesc), op = (if neg then .neq else .eql) → P.underlying t = some dd → nilKind dd = some nk → resolveRv u = some rx → isNilC nk c = true →
      ((x = u ∧ y = c) ∨ (x = c ∧ y = u)) → (ROp.eqN nk neg rx).vc P f m K → Sound P ⟨d, .binOp op t x y yt, ty, pos, af, gd⟩ f m K := by
    intro nk neg rx u c dd hop hdd hnk hu hc hxy hv
    simp only [ROp.vc] at hv
    split at hv
    · rename_i b hb
      refine .plain hv fun r w a hm ht => ⟨_, ?_, .bool _⟩
      have hrel : VR r (rx.ev f) (a.eval u) := by
        rcases hxy with ⟨rfl, _⟩ | ⟨_, rfl⟩
        · exact rvR hu mx ht
        · exact rvR hu my ht
      have hb' := isNil_rel hrel hb
      clear hrel hb hv
      have hc := isNilC_spec hc
      obtain ⟨q1, q2⟩ := equal_nil (P := P) hdd hnk hb' w
      subst hop
      rcases hxy with ⟨rfl, rfl⟩ | ⟨rfl, rfl⟩
      · have hcv : a.eval y = nilV nk := by rw [hc]; rfl
        have g1 : (eqGuard (if neg then .neq else .eql) t x y (a.eval x) (a.eval y)).run P w = .ok () w := eqGuard_nil hb' (.inl ⟨rfl, hcv, hc⟩) w
        have g2 := binOp_eq_nil (P := P) (t := t) (w := w) hb' (u := a.eval x) (u' := a.eval y) (.inl ⟨rfl, hcv⟩) (by rw [hcv]; exact q1) neg
        simp only [execOp, Sem.run_bind, g1, g2, Result.andThen_ok, Sem.run_pure]
      · have hcv : a.eval x = nilV nk := by rw [hc]; rfl
        have g1 : (eqGuard (if neg then .neq else .eql) t x y (a.eval x) (a.eval y)).run P w = .ok () w := eqGuard_nil hb' (.inr ⟨hcv, rfl, hc⟩) w
        have g2 := binOp_eq_nil (P := P) (t := t) (w := w) hb' (u := a.eval x) (u' := a.eval y) (.inr ⟨hcv, rfl⟩) (by rw [hcv]; exact q2) neg
        simp only [execOp, Sem.run_bind, g1, g2, Result.andThen_ok, Sem.run_pure]
    · cases hv
  clear nbin
  unfold resolveBin at h
  split at h
  · simp only [Option.bind_eq_bind, Option.bind_eq_some_iff, Option.some.injEq] at h
    obtain ⟨rx, hx, ry, hy, rfl⟩ := h
    exact eqb false rx ry rfl (by assumption) hx hy hv
  · simp only [Option.bind_eq_bind, Option.bind_eq_some_iff, Option.some.injEq] at h
    obtain ⟨rx, hx, ry, hy, rfl⟩ := h
    exact eqb true rx ry rfl (by assumption) hx hy hv
  iterate 4
    · simp only [Option.bind_eq_bind, Option.bind_eq_some_iff, Option.some.injEq] at h
      obtain ⟨rx, hx, ry, hy, rfl⟩ := h
      exact eqa rx ry hx hy hv
  · split at h
    · rename_i nk hnk
      split at h
      · rename_i hc
        simp only [Option.bind_eq_bind, Option.bind_eq_some_iff, Option.some.injEq] at h
        obtain ⟨rx, hx, rfl⟩ := h
        exact eqn nk false rx x y _ rfl (by assumption) hnk hx hc (.inl ⟨rfl, rfl⟩) hv
      · split at h
        · rename_i hc
          simp only [Option.bind_eq_bind, Option.bind_eq_some_iff, Option.some.injEq] at h
          obtain ⟨rx, hx, rfl⟩ := h
          exact eqn nk false rx y x _ rfl (by assumption) hnk hx hc (.inr ⟨rfl, rfl⟩) hv
        · cases h
    · simp only [Option.bind_eq_bind, Option.bind_eq_some_iff, Option.some.injEq] at h
      obtain ⟨rx, hx, ry, hy, rfl⟩ := h
      exact plainBin rx ry hx hy hv
  · split at h
    · rename_i nk hnk
      split at h
      · rename_i hc
        simp only [Option.bind_eq_bind, Option.bind_eq_some_iff, Option.some.injEq] at h
        obtain ⟨rx, hx, rfl⟩ := h
        exact eqn nk true rx x y _ rfl (by assumption) hnk hx hc (.inl ⟨rfl, rfl⟩) hv
      · split at h
        · rename_i hc
          simp only [Option.bind_eq_bind, Option.bind_eq_some_iff, Option.some.injEq] at h
          obtain ⟨rx, hx, rfl⟩ := h
          exact eqn nk true rx y x _ rfl (by assumption) hnk hx hc (.inr ⟨rfl, rfl⟩) hv
        · cases h
    · simp only [Option.bind_eq_bind, Option.bind_eq_some_iff, Option.some.injEq] at h
      obtain ⟨rx, hx, ry, hy, rfl⟩ := h
      exact plainBin rx ry hx hy hv
  · simp only [Option.bind_eq_bind, Option.bind_eq_some_iff, Option.some.injEq] at h
    obtain ⟨rx, hx, ry, hy, rfl⟩ := h
    exact plainBin rx ry hx hy hv
  · cases h
end
end Go.Ga

namespace Go.Ga
open Go
section
variable {P : Program} {f : Regs} {m : Mem} {K : Value → Mem → Prop}
variable {d : Option Tmp} {ty : TypeId} {pos : String} {af : Array Edge} {gd : Option (Nat × Bool)} {rop : ROp}
theorem sound_un {op : UnOp} {t : TypeId} {x : Operand} (h : resolveOp P (.unOp op t x) = some rop) (hv : rop.vc P f m K) : Sound P ⟨d, .unOp op t x, ty, pos, af, gd⟩ f m K := by
  simp only [resolveOp, Option.bind_eq_bind, Option.bind_eq_some_iff, Option.some.injEq] at h
  obtain ⟨rx, hx, rfl⟩ := h
  have hv : unK op (rx.ev f) fun v => K v m := hv
  obtain ⟨p1, v, hK, hp, hrun⟩ := unK_ok (P := P) hv
  refine .plain hK fun r w a hm ht => ⟨v, ?_, VR.of_plain hp⟩
  have e1 := (rvR hx (by simp [Op.operands]) ht).eq_of_plain p1
  simp only [execOp, e1, Sem.run_bind, hrun, Result.andThen_ok, Sem.run_pure]
theorem isU8_spec {o : Option TypeDesc} (h : isU8 o = true) : o = some (.int .u8) := by
  unfold isU8 at h
  split at h
  · rfl
  · cases h
theorem sound_conv {s t : TypeId} {x : Operand} (h : resolveOp P (.convert s t x) = some rop) (hv : rop.vc P f m K) (hwf : m.bar ≤ m.next) : Sound P ⟨d, .convert s t x, ty, pos, af, gd⟩ f m K := by
  replace h : resolveConv P s t x = some rop := h
  have mx : x ∈ (Op.convert s t x).operands := by simp [Op.operands]
  unfold resolveConv at h
  split at h
  · rename_i k1 k hs hd
    simp only [Option.bind_eq_bind, Option.bind_eq_some_iff, Option.some.injEq] at h
    obtain ⟨rx, hx, rfl⟩ := h
    simp only [ROp.vc] at hv
    split at hv
    · rename_i k2 n he
      refine .plain hv fun r w a hm ht => ⟨_, ?_, .int _ _⟩
      have e1 := rvR hx mx ht
      rw [he] at e1
      have e1 := e1.int_inv
      simp [execOp, e1, convert, run_underlying hs, run_underlying hd, Conv.intToInt]
    · cases hv
  · rename_i hs hd
    simp only [Option.bind_eq_bind, Option.bind_eq_some_iff, Option.some.injEq] at h
    obtain ⟨rx, hx, rfl⟩ := h
    simp only [ROp.vc] at hv
    split at hv
    · rename_i n he
      refine .plain hv fun r w a hm ht => ⟨_, ?_, .string _⟩
      have e1 := (rvR hx mx ht).eq_of_plain (by rw [he]; rfl)
      rw [he] at e1
      simp [execOp, e1, convert, run_underlying hs, run_underlying hd]
    · cases hv
  · rename_i e hs hd
    split at h
    · rename_i hu
      have hu := isU8_spec hu
      simp only [Option.bind_eq_bind, Option.bind_eq_some_iff, Option.some.injEq] at h
      obtain ⟨rx, hx, rfl⟩ := h
      simp only [ROp.vc] at hv
      split at hv
      · rename_i n he
        refine .step hv (MExt.add hwf _) (fun a => convert s t (a.eval x)) (fun _ => rfl) fun r w a hm ht => ?_
        have e1 := (rvR hx mx ht).eq_of_plain (by rw [he]; rfl)
        rw [he] at e1
        obtain ⟨r', v', w', h1, h2⟩ := s2b_ok (P := P) hm e n
        refine ⟨r', v', w', ?_, h2⟩
        simp [e1, convert, run_underlying hs, run_underlying hd, run_underlying hu, h1]
      · cases hv
    · cases h
  · rename_i e0 e hs hd
    split at h
    · rename_i hu
      simp only [Bool.and_eq_true, beq_iff_eq] at hu
      obtain ⟨rfl, hu⟩ := hu
      have hu := isU8_spec hu
      rw [hs] at hd
      injection hd with hd
      injection hd with hd
      subst hd
      simp only [Option.bind_eq_bind, Option.bind_eq_some_iff, Option.some.injEq] at h
      obtain ⟨rx, hx, rfl⟩ := h
      simp only [ROp.vc] at hv
      split at hv
      · rename_i a0 n c he
        split at hv
        · rename_i l hg
          obtain ⟨hbar, hc, hv⟩ := hv
          refine .step hv (MExt.refl m) (fun a => convert s s (a.eval x)) (fun _ => rfl) fun r w a hm ht => ?_
          have e1 := rvR hx mx ht
          rw [he] at e1
          obtain ⟨w', a', c', e2, hrun, h1, h2⟩ := cvB_ok (P := P) hm e1 hg hbar hc
          refine ⟨r, .slice (some a') n c', w', ?_, by rw [← e2]; exact e1, h1, h2⟩
          simp [e2, convert, run_underlying hs, run_underlying hu, hrun]
        · cases hv
      · cases hv
    · cases h
  · rename_i e hs hd
    split at h
    · rename_i hu
      have hu := isU8_spec hu
      simp only [Option.bind_eq_bind, Option.bind_eq_some_iff, Option.some.injEq] at h
      obtain ⟨rx, hx, rfl⟩ := h
      simp only [ROp.vc] at hv
      split at hv
      · rename_i A n c he
        split at hv
        · rename_i l hl
          split at hv
          · rename_i bs hb
            refine .plain hv fun r w a hm ht => ⟨_, ?_, .string _⟩
            have e1 := rvR hx mx ht
            rw [he] at e1
            have hrun := b2s_ok (P := P) hm e1 hl hb
            have he2 : (convert s t (a.eval x)).run P w = (Conv.bytesToString (a.eval x)).run P w := by
              generalize a.eval x = v' at e1
              cases e1 <;> exact run_convert_bytes_string w s t e _ _ _ hs hu hd
            simp only [execOp, Sem.run_bind, he2, hrun, Result.andThen_ok, Sem.run_pure]
          · cases hv
        · cases hv
      · cases hv
    · cases h
  · cases h
theorem sound_iface {t : TypeId} {x : Operand} (h : resolveOp P (.makeInterface t x) = some rop) (hv : rop.vc P f m K) : Sound P ⟨d, .makeInterface t x, ty, pos, af, gd⟩ f m K := by
  simp only [resolveOp] at h
  split at h
  · cases h
  · rename_i dd hni hd
    simp only [Option.bind_eq_bind, Option.bind_eq_some_iff, Option.some.injEq] at h
    obtain ⟨rx, hx, rfl⟩ := h
    refine .plain hv fun r w a hm ht => ⟨_, ?_, .iface _ (rvR hx (by simp [Op.operands]) ht)⟩
    cases dd <;> first
      | exact (hni _ rfl).elim
      | simp [execOp, Instr.makeInterface, run_underlying hd]
  · cases h
theorem resolveRvs_spec {a : Act} {r : Ren} : ∀ {xs : List Operand} {rs : List Rv}, resolveRvs xs = some rs → (∀ t, Operand.tmp t ∈ xs → VR r (f t) (a.eval (.tmp t))) →
    rs.length = xs.length ∧ ∀ i, VR r ((rs.map fun x => x.ev f).getD i undef) ((xs.map a.eval).getD i undef)
  | [], rs, h, _ => by
    simp only [resolveRvs, Option.some.injEq] at h
    subst h
    exact ⟨rfl, fun i => by simpa using VR.und⟩
  | x :: xs, rs, h, ht => by
    simp only [resolveRvs] at h
    split at h
    · rename_i r1 rs1 h1 h2
      simp only [Option.some.injEq] at h
      subst h
      obtain ⟨g1, g2⟩ := resolveRvs_spec h2 (fun t hm => ht t (by simp [hm]))
      refine ⟨by simp [g1], fun i => ?_⟩
      cases i with
      | zero => simpa using resolveRv_rel (f := f) (r := r) (a := a) h1 (fun t e => ht t (by simp [e]))
      | succ i => simpa using g2 i
    · cases h
theorem sound_func {fn : Fn} {first caps : Array Operand} (h : resolveOp P (.makeFunc fn first caps) = some rop) (hv : rop.vc P f m K) : Sound P ⟨d, .makeFunc fn first caps, ty, pos, af, gd⟩ f m K := by
  cases fn with
  | func g =>
    simp only [resolveOp] at h
    split at h
    · rename_i hf
      simp only [Option.bind_eq_bind, Option.bind_eq_some_iff, Option.some.injEq] at h
      obtain ⟨rs, hrs, rfl⟩ := h
      have hf : first = #[] := by simpa using hf
      subst hf
      refine .plain hv fun r w a hm ht => ⟨.func (.func g) #[] (caps.map a.eval), by simp [execOp, Instr.makeFunc], ?_⟩
      obtain ⟨g1, g2⟩ := resolveRvs_spec (f := f) (r := r) (a := a) hrs (fun t hm => ht t (by simpa [Op.operands] using hm))
      have hsz : ((rs.map fun x => x.ev f).toArray).size = (caps.map a.eval).size := by simp [g1]
      refine .func _ hsz fun i => ?_
      have := g2 i
      rw [← toList_getD, ← toList_getD]
      have e : (caps.map a.eval).toList = caps.toList.map a.eval := by simp
      rw [e]
      exact this
    · cases h
  | _ => simp [resolveOp] at h
theorem sound_make {t : TypeId} {l c : Operand} (h : resolveOp P (.makeSlice t l c) = some rop) (hv : rop.vc P f m K) (hwf : m.bar ≤ m.next) : Sound P ⟨d, .makeSlice t l c, ty, pos, af, gd⟩ f m K := by
  simp only [resolveOp] at h
  split at h
  · rename_i e he
    simp only [Option.bind_eq_bind, Option.bind_eq_some_iff, Option.some.injEq] at h
    obtain ⟨⟨i, z⟩, hz, rl, hl, rc, hc, rfl⟩ := h
    obtain ⟨h1, h2, h3⟩ := zeroOf_spec hz
    simp only [ROp.vc] at hv
    split at hv
    · rename_i k1 l' k2 c' e1 e2
      obtain ⟨b1, b2, b3, b4, b5, hv⟩ := hv
      refine .step hv (MExt.add hwf _) (fun a => Instr.makeSlice t (a.eval l) (a.eval c)) (fun _ => rfl) fun r w a hm ht => ?_
      have q1 := rvR hl (by simp [Op.operands]) ht
      have q2 := rvR hc (by simp [Op.operands]) ht
      rw [e1] at q1
      rw [e2] at q2
      rw [q1.int_inv, q2.int_inv]
      exact make_ok hm he h1 h2 h3 b1 b2 b3 b4 b5
    · cases hv
  · cases h
theorem resolveO_mapM {o : Option Operand} {ro : Option Rv} (h : resolveO o = some ro) : o.mapM resolveRv = some ro := by
  cases o with
  | none => exact h
  | some x => exact h
theorem sound_slice {t : TypeId} {x : Operand} {lo hi mx : Option Operand} (h : resolveOp P (.slice t x lo hi mx) = some rop) (hv : rop.vc P f m K) : Sound P ⟨d, .slice t x lo hi mx, ty, pos, af, gd⟩ f m K := by
  have ht1 : ∀ {a : Act} {r : Ren}, (∀ t', Operand.tmp t' ∈ (Op.slice t x lo hi mx).operands → VR r (f t') (a.eval (.tmp t'))) → ∀ y t', lo = some y → y = .tmp t' → VR r (f t') (a.eval (.tmp t')) :=
    fun ht y t' e1 e2 => ht t' (by subst e2; simp [Op.operands, e1])
  have ht2 : ∀ {a : Act} {r : Ren}, (∀ t', Operand.tmp t' ∈ (Op.slice t x lo hi mx).operands → VR r (f t') (a.eval (.tmp t'))) → ∀ y t', hi = some y → y = .tmp t' → VR r (f t') (a.eval (.tmp t')) :=
    fun ht y t' e1 e2 => ht t' (by subst e2; simp [Op.operands, e1])
  have ht3 : ∀ {a : Act} {r : Ren}, (∀ t', Operand.tmp t' ∈ (Op.slice t x lo hi mx).operands → VR r (f t') (a.eval (.tmp t'))) → ∀ y t', mx = some y → y = .tmp t' → VR r (f t') (a.eval (.tmp t')) :=
    fun ht y t' e1 e2 => ht t' (by subst e2; simp [Op.operands, e1])
  have hmx : x ∈ (Op.slice t x lo hi mx).operands := by simp [Op.operands]
  simp only [resolveOp] at h
  split at h
  · rename_i hs
    split at h
    · rename_i hmn
      simp only [Option.bind_eq_bind, Option.bind_eq_some_iff, Option.some.injEq] at h
      obtain ⟨rx, hx, rlo, hlo, rhi, hhi, rfl⟩ := h
      have hmn : mx = none := by simpa using hmn
      subst hmn
      simp only [ROp.vc] at hv
      split at hv
      · rename_i s he
        split at hv
        · rename_i H hH
          split at hv
          · rename_i L hL
            obtain ⟨b1, b2, b3, hv⟩ := hv
            refine .plain hv fun r w a hm ht => ⟨_, ?_, .string _⟩
            have e1 := (rvR hx hmx ht).eq_of_plain (by rw [he]; rfl)
            rw [he] at e1
            have hb := bounds_ok (r := r) (f := f) (a := a) (P := P) (isSlice := false) (mx := none) (rmx := none) (n := s.size) (c := s.size) (c' := s.size) (M := s.size) (resolveO_mapM hlo) (resolveO_mapM hhi) rfl (ht1 ht) (ht2 ht) (fun _ _ e => by cases e) (Nat.le_refl _) rfl hH hL b1 b2 b3 (by omega) (by simp) w
            simp only [Option.map_none] at hb
            simp [execOp, e1, Instr.sliceAt, Instr.slice, run_underlying hs, hb]
          · cases hv
        · cases hv
      · cases hv
    · cases h
  · rename_i e hs
    simp only [Option.bind_eq_bind, Option.bind_eq_some_iff, Option.some.injEq] at h
    obtain ⟨i, hi', rx, hx, rlo, hlo, rhi, hhi, rmx, hmx', rfl⟩ := h
    simp only [ROp.vc] at hv
    split at hv
    · rename_i A n c he
      split at hv
      · rename_i M hM
        split at hv
        · rename_i H hH
          split at hv
          · rename_i L hL
            obtain ⟨b1, b2, b3, b4, b5, hv⟩ := hv
            cases A with
            | none =>
              refine .plain hv fun r w a hm ht => ⟨_, ?_, .snil⟩
              have q1 := rvR hx hmx ht
              rw [he] at q1
              obtain ⟨h1, h2, e1⟩ := q1.slice_nil
              subst h1 h2
              have hb := bounds_ok (r := r) (f := f) (a := a) (P := P) (isSlice := true) (n := 0) (c := 0) (c' := 0) (resolveO_mapM hlo) (resolveO_mapM hhi) (resolveO_mapM hmx') (ht1 ht) (ht2 ht) (ht3 ht) (Nat.le_refl _) hM hH hL b1 b2 b3 b4 b5 w
              have z1 : L.toNat = 0 := by omega
              have z2 : H.toNat = 0 := by omega
              have z3 : M.toNat = 0 := by omega
              simp only [z1, z2, z3, ite_self] at hb
              simp only [execOp, e1, Instr.sliceAt, Instr.slice, run_underlying hs, hb, sizeOf, typeInfo, hi', Sem.run_bind, Result.andThen_ok, run_program, Sem.run_pure, Option.map_none, ite_self, Nat.sub_self]
            | some a0 =>
              obtain ⟨hspot, hv⟩ := hv
              refine .step hv (MExt.refl m) (fun a => Instr.sliceAt t (a.eval x) (lo.map a.eval) (hi.map a.eval) (mx.map a.eval)) (fun _ => rfl) fun r w a hm ht => ?_
              have e1 := rvR hx hmx ht
              rw [he] at e1
              obtain ⟨a', c', e1, hnc, hsr⟩ := e1.slice_inv
              have hle := hsr.le
              have hb := bounds_ok (r := r) (f := f) (a := a) (P := P) (isSlice := true) (n := n) (c := c) (c' := c') (resolveO_mapM hlo) (resolveO_mapM hhi) (resolveO_mapM hmx') (ht1 ht) (ht2 ht) (ht3 ht) hle hM hH hL b1 b2 b3 b4 b5 w
              have hM' : rmx = none → M = c := fun h => by subst h; simpa [optIx] using hM.symm
              let m' := if rmx.isSome then M.toNat else c'
              refine .pure hm (v' := .slice (if m' = L.toNat then some a' else some (a'.add (L.toNat * i.size))) (H.toNat - L.toNat) (m' - L.toNat)) ?_ ?_
              · simp only [e1, Instr.sliceAt, Instr.slice, run_underlying hs, hb, sizeOf, typeInfo, hi', Sem.run_bind, Result.andThen_ok, run_program, Sem.run_pure, m', Option.map_some]
              · have hmL : L.toNat ≤ m' := by
                  simp only [m']
                  split
                  · omega
                  · omega
                have hlen : (H - L).toNat = H.toNat - L.toNat := by omega
                have hcap : (M - L).toNat ≤ m' - L.toNat := by
                  simp only [m']
                  split
                  · omega
                  · rename_i hn
                    have := hM' (by simpa using hn)
                    omega
                rw [hlen]
                have key : ∀ b', (m' ≠ L.toNat → b' = a'.add (L.toNat * i.size)) → SR r ⟨a0.block, a0.off + L.toNat * i.size, if rmx.isSome then none else a0.spot⟩ (M - L).toNat b' (m' - L.toNat) := by
                  intro b' hb'
                  refine ⟨hcap, ?_, fun e' he' => ?_, fun hn => ?_⟩
                  · by_cases h0 : m' = L.toNat
                    · left; omega
                    · right
                      rw [hb' h0]
                      have : c' ≠ 0 := by
                        simp only [m'] at h0
                        split at h0 <;> omega
                      exact (hsr.loc.resolve_left this).add _
                  · by_cases hsome : rmx.isSome = true
                    · simp [hsome] at he'
                    · simp only [hsome] at he'
                      have he' : a0.spot = some e' := by simpa using he'
                      have hee : e' = i.size := by
                        rcases hspot with h1 | h1 | h1
                        · exact absurd h1 hsome
                        · rw [he'] at h1; cases h1
                        · rw [he'] at h1; injection h1
                      subst hee
                      have hm' : m' = c' := by simp [m', hsome]
                      rcases hsr.room _ he' with h1 | h1
                      · left; omega
                      · right
                        intro cb base csz hat
                        have := h1 cb base csz hat
                        simp only
                        have h2 : L.toNat * i.size + (m' - L.toNat) * i.size = c' * i.size := by
                          rw [← Nat.add_mul]
                          congr 1
                          omega
                        omega
                  · by_cases hsome : rmx.isSome = true
                    · simp only [m', hsome, if_true]; omega
                    · have := hsr.exact (by simpa [hsome] using hn)
                      have h2 := hM' (by simpa using hsome)
                      simp only [m', hsome]
                      simp only [Bool.false_eq_true, if_false]
                      omega
                have hHm : H.toNat - L.toNat ≤ (M - L).toNat := by omega
                by_cases h0 : m' = L.toNat
                · rw [if_pos h0]
                  exact .slice hHm (key a' (fun h => absurd h0 h))
                · rw [if_neg h0]
                  exact .slice hHm (key _ (fun _ => rfl))
          · cases hv
        · cases hv
      · cases hv
    · cases hv
  · rename_i nn e hs
    simp only [Option.bind_eq_bind, Option.bind_eq_some_iff, Option.some.injEq] at h
    obtain ⟨i, hi', rx, hx, rlo, hlo, rhi, hhi, rmx, hmx', rfl⟩ := h
    simp only [ROp.vc] at hv
    split at hv
    · rename_i a0 he
      split at hv
      · rename_i M hM
        split at hv
        · rename_i H hH
          split at hv
          · rename_i L hL
            obtain ⟨b1, b2, b3, b4, b5, hv⟩ := hv
            refine .step hv (MExt.refl m) (fun a => Instr.sliceAt t (a.eval x) (lo.map a.eval) (hi.map a.eval) (mx.map a.eval)) (fun _ => rfl) fun r w a hm ht => ?_
            have e1 := rvR hx hmx ht
            rw [he] at e1
            obtain ⟨a', e1, ha, hsp⟩ := e1.addr
            have hb := bounds_ok (r := r) (f := f) (a := a) (P := P) (isSlice := false) (n := nn) (c := nn) (c' := nn) (resolveO_mapM hlo) (resolveO_mapM hhi) (resolveO_mapM hmx') (ht1 ht) (ht2 ht) (ht3 ht) (Nat.le_refl _) hM hH hL b1 b2 b3 b4 b5 w
            have hMm : (if rmx.isSome then M.toNat else nn) = M.toNat := by
              split
              · rfl
              · rename_i hn
                have : rmx = none := by simpa using hn
                subst this
                have : M = nn := by simpa [optIx] using hM.symm
                omega
            rw [hMm] at hb
            refine .pure hm (v' := .slice (some (if M.toNat = L.toNat then a' else a'.add (L.toNat * i.size))) (H.toNat - L.toNat) (M.toNat - L.toNat)) ?_ ?_
            · simp only [e1, Instr.sliceAt, Instr.sureAddr, run_underlying hs, hb, sizeOf, typeInfo, hi', Sem.run_bind, Result.andThen_ok, run_program, Sem.run_pure]
            · have hlen : (H - L).toNat = H.toNat - L.toNat := by omega
              have hcap : (M - L).toNat = M.toNat - L.toNat := by omega
              rw [hlen, hcap]
              refine .slice (by omega) ⟨Nat.le_refl _, ?_, fun e' he' => by simp at he', fun _ => rfl⟩
              by_cases h0 : M.toNat = L.toNat
              · left; omega
              · right; rw [if_neg h0]; exact ha.add _
          · cases hv
        · cases hv
      · cases hv
    · cases hv
  · cases h
theorem sound_fieldAddr {s : TypeId} {x : Operand} {k : Nat} (h : resolveOp P (.fieldAddr s x k) = some rop) (hv : rop.vc P f m K) : Sound P ⟨d, .fieldAddr s x k, ty, pos, af, gd⟩ f m K := by
  simp only [resolveOp] at h
  split at h
  · rename_i fields hs
    split at h
    · rename_i fl hfl
      simp only [Option.bind_eq_bind, Option.bind_eq_some_iff] at h
      obtain ⟨i, hi, h⟩ := h
      split at h
      · rename_i hpos
        simp only [Option.bind_eq_some_iff, Option.some.injEq] at h
        obtain ⟨rx, hx, rfl⟩ := h
        simp only [ROp.vc] at hv
        split at hv
        · rename_i a0 he
          refine .plain hv fun r w a hm ht => ?_
          have e1 := rvR hx (by simp [Op.operands]) ht
          rw [he] at e1
          obtain ⟨a', e1, ha, hsp⟩ := e1.addr
          refine ⟨.pointer (some (a'.add fl.offset)), ?_, .ptr rfl (ha.add _)⟩
          have hne : ¬ (i.size = 0) := by omega
          simp [execOp, e1, Instr.fieldAt, run_underlying hs, hfl, Instr.sureAddr, fieldPlace, sizeOf, typeInfo, hi, hne]
        · cases hv
      · cases h
    · cases h
  · cases h
theorem extract_rel {r : Ren} {cs cs' : Array Value} (hs : cs.size = cs'.size) (h : ∀ i, VR r (cs.getD i undef) (cs'.getD i undef)) (o n : Nat) : VR r (.agg (cs.extract o n)) (.agg (cs'.extract o n)) := by
  refine .agg (by simp [hs]) fun i => ?_
  by_cases hi : o + i < n ∧ o + i < cs.size
  · have e1 : (cs.extract o n).getD i undef = cs.getD (o + i) undef := by
      simp only [Array.getD, Array.size_extract]
      rw [dif_pos (by omega), dif_pos hi.2]
      simp
    have e2 : (cs'.extract o n).getD i undef = cs'.getD (o + i) undef := by
      simp only [Array.getD, Array.size_extract]
      rw [dif_pos (by omega), dif_pos (by omega)]
      simp
    rw [e1, e2]
    exact h _
  · have e1 : (cs.extract o n).getD i undef = undef := by
      simp only [Array.getD, Array.size_extract]
      rw [dif_neg (by omega)]
    have e2 : (cs'.extract o n).getD i undef = undef := by
      simp only [Array.getD, Array.size_extract]
      rw [dif_neg (by omega)]
    rw [e1, e2]
    exact .und
theorem VR.agg_inv {r : Ren} {cs : Array Value} {v' : Value} (h : VR r (.agg cs) v') : ∃ cs', v' = .agg cs' ∧ cs.size = cs'.size ∧ ∀ i, VR r (cs.getD i undef) (cs'.getD i undef) := by
  cases h with
  | agg hs h => exact ⟨_, rfl, hs, h⟩
theorem isAgg_run {t : TypeId} {dd : TypeDesc} (h : P.underlying t = some dd) (w : World) : (isAgg t).run P w = .ok (aggD dd) w := by
  cases dd <;> simp [isAgg, run_underlying h, aggD]
theorem sound_field {s : TypeId} {x : Operand} {k : Nat} (h : resolveOp P (.field s x k) = some rop) (hv : rop.vc P f m K) : Sound P ⟨d, .field s x k, ty, pos, af, gd⟩ f m K := by
  simp only [resolveOp] at h
  split at h
  · rename_i fields hs
    split at h
    · rename_i fl hfl
      split at h
      · rename_i dd hd
        split at h
        · rename_i hagg
          simp only [Option.bind_eq_bind, Option.bind_eq_some_iff, Option.some.injEq] at h
          obtain ⟨i, hi, rx, hx, rfl⟩ := h
          simp only [ROp.vc] at hv
          split at hv
          · rename_i cs he
            refine .plain hv fun r w a hm ht => ?_
            have e1 := rvR hx (by simp [Op.operands]) ht
            rw [he] at e1
            obtain ⟨cs', e1, hsz, hvr⟩ := e1.agg_inv
            refine ⟨_, ?_, extract_rel hsz hvr _ _⟩
            simp [execOp, e1, Instr.field, run_underlying hs, hfl, asAgg, part, isAgg_run hd, hagg, sizeOf, typeInfo, hi]
          · cases hv
        · rename_i hagg
          simp only [Option.bind_eq_bind, Option.bind_eq_some_iff, Option.some.injEq] at h
          obtain ⟨rx, hx, rfl⟩ := h
          simp only [ROp.vc] at hv
          split at hv
          · rename_i cs he
            refine .plain hv.2 fun r w a hm ht => ?_
            have e1 := rvR hx (by simp [Op.operands]) ht
            rw [he] at e1
            obtain ⟨cs', e1, hsz, hvr⟩ := e1.agg_inv
            have hlt : fl.offset < cs'.size := by have := hv.1; omega
            obtain ⟨u, hu, hur⟩ : ∃ u, cs'[fl.offset]? = some u ∧ VR r (cs.getD fl.offset undef) u := ⟨_, getD_eq_some hlt, hvr _⟩
            refine ⟨u, ?_, hur⟩
            simp [execOp, e1, Instr.field, run_underlying hs, hfl, asAgg, part, isAgg_run hd, hagg, hu]
          · cases hv
      · cases h
    · cases h
  · cases h
theorem sound_indexAddr {t : TypeId} {x ix : Operand} (h : resolveOp P (.indexAddr t x ix) = some rop) (hv : rop.vc P f m K) : Sound P ⟨d, .indexAddr t x ix, ty, pos, af, gd⟩ f m K := by
  simp only [resolveOp] at h
  split at h
  · rename_i e hs
    simp only [Option.bind_eq_bind, Option.bind_eq_some_iff, Option.some.injEq] at h
    obtain ⟨i, hi, rx, hx, ri, hri, rfl⟩ := h
    simp only [ROp.vc] at hv
    split at hv
    · rename_i a0 n c k j he hie
      obtain ⟨b1, b2, hv⟩ := hv
      refine .plain hv fun r w a hm ht => ?_
      have e1 := rvR hx (by simp [Op.operands]) ht
      have e2 := rvR hri (by simp [Op.operands]) ht
      rw [he] at e1
      rw [hie] at e2
      have e2 := e2.int_inv
      obtain ⟨a', c', e1, hnc, hsr⟩ := e1.slice_inv
      have ha : AR r a0.block a0.off a' := hsr.loc.resolve_left (by have := hsr.le; omega)
      refine ⟨.pointer (some (a'.add (j.toNat * i.size))), ?_, .ptr rfl (ha.add _)⟩
      simp [execOp, e1, e2, Instr.indexAt, asIntOf, run_underlying hs, sizeOf, typeInfo, hi, b1, b2]
    · cases hv
  · rename_i nn e hs
    simp only [Option.bind_eq_bind, Option.bind_eq_some_iff, Option.some.injEq] at h
    obtain ⟨i, hi, rx, hx, ri, hri, rfl⟩ := h
    simp only [ROp.vc] at hv
    split at hv
    · rename_i a0 k j he hie
      obtain ⟨b1, b2, hv⟩ := hv
      refine .plain hv fun r w a hm ht => ?_
      have e1 := rvR hx (by simp [Op.operands]) ht
      have e2 := rvR hri (by simp [Op.operands]) ht
      rw [he] at e1
      rw [hie] at e2
      have e2 := e2.int_inv
      obtain ⟨a', e1, ha, hsp⟩ := e1.addr
      refine ⟨.pointer (some (a'.add (j.toNat * i.size))), ?_, .ptr rfl (ha.add _)⟩
      simp [execOp, e1, e2, Instr.indexAt, Instr.sureAddr, asIntOf, run_underlying hs, sizeOf, typeInfo, hi, b1, b2]
    · cases hv
  · cases h
theorem sound_index {t : TypeId} {x ix : Operand} (h : resolveOp P (.index t x ix) = some rop) (hv : rop.vc P f m K) : Sound P ⟨d, .index t x ix, ty, pos, af, gd⟩ f m K := by
  simp only [resolveOp] at h
  split at h
  · rename_i hs
    simp only [Option.bind_eq_bind, Option.bind_eq_some_iff, Option.some.injEq] at h
    obtain ⟨rx, hx, ri, hri, rfl⟩ := h
    simp only [ROp.vc] at hv
    split at hv
    · rename_i s k j he hie
      obtain ⟨b1, b2, hv⟩ := hv
      refine .plain hv fun r w a hm ht => ⟨_, ?_, .int _ _⟩
      have e1 := (rvR hx (by simp [Op.operands]) ht).eq_of_plain (by rw [he]; rfl)
      have e2 := rvR hri (by simp [Op.operands]) ht
      rw [he] at e1
      rw [hie] at e2
      have e2 := e2.int_inv
      have hlt : j.toNat < s.size := by omega
      have hget : s[j.toNat]? = some (s.data.toList.getD j.toNat 0) := by
        have hlt' : j.toNat < s.data.toList.length := by simpa using hlt
        simp only [List.getD_eq_getElem?_getD, List.getElem?_eq_getElem hlt', Option.getD_some]
        simp [hlt]
        rfl
      simp [execOp, e1, e2, Instr.index, asIntOf, run_underlying hs, b1, hget]
    · cases hv
  · rename_i nn e hs
    split at h
    · rename_i dd hd
      simp only [Option.bind_eq_bind, Option.bind_eq_some_iff] at h
      obtain ⟨i, hi, h⟩ := h
      split at h
      · rename_i hagg
        simp only [Option.bind_eq_some_iff, Option.some.injEq] at h
        obtain ⟨rx, hx, ri, hri, rfl⟩ := h
        simp only [ROp.vc] at hv
        split at hv
        · rename_i cs k j he hie
          obtain ⟨b1, b2, hv⟩ := hv
          refine .plain hv fun r w a hm ht => ?_
          have e1 := rvR hx (by simp [Op.operands]) ht
          have e2 := rvR hri (by simp [Op.operands]) ht
          rw [he] at e1
          rw [hie] at e2
          have e2 := e2.int_inv
          obtain ⟨cs', e1, hsz, hvr⟩ := e1.agg_inv
          refine ⟨_, ?_, extract_rel hsz hvr _ _⟩
          simp [execOp, e1, e2, Instr.index, asIntOf, run_underlying hs, b1, b2, sizeOf, typeInfo, hi, part, isAgg_run hd, hagg]
        · cases hv
      · rename_i hagg
        split at h
        · rename_i h1
          simp only [Option.bind_eq_some_iff, Option.some.injEq] at h
          obtain ⟨rx, hx, ri, hri, rfl⟩ := h
          simp only [ROp.vc] at hv
          split at hv
          · rename_i cs k j he hie
            obtain ⟨b1, b2, b3, hv⟩ := hv
            refine .plain hv fun r w a hm ht => ?_
            have e1 := rvR hx (by simp [Op.operands]) ht
            have e2 := rvR hri (by simp [Op.operands]) ht
            rw [he] at e1
            rw [hie] at e2
            have e2 := e2.int_inv
            obtain ⟨cs', e1, hsz, hvr⟩ := e1.agg_inv
            have hlt : j.toNat < cs'.size := by omega
            have h1' : i.size = 1 := h1
            obtain ⟨u, hu, hur⟩ : ∃ u, cs'[j.toNat]? = some u ∧ VR r (cs.getD j.toNat undef) u := ⟨_, getD_eq_some hlt, hvr _⟩
            refine ⟨u, ?_, hur⟩
            simp [execOp, e1, e2, Instr.index, asIntOf, run_underlying hs, b1, b2, sizeOf, typeInfo, hi, part, isAgg_run hd, hagg, h1', hu]
          · cases hv
        · cases h
    · cases h
  · cases h
theorem VR.tuple_inv {r : Ren} {cs : Array Value} {v' : Value} (h : VR r (.tuple cs) v') (hpos : 0 < cs.size) : ∃ cs', v' = .tuple cs' ∧ cs.size = cs'.size ∧ ∀ i, VR r (cs.getD i undef) (cs'.getD i undef) := by
  generalize hu : Value.tuple cs = u at h
  cases h with
  | tuple hs h => injection hu with hu; subst hu; exact ⟨_, rfl, hs, h⟩
  | und => unfold undef at hu; injection hu with hu; subst hu; simp at hpos
  | _ => cases hu
theorem sound_extract {x : Operand} {k : Nat} (h : resolveOp P (.extract x k) = some rop) (hv : rop.vc P f m K) : Sound P ⟨d, .extract x k, ty, pos, af, gd⟩ f m K := by
  simp only [resolveOp, Option.bind_eq_bind, Option.bind_eq_some_iff, Option.some.injEq] at h
  obtain ⟨rx, hx, rfl⟩ := h
  simp only [ROp.vc] at hv
  split at hv
  · rename_i vs he
    refine .plain hv.2 fun r w a hm ht => ?_
    have e1 := rvR hx (by simp [Op.operands]) ht
    rw [he] at e1
    have hlt := hv.1
    obtain ⟨vs', e1, hsz, hvr⟩ := e1.tuple_inv (by omega)
    have hlt' : k < vs'.size := by omega
    obtain ⟨u, hu, hur⟩ : ∃ u, vs'[k]? = some u ∧ VR r (vs.getD k undef) u := ⟨_, getD_eq_some hlt', hvr _⟩
    refine ⟨u, ?_, hur⟩
    simp [execOp, e1, Instr.extract, hu]
  · cases hv
end
end Go.Ga

namespace Go.Ga
open Go
section
variable {P : Program} {f : Regs} {m : Mem} {K : Value → Mem → Prop}
variable {d : Option Tmp} {ty : TypeId} {pos : String} {af : Array Edge} {gd : Option (Nat × Bool)} {rop : ROp}
theorem builtin_run {b : Builtin} {args : Array Operand} {ts : Array TypeId} {a : Act} {s : Sem Value} (hb : ∀ cs, builtin b ts ty cs (args.map a.eval) = (do pure (.value (← s)))) :
    execOp a.eval ⟨d, .call ⟨.builtin b, args, ts⟩, ty, pos, af, gd⟩ = (do pure (.value (← s))) := by
  show (do let d ← resolve a.eval ⟨.builtin b, args, ts⟩ ty; invoke d.target d.args) = _
  have : (resolve a.eval ⟨.builtin b, args, ts⟩ ty) = pure { target := .builtin b ts ty (args.map fun | .const _ => true | _ => false), args := args.map a.eval } := rfl
  rw [this]
  exact hb _
theorem mm_rel {mx : Bool} {k : IntKind} {a : Act} {r : Ren} : ∀ {ys : List Operand} {rs : List Rv} {x b : Int}, resolveRvs ys = some rs → (∀ t, Operand.tmp t ∈ ys → VR r (f t) (a.eval (.tmp t))) → mmV mx k x f rs = some b → ∀ w,
    ((ys.map a.eval).foldlM (if mx then Builtin.max2 else Builtin.min2) (.int k x)).run P w = .ok (.int k b) w
  | [], rs, x, b, h, _, hb, w => by
    simp only [resolveRvs, Option.some.injEq] at h
    subst h
    simp only [mmV, Option.some.injEq] at hb
    subst hb
    rfl
  | y :: ys, rs, x, b, h, ht, hb, w => by
    simp only [resolveRvs] at h
    split at h
    · rename_i r1 rs1 h1 h2
      simp only [Option.some.injEq] at h
      subst h
      simp only [mmV] at hb
      split at hb
      · rename_i k2 c he
        have e1 := resolveRv_rel (f := f) (r := r) (a := a) h1 (fun t e => ht t (by simp [e]))
        rw [he] at e1
        have e1 := e1.int_inv
        have ih := mm_rel (mx := mx) h2 (fun t hm => ht t (by simp [hm])) hb w
        simp only [List.map_cons, List.foldlM_cons, Sem.run_bind, e1]
        cases mx
        · simp only [Bool.false_eq_true, if_false] at ih ⊢
          have : (Builtin.min2 (.int k x) (.int k2 c)).run P w = .ok (.int k (if c < x then c else x)) w := rfl
          rw [this, Result.andThen_ok]
          exact ih
        · simp only [if_true] at ih ⊢
          have : (Builtin.max2 (.int k x) (.int k2 c)).run P w = .ok (.int k (if c > x then c else x)) w := rfl
          rw [this, Result.andThen_ok]
          exact ih
      · cases hb
    · cases h
theorem firstStr_ok (s : ByteArray) (n : Nat) (w : World) {r : Ren} : ∃ news' : Array Value, (Builtin.firstCells 1 n (.string s)).run P w = .ok news' w ∧ news'.size = ((s.data.toList.take n).map u8V).length ∧
    ∀ j, VR r (((s.data.toList.take n).map u8V).getD j undef) (news'.getD j undef) := by
  refine ⟨_, rfl, ?_, fun j => ?_⟩
  · simp
  · rw [← toList_getD]
    have : ((s.extract 0 n).data.map fun b => Value.int .u8 (b.toNat : Int)).toList = (s.data.toList.take n).map u8V := by
      simp [ByteArray.data_extract]
      rfl
    rw [this]
    by_cases hj : j < ((s.data.toList.take n).map u8V).length
    · have hm : ((s.data.toList.take n).map u8V).getD j undef ∈ (s.data.toList.take n).map u8V := by
        simp only [List.getD_eq_getElem?_getD, List.getElem?_eq_getElem hj, Option.getD_some]
        exact List.getElem_mem _
      rw [List.mem_map] at hm
      obtain ⟨b, _, hb⟩ := hm
      rw [← hb]
      exact .int _ _
    · have : ((s.data.toList.take n).map u8V).getD j undef = undef := by
        simp only [List.getD_eq_getElem?_getD]
        rw [List.getElem?_eq_none (by omega)]
        rfl
      have e2 : ((s.data.toList.take n).map u8V).getD j undef = undef := this
      rw [e2]
      exact .und
theorem sound_builtin {b : Builtin} {args : Array Operand} {ts : Array TypeId} (h : resolveOp P (.call ⟨.builtin b, args, ts⟩) = some rop) (hv : rop.vc P f m K) (hwf : m.bar ≤ m.next) : Sound P ⟨d, .call ⟨.builtin b, args, ts⟩, ty, pos, af, gd⟩ f m K := by
  obtain ⟨args⟩ := args
  obtain ⟨ts⟩ := ts
  replace h : resolveBuiltin P b args ts = some rop := h
  have mem : ∀ {x}, x ∈ args → x ∈ (Op.call ⟨.builtin b, ⟨args⟩, ⟨ts⟩⟩).operands := fun hx => by simp [Op.operands, Call.operands, hx]
  unfold resolveBuiltin at h
  split at h
  · -- len
    rename_i x t
    split at h
    · rename_i ht
      simp only [Option.bind_eq_bind, Option.bind_eq_some_iff, Option.some.injEq] at h
      obtain ⟨rx, hx, rfl⟩ := h
      simp only [ROp.vc] at hv
      split at hv
      · rename_i s he
        refine .step hv (MExt.refl m) (fun a => Builtin.len_ #[t] ty #[a.eval x]) (fun a => builtin_run fun _ => by rw [List.map_toArray]; rfl) fun r w a hm hto => ?_
        have e1 := (rvR hx (mem (by simp)) hto).eq_of_plain (by rw [he]; rfl)
        rw [he] at e1
        exact .pure hm (v' := .int .i64 s.size) (by simp [Builtin.len_, run_underlying ht, e1, goInt]) (.int _ _)
      · cases hv
    · rename_i e ht
      simp only [Option.bind_eq_bind, Option.bind_eq_some_iff, Option.some.injEq] at h
      obtain ⟨rx, hx, rfl⟩ := h
      simp only [ROp.vc] at hv
      split at hv
      · rename_i A n c he
        refine .step hv (MExt.refl m) (fun a => Builtin.len_ #[t] ty #[a.eval x]) (fun a => builtin_run fun _ => by rw [List.map_toArray]; rfl) fun r w a hm hto => ?_
        have e1 := rvR hx (mem (by simp)) hto
        rw [he] at e1
        refine .pure hm (v' := .int .i64 n) ?_ (.int _ _)
        generalize a.eval x = v' at e1
        cases e1 <;> simp [Builtin.len_, run_underlying ht, goInt]
      · cases hv
    · rename_i n e ht
      simp only [Option.some.injEq] at h
      subst h
      refine .step hv (MExt.refl m) (fun a => Builtin.len_ #[t] ty #[a.eval x]) (fun a => builtin_run fun _ => by rw [List.map_toArray]; rfl) fun r w a hm hto => ?_
      exact .pure hm (v' := .int .i64 n) (by simp [Builtin.len_, run_underlying ht, goInt]) (.int _ _)
    · rename_i p ht
      split at h
      · rename_i n e hp
        simp only [Option.some.injEq] at h
        subst h
        refine .step hv (MExt.refl m) (fun a => Builtin.len_ #[t] ty #[a.eval x]) (fun a => builtin_run fun _ => by rw [List.map_toArray]; rfl) fun r w a hm hto => ?_
        exact .pure hm (v' := .int .i64 n) (by simp [Builtin.len_, run_underlying ht, run_underlying hp, goInt]) (.int _ _)
      · cases h
    · cases h
  · -- append
    rename_i x y t u
    split at h
    · rename_i e e2 ht hu
      simp only [Option.bind_eq_bind, Option.bind_eq_some_iff] at h
      obtain ⟨⟨i, z⟩, hz, h⟩ := h
      obtain ⟨z1, z2, z3⟩ := zeroOf_spec hz
      split at h
      · rename_i hzs
        simp only [Option.bind_eq_some_iff, Option.some.injEq] at h
        obtain ⟨rx, hx, ry, hy, rfl⟩ := h
        simp only [ROp.vc] at hv
        split at hv
        · rename_i A n c B k c2 he1 he2
          split at hv
          · rename_i news hnews
            obtain ⟨v, m', hK, hx', hstep⟩ := appendK_ok (P := P) ht hu (.inl ⟨_, rfl⟩) z1 z2 hzs ty hv hwf
            refine .step hK hx' (fun a => Builtin.append_ #[t, u] ty #[a.eval x, a.eval y]) (fun a => builtin_run fun _ => by rw [List.map_toArray]; rfl) fun r w a hm hto => ?_
            have e1 := rvR hx (mem (by simp)) hto
            have e2 := rvR hy (mem (by simp)) hto
            rw [he1] at e1
            rw [he2] at e2
            refine hstep r w _ _ hm e1 (lenOf_ok e2 w) fun dr => ?_
            obtain ⟨cs, g1, g2, _, g4⟩ := firstCells_ok (P := P) hm e2 (Nat.le_refl k) hnews dr
            exact ⟨cs, g1, g2, g4⟩
          · cases hv
        · cases hv
      · cases h
    · rename_i e ht hu
      simp only [Option.bind_eq_bind, Option.bind_eq_some_iff] at h
      obtain ⟨⟨i, z⟩, hz, h⟩ := h
      obtain ⟨z1, z2, z3⟩ := zeroOf_spec hz
      split at h
      · rename_i hzs
        have hzs : z.cells.size = i.size ∧ i.size = 1 ∧ i.bytes = 1 := hzs
        simp only [Option.bind_eq_some_iff, Option.some.injEq] at h
        obtain ⟨rx, hx, ry, hy, rfl⟩ := h
        simp only [ROp.vc] at hv
        split at hv
        · rename_i A n c s he1 he2
          obtain ⟨q1, q2, q3⟩ := hzs
          rw [show (1 : Nat) = i.size from q2.symm] at hv
          have hv : appendK i.size i.bytes m A n c s.size (s.data.toList.map u8V) K := by rw [q3, q2]; rw [q2] at hv; exact hv
          obtain ⟨v, m', hK, hx', hstep⟩ := appendK_ok (P := P) ht hu (.inr rfl) z1 z2 q1 ty hv hwf
          refine .step hK hx' (fun a => Builtin.append_ #[t, u] ty #[a.eval x, a.eval y]) (fun a => builtin_run fun _ => by rw [List.map_toArray]; rfl) fun r w a hm hto => ?_
          have e1 := rvR hx (mem (by simp)) hto
          have e2 := (rvR hy (mem (by simp)) hto).eq_of_plain (by rw [he2]; rfl)
          rw [he1] at e1
          rw [he2] at e2
          rw [e2]
          refine hstep r w _ _ hm e1 rfl fun dr => ?_
          rw [q2]
          have := firstStr_ok (P := P) s s.size { w with drawn := dr } (r := r)
          have ht : s.data.toList.take s.size = s.data.toList := List.take_of_length_le (by show s.data.toList.length ≤ s.data.size; simp)
          rw [ht] at this
          exact this
        · cases hv
      · cases h
    · cases h
  · -- copy
    rename_i x y t u
    split at h
    · rename_i e e2 ht hu
      simp only [Option.bind_eq_bind, Option.bind_eq_some_iff, Option.some.injEq] at h
      obtain ⟨i, hi, rx, hx, ry, hy, rfl⟩ := h
      simp only [ROp.vc] at hv
      split at hv
      · rename_i A n c B k c2 he1 he2
        split at hv
        · rename_i news hnews
          have first : ∀ {r : Ren} {w : World} {a : Act}, MemRel r m w → VR r (.slice B k c2) (a.eval y) → ∃ news' : Array Value, (Builtin.firstCells i.size (Nat.min k n) (a.eval y)).run P w = .ok news' w ∧ news'.size = news.length ∧ news.length = Nat.min k n * i.size ∧ ∀ j, VR r (news.getD j undef) (news'.getD j undef) := by
            intro r w a hm e2
            obtain ⟨cs, g1, g2, g3, g4⟩ := firstCells_ok (P := P) hm e2 (Nat.min_le_left k n) hnews w.drawn
            exact ⟨cs, g1, g2, g3, g4⟩
          cases A with
          | none =>
            refine .step hv (MExt.refl m) (fun a => Builtin.copy_ #[t, u] ty #[a.eval x, a.eval y]) (fun a => builtin_run fun _ => by rw [List.map_toArray]; rfl) fun r w a hm hto => ?_
            have e1 := rvR hx (mem (by simp)) hto
            have e2 := rvR hy (mem (by simp)) hto
            rw [he1] at e1
            rw [he2] at e2
            obtain ⟨cs, g1, g2, g3, g4⟩ := first hm e2
            exact copy_none ht hi ty (.inl rfl) hm e1 (lenOf_ok e2 w) ⟨cs, g1, by omega⟩
          | some a0 =>
            simp only at hv
            split at hv
            · rename_i h0
              refine .step hv (MExt.refl m) (fun a => Builtin.copy_ #[t, u] ty #[a.eval x, a.eval y]) (fun a => builtin_run fun _ => by rw [List.map_toArray]; rfl) fun r w a hm hto => ?_
              have e1 := rvR hx (mem (by simp)) hto
              have e2 := rvR hy (mem (by simp)) hto
              rw [he1] at e1
              rw [he2] at e2
              obtain ⟨cs, g1, g2, g3, g4⟩ := first hm e2
              exact copy_none ht hi ty (.inr h0) hm e1 (lenOf_ok e2 w) ⟨cs, g1, by omega⟩
            · rename_i h0
              obtain ⟨l, hg, hbar, hlen, h1, hv⟩ := writeK_elim hv
              refine .step hv (MExt.put hbar _) (fun a => Builtin.copy_ #[t, u] ty #[a.eval x, a.eval y]) (fun a => builtin_run fun _ => by rw [List.map_toArray]; rfl) fun r w a hm hto => ?_
              have e1 := rvR hx (mem (by simp)) hto
              have e2 := rvR hy (mem (by simp)) hto
              rw [he1] at e1
              rw [he2] at e2
              obtain ⟨cs, g1, g2, g3, g4⟩ := first hm e2
              exact copy_ok ht hi ty rfl hg hbar hlen h1 h0 hm e1 (lenOf_ok e2 w) ⟨cs, g1, g2, g4⟩
        · cases hv
      · cases hv
    · rename_i e ht hu
      simp only [Option.bind_eq_bind, Option.bind_eq_some_iff] at h
      obtain ⟨i, hi, h⟩ := h
      split at h
      · rename_i hsz
        have hsz : i.size = 1 := hsz
        simp only [Option.bind_eq_some_iff, Option.some.injEq] at h
        obtain ⟨rx, hx, ry, hy, rfl⟩ := h
        simp only [ROp.vc] at hv
        split at hv
        · rename_i A n c s he1 he2
          have first : ∀ {r : Ren} {w : World}, ∃ news' : Array Value, (Builtin.firstCells i.size (Nat.min s.size n) (.string s)).run P w = .ok news' w ∧ news'.size = ((s.data.toList.take (Nat.min s.size n)).map u8V).length ∧ ((s.data.toList.take (Nat.min s.size n)).map u8V).length = Nat.min s.size n * i.size ∧
              ∀ j, VR r (((s.data.toList.take (Nat.min s.size n)).map u8V).getD j undef) (news'.getD j undef) := by
            intro r w
            rw [hsz]
            obtain ⟨cs, g1, g2, g3⟩ := firstStr_ok (P := P) s (Nat.min s.size n) w (r := r)
            refine ⟨cs, g1, g2, ?_, g3⟩
            have : s.data.size = s.size := rfl
            have : Nat.min s.size n ≤ s.size := Nat.min_le_left s.size n
            simp only [List.length_map, List.length_take, Array.length_toList]
            omega
          have hl : ∀ w, (Builtin.lenOf (.string s)).run P w = .ok s.size w := fun _ => rfl
          cases A with
          | none =>
            refine .step hv (MExt.refl m) (fun a => Builtin.copy_ #[t, u] ty #[a.eval x, a.eval y]) (fun a => builtin_run fun _ => by rw [List.map_toArray]; rfl) fun r w a hm hto => ?_
            have e1 := rvR hx (mem (by simp)) hto
            have e2 := (rvR hy (mem (by simp)) hto).eq_of_plain (by rw [he2]; rfl)
            rw [he1] at e1
            rw [he2] at e2
            rw [e2]
            obtain ⟨cs, g1, g2, g3, g4⟩ := first (r := r) (w := w)
            exact copy_none ht hi ty (.inl rfl) hm e1 (hl w) ⟨cs, g1, by omega⟩
          | some a0 =>
            simp only at hv
            split at hv
            · rename_i h0
              refine .step hv (MExt.refl m) (fun a => Builtin.copy_ #[t, u] ty #[a.eval x, a.eval y]) (fun a => builtin_run fun _ => by rw [List.map_toArray]; rfl) fun r w a hm hto => ?_
              have e1 := rvR hx (mem (by simp)) hto
              have e2 := (rvR hy (mem (by simp)) hto).eq_of_plain (by rw [he2]; rfl)
              rw [he1] at e1
              rw [he2] at e2
              rw [e2]
              obtain ⟨cs, g1, g2, g3, g4⟩ := first (r := r) (w := w)
              exact copy_none ht hi ty (.inr (by rw [h0]; simp)) hm e1 (hl w) ⟨cs, g1, by omega⟩
            · rename_i h0
              obtain ⟨l, hg, hbar, hlen, h1, hv⟩ := writeK_elim hv
              refine .step hv (MExt.put hbar _) (fun a => Builtin.copy_ #[t, u] ty #[a.eval x, a.eval y]) (fun a => builtin_run fun _ => by rw [List.map_toArray]; rfl) fun r w a hm hto => ?_
              have e1 := rvR hx (mem (by simp)) hto
              have e2 := (rvR hy (mem (by simp)) hto).eq_of_plain (by rw [he2]; rfl)
              rw [he1] at e1
              rw [he2] at e2
              rw [e2]
              obtain ⟨cs, g1, g2, g3, g4⟩ := first (r := r) (w := w)
              exact copy_ok ht hi ty rfl hg hbar hlen h1 (by rw [hsz]; omega) hm e1 (hl w) ⟨cs, g1, g2, g4⟩
        · cases hv
      · cases h
    · cases h
  · -- min
    rename_i x ys
    simp only [Option.bind_eq_bind, Option.bind_eq_some_iff, Option.some.injEq] at h
    obtain ⟨rx, hx, ry, hy, rfl⟩ := h
    simp only [ROp.vc] at hv
    split at hv
    · rename_i k a0 he
      split at hv
      · rename_i b0 hb
        refine .step hv (MExt.refl m) (fun a => Builtin.min_ ⟨ts⟩ ty ((⟨x :: ys⟩ : Array Operand).map a.eval)) (fun a => builtin_run fun _ => rfl) fun r w a hm hto => ?_
        have e1 := rvR hx (mem (by simp)) hto
        rw [he] at e1
        have e1 := e1.int_inv
        have hrun := mm_rel (P := P) (mx := false) hy (fun t ht => hto t (mem (by simp [ht]))) hb w
        refine .pure hm (v' := .int k b0) ?_ (.int _ _)
        simp only [Builtin.min_, List.map_toArray, List.map_cons, e1]
        exact hrun
      · cases hv
    · cases hv
  · -- max
    rename_i x ys
    simp only [Option.bind_eq_bind, Option.bind_eq_some_iff, Option.some.injEq] at h
    obtain ⟨rx, hx, ry, hy, rfl⟩ := h
    simp only [ROp.vc] at hv
    split at hv
    · rename_i k a0 he
      split at hv
      · rename_i b0 hb
        refine .step hv (MExt.refl m) (fun a => Builtin.max_ ⟨ts⟩ ty ((⟨x :: ys⟩ : Array Operand).map a.eval)) (fun a => builtin_run fun _ => rfl) fun r w a hm hto => ?_
        have e1 := rvR hx (mem (by simp)) hto
        rw [he] at e1
        have e1 := e1.int_inv
        have hrun := mm_rel (P := P) (mx := true) hy (fun t ht => hto t (mem (by simp [ht]))) hb w
        refine .pure hm (v' := .int k b0) ?_ (.int _ _)
        simp only [Builtin.max_, List.map_toArray, List.map_cons, e1]
        exact hrun
      · cases hv
    · cases hv
  · cases h
theorem sound {o : Oper} (h : resolveOp P o.op = some rop) (hv : rop.vc P f m K) (hwf : m.bar ≤ m.next) : Sound P o f m K := by
  obtain ⟨dst, op, type, pos, after, guard⟩ := o
  simp only at h
  cases op with
  | move x => exact sound_move h hv
  | assign x => exact sound_assign h hv
  | pick c a b => exact sound_pick h hv
  | alloc t => exact sound_alloc h hv hwf
  | box t x => exact sound_box h hv hwf
  | build t ps => exact sound_build h hv
  | buildSlice t n ps => exact sound_buildSlice h hv hwf
  | load t x => exact sound_load h hv
  | store t x y => exact sound_store h hv
  | nilCheck x => exact sound_chk h hv
  | binOp o t x y u => exact sound_bin h hv
  | unOp o t x => exact sound_un h hv
  | convert s t x => exact sound_conv h hv hwf
  | makeInterface t x => exact sound_iface h hv
  | makeFunc fn a b => exact sound_func h hv
  | makeSlice t l c => exact sound_make h hv hwf
  | slice t x l h' mx => exact sound_slice h hv
  | fieldAddr s x k => exact sound_fieldAddr h hv
  | field s x k => exact sound_field h hv
  | indexAddr t x i => exact sound_indexAddr h hv
  | index t x i => exact sound_index h hv
  | extract x i => exact sound_extract h hv
  | call c =>
    obtain ⟨callee, args, ts⟩ := c
    cases callee with
    | builtin b => exact sound_builtin h hv hwf
    | value x => exact absurd h (by simp [resolveOp])
    | invoke r n => exact absurd h (by simp [resolveOp])
  | _ => exact absurd h (by simp [resolveOp])
end
end Go.Ga

namespace Go.Ga
open Go
def cmpL : List UInt8 → List UInt8 → Int
  | [], [] => 0
  | [], _ :: _ => -1
  | _ :: _, [] => 1
  | a :: as, b :: bs => if a < b then -1 else if b < a then 1 else cmpL as bs
theorem cmp_find : ∀ a b : List UInt8, (match (List.range (min a.length b.length)).find? (fun i => a.getD i 0 != b.getD i 0) with
    | some i => if a.getD i 0 < b.getD i 0 then (-1 : Int) else 1
    | none => if a.length < b.length then -1 else if a.length > b.length then 1 else 0) = cmpL a b
  | [], [] => rfl
  | [], _ :: _ => by simp [cmpL]
  | _ :: _, [] => by simp [cmpL]
  | x :: a, y :: b => by
    have ih := cmp_find a b
    rw [List.length_cons, List.length_cons, Nat.succ_min_succ, List.range_succ_eq_map, List.find?_cons]
    simp only [List.getD_cons_zero, cmpL]
    by_cases hxy : x = y
    · subst hxy
      have h1 : (x != x) = false := by simp
      have h2 : ¬ x < x := UInt8.lt_irrefl x
      simp only [h1, h2, if_false, List.find?_map]
      have e : ((fun i => (x :: a).getD i 0 != (x :: b).getD i 0) ∘ Nat.succ) = fun i => a.getD i 0 != b.getD i 0 := by funext i; simp
      rw [e, ← ih]
      cases List.find? (fun i => a.getD i 0 != b.getD i 0) (List.range (min a.length b.length)) <;> simp
    · have h1 : (x != y) = true := by simpa using hxy
      simp only [h1, if_true, List.getD_cons_zero]
      by_cases h2 : x < y
      · rw [if_pos h2, if_pos h2]
      · have h3 : y < x := by
          rcases Nat.lt_or_ge y.toNat x.toNat with h | h
          · exact UInt8.lt_iff_toNat_lt.2 h
          · exact absurd (UInt8.toNat_inj.1 (by have : ¬ x.toNat < y.toNat := fun h' => h2 (UInt8.lt_iff_toNat_lt.2 h'); omega)) hxy
        rw [if_neg h2, if_neg h2, if_pos h3]
theorem cmp_eq (a b : List UInt8) : Extern.BytealgCompare.cmp ⟨a.toArray⟩ ⟨b.toArray⟩ = cmpL a b := by
  rw [← cmp_find]
  have e0 : ∀ (l : List UInt8) i, i < l.length → (ByteArray.mk l.toArray)[i]! = l.getD i 0 := fun l i hi => by
    have e1 : (ByteArray.mk l.toArray)[i]! = l[i] := getElem!_pos (ByteArray.mk l.toArray) i hi
    rw [e1, List.getD_eq_getElem?_getD, List.getElem?_eq_getElem hi]; rfl
  have e : (List.range (min (ByteArray.mk a.toArray).size (ByteArray.mk b.toArray).size)).find? (fun i => (ByteArray.mk a.toArray)[i]! != (ByteArray.mk b.toArray)[i]!) = (List.range (min a.length b.length)).find? (fun i => a.getD i 0 != b.getD i 0) := by
    apply Lib.find_congr
    intro i hi
    have hi' : i < min a.length b.length := List.mem_range.1 hi
    rw [e0 a i (by omega), e0 b i (by omega)]
  unfold Extern.BytealgCompare.cmp
  rw [e]
  cases hf : (List.range (min a.length b.length)).find? (fun i => a.getD i 0 != b.getD i 0) with
  | none => rfl
  | some i =>
    have hi' : i < min a.length b.length := List.mem_range.1 (List.mem_of_find?_eq_some hf)
    simp only
    rw [e0 a i (by omega), e0 b i (by omega)]
theorem run_loadBytes' {P : Program} (w : World) : ∀ (xs : List Int) (a : Addr) (acc : ByteArray), (∀ j x, xs[j]? = some x → w.cell? (a.add j) = some (.int .u8 x)) →
    (Extern.Bytes.loadBytes a xs.length acc).run P w = .ok ⟨acc.data ++ (xs.map fun x => x.toNat.toUInt8).toArray⟩ w
  | [], a, acc, _ => by simp [Extern.Bytes.loadBytes]
  | x :: l, a, acc, h => by
    have h0 : w.cell? a = some (.int .u8 x) := by
      have := h 0 x rfl
      simpa [Addr.add] using this
    have ih := run_loadBytes' (P := P) w l (a.add 1) (acc.push x.toNat.toUInt8) (fun j y hy => by
      have := h (j + 1) y (by simpa using hy)
      have e : (a.add 1).add j = a.add (j + 1) := by
        unfold Addr.add
        by_cases hj : j = 0
        · subst hj; simp
        · simp [hj]; omega
      rw [e]; exact this)
    simp only [List.length_cons, Extern.Bytes.loadBytes, Sem.run_bind, run_load, h0, Result.andThen]
    rw [ih]
    congr 1
    apply ByteArray.ext
    simp [ByteArray.push]
section
variable {P : Program} {r : Ren} {m : Mem} {w : World} {f : Regs}
theorem extBytes_ok (hm : MemRel r m w) {A : Option Addr} {n c : Nat} {x' : Value} (hx : VR r (.slice A n c) x') {l : List Value} (hl : rowOf m A n = some l) {bs : List UInt8} (hb : bytesOf l = some bs) :
    (Extern.Bytes.bytesOf x').run P w = .ok ⟨bs.toArray⟩ w := by
  obtain ⟨ns, rfl, rfl⟩ := bytesOf_spec hb
  unfold rowOf at hl
  cases A with
  | none =>
    obtain ⟨rfl, rfl, rfl⟩ := hx.slice_nil
    simp at hl
    subst hl
    rfl
  | some a =>
    obtain ⟨a', c', rfl, hnc, hsr⟩ := hx.slice_inv
    split at hl
    · rename_i h0
      subst h0
      simp at hl
      subst hl
      rfl
    · rename_i h0
      have ha : AR r a.block a.off a' := hsr.loc.resolve_left (by have := hsr.le; omega)
      simp only at hl
      split at hl
      · rename_i l2 ro hg
        split at hl
        · rename_i hle
          simp only [Option.some.injEq] at hl
          obtain ⟨cb, base, csz, hn, rfl⟩ := ha.live hm hg
          obtain ⟨cc, ce, fr, hh, g1, g2, g3, _⟩ := live_cells hm hn hg
          have hlen : ns.length = n := by
            have := congrArg List.length hl
            simp at this
            omega
          have hrun := run_loadBytes' (P := P) w ns ⟨cb, base + a.off, none⟩ .empty fun j x hj => by
            have hj' : j < ns.length := (List.getElem?_eq_some_iff.1 hj).1
            rw [addr_add, cell_of_heap hh (by omega)]
            have h3 := g3 (a.off + j) (by omega)
            have e : l2.getD (a.off + j) undef = .int .u8 x := by
              have h4 : ((l2.drop a.off).take n)[j]? = some (.int .u8 x) := by rw [hl, List.getElem?_map, hj]; rfl
              rw [List.getElem?_take_of_lt (by omega), List.getElem?_drop] at h4
              rw [List.getD_eq_getElem?_getD, h4]; rfl
            rw [e, show base + (a.off + j) = base + a.off + j by omega] at h3
            rw [h3.int_inv]
          rw [hlen] at hrun
          simp only [Extern.Bytes.bytesOf, hrun]
          congr 1
          apply ByteArray.ext
          show (#[] : Array UInt8) ++ (ns.map fun x => x.toNat.toUInt8).toArray = _
          simp
        · cases hl
      · cases hl
theorem pr_bind {α β : Type} (s : Sem α) (f : α → Sem β) : pureRun P (s >>= f) = (pureRun P s).bind fun a => pureRun P (f a) := by
  show pureRun P (Sem.bind s f) = _
  induction s with
  | pure a => rfl
  | program k ih => simp only [Sem.bind, pureRun]; exact ih P
  | mark m k ih => simp only [Sem.bind, pureRun]; exact ih
  | _ => rfl
theorem pr_pure {α : Type} (a : α) : pureRun P (pure a : Sem α) = some a := rfl
theorem pr_prog : pureRun P program = some P := rfl
theorem pr_under {t : TypeId} {d : TypeDesc} (h : P.underlying t = some d) : pureRun P (underlying t) = some d := by
  simp only [underlying, pr_bind, pr_prog, Option.bind_some, h]; rfl
def entO (k : Value) : MapEntry := ⟨k, undef, 0⟩
def keyAt (P : Program) (e : Bool) (kt : TypeId) (k : Value) (ks : List Value) : Option (Option Nat) :=
  pureRun P (do
    Instr.checkKey e 10000 kt k
    let r ← Instr.findKey kt k (ks.map entO)
    pure (r.map (·.1)))
def valAt (es : List MapEntry) (r : Option Nat) : Option (Nat × Value) := r.map fun i => (i, ((es[i]?).map (·.val)).getD undef)
theorem now_shift {kd : TypeDesc} {k : Value} : ∀ {es : List MapEntry} {i : Nat} {r : Option (Nat × Value)}, Instr.findNow kd k es i = some r → ∀ (es' : List MapEntry), es'.map (·.key) = es.map (·.key) →
    Instr.findNow kd k es' i = some (r.map fun x => (x.1, ((es'[x.1 - i]?).map (·.val)).getD undef)) ∧ ∀ x, r = some x → i ≤ x.1
  | [], i, r, h, es', he => by
    simp only [List.map_nil, List.map_eq_nil_iff] at he
    subst he
    simp only [Instr.findNow, Option.some.injEq] at h
    subst h
    exact ⟨rfl, fun _ h => nomatch h⟩
  | e :: es, i, r, h, es', he => by
    cases es' with
    | nil => simp at he
    | cons e' es' =>
      simp only [List.map_cons, List.cons.injEq] at he
      simp only [Instr.findNow] at h ⊢
      rw [he.1]
      cases hs : Instr.sameNow kd k e.key with
      | none => rw [hs] at h; cases h
      | some b =>
        rw [hs] at h
        cases b with
        | true =>
          simp only [Option.some.injEq] at h
          subst h
          exact ⟨by simp, fun x hx => by injection hx with hx; subst hx; exact Nat.le_refl _⟩
        | false =>
          obtain ⟨h1, h2⟩ := now_shift h es' he.2
          refine ⟨?_, fun x hx => by have := h2 x hx; omega⟩
          simp only at h1 ⊢
          rw [h1]
          cases r with
          | none => rfl
          | some x =>
            have := h2 x rfl
            simp only [Option.map_some, Option.some.injEq, Prod.mk.injEq, true_and]
            rw [show x.1 - i = (x.1 - (i + 1)) + 1 by omega, List.getElem?_cons_succ]
theorem now_none {kd : TypeDesc} {k : Value} : ∀ {es : List MapEntry} {i : Nat}, Instr.findNow kd k es i = none → ∀ (es' : List MapEntry), es'.map (·.key) = es.map (·.key) → Instr.findNow kd k es' i = none
  | [], i, h, es', he => by cases h
  | e :: es, i, h, es', he => by
    cases es' with
    | nil => simp at he
    | cons e' es' =>
      simp only [List.map_cons, List.cons.injEq] at he
      simp only [Instr.findNow] at h ⊢
      rw [he.1]
      cases hs : Instr.sameNow kd k e.key with
      | none => rfl
      | some b =>
        rw [hs] at h
        cases b with
        | true => cases h
        | false => exact now_none h es' he.2
theorem ask_shift {kt : TypeId} {k : Value} : ∀ {es : List MapEntry} {i : Nat} {r : Option (Nat × Value)}, pureRun P (Instr.findAsking kt k es i) = some r → ∀ (es' : List MapEntry), es'.map (·.key) = es.map (·.key) →
    pureRun P (Instr.findAsking kt k es' i) = some (r.map fun x => (x.1, ((es'[x.1 - i]?).map (·.val)).getD undef)) ∧ ∀ x, r = some x → i ≤ x.1
  | [], i, r, h, es', he => by
    simp only [List.map_nil, List.map_eq_nil_iff] at he
    subst he
    simp only [Instr.findAsking, pr_pure, Option.some.injEq] at h
    subst h
    exact ⟨rfl, fun _ h => nomatch h⟩
  | e :: es, i, r, h, es', he => by
    cases es' with
    | nil => simp at he
    | cons e' es' =>
      simp only [List.map_cons, List.cons.injEq] at he
      simp only [Instr.findAsking, pr_bind] at h ⊢
      rw [he.1]
      cases hs : pureRun P (Op.equal kt k e.key) with
      | none => rw [hs] at h; cases h
      | some b =>
        rw [hs] at h
        simp only [Option.bind_some] at h ⊢
        cases b with
        | true =>
          simp only [if_true, pr_pure, Option.some.injEq] at h ⊢
          subst h
          exact ⟨by simp, fun x hx => by injection hx with hx; subst hx; exact Nat.le_refl _⟩
        | false =>
          simp only [Bool.false_eq_true, if_false] at h ⊢
          obtain ⟨h1, h2⟩ := ask_shift h es' he.2
          refine ⟨?_, fun x hx => by have := h2 x hx; omega⟩
          rw [h1]
          cases r with
          | none => rfl
          | some x =>
            have := h2 x rfl
            simp only [Option.map_some, Option.some.injEq, Prod.mk.injEq, true_and]
            rw [show x.1 - i = (x.1 - (i + 1)) + 1 by omega, List.getElem?_cons_succ]
theorem keyAt_run {e : Bool} {kt : TypeId} {k : Value} {ks : List Value} {r : Option Nat} (h : keyAt P e kt k ks = some r) {es : List MapEntry} (he : es.map (·.key) = ks) (w : World) :
    (Instr.checkKey e 10000 kt k).run P w = .ok () w ∧ (Instr.findKey kt k es).run P w = .ok (valAt es r) w := by
  unfold keyAt at h
  simp only [pr_bind, Option.bind_eq_some_iff] at h
  obtain ⟨u, h1, r0, h2, h3⟩ := h
  simp only [pr_pure, Option.some.injEq] at h3
  subst h3
  refine ⟨pureRun_ok h1 w, pureRun_ok ?_ w⟩
  have hk : es.map (·.key) = (ks.map entO).map (·.key) := by rw [he]; simp [entO, Function.comp_def]
  simp only [Instr.findKey, pr_bind, Option.bind_eq_some_iff] at h2 ⊢
  obtain ⟨d, hd, h2⟩ := h2
  refine ⟨d, hd, ?_⟩
  cases hn : Instr.findNow d k (ks.map entO) 0 with
  | some r1 =>
    rw [hn] at h2
    simp only [pr_pure, Option.some.injEq] at h2
    subst h2
    rw [(now_shift hn es hk).1]
    simp only [pr_pure, valAt, Option.map_map, Nat.sub_zero]
    rfl
  | none =>
    rw [hn] at h2
    rw [now_none hn es hk]
    simp only at h2 ⊢
    rw [(ask_shift h2 es hk).1]
    simp only [valAt, Option.map_map, Nat.sub_zero]
    rfl
end
end Go.Ga

namespace Go.Ga
open Go
inductive XOp where
  | s2a (n : Nat) (x : Rv)
  | noZero (x : Rv)
  | cmpB (x y : Rv)
  | mkMap
  | mapGet (kt : TypeId) (zero : Value) (ok : Bool) (x k : Rv)
  | mapPut (kt : TypeId) (x k v : Rv)
  | bad
def mapV (ok : Bool) (zero : Value) (r : Option Value) : Value := if ok then .tuple #[r.getD zero, .bool r.isSome] else r.getD zero
def XOp.vc (P : Program) (f : Regs) (m : Mem) (K : Value → Mem → Prop) : XOp → Prop
  | .s2a n x => match x.ev f with
    | .slice (some a) k c => n ≤ k ∧ 0 < c ∧ K (.pointer (some ⟨a.block, a.off, none⟩)) m
    | _ => False
  | .noZero x => match x.ev f with
    | .int .i64 n => 0 ≤ n ∧ n ≤ 281474976710656 ∧ K (.slice (some ⟨m.next, 0, some 1⟩) n.toNat n.toNat) (m.add (.cells (List.replicate n.toNat botV) false))
    | _ => False
  | .cmpB x y => match x.ev f, y.ev f with
    | .slice A n _, .slice B k _ => match rowOf m A n, rowOf m B k with
      | some l, some l' => match bytesOf l, bytesOf l' with
        | some a, some b => K (.int .i64 (cmpL a b)) m
        | _, _ => False
      | _, _ => False
    | _, _ => False
  | .mkMap => K (.map (some m.next)) (m.add (.map []))
  | .mapGet kt zero ok x k => plainV (k.ev f) = true ∧ match x.ev f with
    | .map none => keyAt P true kt (k.ev f) [] = some none ∧ K (mapV ok zero none) m
    | .map (some b) => match m.get b with
      | some (.map es) => ∃ r, keyAt P es.isEmpty kt (k.ev f) (es.map (·.1)) = some r ∧ K (mapV ok zero (r.map fun i => (es.map (·.2)).getD i undef)) m
      | _ => False
    | _ => False
  | .mapPut kt x k v => plainV (k.ev f) = true ∧ match x.ev f with
    | .map (some b) => match m.get b with
      | some (.map es) => m.bar ≤ b ∧ ∃ r, keyAt P false kt (k.ev f) (es.map (·.1)) = some r ∧ match r with
        | none => K undef (m.put b (.map (es ++ [(k.ev f, v.ev f)])))
        | some i => i < es.length ∧ (es.map (·.1)).getD i undef = k.ev f ∧ Instr.sameBits 10000 (k.ev f) (k.ev f) = true ∧ K undef (m.put b (.map (es.set i (k.ev f, v.ev f))))
      | _ => False
    | _ => False
  | .bad => False
def noZeroFn (P : Program) (fn : Func) : Bool := fn.name == "internal/bytealg.MakeNoZero" && fn.body.isNone && (fn.origin == "" || fn.origin == "internal/bytealg.MakeNoZero") && match fn.resultTypes.toList with
  | [t] => match P.underlying t with
    | some (.slice _) => true
    | _ => false
  | _ => false
def noZeroArg (P : Program) (x : Operand) (args : List Operand) : Option Rv := match x, args with
  | .func g, [y] => match P.funcs[g]? with
    | some fn => if noZeroFn P fn then resolveRv y else none
    | none => none
  | _, _ => none
def cmpFn (fn : Func) : Bool := fn.name == "internal/bytealg.Compare" && fn.body.isNone && (fn.origin == "" || fn.origin == "internal/bytealg.Compare")
def extArg (P : Program) (x : Operand) (args : List Operand) : Option XOp := match noZeroArg P x args with
  | some r => some (.noZero r)
  | none => match x, args with
    | .func g, [y, z] => match P.funcs[g]? with
      | some fn => if cmpFn fn then match resolveRv y, resolveRv z with
          | some a, some b => some (.cmpB a b)
          | _, _ => none
        else none
      | none => none
    | _, _ => none
theorem cmpNext : Extern.allNextRows.lookup "internal/bytealg.Compare" = none := by rfl
theorem cmpGen : Extern.allGenericRows.lookup "internal/bytealg.Compare" = none := by rfl
theorem cmpTyped : Extern.allTypedRows.lookup "internal/bytealg.Compare" = none := by rfl
theorem cmpRow : Extern.allRows.lookup "internal/bytealg.Compare" = some Extern.BytealgCompare.compare := by rfl
theorem noNext : Extern.allNextRows.lookup "internal/bytealg.MakeNoZero" = none := by rfl
theorem noNext0 : Extern.allNextRows.lookup "" = none := by rfl
theorem noGen : Extern.allGenericRows.lookup "internal/bytealg.MakeNoZero" = none := by rfl
theorem isTyped : Extern.allTypedRows.lookup "internal/bytealg.MakeNoZero" = some Extern.BytealgMakeNoZero.makeNoZero := by rfl
theorem noZeroFn_find {P : Program} {fn : Func} (h : noZeroFn P fn = true) :
    (fn.name == "runtime.NumGoroutine") = false ∧ fn.body.isNone = true ∧ Extern.findNext fn = none ∧ ∃ t e, P.underlying t = some (.slice e) ∧ Extern.find fn = some (Extern.BytealgMakeNoZero.makeNoZero fn.params #[t]) := by
  simp only [noZeroFn, Bool.and_eq_true, beq_iff_eq, Bool.or_eq_true] at h
  obtain ⟨⟨⟨h1, h2⟩, h3⟩, h4⟩ := h
  refine ⟨by rw [h1]; decide, h2, ?_, ?_⟩
  · simp only [Extern.findNext, h1, noNext]
    rcases h3 with h3 | h3 <;> simp [h3, noNext, noNext0]
  · split at h4
    · rename_i t ht
      split at h4
      · rename_i e he
        refine ⟨t, e, he, ?_⟩
        have : fn.resultTypes = #[t] := by rw [← Array.toArray_toList (xs := fn.resultTypes), ht]
        simp only [Extern.find, h1, noGen, isTyped, this]
        rfl
      · cases h4
    · cases h4
theorem cmpFn_find {fn : Func} (h : cmpFn fn = true) : (fn.name == "runtime.NumGoroutine") = false ∧ fn.body.isNone = true ∧ Extern.findNext fn = none ∧ Extern.find fn = some Extern.BytealgCompare.compare := by
  simp only [cmpFn, Bool.and_eq_true, beq_iff_eq, Bool.or_eq_true] at h
  obtain ⟨⟨h1, h2⟩, h3⟩ := h
  refine ⟨by rw [h1]; decide, h2, ?_, ?_⟩
  · simp only [Extern.findNext, h1, cmpNext]
    rcases h3 with h3 | h3 <;> simp [h3, cmpNext, noNext0]
  · simp only [Extern.find, h1, cmpGen, cmpTyped, cmpRow]
    rfl
def resolveX (P : Program) : Op → XOp
  | .sliceToArrayPointer t x => match P.underlying t, resolveRv x with
    | some (.array n _), some r => .s2a n r
    | _, _ => .bad
  | .call c => match c.callee with
    | .value x => match extArg P x c.args.toList with
      | some r => r
      | none => .bad
    | _ => .bad
  | .makeMap t r => match P.underlying t with
    | some (.map _ _) => match r with
      | none => .mkMap
      | some (.const (.int _ _)) => .mkMap
      | _ => .bad
    | _ => .bad
  | .lookup t x k ok => match P.underlying t, resolveRv x, resolveRv k with
    | some (.map kt e), some rx, some rk => match zeroOf P e with
      | some (_, z) => if plainV z then .mapGet kt z ok rx rk else .bad
      | none => .bad
    | _, _, _ => .bad
  | .mapUpdate t x k v | .insert t x k v => match P.underlying t, resolveRv x, resolveRv k, resolveRv v with
    | some (.map kt _), some rx, some rk, some rv => .mapPut kt rx rk rv
    | _, _, _, _ => .bad
  | _ => .bad
section
variable {P : Program} {f : Regs} {m : Mem} {K : Value → Mem → Prop}
theorem botL_getD {n j : Nat} (h : j < n) : (List.replicate n botV).getD j undef = botV := by
  rw [List.getD_eq_getElem?_getD, List.getElem?_replicate, if_pos h]; rfl
theorem noZero_ok {r : Ren} {w : World} (hm : MemRel r m w) {ps : Array TypeId} {t e : TypeId} (ht : P.underlying t = some (.slice e)) {n : Nat} (hn2 : n ≤ 281474976710656) :
    StepOK P (Extern.BytealgMakeNoZero.makeNoZero ps #[t] #[.int .i64 n]) r m w (fun r' v' => VR r' (.slice (some ⟨m.next, 0, some 1⟩) n n) v') (m.add (.cells (List.replicate n botV) false)) := by
  obtain ⟨cells, hrun, hge, _⟩ := Lib.run_makeNoZero (P := P) w ps t e ht n hn2
  obtain ⟨r', g1, g2, g3⟩ := newRow_ok hm e (List.replicate n botV) cells (by simpa using hge) (fun j hj => by rw [botL_getD (by simpa using hj)]; exact .bot _) (w.drawn + 1 + 1)
  refine ⟨r', .slice (some ⟨w.heap.size, 0, none⟩) n cells.size, _, ?_, ?_, g1, g2⟩
  · rw [hrun]; rfl
  · refine .slice (Nat.le_refl _) ⟨hge, .inr ⟨rfl, _, g3, fun _ _ _ ee => by injection ee with e1 e2 e3; exact ⟨e1, by simp only; omega⟩⟩, fun e' he => .inr fun cb base csz hat => ?_, fun he => by cases he⟩
    injection he with he
    subst he
    simp only at hat
    rw [g3] at hat
    injection hat with hat
    injection hat with _ _ hcs
    rw [← hcs]
    simp
theorem VR.map_inv {r : Ren} {b : Nat} {v' : Value} (h : VR r (.map (some b)) v') : ∃ b', v' = .map (some b') ∧ ∃ l, r b = some l ∧ ∀ cb base csz, l = .at cb base csz → b' = cb := by
  cases h with
  | map h => exact ⟨_, rfl, h⟩
theorem VR.mnil_inv {r : Ren} {v' : Value} (h : VR r (.map none) v') : v' = .map none := by cases h; rfl
theorem live_map {r : Ren} {w : World} (hm : MemRel r m w) {b : Nat} {x' : Value} (hx : VR r (.map (some b)) x') {es : List (Value × Value)} (hg : m.get b = some (.map es)) :
    ∃ cb base csz ents clk, x' = .map (some cb) ∧ r b = some (.at cb base csz) ∧ w.heap[cb]? = some (.map ents clk) ∧ ents.toList.map (·.key) = es.map (·.1) ∧ (∀ p ∈ es, plainV p.1 = true) ∧
      ∀ i, VR r ((es.map (·.2)).getD i undef) ((ents.toList.map (·.val)).getD i undef) := by
  obtain ⟨b', rfl, l, hl, hat⟩ := hx.map_inv
  cases l with
  | dead => rw [hm.dead b hl] at hg; cases hg
  | «at» cb base csz =>
    obtain ⟨bb, h1, h2⟩ := hm.live b cb base csz hl
    rw [hg] at h1
    injection h1 with h1
    subst h1
    obtain ⟨ents, clk, e1, e2, e3, e4⟩ := h2
    rw [hat cb base csz rfl]
    exact ⟨cb, base, csz, ents, clk, rfl, hl, e1, e2, e3, e4⟩
theorem VR.eq_of_plainV {r : Ren} {v v' : Value} (h : VR r v v') (hp : plainV v = true) : v' = v := by
  cases v with
  | agg cs => exact h.eq_of_plains hp
  | _ => exact h.eq_of_plain hp
theorem mapV_rel {r : Ren} {ok : Bool} {z : Value} (hz : plainV z = true) {o o' : Option Value} (h : ∀ x y, o = some x → o' = some y → VR r x y) (hs : o.isSome = o'.isSome) : VR r (mapV ok z o) (if ok then .tuple #[o'.getD z, .bool o'.isSome] else o'.getD z) := by
  have h1 : VR r (o.getD z) (o'.getD z) := by
    cases o <;> cases o' <;> simp_all
    exact .of_plainV hz
  unfold mapV
  cases ok with
  | false => exact h1
  | true =>
    refine .tuple rfl fun i => ?_
    rcases i with _ | _ | i
    · exact h1
    · show VR r (.bool _) (.bool _)
      rw [hs]; exact .bool _
    · show VR r undef undef
      exact .und
theorem mapGet_ok {t kt e : TypeId} {i : TypeInfo} {z key x : Value} {ok : Bool} (ht : P.underlying t = some (.map kt e)) (hz : zeroOf P e = some (i, z)) (hp : plainV z = true)
    (hv : match x with
      | .map none => keyAt P true kt key [] = some none ∧ K (mapV ok z none) m
      | .map (some b) => match m.get b with
        | some (.map es) => ∃ r, keyAt P es.isEmpty kt key (es.map (·.1)) = some r ∧ K (mapV ok z (r.map fun i => (es.map (·.2)).getD i undef)) m
        | _ => False
      | _ => False) :
    ∃ v, K v m ∧ ∀ r' w' x'', MemRel r' m w' → VR r' x x'' → ∃ v', (Instr.lookup t x'' key ok).run P w' = .ok v' w' ∧ VR r' v v' := by
  obtain ⟨h1, h2, _⟩ := zeroOf_spec hz
  have hzr : ∀ w : World, (zeroValue e).run P w = .ok z w := fun w => by simp [zeroValue, typeInfo, h1, h2]
  split at hv
  · obtain ⟨hk, hv⟩ := hv
    refine ⟨_, hv, fun r' w' x'' hm' hx' => ?_⟩
    rw [hx'.mnil_inv]
    obtain ⟨g1, g2⟩ := keyAt_run hk (es := []) rfl w'
    refine ⟨_, ?_, mapV_rel hp (o' := none) (fun _ _ h => nomatch h) rfl⟩
    simp only [Instr.lookup, Sem.run_bind, run_underlying ht, Result.andThen_ok, Sem.run_pure, Array.isEmpty_empty, g1, g2, valAt, Option.map_none, hzr, Option.getD_none, Option.isSome_none]
  · rename_i b
    split at hv
    · rename_i es hg
      obtain ⟨ri, hk, hv⟩ := hv
      refine ⟨_, hv, fun r' w' x'' hm' hx' => ?_⟩
      obtain ⟨cb, base, csz, ents, clk, rfl, _, e2, e3, e4, e5⟩ := live_map hm' hx' hg
      obtain ⟨g1, g2⟩ := keyAt_run hk e3 w'
      have hemp : ents.isEmpty = es.isEmpty := by
        have := congrArg List.length e3
        simp only [List.length_map, Array.length_toList] at this
        cases es <;> simp_all [Array.isEmpty]
      refine ⟨_, ?_, mapV_rel hp (o := ri.map fun i => (es.map (·.2)).getD i undef) (o' := ri.map fun i => ((ents.toList[i]?).map (·.val)).getD undef) (fun x y hx hy => ?_) (by simp)⟩
      · simp only [Instr.lookup, Sem.run_bind, run_underlying ht, Result.andThen_ok, Sem.run_pure, MapKept.run_getObj_map e2, hemp, g1, g2, valAt]
        cases ri with
        | none => simp only [Option.map_none, Sem.run_bind, hzr, Result.andThen_ok, Sem.run_pure, Option.getD_none, Option.isSome_none]
        | some j => simp only [Option.map_some, Sem.run_bind, Sem.run_pure, Result.andThen_ok, Option.getD_some, Option.isSome_some]
      · cases ri with
        | none => cases hx
        | some j =>
          simp only [Option.map_some, Option.some.injEq] at hx hy
          subst hx hy
          have := e5 j
          rw [List.getD_eq_getElem?_getD (l := ents.toList.map (·.val)), List.getElem?_map] at this
          exact this
    · cases hv
  · cases hv
theorem mapPut_ok {t kt e : TypeId} {key x v : Value} (ht : P.underlying t = some (.map kt e)) (hkey : plainV key = true)
    (hv : match x with
      | .map (some b) => match m.get b with
        | some (.map es) => m.bar ≤ b ∧ ∃ r, keyAt P false kt key (es.map (·.1)) = some r ∧ match r with
          | none => K undef (m.put b (.map (es ++ [(key, v)])))
          | some i => i < es.length ∧ (es.map (·.1)).getD i undef = key ∧ Instr.sameBits 10000 key key = true ∧ K undef (m.put b (.map (es.set i (key, v))))
        | _ => False
      | _ => False) :
    ∃ m', MExt m m' ∧ K undef m' ∧ ∀ r w x' v', MemRel r m w → VR r x x' → VR r v v' → ∃ w', (Instr.mapUpdate t x' key v').run P w = .ok () w' ∧ MemRel r m' w' ∧ Fr r r m w w' := by
  split at hv
  · rename_i b
    split at hv
    · rename_i es hg
      obtain ⟨hbar, ri, hk, hv⟩ := hv
      have put : ∀ (es' : List (Value × Value)) (r : Ren) (w : World) (cb base csz : Nat) (ents : Array MapEntry) (clk : Nat) (ents' : Array MapEntry) (clk' : Nat), MemRel r m w → r b = some (.at cb base csz) → w.heap[cb]? = some (.map ents clk) →
          ents'.toList.map (·.key) = es'.map (·.1) → (∀ p ∈ es', plainV p.1 = true) → (∀ i, VR r ((es'.map (·.2)).getD i undef) ((ents'.toList.map (·.val)).getD i undef)) →
          MemRel r (m.put b (.map es')) { w with heap := w.heap.setIfInBounds cb (.map ents' clk') } ∧ Fr r r m w { w with heap := w.heap.setIfInBounds cb (.map ents' clk') } := by
        intro es' r w cb base csz ents clk ents' clk' hm hr hh h1 h2 h3
        have hlt : cb < w.heap.size := by
          rcases Nat.lt_or_ge cb w.heap.size with h | h
          · exact h
          · rw [Array.getElem?_eq_none h] at hh; cases hh
        exact hm.put hr hbar (o' := .map ents' clk') (heap' := w.heap.setIfInBounds cb (.map ents' clk')) (by simp) (by simp [hlt]) (fun k hk => by rw [Array.getElem?_setIfInBounds_ne (Ne.symm hk)]) ⟨ents', clk', rfl, h1, h2, h3⟩
      cases ri with
      | none =>
        refine ⟨_, MExt.put hbar _, hv, fun r w x' v' hm hx hvv => ?_⟩
        obtain ⟨cb, base, csz, ents, clk, rfl, hr, e2, e3, e4, e5⟩ := live_map hm hx hg
        obtain ⟨g1, g2⟩ := keyAt_run hk e3 w
        refine ⟨_, ?_, put _ r w cb base csz ents clk (ents.push ⟨key, v', clk⟩) (clk + 1) hm hr e2 (by simp [e3]) (fun p hp => ?_) (fun i => ?_)⟩
        · simp only [Instr.mapUpdate, Sem.run_bind, run_underlying ht, Result.andThen_ok, MapKept.run_getObj_map e2, g1, g2, valAt, Option.map_none, MapKept.run_setObj_map _ e2]
        · rcases List.mem_append.1 hp with hp | hp
          · exact e4 p hp
          · rw [List.mem_singleton.1 hp]; exact hkey
        · have hl : es.length = ents.toList.length := by have := congrArg List.length e3; simpa using this.symm
          simp only [Array.toList_push, List.map_append, List.map_cons, List.map_nil]
          rw [lappend_getD, lappend_getD]
          simp only [List.length_map, hl]
          split
          · exact e5 i
          · rcases hi : i - ents.toList.length with _ | j
            · exact hvv
            · simpa using VR.und
      | some j =>
        obtain ⟨hj, hjk, hsame, hv⟩ := hv
        refine ⟨_, MExt.put hbar _, hv, fun r w x' v' hm hx hvv => ?_⟩
        obtain ⟨cb, base, csz, ents, clk, rfl, hr, e2, e3, e4, e5⟩ := live_map hm hx hg
        obtain ⟨g1, g2⟩ := keyAt_run hk e3 w
        have hl : es.length = ents.toList.length := by have := congrArg List.length e3; simpa using this.symm
        have hje : j < ents.size := by simpa [hl] using hj
        have hkj : ents[j].key = key := by
          have h1 : (ents.toList.map (·.key)).getD j undef = key := by rw [e3]; exact hjk
          simpa [List.getD_eq_getElem?_getD, hje] using h1
        have hold : ((ents[j]?).map (·.key)).getD key = key := by simp [hje, hkj]
        have hkts : (Instr.keyThatStays key key).run P w = .ok key w := by simp [Instr.keyThatStays, hsame]
        have hmod : (ents.modify j fun e => { e with key := key, val := v' }).toList = ents.toList.set j { ents[j] with key := key, val := v' } := by
          rw [Array.toList_modify]
          refine List.ext_getElem? fun k => ?_
          rw [List.getElem?_modify, List.getElem?_set]
          by_cases hk : j = k
          · subst hk; simp [hje]
          · simp [hk]
        refine ⟨_, ?_, put _ r w cb base csz ents clk (ents.modify j fun e => { e with key := key, val := v' }) clk hm hr e2 ?_ (fun p hp => ?_) (fun i => ?_)⟩
        · simp only [Instr.mapUpdate, Sem.run_bind, run_underlying ht, Result.andThen_ok, MapKept.run_getObj_map e2, g1, g2, valAt, Option.map_some, hold, hkts, MapKept.run_setObj_map _ e2]
        · rw [hmod, List.map_set, List.map_set, e3]
        · rcases List.mem_or_eq_of_mem_set hp with hp | hp
          · exact e4 p hp
          · rw [hp]; exact hkey
        · rw [hmod, List.map_set, List.map_set]
          simp only [List.getD_eq_getElem?_getD, List.getElem?_set, List.length_map, ← hl, hj, if_true]
          split
          · exact hvv
          · have := e5 i
            simpa only [List.getD_eq_getElem?_getD] using this
    · cases hv
  · cases hv
theorem sound_x {o : Oper} (hv : (resolveX P o.op).vc P f m K) (hwf : m.bar ≤ m.next) : Sound P o f m K := by
  obtain ⟨dst, op, type, pos, after, guard⟩ := o
  simp only at hv
  unfold resolveX at hv
  split at hv
  · rename_i t x
    split at hv
    · rename_i n e r hn hr
      simp only [XOp.vc] at hv
      split at hv
      · rename_i a k c ha
        obtain ⟨h1, h2, hk⟩ := hv
        refine .plain hk fun r w a0 hm ht => ?_
        have hx := rvR hr (by simp [Op.operands]) ht
        rw [ha] at hx
        generalize he : a0.eval x = v' at hx
        cases hx with
        | slice hn' hs =>
          rename_i a' c'
          refine ⟨.pointer (some a'), ?_, ?_⟩
          · have : ¬ k < n := by omega
            simp [execOp, Instr.arrayAt, run_underlying hn, he, this]
          · refine .ptr rfl ?_
            rcases hs.loc with h0 | h0
            · have := hs.le; omega
            · exact h0
      · cases hv
    · cases hv
  · rename_i c
    obtain ⟨callee, args, ts⟩ := c
    cases callee with
    | builtin b => cases hv
    | invoke r n => cases hv
    | value x =>
      simp only at hv
      split at hv
      · rename_i xo hz
        unfold extArg at hz
        split at hz
        · rename_i ry hno'
          simp only [Option.some.injEq] at hz
          subst hz
          unfold noZeroArg at hno'
          split at hno'
          · rename_i g y hargs
            split at hno'
            · rename_i fn hfn
              split at hno'
              · rename_i hno
                simp only [XOp.vc] at hv
                split at hv
                · rename_i n hn
                  obtain ⟨h1, h2, hk⟩ := hv
                  obtain ⟨e1, e2, e3, t, e, e4, e5⟩ := noZeroFn_find hno
                  have ea : args = #[y] := by rw [← Array.toArray_toList (xs := args), hargs]
                  subst ea
                  obtain ⟨n', rfl⟩ : ∃ n' : Nat, n = n' := ⟨n.toNat, by omega⟩
                  refine ⟨_, _, OpEv.of_run (MExt.add hwf _) fun r w a hm ht => ?_, hk⟩
                  have hy := rvR hno' (by simp [Op.operands, Call.operands]) ht
                  rw [hn] at hy
                  have hy' : a.eval y = .int .i64 n' := by generalize a.eval y = v at hy; cases hy with | int => rfl
                  obtain ⟨r', v', w', hrun, k1, k2, k3⟩ := noZero_ok (P := P) (ps := fn.params) hm e4 (n := n') (by omega)
                  refine ⟨r', v', w', .inl ?_, k1, k2, k3⟩
                  have hc := run_callFunc_extern (P := P) hfn e1 e2 e3 e5 #[.int .i64 n'] w
                  rw [hrun] at hc
                  have ha : (#[y] : Array Operand).map a.eval = #[.int .i64 n'] := by simp [hy']
                  simp only [execOp, resolve, ha]
                  exact hc
                · cases hv
              · cases hno'
            · cases hno'
          · cases hno'
        · split at hz
          · rename_i g y y2 hargs _
            split at hz
            · rename_i fn hfn
              split at hz
              · rename_i hcf
                split at hz
                · rename_i ra rb hra hrb
                  simp only [Option.some.injEq] at hz
                  subst hz
                  simp only [XOp.vc] at hv
                  split at hv
                  · rename_i A n c0 B k c1 hA hB
                    split at hv
                    · rename_i l l' hl hl'
                      split at hv
                      · rename_i bs cs hbs hcs
                        have ea : args = #[y, y2] := by rw [← Array.toArray_toList (xs := args), hargs]
                        subst ea
                        obtain ⟨e1, e2, e3, e4⟩ := cmpFn_find hcf
                        refine .plain hv fun r w a hm ht => ?_
                        have hy := rvR hra (by simp [Op.operands, Call.operands]) ht
                        have hz := rvR hrb (by simp [Op.operands, Call.operands]) ht
                        rw [hA] at hy
                        rw [hB] at hz
                        have hc := run_callFunc_extern (P := P) hfn e1 e2 e3 e4 #[a.eval y, a.eval y2] w
                        have hr : (Extern.BytealgCompare.compare #[a.eval y, a.eval y2]).run P w = .ok (.int .i64 (cmpL bs cs)) w := by
                          change Sem.run P (do pure (goInt (Extern.BytealgCompare.cmp (← Extern.Bytes.bytesOf (a.eval y)) (← Extern.Bytes.bytesOf (a.eval y2))))) w = _
                          simp only [Sem.run_bind, extBytes_ok hm hy hl hbs, extBytes_ok hm hz hl' hcs, Result.andThen_ok, Sem.run_pure, cmp_eq, goInt]
                        rw [hr] at hc
                        refine ⟨_, ?_, .int _ _⟩
                        have ha : (#[y, y2] : Array Operand).map a.eval = #[a.eval y, a.eval y2] := by simp
                        simp only [execOp, resolve, ha]
                        exact hc
                      · cases hv
                    · cases hv
                  · cases hv
                · cases hz
              · cases hz
            · cases hz
          · cases hz
      · cases hv
  · rename_i t rs
    split at hv
    · rename_i kt e hmt
      have key : K (.map (some m.next)) (m.add (.map [])) → (∀ a : Act, ∀ x, rs = some x → ∃ k n, a.eval x = .int k n) → Sound P ⟨dst, .makeMap t rs, type, pos, after, guard⟩ f m K := fun hk hr => by
        refine ⟨_, _, OpEv.of_run (MExt.add hwf _) fun r w a hm ht => ?_, hk⟩
        obtain ⟨k1, k2⟩ := hm.add (.map []) (.map #[] 0) 0 (fun r' _ => ⟨#[], 0, rfl, rfl, (fun _ h => nomatch h), fun i => by simpa using VR.und⟩) w.drawn
        refine ⟨_, .map (some w.heap.size), _, .inl ?_, .map ⟨_, if_pos rfl, fun _ _ _ h => by injection h⟩, k1, k2⟩
        have hmk : (Instr.makeMap t (rs.map a.eval)).run P w = .ok (.map (some w.heap.size)) { w with heap := w.heap.push (.map #[] 0) } := by
          cases rs with
          | none => rfl
          | some x =>
            obtain ⟨k, n, hx⟩ := hr a x rfl
            simp only [Instr.makeMap, Option.map_some, Sem.run_bind, run_underlying hmt, Result.andThen_ok, hx, asInt, asIntOf, Sem.run_pure]
            rfl
        simp only [execOp, Sem.run_bind, hmk, Result.andThen_ok, Sem.run_pure]
      split at hv
      · exact key hv fun _ _ h => nomatch h
      · exact key hv fun a x h => by injection h with h; subst h; exact ⟨_, _, rfl⟩
      · cases hv
    · cases hv
  · rename_i t x k ok
    split at hv
    · rename_i kt e rx rk hmt hrx hrk
      split at hv
      · rename_i i z hz
        split at hv
        · rename_i hp
          simp only [XOp.vc] at hv
          obtain ⟨hkey, hv⟩ := hv
          obtain ⟨v, hk, hrun⟩ := mapGet_ok hmt hz hp hv
          refine .plain hk fun r w a hm ht => ?_
          have h1 := rvR hrx (by simp [Op.operands]) ht
          have h2 := (rvR hrk (by simp [Op.operands]) ht).eq_of_plainV hkey
          obtain ⟨v', g1, g2⟩ := hrun r w _ hm h1
          refine ⟨v', ?_, g2⟩
          rw [← h2] at g1
          simp only [execOp, Sem.run_bind, g1, Result.andThen_ok, Sem.run_pure]
        · cases hv
      · cases hv
    · cases hv
  · rename_i t x k v
    split at hv
    · rename_i kt e rx rk rv hmt hrx hrk hrv
      simp only [XOp.vc] at hv
      obtain ⟨hkey, hv⟩ := hv
      obtain ⟨m', hx, hk, hrun⟩ := mapPut_ok hmt hkey hv
      refine ⟨_, m', OpEv.of_run hx fun r w a hm ht => ?_, hk⟩
      have h1 := rvR hrx (by simp [Op.operands]) ht
      have h2 := (rvR hrk (by simp [Op.operands]) ht).eq_of_plainV hkey
      have h3 := rvR hrv (by simp [Op.operands]) ht
      obtain ⟨w', g1, g2, g3⟩ := hrun r w _ _ hm h1 h3
      rw [← h2] at g1
      exact ⟨r, undef, w', .inr ⟨by simp only [execOp, Sem.run_bind, g1, Result.andThen_ok, Sem.run_pure], rfl⟩, .und, g2, g3⟩
    · cases hv
  · rename_i t x k v
    split at hv
    · rename_i kt e rx rk rv hmt hrx hrk hrv
      simp only [XOp.vc] at hv
      obtain ⟨hkey, hv⟩ := hv
      obtain ⟨m', hx, hk, hrun⟩ := mapPut_ok hmt hkey hv
      refine ⟨_, m', OpEv.of_run hx fun r w a hm ht => ?_, hk⟩
      have h1 := rvR hrx (by simp [Op.operands]) ht
      have h2 := (rvR hrk (by simp [Op.operands]) ht).eq_of_plainV hkey
      have h3 := rvR hrv (by simp [Op.operands]) ht
      obtain ⟨w', g1, g2, g3⟩ := hrun r w _ _ hm h1 h3
      rw [← h2] at g1
      exact ⟨r, undef, w', .inr ⟨by simp only [execOp, Sem.run_bind, g1, Result.andThen_ok, Sem.run_pure], rfl⟩, .und, g2, g3⟩
    · cases hv
  · cases hv
end
end Go.Ga

namespace Go.Ga
open Go
inductive Res where
  | ret (v : Value)
  | pan (v : Value)
def ResRel (r : Ren) : Res → Ending → Prop
  | .ret v, .returned v' => VR r v v'
  | .pan v, .panicked ch => ∃ v', ch = [{ v := v', recovered := false }] ∧ VR r v v'
  | _, _ => False
def FnEv (P : Program) (g : FuncId) (args : List Value) (m : Mem) (res : Res) (m' : Mem) : Prop :=
  (∃ fn, P.funcs[g]? = some fn ∧ fn.body.isSome = true ∧ (fn.name == "runtime.NumGoroutine") = false) ∧ MExt m m' ∧
  ∀ (r : Ren) (w : World) (args' : Array Value), MemRel r m w → args'.size = args.length → (∀ i, VR r (args.getD i undef) (args'.getD i undef)) →
    Calls P g args' w fun e w' => ∃ r', ResRel r' res e ∧ MemRel r' m' w' ∧ Fr r r' m w w'
def Fn (P : Program) (g : FuncId) (args : List Value) (m : Mem) (K : Res → Mem → Prop) : Prop :=
  m.bar ≤ m.next → ∃ res m', FnEv P g args m res m' ∧ K res m'
theorem Fn.mono {P : Program} {g : FuncId} {args : List Value} {m : Mem} {K K' : Res → Mem → Prop} (h : Fn P g args m K) (hk : ∀ res m', MExt m m' → K res m' → K' res m') : Fn P g args m K' := fun hwf => by
  obtain ⟨res, m', h1, h2⟩ := h hwf
  exact ⟨res, m', h1, hk _ _ h1.2.1 h2⟩
inductive Item where
  | op (o : ROp)
  | call (f : Rv) (args : List Rv)
  | pan (x : Rv)
  | xop (o : XOp)
def Item.vc (P : Program) (f : Regs) (m : Mem) (K Kp : Value → Mem → Prop) : Item → Prop
  | .op o => o.vc P f m K
  | .call x args => match x.ev f with
    | .func (.func g) fs caps => fs = #[] ∧ Fn P g ((args.map fun y => y.ev f) ++ caps.toList) m fun res m' => match res with
      | .ret v => K v m'
      | .pan v => Kp v m'
    | _ => False
  | .pan x => match x.ev f with
    | .iface t v => Kp (.iface t v) m
    | _ => False
  | .xop o => o.vc P f m K
inductive Out where
  | val (v : Value) (m : Mem)
  | pan (v : Value) (m : Mem)
def OpPan (P : Program) (o : Oper) (f : Regs) (m : Mem) (v : Value) (m' : Mem) : Prop :=
  MExt m m' ∧ ∀ (r : Ren) (w : World) (a : Act), MemRel r m w → (∀ t, Operand.tmp t ∈ o.op.operands → VR r (f t) (a.eval (.tmp t))) →
    ∀ (K : Act → World → Prop) (Q : Exit → Act → World → Prop), (∀ r' v' w', VR r' v v' → MemRel r' m' w' → Fr r r' m w w' → Q (.panic [{ v := v', recovered := false }]) a w') → o.wp P a w K Q
def OpOut (P : Program) (o : Oper) (f : Regs) (m : Mem) : Out → Prop
  | .val v m' => OpEv P o f m v m'
  | .pan v m' => OpPan P o f m v m'
def otherItem (P : Program) (op : Op) : Option Item :=
  match resolveOp P op with
  | some r => some (.op r)
  | none => some (.xop (resolveX P op))
def resolveItem (P : Program) (op : Op) : Option Item :=
  match op with
  | .call c => match c.callee with
    | .value x => match extArg P x c.args.toList with
      | some y => some (.xop y)
      | none => match resolveRv x, resolveRvs c.args.toList with
        | some f, some as => some (.call f as)
        | _, _ => some (.xop .bad)
    | .builtin _ => otherItem P (.call c)
    | _ => some (.xop .bad)
  | .panic x => match resolveRv x with
    | some r => some (.pan r)
    | none => some (.xop .bad)
  | op => otherItem P op
section
variable {P : Program} {f : Regs} {m : Mem} {K Kp : Value → Mem → Prop}
theorem callFunc_run {g : FuncId} {args : Array Value} {fn : Func} (h1 : P.funcs[g]? = some fn) (h2 : fn.body.isSome = true) (h3 : (fn.name == "runtime.NumGoroutine") = false) (w : World) : (callFunc g args).run P w = .ok (.enter g args) w := by
  have h4 : fn.body.isNone = false := by cases hb : fn.body <;> simp_all
  simp only [callFunc, Sem.run_bind, run_program, Result.andThen_ok, h1, h3, h4, Bool.false_eq_true, if_false, Sem.run_pure]
theorem sound_item {o : Oper} {it : Item} (h : resolveItem P o.op = some it) (hv : it.vc P f m K Kp) (hwf : m.bar ≤ m.next) :
    ∃ out, OpOut P o f m out ∧ (match out with | .val v m' => K v m' | .pan v m' => Kp v m') := by
  have plainOp : otherItem P o.op = some it → ∃ out, OpOut P o f m out ∧ (match out with | .val v m' => K v m' | .pan v m' => Kp v m') := by
    intro hr
    unfold otherItem at hr
    split at hr
    · rename_i rop hr'
      simp only [Option.some.injEq] at hr
      subst hr
      obtain ⟨v, m', h1, h2⟩ := sound hr' hv hwf
      exact ⟨.val v m', h1, h2⟩
    · simp only [Option.some.injEq] at hr
      subst hr
      obtain ⟨v, m', h1, h2⟩ := sound_x hv hwf
      exact ⟨.val v m', h1, h2⟩
  have noBad : it ≠ .xop .bad := by
    rintro rfl
    exact hv
  obtain ⟨dst, op, type, pos, after, guard⟩ := o
  simp only at h plainOp
  cases op with
  | call c =>
    obtain ⟨callee, args, ts⟩ := c
    cases callee with
    | builtin b => exact plainOp h
    | invoke r n =>
      simp only [resolveItem, Option.some.injEq] at h
      exact absurd h.symm noBad
    | value x =>
      simp only [resolveItem] at h
      split at h
      · rename_i y hy
        have e : resolveX P (.call ⟨.value x, args, ts⟩) = y := by simp only [resolveX, hy]
        simp only [Option.some.injEq] at h
        subst h
        obtain ⟨v, m', h1, h2⟩ := sound_x (o := ⟨dst, .call ⟨.value x, args, ts⟩, type, pos, after, guard⟩) (P := P) (by rw [e]; exact hv) hwf
        exact ⟨.val v m', h1, h2⟩
      split at h
      case h_2 => exact absurd (Option.some.inj h).symm noBad
      rename_i rx rs hx hrs
      simp only [Option.some.injEq] at h
      subst h
      simp only [Item.vc] at hv
      split at hv
      · rename_i g fs caps he
        obtain ⟨rfl, hv⟩ := hv
        obtain ⟨res, m', ⟨⟨fn, f1, f2, f3⟩, hext, hcalls⟩, hK⟩ := hv hwf
        have run : ∀ (r : Ren) (w : World) (a : Act), MemRel r m w → (∀ t, Operand.tmp t ∈ (Op.call ⟨.value x, args, ts⟩).operands → VR r (f t) (a.eval (.tmp t))) →
            ∃ args', (execOp a.eval ⟨dst, .call ⟨.value x, args, ts⟩, type, pos, after, guard⟩).run P w = .ok (.enter g args') w ∧ Calls P g args' w fun e w' => ∃ r', ResRel r' res e ∧ MemRel r' m' w' ∧ Fr r r' m w w' := by
          intro r w a hm ht
          have e1 := rvR hx (by simp [Op.operands, Call.operands]) ht
          rw [he] at e1
          obtain ⟨cs', ex, hcs, hcv⟩ : ∃ cs', a.eval x = .func (.func g) #[] cs' ∧ caps.size = cs'.size ∧ ∀ i, VR r (caps.getD i undef) (cs'.getD i undef) := by
            generalize a.eval x = v' at e1
            cases e1 with
            | func fn hs h => exact ⟨_, rfl, hs, h⟩
          obtain ⟨g1, g2⟩ := resolveRvs_spec (f := f) (r := r) (a := a) hrs (fun t hm => ht t (by
            have hm : Operand.tmp t ∈ args := by simpa using hm
            simp [Op.operands, Call.operands, hm]))
          refine ⟨(#[] ++ args.map a.eval) ++ cs', ?_, hcalls r w _ hm (by simp [g1, hcs]) fun i => ?_⟩
          · show (do let d ← resolve a.eval ⟨.value x, args, ts⟩ type; invoke d.target d.args).run P w = _
            simp only [resolve, ex, Deferred.ofValue, pure_bind, invoke, callFunc_run f1 f2 f3]
          · rw [← toList_getD]
            have : ((#[] ++ args.map a.eval) ++ cs').toList = (args.toList.map a.eval) ++ cs'.toList := by simp
            rw [this, lappend_getD, lappend_getD]
            simp only [List.length_map, g1]
            split
            · exact g2 i
            · rw [toList_getD, toList_getD]; exact hcv _
        cases res with
        | ret v =>
          refine ⟨.val v m', ⟨hext, fun r w a hm ht K Q hk => ?_⟩, hK⟩
          obtain ⟨args', hrun, hc⟩ := run r w a hm ht
          unfold Oper.wp
          rw [hrun]
          refine hc.mono fun e w' hw => ?_
          obtain ⟨r', hres, hm', hf⟩ := hw
          cases e with
          | returned v' => exact hk r' v' w' hres hm' hf
          | panicked ch => exact hres.elim
          | outgrown => exact hres.elim
        | pan v =>
          refine ⟨.pan v m', ⟨hext, fun r w a hm ht K Q hk => ?_⟩, hK⟩
          obtain ⟨args', hrun, hc⟩ := run r w a hm ht
          unfold Oper.wp
          rw [hrun]
          refine hc.mono fun e w' hw => ?_
          obtain ⟨r', hres, hm', hf⟩ := hw
          cases e with
          | returned v' => exact hres.elim
          | panicked ch =>
            obtain ⟨v', rfl, hv'⟩ := hres
            exact hk r' v' w' hv' hm' hf
          | outgrown => exact hres.elim
      · cases hv
  | panic x =>
    simp only [resolveItem] at h
    split at h
    case h_2 => exact absurd (Option.some.inj h).symm noBad
    rename_i rx hx
    simp only [Option.some.injEq] at h
    subst h
    simp only [Item.vc] at hv
    split at hv
    · rename_i t v he
      refine ⟨.pan _ m, ⟨MExt.refl m, fun r w a hm ht K Q hk => ?_⟩, hv⟩
      have e1 := rvR hx (by simp [Op.operands]) ht
      rw [he] at e1
      obtain ⟨v', ex, hv'⟩ : ∃ v', a.eval x = .iface t v' ∧ VR r v v' := by
        generalize a.eval x = u at e1
        cases e1 with
        | iface t h => exact ⟨_, rfl, h⟩
      have hrun : (execOp a.eval ⟨dst, .panic x, type, pos, after, guard⟩).run P w = .halt (.panic (.iface t v')) w := by
        simp [execOp, ex, Instr.panic]
      unfold Oper.wp
      rw [hrun]
      exact hk r _ w (.iface t hv') hm (Fr.refl r m w)
    · cases hv
  | _ => exact plainOp h
end
end Go.Ga
