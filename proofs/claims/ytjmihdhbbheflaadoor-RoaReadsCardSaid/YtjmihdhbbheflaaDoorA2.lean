/- Words and contracts of functions for the statement's proof. No condition. -/
import Derived.Test.YtjmihdhbbheflaaDoorA1
import Derived.Laws.Entries
import Derived.Test.YtjmihdhbbheflaaDoorProg
import Derived.KernelRfl
set_option linter.all false

namespace Go.Ga
open Go
structure RO where
  dst : Option Nat
  it : Item
  guard : Option (Nat × Bool)
inductive AEx where
  | normal
  | exit (id : Nat)
  | goto (l : Nat)
  | ret
  | pan (v : Value)
def putR (f : Regs) (d : Option Nat) (v : Value) : Regs :=
  match d with
  | none => f
  | some d => fun i => if i = d then v else f i
def wantedA (g : Option (Nat × Bool)) (f : Regs) : Option Bool :=
  match g with
  | none => some true
  | some (s, want) => match f s with
    | .bool b => some (b == want)
    | .chan _ => none
    | _ => some false
def goOps (P : Program) : List RO → Regs → Mem → (AEx → Regs → Mem → Prop) → Prop
  | [], f, m, Q => Q .normal f m
  | o :: l, f, m, Q => match wantedA o.guard f with
    | some true => o.it.vc P f m (fun v m' => goOps P l (putR f o.dst v) m' Q) (fun v m' => Q (.pan v) f m')
    | some false => goOps P l (putR f o.dst undef) m Q
    | none => False
def Mem.raise (m : Mem) : Mem := { m with bar := m.next }
def Mem.lower (m : Mem) (b : Nat) : Mem := { m with bar := b }
def goQuiet (P : Program) : List RO → Regs → Mem → (Regs → Mem → Prop) → Prop
  | [], f, m, Q => Q f m
  | o :: l, f, m, Q => match wantedA o.guard f with
    | some true => o.it.vc P f m.raise (fun v m' => goQuiet P l (putR f o.dst v) (m'.lower m.bar) Q) (fun _ _ => False)
    | some false => goQuiet P l (putR f o.dst undef) m Q
    | none => False
def resolveOper (P : Program) (ops : Array Oper) (o : Oper) : Option RO :=
  match resolveItem P o.op with
  | none => none
  | some it => match o.guard with
    | none => some ⟨o.dst, it, none⟩
    | some (j, want) => match (ops[j]?).bind (·.dst) with
      | some s => some ⟨o.dst, it, some (s, want)⟩
      | none => none
def resolveOpers (P : Program) (ops : Array Oper) : List Oper → Option (List RO)
  | [] => some []
  | o :: l => match resolveOper P ops o, resolveOpers P ops l with
    | some r, some rs => some (r :: rs)
    | _, _ => none
def tmpsOf (o : Oper) : List Nat := o.op.operands.toList.filterMap fun | .tmp t => some t | _ => none
def guardSlot (ops : Array Oper) (o : Oper) : Option Nat :=
  match o.guard with
  | none => none
  | some (j, _) => (ops[j]?).bind (·.dst)
def boundedOp (N : Nat) (ops : Array Oper) (o : Oper) : Bool :=
  (tmpsOf o).all (· < N) && o.dst.all (· < N) && (guardSlot ops o).all (· < N)
section
variable {P : Program} {N : Nat} {ops : Array Oper} [Inhabited (List Deferred)]
theorem mem_tmpsOf {o : Oper} {t : Nat} : Operand.tmp t ∈ o.op.operands ↔ t ∈ tmpsOf o := by
  simp only [tmpsOf, List.mem_filterMap]
  constructor
  · intro h
    exact ⟨.tmp t, by simpa using h, rfl⟩
  · rintro ⟨x, hx, he⟩
    cases x with
    | tmp u => simp only [Option.some.injEq] at he; subst he; simpa using hx
    | _ => cases he
theorem wanted_rel {r : Ren} {f : Regs} {a : Act} {o : Oper} {ro : RO} {b : Bool} (h : resolveOper P ops o = some ro) (hw : wantedA ro.guard f = some b) (hb : boundedOp N ops o = true) (hN : a.tmps.size = N)
    (hv : ∀ s, guardSlot ops o = some s → VR r (f s) (a.tmps.getD s undef)) : Region.wanted o (yielded ops a.tmps) = b := by
  unfold resolveOper at h
  split at h
  · cases h
  · split at h
    · rename_i hg
      simp only [Option.some.injEq] at h
      subst h
      simp only [wantedA, Option.some.injEq] at hw
      subst hw
      simp [Region.wanted, hg]
    · rename_i j want hg
      split at h
      · rename_i s hs
        simp only [Option.some.injEq] at h
        subst h
        have hgs : guardSlot ops o = some s := by simp [guardSlot, hg, hs]
        have hr := hv s hgs
        have hlt : s < a.tmps.size := by
          simp only [boundedOp, hgs, Option.all_some, Bool.and_eq_true, decide_eq_true_eq] at hb
          rw [hN]
          exact hb.2
        have hy : yielded ops a.tmps j = match a.tmps.getD s undef with | .bool b => some b | _ => none := by
          simp only [yielded, hs, Option.bind_some, getD_eq_some hlt]
          cases a.tmps.getD s undef <;> rfl
        simp only [Region.wanted, hg, hy]
        simp only [wantedA] at hw
        generalize a.tmps.getD s undef = v' at hr
        generalize f s = v at hr hw
        cases hr <;> simp_all [botV, undef]
      · cases h
theorem putR_rel {r r' : Ren} {f : Regs} {a : Act} (hx : Ext r r') (hN : a.tmps.size = N) (h : ∀ i, i < N → VR r (f i) (a.tmps.getD i undef)) {v v' : Value} (hv : VR r' v v') (d : Option Nat) :
    (a.put d v').tmps.size = N ∧ ∀ i, i < N → VR r' (putR f d v i) ((a.put d v').tmps.getD i undef) := by
  cases d with
  | none => exact ⟨hN, fun i hi => (h i hi).mono hx⟩
  | some d =>
    refine ⟨by simp [Act.put, hN], fun i hi => ?_⟩
    simp only [putR, Act.put]
    by_cases hid : i = d
    · subst hid
      rw [if_pos rfl]
      simpa [Array.getD, hN, hi] using hv
    · rw [if_neg hid]
      have e : (a.tmps.setIfInBounds d v').getD i undef = a.tmps.getD i undef := by
        simp only [Array.getD_eq_getD_getElem?, Array.getElem?_setIfInBounds_ne (show d ≠ i from fun e => hid e.symm)]
      rw [e]
      exact (h i hi).mono hx
def RegRel [Inhabited (List Deferred)] (N : Nat) (r : Ren) (f : Regs) (a : Act) : Prop := a.tmps.size = N ∧ a.defers = default ∧ ∀ i, i < N → VR r (f i) (a.tmps.getD i undef)
def ExRel (r : Ren) : AEx → Exit → Prop
  | .normal, .normal => True
  | .exit i, .exit j => i = j
  | .goto i, .goto j => i = j
  | .ret, .ret => True
  | .pan v, .panic ch => ∃ v', ch = [{ v := v', recovered := false }] ∧ VR r v v'
  | _, _ => False
def Post [Inhabited (List Deferred)] (N : Nat) (r : Ren) (m : Mem) (w : World) (ex : AEx) (f' : Regs) (m' : Mem) (e : Exit) (a' : Act) (w' : World) : Prop :=
  ∃ r', ExRel r' ex e ∧ MemRel r' m' w' ∧ RegRel N r' f' a' ∧ Fr r r' m w w'
theorem put_defers (a : Act) (d : Option Tmp) (v : Value) : (a.put d v).defers = a.defers := by cases d <;> rfl
theorem RegRel.put {r r' : Ren} {f : Regs} {a : Act} (h : RegRel N r f a) (hx : Ext r r') {v v' : Value} (hv : VR r' v v') (d : Option Nat) : RegRel N r' (putR f d v) (a.put d v') := by
  obtain ⟨h1, h2⟩ := putR_rel hx h.1 h.2.2 hv d
  exact ⟨h1, by rw [put_defers]; exact h.2.1, h2⟩
theorem RegRel.mono {r r' : Ren} {f : Regs} {a : Act} (h : RegRel N r f a) (hx : Ext r r') : RegRel N r' f a := ⟨h.1, h.2.1, fun i hi => (h.2.2 i hi).mono hx⟩
theorem bounded_tmps {o : Oper} (hb : boundedOp N ops o = true) : ∀ t, Operand.tmp t ∈ o.op.operands → t < N := by
  intro t ht
  simp only [boundedOp, Bool.and_eq_true, List.all_eq_true, decide_eq_true_eq] at hb
  exact hb.1.1 t (mem_tmpsOf.1 ht)
theorem bounded_guard {o : Oper} (hb : boundedOp N ops o = true) : ∀ s, guardSlot ops o = some s → s < N := by
  intro s hs
  simp only [boundedOp, hs, Option.all_some, Bool.and_eq_true, decide_eq_true_eq] at hb
  exact hb.2
theorem stepOp {i : Nat} {o : Oper} {ro : RO} (hi : ops[i]? = some o) (hr : resolveOper P ops o = some ro) (hb : boundedOp N ops o = true) {f : Regs} {m : Mem} {out : Out} (hout : OpOut P o f m out) (hw : wantedA ro.guard f = some true)
    {r : Ren} {w : World} {a : Act} (hm : MemRel r m w) (hN : a.tmps.size = N) (hv : ∀ t, Operand.tmp t ∈ o.op.operands → VR r (f t) (a.eval (.tmp t))) (hg : ∀ s, guardSlot ops o = some s → VR r (f s) (a.tmps.getD s undef))
    {K : Act → World → Prop} {Q : Exit → Act → World → Prop}
    (hk : ∀ v m', out = .val v m' → ∀ r' v' w', VR r' v v' → MemRel r' m' w' → Fr r r' m w w' → K (a.put o.dst v') w')
    (hp : ∀ v m', out = .pan v m' → ∀ r' v' w', VR r' v v' → MemRel r' m' w' → Fr r r' m w w' → Q (.panic [{ v := v', recovered := false }]) a w') :
    wpOp P ops Q i K a w := by
  unfold wpOp
  simp only [hi]
  rw [wanted_rel hr hw hb hN hg]
  simp only [if_true]
  left
  cases out with
  | val v m' => exact hout.2 r w a hm hv K Q (hk v m' rfl)
  | pan v m' => exact hout.2 r w a hm hv K Q (hp v m' rfl)
theorem skipOp {i : Nat} {o : Oper} {ro : RO} (hi : ops[i]? = some o) (hr : resolveOper P ops o = some ro) (hb : boundedOp N ops o = true) {f : Regs} (hw : wantedA ro.guard f = some false)
    {r : Ren} {w : World} {a : Act} (hN : a.tmps.size = N) (hg : ∀ s, guardSlot ops o = some s → VR r (f s) (a.tmps.getD s undef)) {K : Act → World → Prop} {Q : Exit → Act → World → Prop} (hk : K (a.put o.dst undef) w) :
    wpOp P ops Q i K a w := by
  unfold wpOp
  simp only [hi]
  rw [wanted_rel hr hw hb hN hg]
  exact hk
theorem Oper.wp_mono2 {o : Oper} {a : Act} {w : World} {K K' : Act → World → Prop} {Q Q' : Exit → Act → World → Prop} (h : ∀ a w, K a w → K' a w) (hq : ∀ e a w, Q e a w → Q' e a w) (hh : o.wp P a w K Q) : o.wp P a w K' Q' := by
  unfold Oper.wp at *
  generalize (execOp a.eval o).run P w = r at *
  cases r with
  | ok n w' =>
    cases n <;> simp only [Oper.upon] at hh ⊢ <;>
      first
        | exact h _ _ hh
        | exact Calls.mono hh (fun e w'' he => by
            cases e with
            | returned v => exact h _ _ he
            | panicked ch => exact hq _ _ _ he
            | outgrown => exact let ⟨a, w, q⟩ := he; ⟨a, w, hq _ _ _ q⟩)
        | exact Rows.mono hh (fun _ _ he => h _ _ he)
  | halt x w' =>
    cases x <;> simp only [Oper.upon] at hh ⊢
    exact hq _ _ _ hh
theorem wpOp_mono2 {i : Nat} {a : Act} {w : World} {K K' : Act → World → Prop} {Q Q' : Exit → Act → World → Prop} (h : ∀ a w, K a w → K' a w) (hq : ∀ e a w, Q e a w → Q' e a w) (hh : wpOp P ops Q i K a w) : wpOp P ops Q' i K' a w := by
  unfold wpOp at *
  split
  · exact h _ _ (by simpa [*] using hh)
  · rename_i o ho
    simp only [ho] at hh
    split
    · rename_i hw
      simp only [hw, if_true] at hh
      rcases hh with hh | ⟨h1, a2, w2, h2⟩
      · exact .inl (Oper.wp_mono2 h hq hh)
      · exact .inr ⟨h1, a2, w2, hq _ _ _ h2⟩
    · rename_i hw; simp only [hw] at hh; exact h _ _ hh
theorem wpOps_mono {Q Q' : Exit → Act → World → Prop} (h : ∀ e a w, Q e a w → Q' e a w) : ∀ (l : List Nat) (a : Act) (w : World), wpOps P ops Q l a w → wpOps P ops Q' l a w
  | [], _, _, hh => h _ _ _ hh
  | i :: l, a, w, hh => by
    rw [wpOps_cons] at hh ⊢
    exact wpOp_mono2 (fun a w => wpOps_mono h l a w) h hh
theorem RO_item {o : Oper} {ro : RO} (h : resolveOper P ops o = some ro) : resolveItem P o.op = some ro.it ∧ ro.dst = o.dst := by
  unfold resolveOper at h
  split at h
  · cases h
  · rename_i it hit
    split at h
    · simp only [Option.some.injEq] at h; subst h; exact ⟨hit, rfl⟩
    · split at h
      · simp only [Option.some.injEq] at h; subst h; exact ⟨hit, rfl⟩
      · cases h
theorem goOps_ok : ∀ (l : List Oper) (rl : List RO) (i : Nat) (f : Regs) (m : Mem) (Q : AEx → Regs → Mem → Prop), (∀ j, l[j]? = ops[i + j]?) → resolveOpers P ops l = some rl → (∀ o ∈ l, boundedOp N ops o = true) → goOps P rl f m Q → m.bar ≤ m.next →
    ∃ ex f' m', Q ex f' m' ∧ MExt m m' ∧ ∀ [Inhabited (List Deferred)] (r : Ren) (w : World) (a : Act), MemRel r m w → RegRel N r f a → wpOps P ops (Post N r m w ex f' m') (List.range' i l.length) a w
  | [], rl, i, f, m, Q, _, hr, _, hv, _ => by
    simp only [resolveOpers, Option.some.injEq] at hr
    subst hr
    exact ⟨.normal, f, m, hv, MExt.refl m, fun r w a hm ha => ⟨r, trivial, hm, ha, Fr.refl r m w⟩⟩
  | o :: l, rl, i, f, m, Q, hl, hr, hb, hv, hwf => by
    simp only [resolveOpers] at hr
    split at hr
    · rename_i ro rs hro hrs
      simp only [Option.some.injEq] at hr
      subst hr
      have hi : ops[i]? = some o := by simpa using (hl 0).symm
      have hl' : ∀ j, l[j]? = ops[i + 1 + j]? := fun j => by have := hl (j + 1); simpa [Nat.add_assoc, Nat.add_comm 1 j] using this
      have hbo := hb o (by simp)
      have hb' : ∀ o ∈ l, boundedOp N ops o = true := fun x hx => hb x (by simp [hx])
      obtain ⟨hit, hdst⟩ := RO_item hro
      simp only [goOps] at hv
      split at hv
      · rename_i hw
        obtain ⟨out, hout, hK⟩ := sound_item hit hv hwf
        cases out with
        | val v m1 =>
          have hx1 : MExt m m1 := hout.1
          obtain ⟨ex, f', m', hQ, hx2, hrun⟩ := goOps_ok l rs (i + 1) _ _ Q hl' hrs hb' hK (by have := hx1.bar; have := hx1.next; omega)
          refine ⟨ex, f', m', hQ, hx1.trans hx2, fun r w a hm ha => ?_⟩
          rw [List.length_cons, List.range'_succ, wpOps_cons]
          refine stepOp hi hro hbo hout hw hm ha.1 (fun t ht => ha.2.2 t (bounded_tmps hbo t ht)) (fun s hs => ha.2.2 s (bounded_guard hbo s hs)) (fun v2 m2 he r' v' w' hv' hm' hf => ?_) (fun v2 m2 he => by cases he)
          injection he with e1 e2
          subst e1 e2
          rw [hdst] at hrun
          have := hrun r' w' _ hm' (ha.put hf.ext hv' o.dst)
          refine wpOps_mono (fun e a2 w2 hp => ?_) _ _ _ this
          obtain ⟨r2, g1, g2, g3, g4⟩ := hp
          exact ⟨r2, g1, g2, g3, hf.trans hx1 g4⟩
        | pan v m1 =>
          have hx1 : MExt m m1 := hout.1
          refine ⟨.pan v, f, m1, hK, hx1, fun r w a hm ha => ?_⟩
          rw [List.length_cons, List.range'_succ, wpOps_cons]
          refine stepOp hi hro hbo hout hw hm ha.1 (fun t ht => ha.2.2 t (bounded_tmps hbo t ht)) (fun s hs => ha.2.2 s (bounded_guard hbo s hs)) (fun v2 m2 he => by cases he) (fun v2 m2 he r' v' w' hv' hm' hf => ?_)
          injection he with e1 e2
          subst e1 e2
          exact ⟨r', ⟨v', rfl, hv'⟩, hm', ha.mono hf.ext, hf⟩
      · rename_i hw
        obtain ⟨ex, f', m', hQ, hx2, hrun⟩ := goOps_ok l rs (i + 1) _ _ Q hl' hrs hb' hv hwf
        refine ⟨ex, f', m', hQ, hx2, fun r w a hm ha => ?_⟩
        rw [List.length_cons, List.range'_succ, wpOps_cons]
        refine skipOp hi hro hbo hw ha.1 (fun s hs => ha.2.2 s (bounded_guard hbo s hs)) ?_
        rw [hdst] at hrun
        exact hrun r w _ hm (ha.put (Ext.refl r) .und o.dst)
      · cases hv
    · cases hr
end
end Go.Ga

namespace Go.Ga
open Go
def befStep (acc : List Nat) (o : Oper) : Nat := o.after.toList.foldl (fun s e => if Region.binds .any e then s ||| 2 ^ e.on ||| acc.getD e.on 0 else s) 0
def befGo : List Oper → List Nat → List Nat
  | [], acc => acc
  | o :: l, acc => befGo l (acc ++ [befStep acc o])
def bef (ops : Array Oper) : List Nat := befGo ops.toList []
def reads (ops : Array Oper) (o : Oper) : List Nat := tmpsOf o ++ (guardSlot ops o).toList
def regOK (N k : Nat) (ops : Array Oper) : Bool :=
  let b := bef ops
  let l := ops.toList.zipIdx
  l.all fun (o, i) =>
    boundedOp N ops o &&
    o.after.toList.all (fun e => !Region.binds .any e || decide (e.on < i)) &&
    l.all (fun (o', j) => j == i || o.dst.isNone || o.dst != o'.dst) &&
    (reads ops o).all (fun t => l.all fun (o', j) => o'.dst != some t || j == i || (if j < i then (b.getD i 0).testBit j else (b.getD j 0).testBit i)) &&
    (decide (i < k) || (List.range i).all fun j => (b.getD i 0).testBit j)
section
variable {P : Program} {N k : Nat} {ops : Array Oper}
theorem befStep_bit {acc : List Nat} {o : Oper} {j : Nat} (h : (befStep acc o).testBit j = true) : ∃ e ∈ o.after, Region.binds .any e = true ∧ (e.on = j ∨ (acc.getD e.on 0).testBit j = true) := by
  have key : ∀ (es : List Edge) (s : Nat), (es.foldl (fun s e => if Region.binds .any e then s ||| 2 ^ e.on ||| acc.getD e.on 0 else s) s).testBit j = true → s.testBit j = true ∨ ∃ e ∈ es, Region.binds .any e = true ∧ (e.on = j ∨ (acc.getD e.on 0).testBit j = true) := by
    intro es
    induction es with
    | nil => intro s hs; exact .inl hs
    | cons e es ih =>
      intro s hs
      rw [List.foldl_cons] at hs
      rcases ih _ hs with h1 | ⟨e', he', h1⟩
      · split at h1
        · rename_i hb
          rw [Nat.testBit_or, Nat.testBit_or, Bool.or_eq_true, Bool.or_eq_true] at h1
          rcases h1 with (h1 | h1) | h1
          · exact .inl h1
          · rw [Nat.testBit_two_pow] at h1
            exact .inr ⟨e, by simp, hb, .inl (by simpa using h1)⟩
          · exact .inr ⟨e, by simp, hb, .inr h1⟩
        · exact .inl h1
      · exact .inr ⟨e', by simp [he'], h1⟩
  rcases key o.after.toList 0 h with h1 | ⟨e, he, h1⟩
  · simp at h1
  · exact ⟨e, by simpa using he, h1⟩
theorem bef_spec {S : Nat → Prop} (hS : ∀ (i : Nat) o, ops[i]? = some o → S i → ∀ e ∈ o.after, Region.binds .any e = true → S e.on) {i j : Nat} (h : ((bef ops).getD i 0).testBit j = true) (hi : S i) : S j := by
  have key : ∀ (l : List Oper) (acc : List Nat), (∀ n, l[n]? = ops[acc.length + n]?) → (∀ i j, (acc.getD i 0).testBit j = true → S i → S j) → ∀ i j, ((befGo l acc).getD i 0).testBit j = true → S i → S j := by
    intro l
    induction l with
    | nil => intro acc _ hacc; exact hacc
    | cons o l ih =>
      intro acc hl hacc
      have ho : ops[acc.length]? = some o := by simpa using (hl 0).symm
      refine ih (acc ++ [befStep acc o]) (fun n => ?_) (fun i j hij hsi => ?_)
      · have := hl (n + 1)
        simp only [List.getElem?_cons_succ] at this
        rw [this, List.length_append, List.length_singleton]
        congr 1
        omega
      · by_cases hlt : i < acc.length
        · refine hacc i j ?_ hsi
          simpa [List.getD_eq_getElem?_getD, List.getElem?_append_left hlt] using hij
        · by_cases heq : i = acc.length
          · subst heq
            have : (acc ++ [befStep acc o]).getD acc.length 0 = befStep acc o := by simp [List.getD_eq_getElem?_getD]
            rw [this] at hij
            obtain ⟨e, he, hb, hc⟩ := befStep_bit hij
            have hse := hS _ o ho hsi e he hb
            rcases hc with rfl | hc
            · exact hse
            · exact hacc _ _ hc hse
          · have : (acc ++ [befStep acc o]).getD i 0 = 0 := by
              rw [List.getD_eq_getElem?_getD, List.getElem?_eq_none (by simp; omega)]
              rfl
            rw [this] at hij
            simp at hij
  exact key ops.toList [] (fun n => by simp) (fun i j h => by simp at h) i j h hi
structure RegFacts (N k : Nat) (ops : Array Oper) : Prop where
  bounded : ∀ (i : Nat) o, ops[i]? = some o → boundedOp N ops o = true
  back : ∀ (i : Nat) o, ops[i]? = some o → ∀ e ∈ o.after, Region.binds .any e = true → e.on < i
  unique : ∀ (i j : Nat) o o' t, ops[i]? = some o → ops[j]? = some o' → o.dst = some t → o'.dst = some t → i = j
  reader : ∀ (i j : Nat) o o' t, ops[i]? = some o → ops[j]? = some o' → t ∈ reads ops o → o'.dst = some t → j ≠ i → (j < i ∧ ((bef ops).getD i 0).testBit j = true) ∨ (i < j ∧ ((bef ops).getD j 0).testBit i = true)
  tail : ∀ (i : Nat), k ≤ i → i < ops.size → ∀ j, j < i → ((bef ops).getD i 0).testBit j = true
theorem mem_zip {i : Nat} {o : Oper} (h : ops[i]? = some o) : (o, i) ∈ ops.toList.zipIdx := by
  rw [List.mem_zipIdx_iff_getElem?]
  simpa using h
theorem regFacts (h : regOK N k ops = true) : RegFacts N k ops := by
  simp only [regOK, List.all_eq_true] at h
  have h' := fun (i : Nat) (o : Oper) (hi : ops[i]? = some o) => h (o, i) (mem_zip hi)
  simp only [Bool.and_eq_true] at h'
  refine ⟨fun i o hi => (h' i o hi).1.1.1.1, fun i o hi e he hb => ?_, fun i j o o' t hi hj ht ht' => ?_, fun i j o o' t hi hj ht ht' hne => ?_, fun i hk hlt j hj => ?_⟩
  · have := (h' i o hi).1.1.1.2
    rw [List.all_eq_true] at this
    have := this e (by simpa using he)
    simpa [hb] using this
  · have := (h' i o hi).1.1.2
    rw [List.all_eq_true] at this
    have := this (o', j) (mem_zip hj)
    simp only [Bool.or_eq_true, beq_iff_eq, bne_iff_ne, ht, ht'] at this
    rcases this with (h1 | h1) | h1
    · exact h1.symm
    · simp at h1
    · simp at h1
  · have := (h' i o hi).1.2
    rw [List.all_eq_true] at this
    have := this t ht
    rw [List.all_eq_true] at this
    have := this (o', j) (mem_zip hj)
    simp only [Bool.or_eq_true, beq_iff_eq, bne_iff_ne, ht'] at this
    rcases this with (h1 | h1) | h1
    · simp at h1
    · exact absurd h1 hne
    · split at h1
      · rename_i hlt
        exact .inl ⟨hlt, h1⟩
      · rename_i hlt
        exact .inr ⟨by omega, h1⟩
  · have := (h' i ops[i] (by simp [hlt])).2
    simp only [Bool.or_eq_true, decide_eq_true_eq, List.all_eq_true, List.mem_range] at this
    rcases this with h1 | h1
    · omega
    · exact h1 j hj
def TrStep (P : Program) (o : Oper) (ro : RO) (f f' : Regs) (m m' : Mem) (v : Value) : Prop :=
  f' = putR f o.dst v ∧
  ((wantedA ro.guard f = some false ∧ v = undef ∧ m' = m) ∨
   (wantedA ro.guard f = some true ∧ ∃ m1, OpEv P o f m.raise v m1 ∧ m' = m1.lower m.bar))
theorem TrStep.ext {o : Oper} {ro : RO} {f f' : Regs} {m m' : Mem} {v : Value} (h : TrStep P o ro f f' m m' v) (hwf : m.bar ≤ m.next) : MExt m m' ∧ m'.bar = m.bar ∧ m'.bar ≤ m'.next ∧ m.next ≤ m'.next ∧ ∀ n, n < m.next → m'.get n = m.get n := by
  rcases h.2 with ⟨_, _, rfl⟩ | ⟨_, m1, ho, rfl⟩
  · exact ⟨MExt.refl _, rfl, hwf, Nat.le_refl _, fun _ _ => rfl⟩
  · have hx := ho.1
    have hn : m.next ≤ m1.next := hx.next
    exact ⟨⟨rfl, hn, fun n hlt => hx.get n (Nat.lt_of_lt_of_le hlt hwf)⟩, rfl, Nat.le_trans hwf hn, hn, fun n hlt => hx.get n hlt⟩
theorem quiet_trace : ∀ (l : List Oper) (rl : List RO) (f : Regs) (m : Mem) (Q : Regs → Mem → Prop), resolveOpers P ops l = some rl → goQuiet P rl f m Q → m.bar ≤ m.next →
    ∃ (F : Nat → Regs) (M : Nat → Mem) (V : Nat → Value), F 0 = f ∧ M 0 = m ∧ Q (F l.length) (M l.length) ∧ ∀ (j : Nat) o, l[j]? = some o → ∃ ro, resolveOper P ops o = some ro ∧ TrStep P o ro (F j) (F (j + 1)) (M j) (M (j + 1)) (V j)
  | [], rl, f, m, Q, hr, hg, _ => by
    simp only [resolveOpers, Option.some.injEq] at hr
    subst hr
    exact ⟨fun _ => f, fun _ => m, fun _ => undef, rfl, rfl, hg, fun j o h => by simp at h⟩
  | o :: l, rl, f, m, Q, hr, hg, hwf => by
    simp only [resolveOpers] at hr
    split at hr
    · rename_i ro rs hro hrs
      simp only [Option.some.injEq] at hr
      subst hr
      obtain ⟨hit, hdst⟩ := RO_item hro
      have glue : ∀ v f1 m1, TrStep P o ro f f1 m m1 v → goQuiet P rs f1 m1 Q → ∃ (F : Nat → Regs) (M : Nat → Mem) (V : Nat → Value), F 0 = f ∧ M 0 = m ∧ Q (F (o :: l).length) (M (o :: l).length) ∧
          ∀ (j : Nat) o', (o :: l)[j]? = some o' → ∃ ro, resolveOper P ops o' = some ro ∧ TrStep P o' ro (F j) (F (j + 1)) (M j) (M (j + 1)) (V j) := by
        intro v f1 m1 hstep hgo
        obtain ⟨F, M, V, h1, h2, h3, h4⟩ := quiet_trace l rs f1 m1 Q hrs hgo (hstep.ext hwf).2.2.1
        refine ⟨fun n => match n with | 0 => f | j + 1 => F j, fun n => match n with | 0 => m | j + 1 => M j, fun n => match n with | 0 => v | j + 1 => V j, rfl, rfl, h3, fun j o' hj => ?_⟩
        cases j with
        | zero =>
          simp only [List.getElem?_cons_zero, Option.some.injEq] at hj
          subst hj
          exact ⟨ro, hro, by simp only [h1, h2]; exact hstep⟩
        | succ j => exact h4 j o' (by simpa using hj)
      simp only [goQuiet] at hg
      split at hg
      · rename_i hw
        obtain ⟨out, hout, hK⟩ := sound_item (m := m.raise) hit hg (Nat.le_refl _)
        cases out with
        | val v m1 => exact glue v _ _ ⟨rfl, .inr ⟨hw, m1, hout, rfl⟩⟩ (by rw [← hdst]; exact hK)
        | pan v m1 => exact hK.elim
      · rename_i hw
        exact glue undef _ _ ⟨rfl, .inl ⟨hw, rfl, rfl⟩⟩ (by rw [← hdst]; exact hg)
      · cases hg
    · cases hr
end
end Go.Ga

namespace Go.Ga
open Go
def cut (r : Ren) (n : Nat) : Ren := fun x => if x < n then r x else none
theorem cut_ext {r r2 : Ren} {n n2 : Nat} (hn : n ≤ n2) (h : ∀ x l, x < n → r x = some l → r2 x = some l) : Ext (cut r n) (cut r2 n2) := fun x l hx => by
  unfold cut at hx ⊢
  split at hx
  · rename_i hlt
    rw [if_pos (by omega)]
    exact .inl (h x l hlt hx)
  · cases hx
theorem cut_some {r : Ren} {n x : Nat} {l : Loc} (h : cut r n x = some l) : x < n ∧ r x = some l := by
  unfold cut at h
  split at h
  · rename_i hlt; exact ⟨hlt, h⟩
  · cases h
theorem cut_lt {r : Ren} {n x : Nat} (h : x < n) : cut r n x = r x := by unfold cut; rw [if_pos h]
section
variable {P : Program} {N k : Nat} {ops : Array Oper} [Inhabited (List Deferred)]
structure Tr (P : Program) (k : Nat) (ops : Array Oper) (F : Nat → Regs) (M : Nat → Mem) (V : Nat → Value) : Prop where
  le : k ≤ ops.size
  wf : (M 0).bar ≤ (M 0).next
  step : ∀ (i : Nat) o, i < k → ops[i]? = some o → ∃ ro, resolveOper P ops o = some ro ∧ TrStep P o ro (F i) (F (i + 1)) (M i) (M (i + 1)) (V i)
variable {F : Nat → Regs} {M : Nat → Mem} {V : Nat → Value}
theorem Tr.get (h : Tr P k ops F M V) {i : Nat} (hi : i < k) : ∃ o, ops[i]? = some o :=
  ⟨_, Array.getElem?_eq_getElem (show i < ops.size by have := h.le; omega)⟩
theorem Tr.ext (h : Tr P k ops F M V) : ∀ i, i ≤ k → MExt (M 0) (M i) ∧ (M i).bar = (M 0).bar ∧ (M i).bar ≤ (M i).next ∧ (M 0).next ≤ (M i).next
  | 0, _ => ⟨MExt.refl _, rfl, h.wf, Nat.le_refl _⟩
  | i + 1, hi => by
    obtain ⟨h1, h2, h3, h4⟩ := h.ext i (by omega)
    obtain ⟨o, ho⟩ := h.get (i := i) (by omega)
    obtain ⟨ro, _, hs⟩ := h.step i o (by omega) ho
    obtain ⟨g1, g2, g3, g4, g5⟩ := hs.ext h3
    exact ⟨h1.trans g1, g2.trans h2, g3, Nat.le_trans h4 g4⟩
theorem Tr.mono (h : Tr P k ops F M V) {i j : Nat} (hij : i ≤ j) (hj : j ≤ k) : (M i).next ≤ (M j).next ∧ ∀ n, n < (M i).next → (M j).get n = (M i).get n := by
  induction j with
  | zero =>
    have : i = 0 := by omega
    subst this
    exact ⟨Nat.le_refl _, fun _ _ => rfl⟩
  | succ j ih =>
    by_cases he : i = j + 1
    · subst he; exact ⟨Nat.le_refl _, fun _ _ => rfl⟩
    · obtain ⟨h1, h2⟩ := ih (by omega) (by omega)
      obtain ⟨_, _, h3, _⟩ := h.ext j (by omega)
      obtain ⟨o, ho⟩ := h.get (i := j) (by omega)
      obtain ⟨ro, _, hs⟩ := h.step j o (by omega) ho
      obtain ⟨g1, g2, g3, g4, g5⟩ := hs.ext h3
      exact ⟨Nat.le_trans h1 g4, fun n hn => (g5 n (by omega)).trans (h2 n hn)⟩
theorem Tr.slotNone (h : Tr P k ops F M V) {t : Nat} : ∀ i, i ≤ k → (∀ (j : Nat) o, j < i → ops[j]? = some o → o.dst ≠ some t) → F i t = F 0 t
  | 0, _, _ => rfl
  | i + 1, hi, hno => by
    obtain ⟨o, ho⟩ := h.get (i := i) (by omega)
    obtain ⟨ro, _, hs⟩ := h.step i o (by omega) ho
    rw [hs.1, ← h.slotNone i (by omega) (fun j o hj => hno j o (by omega))]
    have hne := hno i _ (by omega) ho
    cases hd : o.dst with
    | none => simp [putR]
    | some d =>
      simp only [putR]
      rw [if_neg (fun e => by subst e; exact hne hd)]
theorem Tr.slotSome (h : Tr P k ops F M V) (hf : RegFacts N k ops) {t j : Nat} {o : Oper} (ho : ops[j]? = some o) (hd : o.dst = some t) : ∀ i, j < i → i ≤ k → F i t = V j
  | 0, hj, _ => by omega
  | i + 1, hj, hi => by
    obtain ⟨oi, hoi⟩ := h.get (i := i) (by omega)
    obtain ⟨ro, _, hs⟩ := h.step i oi (by omega) hoi
    rw [hs.1]
    by_cases he : i = j
    · subst he
      rw [hoi] at ho
      injection ho with ho
      simp only [ho, hd, putR, if_true]
    · rw [← h.slotSome hf ho hd i (by omega) (by omega)]
      cases hd' : oi.dst with
      | none => simp [putR]
      | some d =>
        simp only [putR]
        rw [if_neg (fun e => by
          subst e
          exact he (hf.unique i j _ _ _ hoi ho hd' hd))]
structure JQ [Inhabited (List Deferred)] (P : Program) (N k : Nat) (ops : Array Oper) (F : Nat → Regs) (M : Nat → Mem) (V : Nat → Value) (r0 : Ren) (w0 : World) (S : Nat → Prop) (r : Ren) (a : Act) (w : World) : Prop where
  mem : ∀ i, i ≤ k → MemRel (cut r (M i).next) (M i) w
  born : ∀ n l, r n = some l → n < (M 0).next ∨ ∃ i, i < k ∧ S i ∧ (M i).next ≤ n ∧ n < (M (i + 1)).next
  size : a.tmps.size = N
  defers : a.defers = default
  slotW : ∀ (i : Nat) o t, i < k → S i → ops[i]? = some o → o.dst = some t → t < N → VR (cut r (M (i + 1)).next) (V i) (a.tmps.getD t undef)
  slotN : ∀ t, t < N → (∀ (i : Nat) o, i < k → S i → ops[i]? = some o → o.dst ≠ some t) → VR r0 (F 0 t) (a.tmps.getD t undef)
  fr : Fr r0 r (M 0) w0 w
  low : ∀ n, n < (M 0).next → r n = r0 n
  old : ∀ n l, r0 n = some l → n < (M 0).next
theorem getD_put_ne {a : Act} {d : Option Tmp} {v : Value} {t : Nat} (h : d ≠ some t) : (a.put d v).tmps.getD t undef = a.tmps.getD t undef := by
  cases d with
  | none => rfl
  | some d =>
    simp only [Act.put, Array.getD_eq_getD_getElem?, Array.getElem?_setIfInBounds_ne (show d ≠ t from fun e => h (by rw [e]))]
theorem getD_put_eq {a : Act} {v : Value} {t : Nat} (h : t < a.tmps.size) : (a.put (some t) v).tmps.getD t undef = v := by
  simp [Act.put, Array.getD, h]
theorem size_put (a : Act) (d : Option Tmp) (v : Value) : (a.put d v).tmps.size = a.tmps.size := by cases d <;> simp [Act.put]
theorem JQ.next (ht : Tr P k ops F M V) (hf : RegFacts N k ops) {r0 : Ren} {w0 : World} {S : Nat → Prop} {r : Ren} {a : Act} {w : World} (hj : JQ P N k ops F M V r0 w0 S r a w) {i : Nat} {o : Oper} (hik : i < k) (hio : ops[i]? = some o) (hni : ¬ S i)
    (hclosed : ∀ (i : Nat) o, ops[i]? = some o → S i → ∀ e ∈ o.after, Region.binds .any e = true → S e.on) (hready : ∀ e ∈ o.after, Region.binds .any e = true → S e.on) {K : Act → World → Prop} {Q : Exit → Act → World → Prop}
    (hK : ∀ r2 a2 w2, JQ P N k ops F M V r0 w0 (fun j => S j ∨ j = i) r2 a2 w2 → K a2 w2) : wpOp P ops Q i K a w := by
  obtain ⟨ro, hro, hstep⟩ := ht.step i o hik hio
  have hb := hf.bounded i o hio
  obtain ⟨_, hbar_i, hwf_i, hnext_i⟩ := ht.ext i (by omega)
  obtain ⟨_, _, hwf_i1, hnext_i1⟩ := ht.ext (i + 1) (by omega)
  have hSi : ∀ (i' : Nat) o', ops[i']? = some o' → (S i' ∨ i' = i) → ∀ e ∈ o'.after, Region.binds .any e = true → (S e.on ∨ e.on = i) := by
    intro i' o' hi' hs e he hbd
    rcases hs with hs | rfl
    · exact .inl (hclosed i' o' hi' hs e he hbd)
    · rw [hio] at hi'
      injection hi' with hi'
      subst hi'
      exact .inl (hready e he hbd)
  -- what is in must come before is in
  have hpred : ∀ j, ((bef ops).getD i 0).testBit j = true → j ≠ i → S j := fun j hjb hne => (bef_spec (S := fun x => S x ∨ x = i) hSi hjb (.inr rfl)).resolve_right hne
  have hpost : ∀ j, ((bef ops).getD j 0).testBit i = true → ¬ S j := fun j hjb hs => hni (bef_spec hclosed hjb hs)
  have hmono : ∀ {p q : Nat}, p ≤ q → q ≤ k → Ext (cut r (M p).next) (cut r (M q).next) := fun hpq hq => cut_ext (ht.mono hpq hq).1 fun _ _ _ h => h
  have h0ext : ∀ j, j ≤ k → Ext r0 (cut r (M j).next) := fun j hjk n l hn => by
    have hlt := hj.old n l hn
    have := (ht.ext j hjk).2.2.2
    left
    rw [cut_lt (by omega), hj.low n hlt]
    exact hn
  -- what the operation reads
  have hread : ∀ t, t < N → t ∈ reads ops o → VR (cut r (M i).next) (F i t) (a.tmps.getD t undef) := by
    intro t htN htr
    by_cases hw : ∃ (j : Nat) (o' : Oper), j < i ∧ ops[j]? = some o' ∧ o'.dst = some t
    · obtain ⟨j, o', hji, hjo, hjd⟩ := hw
      rw [ht.slotSome hf hjo hjd i hji (by omega)]
      have hs : S j := by
        rcases hf.reader i j o o' t hio hjo htr hjd (by omega) with ⟨_, h1⟩ | ⟨h1, _⟩
        · exact hpred j h1 (by omega)
        · omega
      exact (hj.slotW j o' t (by omega) hs hjo hjd htN).mono (hmono (by omega) (by omega))
    · rw [ht.slotNone i (by omega) (fun j o' hji hjo hjd => hw ⟨j, o', hji, hjo, hjd⟩)]
      refine (hj.slotN t htN fun j o' hjk hs hjo hjd => ?_).mono (h0ext i (by omega))
      by_cases hje : j = i
      · subst hje; exact hni hs
      · rcases hf.reader i j o o' t hio hjo htr hjd hje with ⟨h1, _⟩ | ⟨_, h1⟩
        · exact hw ⟨j, o', h1, hjo, hjd⟩
        · exact hpost j h1 hs
  have hops : ∀ t, Operand.tmp t ∈ o.op.operands → VR (cut r (M i).next) (F i t) (a.eval (.tmp t)) := fun t hto =>
    hread t (bounded_tmps hb t hto) (List.mem_append_left _ (mem_tmpsOf.1 hto))
  have hgd : ∀ s, guardSlot ops o = some s → VR (cut r (M i).next) (F i s) (a.tmps.getD s undef) := fun s hs =>
    hread s (bounded_guard hb s hs) (List.mem_append_right _ (by simp [hs]))
  have hne_dst : ∀ (j : Nat) o' t, j < k → S j → ops[j]? = some o' → o'.dst = some t → o.dst ≠ some t := fun j o' t hjk hs hjo hjd hd => by
    have := hf.unique i j o o' t hio hjo hd hjd
    subst this
    exact hni hs
  rcases hstep.2 with ⟨hw, hv, hM⟩ | ⟨hw, m1, hev, hM⟩
  · -- it is passed over
    refine skipOp hio hro hb hw hj.size hgd (hK r _ w ?_)
    refine ⟨hj.mem, fun n l hn => ?_, by rw [size_put]; exact hj.size, by rw [put_defers]; exact hj.defers, fun j o' t hjk hs hjo hjd htN => ?_, fun t htN hno => ?_, hj.fr, hj.low, hj.old⟩
    · rcases hj.born n l hn with h1 | ⟨i', h1, h2, h3⟩
      · exact .inl h1
      · exact .inr ⟨i', h1, .inl h2, h3⟩
    · rcases hs with hs | rfl
      · rw [getD_put_ne (hne_dst j o' t hjk hs hjo hjd)]
        exact hj.slotW j o' t hjk hs hjo hjd htN
      · rw [hio] at hjo
        injection hjo with hjo
        subst hjo
        rw [hjd, getD_put_eq (by rw [hj.size]; exact htN), hv]
        exact .und
    · rw [getD_put_ne (hno i o hik (.inr rfl) hio)]
      exact hj.slotN t htN fun j o' hjk hs => hno j o' hjk (.inl hs)
  · -- it is carried out
    have hrin : MemRel (cut r (M i).next) (M i).raise w := by
      have := hj.mem i (by omega)
      exact ⟨Nat.le_refl _, this.born, this.dead, this.live, this.inj⟩
    refine stepOp hio hro hb (out := .val (V i) m1) hev hw hrin hj.size hops hgd (fun v2 m2 he r' v' w' hv' hm' hfr => ?_) (fun v2 m2 he => by cases he)
    injection he with e1 e2
    subst e1 e2
    have hm1n : (M (i + 1)).next = m1.next := by rw [hM]; rfl
    have hm1g : ∀ n, (M (i + 1)).get n = m1.get n := by rw [hM]; exact fun _ => rfl
    have hii1 : (M i).next ≤ (M (i + 1)).next := (ht.mono (Nat.le_succ i) (by omega)).1
    have hr'low : ∀ n, n < (M i).next → r' n = r n := fun n hn => by
      have := hfr.lowR n hn
      rw [this, cut_lt hn]
    have hr'hi : ∀ n l, r' n = some l → n < (M (i + 1)).next := fun n l hn => by rw [hm1n]; exact hm'.born n l hn
    have hrint : ∀ n, (M i).next ≤ n → n < (M (i + 1)).next → r n = none := fun n h1 h2 => by
      cases hrn : r n with
      | none => rfl
      | some l =>
        exfalso
        rcases hj.born n l hrn with h3 | ⟨j, h3, h4, h5, h6⟩
        · omega
        · rcases Nat.lt_trichotomy j i with h7 | h7 | h7
          · have := (ht.mono (show j + 1 ≤ i by omega) (by omega)).1
            omega
          · subst h7; exact hni h4
          · have := (ht.mono (show i + 1 ≤ j by omega) (by omega)).1
            omega
    let r2 : Ren := fun n => if n < (M i).next then r n else if n < (M (i + 1)).next then r' n else r n
    have r2lo : ∀ n, n < (M i).next → r2 n = r n := fun n h => by simp only [r2]; rw [if_pos h]
    have r2mid : ∀ n, (M i).next ≤ n → n < (M (i + 1)).next → r2 n = r' n := fun n h1 h2 => by simp only [r2]; rw [if_neg (by omega), if_pos h2]
    have r2hi : ∀ n, (M (i + 1)).next ≤ n → r2 n = r n := fun n h => by simp only [r2]; rw [if_neg (by omega), if_neg (by omega)]
    have hr_r2 : ∀ n l, r n = some l → r2 n = some l := fun n l hn => by
      rcases Nat.lt_or_ge n (M i).next with h1 | h1
      · rw [r2lo n h1]; exact hn
      · rcases Nat.lt_or_ge n (M (i + 1)).next with h2 | h2
        · rw [hrint n h1 h2] at hn; cases hn
        · rw [r2hi n h2]; exact hn
    have hr'_r2 : ∀ n, n < (M (i + 1)).next → r2 n = r' n := fun n hn => by
      rcases Nat.lt_or_ge n (M i).next with h1 | h1
      · rw [r2lo n h1, hr'low n h1]
      · exact r2mid n h1 hn
    have hcutr' : ∀ q, (M (i + 1)).next ≤ q → Ext r' (cut r2 q) := fun q hq n l hn => by
      have hlt := hr'hi n l hn
      left
      rw [cut_lt (by omega), hr'_r2 n hlt]
      exact hn
    have hcut2 : ∀ q q', q ≤ q' → Ext (cut r q) (cut r2 q') := fun q q' hq => cut_ext hq fun x l _ hx => hr_r2 x l hx
    -- blocks of names that were there are as they were
    have hsame : ∀ n cb base csz, r n = some (.at cb base csz) → cb < w.heap.size ∧ w'.heap[cb]? = w.heap[cb]? := by
      intro n cb base csz hn
      have hk' := hj.mem k (Nat.le_refl k)
      have hnk : n < (M k).next := by
        rcases hj.born n _ hn with h3 | ⟨j, h3, h4, h5, h6⟩
        · have := (ht.ext k (Nat.le_refl k)).2.2.2; omega
        · have := (ht.mono (show j + 1 ≤ k by omega) (Nat.le_refl k)).1; omega
      have hck : cut r (M k).next n = some (.at cb base csz) := by rw [cut_lt hnk]; exact hn
      have hlt := hk'.lt hck
      refine ⟨hlt, ?_⟩
      rcases Nat.lt_or_ge n (M i).next with h1 | h1
      · exact hfr.low n cb base csz h1 (by rw [cut_lt h1]; exact hn)
      · refine hfr.out cb hlt fun n' b' c' hn' => ?_
        obtain ⟨h2, h3⟩ := cut_some hn'
        have hck' : cut r (M k).next n' = some (.at cb b' c') := by
          rw [cut_lt (by have := (ht.mono (show i ≤ k by omega) (Nat.le_refl k)).1; omega)]
          exact h3
        have := hk'.inj _ _ _ _ _ _ _ hck hck'
        omega
    have hnewimg : ∀ n cb base csz, (M i).next ≤ n → r' n = some (.at cb base csz) → w.heap.size ≤ cb := fun n cb base csz h1 hn => by
      rcases hfr.img n cb base csz hn with h2 | h2 | ⟨n0, b0, c0, h2, h3⟩
      · have := (cut_some h2).1; omega
      · exact h2
      · have h4 := (cut_some h3).1
        have : (M i).next ≤ n0 := h2
        omega
    refine hK r2 _ w' ⟨fun q hq => ?_, fun n l hn => ?_, by rw [size_put]; exact hj.size, by rw [put_defers]; exact hj.defers, fun j o' t hjk hs hjo hjd htN => ?_, fun t htN hno => ?_, ?_, fun n hn => ?_, hj.old⟩
    · -- memory
      have hold := hj.mem q hq
      refine ⟨hold.wf, fun n l hn => (cut_some hn).1, fun n hn => ?_, fun n cb base csz hn => ?_, fun n n' cb b c b' c' h1 h2 => ?_⟩
      · obtain ⟨h1, h2⟩ := cut_some hn
        by_cases hmid : (M i).next ≤ n ∧ n < (M (i + 1)).next
        · rw [r2mid n hmid.1 hmid.2] at h2
          have := hm'.dead n h2
          rw [← hm1g] at this
          have hqi : i + 1 ≤ q := by
            rcases Nat.lt_or_ge i q with h | h
            · omega
            · have := (ht.mono h (by omega)).1; omega
          rw [(ht.mono hqi hq).2 n hmid.2]
          exact this
        · have h3 : r2 n = r n := by
            rcases Nat.lt_or_ge n (M i).next with h | h
            · exact r2lo n h
            · exact r2hi n (by omega)
          rw [h3] at h2
          exact hold.dead n (by rw [cut_lt h1]; exact h2)
      · obtain ⟨h1, h2⟩ := cut_some hn
        by_cases hmid : (M i).next ≤ n ∧ n < (M (i + 1)).next
        · rw [r2mid n hmid.1 hmid.2] at h2
          obtain ⟨b, hg, hbr⟩ := hm'.live n cb base csz h2
          have hqi : i + 1 ≤ q := by
            rcases Nat.lt_or_ge i q with h | h
            · omega
            · have := (ht.mono h (by omega)).1; omega
          refine ⟨b, ?_, hbr.mono (hcutr' _ (ht.mono hqi hq).1)⟩
          rw [(ht.mono hqi hq).2 n hmid.2, hm1g]
          exact hg
        · have h3 : r2 n = r n := by
            rcases Nat.lt_or_ge n (M i).next with h | h
            · exact r2lo n h
            · exact r2hi n (by omega)
          rw [h3] at h2
          obtain ⟨b, hg, hbr⟩ := hold.live n cb base csz (by rw [cut_lt h1]; exact h2)
          refine ⟨b, hg, ?_⟩
          rw [(hsame n cb base csz h2).2]
          exact hbr.mono (hcut2 _ _ (Nat.le_refl _))
      · obtain ⟨g1, g2⟩ := cut_some h1
        obtain ⟨g3, g4⟩ := cut_some h2
        have cls : ∀ x, (r2 x = r x ∧ ¬ ((M i).next ≤ x ∧ x < (M (i + 1)).next)) ∨ (r2 x = r' x ∧ (M i).next ≤ x ∧ x < (M (i + 1)).next) := fun x => by
          by_cases hmid : (M i).next ≤ x ∧ x < (M (i + 1)).next
          · exact .inr ⟨r2mid x hmid.1 hmid.2, hmid⟩
          · left
            refine ⟨?_, hmid⟩
            rcases Nat.lt_or_ge x (M i).next with h | h
            · exact r2lo x h
            · exact r2hi x (by omega)
        rcases cls n with ⟨c1, _⟩ | ⟨c1, c2⟩ <;> rcases cls n' with ⟨c3, _⟩ | ⟨c3, c4⟩
        · rw [c1] at g2
          rw [c3] at g4
          exact hold.inj _ _ _ _ _ _ _ (by rw [cut_lt g1]; exact g2) (by rw [cut_lt g3]; exact g4)
        · rw [c1] at g2
          rw [c3] at g4
          have := (hsame n _ _ _ g2).1
          have := hnewimg n' _ _ _ c4.1 g4
          omega
        · rw [c1] at g2
          rw [c3] at g4
          have := (hsame n' _ _ _ g4).1
          have := hnewimg n _ _ _ c2.1 g2
          omega
        · rw [c1] at g2
          rw [c3] at g4
          exact hm'.inj _ _ _ _ _ _ _ g2 g4
    · -- born
      by_cases hmid : (M i).next ≤ n ∧ n < (M (i + 1)).next
      · exact .inr ⟨i, hik, .inr rfl, hmid.1, hmid.2⟩
      · have h3 : r2 n = r n := by
          rcases Nat.lt_or_ge n (M i).next with h | h
          · exact r2lo n h
          · exact r2hi n (by omega)
        rw [h3] at hn
        rcases hj.born n l hn with h1 | ⟨i', h1, h2, h3⟩
        · exact .inl h1
        · exact .inr ⟨i', h1, .inl h2, h3⟩
    · -- slots that were written
      rcases hs with hs | rfl
      · rw [getD_put_ne (hne_dst j o' t hjk hs hjo hjd)]
        exact (hj.slotW j o' t hjk hs hjo hjd htN).mono (hcut2 _ _ (Nat.le_refl _))
      · rw [hio] at hjo
        injection hjo with hjo
        subst hjo
        rw [hjd, getD_put_eq (by rw [hj.size]; exact htN)]
        exact hv'.mono (hcutr' _ (Nat.le_refl _))
    · rw [getD_put_ne (hno i o hik (.inr rfl) hio)]
      exact hj.slotN t htN fun j o' hjk hs => hno j o' hjk (.inl hs)
    · -- the frame
      have hbar0 : (M 0).bar ≤ (M i).next := by omega
      refine ⟨Nat.le_trans hj.fr.size hfr.size, hfr.os.trans hj.fr.os, hfr.tape.trans hj.fr.tape, hfr.output.trans hj.fr.output, fun cb hcb hno => ?_, fun n cb base csz hn hr => ?_, fun n hn => ?_, fun n l hn => ?_, fun n hn hn' => ?_, fun n cb base csz hn => ?_⟩
      · rw [hfr.out cb (Nat.lt_of_lt_of_le hcb hj.fr.size) fun n' b' c' hn' => ?_]
        · exact hj.fr.out cb hcb hno
        · rcases hj.fr.img n' cb b' c' (cut_some hn').2 with h1 | h1 | ⟨n0, b0, c0, _, h1⟩
          · exact hno _ _ _ h1
          · omega
          · exact hno _ _ _ h1
      · have hlt := hj.old n _ hr
        rw [(hsame n cb base csz (by rw [hj.low n hlt]; exact hr)).2]
        exact hj.fr.low n cb base csz hn hr
      · have h1 : n < (M i).next := by omega
        rw [r2lo n h1]
        exact hj.fr.lowR n hn
      · have hlt := hj.old n l hn
        left
        rw [r2lo n (by omega), hj.low n hlt]
        exact hn
      · rcases Nat.lt_or_ge n (M 0).next with h1 | h1
        · exfalso
          apply hn'
          rw [r2lo n (by omega), hj.low n h1]
          exact hn
        · exact h1
      · by_cases hmid : (M i).next ≤ n ∧ n < (M (i + 1)).next
        · rw [r2mid n hmid.1 hmid.2] at hn
          have := hnewimg n _ _ _ hmid.1 hn
          exact .inr (.inl (Nat.le_trans hj.fr.size this))
        · have h3 : r2 n = r n := by
            rcases Nat.lt_or_ge n (M i).next with h | h
            · exact r2lo n h
            · exact r2hi n (by omega)
          rw [h3] at hn
          exact hj.fr.img n cb base csz hn
    · rw [r2lo n (by omega)]
      exact hj.low n hn
end
end Go.Ga

namespace Go.Ga
open Go
section
variable {P : Program} {N k : Nat} {ops : Array Oper} [Inhabited (List Deferred)]
def isIn (listed : Array Bool) (j : Nat) : Prop := listed.getD j false = true
def left (n : Nat) (listed : Array Bool) : Nat := (List.range n).countP fun j => !listed.getD j false
theorem countP_one {i : Nat} {p p' : Nat → Bool} (hp : p i = true) (hp' : p' i = false) : ∀ n, i < n → (∀ j, j ≠ i → p j = p' j) → (List.range n).countP p = (List.range n).countP p' + 1
  | 0, h, _ => by omega
  | n + 1, h, hj => by
    rw [List.range_succ, List.countP_append, List.countP_append]
    by_cases he : i = n
    · subst he
      have : (List.range i).countP p = (List.range i).countP p' := List.countP_congr fun x hx => by
        rw [hj x (by have := List.mem_range.1 hx; omega)]
      simp [this, hp, hp']
    · rw [countP_one hp hp' n (by omega) hj]
      have : p n = p' n := hj n (fun e => he e.symm)
      simp only [List.countP_singleton, this]
      omega
theorem getD_set_self {listed : Array Bool} {i : Nat} (h : i < listed.size) : (listed.setIfInBounds i true).getD i false = true := by simp [Array.getD, h]
theorem getD_set_other {listed : Array Bool} {i j : Nat} (h : j ≠ i) : (listed.setIfInBounds i true).getD j false = listed.getD j false := by
  simp only [Array.getD_eq_getD_getElem?, Array.getElem?_setIfInBounds_ne (show i ≠ j from fun e => h e.symm)]
theorem left_set {listed : Array Bool} {i n : Nat} (hi : i < n) (hs : listed.size = n) (hu : listed.getD i false = false) : left n listed = left n (listed.setIfInBounds i true) + 1 :=
  countP_one (i := i) (by simp [hu]) (by simp [getD_set_self (show i < listed.size by omega)]) n hi fun j hj => by simp [getD_set_other hj]
theorem left_zero {listed : Array Bool} {n : Nat} (h : left n listed = 0) : ∀ j, j < n → isIn listed j := fun j hj => by
  have := List.countP_eq_zero.1 h j (List.mem_range.2 hj)
  simpa [isIn] using this
theorem ready_unlisted {listed : Array Bool} (hs : listed.size = ops.size) {i : Nat} (h : i ∈ Region.ready .any ops listed) : i < ops.size ∧ ¬ isIn listed i ∧ ∃ o, ops[i]? = some o ∧ ∀ e ∈ o.after, Region.binds .any e = true → isIn listed e.on := by
  obtain ⟨h1, o, h2, h3⟩ := mem_ready.1 h
  have hlt : i < ops.size := by
    rcases Nat.lt_or_ge i ops.size with h | h
    · exact h
    · rw [Array.getElem?_eq_none h] at h2; cases h2
  refine ⟨hlt, fun hin => ?_, o, h2, h3⟩
  unfold isIn at hin
  simp only [Array.getD, show i < listed.size by omega, dite_true] at h1 hin
  rw [h1] at hin
  cases hin
theorem all_in (hf : RegFacts N k ops) {listed : Array Bool} (hs : listed.size = ops.size) (h : Region.ready .any ops listed = []) : ∀ j, j < ops.size → isIn listed j := by
  intro j
  induction j using Nat.strongRecOn with
  | _ j ih =>
    intro hj
    rcases Classical.em (isIn listed j) with hin | hin
    · exact hin
    · exfalso
      have ho : ops[j]? = some ops[j] := Array.getElem?_eq_getElem hj
      have : j ∈ Region.ready .any ops listed := mem_ready.2 ⟨by
        unfold isIn at hin
        simp only [Array.getD, show j < listed.size by omega, dite_true] at hin ⊢
        simpa using hin, _, ho, fun e he hb => ih e.on (hf.back j _ ho e he hb) (by have := hf.back j _ ho e he hb; omega)⟩
      rw [h] at this
      cases this
theorem tail_any (hf : RegFacts N k ops) {Q : Exit → Act → World → Prop} : ∀ (fuel i : Nat) (listed : Array Bool) (a : Act) (w : World), k ≤ i → i ≤ ops.size → listed.size = ops.size → (∀ j, j < ops.size → (isIn listed j ↔ j < i)) → fuel = left ops.size listed →
    wpOps P ops Q (List.range' i (ops.size - i)) a w → wpAny P .any ops Q fuel listed a w := by
  intro fuel
  induction fuel with
  | zero =>
    intro i listed a w hk hi hs hin hfu h
    have hall := left_zero hfu.symm
    have : i = ops.size := by
      rcases Nat.lt_or_ge i ops.size with h1 | h1
      · have := (hin i h1).1 (hall i h1); omega
      · omega
    subst this
    rw [Nat.sub_self] at h
    refine ⟨?_, h⟩
    apply List.eq_nil_iff_forall_not_mem.2
    intro j hj
    obtain ⟨h1, h2, _⟩ := ready_unlisted hs hj
    exact h2 (hall j h1)
  | succ fuel ih =>
    intro i listed a w hk hi hs hin hfu h
    refine ⟨fun hr => ?_, fun j hj => ?_⟩
    · have hall := all_in hf hs hr
      have : i = ops.size := by
        rcases Nat.lt_or_ge i ops.size with h1 | h1
        · have := (hin i h1).1 (hall i h1); omega
        · omega
      subst this
      rw [Nat.sub_self] at h
      exact h
    · obtain ⟨hlt, hun, o, ho, hdeps⟩ := ready_unlisted hs hj
      have hji : i ≤ j := by
        rcases Nat.lt_or_ge j i with h1 | h1
        · exact absurd ((hin j hlt).2 h1) hun
        · exact h1
      have hcl : ∀ (x : Nat) ox, ops[x]? = some ox → (isIn listed x ∨ x = j) → ∀ e ∈ ox.after, Region.binds .any e = true → (isIn listed e.on ∨ e.on = j) := by
        intro x ox hx hs' e he hb
        rcases hs' with hs' | rfl
        · have hxlt : x < ops.size := by
            rcases Nat.lt_or_ge x ops.size with h | h
            · exact h
            · rw [Array.getElem?_eq_none h] at hx; cases hx
          have := hf.back x ox hx e he hb
          exact .inl ((hin e.on (by omega)).2 (by have := (hin x hxlt).1 hs'; omega))
        · rw [ho] at hx
          injection hx with hx
          subst hx
          exact .inl (hdeps e he hb)
      have hje : j = i := by
        rcases Nat.lt_or_ge i j with h1 | h1
        · exfalso
          have hb := hf.tail j (by omega) hlt i h1
          rcases bef_spec (S := fun x => isIn listed x ∨ x = j) hcl hb (.inr rfl) with h2 | h2
          · have := (hin i (by omega)).1 h2; omega
          · omega
        · omega
      subst hje
      have hsplit : List.range' j (ops.size - j) = j :: List.range' (j + 1) (ops.size - (j + 1)) := by
        rw [show ops.size - j = (ops.size - (j + 1)) + 1 by omega, List.range'_succ]
      rw [hsplit, wpOps_cons] at h
      have hun' : listed.getD j false = false := by
        unfold isIn at hun
        simpa using hun
      refine wpOp_mono (fun a w h => ih (j + 1) _ a w (by omega) (by omega) (by simpa using hs) (fun x hx => ?_) (by have := left_set hlt hs hun'; omega) h) h
      by_cases hxj : x = j
      · subst hxj
        simp only [isIn, getD_set_self (show x < listed.size by omega)]
        simp
      · simp only [isIn, getD_set_other hxj]
        have := hin x hx
        simp only [isIn] at this
        rw [this]
        omega
variable {F : Nat → Regs} {M : Nat → Mem} {V : Nat → Value}
theorem quiet_any (ht : Tr P k ops F M V) (hf : RegFacts N k ops) {r0 : Ren} {w0 : World} {Q : Exit → Act → World → Prop}
    (hend : ∀ r a w, MemRel r (M k) w → RegRel N r (F k) a → Fr r0 r (M 0) w0 w → wpOps P ops Q (List.range' k (ops.size - k)) a w) :
    ∀ (fuel : Nat) (listed : Array Bool) (r : Ren) (a : Act) (w : World), listed.size = ops.size → (∀ j, k ≤ j → ¬ isIn listed j) → (∀ (i : Nat) o, ops[i]? = some o → isIn listed i → ∀ e ∈ o.after, Region.binds .any e = true → isIn listed e.on) →
      fuel = left ops.size listed → JQ P N k ops F M V r0 w0 (isIn listed) r a w → wpAny P .any ops Q fuel listed a w := by
  intro fuel listed
  -- all of the unordered part has come up
  have turn : ∀ (fuel : Nat) (listed : Array Bool) (r : Ren) (a : Act) (w : World), listed.size = ops.size → (∀ j, k ≤ j → ¬ isIn listed j) → (∀ j, j < k → isIn listed j) → fuel = left ops.size listed → JQ P N k ops F M V r0 w0 (isIn listed) r a w → wpAny P .any ops Q fuel listed a w := by
    intro fuel listed r a w hs htail hall hfu hj
    have hkn := ht.le
    refine tail_any hf fuel k listed a w (Nat.le_refl k) hkn hs (fun j _ => ⟨fun h => ?_, fun h => hall j h⟩) hfu (hend r a w ?_ ⟨hj.size, hj.defers, fun t htN => ?_⟩ hj.fr)
    · rcases Nat.lt_or_ge j k with h1 | h1
      · exact h1
      · exact absurd h (htail j h1)
    · have hm := hj.mem k (Nat.le_refl k)
      have hcut : cut r (M k).next = r := by
        funext n
        unfold cut
        split
        · rfl
        · rename_i hge
          cases hr : r n with
          | none => rfl
          | some l =>
            rcases hj.born n l hr with h1 | ⟨i, h1, _, _, h2⟩
            · have := (ht.ext k (Nat.le_refl k)).2.2.2; omega
            · have := (ht.mono (show i + 1 ≤ k by omega) (Nat.le_refl k)).1; omega
      rw [hcut] at hm
      exact hm
    · have hmono : ∀ q, Ext (cut r q) r := fun q n l hn => .inl (cut_some hn).2
      by_cases hw : ∃ (i : Nat) (o : Oper), i < k ∧ ops[i]? = some o ∧ o.dst = some t
      · obtain ⟨i, o, h1, h2, h3⟩ := hw
        rw [ht.slotSome hf h2 h3 k h1 (Nat.le_refl k)]
        exact (hj.slotW i o t h1 (hall i h1) h2 h3 htN).mono (hmono _)
      · rw [ht.slotNone k (Nat.le_refl k) (fun i o h1 h2 h3 => hw ⟨i, o, h1, h2, h3⟩)]
        refine (hj.slotN t htN fun i o h1 _ h2 h3 => hw ⟨i, o, h1, h2, h3⟩).mono fun n l hn => ?_
        have := hj.old n l hn
        left
        rw [hj.low n this]
        exact hn
  induction fuel generalizing listed with
  | zero =>
    intro r a w hs htail hcl hfu hj
    exact turn 0 listed r a w hs htail (fun j hj => left_zero hfu.symm j (by have := ht.le; omega)) hfu hj
  | succ fuel ih =>
    intro r a w hs htail hcl hfu hj
    by_cases hall : ∀ j, j < k → isIn listed j
    · exact turn _ listed r a w hs htail hall hfu hj
    · refine ⟨fun hr => absurd (fun j hj => all_in hf hs hr j (by have := ht.le; omega)) hall, fun i hi => ?_⟩
      obtain ⟨hlt, hun, o, ho, hdeps⟩ := ready_unlisted hs hi
      have hik : i < k := by
        rcases Nat.lt_or_ge i k with h1 | h1
        · exact h1
        · exfalso
          apply hall
          intro j hj
          have hcl' : ∀ (x : Nat) ox, ops[x]? = some ox → (isIn listed x ∨ x = i) → ∀ e ∈ ox.after, Region.binds .any e = true → (isIn listed e.on ∨ e.on = i) := by
            intro x ox hx hs' e he hb
            rcases hs' with hs' | rfl
            · exact .inl (hcl x ox hx hs' e he hb)
            · rw [ho] at hx
              injection hx with hx
              subst hx
              exact .inl (hdeps e he hb)
          rcases bef_spec (S := fun x => isIn listed x ∨ x = i) hcl' (hf.tail i h1 hlt j (by omega)) (.inr rfl) with h2 | h2
          · exact h2
          · omega
      have hun' : listed.getD i false = false := by
        unfold isIn at hun
        simpa using hun
      have hset : ∀ x, isIn (listed.setIfInBounds i true) x ↔ (isIn listed x ∨ x = i) := by
        intro x
        by_cases hx : x = i
        · subst hx
          simp only [isIn, getD_set_self (show x < listed.size by omega)]
          simp
        · simp only [isIn, getD_set_other hx]
          simp [hx]
      refine hj.next ht hf hik ho hun hcl hdeps fun r2 a2 w2 hj2 => ih (listed.setIfInBounds i true) r2 a2 w2 (by simpa using hs) (fun j hj hin => ?_) (fun x ox hx hin e he hb => ?_) (by have := left_set hlt hs hun'; omega) ?_
      · rcases (hset j).1 hin with h1 | h1
        · exact htail j hj h1
        · omega
      · rw [hset] at hin ⊢
        rcases hin with h1 | rfl
        · exact .inl (hcl x ox hx h1 e he hb)
        · rw [ho] at hx
          injection hx with hx
          subst hx
          exact .inl (hdeps e he hb)
      · have : isIn (listed.setIfInBounds i true) = fun j => isIn listed j ∨ j = i := funext fun x => propext (hset x)
        rw [this]
        exact hj2
theorem drawn_ok (hmx : P.follows .mixedOrders = true) (hk : k ≤ ops.size) (hreg : regOK N k ops = true) {qs ts : List RO} (hq : resolveOpers P ops (ops.toList.take k) = some qs) (hts : resolveOpers P ops (ops.toList.drop k) = some ts)
    {f : Regs} {m : Mem} {Q : AEx → Regs → Mem → Prop} (hgo : goQuiet P qs f m fun f1 m1 => goOps P ts f1 m1 Q) (hwf : m.bar ≤ m.next) (id : Nat) :
    ∃ ex f' m', Q ex f' m' ∧ MExt m m' ∧ ∀ [Inhabited (List Deferred)] (r : Ren) (w : World) (a : Act), MemRel r m w → RegRel N r f a → (Code.region id ops true).wp P (Post N r m w ex f' m') a w := by
  have hf := regFacts hreg
  obtain ⟨F, M, V, h1, h2, h3, h4⟩ := quiet_trace _ _ _ _ _ hq hgo hwf
  have hlen : (ops.toList.take k).length = k := by simp; omega
  rw [hlen] at h3
  have ht : Tr P k ops F M V := ⟨hk, by rw [h2]; exact hwf, fun i o hi ho => h4 i o (by rw [List.getElem?_take, if_pos hi]; simpa using ho)⟩
  obtain ⟨hx, _, hwfk, _⟩ := ht.ext k (Nat.le_refl k)
  obtain ⟨ex, f', m', hQ, hx2, hrun⟩ := goOps_ok (ops := ops) (N := N) (ops.toList.drop k) ts k (F k) (M k) Q (fun j => by simp) hts (fun o ho => by
    have := List.mem_of_mem_drop ho
    obtain ⟨i, hi, rfl⟩ := List.getElem_of_mem this
    exact hf.bounded i _ (by simp at hi; simp [hi])) h3 hwfk
  rw [h2] at hx
  refine ⟨ex, f', m', hQ, hx.trans hx2, fun r w a hm ha => ?_⟩
  refine wp_region_any hmx ?_
  have hrange : (List.range' k (ops.toList.drop k).length) = List.range' k (ops.size - k) := by simp
  refine quiet_any ht hf (r0 := r) (w0 := { w with drawn := w.drawn + 1 }) (fun r1 a1 w1 g1 g2 g3 => ?_) ops.size (Array.replicate ops.size false) r a _ (by simp) (fun j _ h => ?_) (fun i o _ h => ?_) ?_ ?_
  · have := hrun r1 w1 a1 g1 g2
    rw [hrange] at this
    refine wpOps_mono (fun e a2 w2 hp => ?_) _ _ _ this
    obtain ⟨r2, q1, q2, q3, q4⟩ := hp
    have hfr : Fr r r2 (M 0) { w with drawn := w.drawn + 1 } w2 := g3.trans (by rw [h2]; exact hx) q4
    rw [h2] at hfr
    exact ⟨r2, q1, q2, q3, ⟨hfr.size, hfr.os, hfr.tape, hfr.output, hfr.out, hfr.low, hfr.lowR, hfr.ext, hfr.fresh, hfr.img⟩⟩
  · simp [isIn, Array.getD] at h
  · simp [isIn, Array.getD] at h
  · have : ∀ n, (List.range n).countP (fun j => !(Array.replicate ops.size false).getD j false) = n := by
      intro n
      rw [List.countP_eq_length.2]
      · simp
      · intro x _
        simp [Array.getD]
    exact (this ops.size).symm
  · have hmem : MemRel r (M 0) { w with drawn := w.drawn + 1 } := by rw [h2]; exact hm.drawn _
    have hcut : ∀ q, q ≤ k → cut r (M q).next = r := fun q hq => by
      funext n
      unfold cut
      split
      · rfl
      · rename_i hge
        cases hr : r n with
        | none => rfl
        | some l =>
          have := hmem.born n l hr
          have := (ht.ext q hq).2.2.2
          omega
    refine ⟨fun q hq => ?_, fun n l hn => .inl (hmem.born n l hn), ha.1, ha.2.1, fun i o t _ h => ?_, fun t htN _ => ?_, Fr.refl r _ _, fun _ _ => rfl, fun n l hn => hmem.born n l hn⟩
    · rw [hcut q hq]
      obtain ⟨_, _, hwfq, hnx⟩ := ht.ext q hq
      obtain ⟨_, hget⟩ := ht.mono (Nat.zero_le q) hq
      exact ⟨hwfq, fun n l hn => Nat.lt_of_lt_of_le (hmem.born n l hn) hnx, fun n hn => by rw [hget n (hmem.born n _ hn)]; exact hmem.dead n hn, fun n cb base csz hn => by
        rw [hget n (hmem.born n _ hn)]; exact hmem.live n cb base csz hn, hmem.inj⟩
    · simp [isIn, Array.getD] at h
    · rw [h1]
      exact ha.2.2 t htN
end
end Go.Ga

namespace Go.Ga
open Go
def flatB : Option Blk → Bool
  | some (.cells c _) => c.all plain
  | _ => false
def lowV (K : Nat) : Value → Bool
  | .pointer (some a) => decide (a.block < K)
  | .slice (some a) _ _ => decide (a.block < K)
  | v => plain v
def pickEnd (m : Mem) (f' : Regs) (m' : Mem) : AEx → Regs → Mem → Prop := fun ex1 f1 m1 =>
  ex1 = .normal ∧ (∀ n, n < m.next → m'.get n = m.get n) ∧ ∃ σ : Nat → Nat, (∀ n, m.next ≤ n → n < m'.next → m.next ≤ σ n ∧ m'.get n = m1.get (σ n) ∧ flatB (m'.get n) = true) ∧
    (∀ n n', m.next ≤ n → n < m'.next → m.next ≤ n' → n' < m'.next → σ n = σ n' → n = n') ∧
    ∀ i, f' i = botV ∨ (f1 i = f' i ∧ lowV m.next (f' i) = true) ∨ ∃ n off, m.next ≤ n ∧ n < m'.next ∧ f' i = .pointer (some ⟨n, off, none⟩) ∧ f1 i = .pointer (some ⟨σ n, off, none⟩)
theorem VR.low {r1 r2 : Ren} {K : Nat} (h2 : ∀ n, n < K → r2 n = r1 n) {v y : Value} (hv : lowV K v = true) (h : VR r1 v y) : VR r2 v y := by
  unfold lowV at hv
  split at hv
  · rename_i a
    have hK : a.block < K := by simpa using hv
    cases h with
    | ptr hs h =>
      obtain ⟨hs1, l, hl, hat⟩ := h
      exact .ptr hs ⟨hs1, l, by rw [h2 _ hK]; exact hl, hat⟩
  · rename_i a _ _
    have hK : a.block < K := by simpa using hv
    cases h with
    | slice hn h =>
      exact .slice hn ⟨h.le, h.loc.imp id fun ⟨hs, l, hl, hat⟩ => ⟨hs, l, by rw [h2 _ hK]; exact hl, hat⟩, fun e he => (h.room e he).imp id fun hr cb base csz hat => hr cb base csz (by rw [← h2 _ hK]; exact hat), h.exact⟩
  · rw [h.eq_of_plain hv]
    exact VR.of_plain hv
theorem BR.flat {r1 r2 : Ren} {b : Blk} {o : Option Obj} {base csz : Nat} (hb : flatB (some b) = true) (h : BR r1 b o base csz) : BR r2 b o base csz := by
  cases b with
  | map es => simp [flatB] at hb
  | cells l ro =>
    obtain ⟨c, e, fr, h1, h2, h3, h4, h5⟩ := h
    refine ⟨c, e, fr, h1, h2, h3, fun i hi => ?_, h5⟩
    have hp : plain (l.getD i undef) = true := by
      simp only [flatB, List.all_eq_true] at hb
      rw [List.getD_eq_getElem?_getD, List.getElem?_eq_getElem hi]
      exact hb _ (List.getElem_mem hi)
    rw [(h4 i hi).eq_of_plain hp]
    exact VR.of_plain hp
theorem pick_ok [Inhabited (List Deferred)] {N : Nat} {r r1 : Ren} {m m' m1 : Mem} {w w1 : World} {f' f1 : Regs} {a1 : Act} (hm : MemRel r m w) (hx : MExt m m') (hp : pickEnd m f' m' .normal f1 m1)
    (hm1 : MemRel r1 m1 w1) (ha1 : RegRel N r1 f1 a1) (hf : Fr r r1 m.raise w w1) : ∃ r2, MemRel r2 m' w1 ∧ RegRel N r2 f' a1 ∧ Fr r r2 m w w1 := by
  obtain ⟨_, hold, σ, hnew, hinj, hreg⟩ := hp
  have hwf := hm.wf
  have hlowR : ∀ n, n < m.next → r1 n = r n := fun n hn => hf.lowR n hn
  let r2 : Ren := fun n => if n < m.next then r1 n else if n < m'.next then r1 (σ n) else none
  have r2lo : ∀ n, n < m.next → r2 n = r1 n := fun n h => by simp only [r2]; rw [if_pos h]
  have r2hi : ∀ n, m.next ≤ n → n < m'.next → r2 n = r1 (σ n) := fun n h h' => by simp only [r2]; rw [if_neg (by omega), if_pos h']
  have r2no : ∀ n, m'.next ≤ n → r2 n = none := fun n h => by simp only [r2]; rw [if_neg (by have := hx.next; omega), if_neg (by omega)]
  have cls : ∀ n l, r2 n = some l → (n < m.next ∧ r1 n = some l) ∨ (m.next ≤ n ∧ n < m'.next ∧ r1 (σ n) = some l) := fun n l h => by
    rcases Nat.lt_or_ge n m.next with h1 | h1
    · exact .inl ⟨h1, by rw [← r2lo n h1]; exact h⟩
    · rcases Nat.lt_or_ge n m'.next with h3 | h3
      · exact .inr ⟨h1, h3, by rw [← r2hi n h1 h3]; exact h⟩
      · rw [r2no n h3] at h; cases h
  have hext : Ext r r2 := fun n l hn => by
    have hlt := hm.born n l hn
    left
    rw [r2lo n hlt, hlowR n hlt]
    exact hn
  refine ⟨r2, ⟨?_, fun n l hn => ?_, fun n hn => ?_, fun n cb base csz hn => ?_, fun n n' cb b c b' c' h1 h2 => ?_⟩, ⟨ha1.1, ha1.2.1, fun i hi => ?_⟩, ⟨hf.size, hf.os, hf.tape, hf.output, hf.out, fun n cb base csz hn hr => hf.low n cb base csz (show n < m.next by omega) hr, fun n hn => ?_, hext, fun n h1 h2 => ?_, fun n cb base csz hn => ?_⟩⟩
  · have h1 := hx.bar
    have h2 := hx.next
    omega
  · rcases cls n l hn with ⟨h1, _⟩ | ⟨_, h1, _⟩
    · have := hx.next; omega
    · exact h1
  · rcases cls n _ hn with ⟨h1, h2⟩ | ⟨h1, h2, h3⟩
    · rw [hold n h1]
      rw [hlowR n h1] at h2
      exact hm.dead n h2
    · rw [(hnew n h1 h2).2.1]
      exact hm1.dead _ h3
  · rcases cls n _ hn with ⟨h1, h2⟩ | ⟨h1, h2, h3⟩
    · rw [hlowR n h1] at h2
      obtain ⟨b, hg, hb⟩ := hm.live n cb base csz h2
      refine ⟨b, by rw [hold n h1]; exact hg, ?_⟩
      rw [hf.low n cb base csz (show n < m.next from h1) h2]
      exact hb.mono hext
    · obtain ⟨b, hg, hb⟩ := hm1.live _ cb base csz h3
      obtain ⟨g1, g2, g3⟩ := hnew n h1 h2
      refine ⟨b, by rw [g2]; exact hg, ?_⟩
      rw [g2, hg] at g3
      exact hb.flat g3
  · rcases cls n _ h1 with ⟨g1, g2⟩ | ⟨g1, g2, g3⟩ <;> rcases cls n' _ h2 with ⟨k1, k2⟩ | ⟨k1, k2, k3⟩
    · exact hm1.inj _ _ _ _ _ _ _ g2 k2
    · have := hm1.inj _ _ _ _ _ _ _ g2 k3
      have := (hnew n' k1 k2).1
      omega
    · have := hm1.inj _ _ _ _ _ _ _ g3 k2
      have := (hnew n g1 g2).1
      omega
    · exact hinj n n' g1 g2 k1 k2 (hm1.inj _ _ _ _ _ _ _ g3 k3)
  · have hv := ha1.2.2 i hi
    rcases hreg i with h | ⟨h, hl⟩ | ⟨n, off, h1, h2, h3, h4⟩
    · rw [h]; exact .bot _
    · rw [h] at hv
      exact hv.low r2lo hl
    · rw [h4] at hv
      rw [h3]
      generalize a1.tmps.getD i undef = y at hv
      cases hv with
      | ptr hs h =>
        obtain ⟨hs1, l, hl, hat⟩ := h
        exact .ptr rfl ⟨hs1, l, by rw [r2hi n h1 h2]; exact hl, hat⟩
  · rw [r2lo n (by omega), hlowR n (by omega)]
  · rcases Nat.lt_or_ge n m.next with h3 | h3
    · exfalso
      rw [r2lo n h3, hlowR n h3] at h2
      exact h2 h1
    · exact h3
  · rcases cls n _ hn with ⟨_, h2⟩ | ⟨_, _, h2⟩ <;> rcases hf.img _ cb base csz h2 with h3 | h3 | ⟨n0, b0, c0, h3, h4⟩
    · rw [hlowR n (by assumption)] at h2
      exact .inl h2
    · exact .inr (.inl h3)
    · exact .inr (.inr ⟨n0, b0, c0, Nat.le_trans hwf h3, h4⟩)
    · have := hm.born _ _ h3
      have := (hnew n (by assumption) (by assumption)).1
      omega
    · exact .inr (.inl h3)
    · exact .inr (.inr ⟨n0, b0, c0, Nat.le_trans hwf h3, h4⟩)
end Go.Ga

namespace Go.Ga
open Go
def nameless : Value → Bool
  | .pointer (some _) | .slice (some _) _ _ | .map (some _) | .func _ _ _ | .iface _ _ | .agg _ | .tuple _ => false
  | _ => true
inductive NV (S : Nat → Nat → Prop) : Value → Value → Prop where
  | same {v : Value} (h : nameless v = true) : NV S v v
  | und : NV S undef undef
  | bot (v : Value) : NV S botV v
  | ptr {b b' o : Nat} {s : Option Nat} (h : S b b') : NV S (.pointer (some ⟨b, o, s⟩)) (.pointer (some ⟨b', o, s⟩))
  | slice {b b' o n c : Nat} {s : Option Nat} (h : S b b') : NV S (.slice (some ⟨b, o, s⟩) n c) (.slice (some ⟨b', o, s⟩) n c)
  | slice0 : NV S (.slice (some ⟨0, 0, none⟩) 0 0) (.slice (some ⟨0, 0, none⟩) 0 0)
  | map {b b' : Nat} (h : S b b') : NV S (.map (some b)) (.map (some b'))
  | agg {cs cs' : Array Value} (hs : cs.size = cs'.size) (h : ∀ i, NV S (cs.getD i undef) (cs'.getD i undef)) : NV S (.agg cs) (.agg cs')
  | tuple {cs cs' : Array Value} (hs : cs.size = cs'.size) (h : ∀ i, NV S (cs.getD i undef) (cs'.getD i undef)) : NV S (.tuple cs) (.tuple cs')
theorem VR.nameless {r r' : Ren} {v y : Value} (h : VR r v y) (hn : nameless v = true) : VR r' v y := by
  cases h <;> first | (cases hn; done) | exact .bool _ | exact .int _ _ | exact .string _ | exact .und | exact .bot _ | exact .pnil | exact .snil | exact .mnil | exact .nilFunc | exact .nilIface
theorem SR.ren {r1 r2 : Ren} {b b' o c c' : Nat} {s : Option Nat} {a' : Addr} (hS : ∀ l, r1 b' = some l → r2 b = some l) (h : SR r1 ⟨b', o, s⟩ c a' c') : SR r2 ⟨b, o, s⟩ c a' c' := by
  refine ⟨h.le, ?_, fun e he => ?_, h.exact⟩
  · rcases h.loc with h0 | ⟨hs, l, hl, hat⟩
    · exact .inl h0
    · exact .inr ⟨hs, l, hS l hl, hat⟩
  · rcases h.loc with h0 | ⟨hs, l, hl, hat⟩
    · exact .inl h0
    · rcases h.room e he with h1 | h1
      · exact .inl h1
      · refine .inr fun cb base csz hat' => h1 cb base csz ?_
        simp only at hat' hl ⊢
        rw [hS l hl] at hat'
        rw [hl]; exact hat'
theorem NV.vr {S : Nat → Nat → Prop} {r1 r2 : Ren} (hS : ∀ b b' l, S b b' → r1 b' = some l → r2 b = some l) {v v1 : Value} (h : NV S v v1) : ∀ {y : Value}, VR r1 v1 y → VR r2 v y := by
  induction h with
  | same hn => intro y hv; exact hv.nameless hn
  | und => intro y hv; cases hv with
    | und => exact .und
    | tuple hs h =>
      refine .tuple hs fun i => ?_
      have := h i
      simp only [Array.getD, Array.size_empty, Nat.not_lt_zero, dif_neg, not_false_eq_true] at this ⊢
      rename_i cs'
      have h0 : cs'.size = 0 := hs.symm
      rw [dif_neg (by omega)]
      exact .und
  | bot v => intro y hv; exact .bot y
  | ptr h =>
    intro y hv
    cases hv with
    | ptr hs h' =>
      obtain ⟨hs1, l, hl, hat⟩ := h'
      exact .ptr hs ⟨hs1, l, hS _ _ l h hl, hat⟩
  | slice h =>
    intro y hv
    cases hv with
    | slice hn h' => exact .slice hn (h'.ren fun l hl => hS _ _ l h hl)
  | slice0 =>
    intro y hv
    cases hv with
    | slice hn h' =>
      have h0 := h'.exact rfl
      subst h0
      exact .slice hn ⟨Nat.le_refl _, .inl rfl, fun _ _ => .inl rfl, fun _ => rfl⟩
  | map h =>
    intro y hv
    cases hv with
    | map h' =>
      obtain ⟨l, hl, hat⟩ := h'
      exact .map ⟨l, hS _ _ l h hl, hat⟩
  | agg hs _ ih =>
    intro y hv
    cases hv with
    | agg hs' h' => exact .agg (hs.trans hs') fun i => ih i (h' i)
  | tuple hs _ ih =>
    intro y hv
    cases hv with
    | tuple hs' h' => exact .tuple (hs.trans hs') fun i => ih i (h' i)
    | und =>
      refine .tuple hs fun i => ?_
      have := ih i (y := undef)
      simp only [Array.getD, Array.size_empty, Nat.not_lt_zero, dif_neg, not_false_eq_true] at this ⊢
      exact this .und
def NB (S : Nat → Nat → Prop) : Option Blk → Option Blk → Prop
  | none, none => True
  | some (.cells l ro), some (.cells l1 ro1) => ro = ro1 ∧ l.length = l1.length ∧ ∀ i, NV S (l.getD i undef) (l1.getD i undef)
  | some (.map es), some (.map es1) => es.map (·.1) = es1.map (·.1) ∧ ∀ i, NV S ((es.map (·.2)).getD i undef) ((es1.map (·.2)).getD i undef)
  | _, _ => False
theorem NB.br {S : Nat → Nat → Prop} {r1 r2 : Ren} (hS : ∀ b b' l, S b b' → r1 b' = some l → r2 b = some l) {b b1 : Blk} (h : NB S (some b) (some b1)) {o : Option Obj} {base csz : Nat} (hb : BR r1 b1 o base csz) : BR r2 b o base csz := by
  cases b with
  | cells l ro =>
    cases b1 with
    | cells l1 ro1 =>
      obtain ⟨rfl, h2, h3⟩ := h
      obtain ⟨c, e, fr, e1, e2, e3, e4, e5⟩ := hb
      exact ⟨c, e, fr, e1, by omega, e3, fun i hi => (h3 i).vr hS (e4 i (by omega)), e5⟩
    | map es => cases h
  | map es =>
    cases b1 with
    | cells l1 ro1 => cases h
    | map es1 =>
      obtain ⟨h1, h2⟩ := h
      obtain ⟨c, k, e1, e2, e3, e4⟩ := hb
      refine ⟨c, k, e1, by rw [e2, h1], fun p hp => ?_, fun i => (h2 i).vr hS (e4 i)⟩
      have : p.1 ∈ es1.map (·.1) := by rw [← h1]; exact List.mem_map_of_mem hp
      obtain ⟨q, hq, he⟩ := List.mem_map.1 this
      rw [← he]; exact e3 q hq
def Mem.barAt (m : Mem) (K : Nat) : Mem := { m with bar := K }
def renS (K N : Nat) (σ : Nat → Nat) (a b : Nat) : Prop := (a < K ∧ b = a) ∨ (K ≤ a ∧ a < N ∧ b = σ a)
def renEnd (K : Nat) (m : Mem) (f' : Regs) (m' : Mem) : AEx → Regs → Mem → Prop := fun ex1 f1 m1 =>
  ex1 = .normal ∧ (∀ n, n < K → m'.get n = m.get n) ∧ ∃ σ : Nat → Nat, (∀ n, K ≤ n → n < m.next → σ n = n) ∧ (∀ n, m.next ≤ n → n < m'.next → m.next ≤ σ n) ∧
    (∀ n n', K ≤ n → n < m'.next → K ≤ n' → n' < m'.next → σ n = σ n' → n = n') ∧
    (∀ n, K ≤ n → n < m'.next → NB (renS K m'.next σ) (m'.get n) (m1.get (σ n))) ∧ ∀ i, NV (renS K m'.next σ) (f' i) (f1 i)
theorem ren_ok [Inhabited (List Deferred)] {N K : Nat} {r r1 : Ren} {m m' m1 : Mem} {w w1 : World} {f' f1 : Regs} {a1 : Act} (hK : m.bar ≤ K) (hK2 : K ≤ m.next) (hm : MemRel r m w) (hx : MExt m m') (hp : renEnd K m f' m' .normal f1 m1)
    (hm1 : MemRel r1 m1 w1) (ha1 : RegRel N r1 f1 a1) (hf : Fr r r1 (m.barAt K) w w1) : ∃ r2, MemRel r2 m' w1 ∧ RegRel N r2 f' a1 ∧ Fr r r2 m w w1 := by
  obtain ⟨_, hold, σ, hmid, hnew, hinj, hblk, hreg⟩ := hp
  have hlowR : ∀ n, n < K → r1 n = r n := fun n hn => hf.lowR n hn
  have hnx := hx.next
  let r2 : Ren := fun n => if n < K then r1 n else if n < m'.next then r1 (σ n) else none
  have r2lo : ∀ n, n < K → r2 n = r1 n := fun n h => by simp only [r2]; rw [if_pos h]
  have r2hi : ∀ n, K ≤ n → n < m'.next → r2 n = r1 (σ n) := fun n h h' => by simp only [r2]; rw [if_neg (by omega), if_pos h']
  have r2no : ∀ n, m'.next ≤ n → r2 n = none := fun n h => by simp only [r2]; rw [if_neg (by omega), if_neg (by omega)]
  have hS : ∀ b b' l, renS K m'.next σ b b' → r1 b' = some l → r2 b = some l := fun b b' l h hl => by
    rcases h with ⟨h1, rfl⟩ | ⟨h1, h2, rfl⟩
    · rw [r2lo _ h1]; exact hl
    · rw [r2hi _ h1 h2]; exact hl
  have r2old : ∀ n, n < m.next → r2 n = r1 n := fun n h => by
    rcases Nat.lt_or_ge n K with h1 | h1
    · exact r2lo n h1
    · rw [r2hi n h1 (by omega), hmid n h1 h]
  have cls : ∀ n l, r2 n = some l → (n < K ∧ r1 n = some l) ∨ (K ≤ n ∧ n < m'.next ∧ r1 (σ n) = some l) := fun n l h => by
    rcases Nat.lt_or_ge n K with h1 | h1
    · exact .inl ⟨h1, by rw [← r2lo n h1]; exact h⟩
    · rcases Nat.lt_or_ge n m'.next with h3 | h3
      · exact .inr ⟨h1, h3, by rw [← r2hi n h1 h3]; exact h⟩
      · rw [r2no n h3] at h; cases h
  have hext : Ext r r2 := fun n l hn => by
    have hlt := hm.born n l hn
    rw [r2old n hlt]
    exact hf.ext n l hn
  have sge : ∀ n, K ≤ n → n < m'.next → K ≤ σ n := fun n h1 h2 => by
    rcases Nat.lt_or_ge n m.next with h3 | h3
    · rw [hmid n h1 h3]; exact h1
    · have := hnew n h3 h2; omega
  refine ⟨r2, ⟨?_, fun n l hn => ?_, fun n hn => ?_, fun n cb base csz hn => ?_, fun n n' cb b c b' c' h1 h2 => ?_⟩, ⟨ha1.1, ha1.2.1, fun i hi => (hreg i).vr hS (ha1.2.2 i hi)⟩, ⟨hf.size, hf.os, hf.tape, hf.output, hf.out, fun n cb base csz hn hr => hf.low n cb base csz (show n < K by omega) hr, fun n hn => ?_, hext, fun n h1 h2 => ?_, fun n cb base csz hn => ?_⟩⟩
  · have := hx.bar; have := hm.wf; omega
  · rcases cls n l hn with ⟨h1, _⟩ | ⟨_, h1, _⟩
    · omega
    · exact h1
  · rcases cls n _ hn with ⟨h1, h2⟩ | ⟨h1, h2, h3⟩
    · rw [hold n h1]
      rw [hlowR n h1] at h2
      exact hm.dead n h2
    · have h4 := hm1.dead _ h3
      have h5 := hblk n h1 h2
      rw [h4] at h5
      cases hg : m'.get n with
      | none => rfl
      | some b => rw [hg] at h5; cases b <;> cases h5
  · rcases cls n _ hn with ⟨h1, h2⟩ | ⟨h1, h2, h3⟩
    · rw [hlowR n h1] at h2
      obtain ⟨b, hg, hb⟩ := hm.live n cb base csz h2
      refine ⟨b, by rw [hold n h1]; exact hg, ?_⟩
      rw [hf.low n cb base csz (show n < K from h1) h2]
      exact hb.mono hext
    · obtain ⟨b1, hg, hb⟩ := hm1.live _ cb base csz h3
      have h5 := hblk n h1 h2
      rw [hg] at h5
      cases hg' : m'.get n with
      | none => rw [hg'] at h5; cases b1 <;> cases h5
      | some b =>
        rw [hg'] at h5
        exact ⟨b, rfl, h5.br hS hb⟩
  · rcases cls n _ h1 with ⟨g1, g2⟩ | ⟨g1, g2, g3⟩ <;> rcases cls n' _ h2 with ⟨k1, k2⟩ | ⟨k1, k2, k3⟩
    · exact hm1.inj _ _ _ _ _ _ _ g2 k2
    · have := hm1.inj _ _ _ _ _ _ _ g2 k3
      have := sge n' k1 k2
      omega
    · have := hm1.inj _ _ _ _ _ _ _ g3 k2
      have := sge n g1 g2
      omega
    · exact hinj n n' g1 g2 k1 k2 (hm1.inj _ _ _ _ _ _ _ g3 k3)
  · rw [r2old n (by have := hm.wf; omega)]
    exact hlowR n (by omega)
  · rcases Nat.lt_or_ge n m.next with h3 | h3
    · exfalso
      rw [r2old n h3] at h2
      have := hf.fresh n h1 h2
      simp only [Mem.barAt] at this
      omega
    · exact h3
  · have back : ∀ n', r1 n' = some (.at cb base csz) → (r n' = some (.at cb base csz)) ∨ w.heap.size ≤ cb ∨ ∃ n0 b0 c0, m.bar ≤ n0 ∧ r n0 = some (.at cb b0 c0) := fun n' h => by
      rcases hf.img n' cb base csz h with h3 | h3 | ⟨n0, b0, c0, h3, h4⟩
      · exact .inl h3
      · exact .inr (.inl h3)
      · exact .inr (.inr ⟨n0, b0, c0, Nat.le_trans hK h3, h4⟩)
    rcases Nat.lt_or_ge n m.next with h3 | h3
    · rw [r2old n h3] at hn
      exact back n hn
    · rcases cls n _ hn with ⟨h1, _⟩ | ⟨_, h1, h2⟩
      · omega
      · rcases back _ h2 with h4 | h4 | h4
        · have := hm.born _ _ h4
          have := hnew n h3 h1
          omega
        · exact .inr (.inl h4)
        · exact .inr (.inr h4)
end Go.Ga

namespace Go.Ga
open Go
inductive RC where
  | skip
  | ops (qs ts : List RO)
  | seq (a b : RC)
  | cond (c : Rv) (a b : RC)
  | block (id : Nat) (b : RC)
  | loop (b : RC)
  | exit (id : Nat)
  | ret
  | tree (ops : List RO) (deps : List (List Nat)) (conf : List (Option (List Nat)))
  | scope (b : RC) (l : Nat) (r : RC)
  | label (l : Nat)
  | goto (l : Nat)
  | bad
def thenK (next : Regs → Mem → Prop) (Q : AEx → Regs → Mem → Prop) : AEx → Regs → Mem → Prop
  | .normal, f, m => next f m
  | .exit i, f, m => Q (.exit i) f m
  | .goto l, f, m => Q (.goto l) f m
  | .ret, f, m => Q .ret f m
  | .pan v, f, m => Q (.pan v) f m
def blockK (id : Nat) (Q : AEx → Regs → Mem → Prop) : AEx → Regs → Mem → Prop
  | .normal, f, m => Q .normal f m
  | .exit i, f, m => if i = id then Q .normal f m else Q (.exit i) f m
  | .goto l, f, m => Q (.goto l) f m
  | .ret, f, m => Q .ret f m
  | .pan v, f, m => Q (.pan v) f m
def scopeK (l : Nat) (R : Regs → Mem → Prop) (Q : AEx → Regs → Mem → Prop) : AEx → Regs → Mem → Prop
  | .goto l', f, m => if l' = l then R f m else False
  | .normal, f, m => Q .normal f m
  | .exit i, f, m => Q (.exit i) f m
  | .ret, f, m => Q .ret f m
  | .pan v, f, m => Q (.pan v) f m
inductive GRounds (body : Regs → Mem → (AEx → Regs → Mem → Prop) → Prop) (l : Nat) (Q : AEx → Regs → Mem → Prop) : Nat → Regs → Mem → Prop where
  | mk (n : Nat) (f : Regs) (m : Mem) (R : Regs → Mem → Prop) (h : body f m (scopeK l R Q)) (hr : ∀ f1 m1, R f1 m1 → GRounds body l Q n f1 m1) : GRounds body l Q (n + 1) f m
def readyL (deps : List (List Nat)) (mask : Nat) : List Nat := (List.range deps.length).filter fun i => !mask.testBit i && (deps.getD i []).all fun j => mask.testBit j
def allP (l : List Nat) (p : Nat → Prop) : Prop := match l with
  | [] => True
  | i :: l => p i ∧ allP l p
theorem allP_iff {l : List Nat} {p : Nat → Prop} : allP l p ↔ ∀ i ∈ l, p i := by
  induction l with
  | nil => simp [allP]
  | cons i l ih => simp [allP, ih]
def eagerL (deps : List (List Nat)) (conf : List (Option (List Nat))) (mask : Nat) : Option Nat := (readyL deps mask).find? fun i => match conf.getD i none with
  | some c => c.all fun j => mask.testBit j
  | none => false
def nextL (deps : List (List Nat)) (conf : List (Option (List Nat))) (mask : Nat) : List Nat := match eagerL deps conf mask with
  | some i => [i]
  | none => readyL deps mask
def goTree (P : Program) (ops : List RO) (deps : List (List Nat)) (conf : List (Option (List Nat))) : Nat → Nat → Regs → Mem → (AEx → Regs → Mem → Prop) → Prop
  | 0, _, f, m, L => L .normal f m
  | n + 1, mask, f, m, L => allP (nextL deps conf mask) fun i => match ops[i]? with
    | some o => goOps P [o] f m (thenK (fun f1 m1 => goTree P ops deps conf n (mask ||| 2 ^ i) f1 m1 L) L)
    | none => False
def sameEnd (f : Regs) (m : Mem) : AEx → Regs → Mem → Prop := fun ex1 f1 m1 => ex1 = .normal ∧ m1 = m ∧ ∀ i, f i = f1 i ∨ f i = botV
def panEnd (v : Value) (m : Mem) : AEx → Regs → Mem → Prop := fun ex1 _ m1 => ex1 = .pan v ∧ m1 = m
def botR : Regs := fun _ => botV
inductive Rounds (body : Regs → Mem → (AEx → Regs → Mem → Prop) → Prop) (Q : AEx → Regs → Mem → Prop) : Nat → Regs → Mem → Prop where
  | mk (n : Nat) (f : Regs) (m : Mem) (R : Regs → Mem → Prop) (h : body f m (thenK R Q)) (hr : ∀ f1 m1, R f1 m1 → Rounds body Q n f1 m1) : Rounds body Q (n + 1) f m
def RC.vc (P : Program) : RC → Regs → Mem → (AEx → Regs → Mem → Prop) → Prop
  | .skip, f, m, Q => Q .normal f m
  | .ops qs ts, f, m, Q => goQuiet P qs f m fun f1 m1 => goOps P ts f1 m1 Q
  | .seq a b, f, m, Q => a.vc P f m (thenK (fun f1 m1 => b.vc P f1 m1 Q) Q)
  | .cond c a b, f, m, Q => match c.ev f with
    | .bool t => (t = true → a.vc P f m Q) ∧ (t = false → b.vc P f m Q)
    | _ => False
  | .block id b, f, m, Q => b.vc P f m (blockK id Q)
  | .loop b, f, m, Q => ∃ n, Rounds (fun f m Q => b.vc P f m Q) Q n f m
  | .exit id, f, m, Q => Q (.exit id) f m
  | .ret, f, m, Q => Q .ret f m
  | .tree os ds cf, f, m, Q => (∃ f' m', Q .normal f' m' ∧ MExt m m' ∧ (goTree P os ds cf os.length 0 f m (sameEnd f' m') ∨ goTree P os ds cf os.length 0 f m.raise (pickEnd m f' m'))) ∨ (∃ v m', Q (.pan v) botR m' ∧ MExt m m' ∧ goTree P os ds cf os.length 0 f m (panEnd v m')) ∨ (∃ K f' m', m.bar ≤ K ∧ K ≤ m.next ∧ Q .normal f' m' ∧ MExt m m' ∧ goTree P os ds cf os.length 0 f (m.barAt K) (renEnd K m f' m'))
  | .scope b l r, f, m, Q => b.vc P f m (scopeK l (fun f1 m1 => ∃ n, GRounds (fun f m Q => r.vc P f m Q) l Q n f1 m1) Q)
  | .label _, f, m, Q => Q .normal f m
  | .goto l, f, m, Q => Q (.goto l) f m
  | .bad, _, _, _ => False
def findR : RC → Nat → Option RC
  | .seq a b, l => match findR a l with
    | some r => some (.seq r b)
    | none => findR b l
  | .label l', l => if l' == l then some .skip else none
  | _, _ => none
def firstL : RC → Option Nat
  | .seq a b => match firstL a with
    | some l => some l
    | none => firstL b
  | .label l => some l
  | _ => none
def good (b : List Nat) (i : Nat) : Bool := (List.range i).all fun j => (b.getD i 0).testBit j
def tailK (b : List Nat) : Nat → Nat
  | 0 => 0
  | i + 1 => if good b i then tailK b i else i + 1
def opLt (N : Nat) : Operand → Bool
  | .tmp t => decide (t < N)
  | _ => true
def depsOf (o : Oper) : List Nat := (o.after.toList.filter fun e => Region.binds .any e).map (·.on)
def pureB (o : Oper) : Bool := o.guard.isNone && match o.op with
  | .move _ | .assign _ | .extract _ _ => true
  | _ => false
def confOf (ops : Array Oper) (i : Nat) (o : Oper) : Option (List Nat) := if pureB o then some ((List.range ops.size).filter fun j => j != i && match ops[j]? with
  | some oj => !(oj.after.any fun e => Region.binds .any e && e.on == i) && !(o.apart ops oj)
  | none => false) else none
def resolveCode (P : Program) (N : Nat) (T : List Nat := []) : Code → Option RC
  | .skip => some .skip
  | .label l => some (.label l)
  | .region id ops draw =>
    if draw && T.contains id then
      if ops.toList.all (boundedOp N ops) && (ops.toList.zipIdx.all fun (o, i) => (depsOf o).all (· < i)) && Region.noSelect ops then (resolveOpers P ops ops.toList).map fun os => .tree os (ops.toList.map depsOf) (ops.toList.zipIdx.map fun (o, i) => confOf ops i o) else none
    else if draw then
      let k := tailK (bef ops) ops.size
      if k ≤ ops.size ∧ regOK N k ops = true then
        match resolveOpers P ops (ops.toList.take k), resolveOpers P ops (ops.toList.drop k) with
        | some qs, some ts => some (.ops qs ts)
        | _, _ => none
      else none
    else
      if ops.toList.all (boundedOp N ops) then (resolveOpers P ops ops.toList).map (.ops []) else none
  | .seq a b => match resolveCode P N T a, resolveCode P N T b with
    | some x, some y => some (.seq x y)
    | _, _ => none
  | .cond c a b => match resolveRv c, resolveCode P N T a, resolveCode P N T b with
    | some r, some x, some y => if opLt N c then some (.cond r x y) else none
    | _, _, _ => none
  | .block id b => (resolveCode P N T b).map (.block id)
  | .loop b => (resolveCode P N T b).map .loop
  | .exit id => some (.exit id)
  | .ret => some .ret
  | .scope b => match resolveCode P N T b with
    | some x => match firstL x with
      | some l => match findR x l with
        | some r => some (.scope x l r)
        | none => none
      | none => none
    | none => none
  | .goto l => some (.goto l)
  | _ => some .bad
def Sim (P : Program) (N : Nat) (c : Code) (f : Regs) (m : Mem) (ex : AEx) (f' : Regs) (m' : Mem) : Prop :=
  MExt m m' ∧ ∀ [Inhabited (List Deferred)] (r : Ren) (w : World) (a : Act), MemRel r m w → RegRel N r f a → c.wp P (Post N r m w ex f' m') a w
section
variable {P : Program} {N : Nat} [Inhabited (List Deferred)]
theorem Post.trans {r r1 : Ren} {m m1 m2 : Mem} {w w1 : World} {ex : AEx} {f2 : Regs} (hf : Fr r r1 m w w1) (hx : MExt m m1) {e : Exit} {a : Act} {w2 : World} (h : Post N r1 m1 w1 ex f2 m2 e a w2) : Post N r m w ex f2 m2 e a w2 := by
  obtain ⟨r2, h1, h2, h3, h4⟩ := h
  exact ⟨r2, h1, h2, h3, hf.trans hx h4⟩
theorem Sim.seq_normal {a b : Code} {f f1 f2 : Regs} {m m1 m2 : Mem} {ex : AEx} (h1 : Sim P N a f m .normal f1 m1) (h2 : Sim P N b f1 m1 ex f2 m2) : Sim P N (.seq a b) f m ex f2 m2 := by
  refine ⟨h1.1.trans h2.1, fun r w a0 hm ha => wp_seq (wp_mono (h1.2 r w a0 hm ha) fun e a1 w1 hp => ?_)⟩
  obtain ⟨r1, he, hm1, ha1, hf1⟩ := hp
  cases e <;> first | exact he.elim | skip
  exact wp_mono (h2.2 r1 w1 a1 hm1 ha1) fun e a2 w2 hp2 => hp2.trans hf1 h1.1
theorem Sim.seq_exit {a b : Code} {f f1 : Regs} {m m1 : Mem} {ex : AEx} (h1 : Sim P N a f m ex f1 m1) (hne : ex ≠ .normal) : Sim P N (.seq a b) f m ex f1 m1 := by
  refine ⟨h1.1, fun r w a0 hm ha => wp_seq (wp_mono (h1.2 r w a0 hm ha) fun e a1 w1 hp => ?_)⟩
  cases e with
  | normal =>
    obtain ⟨r1, he, _⟩ := hp
    cases ex <;> first | exact absurd rfl hne | exact he.elim
  | _ => exact hp
theorem Sim.loop_exit {b : Code} {f f1 : Regs} {m m1 : Mem} {ex : AEx} (hne : ex ≠ .normal) : ∀ (n : Nat) (F : Nat → Regs) (M : Nat → Mem), F 0 = f → M 0 = m → (∀ i, i < n → Sim P N b (F i) (M i) .normal (F (i + 1)) (M (i + 1))) → Sim P N b (F n) (M n) ex f1 m1 → Sim P N (.loop b) f m ex f1 m1 := by
  intro n F M h0 h1 hs he
  subst h0 h1
  have hx : ∀ i, i ≤ n → MExt (M 0) (M i) := by
    intro i
    induction i with
    | zero => intro _; exact MExt.refl _
    | succ i ih => intro hi; exact (ih (by omega)).trans (hs i (by omega)).1
  refine ⟨(hx n (Nat.le_refl n)).trans he.1, fun r w a hm ha => ?_⟩
  intro bf k cs
  have key : ∀ j i, j + i = n → ∀ (r1 : Ren) (w1 : World) (a1 : Act), MemRel r1 (M i) w1 → RegRel N r1 (F i) a1 → Fr r r1 (M 0) w w1 →
      ∃ e a' w', Post N r (M 0) w ex f1 m1 e a' w' ∧ Arrives P (lone (bf.at a1 (.code b :: .inLoop b :: k)) cs w1) bf k cs e a' w' := by
    intro j
    induction j with
    | zero =>
      intro i hi r1 w1 a1 hm1 ha1 hf1
      have : i = n := by omega
      subst this
      obtain ⟨e, a2, w2, hp, harr⟩ := he.2 r1 w1 a1 hm1 ha1 bf (.inLoop b :: k) cs
      refine ⟨e, a2, w2, hp.trans hf1 (hx i (Nat.le_refl i)), ?_⟩
      have hnn : e ≠ .normal := by
        rintro rfl
        obtain ⟨r2, h2, _⟩ := hp
        cases ex <;> first | exact hne rfl | exact h2.elim
      exact .pass (x := .inLoop b) rfl (fun _ _ => .inl hnn) harr
    | succ j ih =>
      intro i hi r1 w1 a1 hm1 ha1 hf1
      obtain ⟨e, a2, w2, hp, harr⟩ := (hs i (by omega)).2 r1 w1 a1 hm1 ha1 bf (.inLoop b :: k) cs
      obtain ⟨r2, h2, hm2, ha2, hf2⟩ := hp
      cases e <;> first | exact h2.elim | skip
      obtain ⟨e3, a3, w3, hp3, harr3⟩ := ih (i + 1) (by omega) r2 w2 a2 hm2 ha2 (hf1.trans (hx i (by omega)) hf2)
      exact ⟨e3, a3, w3, hp3, .of_steps (Steps.trans harr (.one step_inLoop)) harr3⟩
  obtain ⟨e, a', w', hp, harr⟩ := key n 0 (by omega) r w a hm ha (Fr.refl r _ w)
  exact ⟨e, a', w', hp, .of_steps (.one step_loop) harr⟩
theorem step1 {ops : Array Oper} {i : Nat} {o : Oper} {ro : RO} {f : Regs} {m : Mem} {Q : AEx → Regs → Mem → Prop} (hi : ops[i]? = some o) (hro : resolveOper P ops o = some ro) (hbo : boundedOp N ops o = true) (hv : goOps P [ro] f m Q) (hwf : m.bar ≤ m.next) :
    ∃ ex f' m', Q ex f' m' ∧ MExt m m' ∧ ∀ [Inhabited (List Deferred)] (r : Ren) (w : World) (a : Act), MemRel r m w → RegRel N r f a → ∀ (K : Act → World → Prop) (Q' : Exit → Act → World → Prop),
      (ex = .normal → ∀ r' a' w', MemRel r' m' w' → RegRel N r' f' a' → Fr r r' m w w' → K a' w') →
      (∀ r' e a' w', ex ≠ .normal → ExRel r' ex e → MemRel r' m' w' → RegRel N r' f' a' → Fr r r' m w w' → Q' e a' w') → wpOp P ops Q' i K a w := by
  obtain ⟨hit, hdst⟩ := RO_item hro
  simp only [goOps] at hv
  split at hv
  · rename_i hw
    obtain ⟨out, hout, hK⟩ := sound_item hit hv hwf
    cases out with
    | val v m1 =>
      refine ⟨.normal, _, m1, hK, hout.1, fun r w a hm ha K Q' hk hp => ?_⟩
      refine stepOp hi hro hbo hout hw hm ha.1 (fun t ht => ha.2.2 t (bounded_tmps hbo t ht)) (fun s hs => ha.2.2 s (bounded_guard hbo s hs)) (fun v2 m2 he r' v' w' hv' hm' hf => ?_) (fun v2 m2 he => by cases he)
      injection he with e1 e2
      subst e1 e2
      exact hk rfl r' _ w' hm' (by rw [hdst]; exact ha.put hf.ext hv' o.dst) hf
    | pan v m1 =>
      refine ⟨.pan v, f, m1, hK, hout.1, fun r w a hm ha K Q' hk hp => ?_⟩
      refine stepOp hi hro hbo hout hw hm ha.1 (fun t ht => ha.2.2 t (bounded_tmps hbo t ht)) (fun s hs => ha.2.2 s (bounded_guard hbo s hs)) (fun v2 m2 he => by cases he) (fun v2 m2 he r' v' w' hv' hm' hf => ?_)
      injection he with e1 e2
      subst e1 e2
      exact hp r' _ a w' (by simp) ⟨v', rfl, hv'⟩ hm' (ha.mono hf.ext) hf
  · rename_i hw
    refine ⟨.normal, _, m, hv, MExt.refl m, fun r w a hm ha K Q' hk hp => ?_⟩
    refine skipOp hi hro hbo hw ha.1 (fun s hs => ha.2.2 s (bounded_guard hbo s hs)) ?_
    exact hk rfl r _ w hm (by rw [hdst]; exact ha.put (Ext.refl r) .und o.dst) (Fr.refl r m w)
  · cases hv
theorem resolveOpers_get {ops : Array Oper} : ∀ {l : List Oper} {rl : List RO}, resolveOpers P ops l = some rl → ∀ (i : Nat) o, l[i]? = some o → ∃ ro, rl[i]? = some ro ∧ resolveOper P ops o = some ro
  | [], rl, _, i, o, h => by simp at h
  | x :: l, rl, hr, i, o, h => by
    simp only [resolveOpers] at hr
    split at hr
    · rename_i ro rs hro hrs
      simp only [Option.some.injEq] at hr
      subst hr
      cases i with
      | zero =>
        simp only [List.getElem?_cons_zero, Option.some.injEq] at h
        subst h
        exact ⟨ro, rfl, hro⟩
      | succ i => simpa using resolveOpers_get hrs i o (by simpa using h)
    · cases hr
theorem resolveOpers_len {ops : Array Oper} : ∀ {l : List Oper} {rl : List RO}, resolveOpers P ops l = some rl → rl.length = l.length
  | [], rl, h => by
    simp only [resolveOpers, Option.some.injEq] at h
    subst h; rfl
  | x :: l, rl, hr => by
    simp only [resolveOpers] at hr
    split at hr
    · rename_i ro rs hro hrs
      simp only [Option.some.injEq] at hr
      subst hr
      simp [resolveOpers_len hrs]
    · cases hr
theorem pure_yields {o : Oper} {a : Act} {w : World} {C : Act → World → Prop} {Q : Exit → Act → World → Prop} (hp : pureB o = true) (h : o.wp P a w C Q) : ∃ v, (∀ w', (execOp a.eval o).run P w' = .ok (.value v) w') ∧ C (a.put o.dst v) w := by
  obtain ⟨dst, op, type, pos, after, guard⟩ := o
  simp only [pureB, Bool.and_eq_true] at hp
  obtain ⟨_, hp⟩ := hp
  unfold Oper.wp at h
  cases op with
  | move x =>
    refine ⟨a.eval x, fun w' => by simp [execOp], ?_⟩
    have : (execOp a.eval ⟨dst, .move x, type, pos, after, guard⟩).run P w = .ok (.value (a.eval x)) w := by simp [execOp]
    rw [this] at h
    exact h
  | assign x =>
    refine ⟨a.eval x, fun w' => by simp [execOp], ?_⟩
    have : (execOp a.eval ⟨dst, .assign x, type, pos, after, guard⟩).run P w = .ok (.value (a.eval x)) w := by simp [execOp]
    rw [this] at h
    exact h
  | extract x i =>
    cases hx : a.eval x with
    | tuple vs =>
      cases hv : vs[i]? with
      | none => simp [execOp, Instr.extract, hx, hv, Oper.upon] at h
      | some v =>
        refine ⟨v, fun w' => by simp [execOp, Instr.extract, hx, hv], ?_⟩
        simpa [execOp, Instr.extract, hx, hv, Oper.upon] using h
    | _ => simp [execOp, Instr.extract, hx, Oper.upon] at h
  | _ => simp at hp
theorem tree_any {ops : Array Oper} {rops : List RO} (hr : resolveOpers P ops ops.toList = some rops) (hb : ∀ (i : Nat) o, ops[i]? = some o → boundedOp N ops o = true) (hback : ∀ (i : Nat) o, ops[i]? = some o → ∀ e ∈ o.after, Region.binds .any e = true → e.on < i) (hsel : Region.noSelect ops = true)
    {L : AEx → Regs → Mem → Prop} {Q' : Exit → Act → World → Prop} {r0 : Ren} {m0 : Mem} {w0 : World}
    (hQn : ∀ c a w d v, Q' (.panic c) (a.put d v) w → Q' (.panic c) a w) (hL : ∀ ex f m, L ex f m → MExt m0 m → ∀ r w a e, ExRel r ex e → MemRel r m w → RegRel N r f a → Fr r0 r m0 w0 w → Q' e a w) :
    ∀ (n : Nat) (listed : Nat) (larr : Array Bool) (f : Regs) (m : Mem), larr.size = ops.size → (∀ j, j < ops.size → (isIn larr j ↔ listed.testBit j = true)) → n = left ops.size larr → goTree P rops (ops.toList.map depsOf) (ops.toList.zipIdx.map fun (o, i) => confOf ops i o) n listed f m L → m.bar ≤ m.next → MExt m0 m →
      ∀ r w a, MemRel r m w → RegRel N r f a → Fr r0 r m0 w0 w → wpAny P .any ops Q' n larr a w := by
  intro n
  induction n with
  | zero =>
    intro listed larr f m hs hin hn ht hwf hx r w a hm ha hf
    have hall := left_zero hn.symm
    refine ⟨?_, hL .normal f m ht hx r w a .normal trivial hm ha hf⟩
    apply List.eq_nil_iff_forall_not_mem.2
    intro j hj
    obtain ⟨h1, h2, _⟩ := ready_unlisted hs hj
    exact h2 (hall j h1)
  | succ n ih =>
    intro listed larr f m hs hin hn ht hwf hx r w a hm ha hf
    simp only [goTree] at ht
    unfold nextL at ht
    split at ht
    · rename_i i hei
      unfold eagerL at hei
      have hmem := List.mem_of_find?_eq_some hei
      have hconf := List.find?_some hei
      simp only [readyL, List.mem_filter, List.mem_range, List.length_map, Array.length_toList, Bool.and_eq_true, Bool.not_eq_true', List.all_eq_true] at hmem
      obtain ⟨hlt, hun, hdp⟩ := hmem
      have ho : ops[i]? = some ops[i] := Array.getElem?_eq_getElem hlt
      obtain ⟨o, hoe⟩ : ∃ o, ops[i]? = some o := ⟨_, ho⟩
      have hun' : larr.getD i false = false := by
        cases h : larr.getD i false with
        | false => rfl
        | true => have := (hin i hlt).1 h; rw [hun] at this; cases this
      have ec : (ops.toList.zipIdx.map fun (o, i) => confOf ops i o).getD i none = confOf ops i o := by
        simp [List.getD_eq_getElem?_getD, List.getElem?_map, List.getElem?_zipIdx, hoe]
      rw [ec] at hconf
      have hpure : pureB o = true := by
        unfold confOf at hconf
        split at hconf
        · rename_i c hc
          split at hc
          · assumption
          · cases hc
        · cases hconf
      have e1 : (ops.toList.map depsOf).getD i [] = depsOf o := by
        simp [List.getD_eq_getElem?_getD, List.getElem?_map, hoe]
      rw [e1] at hdp
      simp only [allP, and_true] at ht
      obtain ⟨ro, hro1, hro2⟩ := resolveOpers_get hr i o (by simpa using hoe)
      simp only [hro1] at ht
      obtain ⟨ex, f1, m1, hq, hx1, hrun⟩ := step1 hoe hro2 (hb i o hoe) ht hwf
      have hg : o.guard = none := by
        simp only [pureB, Bool.and_eq_true, Option.isNone_iff_eq_none] at hpure
        exact hpure.1
      have hwant : Region.wanted o (yielded ops a.tmps) = true := by simp [Region.wanted, hg]
      have hex : ex = .normal := by
        rcases Classical.em (ex = .normal) with h | hne
        · exact h
        · exfalso
          have h1 := hrun r w a hm ha (fun _ _ => False) (fun e _ _ => e ≠ .outgrown) (fun h => absurd h hne) (fun r' e _ _ _ her _ _ _ h => by
            subst h
            cases ex <;> exact her.elim)
          unfold wpOp at h1
          simp only [hoe] at h1
          rw [hwant] at h1
          simp only [if_true] at h1
          rcases h1 with h1 | ⟨_, a2, w2, h1⟩
          · exact (pure_yields hpure h1).choose_spec.2
          · exact h1 rfl
      subst hex
      have h1 := hrun r w a hm ha (fun a1 w1 => ∃ r1, MemRel r1 m1 w1 ∧ RegRel N r1 f1 a1 ∧ Fr r r1 m w w1) (fun _ _ _ => False) (fun _ r1 a1 w1 g1 g2 g3 => ⟨r1, g1, g2, g3⟩) (fun _ _ _ _ hne => absurd rfl hne)
      unfold wpOp at h1
      simp only [hoe] at h1
      rw [hwant] at h1
      simp only [if_true] at h1
      rcases h1 with h1 | ⟨_, a2, w2, h1⟩
      case inr => exact h1.elim
      obtain ⟨v, hv, r1, g1, g2, g3⟩ := pure_yields hpure h1
      refine wpAny_take hoe hsel ?_ ?_ (fun c a w h => hQn c _ _ _ _ h) (v := v) (.inl ⟨hwant, hv⟩) ?_
      · unfold Region.free
        simp only [hoe, List.all_eq_true, List.mem_range]
        intro j hj
        obtain ⟨oj, hoj⟩ : ∃ oj, ops[j]? = some oj := ⟨_, Array.getElem?_eq_getElem hj⟩
        by_cases hji : j = i
        · simp [hji]
        · simp only [hoj]
          unfold confOf at hconf
          rw [if_pos hpure] at hconf
          simp only [List.all_eq_true, List.mem_filter, List.mem_range] at hconf
          cases ha1 : (oj.after.any fun e => Region.binds .any e && e.on == i) with
          | true => simp
          | false =>
            cases ha2 : o.apart ops oj with
            | true => simp
            | false =>
              have h2 := hconf j ⟨hj, by simp [hji, hoj, ha1, ha2]⟩
              have h3 := (hin j hj).2 h2
              unfold isIn at h3
              have : larr.getD j true = true := by
                simp only [Array.getD, show j < larr.size by omega, dite_true] at h3 ⊢
                exact h3
              simp [this]
      · have : i ∈ Region.ready .any ops larr := mem_ready.2 ⟨by
          simp only [Array.getD, show i < larr.size by omega, dite_true] at hun' ⊢
          exact hun', o, hoe, fun e he hbd => (hin e.on (by have := hback i o hoe e he hbd; omega)).2 (hdp e.on (by
            simp only [depsOf, List.mem_map, List.mem_filter]
            exact ⟨e, ⟨by simpa using he, hbd⟩, rfl⟩))⟩
        simpa using this
      · refine ih (listed ||| 2 ^ i) _ f1 m1 (by simpa using hs) (fun j hj => ?_) (by have := left_set hlt hs hun'; omega) hq (by have := hx1.bar; have := hx1.next; omega) (hx.trans hx1) r1 w _ g1 g2 (hf.trans hx g3)
        by_cases hji : j = i
        · subst hji
          simp only [isIn, getD_set_self (show j < larr.size by omega), Nat.testBit_or, Nat.testBit_two_pow]
          simp
        · simp only [isIn, getD_set_other hji]
          have := hin j hj
          simp only [isIn] at this
          rw [this, Nat.testBit_or, Nat.testBit_two_pow]
          simp [Ne.symm hji]
    refine ⟨fun hr0 => ?_, fun i hi => ?_⟩
    · exfalso
      have hall : ∀ j, j < ops.size → isIn larr j := by
        intro j
        induction j using Nat.strongRecOn with
        | _ j ihj =>
          intro hj
          rcases Classical.em (isIn larr j) with hin | hin
          · exact hin
          · exfalso
            have ho : ops[j]? = some ops[j] := Array.getElem?_eq_getElem hj
            have : j ∈ Region.ready .any ops larr := mem_ready.2 ⟨by
              unfold isIn at hin
              simp only [Array.getD, show j < larr.size by omega, dite_true] at hin ⊢
              simpa using hin, _, ho, fun e he hb => ihj e.on (hback j _ ho e he hb) (by have := hback j _ ho e he hb; omega)⟩
            rw [hr0] at this
            cases this
      have : left ops.size larr = 0 := List.countP_eq_zero.2 fun j hj => by
        have := hall j (List.mem_range.1 hj)
        simp only [isIn] at this
        simp [this]
      omega
    · obtain ⟨hlt, hun, o, ho, hdeps⟩ := ready_unlisted hs hi
      have hun' : larr.getD i false = false := by
        unfold isIn at hun
        simpa using hun
      simp only [allP_iff] at ht
      have hmem : i ∈ readyL (ops.toList.map depsOf) listed := by
        simp only [readyL, List.mem_filter, List.mem_range, List.length_map, Array.length_toList, Bool.and_eq_true, Bool.not_eq_true', List.all_eq_true]
        refine ⟨hlt, ?_, fun j hj => ?_⟩
        · have : ¬ listed.testBit i = true := fun h => hun ((hin i hlt).2 h)
          simpa using this
        · have e1 : (ops.toList.map depsOf).getD i [] = depsOf o := by
            have : ops.toList[i]? = some o := by simpa using ho
            simp [List.getD_eq_getElem?_getD, List.getElem?_map, ho]
          rw [e1] at hj
          simp only [depsOf, List.mem_map, List.mem_filter] at hj
          obtain ⟨e, ⟨he1, he2⟩, rfl⟩ := hj
          have h1 := hdeps e (by simpa using he1) he2
          have h2 := hback i o ho e (by simpa using he1) he2
          exact (hin e.on (by omega)).1 h1
      have hti := ht i hmem
      obtain ⟨ro, hro1, hro2⟩ := resolveOpers_get hr i o (by simpa using ho)
      simp only [hro1] at hti
      obtain ⟨ex, f1, m1, hq, hx1, hrun⟩ := step1 ho hro2 (hb i o ho) hti hwf
      refine hrun r w a hm ha _ _ (fun he r' a' w' hm' ha' hf' => ?_) (fun r' e a' w' hne her hm' ha' hf' => ?_)
      · subst he
        refine ih (listed ||| 2 ^ i) _ f1 m1 (by simpa using hs) (fun j hj => ?_) (by have := left_set hlt hs hun'; omega) hq (by have := hx1.bar; have := hx1.next; omega) (hx.trans hx1) r' w' a' hm' ha' (hf.trans hx hf')
        by_cases hji : j = i
        · subst hji
          simp only [isIn, getD_set_self (show j < larr.size by omega), Nat.testBit_or, Nat.testBit_two_pow]
          simp
        · simp only [isIn, getD_set_other hji]
          have := hin j hj
          simp only [isIn] at this
          rw [this, Nat.testBit_or, Nat.testBit_two_pow]
          simp [Ne.symm hji]
      · refine hL ex f1 m1 ?_ (hx.trans hx1) r' w' a' e her hm' ha' (hf.trans hx hf')
        cases ex <;> first | exact absurd rfl hne | exact hq
theorem step_scope {b : Frame} {a : Act} {k : List Go.Item} {cs : List Frame} {w : World} {c : Code} : step P (lone (b.at a (.code (.scope c) :: k)) cs w) = .next (lone (b.at a (.code c :: .inScope c :: k)) cs w) :=
  step_lone_go (by simp [stepG, stepG.exec, Frame.at])
theorem step_inScope {b : Frame} {a : Act} {k : List Go.Item} {cs : List Frame} {w : World} {c : Code} : step P (lone (b.at a (.inScope c :: k)) cs w) = .next (lone (b.at a k) cs w) :=
  step_lone_go (by simp [stepG, stepG.exec, Frame.at])
theorem Arrives.outScope {mm : Machine} {b : Frame} {c : Code} {k : List Go.Item} {cs : List Frame} {r : Ren} {ex : AEx} {e : Exit} {a : Act} {w : World} (he : ExRel r ex e) (hne : ∀ l, ex ≠ .goto l) (h : Arrives P mm b (.inScope c :: k) cs e a w) : Arrives P mm b k cs e a w := by
  cases e with
  | normal => exact Steps.trans h (.one step_inScope)
  | exit id => exact fun k' hk => h k' (by simpa [exitTo] using hk)
  | goto l => cases ex <;> first | exact he.elim | exact absurd rfl (hne _)
  | ret => exact h
  | panic ch => exact h
  | outgrown => cases ex <;> exact he.elim
theorem Sim.scope_exit {c rest : Code} {l : Nat} {f f1 : Regs} {m m1 : Mem} {ex : AEx} (hl : findLabel c l = some rest) (hne : ∀ l, ex ≠ .goto l) (n : Nat) (F : Nat → Regs) (M : Nat → Mem) (h0 : Sim P N c f m (.goto l) (F 0) (M 0))
    (hs : ∀ i, i < n → Sim P N rest (F i) (M i) (.goto l) (F (i + 1)) (M (i + 1))) (he : Sim P N rest (F n) (M n) ex f1 m1) : Sim P N (.scope c) f m ex f1 m1 := by
  have hx : ∀ i, i ≤ n → MExt (M 0) (M i) := by
    intro i
    induction i with
    | zero => intro _; exact MExt.refl _
    | succ i ih => intro hi; exact (ih (by omega)).trans (hs i (by omega)).1
  refine ⟨h0.1.trans ((hx n (Nat.le_refl n)).trans he.1), fun r w a hm ha => ?_⟩
  intro bf k cs
  obtain ⟨e0, a0, w0, hp0, harr0⟩ := h0.2 r w a hm ha bf (.inScope c :: k) cs
  obtain ⟨r0, he0, hm0, ha0, hf0⟩ := hp0
  cases e0 <;> first | exact he0.elim | skip
  rename_i l0
  have hl0 : l = l0 := he0
  subst hl0
  have hgo : gotoIn l (.inScope c :: k) = some (.code rest :: .inScope c :: k) := by simp [gotoIn, hl]
  have key : ∀ j i, j + i = n → ∀ (r1 : Ren) (w1 : World) (a1 : Act), MemRel r1 (M i) w1 → RegRel N r1 (F i) a1 → Fr r r1 m w w1 →
      ∃ e a' w', Post N r m w ex f1 m1 e a' w' ∧ Arrives P (lone (bf.at a1 (.code rest :: .inScope c :: k)) cs w1) bf k cs e a' w' := by
    intro j
    induction j with
    | zero =>
      intro i hi r1 w1 a1 hm1 ha1 hf1
      have : i = n := by omega
      subst this
      obtain ⟨e, a2, w2, hp, harr⟩ := he.2 r1 w1 a1 hm1 ha1 bf (.inScope c :: k) cs
      obtain ⟨r2, h2, h3⟩ := hp
      exact ⟨e, a2, w2, Post.trans hf1 (h0.1.trans (hx i (Nat.le_refl i))) ⟨r2, h2, h3⟩, Arrives.outScope h2 hne harr⟩
    | succ j ih =>
      intro i hi r1 w1 a1 hm1 ha1 hf1
      obtain ⟨e, a2, w2, hp, harr⟩ := (hs i (by omega)).2 r1 w1 a1 hm1 ha1 bf (.inScope c :: k) cs
      obtain ⟨r2, h2, hm2, ha2, hf2⟩ := hp
      cases e <;> first | exact h2.elim | skip
      have h2 : l = _ := h2
      subst h2
      obtain ⟨e3, a3, w3, hp3, harr3⟩ := ih (i + 1) (by omega) r2 w2 a2 hm2 ha2 (hf1.trans (h0.1.trans (hx i (by omega))) hf2)
      exact ⟨e3, a3, w3, hp3, .of_steps (harr _ hgo) harr3⟩
  obtain ⟨e, a', w', hp, harr⟩ := key n 0 (by omega) r0 w0 a0 hm0 ha0 hf0
  exact ⟨e, a', w', hp, .of_steps (Steps.trans (.one step_scope) (harr0 _ hgo)) harr⟩
theorem Sim.scope_plain {c : Code} {f f1 : Regs} {m m1 : Mem} {ex : AEx} (hne : ∀ l, ex ≠ .goto l) (h : Sim P N c f m ex f1 m1) : Sim P N (.scope c) f m ex f1 m1 := by
  refine ⟨h.1, fun r w a hm ha => ?_⟩
  intro bf k cs
  obtain ⟨e, a2, w2, hp, harr⟩ := h.2 r w a hm ha bf (.inScope c :: k) cs
  obtain ⟨r2, h2, h3⟩ := hp
  exact ⟨e, a2, w2, ⟨r2, h2, h3⟩, .of_steps (.one step_scope) (Arrives.outScope h2 hne harr)⟩
theorem findR_spec {T : List Nat} : ∀ {c : Code} {x r : RC} {l : Nat}, resolveCode P N T c = some x → findR x l = some r → ∃ rest, findLabel c l = some rest ∧ resolveCode P N T rest = some r ∧ SizeOf.sizeOf rest ≤ SizeOf.sizeOf c := by
  have none_of : ∀ {c : Code} {x : RC} {l : Nat}, resolveCode P N T c = some x → findR x l = none → findLabel c l = none := by
    intro c
    induction c with
    | seq a b iha ihb =>
      intro x l hr hn
      simp only [resolveCode] at hr
      split at hr
      · rename_i y z hy hz
        simp only [Option.some.injEq] at hr
        subst hr
        simp only [findR] at hn
        split at hn
        · cases hn
        · rename_i h1
          simp only [findLabel, iha hy h1]
          exact ihb hz hn
      · cases hr
    | label l' =>
      intro x l hr hn
      simp only [resolveCode, Option.some.injEq] at hr
      subst hr
      simp only [findR] at hn
      simp only [findLabel]
      split at hn
      · cases hn
      · rename_i h; simp [h]
    | _ => intro x l hr hn; rfl
  intro c
  induction c with
  | seq a b iha ihb =>
    intro x r l hr hf
    simp only [resolveCode] at hr
    split at hr
    · rename_i y z hy hz
      simp only [Option.some.injEq] at hr
      subst hr
      simp only [findR] at hf
      split at hf
      · rename_i r1 h1
        simp only [Option.some.injEq] at hf
        subst hf
        obtain ⟨rest, g1, g2, g3⟩ := iha hy h1
        refine ⟨.seq rest b, by simp [findLabel, g1], by simp [resolveCode, g2, hz], ?_⟩
        simp only [Code.seq.sizeOf_spec]; omega
      · rename_i h1
        obtain ⟨rest, g1, g2, g3⟩ := ihb hz hf
        refine ⟨rest, by simp [findLabel, none_of hy h1, g1], g2, ?_⟩
        simp only [Code.seq.sizeOf_spec]; omega
    · cases hr
  | label l' =>
    intro x r l hr hf
    simp only [resolveCode, Option.some.injEq] at hr
    subst hr
    simp only [findR] at hf
    split at hf
    · rename_i h
      simp only [Option.some.injEq] at hf
      subst hf
      refine ⟨.skip, by simp [findLabel, h], by simp [resolveCode], by simp⟩
    · cases hf
  | scope b ih =>
    intro x r l hr hf
    simp only [resolveCode] at hr
    split at hr
    · split at hr
      · split at hr
        · simp only [Option.some.injEq] at hr; subst hr; simp [findR] at hf
        · cases hr
      · cases hr
    · cases hr
  | region id ops draw =>
    intro x r l hr hf
    simp only [resolveCode] at hr
    split at hr
    · split at hr
      · simp only [Option.map_eq_some_iff] at hr
        obtain ⟨os, _, rfl⟩ := hr
        simp [findR] at hf
      · cases hr
    · split at hr
      · split at hr
        · split at hr
          · simp only [Option.some.injEq] at hr; subst hr; simp [findR] at hf
          · cases hr
        · cases hr
      · split at hr
        · simp only [Option.map_eq_some_iff] at hr
          obtain ⟨os, _, rfl⟩ := hr
          simp [findR] at hf
        · cases hr
  | cond c a b iha ihb =>
    intro x r l hr hf
    simp only [resolveCode] at hr
    split at hr
    · split at hr
      · simp only [Option.some.injEq] at hr; subst hr; simp [findR] at hf
      · cases hr
    · cases hr
  | block id b ih =>
    intro x r l hr hf
    simp only [resolveCode, Option.map_eq_some_iff] at hr
    obtain ⟨os, _, rfl⟩ := hr
    simp [findR] at hf
  | loop b ih =>
    intro x r l hr hf
    simp only [resolveCode, Option.map_eq_some_iff] at hr
    obtain ⟨os, _, rfl⟩ := hr
    simp [findR] at hf
  | _ =>
    intro x r l hr hf
    simp only [resolveCode, Option.some.injEq] at hr
    subst hr
    simp [findR] at hf
theorem vc_sound (hmx : P.follows .mixedOrders = true) {T : List Nat} : ∀ (n : Nat) (c : Code), SizeOf.sizeOf c ≤ n → ∀ (rc : RC) (f : Regs) (m : Mem) (Q : AEx → Regs → Mem → Prop), resolveCode P N T c = some rc → rc.vc P f m Q → m.bar ≤ m.next → ∃ ex f' m', Q ex f' m' ∧ Sim P N c f m ex f' m' := by
  intro n
  induction n with
  | zero => intro c h; cases c <;> simp at h
  | succ n IH =>
  intro c hsz
  cases c with
  | skip =>
    intro rc f m Q hr hv hwf
    simp only [resolveCode, Option.some.injEq] at hr
    subst hr
    exact ⟨.normal, f, m, hv, MExt.refl m, fun r w a hm ha => wp_skip ⟨r, trivial, hm, ha, Fr.refl r m w⟩⟩
  | label l =>
    intro rc f m Q hr hv hwf
    simp only [resolveCode, Option.some.injEq] at hr
    subst hr
    exact ⟨.normal, f, m, hv, MExt.refl m, fun r w a hm ha => wp_label ⟨r, trivial, hm, ha, Fr.refl r m w⟩⟩
  | exit id =>
    intro rc f m Q hr hv hwf
    simp only [resolveCode, Option.some.injEq] at hr
    subst hr
    exact ⟨.exit id, f, m, hv, MExt.refl m, fun r w a hm ha => wp_exit ⟨r, rfl, hm, ha, Fr.refl r m w⟩⟩
  | ret =>
    intro rc f m Q hr hv hwf
    simp only [resolveCode, Option.some.injEq] at hr
    subst hr
    exact ⟨.ret, f, m, hv, MExt.refl m, fun r w a hm ha => wp_ret ⟨r, trivial, hm, ha, Fr.refl r m w⟩⟩
  | region id ops draw =>
    intro rc f m Q hr hv hwf
    simp only [resolveCode] at hr
    split at hr
    · rename_i hd
      have hd : draw = true := by
        rw [Bool.and_eq_true] at hd
        exact hd.1
      subst hd
      split at hr
      · rename_i hk
        simp only [Option.map_eq_some_iff] at hr
        obtain ⟨os, hos, rfl⟩ := hr
        rw [Bool.and_eq_true, Bool.and_eq_true, List.all_eq_true, List.all_eq_true] at hk
        obtain ⟨⟨hb, hd⟩, hsel⟩ := hk
        simp only [RC.vc] at hv
        have hlen : os.length = ops.size := by rw [resolveOpers_len hos]; simp
        have hcnt : ops.size = left ops.size (Array.replicate ops.size false) := by
          have : ∀ n, (List.range n).countP (fun j => !(Array.replicate ops.size false).getD j false) = n := by
            intro n
            rw [List.countP_eq_length.2]
            · simp
            · intro x _
              simp [Array.getD]
          exact (this ops.size).symm
        have hdeps : ∀ (i : Nat) o, ops[i]? = some o → ∀ e ∈ o.after, Region.binds .any e = true → e.on < i := fun i o ho e he hbd => by
          have := hd (o, i) (mem_zip ho)
          simp only [List.all_eq_true, decide_eq_true_eq] at this
          exact this e.on (by
            simp only [depsOf, List.mem_map, List.mem_filter]
            exact ⟨e, ⟨by simpa using he, hbd⟩, rfl⟩)
        rcases hv with ⟨f', m', hq, hx, ht⟩ | ⟨v, m', hq, hx, ht⟩ | ⟨K, f', m', hK, hK2, hq, hx, ht⟩
        · rw [hlen] at ht
          refine ⟨.normal, f', m', hq, hx, fun r w a hm ha => wp_region_any hmx ?_⟩
          rcases ht with ht | ht
          · refine tree_any (N := N) (r0 := r) (m0 := m) (w0 := w) hos (fun i o ho => hb o (by rw [Array.mem_toList_iff]; exact Array.mem_of_getElem? ho)) hdeps hsel (fun c a w d v h => by
              obtain ⟨r2, h1, _⟩ := h
              exact h1.elim) (fun ex1 f1 m1 hl hx1 r1 w1 a1 e her hm1 ha1 hf1 => ?_) ops.size 0 _ f m (by simp) (fun j hj => by simp [isIn, Array.getD, hj]) hcnt ht hwf (MExt.refl m) r _ a (hm.drawn _) ha (Fr.drawn r m w _)
            obtain ⟨rfl, rfl, hw⟩ := hl
            refine ⟨r1, her, hm1, ⟨ha1.1, ha1.2.1, fun i hi => ?_⟩, hf1⟩
            rcases hw i with h | h
            · rw [h]; exact ha1.2.2 i hi
            · rw [h]; exact .bot _
          · refine tree_any (N := N) (r0 := r) (m0 := m.raise) (w0 := w) hos (fun i o ho => hb o (by rw [Array.mem_toList_iff]; exact Array.mem_of_getElem? ho)) hdeps hsel (fun c a w d v h => by
              obtain ⟨r2, h1, _⟩ := h
              exact h1.elim) (fun ex1 f1 m1 hl hx1 r1 w1 a1 e her hm1 ha1 hf1 => ?_) ops.size 0 _ f m.raise (by simp) (fun j hj => by simp [isIn, Array.getD, hj]) hcnt ht (Nat.le_refl _) (MExt.refl m.raise) r _ a (MemRel.drawn (m := m.raise) ⟨Nat.le_refl _, hm.born, hm.dead, hm.live, hm.inj⟩ _) ha (Fr.drawn r m.raise w _)
            have hex : ex1 = .normal := hl.1
            subst hex
            obtain ⟨r2, g1, g2, g3⟩ := pick_ok hm hx hl hm1 ha1 hf1
            exact ⟨r2, by cases e <;> first | trivial | exact her.elim, g1, g2, g3⟩
        · rw [hlen] at ht
          refine ⟨.pan v, botR, m', hq, hx, fun r w a hm ha => wp_region_any hmx ?_⟩
          refine tree_any (N := N) (r0 := r) (m0 := m) (w0 := w) hos (fun i o ho => hb o (by rw [Array.mem_toList_iff]; exact Array.mem_of_getElem? ho)) hdeps hsel (fun c a w d v h => ?_) (fun ex1 f1 m1 hl hx1 r1 w1 a1 e her hm1 ha1 hf1 => ?_) ops.size 0 _ f m (by simp) (fun j hj => by simp [isIn, Array.getD, hj]) hcnt ht hwf (MExt.refl m) r _ a (hm.drawn _) ha (Fr.drawn r m w _)
          · obtain ⟨r2, h1, h2, h3, h4⟩ := h
            refine ⟨r2, h1, h2, ⟨?_, ?_, fun i hi => .bot _⟩, h4⟩
            · have := h3.1
              cases d <;> simpa [Act.put] using this
            · have := h3.2.1
              rw [put_defers] at this
              exact this
          · obtain ⟨rfl, rfl⟩ := hl
            exact ⟨r1, her, hm1, ⟨ha1.1, ha1.2.1, fun i hi => .bot _⟩, hf1⟩
        · rw [hlen] at ht
          refine ⟨.normal, f', m', hq, hx, fun r w a hm ha => wp_region_any hmx ?_⟩
          refine tree_any (N := N) (r0 := r) (m0 := m.barAt K) (w0 := w) hos (fun i o ho => hb o (by rw [Array.mem_toList_iff]; exact Array.mem_of_getElem? ho)) hdeps hsel (fun c a w d v h => by
            obtain ⟨r2, h1, _⟩ := h
            exact h1.elim) (fun ex1 f1 m1 hl hx1 r1 w1 a1 e her hm1 ha1 hf1 => ?_) ops.size 0 _ f (m.barAt K) (by simp) (fun j hj => by simp [isIn, Array.getD, hj]) hcnt ht hK2 (MExt.refl (m.barAt K)) r _ a (MemRel.drawn (m := m.barAt K) ⟨hK2, hm.born, hm.dead, hm.live, hm.inj⟩ _) ha (Fr.drawn r (m.barAt K) w _)
          have hex : ex1 = .normal := hl.1
          subst hex
          obtain ⟨r2, g1, g2, g3⟩ := ren_ok hK hK2 hm hx hl hm1 ha1 hf1
          exact ⟨r2, by cases e <;> first | trivial | exact her.elim, g1, g2, g3⟩
      · cases hr
    split at hr
    · rename_i hd
      subst hd
      split at hr
      · rename_i hk
        split at hr
        · rename_i qs ts hq hts
          simp only [Option.some.injEq] at hr
          subst hr
          exact drawn_ok hmx hk.1 hk.2 hq hts hv hwf id
        · cases hr
      · cases hr
    · rename_i hd
      have hd : draw = false := by simpa using hd
      subst hd
      split at hr
      · rename_i hb
        rw [List.all_eq_true] at hb
        cases hrs : resolveOpers P ops ops.toList with
        | none => simp [hrs] at hr
        | some ts =>
          simp only [hrs, Option.map_some, Option.some.injEq] at hr
          subst hr
          obtain ⟨ex, f', m', hQ, hx, hrun⟩ := goOps_ok (ops := ops) (N := N) ops.toList ts 0 f m Q (fun j => by simp) hrs hb hv hwf
          refine ⟨ex, f', m', hQ, hx, fun r w a hm ha => wp_region ?_⟩
          have := hrun r w a hm ha
          rw [show List.range' 0 ops.toList.length = List.range ops.size by simp [List.range_eq_range']] at this
          exact this
      · cases hr
  | seq a b =>
    have iha := IH a (by simp only [Code.seq.sizeOf_spec] at hsz; omega)
    have ihb := IH b (by simp only [Code.seq.sizeOf_spec] at hsz; omega)
    intro rc f m Q hr hv hwf
    simp only [resolveCode] at hr
    split at hr
    · rename_i x y hx hy
      simp only [Option.some.injEq] at hr
      subst hr
      simp only [RC.vc] at hv
      obtain ⟨ex, f1, m1, hq, hs⟩ := iha x f m _ hx hv hwf
      cases ex with
      | normal =>
        obtain ⟨ex2, f2, m2, hq2, hs2⟩ := ihb y f1 m1 Q hy hq (by have := hs.1.bar; have := hs.1.next; omega)
        exact ⟨ex2, f2, m2, hq2, hs.seq_normal hs2⟩
      | exit i => exact ⟨_, f1, m1, hq, hs.seq_exit (by simp)⟩
      | goto i => exact ⟨_, f1, m1, hq, hs.seq_exit (by simp)⟩
      | ret => exact ⟨_, f1, m1, hq, hs.seq_exit (by simp)⟩
      | pan v => exact ⟨_, f1, m1, hq, hs.seq_exit (by simp)⟩
    · cases hr
  | cond c a b =>
    have iha := IH a (by simp only [Code.cond.sizeOf_spec] at hsz; omega)
    have ihb := IH b (by simp only [Code.cond.sizeOf_spec] at hsz; omega)
    intro rc f m Q hr hv hwf
    simp only [resolveCode] at hr
    split at hr
    · rename_i r0 x y hc hx hy
      split at hr
      · rename_i hbd
        simp only [Option.some.injEq] at hr
        subst hr
        simp only [RC.vc] at hv
        split at hv
        · rename_i t he
          have hev : ∀ [Inhabited (List Deferred)] (r : Ren) (a0 : Act), RegRel N r f a0 → a0.eval c = .bool t := by
            intro _ r a0 ha
            have := resolveRv_rel (f := f) (r := r) (a := a0) hc (fun u e => by subst e; exact ha.2.2 u (by simpa [opLt] using hbd))
            rw [he] at this
            exact this.eq_of_plain rfl
          cases t with
          | true =>
            obtain ⟨ex, f1, m1, hq, hs⟩ := iha x f m Q hx (hv.1 rfl) hwf
            exact ⟨ex, f1, m1, hq, hs.1, fun r w a0 hm ha => wp_cond (hev r a0 ha) (hs.2 r w a0 hm ha)⟩
          | false =>
            obtain ⟨ex, f1, m1, hq, hs⟩ := ihb y f m Q hy (hv.2 rfl) hwf
            exact ⟨ex, f1, m1, hq, hs.1, fun r w a0 hm ha => wp_cond (hev r a0 ha) (hs.2 r w a0 hm ha)⟩
        · cases hv
      · cases hr
    · cases hr
  | block id b =>
    have ih := IH b (by simp only [Code.block.sizeOf_spec] at hsz; omega)
    intro rc f m Q hr hv hwf
    simp only [resolveCode] at hr
    cases hb : resolveCode P N T b with
    | none => simp [hb] at hr
    | some x =>
      simp only [hb, Option.map_some, Option.some.injEq] at hr
      subst hr
      simp only [RC.vc] at hv
      obtain ⟨ex, f1, m1, hq, hs⟩ := ih x f m _ hb hv hwf
      cases ex with
      | exit i =>
        simp only [blockK] at hq
        split at hq
        · rename_i hid
          subst hid
          refine ⟨.normal, f1, m1, hq, hs.1, fun r w a0 hm ha => wp_block (wp_mono (hs.2 r w a0 hm ha) fun e a1 w1 hp => ?_)⟩
          obtain ⟨r1, he, h2⟩ := hp
          cases e <;> first | exact he.elim | skip
          have he : i = _ := he
          subst he
          simp only [Exit.inBlock, if_true]
          exact ⟨r1, trivial, h2⟩
        · rename_i hid
          refine ⟨.exit i, f1, m1, hq, hs.1, fun r w a0 hm ha => wp_block (wp_mono (hs.2 r w a0 hm ha) fun e a1 w1 hp => ?_)⟩
          obtain ⟨r1, he, h2⟩ := hp
          cases e <;> first | exact he.elim | skip
          have he : i = _ := he
          subst he
          simp only [Exit.inBlock]
          rw [if_neg hid]
          exact ⟨r1, rfl, h2⟩
      | _ =>
        refine ⟨_, f1, m1, hq, hs.1, fun r w a0 hm ha => wp_block (wp_mono (hs.2 r w a0 hm ha) fun e a1 w1 hp => ?_)⟩
        have hp' := hp
        obtain ⟨r1, he, h2⟩ := hp'
        cases e <;> first | exact he.elim | exact hp
  | loop b =>
    have ih := IH b (by simp only [Code.loop.sizeOf_spec] at hsz; omega)
    intro rc f m Q hr hv hwf
    simp only [resolveCode] at hr
    cases hb : resolveCode P N T b with
    | none => simp [hb] at hr
    | some x =>
      simp only [hb, Option.map_some, Option.some.injEq] at hr
      subst hr
      simp only [RC.vc] at hv
      obtain ⟨n, hv⟩ := hv
      have key : ∀ n f m, Rounds (fun f m Q => x.vc P f m Q) Q n f m → m.bar ≤ m.next → ∃ (j : Nat) (F : Nat → Regs) (M : Nat → Mem) (ex : AEx) (f' : Regs) (m' : Mem), F 0 = f ∧ M 0 = m ∧ (∀ i, i < j → Sim P N b (F i) (M i) .normal (F (i + 1)) (M (i + 1))) ∧
          Sim P N b (F j) (M j) ex f' m' ∧ ex ≠ .normal ∧ Q ex f' m' := by
        intro n f m hR
        induction hR with
        | mk n f m R h hr ihr =>
          intro hwf
          obtain ⟨ex, f1, m1, hq, hs⟩ := ih x f m _ hb h hwf
          cases ex with
          | normal =>
            obtain ⟨j, F, M, ex, f', m', e1, e2, h3, h4, h5, h6⟩ := ihr f1 m1 hq (by have := hs.1.bar; have := hs.1.next; omega)
            refine ⟨j + 1, fun i => match i with | 0 => f | i + 1 => F i, fun i => match i with | 0 => m | i + 1 => M i, ex, f', m', rfl, rfl, fun i hi => ?_, h4, h5, h6⟩
            cases i with
            | zero => simp only [e1, e2]; exact hs
            | succ i => exact h3 i (by omega)
          | exit i => exact ⟨0, fun _ => f, fun _ => m, _, f1, m1, rfl, rfl, fun i hi => by omega, hs, by simp, hq⟩
          | goto i => exact ⟨0, fun _ => f, fun _ => m, _, f1, m1, rfl, rfl, fun i hi => by omega, hs, by simp, hq⟩
          | ret => exact ⟨0, fun _ => f, fun _ => m, _, f1, m1, rfl, rfl, fun i hi => by omega, hs, by simp, hq⟩
          | pan v => exact ⟨0, fun _ => f, fun _ => m, _, f1, m1, rfl, rfl, fun i hi => by omega, hs, by simp, hq⟩
      obtain ⟨j, F, M, ex, f', m', e1, e2, h3, h4, h5, h6⟩ := key n f m hv hwf
      exact ⟨ex, f', m', h6, Sim.loop_exit h5 j F M e1 e2 h3 h4⟩
  | goto l =>
    intro rc f m Q hr hv hwf
    simp only [resolveCode, Option.some.injEq] at hr
    subst hr
    exact ⟨.goto l, f, m, hv, MExt.refl m, fun r w a hm ha => wp_goto ⟨r, rfl, hm, ha, Fr.refl r m w⟩⟩
  | scope b =>
    have ih := IH b (by simp only [Code.scope.sizeOf_spec] at hsz; omega)
    intro rc f m Q hr hv hwf
    simp only [resolveCode] at hr
    split at hr
    · rename_i x hx
      split at hr
      · rename_i l hl
        split at hr
        · rename_i r hr1
          simp only [Option.some.injEq] at hr
          subst hr
          obtain ⟨rest, hfl, hres, hle⟩ := findR_spec hx hr1
          have ihr := IH rest (by simp only [Code.scope.sizeOf_spec] at hsz; omega)
          simp only [RC.vc] at hv
          obtain ⟨ex, f1, m1, hq, hs⟩ := ih x f m _ hx hv hwf
          have hwf1 : m1.bar ≤ m1.next := by have := hs.1.bar; have := hs.1.next; omega
          cases ex with
          | goto l' =>
            simp only [scopeK] at hq
            split at hq
            · rename_i hll
              subst hll
              obtain ⟨n, hR⟩ := hq
              have key : ∀ n f m, GRounds (fun f m Q => r.vc P f m Q) l' Q n f m → m.bar ≤ m.next → ∃ (j : Nat) (F : Nat → Regs) (M : Nat → Mem) (ex : AEx) (f' : Regs) (m' : Mem), F 0 = f ∧ M 0 = m ∧ (∀ i, i < j → Sim P N rest (F i) (M i) (.goto l') (F (i + 1)) (M (i + 1))) ∧
                  Sim P N rest (F j) (M j) ex f' m' ∧ (∀ l, ex ≠ .goto l) ∧ Q ex f' m' := by
                intro n f m hR
                induction hR with
                | mk n f m R h hr ihr' =>
                  intro hwf
                  obtain ⟨ex, f2, m2, hq2, hs2⟩ := ihr r f m _ hres h hwf
                  cases ex with
                  | goto i =>
                    simp only [scopeK] at hq2
                    split at hq2
                    · rename_i hii
                      subst hii
                      obtain ⟨j, F, M, ex, f', m', e1, e2, h3, h4, h5, h6⟩ := ihr' f2 m2 hq2 (by have := hs2.1.bar; have := hs2.1.next; omega)
                      refine ⟨j + 1, fun i => match i with | 0 => f | i + 1 => F i, fun i => match i with | 0 => m | i + 1 => M i, ex, f', m', rfl, rfl, fun i hi => ?_, h4, h5, h6⟩
                      cases i with
                      | zero => simp only [e1, e2]; exact hs2
                      | succ i => exact h3 i (by omega)
                    · cases hq2
                  | normal => exact ⟨0, fun _ => f, fun _ => m, _, f2, m2, rfl, rfl, fun i hi => by omega, hs2, by simp, hq2⟩
                  | exit i => exact ⟨0, fun _ => f, fun _ => m, _, f2, m2, rfl, rfl, fun i hi => by omega, hs2, by simp, hq2⟩
                  | ret => exact ⟨0, fun _ => f, fun _ => m, _, f2, m2, rfl, rfl, fun i hi => by omega, hs2, by simp, hq2⟩
                  | pan v => exact ⟨0, fun _ => f, fun _ => m, _, f2, m2, rfl, rfl, fun i hi => by omega, hs2, by simp, hq2⟩
              obtain ⟨j, F, M, ex, f', m', e1, e2, h3, h4, h5, h6⟩ := key n f1 m1 hR hwf1
              exact ⟨ex, f', m', h6, Sim.scope_exit hfl h5 j F M (by rw [e1, e2]; exact hs) h3 h4⟩
            · cases hq
          | normal => exact ⟨_, f1, m1, hq, hs.scope_plain (by simp)⟩
          | exit i => exact ⟨_, f1, m1, hq, hs.scope_plain (by simp)⟩
          | ret => exact ⟨_, f1, m1, hq, hs.scope_plain (by simp)⟩
          | pan v => exact ⟨_, f1, m1, hq, hs.scope_plain (by simp)⟩
        · cases hr
      · cases hr
    · cases hr
  | _ =>
    intro rc f m Q hr hv
    simp only [resolveCode, Option.some.injEq] at hr
    subst hr
    exact hv.elim
end
end Go.Ga

namespace Go.Ga
open Go
inductive RVar where
  | t (i : Nat)
  | c1 (i : Nat)
  | cN (i n : Nat)
structure RFn where
  n : Nat
  code : RC
  results : List RVar
def resolveVars (P : Program) (N : Nat) : List ResultVar → Option (List RVar)
  | [] => some []
  | .tmp t :: l => match resolveVars P N l with
    | some rs => if t < N then some (.t t :: rs) else none
    | none => none
  | .cell a ty :: l => match resolveVars P N l, P.underlying ty, P.info? ty with
    | some rs, some d, some i => if a < N then some ((if aggD d then .cN a i.size else .c1 a) :: rs) else none
    | _, _, _ => none
def resVals (f : Regs) (m : Mem) : List RVar → Option (List Value)
  | [] => some []
  | .t i :: l => (resVals f m l).map (f i :: ·)
  | .c1 i :: l => match f i with
    | .pointer (some a) => match m.get a.block with
      | some (.cells c _) => if a.off < c.length then (resVals f m l).map (c.getD a.off undef :: ·) else none
      | _ => none
    | _ => none
  | .cN i n :: l => match f i with
    | .pointer (some a) => match m.get a.block with
      | some (.cells c _) => if a.off + n ≤ c.length then (resVals f m l).map (.agg ((c.drop a.off).take n).toArray :: ·) else none
      | _ => none
    | _ => none
def oneOrTuple : List Value → Value
  | [v] => v
  | vs => .tuple vs.toArray
def retK (rs : List RVar) (K : Res → Mem → Prop) : AEx → Regs → Mem → Prop
  | .normal, f, m => match resVals f m rs with | some vs => K (.ret (oneOrTuple vs)) m | none => False
  | .ret, f, m => match resVals f m rs with | some vs => K (.ret (oneOrTuple vs)) m | none => False
  | .pan v, _, m => K (.pan v) m
  | .exit _, _, _ => False
  | .goto _, _, _ => False
def resolveFn (P : Program) (g : FuncId) (T : List Nat := []) : Option RFn :=
  match P.funcs[g]? with
  | some fn => match fn.body with
    | some c => if fn.name == "runtime.NumGoroutine" then none else
      match resolveCode P fn.ntmps T c, resolveVars P fn.ntmps fn.results.toList with
      | some rc, some rs => some ⟨fn.ntmps, rc, rs⟩
      | _, _ => none
    | none => none
  | none => none
def resF (tmps : Array Value) : ResultVar → Sem Value
  | .tmp t => pure (tmps.getD t undef)
  | .cell x t => do loadVar t (← asAddr (tmps.getD x undef))
theorem results_eq (fn : Func) (tmps : Array Value) : results fn tmps = (do
    let vs ← fn.results.mapM (resF tmps)
    pure (if h : vs.size = 1 then vs[0] else .tuple vs)) := by
  unfold results
  congr 1
section
variable {P : Program} {N : Nat} [Inhabited (List Deferred)]
theorem results_run {r : Ren} {m : Mem} {w : World} {f : Regs} {a : Act} (hm : MemRel r m w) (ha : RegRel N r f a) : ∀ (vs : List ResultVar) (rs : List RVar) (l : List Value), resolveVars P N vs = some rs → resVals f m rs = some l →
    ∃ l' : List Value, (vs.mapM (m := Sem) (resF a.tmps)).run P w = .ok l' w ∧ l'.length = l.length ∧ ∀ i, VR r (l.getD i undef) (l'.getD i undef)
  | [], rs, l, h, hl => by
    simp only [resolveVars, Option.some.injEq] at h
    subst h
    simp only [resVals, Option.some.injEq] at hl
    subst hl
    exact ⟨[], rfl, rfl, fun i => by simpa using VR.und⟩
  | .tmp t :: vs, rs, l, h, hl => by
    simp only [resolveVars] at h
    split at h
    · rename_i rs1 hrs
      split at h
      · rename_i ht
        simp only [Option.some.injEq] at h
        subst h
        simp only [resVals] at hl
        cases h1 : resVals f m rs1 with
        | none => simp [h1] at hl
        | some l1 =>
          simp only [h1, Option.map_some, Option.some.injEq] at hl
          subst hl
          obtain ⟨l', g1, g2, g3⟩ := results_run hm ha vs rs1 l1 hrs h1
          refine ⟨a.tmps.getD t undef :: l', ?_, by simp [g2], fun i => ?_⟩
          · have e0 : resF a.tmps (.tmp t) = pure (a.tmps.getD t undef) := rfl
            simp only [List.mapM_cons, Sem.run_bind, e0, Sem.run_pure, Result.andThen_ok, g1]
          · cases i with
            | zero => simpa using ha.2.2 t ht
            | succ i => simpa using g3 i
      · cases h
    · cases h
  | .cell x ty :: vs, rs, l, h, hl => by
    simp only [resolveVars] at h
    split at h
    · rename_i rs1 d ti hrs hd hti
      split at h
      · rename_i hx
        simp only [Option.some.injEq] at h
        subst h
        have hrel := ha.2.2 x hx
        -- what is read
        have key : ∀ (u : Value) (l1 : List Value), resVals f m rs1 = some l1 → l = u :: l1 → (∃ u', (do loadVar ty (← asAddr (a.tmps.getD x undef))).run P w = .ok u' w ∧ VR r u u') →
            ∃ l' : List Value, ((ResultVar.cell x ty :: vs).mapM (m := Sem) (resF a.tmps)).run P w = .ok l' w ∧ l'.length = l.length ∧ ∀ i, VR r (l.getD i undef) (l'.getD i undef) := by
          intro u l1 h1 hl hu
          obtain ⟨u', hu1, hu2⟩ := hu
          obtain ⟨l', g1, g2, g3⟩ := results_run hm ha vs rs1 l1 hrs h1
          subst hl
          refine ⟨u' :: l', ?_, by simp [g2], fun i => ?_⟩
          · have e0 : resF a.tmps (.cell x ty) = (do loadVar ty (← asAddr (a.tmps.getD x undef))) := rfl
            rw [List.mapM_cons, Sem.run_bind, e0, hu1]
            simp only [Sem.run_bind, Result.andThen_ok, g1, Sem.run_pure]
          · cases i with
            | zero => simpa using hu2
            | succ i => simpa using g3 i
        by_cases hagg : aggD d = true
        · rw [if_pos hagg] at hl
          simp only [resVals] at hl
          split at hl
          · rename_i a0 ha0
            split at hl
            · rename_i c ro hg
              split at hl
              · rename_i hle
                cases h1 : resVals f m rs1 with
                | none => simp [h1] at hl
                | some l1 =>
                  simp only [h1, Option.map_some, Option.some.injEq] at hl
                  refine key _ l1 h1 hl.symm ?_
                  rw [ha0] at hrel
                  obtain ⟨a', ex, har, _⟩ := hrel.addr
                  rw [ex]
                  have hx' := hrel
                  rw [ex] at hx'
                  obtain ⟨r', u', w', hrun, hu, hm', hf⟩ := loadN_ok (P := P) hm hd (by cases d <;> simp_all [aggD]) hti hx' hg hle
                  simp only [Instr.loadAt, Instr.sureAddr, Sem.run_bind, Sem.run_pure, Result.andThen_ok] at hrun
                  obtain ⟨cs, hc1, hc2, hc3⟩ := loadCells_ok (P := P) hm har hg hle
                  refine ⟨.agg cs, ?_, VR.agg_of (by simp [hc2]; omega) fun j => ?_⟩
                  · simp only [asAddr, Sem.run_bind, Sem.run_pure, Result.andThen_ok, loadVar, isAgg_run hd, hagg, if_true, size_of hti, hc1]
                  · by_cases hj : j < ti.size
                    · have := hc3 j hj
                      simp only [List.getD_eq_getElem?_getD, List.getElem?_take, hj, if_true, List.getElem?_drop] at this ⊢
                      exact this
                    · have e : ((c.drop a0.off).take ti.size).getD j undef = undef := by
                        simp [List.getD_eq_getElem?_getD, List.getElem?_take, hj]
                      have e' : cs.getD j undef = undef := by
                        simp only [Array.getD]
                        rw [dif_neg (by omega)]
                      rw [e, e']
                      exact .und
              · cases hl
            · cases hl
          · cases hl
        · rw [if_neg hagg] at hl
          simp only [resVals] at hl
          split at hl
          · rename_i a0 ha0
            split at hl
            · rename_i c ro hg
              split at hl
              · rename_i hle
                cases h1 : resVals f m rs1 with
                | none => simp [h1] at hl
                | some l1 =>
                  simp only [h1, Option.map_some, Option.some.injEq] at hl
                  refine key _ l1 h1 hl.symm ?_
                  rw [ha0] at hrel
                  obtain ⟨a', ex, har, _⟩ := hrel.addr
                  rw [ex]
                  obtain ⟨v', hv1, hv2⟩ := load_ok (P := P) hm har hg hle
                  refine ⟨v', ?_, hv2⟩
                  have hagg' : aggD d = false := by simpa using hagg
                  simp only [asAddr, Sem.run_bind, Sem.run_pure, Result.andThen_ok, loadVar, isAgg_run hd, hagg', Bool.false_eq_true, if_false, hv1]
              · cases hl
            · cases hl
          · cases hl
      · cases h
    · cases h
theorem VR.oneOrTuple {r : Ren} {l l' : List Value} (hl : l'.length = l.length) (h : ∀ i, VR r (l.getD i undef) (l'.getD i undef)) : VR r (oneOrTuple l) (oneOrTuple l') := by
  match l, l', hl with
  | [], [], _ => exact .und
  | [v], [v'], _ => simpa [Go.Ga.oneOrTuple] using h 0
  | v :: u :: l, v' :: u' :: l', hl =>
    refine .tuple (by simpa using hl.symm) fun i => ?_
    have := h i
    rw [← toList_getD, ← toList_getD]
    exact this
end
section
variable {P : Program} {N : Nat}
theorem fn_sound (hmx : P.follows .mixedOrders = true) {g : FuncId} {rf : RFn} {T : List Nat} (h : resolveFn P g T = some rf) {args : List Value} {m : Mem} {K : Res → Mem → Prop} (hn : args.length ≤ rf.n)
    (hv : rf.code.vc P (fun i => args.getD i undef) m (retK rf.results K)) : Fn P g args m K := by
  intro hwf
  unfold resolveFn at h
  split at h
  · rename_i fn hfn
    split at h
    · rename_i c hb
      split at h
      · cases h
      · rename_i hname
        split at h
        · rename_i rc rs hrc hrs
          simp only [Option.some.injEq] at h
          subst h
          obtain ⟨ex, f', m', hq, hx, hs⟩ := vc_sound hmx (SizeOf.sizeOf c) c (Nat.le_refl _) rc _ m _ hrc hv hwf
          have start : ∀ (r : Ren) (args' : Array Value), args'.size = args.length → (∀ i, VR r (args.getD i undef) (args'.getD i undef)) →
              RegRel fn.ntmps r (fun i => args.getD i undef) { tmps := args' ++ Array.replicate (fn.ntmps - args'.size) undef, defers := [] } := by
            intro r args' hsz hva
            refine ⟨by simp; simp only at hn; omega, rfl, fun i hi => ?_⟩
            simp only
            rw [aappend_getD]
            by_cases hge : i < args'.size
            · rw [if_pos hge]
              exact hva i
            · rw [if_neg hge]
              have e1 : args.getD i undef = undef := by
                rw [List.getD_eq_getElem?_getD, List.getElem?_eq_none (by omega)]
                rfl
              have e2 : (Array.replicate (fn.ntmps - args'.size) undef).getD (i - args'.size) undef = undef := by
                simp only [Array.getD]
                split <;> simp
              rw [e1, e2]
              exact .und
          have ret : ∀ (vs : List Value), resVals f' m' rs = some vs → (ex = .normal ∨ ex = .ret) → FnEv P g args m (.ret (oneOrTuple vs)) m' := by
            intro vs hvs hex
            refine ⟨⟨fn, hfn, by simp [hb], by simpa using hname⟩, hx, fun r w args' hm hsz hva => ?_⟩
            refine calls_of_wp hfn hb (wp_mono (hs r w _ hm (start r args' hsz hva)) fun e a' w' hp => ?_)
            obtain ⟨r', he, hm', ha', hf⟩ := hp
            obtain ⟨l', g1, g2, g3⟩ := results_run (P := P) hm' ha' fn.results.toList rs vs hrs hvs
            have hres : (results fn a'.tmps).run P w' = .ok (oneOrTuple l') w' := by
              rw [results_eq, Array.mapM_eq_mapM_toList]
              simp only [Sem.run_bind, Sem.run_map, g1, Result.andThen_ok, Sem.run_pure]
              congr 1
              match l' with
              | [] => rfl
              | [v] => rfl
              | v :: u :: l => rfl
            have goal : bodyPost P fn (fun e w' => ∃ r', ResRel r' (.ret (oneOrTuple vs)) e ∧ MemRel r' m' w' ∧ Fr r r' m w w') .ret a' w' :=
              ⟨ha'.2.1, _, hres, r', VR.oneOrTuple g2 g3, hm', hf⟩
            rcases hex with rfl | rfl <;> cases e <;> first | exact he.elim | exact goal
          cases ex with
          | normal =>
            simp only [retK] at hq
            split at hq
            · rename_i vs hvs
              exact ⟨_, m', ret vs hvs (.inl rfl), hq⟩
            · cases hq
          | ret =>
            simp only [retK] at hq
            split at hq
            · rename_i vs hvs
              exact ⟨_, m', ret vs hvs (.inr rfl), hq⟩
            · cases hq
          | exit i => cases hq
          | goto i => cases hq
          | pan v =>
            refine ⟨.pan v, m', ⟨⟨fn, hfn, by simp [hb], by simpa using hname⟩, hx, fun r w args' hm hsz hva => ?_⟩, hq⟩
            refine calls_of_wp hfn hb (wp_mono (hs r w _ hm (start r args' hsz hva)) fun e a' w' hp => ?_)
            obtain ⟨r', he, hm', ha', hf⟩ := hp
            cases e <;> first | exact he.elim | exact ⟨ha'.2.1, r', he, hm', hf⟩
        · cases h
    · cases h
  · cases h
end
end Go.Ga

namespace Go.Ga
open Go
def isCells (w : World) (n : Nat) : Bool :=
  match w.heap[n]? with
  | some (.cells _ _ _) => true
  | _ => false
def goodV (w : World) : Value → Bool
  | .bool _ | .int _ _ | .string _ | .pointer none | .slice none 0 0 => true
  | .pointer (some a) => a.spot.isNone && isCells w a.block
  | _ => false
def absC (w : World) (v : Value) : Value := match v with
  | .slice (some a) n c => if c = 0 then (if n = 0 then .slice (some ⟨a.block, a.off, none⟩) 0 0 else botV) else if a.spot = none ∧ n ≤ c ∧ isCells w a.block = true then .slice (some a) n c else botV
  | v => if goodV w v then v else botV
def absV (w : World) : Value → Value
  | .agg cs => .agg (cs.map (absC w))
  | v => absC w v
def m0 (w : World) : Mem where
  next := w.heap.size
  bar := w.heap.size
  get n := match w.heap[n]? with
    | some (.cells c _ _) => some (.cells (c.toList.map (absC w)) true)
    | _ => none
def r0 (w : World) : Ren := fun n => match w.heap[n]? with
  | some (.cells c _ _) => some (.at n 0 c.size)
  | _ => none
section
variable {P : Program} {w : World}
theorem r0_cells {n : Nat} (h : isCells w n = true) : ∃ csz, r0 w n = some (.at n 0 csz) := by
  unfold isCells at h
  split at h
  · rename_i c e fr hh
    exact ⟨c.size, by simp [r0, hh]⟩
  · cases h
theorem AR_r0 {a : Addr} (hs : a.spot = none) (h : isCells w a.block = true) : AR (r0 w) a.block a.off a := by
  obtain ⟨csz, hc⟩ := r0_cells h
  exact ⟨hs, _, hc, fun _ _ _ e => by injection e with e1 e2 e3; exact ⟨e1, by omega⟩⟩
theorem absC_rel (v : Value) : VR (r0 w) (absC w v) v := by
  unfold absC
  split
  · rename_i a n c
    split
    · rename_i hc
      subst hc
      split
      · rename_i hn
        subst hn
        exact .slice (Nat.le_refl _) ⟨Nat.le_refl _, .inl rfl, (fun e he => by cases he), fun _ => rfl⟩
      · exact .bot _
    · split
      · rename_i h
        exact .slice h.2.1 ⟨Nat.le_refl _, .inr (AR_r0 h.1 h.2.2), (fun e he => by rw [h.1] at he; cases he), fun _ => rfl⟩
      · exact .bot _
  · split
    · rename_i h
      unfold goodV at h
      split at h
      · exact .bool _
      · exact .int _ _
      · exact .string _
      · exact .pnil
      · exact .snil
      · simp only [Bool.and_eq_true, Option.isNone_iff_eq_none] at h
        exact .ptr h.1 (AR_r0 h.1 h.2)
      · cases h
    · exact .bot v
theorem absV_rel (v : Value) : VR (r0 w) (absV w v) v := by
  cases v with
  | agg cs =>
    refine .agg (by simp) fun i => ?_
    by_cases hi : i < cs.size
    · have e1 : (cs.map (absC w)).getD i undef = absC w (cs.getD i undef) := by simp [Array.getD, hi]
      rw [e1]
      exact absC_rel _
    · have e1 : (cs.map (absC w)).getD i undef = undef := by simp [Array.getD, hi]
      have e2 : cs.getD i undef = undef := by simp [Array.getD, hi]
      rw [e1, e2]
      exact .und
  | _ => simp only [absV]; exact absC_rel _
theorem m0_rel (w : World) : MemRel (r0 w) (m0 w) w := by
  refine ⟨Nat.le_refl _, fun n l h => ?_, fun n h => ?_, fun n cb base csz h => ?_, fun n n' cb b c b' c' h1 h2 => ?_⟩
  · show n < w.heap.size
    rcases Nat.lt_or_ge n w.heap.size with h1 | h1
    · exact h1
    · simp [r0, Array.getElem?_eq_none h1] at h
  · unfold r0 at h
    split at h <;> cases h
  · unfold r0 at h
    split at h
    · rename_i c e fr hh
      injection h with h
      injection h with h1 h2 h3
      subst h1 h2 h3
      refine ⟨.cells (c.toList.map (absC w)) true, by simp [m0, hh], c, e, fr, hh, by simp, by omega, fun i hi => ?_, fun h => by cases h⟩
      have hi' : i < c.size := by simpa using hi
      have e1 : (c.toList.map (absC w)).getD i undef = absC w (c.getD i undef) := by simp [List.getD_eq_getElem?_getD, Array.getD, hi']
      rw [e1, Nat.zero_add]
      exact absC_rel _
    · cases h
  · unfold r0 at h1 h2
    split at h1
    · split at h2
      · injection h1 with h1; injection h1 with h1 _ _
        injection h2 with h2; injection h2 with h2 _ _
        omega
      · cases h2
    · cases h1
theorem law_calls {g : FuncId} {args : Array Value} {K : Res → Mem → Prop} (h : Fn P g (args.toList.map (absV w)) (m0 w) K) (hk : ∀ res m', K res m' → res = .ret (.bool true)) :
    Calls P g args w fun e w' => e = .returned (.bool true) ∧ Go.RowKit.Below w.heap.size w w' := by
  obtain ⟨res, m', ⟨_, _, hc⟩, hK⟩ := h (Nat.le_refl _)
  have hres := hk res m' hK
  subst hres
  refine (hc (r0 w) w args (m0_rel w) (by simp) fun i => ?_).mono fun e w' he => ?_
  · by_cases hi : i < args.size
    · have e1 : (args.toList.map (absV w)).getD i undef = absV w (args.getD i undef) := by simp [List.getD_eq_getElem?_getD, Array.getD, hi]
      rw [e1]
      exact absV_rel _
    · have e1 : (args.toList.map (absV w)).getD i undef = undef := by
        rw [List.getD_eq_getElem?_getD, List.getElem?_eq_none (by simp; omega)]
        rfl
      have e2 : args.getD i undef = undef := by simp [Array.getD, hi]
      rw [e1, e2]
      exact .und
  · obtain ⟨r', hr, hm', hf⟩ := he
    refine ⟨?_, hf.os, hf.tape, hf.output, hf.size, fun k hk => ?_⟩
    · cases e with
      | returned v' =>
        have : VR r' (.bool true) v' := hr
        rw [this.eq_of_plain rfl]
      | panicked ch => exact hr.elim
      | outgrown => exact hr.elim
    · cases hc : isCells w k with
      | true =>
        obtain ⟨csz, hcs⟩ := r0_cells hc
        exact hf.low k k 0 csz hk hcs
      | false =>
        refine hf.out k hk fun n b c hn => ?_
        unfold r0 at hn
        split at hn
        · rename_i cc e fr hh
          injection hn with hn; injection hn with h1 _ _
          subst h1
          simp [isCells, hh] at hc
        · cases hn
end
end Go.Ga

namespace Go.Ga
open Go
inductive Stk where
  | top (Q : AEx → Regs → Mem → Prop)
  | thn (b : RC) (s : Stk)
  | blk (id : Nat) (s : Stk)
  | scp (l : Nat) (R : Regs → Mem → Prop) (s : Stk)
  | tr (ops : List RO) (deps : List (List Nat)) (conf : List (Option (List Nat))) (n mask : Nat) (s : Stk)
def D (P : Program) : Stk → AEx → Regs → Mem → Prop
  | .top Q => Q
  | .thn b s => thenK (fun f m => b.vc P f m (D P s)) (D P s)
  | .blk id s => blockK id (D P s)
  | .scp l R s => scopeK l R (D P s)
  | .tr ops deps conf n mask s => thenK (fun f m => goTree P ops deps conf n mask f m (D P s)) (D P s)
def goQ (P : Program) (qs ts : List RO) (f : Regs) (m : Mem) (Q : AEx → Regs → Mem → Prop) : Prop := goQuiet P qs f m fun f1 m1 => goOps P ts f1 m1 Q
def condK (P : Program) (t : Bool) (a b : RC) (f : Regs) (m : Mem) (Q : AEx → Regs → Mem → Prop) : Prop := (t = true → a.vc P f m Q) ∧ (t = false → b.vc P f m Q)
def guardK (P : Program) (t : Bool) (d : Option Nat) (it : Item) (l : List RO) (f : Regs) (m : Mem) (Q : AEx → Regs → Mem → Prop) : Prop :=
  if t then goOps P (⟨d, it, none⟩ :: l) f m Q else goOps P l (putR f d undef) m Q
def guardQ (P : Program) (t : Bool) (d : Option Nat) (it : Item) (l ts : List RO) (f : Regs) (m : Mem) (Q : AEx → Regs → Mem → Prop) : Prop :=
  if t then goQ P (⟨d, it, none⟩ :: l) ts f m Q else goQ P l ts (putR f d undef) m Q
def callK (P : Program) (g : Nat) (args : List Value) (d : Option Nat) (l : List RO) (f : Regs) (m : Mem) (Q : AEx → Regs → Mem → Prop) : Prop :=
  Fn P g args m fun res m' => match res with
    | .ret v => goOps P l (putR f d v) m' Q
    | .pan v => Q (.pan v) f m'
def callQ (P : Program) (g : Nat) (args : List Value) (d : Option Nat) (l ts : List RO) (f : Regs) (m : Mem) (Q : AEx → Regs → Mem → Prop) : Prop :=
  Fn P g args m.raise fun res m' => match res with
    | .ret v => goQ P l ts (putR f d v) (m'.lower m.bar) Q
    | .pan _ => False
def asI (v : Value) (K : IntKind → Int → Prop) : Prop := match v with | .int k n => K k n | _ => False
def asB (v : Value) (K : Bool → Prop) : Prop := match v with | .bool b => K b | _ => False
def asP (v : Value) (K : Addr → Prop) : Prop := match v with | .pointer (some a) => K a | _ => False
def asS (v : Value) (K : Option Addr → Nat → Nat → Prop) : Prop := match v with | .slice a n c => K a n c | _ => False
def asStr (v : Value) (K : ByteArray → Prop) : Prop := match v with | .string s => K s | _ => False
def asT (v : Value) (K : Array Value → Prop) : Prop := match v with | .tuple vs => K vs | _ => False
def asA (v : Value) (K : Array Value → Prop) : Prop := match v with | .agg vs => K vs | _ => False
def asO {α : Type} (o : Option α) (K : α → Prop) : Prop := match o with | some a => K a | none => False
def asC (o : Option Blk) (K : List Value → Bool → Prop) : Prop := match o with | some (.cells c ro) => K c ro | _ => False
def asG (v : Value) (K : Bool → Prop) (Z : Prop) : Prop := match v with | .bool b => K b | .chan _ => False | _ => Z
@[congr] theorem asI_congr {v v' : Value} {K : IntKind → Int → Prop} (h : v = v') : asI v K = asI v' K := by rw [h]
@[congr] theorem asB_congr {v v' : Value} {K : Bool → Prop} (h : v = v') : asB v K = asB v' K := by rw [h]
@[congr] theorem asP_congr {v v' : Value} {K : Addr → Prop} (h : v = v') : asP v K = asP v' K := by rw [h]
@[congr] theorem asS_congr {v v' : Value} {K : Option Addr → Nat → Nat → Prop} (h : v = v') : asS v K = asS v' K := by rw [h]
@[congr] theorem asStr_congr {v v' : Value} {K : ByteArray → Prop} (h : v = v') : asStr v K = asStr v' K := by rw [h]
@[congr] theorem asT_congr {v v' : Value} {K : Array Value → Prop} (h : v = v') : asT v K = asT v' K := by rw [h]
@[congr] theorem asA_congr {v v' : Value} {K : Array Value → Prop} (h : v = v') : asA v K = asA v' K := by rw [h]
@[congr] theorem asO_congr {α : Type} {o o' : Option α} {K : α → Prop} (h : o = o') : asO o K = asO o' K := by rw [h]
@[congr] theorem asC_congr {o o' : Option Blk} {K : List Value → Bool → Prop} (h : o = o') : asC o K = asC o' K := by rw [h]
@[congr] theorem asG_congr {v v' : Value} {K : Bool → Prop} {Z : Prop} (h : v = v') : asG v K Z = asG v' K Z := by rw [h]
@[congr] theorem binK_congr {op : BinOp} {x y x' y' : Value} {K : Value → Prop} (h : x = x') (h2 : y = y') : binK op x y K = binK op x' y' K := by rw [h, h2]
@[congr] theorem unK_congr {op : UnOp} {x x' : Value} {K : Value → Prop} (h : x = x') : unK op x K = unK op x' K := by rw [h]
section
variable {P : Program} {f : Regs} {m : Mem} {Q : AEx → Regs → Mem → Prop} {s : Stk} {d : Option Nat} {l ts : List RO}
theorem asI_e (k : IntKind) (n : Int) (K) : asI (.int k n) K = K k n := (rfl)
theorem asB_e (b : Bool) (K) : asB (.bool b) K = K b := (rfl)
theorem asP_e (a : Addr) (K) : asP (.pointer (some a)) K = K a := (rfl)
theorem asS_e (a n c) (K) : asS (.slice a n c) K = K a n c := (rfl)
theorem asStr_e (s : ByteArray) (K) : asStr (.string s) K = K s := (rfl)
theorem asT_e (s : Array Value) (K) : asT (.tuple s) K = K s := (rfl)
theorem asA_e (s : Array Value) (K) : asA (.agg s) K = K s := (rfl)
theorem asO_e {α : Type} (a : α) (K) : asO (some a) K = K a := (rfl)
theorem asC_e (c : List Value) (ro : Bool) (K) : asC (some (.cells c ro)) K = K c ro := (rfl)
theorem asG_b (b : Bool) (K) (Z : Prop) : asG (.bool b) K Z = K b := (rfl)
theorem asG_u (K) (Z : Prop) : asG undef K Z = Z := (rfl)
theorem vc_skip : RC.vc P .skip f m Q = Q .normal f m := (rfl)
theorem vc_ops0 (ts : List RO) : RC.vc P (.ops [] ts) f m Q = goOps P ts f m Q := (rfl)
theorem vc_opsQ (o : RO) (qs ts : List RO) : RC.vc P (.ops (o :: qs) ts) f m Q = goQ P (o :: qs) ts f m Q := (rfl)
theorem vc_seq (a b : RC) : RC.vc P (.seq a b) f m (D P s) = RC.vc P a f m (D P (.thn b s)) := (rfl)
theorem vc_block (id : Nat) (b : RC) : RC.vc P (.block id b) f m (D P s) = RC.vc P b f m (D P (.blk id s)) := (rfl)
theorem vc_label (l : Nat) : RC.vc P (.label l) f m Q = Q .normal f m := (rfl)
theorem vc_goto (l : Nat) : RC.vc P (.goto l) f m Q = Q (.goto l) f m := (rfl)
theorem vc_scope (b r : RC) (l : Nat) : RC.vc P (.scope b l r) f m (D P s) = RC.vc P b f m (D P (.scp l (fun f1 m1 => ∃ n, GRounds (fun f m Q => r.vc P f m Q) l (D P s) n f1 m1) s)) := (rfl)
theorem D_thn_g (b : RC) (l : Nat) : D P (.thn b s) (.goto l) f m = D P s (.goto l) f m := (rfl)
theorem D_blk_g (i l : Nat) : D P (.blk i s) (.goto l) f m = D P s (.goto l) f m := (rfl)
theorem D_scp_n (l : Nat) (R : Regs → Mem → Prop) : D P (.scp l R s) .normal f m = D P s .normal f m := (rfl)
theorem D_scp_e (l : Nat) (R : Regs → Mem → Prop) (i : Nat) : D P (.scp l R s) (.exit i) f m = D P s (.exit i) f m := (rfl)
theorem D_scp_r (l : Nat) (R : Regs → Mem → Prop) : D P (.scp l R s) .ret f m = D P s .ret f m := (rfl)
theorem D_scp_p (l : Nat) (R : Regs → Mem → Prop) (v : Value) : D P (.scp l R s) (.pan v) f m = D P s (.pan v) f m := (rfl)
theorem D_scp_g (l l' : Nat) (R : Regs → Mem → Prop) : D P (.scp l R s) (.goto l') f m = if l' = l then R f m else False := (rfl)
theorem D_tr_n (ops : List RO) (deps : List (List Nat)) (conf : List (Option (List Nat))) (n mask : Nat) : D P (.tr ops deps conf n mask s) .normal f m = goTree P ops deps conf n mask f m (D P s) := (rfl)
theorem vc_tree_same {ops : List RO} {deps : List (List Nat)} {conf : List (Option (List Nat))} (h : ∃ f' m', Q .normal f' m' ∧ MExt m m' ∧ goTree P ops deps conf ops.length 0 f m (D P (.top (sameEnd f' m')))) : RC.vc P (.tree ops deps conf) f m Q := by
  obtain ⟨f', m', h1, h2, h3⟩ := h
  exact .inl ⟨f', m', h1, h2, .inl h3⟩
theorem vc_tree_pan {ops : List RO} {deps : List (List Nat)} {conf : List (Option (List Nat))} (h : ∃ v m', Q (.pan v) botR m' ∧ MExt m m' ∧ goTree P ops deps conf ops.length 0 f m (D P (.top (panEnd v m')))) : RC.vc P (.tree ops deps conf) f m Q := .inr (.inl h)
theorem vc_tree_ren {ops : List RO} {deps : List (List Nat)} {conf : List (Option (List Nat))} (h : ∃ K f' m', m.bar ≤ K ∧ K ≤ m.next ∧ Q .normal f' m' ∧ MExt m m' ∧ goTree P ops deps conf ops.length 0 f (m.barAt K) (D P (.top (renEnd K m f' m')))) : RC.vc P (.tree ops deps conf) f m Q := .inr (.inr h)
theorem tree_0 (ops : List RO) (deps : List (List Nat)) (conf : List (Option (List Nat))) (mask : Nat) : goTree P ops deps conf 0 mask f m (D P s) = D P s .normal f m := (rfl)
def treeAt (P : Program) (ops : List RO) (deps : List (List Nat)) (conf : List (Option (List Nat))) (n mask : Nat) (f : Regs) (m : Mem) (s : Stk) (i : Nat) : Option RO → Prop
  | some o => goOps P [o] f m (D P (.tr ops deps conf n (mask ||| 2 ^ i) s))
  | none => False
theorem treeAt_e (ops : List RO) (deps : List (List Nat)) (conf : List (Option (List Nat))) (n mask i : Nat) (o : RO) : treeAt P ops deps conf n mask f m s i (some o) = goOps P [o] f m (D P (.tr ops deps conf n (mask ||| 2 ^ i) s)) := (rfl)
theorem vc_exit (id : Nat) : RC.vc P (.exit id) f m Q = Q (.exit id) f m := (rfl)
theorem vc_ret : RC.vc P .ret f m Q = Q .ret f m := (rfl)
theorem vc_cond (c : Rv) (a b : RC) : RC.vc P (.cond c a b) f m Q = asB (c.ev f) fun t => condK P t a b f m Q := by
  show (match c.ev f with | .bool t => _ | _ => False) = _
  cases c.ev f <;> rfl
theorem D_top (Q : AEx → Regs → Mem → Prop) (x : AEx) : D P (.top Q) x f m = Q x f m := (rfl)
theorem D_thn_n (b : RC) : D P (.thn b s) .normal f m = RC.vc P b f m (D P s) := (rfl)
theorem D_thn_e (b : RC) (i : Nat) : D P (.thn b s) (.exit i) f m = D P s (.exit i) f m := (rfl)
theorem D_thn_r (b : RC) : D P (.thn b s) .ret f m = D P s .ret f m := (rfl)
theorem D_thn_p (b : RC) (v : Value) : D P (.thn b s) (.pan v) f m = D P s (.pan v) f m := (rfl)
theorem D_blk_n (i : Nat) : D P (.blk i s) .normal f m = D P s .normal f m := (rfl)
theorem D_blk_e (i j : Nat) : D P (.blk i s) (.exit j) f m = if j = i then D P s .normal f m else D P s (.exit j) f m := (rfl)
theorem D_blk_r (i : Nat) : D P (.blk i s) .ret f m = D P s .ret f m := (rfl)
theorem D_blk_p (i : Nat) (v : Value) : D P (.blk i s) (.pan v) f m = D P s (.pan v) f m := (rfl)
theorem condK_t (a b : RC) : condK P true a b f m Q = RC.vc P a f m Q := by simp [condK]
theorem condK_f (a b : RC) : condK P false a b f m Q = RC.vc P b f m Q := by simp [condK]
theorem condK_of {t : Bool} {a b : RC} (h1 : t = true → RC.vc P a f m Q) (h2 : t = false → RC.vc P b f m Q) : condK P t a b f m Q := ⟨h1, h2⟩
theorem condK_dec {p : Prop} [Decidable p] {a b : RC} (h1 : p → RC.vc P a f m Q) (h2 : ¬ p → RC.vc P b f m Q) : condK P (decide p) a b f m Q := ⟨fun h => h1 (of_decide_eq_true h), fun h => h2 (of_decide_eq_false h)⟩
theorem go_nil : goOps P [] f m Q = Q .normal f m := (rfl)
theorem goQ_nil : goQ P [] ts f m Q = goOps P ts f m Q := (rfl)
theorem go_guard (it : Item) (sl : Nat) (w : Bool) : goOps P (⟨d, it, some (sl, w)⟩ :: l) f m Q = asG (f sl) (fun b => guardK P (b == w) d it l f m Q) (goOps P l (putR f d undef) m Q) := by
  simp only [goOps, wantedA]
  cases f sl with
  | bool b =>
    cases h : (b == w)
    · simp only [asG, guardK, h, Bool.false_eq_true, if_false]
    · simp only [asG, guardK, h, if_true, goOps, wantedA]
  | chan => simp [asG]
  | _ => simp [asG]
theorem goQ_guard (it : Item) (sl : Nat) (w : Bool) : goQ P (⟨d, it, some (sl, w)⟩ :: l) ts f m Q = asG (f sl) (fun b => guardQ P (b == w) d it l ts f m Q) (goQ P l ts (putR f d undef) m Q) := by
  simp only [goQ, goQuiet, wantedA]
  cases f sl with
  | bool b =>
    cases h : (b == w)
    · simp only [asG, guardQ, h, Bool.false_eq_true, if_false, goQ]
    · simp only [asG, guardQ, h, if_true, goQ, goQuiet, wantedA]
  | chan => simp [asG]
  | _ => simp [asG]
theorem guardK_t (it : Item) : guardK P true d it l f m Q = goOps P (⟨d, it, none⟩ :: l) f m Q := (rfl)
theorem guardK_f (it : Item) : guardK P false d it l f m Q = goOps P l (putR f d undef) m Q := (rfl)
theorem guardQ_t (it : Item) : guardQ P true d it l ts f m Q = goQ P (⟨d, it, none⟩ :: l) ts f m Q := (rfl)
theorem guardQ_f (it : Item) : guardQ P false d it l ts f m Q = goQ P l ts (putR f d undef) m Q := (rfl)
theorem put_e (d : Nat) (v : Value) (i : Nat) : putR f (some d) v i = if i = d then v else f i := (rfl)
theorem put_n (v : Value) : putR f none v = f := (rfl)
theorem ev_t (i : Nat) : Rv.ev f (.t i) = f i := (rfl)
theorem ev_k (v : Value) : Rv.ev f (.k v) = v := (rfl)
theorem go_op (o : ROp) : goOps P (⟨d, .op o, none⟩ :: l) f m Q = o.vc P f m fun v m' => goOps P l (putR f d v) m' Q := (rfl)
theorem goQ_op (o : ROp) : goQ P (⟨d, .op o, none⟩ :: l) ts f m Q = o.vc P f m.raise fun v m' => goQ P l ts (putR f d v) (m'.lower m.bar) Q := (rfl)
theorem go_call0 (g : Nat) (caps : Array Value) (args : List Rv) : goOps P (⟨d, .call (.k (.func (.func g) #[] caps)) args, none⟩ :: l) f m Q = callK P g (args.map (Rv.ev f) ++ caps.toList) d l f m Q := by
  first | (simp only [goOps, wantedA, Item.vc, ev_k, callK, true_and]; done) | (simp only [goOps, wantedA, Item.vc, ev_k, callK, true_and]; rfl)
theorem goQ_call0 (g : Nat) (caps : Array Value) (args : List Rv) : goQ P (⟨d, .call (.k (.func (.func g) #[] caps)) args, none⟩ :: l) ts f m Q = callQ P g (args.map (Rv.ev f) ++ caps.toList) d l ts f m Q := by
  first | (simp only [goQ, goQuiet, wantedA, Item.vc, ev_k, callQ, true_and]; done) | (simp only [goQ, goQuiet, wantedA, Item.vc, ev_k, callQ, true_and]; rfl)
def asF (v : Value) (K : Nat → Array Value → Prop) : Prop := match v with | .func (.func g) fs caps => fs = #[] ∧ K g caps | _ => False
@[congr] theorem asF_congr {v v' : Value} {K : Nat → Array Value → Prop} (h : v = v') : asF v K = asF v' K := by rw [h]
theorem asF_e (g : Nat) (cs : Array Value) (K) : asF (.func (.func g) #[] cs) K = K g cs := by simp [asF]
theorem go_callT (t : Nat) (args : List Rv) : goOps P (⟨d, .call (.t t) args, none⟩ :: l) f m Q = asF (f t) fun g caps => callK P g (args.map (Rv.ev f) ++ caps.toList) d l f m Q := by
  first
  | (simp only [goOps, wantedA, Item.vc, ev_t, callK, asF]; done)
  | (simp only [goOps, wantedA, Item.vc, ev_t, callK, asF]
     cases f t with
     | func fn fs caps => cases fn <;> rfl
     | _ => rfl)
section
variable {K : Value → Mem → Prop}
theorem o_mv (x : Rv) : ROp.vc P f m K (.mv x) = K (x.ev f) m := (rfl)
theorem o_pick (c a b : Rv) : ROp.vc P f m K (.pick c a b) = asB (c.ev f) fun t => K (if t then a.ev f else b.ev f) m := by
  dsimp only [ROp.vc, asB]; cases c.ev f <;> rfl
theorem o_new (l : List Value) : ROp.vc P f m K (.new l) = K (.pointer (some ⟨m.next, 0, none⟩)) (m.add (.cells l false)) := (rfl)
theorem o_box (x : Rv) : ROp.vc P f m K (.box x) = asO (cellsV (x.ev f)) fun l => K (.pointer (some ⟨m.next, 0, none⟩)) (m.add (.cells l false)) := by
  dsimp only [ROp.vc, asO]; cases cellsV (x.ev f) <;> rfl
theorem o_build (z : List Value) (ps) : ROp.vc P f m K (.build z ps) = asO (fillL z f ps) fun l => K (.agg l.toArray) m := by
  dsimp only [ROp.vc, asO]; cases fillL z f ps <;> rfl
theorem o_mkSl (n : Nat) (z : List Value) (ps) : ROp.vc P f m K (.mkSl n z ps) = asO (fillL z f ps) fun l => K (.slice (some ⟨m.next, 0, none⟩) n n) (m.add (.cells l false)) := by
  dsimp only [ROp.vc, asO]; cases fillL z f ps <;> rfl
theorem o_load1 (x : Rv) : ROp.vc P f m K (.load1 x) = asP (x.ev f) fun a => asC (m.get a.block) fun l _ => a.off < l.length ∧ K (l.getD a.off undef) m := by
  dsimp only [ROp.vc, asP, asC]
  cases x.ev f with
  | pointer a =>
    cases a with
    | none => rfl
    | some a =>
      dsimp only
      cases m.get a.block with
      | none => rfl
      | some b => cases b <;> rfl
  | _ => rfl
theorem o_loadN (n : Nat) (x : Rv) : ROp.vc P f m K (.loadN n x) = asP (x.ev f) fun a => asC (m.get a.block) fun l _ => a.off + n ≤ l.length ∧ K (.agg ((l.drop a.off).take n).toArray) m := by
  dsimp only [ROp.vc, asP, asC]
  cases x.ev f with
  | pointer a =>
    cases a with
    | none => rfl
    | some a =>
      dsimp only
      cases m.get a.block with
      | none => rfl
      | some b => cases b <;> rfl
  | _ => rfl
theorem o_store (n : Nat) (x v : Rv) : ROp.vc P f m K (.store n x v) = asP (x.ev f) fun a => asO (cellsV (v.ev f)) fun l => l.length = n ∧ writeK m a 0 l fun m' => K undef m' := by
  dsimp only [ROp.vc, asP, asO]
  cases x.ev f with
  | pointer a =>
    cases a with
    | none => rfl
    | some a => dsimp only; cases cellsV (v.ev f) <;> rfl
  | _ => rfl
theorem o_bin (op : BinOp) (x y : Rv) : ROp.vc P f m K (.bin op x y) = binK op (x.ev f) (y.ev f) fun v => K v m := (rfl)
theorem o_eqB (neg : Bool) (x y : Rv) : ROp.vc P f m K (.eqB neg x y) = asB (x.ev f) fun a => asB (y.ev f) fun b => K (.bool (if neg then !(a == b) else (a == b))) m := by
  dsimp only [ROp.vc, asB]
  cases x.ev f with
  | bool a => cases y.ev f <;> rfl
  | _ => rfl
theorem o_eqN (nk : NilK) (neg : Bool) (x : Rv) : ROp.vc P f m K (.eqN nk neg x) = asO (isNilV nk (x.ev f)) fun b => K (.bool (if neg then !b else b)) m := by
  dsimp only [ROp.vc, asO]; cases isNilV nk (x.ev f) <;> rfl
theorem o_un (op : UnOp) (x : Rv) : ROp.vc P f m K (.un op x) = unK op (x.ev f) fun v => K v m := (rfl)
theorem o_toInt (k : IntKind) (x : Rv) : ROp.vc P f m K (.toInt k x) = asI (x.ev f) fun _ n => K (.int k (k.wrap n)) m := by
  dsimp only [ROp.vc, asI]; cases x.ev f <;> rfl
theorem o_s2b (x : Rv) : ROp.vc P f m K (.s2b x) = asStr (x.ev f) fun s => K (.slice (some ⟨m.next, 0, some 1⟩) s.size s.size) (m.add (.cells (s.data.toList.map u8V) false)) := by
  dsimp only [ROp.vc, asStr]; cases x.ev f <;> rfl
theorem o_b2s (x : Rv) : ROp.vc P f m K (.b2s x) = asS (x.ev f) fun A n _ => asO (rowOf m A n) fun l => asO (bytesOf l) fun bs => K (.string ⟨bs.toArray⟩) m := by
  dsimp only [ROp.vc, asS, asO]
  cases x.ev f with
  | slice a n c =>
    dsimp only
    cases rowOf m a n with
    | none => rfl
    | some l => dsimp only; cases bytesOf l <;> rfl
  | _ => rfl
theorem o_s2s (x : Rv) : ROp.vc P f m K (.s2s x) = asStr (x.ev f) fun s => K (.string s) m := by
  dsimp only [ROp.vc, asStr]; cases x.ev f <;> rfl
theorem o_iface (t : TypeId) (x : Rv) : ROp.vc P f m K (.iface t x) = K (.iface t (x.ev f)) m := (rfl)
theorem o_func (g : FuncId) (caps : List Rv) : ROp.vc P f m K (.func g caps) = K (.func (.func g) #[] (caps.map fun x => x.ev f).toArray) m := (rfl)
theorem o_make (esz bytes : Nat) (zero : List Value) (l c : Rv) : ROp.vc P f m K (.make esz bytes zero l c) = asI (l.ev f) fun _ l => asI (c.ev f) fun _ c => 0 ≤ l ∧ l ≤ c ∧ bytes * c ≤ 281474976710656 ∧ c ≤ 9223372036854775807 ∧ zero ≠ [] ∧
      K (.slice (some ⟨m.next, 0, none⟩) l.toNat c.toNat) (m.add (.cells ((List.range (c.toNat * esz)).map fun i => zero.getD (i % zero.length) undef) false)) := by
  dsimp only [ROp.vc, asI]
  cases l.ev f with
  | int k a => dsimp only; cases c.ev f <;> rfl
  | _ => rfl
theorem o_slStr (x : Rv) (lo hi : Option Rv) : ROp.vc P f m K (.slStr x lo hi) = asStr (x.ev f) fun s => asO (optIx f hi s.size) fun h => asO (optIx f lo 0) fun l => 0 ≤ l ∧ l ≤ h ∧ h ≤ s.size ∧ K (.string (s.extract l.toNat h.toNat)) m := by
  dsimp only [ROp.vc, asStr, asO]
  cases x.ev f with
  | string s =>
    dsimp only
    cases optIx f hi s.size with
    | none => rfl
    | some h => dsimp only; cases optIx f lo 0 <;> rfl
  | _ => rfl
def slK (m : Mem) (esz : Nat) (mx : Bool) (A : Option Addr) (L H M : Int) (K : Value → Mem → Prop) : Prop := match A with
  | none => K (.slice none 0 0) m
  | some a => (mx = true ∨ a.spot = none ∨ a.spot = some esz) ∧ K (.slice (some ⟨a.block, a.off + L.toNat * esz, if mx then none else a.spot⟩) (H - L).toNat (M - L).toNat) m
theorem slK_n {esz mx L H M} : slK m esz mx none L H M K = K (.slice none 0 0) m := (rfl)
theorem slK_s {esz mx a L H M} : slK m esz mx (some a) L H M K = ((mx = true ∨ a.spot = none ∨ a.spot = some esz) ∧ K (.slice (some ⟨a.block, a.off + L.toNat * esz, if mx then none else a.spot⟩) (H - L).toNat (M - L).toNat) m) := (rfl)
theorem o_sl (esz : Nat) (x : Rv) (lo hi mx : Option Rv) : ROp.vc P f m K (.sl esz x lo hi mx) = asS (x.ev f) fun A n c => asO (optIx f mx c) fun M => asO (optIx f hi n) fun H => asO (optIx f lo 0) fun L =>
    0 ≤ L ∧ L ≤ H ∧ H ≤ M ∧ M ≤ c ∧ (mx.isSome = true → hi.isSome = true) ∧ slK m esz mx.isSome A L H M K := by
  dsimp only [ROp.vc, asS, asO, slK]
  cases x.ev f with
  | slice A n c =>
    dsimp only
    cases optIx f mx c with
    | none => rfl
    | some h =>
      dsimp only
      cases optIx f hi n with
      | none => rfl
      | some h =>
        dsimp only
        cases optIx f lo 0 with
        | none => rfl
        | some h => cases A <;> rfl
  | _ => rfl
theorem o_slArr (n esz : Nat) (x : Rv) (lo hi mx : Option Rv) : ROp.vc P f m K (.slArr n esz x lo hi mx) = asP (x.ev f) fun a => asO (optIx f mx n) fun M => asO (optIx f hi n) fun H => asO (optIx f lo 0) fun L =>
    0 ≤ L ∧ L ≤ H ∧ H ≤ M ∧ M ≤ n ∧ (mx.isSome = true → hi.isSome = true) ∧ K (.slice (some ⟨a.block, a.off + L.toNat * esz, none⟩) (H - L).toNat (M - L).toNat) m := by
  dsimp only [ROp.vc, asP, asO]
  cases x.ev f with
  | pointer A =>
    cases A with
    | none => rfl
    | some A =>
      dsimp only
      cases optIx f mx n with
      | none => rfl
      | some h =>
        dsimp only
        cases optIx f hi n with
        | none => rfl
        | some h => dsimp only; cases optIx f lo 0 <;> rfl
  | _ => rfl
theorem o_fieldAddr (off : Nat) (x : Rv) : ROp.vc P f m K (.fieldAddr off x) = asP (x.ev f) fun a => K (.pointer (some ⟨a.block, a.off + off, none⟩)) m := by
  dsimp only [ROp.vc, asP]
  cases x.ev f with
  | pointer A => cases A <;> rfl
  | _ => rfl
theorem o_field1 (off : Nat) (x : Rv) : ROp.vc P f m K (.field1 off x) = asA (x.ev f) fun cs => off < cs.size ∧ K (cs.getD off undef) m := by
  dsimp only [ROp.vc, asA]; cases x.ev f <;> rfl
theorem o_fieldN (off n : Nat) (x : Rv) : ROp.vc P f m K (.fieldN off n x) = asA (x.ev f) fun cs => K (.agg (cs.extract off (off + n))) m := by
  dsimp only [ROp.vc, asA]; cases x.ev f <;> rfl
theorem o_ixAddr (esz : Nat) (x i : Rv) : ROp.vc P f m K (.ixAddr esz x i) = asS (x.ev f) fun A n _ => asI (i.ev f) fun _ i => asO A fun a => 0 ≤ i ∧ i < n ∧ K (.pointer (some ⟨a.block, a.off + i.toNat * esz, none⟩)) m := by
  dsimp only [ROp.vc, asS, asI, asO]
  cases x.ev f with
  | slice A n c => cases A <;> dsimp only <;> cases i.ev f <;> rfl
  | _ => rfl
theorem o_ixAddrA (n esz : Nat) (x i : Rv) : ROp.vc P f m K (.ixAddrA n esz x i) = asP (x.ev f) fun a => asI (i.ev f) fun _ i => 0 ≤ i ∧ i < n ∧ K (.pointer (some ⟨a.block, a.off + i.toNat * esz, none⟩)) m := by
  dsimp only [ROp.vc, asP, asI]
  cases x.ev f with
  | pointer A => cases A <;> dsimp only <;> cases i.ev f <;> rfl
  | _ => rfl
theorem o_ixArr (n : Nat) (x i : Rv) : ROp.vc P f m K (.ixArr n x i) = asA (x.ev f) fun cs => asI (i.ev f) fun _ i => 0 ≤ i ∧ i < n ∧ i.toNat < cs.size ∧ K (cs.getD i.toNat undef) m := by
  dsimp only [ROp.vc, asA, asI]
  cases x.ev f with
  | agg cs => dsimp only; cases i.ev f <;> rfl
  | _ => rfl
theorem o_ixStr (x i : Rv) : ROp.vc P f m K (.ixStr x i) = asStr (x.ev f) fun s => asI (i.ev f) fun _ i => 0 ≤ i ∧ i < s.size ∧ K (u8V (s.data.toList.getD i.toNat 0)) m := by
  dsimp only [ROp.vc, asStr, asI]
  cases x.ev f with
  | string cs => dsimp only; cases i.ev f <;> rfl
  | _ => rfl
theorem o_extract (x : Rv) (i : Nat) : ROp.vc P f m K (.extract x i) = asT (x.ev f) fun vs => i < vs.size ∧ K (vs.getD i undef) m := by
  dsimp only [ROp.vc, asT]; cases x.ev f <;> rfl
theorem o_lenStr (x : Rv) : ROp.vc P f m K (.lenStr x) = asStr (x.ev f) fun s => K (.int .i64 s.size) m := by
  dsimp only [ROp.vc, asStr]; cases x.ev f <;> rfl
theorem o_lenSl (x : Rv) : ROp.vc P f m K (.lenSl x) = asS (x.ev f) fun _ n _ => K (.int .i64 n) m := by
  dsimp only [ROp.vc, asS]; cases x.ev f <;> rfl
theorem o_lenK (n : Nat) : ROp.vc P f m K (.lenK n) = K (.int .i64 n) m := (rfl)
theorem o_append (esz bytes : Nat) (x y : Rv) : ROp.vc P f m K (.append esz bytes x y) = asS (x.ev f) fun A n c => asS (y.ev f) fun B k _ => asO (rowOf m B (k * esz)) fun news => appendK esz bytes m A n c k news K := by
  dsimp only [ROp.vc, asS, asO]
  cases x.ev f with
  | slice A n c =>
    dsimp only
    cases y.ev f with
    | slice B k _ => dsimp only; cases rowOf m B (k * esz) <;> rfl
    | _ => rfl
  | _ => rfl
theorem o_appendS (x y : Rv) : ROp.vc P f m K (.appendS x y) = asS (x.ev f) fun A n c => asStr (y.ev f) fun s => appendK 1 1 m A n c s.size (s.data.toList.map u8V) K := by
  dsimp only [ROp.vc, asS, asStr]
  cases x.ev f with
  | slice A n c => dsimp only; cases y.ev f <;> rfl
  | _ => rfl
theorem o_mm (mx : Bool) (x : Rv) (ys : List Rv) : ROp.vc P f m K (.mm mx x ys) = asI (x.ev f) fun k a => asO (mmV mx k a f ys) fun b => K (.int k b) m := by
  dsimp only [ROp.vc, asI, asO]
  cases x.ev f with
  | int k a => dsimp only; cases mmV mx k a f ys <;> rfl
  | _ => rfl
end
theorem mm_nil (mx : Bool) (k : IntKind) (a : Int) : mmV mx k a f [] = some a := (rfl)
theorem mm_k (mx : Bool) (k k2 : IntKind) (a b : Int) (ys : List Rv) : mmV mx k a f (.k (.int k2 b) :: ys) = mmV mx k (if mx then (if b > a then b else a) else (if b < a then b else a)) f ys := (rfl)
section
variable {K : Value → Prop} {k : IntKind} {a b : Int}
theorem b_add : binK .add (.int k a) (.int k b) K = K (.int k (k.wrap (a + b))) := by simp [binK, binI]
theorem b_sub : binK .sub (.int k a) (.int k b) K = K (.int k (k.wrap (a - b))) := by simp [binK, binI]
theorem b_mul : binK .mul (.int k a) (.int k b) K = K (.int k (k.wrap (a * b))) := by simp [binK, binI]
theorem b_quo : binK .quo (.int k a) (.int k b) K = (b ≠ 0 ∧ K (.int k (k.wrap (a.tdiv b)))) := by simp [binK, binI]
theorem b_rem : binK .rem (.int k a) (.int k b) K = (b ≠ 0 ∧ K (.int k (a.tmod b))) := by simp [binK, binI]
theorem b_and : binK .and (.int k a) (.int k b) K = K (.int k (bitsV .and k a b)) := by simp [binK, binI]
theorem b_or : binK .or (.int k a) (.int k b) K = K (.int k (bitsV .or k a b)) := by simp [binK, binI]
theorem b_xor : binK .xor (.int k a) (.int k b) K = K (.int k (bitsV .xor k a b)) := by simp [binK, binI]
theorem b_eql : binK .eql (.int k a) (.int k b) K = K (.bool (decide (a = b))) := by simp [binK, binI]; rfl
theorem b_neq : binK .neq (.int k a) (.int k b) K = K (.bool (decide (a ≠ b))) := by
  have : (a != b) = decide (a ≠ b) := by simp [bne]; rfl
  simp [binK, binI, this]
theorem b_lss : binK .lss (.int k a) (.int k b) K = K (.bool (decide (a < b))) := by simp [binK, binI]
theorem b_leq : binK .leq (.int k a) (.int k b) K = K (.bool (decide (a ≤ b))) := by simp [binK, binI]
theorem b_gtr : binK .gtr (.int k a) (.int k b) K = K (.bool (decide (b < a))) := by simp [binK, binI]
theorem b_geq : binK .geq (.int k a) (.int k b) K = K (.bool (decide (b ≤ a))) := by simp [binK, binI]
theorem b_shl {k' : IntKind} : binK .shl (.int k a) (.int k' b) K = (0 ≤ b ∧ K (.int k (shlV k a b))) := by simp [binK]
theorem b_shr {k' : IntKind} : binK .shr (.int k a) (.int k' b) K = (0 ≤ b ∧ K (.int k (shrV k a b))) := by simp [binK]
variable {x y : ByteArray}
theorem b_adds : binK .add (.string x) (.string y) K = (((x.size + y.size : Nat) : Int) ≤ 9223372036854775807 ∧ K (.string (x ++ y))) := (rfl)
theorem b_eqls : binK .eql (.string x) (.string y) K = K (.bool (x.toList == y.toList)) := (rfl)
theorem b_neqs : binK .neq (.string x) (.string y) K = K (.bool (!(x.toList == y.toList))) := (rfl)
theorem u_not {t : Bool} : unK .not (.bool t) K = K (.bool !t) := (rfl)
theorem u_neg : unK .neg (.int k a) K = K (.int k (k.wrap (0 - a))) := (rfl)
end
theorem ix_n {g : Regs} (dflt : Int) : optIx g none dflt = some dflt := (rfl)
theorem ix_k {g : Regs} (k : IntKind) (n dflt : Int) : optIx g (some (.k (.int k n))) dflt = some n := (rfl)
def oI (v : Value) : Option Int := match v with | .int _ n => some n | _ => none
theorem ix_t {g : Regs} (t : Nat) (dflt : Int) : optIx g (some (.t t)) dflt = oI (g t) := (rfl)
theorem oI_e (k : IntKind) (n : Int) : oI (.int k n) = some n := (rfl)
end
def upd (g : Nat → Option Blk) (n : Nat) (b : Option Blk) : Nat → Option Blk := fun k => if k = n then b else g k
theorem upd_e {g : Nat → Option Blk} {n k : Nat} {b : Option Blk} : upd g n b k = if k = n then b else g k := (rfl)
section
variable {nx br : Nat} {g : Nat → Option Blk}
theorem add_e (b : Blk) : (Mem.mk nx br g).add b = ⟨nx + 1, br, upd g nx (some b)⟩ := (rfl)
theorem putm_e (n : Nat) (b : Blk) : (Mem.mk nx br g).put n b = ⟨nx, br, upd g n (some b)⟩ := (rfl)
theorem kill_e (n : Nat) : (Mem.mk nx br g).kill n = ⟨nx, br, upd g n none⟩ := (rfl)
theorem raise_e : (Mem.mk nx br g).raise = ⟨nx, nx, g⟩ := (rfl)
theorem lower_e (b : Nat) : (Mem.mk nx br g).lower b = ⟨nx, b, g⟩ := (rfl)
theorem get_e (n : Nat) : (Mem.mk nx br g).get n = g n := (rfl)
theorem next_e : (Mem.mk nx br g).next = nx := (rfl)
theorem bar_e : (Mem.mk nx br g).bar = br := (rfl)
theorem write_e (a : Addr) (off : Nat) (vs : List Value) (K : Mem → Prop) : writeK (Mem.mk nx br g) a off vs K = asC (g a.block) fun l ro => ro = false ∧ br ≤ a.block ∧ a.off + off + vs.length ≤ l.length ∧ (∀ v ∈ vs, cellVal v = true) ∧ K ⟨nx, br, upd g a.block (some (.cells (splice l (a.off + off) vs) false))⟩ := by
  show (match g a.block with | some (.cells l false) => _ | _ => False) = _
  cases g a.block with
  | none => rfl
  | some b =>
    cases b with
    | map es => rfl
    | cells c ro =>
      cases ro with
      | false => exact propext ⟨fun h => ⟨rfl, h⟩, fun h => h.2⟩
      | true => exact propext ⟨fun h => h.elim, fun h => by cases h.1⟩
end
def Ct (P : Program) (g : Nat) (args : List Value) (nx : Nat) (gt : Nat → Option Blk) (C : Value → Nat → (Nat → Option Blk) → Prop) : Prop :=
  ∀ b, b ≤ nx → Fn P g args ⟨nx, b, gt⟩ fun res m' => ∃ v, res = .ret v ∧ m'.bar = b ∧ nx ≤ m'.next ∧ (∀ n, n < nx → m'.get n = gt n) ∧ C v m'.next m'.get
theorem callK_of {P : Program} {g : Nat} {args : List Value} {nx b : Nat} {gt : Nat → Option Blk} {C : Value → Nat → (Nat → Option Blk) → Prop} {d : Option Nat} {l : List RO} {f : Regs} {Q : AEx → Regs → Mem → Prop}
    (h : Ct P g args nx gt C) (k : ∀ v nx' gt', nx ≤ nx' → (∀ n, n < nx → gt' n = gt n) → C v nx' gt' → goOps P l (putR f d v) ⟨nx', b, gt'⟩ Q) : b ≤ nx → callK P g args d l f ⟨nx, b, gt⟩ Q := fun hb => by
  refine (h b hb).mono fun res m' _ hh => ?_
  obtain ⟨v, rfl, h1, h2, h3, h4⟩ := hh
  have := k v m'.next m'.get h2 h3 h4
  obtain ⟨a1, a2, a3⟩ := m'
  simp only at h1
  subst h1
  exact this
theorem callQ_of {P : Program} {g : Nat} {args : List Value} {nx b : Nat} {gt : Nat → Option Blk} {C : Value → Nat → (Nat → Option Blk) → Prop} {d : Option Nat} {l ts : List RO} {f : Regs} {Q : AEx → Regs → Mem → Prop}
    (h : Ct P g args nx gt C) (k : ∀ v nx' gt', nx ≤ nx' → (∀ n, n < nx → gt' n = gt n) → C v nx' gt' → goQ P l ts (putR f d v) ⟨nx', b, gt'⟩ Q) : callQ P g args d l ts f ⟨nx, b, gt⟩ Q := by
  refine (h nx (Nat.le_refl _)).mono fun res m' _ hh => ?_
  obtain ⟨v, rfl, h1, h2, h3, h4⟩ := hh
  have := k v m'.next m'.get h2 h3 h4
  exact this
theorem callK_fn {P : Program} {g : Nat} {args : List Value} {m : Mem} {K : Res → Mem → Prop} {d : Option Nat} {l : List RO} {f : Regs} {Q : AEx → Regs → Mem → Prop}
    (h : Fn P g args m K) (k : ∀ res m', K res m' → ∃ v, res = .ret v ∧ goOps P l (putR f d v) m' Q) : callK P g args d l f m Q := by
  refine h.mono fun res m' _ hh => ?_
  obtain ⟨v, rfl, h1⟩ := k res m' hh
  exact h1
def zR : Regs := fun _ => undef
theorem ini0 : (fun i => ([] : List Value).getD i undef) = zR := by funext i; simp [zR]
theorem ini1 (a : Value) : (fun i => [a].getD i undef) = putR zR (some 0) a := by
  funext i; rcases i with _ | i <;> simp [putR, zR]
theorem ini2 (a b : Value) : (fun i => [a, b].getD i undef) = putR (putR zR (some 0) a) (some 1) b := by
  funext i; rcases i with _ | _ | i <;> simp [putR, zR]
theorem ini3 (a b c : Value) : (fun i => [a, b, c].getD i undef) = putR (putR (putR zR (some 0) a) (some 1) b) (some 2) c := by
  funext i; rcases i with _ | _ | _ | i <;> simp [putR, zR]
theorem ini4 (a b c d : Value) : (fun i => [a, b, c, d].getD i undef) = putR (putR (putR (putR zR (some 0) a) (some 1) b) (some 2) c) (some 3) d := by
  funext i; rcases i with _ | _ | _ | _ | i <;> simp [putR, zR]
theorem ini5 (a b c d e : Value) : (fun i => [a, b, c, d, e].getD i undef) = putR (putR (putR (putR (putR zR (some 0) a) (some 1) b) (some 2) c) (some 3) d) (some 4) e := by
  funext i; rcases i with _ | _ | _ | _ | _ | i <;> simp [putR, zR]
theorem ini6 (a b c d e g : Value) : (fun i => [a, b, c, d, e, g].getD i undef) = putR (putR (putR (putR (putR (putR zR (some 0) a) (some 1) b) (some 2) c) (some 3) d) (some 4) e) (some 5) g := by
  funext i; rcases i with _ | _ | _ | _ | _ | _ | i <;> simp [putR, zR]
def endK (rs : List RVar) (b nx : Nat) (gt : Nat → Option Blk) (C : Value → Nat → (Nat → Option Blk) → Prop) (x : AEx) (f : Regs) (m' : Mem) : Prop :=
  (x = .normal ∨ x = .ret) ∧ asO (resVals f m' rs) fun vs => m'.bar = b ∧ nx ≤ m'.next ∧ (∀ n, n < nx → m'.get n = gt n) ∧ C (oneOrTuple vs) m'.next m'.get
theorem end_n {rs : List RVar} {b nx : Nat} {gt : Nat → Option Blk} {C} {f : Regs} {nx' b' : Nat} {gt'} : endK rs b nx gt C .normal f ⟨nx', b', gt'⟩ = asO (resVals f ⟨nx', b', gt'⟩ rs) fun vs => b' = b ∧ nx ≤ nx' ∧ (∀ n, n < nx → gt' n = gt n) ∧ C (oneOrTuple vs) nx' gt' := by simp [endK]
theorem end_r {rs : List RVar} {b nx : Nat} {gt : Nat → Option Blk} {C} {f : Regs} {nx' b' : Nat} {gt'} : endK rs b nx gt C .ret f ⟨nx', b', gt'⟩ = asO (resVals f ⟨nx', b', gt'⟩ rs) fun vs => b' = b ∧ nx ≤ nx' ∧ (∀ n, n < nx → gt' n = gt n) ∧ C (oneOrTuple vs) nx' gt' := by simp [endK]
theorem res_nil {f : Regs} {m : Mem} : resVals f m [] = some [] := (rfl)
theorem res_t {f : Regs} {m : Mem} (i : Nat) (l : List RVar) : resVals f m (.t i :: l) = (resVals f m l).map (f i :: ·) := (rfl)
theorem one1 (v : Value) : oneOrTuple [v] = v := (rfl)
theorem one2 (v u : Value) : oneOrTuple [v, u] = .tuple #[v, u] := (rfl)
theorem one3 (v u t : Value) : oneOrTuple [v, u, t] = .tuple #[v, u, t] := (rfl)
theorem one0 : oneOrTuple [] = .tuple #[] := (rfl)
theorem Ct.of {P : Program} (hmx : P.follows .mixedOrders = true) {g : Nat} {rf : RFn} (h : resolveFn P g = some rf) {args : List Value} (hn : args.length ≤ rf.n) {nx : Nat} {gt : Nat → Option Blk} {C : Value → Nat → (Nat → Option Blk) → Prop}
    (hv : ∀ b, b ≤ nx → rf.code.vc P (fun i => args.getD i undef) ⟨nx, b, gt⟩ (D P (.top (endK rf.results b nx gt C)))) : Ct P g args nx gt C := by
  intro b hb
  refine fn_sound hmx h hn ?_
  have e : D P (.top (endK rf.results b nx gt C)) = retK rf.results fun res m' => ∃ v, res = .ret v ∧ m'.bar = b ∧ nx ≤ m'.next ∧ (∀ n, n < nx → m'.get n = gt n) ∧ C v m'.next m'.get := by
    funext x f m'
    cases x <;> simp [D, endK, retK, asO] <;> (cases resVals f m' rf.results <;> simp)
  rw [← e]
  exact hv b hb
theorem Rounds.more {body : Regs → Mem → (AEx → Regs → Mem → Prop) → Prop} {Q : AEx → Regs → Mem → Prop} : ∀ {n : Nat} {f : Regs} {m : Mem}, Rounds body Q n f m → ∀ k, Rounds body Q (n + k) f m := by
  intro n f m h
  induction h with
  | mk n f m R h hr ih =>
    intro k
    have e : n + 1 + k = (n + k) + 1 := by omega
    rw [e]
    exact .mk _ f m R h fun f1 m1 h1 => ih f1 m1 h1 k
def loopK (P : Program) (I : Nat → Regs → Mem → Prop) (k : Nat) (s : Stk) (x : AEx) (f : Regs) (m : Mem) : Prop := match x with
  | .normal => ∃ k', k' < k ∧ I k' f m
  | x => D P s x f m
section
variable {P : Program} {I : Nat → Regs → Mem → Prop} {k : Nat} {s : Stk} {f : Regs} {m : Mem}
theorem loopK_n : loopK P I k s .normal f m = ∃ k', k' < k ∧ I k' f m := (rfl)
theorem loopK_e (i : Nat) : loopK P I k s (.exit i) f m = D P s (.exit i) f m := (rfl)
theorem loopK_g (l : Nat) : loopK P I k s (.goto l) f m = D P s (.goto l) f m := (rfl)
theorem loopK_r : loopK P I k s .ret f m = D P s .ret f m := (rfl)
theorem loopK_p (v : Value) : loopK P I k s (.pan v) f m = D P s (.pan v) f m := (rfl)
end
theorem loop_of {P : Program} {b : RC} {f : Regs} {m : Mem} {s : Stk} (I : Nat → Regs → Mem → Prop) (k : Nat) (h0 : I k f m)
    (hs : ∀ k f m, I k f m → b.vc P f m (D P (.top (loopK P I k s)))) : RC.vc P (.loop b) f m (D P s) := by
  show ∃ n, Rounds _ _ n f m
  have key : ∀ K k f m, k ≤ K → I k f m → Rounds (fun f m Q => b.vc P f m Q) (D P s) (K + 1) f m := by
    intro K
    induction K with
    | zero =>
      intro k f m hk hi
      refine .mk _ f m (fun _ _ => False) ?_ fun f1 m1 h => h.elim
      have := hs k f m hi
      have e : D P (.top (loopK P I k s)) = thenK (fun _ _ => False) (D P s) := by
        funext x f' m'
        cases x <;> simp [D, thenK, loopK]
        intro x h1; omega
      rw [e] at this
      exact this
    | succ K ih =>
      intro k f m hk hi
      refine .mk _ f m (fun f' m' => ∃ k', k' < k ∧ I k' f' m') ?_ fun f1 m1 h => ?_
      · have := hs k f m hi
        have e : D P (.top (loopK P I k s)) = thenK (fun f' m' => ∃ k', k' < k ∧ I k' f' m') (D P s) := by
          funext x f' m'
          cases x <;> simp [D, thenK, loopK]
        rw [e] at this
        exact this
      · obtain ⟨k', h1, h2⟩ := h
        exact ih k' f1 m1 (by omega) h2
  exact ⟨k + 1, key k k f m (Nat.le_refl _) h0⟩
structure Row (nx : Nat) (gt : Nat → Option Blk) (e : Nat) (A : Option Addr) (N : Nat) (l : List Value) : Prop where
  spot : ∀ a, A = some a → a.spot = none ∨ a.spot = some e
  len : l.length = N
  cells : 0 < N → ∃ a c ro, A = some a ∧ a.block < nx ∧ gt a.block = some (.cells c ro) ∧ a.off + N ≤ c.length ∧ ∀ i, i < N → c.getD (a.off + i) undef = l.getD i undef
theorem Row.keep {nx gt e A N l nx' gt'} (h : Row nx gt e A N l) (h1 : nx ≤ nx') (h2 : ∀ n, n < nx → gt' n = gt n) : Row nx' gt' e A N l := by
  refine ⟨h.spot, h.len, fun hN => ?_⟩
  obtain ⟨a, c, ro, e1, e2, e3, e4, e5⟩ := h.cells hN
  exact ⟨a, c, ro, e1, by omega, by rw [h2 _ e2, e3], e4, e5⟩
theorem Row.nil {nx gt e} : Row nx gt e none 0 [] := ⟨fun _ h => (nomatch h), rfl, fun h => absurd h (Nat.lt_irrefl 0)⟩
theorem Row.rowOf {nx b gt e A N l} (h : Row nx gt e A N l) : rowOf ⟨nx, b, gt⟩ A N = some l := by
  unfold Go.Ga.rowOf
  by_cases hN : N = 0
  · rw [if_pos hN]
    have := h.len
    have : l = [] := List.eq_nil_of_length_eq_zero (by omega)
    rw [this]
  · rw [if_neg hN]
    obtain ⟨a, c, ro, rfl, e2, e3, e4, e5⟩ := h.cells (by omega)
    simp only [e3, e4, if_true]
    congr 1
    refine List.ext_getElem (by simp [h.len]; omega) fun i h1 h2 => ?_
    have hi : i < N := by rw [← h.len]; exact h2
    have := e5 i hi
    rw [List.getD_eq_getElem?_getD, List.getD_eq_getElem?_getD, List.getElem?_eq_getElem (by omega), List.getElem?_eq_getElem h2] at this
    simpa using this
theorem Row.part {nx gt e A N l} (h : Row nx gt e A N l) {lo hi : Nat} (h1 : lo ≤ hi) (h2 : hi ≤ N) {a : Addr} (ha : A = some a) :
    Row nx gt e (some ⟨a.block, a.off + lo, a.spot⟩) (hi - lo) ((l.drop lo).take (hi - lo)) := by
  refine ⟨fun a' h' => by injection h' with h'; subst h'; exact h.spot a ha, by simp [h.len]; omega, fun hN => ?_⟩
  obtain ⟨a1, c, ro, e1, e2, e3, e4, e5⟩ := h.cells (by omega)
  have : a1 = a := by rw [ha] at e1; injection e1 with e1; exact e1.symm
  subst this
  refine ⟨_, c, ro, rfl, e2, e3, by simp only; omega, fun i hi => ?_⟩
  have := e5 (lo + i) (by omega)
  simp only
  rw [Nat.add_assoc, this]
  simp [List.getD_eq_getElem?_getD, hi]
theorem bytesOf_map (l : List UInt8) : bytesOf (l.map u8V) = some l := by
  induction l with
  | nil => rfl
  | cons b l ih =>
    simp only [List.map_cons, bytesOf, ih, byteOf, u8V]
    simp
theorem getD_u8 {l : List UInt8} {i : Nat} (h : i < l.length) : (l.map u8V).getD i undef = .int .u8 ((l.getD i 0).toNat : Nat) := by
  simp [List.getD_eq_getElem?_getD, List.getElem?_map, List.getElem?_eq_getElem h, u8V]
attribute [irreducible] condK guardK guardQ callK callQ
end Go.Ga

namespace Go.Ga
open Go Go.Proofs
set_option maxRecDepth 100000
def c_octet_Least : RFn :=
 ⟨24, (.seq (.ops [] [⟨some 2, .op (.mv (.k (.slice none 0 0))), none⟩]) (.seq (.ops [] [⟨some 3, .op (.mv (.k (.int .i64 1))), none⟩]) (.seq (.block 0 (.loop (.seq (.seq (.ops [] [⟨some 6, .op (.mv (.t 3)), none⟩,⟨some 7, .op (.bin .lss (.t 6) (.k (.int .i64 8))), none⟩,⟨some 8, .op (.mv (.t 7)), none⟩,⟨some 9, .op (.mv (.t 0)), some (8, true)⟩,⟨some 10, .op (.mv (.t 3)), some (8, true)⟩,⟨some 11, .op (.bin .mul (.k (.int .i64 8)) (.t 10)), some (8, true)⟩,⟨some 12, .op (.bin .shr (.t 9) (.t 11)), some (8, true)⟩,⟨some 13, .op (.bin .neq (.t 12) (.k (.int .u64 0))), some (8, true)⟩,⟨some 14, .op (.pick (.t 8) (.t 13) (.k (.bool false))), none⟩]) (.cond (.t 14) .skip (.exit 0))) (.block 1 (.ops [] [⟨some 15, .op (.mv (.t 3)), none⟩,⟨some 16, .op (.bin .add (.t 15) (.k (.int .i64 1))), none⟩,⟨some 3, .op (.mv (.t 16)), none⟩]))))) (.seq (.ops [] [⟨some 18, .op (.mv (.t 0)), none⟩,⟨some 19, .op (.mv (.t 3)), none⟩,⟨some 20, .call (.k (.func (.func 73) #[] #[])) [(.t 18), (.t 19)], none⟩,⟨some 17, .op (.mv (.t 20)), none⟩,⟨some 21, .op (.extract (.t 17) 0), none⟩,⟨some 22, .op (.extract (.t 17) 1), none⟩,⟨some 4, .op (.mv (.t 21)), none⟩,⟨some 5, .op (.mv (.t 22)), none⟩]) (.seq (.ops [] [⟨some 23, .op (.mv (.t 4)), none⟩,⟨some 2, .op (.mv (.t 23)), none⟩]) .ret))))), [(.t 2)]⟩
theorem r_octet_Least : resolveFn Tryd.prog 45 = some c_octet_Least := by kernel_rfl
def c_octet_Num : RFn :=
 ⟨29, (.seq (.ops [] [⟨some 2, .op (.mv (.k (.int .u64 0))), none⟩,⟨some 3, .op (.mv (.k (.bool false))), none⟩]) (.seq (.block 0 (.loop (.seq (.seq (.ops [] [⟨some 7, .op (.mv (.t 0)), none⟩,⟨some 8, .op (.lenSl (.t 7)), none⟩,⟨some 9, .op (.bin .gtr (.t 8) (.k (.int .i64 8))), none⟩]) (.cond (.t 9) .skip (.exit 0))) (.block 1 (.seq (.seq (.ops [] [⟨some 10, .op (.mv (.t 0)), none⟩,⟨some 11, .op (.ixAddr 1 (.t 10) (.k (.int .i64 0))), none⟩,⟨some 12, .op (.load1 (.t 11)), none⟩,⟨some 13, .op (.bin .neq (.t 12) (.k (.int .u8 0))), none⟩]) (.cond (.t 13) (.seq (.ops [] [⟨some 2, .op (.mv (.k (.int .u64 0))), none⟩,⟨some 3, .op (.mv (.k (.bool false))), none⟩]) .ret) .skip)) (.ops [] [⟨some 14, .op (.mv (.t 0)), none⟩,⟨some 15, .op (.sl 1 (.t 14) (some (.k (.int .i64 1))) none none), none⟩,⟨some 0, .op (.mv (.t 15)), none⟩])))))) (.seq (.ops [] [⟨some 4, .op (.mv (.k (.int .u64 0))), none⟩]) (.seq (.seq (.ops [] [⟨some 16, .op (.mv (.t 0)), none⟩,⟨some 17, .op (.lenSl (.t 16)), none⟩,⟨some 18, .op (.mv (.k (.int .i64 0))), none⟩]) (.block 2 (.loop (.seq (.ops [] [⟨some 19, .op (.bin .lss (.t 18) (.t 17)), none⟩]) (.seq (.cond (.t 19) .skip (.exit 2)) (.seq (.block 3 (.seq (.ops [] [⟨some 20, .op (.ixAddr 1 (.t 16) (.t 18)), none⟩,⟨some 21, .op (.load1 (.t 20)), none⟩,⟨some 6, .op (.mv (.t 21)), none⟩]) (.ops [] [⟨some 22, .op (.mv (.t 4)), none⟩,⟨some 23, .op (.bin .shl (.t 22) (.k (.int .u64 8))), none⟩,⟨some 24, .op (.mv (.t 6)), none⟩,⟨some 25, .op (.toInt .u64 (.t 24)), none⟩,
 ⟨some 26, .op (.bin .or (.t 23) (.t 25)), none⟩,⟨some 4, .op (.mv (.t 26)), none⟩]))) (.ops [] [⟨some 27, .op (.bin .add (.t 18) (.k (.int .i64 1))), none⟩,⟨some 18, .op (.mv (.t 27)), none⟩]))))))) (.seq (.ops [] [⟨some 28, .op (.mv (.t 4)), none⟩,⟨some 2, .op (.mv (.t 28)), none⟩,⟨some 3, .op (.mv (.k (.bool true))), none⟩]) .ret))))), [(.t 2), (.t 3)]⟩
theorem r_octet_Num : resolveFn Tryd.prog 57 = some c_octet_Num := by kernel_rfl
def c_octet_Bytes : RFn :=
 ⟨45, (.seq (.ops [] [⟨some 4, .op (.mv (.k (.slice none 0 0))), none⟩,⟨some 5, .op (.mv (.k (.bool false))), none⟩]) (.seq (.seq (.ops [] [⟨some 8, .op (.mv (.t 1)), none⟩,⟨some 9, .op (.bin .lss (.t 8) (.k (.int .i64 0))), none⟩,⟨some 10, .op (.mv (.t 9)), none⟩,⟨some 11, .op (.mv (.t 1)), some (10, false)⟩,⟨some 12, .op (.bin .gtr (.t 11) (.k (.int .i64 64))), some (10, false)⟩,⟨some 13, .op (.pick (.t 10) (.k (.bool true)) (.t 12)), none⟩,⟨some 14, .op (.mv (.t 13)), none⟩,⟨some 15, .op (.mv (.t 1)), some (14, false)⟩,⟨some 16, .op (.bin .lss (.t 15) (.k (.int .i64 8))), some (14, false)⟩,⟨some 17, .op (.mv (.t 16)), some (14, false)⟩,⟨some 18, .op (.mv (.t 0)), some (17, true)⟩,⟨some 19, .op (.mv (.t 1)), some (17, true)⟩,⟨some 20, .op (.bin .mul (.k (.int .i64 8)) (.t 19)), some (17, true)⟩,⟨some 21, .op (.bin .shr (.t 18) (.t 20)), some (17, true)⟩,⟨some 22, .op (.bin .neq (.t 21) (.k (.int .u64 0))), some (17, true)⟩,⟨some 23, .op (.pick (.t 17) (.t 22) (.k (.bool false))), some (14, false)⟩,⟨some 24, .op (.pick (.t 14) (.k (.bool true)) (.t 23)), none⟩]) (.cond (.t 24) (.seq (.ops [] [⟨some 4, .op (.mv (.k (.slice none 0 0))), none⟩,⟨some 5, .op (.mv (.k (.bool false))), none⟩]) .ret) .skip)) (.seq (.ops [] [⟨some 25, .op (.mv (.t 1)), none⟩,⟨some 26, .op (.make 1 1 [.int .u8 0] (.t 25) (.t 25)), none⟩,⟨some 6, .op (.mv (.t 26)), none⟩]) (.seq (.seq (.ops [] [⟨some 27, .op (.mv (.t 1)), none⟩,⟨some 28, .op (.mm false (.t 27) [(.k (.int .i64 8))]), none⟩,⟨some 29, .op (.mv (.k (.int .i64 0))), none⟩])
 (.block 0 (.loop (.seq (.ops [] [⟨some 30, .op (.bin .lss (.t 29) (.t 28)), none⟩]) (.seq (.cond (.t 30) .skip (.exit 0)) (.seq (.block 1 (.seq (.ops [] [⟨some 31, .op (.mv (.t 29)), none⟩,⟨some 7, .op (.mv (.t 31)), none⟩]) (.ops [] [⟨some 32, .op (.mv (.t 6)), none⟩,⟨some 33, .op (.mv (.t 1)), none⟩,⟨some 34, .op (.bin .sub (.t 33) (.k (.int .i64 1))), none⟩,⟨some 35, .op (.mv (.t 7)), none⟩,⟨some 36, .op (.bin .sub (.t 34) (.t 35)), none⟩,⟨some 37, .op (.mv (.t 0)), none⟩,⟨some 38, .op (.mv (.t 7)), none⟩,⟨some 39, .op (.bin .mul (.k (.int .i64 8)) (.t 38)), none⟩,⟨some 40, .op (.bin .shr (.t 37) (.t 39)), none⟩,⟨some 41, .op (.toInt .u8 (.t 40)), none⟩,⟨some 42, .op (.ixAddr 1 (.t 32) (.t 36)), none⟩,⟨none, .op (.store 1 (.t 42) (.t 41)), none⟩]))) (.ops [] [⟨some 43, .op (.bin .add (.t 29) (.k (.int .i64 1))), none⟩,⟨some 29, .op (.mv (.t 43)), none⟩]))))))) (.seq (.ops [] [⟨some 44, .op (.mv (.t 6)), none⟩,⟨some 4, .op (.mv (.t 44)), none⟩,⟨some 5, .op (.mv (.k (.bool true))), none⟩]) .ret))))), [(.t 4), (.t 5)]⟩
theorem r_octet_Bytes : resolveFn Tryd.prog 73 = some c_octet_Bytes := by kernel_rfl
def c_lanyardref01_Least : RFn :=
 ⟨26, (.seq (.ops [] [⟨some 2, .op (.mv (.k (.slice none 0 0))), none⟩]) (.seq (.seq (.ops [] [⟨some 3, .op (.mv (.k (.int .i64 1))), none⟩]) (.block 0 (.loop (.seq (.seq (.ops [] [⟨some 8, .op (.mv (.t 3)), none⟩,⟨some 9, .op (.bin .lss (.t 8) (.k (.int .i64 8))), none⟩]) (.cond (.t 9) .skip (.exit 0))) (.seq (.block 1 (.seq (.ops [] [⟨some 13, .op (.mv (.t 0)), none⟩,⟨some 14, .op (.mv (.t 3)), none⟩,⟨some 15, .call (.k (.func (.func 78) #[] #[])) [(.t 13), (.t 14)], none⟩,⟨some 12, .op (.mv (.t 15)), none⟩,⟨some 16, .op (.extract (.t 12) 0), none⟩,⟨some 17, .op (.extract (.t 12) 1), none⟩,⟨some 4, .op (.mv (.t 16)), none⟩,⟨some 5, .op (.mv (.t 17)), none⟩]) (.seq (.ops [] [⟨some 18, .op (.mv (.t 5)), none⟩]) (.cond (.t 18) (.seq (.ops [] [⟨some 19, .op (.mv (.t 4)), none⟩,⟨some 2, .op (.mv (.t 19)), none⟩]) .ret) .skip)))) (.ops [] [⟨some 10, .op (.mv (.t 3)), none⟩,⟨some 11, .op (.bin .add (.t 10) (.k (.int .i64 1))), none⟩,⟨some 3, .op (.mv (.t 11)), none⟩])))))) (.seq (.ops [] [⟨some 21, .op (.mv (.t 0)), none⟩,⟨some 22, .call (.k (.func (.func 78) #[] #[])) [(.t 21), (.k (.int .i64 8))], none⟩,⟨some 20, .op (.mv (.t 22)), none⟩,⟨some 23, .op (.extract (.t 20) 0), none⟩,⟨some 24, .op (.extract (.t 20) 1), none⟩,⟨some 6, .op (.mv (.t 23)), none⟩,⟨some 7, .op (.mv (.t 24)), none⟩]) (.seq (.ops [] [⟨some 25, .op (.mv (.t 6)), none⟩,⟨some 2, .op (.mv (.t 25)), none⟩]) .ret)))), [(.t 2)]⟩
theorem r_lanyardref01_Least : resolveFn Tryd.prog 50 = some c_lanyardref01_Least := by kernel_rfl
def c_lanyardref01_Num : RFn :=
 ⟨23, (.seq (.ops [] [⟨some 2, .op (.mv (.k (.int .u64 0))), none⟩,⟨some 3, .op (.mv (.k (.bool false))), none⟩]) (.seq (.ops [] [⟨some 4, .op (.mv (.k (.int .u64 0))), none⟩]) (.seq (.seq (.ops [] [⟨some 5, .op (.mv (.k (.int .i64 0))), none⟩]) (.block 0 (.loop (.seq (.seq (.ops [] [⟨some 6, .op (.mv (.t 5)), none⟩,⟨some 7, .op (.mv (.t 0)), none⟩,⟨some 8, .op (.lenSl (.t 7)), none⟩,⟨some 9, .op (.bin .lss (.t 6) (.t 8)), none⟩]) (.cond (.t 9) .skip (.exit 0))) (.seq (.block 1 (.seq (.seq (.ops [] [⟨some 12, .op (.mv (.t 4)), none⟩,⟨some 13, .op (.bin .geq (.t 12) (.k (.int .u64 72057594037927936))), none⟩]) (.cond (.t 13) (.seq (.ops [] [⟨some 2, .op (.mv (.k (.int .u64 0))), none⟩,⟨some 3, .op (.mv (.k (.bool false))), none⟩]) .ret) .skip)) (.ops [] [⟨some 14, .op (.mv (.t 4)), none⟩,⟨some 15, .op (.bin .mul (.t 14) (.k (.int .u64 256))), none⟩,⟨some 16, .op (.mv (.t 0)), none⟩,⟨some 17, .op (.mv (.t 5)), none⟩,⟨some 18, .op (.ixAddr 1 (.t 16) (.t 17)), none⟩,⟨some 19, .op (.load1 (.t 18)), none⟩,⟨some 20, .op (.toInt .u64 (.t 19)), none⟩,⟨some 21, .op (.bin .add (.t 15) (.t 20)), none⟩,⟨some 4, .op (.mv (.t 21)), none⟩]))) (.ops [] [⟨some 10, .op (.mv (.t 5)), none⟩,⟨some 11, .op (.bin .add (.t 10) (.k (.int .i64 1))), none⟩,⟨some 5, .op (.mv (.t 11)), none⟩])))))) (.seq (.ops [] [⟨some 22, .op (.mv (.t 4)), none⟩,⟨some 2, .op (.mv (.t 22)), none⟩,⟨some 3, .op (.mv (.k (.bool true))), none⟩]) .ret)))), [(.t 2), (.t 3)]⟩
theorem r_lanyardref01_Num : resolveFn Tryd.prog 63 = some c_lanyardref01_Num := by kernel_rfl
def c_lanyardref01_Bytes : RFn :=
 ⟨33, (.seq (.ops [] [⟨some 4, .op (.mv (.k (.slice none 0 0))), none⟩,⟨some 5, .op (.mv (.k (.bool false))), none⟩]) (.seq (.seq (.ops [] [⟨some 8, .op (.mv (.t 1)), none⟩,⟨some 9, .op (.bin .lss (.t 8) (.k (.int .i64 0))), none⟩,⟨some 10, .op (.mv (.t 9)), none⟩,⟨some 11, .op (.mv (.t 1)), some (10, false)⟩,⟨some 12, .op (.bin .gtr (.t 11) (.k (.int .i64 64))), some (10, false)⟩,⟨some 13, .op (.pick (.t 10) (.k (.bool true)) (.t 12)), none⟩]) (.cond (.t 13) (.seq (.ops [] [⟨some 4, .op (.mv (.k (.slice none 0 0))), none⟩,⟨some 5, .op (.mv (.k (.bool false))), none⟩]) .ret) .skip)) (.seq (.ops [] [⟨some 14, .op (.mv (.t 1)), none⟩,⟨some 15, .op (.make 1 1 [.int .u8 0] (.t 14) (.t 14)), none⟩,⟨some 6, .op (.mv (.t 15)), none⟩]) (.seq (.seq (.ops [] [⟨some 16, .op (.mv (.t 1)), none⟩,⟨some 17, .op (.bin .sub (.t 16) (.k (.int .i64 1))), none⟩,⟨some 7, .op (.mv (.t 17)), none⟩]) (.block 0 (.loop (.seq (.seq (.ops [] [⟨some 18, .op (.mv (.t 7)), none⟩,⟨some 19, .op (.bin .geq (.t 18) (.k (.int .i64 0))), none⟩]) (.cond (.t 19) .skip (.exit 0))) (.seq (.block 1 (.seq (.ops [] [⟨some 22, .op (.mv (.t 6)), none⟩,⟨some 23, .op (.mv (.t 7)), none⟩,⟨some 24, .op (.mv (.t 0)), none⟩,⟨some 25, .op (.bin .rem (.t 24) (.k (.int .u64 256))), none⟩,⟨some 26, .op (.toInt .u8 (.t 25)), none⟩,⟨some 27, .op (.ixAddr 1 (.t 22) (.t 23)), none⟩,⟨none, .op (.store 1 (.t 27) (.t 26)), none⟩]) (.ops [] [⟨some 28, .op (.mv (.t 0)), none⟩,⟨some 29, .op (.bin .quo (.t 28) (.k (.int .u64 256))), none⟩,⟨some 0, .op (.mv (.t 29)), none⟩])))
 (.ops [] [⟨some 20, .op (.mv (.t 7)), none⟩,⟨some 21, .op (.bin .sub (.t 20) (.k (.int .i64 1))), none⟩,⟨some 7, .op (.mv (.t 21)), none⟩])))))) (.seq (.seq (.ops [] [⟨some 30, .op (.mv (.t 0)), none⟩,⟨some 31, .op (.bin .gtr (.t 30) (.k (.int .u64 0))), none⟩]) (.cond (.t 31) (.seq (.ops [] [⟨some 4, .op (.mv (.k (.slice none 0 0))), none⟩,⟨some 5, .op (.mv (.k (.bool false))), none⟩]) .ret) .skip)) (.seq (.ops [] [⟨some 32, .op (.mv (.t 6)), none⟩,⟨some 4, .op (.mv (.t 32)), none⟩,⟨some 5, .op (.mv (.k (.bool true))), none⟩]) .ret)))))), [(.t 4), (.t 5)]⟩
theorem r_lanyardref01_Bytes : resolveFn Tryd.prog 78 = some c_lanyardref01_Bytes := by kernel_rfl
def c_scalar_Int : RFn :=
 ⟨6, (.seq (.ops [] [⟨some 2, .op (.new [(.int .i64 0), (.slice none 0 0), (.slice none 0 0)]), none⟩]) (.seq (.ops [] [⟨some 3, .op (.mv (.t 0)), none⟩,⟨some 4, .call (.k (.func (.func 45) #[] #[])) [(.t 3)], none⟩,⟨some 5, .call (.k (.func (.func 44) #[] #[])) [(.t 4)], none⟩,⟨none, .op (.store 3 (.t 2) (.t 5)), none⟩]) .ret)), [(.cN 2 3)]⟩
theorem r_scalar_Int : resolveFn Tryd.prog 21 = some c_scalar_Int := by kernel_rfl
def c_scalar_Big : RFn :=
 ⟨21, (.seq (.ops [] [⟨some 2, .op (.new [(.int .i64 0), (.slice none 0 0), (.slice none 0 0)]), none⟩]) (.seq (.ops [] [⟨some 3, .op (.mv (.t 0)), none⟩,⟨some 4, .call (.k (.func (.func 71) #[] #[])) [(.t 3), (.k (.string ⟨#[0]⟩))], none⟩,⟨some 0, .op (.mv (.t 4)), none⟩]) (.seq (.seq (.ops [] [⟨some 5, .op (.mv (.t 0)), none⟩,⟨some 6, .op (.lenSl (.t 5)), none⟩,⟨some 7, .op (.bin .eql (.t 6) (.k (.int .i64 0))), none⟩,⟨some 8, .op (.mv (.t 7)), none⟩,⟨some 9, .op (.mv (.t 0)), some (8, false)⟩,⟨some 10, .op (.ixAddr 1 (.t 9) (.k (.int .i64 0))), some (8, false)⟩,⟨some 11, .op (.load1 (.t 10)), some (8, false)⟩,⟨some 12, .op (.bin .geq (.t 11) (.k (.int .u8 128))), some (8, false)⟩,⟨some 13, .op (.pick (.t 8) (.k (.bool true)) (.t 12)), none⟩]) (.cond (.t 13) (.seq (.ops [] [⟨some 14, .op (.mkSl 1 [.int .u8 0] [(0, (1, (.k (.int .u8 0))))]), none⟩,⟨some 15, .op (.mv (.t 0)), none⟩,⟨some 16, .op (.append 1 1 (.t 14) (.t 15)), none⟩,⟨some 17, .op (.build [(.int .i64 0), (.slice none 0 0), (.slice none 0 0)] [(0, (1, (.k (.int .i64 2)))), (1, (1, (.t 16)))]), none⟩,⟨none, .op (.store 3 (.t 2) (.t 17)), none⟩]) .ret) .skip)) (.seq (.ops [] [⟨some 18, .op (.mv (.t 0)), none⟩,⟨some 19, .call (.k (.func (.func 72) #[] #[])) [(.t 18)], none⟩,⟨some 20, .op (.build [(.int .i64 0), (.slice none 0 0), (.slice none 0 0)] [(0, (1, (.k (.int .i64 2)))), (1, (1, (.t 19)))]), none⟩,⟨none, .op (.store 3 (.t 2) (.t 20)), none⟩]) .ret)))), [(.cN 2 3)]⟩
theorem r_scalar_Big : resolveFn Tryd.prog 44 = some c_scalar_Big := by kernel_rfl
def c_scalar_Uint : RFn :=
 ⟨19, (.seq (.ops [] [⟨some 1, .op (.box (.t 0)), none⟩,⟨some 2, .op (.mv (.k (.int .u64 0))), none⟩,⟨some 3, .op (.mv (.k (.int .i64 0))), none⟩]) (.seq (.ops [] [⟨some 7, .op (.fieldAddr 1 (.t 1)), none⟩,⟨some 8, .op (.load1 (.t 7)), none⟩,⟨some 9, .call (.k (.func (.func 57) #[] #[])) [(.t 8)], none⟩,⟨some 6, .op (.mv (.t 9)), none⟩,⟨some 10, .op (.extract (.t 6) 0), none⟩,⟨some 11, .op (.extract (.t 6) 1), none⟩,⟨some 4, .op (.new [(.int .u64 0)]), none⟩,⟨none, .op (.store 1 (.t 4) (.t 10)), none⟩,⟨some 5, .op (.mv (.t 11)), none⟩]) (.seq (.ops [] [⟨some 12, .op (.load1 (.t 4)), none⟩,⟨some 13, .op (.mv (.t 5)), none⟩,⟨some 14, .op (.loadN 3 (.t 1)), none⟩,⟨some 15, .op (.func 59 [(.t 4)]), none⟩,⟨some 16, .call (.k (.func (.func 58) #[] #[])) [(.t 12), (.t 13), (.t 14), (.t 15)], none⟩,⟨some 17, .op (.extract (.t 16) 0), none⟩,⟨some 18, .op (.extract (.t 16) 1), none⟩,⟨some 2, .op (.mv (.t 17)), none⟩,⟨some 3, .op (.mv (.t 18)), none⟩]) .ret))), [(.t 2), (.t 3)]⟩
theorem r_scalar_Uint : resolveFn Tryd.prog 29 = some c_scalar_Uint := by kernel_rfl
def c_scalar_Uint_1 : RFn :=
 ⟨5, (.seq (.ops [] [⟨some 1, .op (.new [(.int .i64 0), (.slice none 0 0), (.slice none 0 0)]), none⟩,⟨some 2, .op (.mv (.k (.int .i64 0))), none⟩]) (.seq (.ops [] [⟨some 3, .op (.load1 (.t 0)), none⟩,⟨some 4, .call (.k (.func (.func 21) #[] #[])) [(.t 3)], none⟩,⟨none, .op (.store 3 (.t 1) (.t 4)), none⟩,⟨some 2, .op (.mv (.k (.int .i64 0))), none⟩]) .ret)), [(.cN 1 3), (.t 2)]⟩
theorem r_scalar_Uint_1 : resolveFn Tryd.prog 59 = some c_scalar_Uint_1 := by kernel_rfl
def c_scalar_just_uint64_ : RFn :=
 ⟨31, (.seq (.ops [] [⟨some 6, .op (.box (.t 2)), none⟩,⟨some 8, .op (.mv (.k (.int .u64 0))), none⟩,⟨some 9, .op (.mv (.k (.int .i64 0))), none⟩]) (.seq (.ops [] [⟨some 10, .op (.mv (.k (.int .u64 0))), none⟩]) (.seq (.seq (.ops [] [⟨some 13, .op (.mv (.t 1)), none⟩,⟨some 14, .op (.un .not (.t 13)), none⟩]) (.cond (.t 14) (.seq (.ops [] [⟨some 15, .op (.mv (.t 10)), none⟩,⟨some 8, .op (.mv (.t 15)), none⟩,⟨some 9, .op (.mv (.k (.int .i64 2))), none⟩]) .ret) .skip)) (.seq (.seq (.ops [] [⟨some 17, .op (.mv (.t 3)), none⟩,⟨some 18, .call (.t 17) [], none⟩,⟨some 16, .op (.mv (.t 18)), none⟩,⟨some 19, .op (.extract (.t 16) 0), none⟩,⟨some 20, .op (.extract (.t 16) 1), none⟩,⟨some 11, .op (.new [(.int .i64 0), (.slice none 0 0), (.slice none 0 0)]), none⟩,⟨none, .op (.store 3 (.t 11) (.t 19)), none⟩,⟨some 12, .op (.mv (.t 20)), none⟩]) (.seq (.ops [] [⟨some 21, .op (.mv (.t 12)), none⟩,⟨some 22, .op (.bin .neq (.t 21) (.k (.int .i64 0))), none⟩,⟨some 23, .op (.mv (.t 22)), none⟩,⟨some 24, .op (.loadN 3 (.t 11)), some (23, false)⟩,⟨some 25, .op (.loadN 3 (.t 6)), some (23, false)⟩,⟨some 26, .call (.k (.func (.func 84) #[] #[])) [(.t 24), (.t 25)], some (23, false)⟩,⟨some 27, .op (.un .not (.t 26)), some (23, false)⟩,⟨some 28, .op (.pick (.t 23) (.k (.bool true)) (.t 27)), none⟩]) (.cond (.t 28) (.seq (.ops [] [⟨some 29, .op (.mv (.t 10)), none⟩,⟨some 8, .op (.mv (.t 29)), none⟩,⟨some 9, .op (.mv (.k (.int .i64 2))), none⟩]) .ret) .skip))) (.seq (.ops [] [⟨some 30, .op (.mv (.t 0)), none⟩,
 ⟨some 8, .op (.mv (.t 30)), none⟩,⟨some 9, .op (.mv (.k (.int .i64 0))), none⟩]) .ret))))), [(.t 8), (.t 9)]⟩
theorem r_scalar_just_uint64_ : resolveFn Tryd.prog 58 = some c_scalar_just_uint64_ := by kernel_rfl
def c_scalar_same : RFn :=
 ⟨27, (.seq (.ops [] [⟨some 2, .op (.box (.t 0)), none⟩,⟨some 3, .op (.box (.t 1)), none⟩,⟨some 4, .op (.mv (.k (.bool false))), none⟩]) (.seq (.ops [] [⟨some 5, .op (.fieldAddr 0 (.t 2)), none⟩,⟨some 6, .op (.load1 (.t 5)), none⟩,⟨some 7, .op (.fieldAddr 0 (.t 3)), none⟩,⟨some 8, .op (.load1 (.t 7)), none⟩,⟨some 9, .op (.bin .eql (.t 6) (.t 8)), none⟩,⟨some 10, .op (.mv (.t 9)), none⟩,⟨some 11, .op (.fieldAddr 1 (.t 2)), some (10, true)⟩,⟨some 12, .op (.load1 (.t 11)), some (10, true)⟩,⟨some 13, .op (.fieldAddr 1 (.t 3)), some (10, true)⟩,⟨some 14, .op (.load1 (.t 13)), some (10, true)⟩,⟨some 15, .call (.k (.func (.func 97) #[] #[])) [(.t 12), (.t 14)], some (10, true)⟩,⟨some 16, .op (.pick (.t 10) (.t 15) (.k (.bool false))), none⟩,⟨some 17, .op (.mv (.t 16)), none⟩,⟨some 18, .op (.fieldAddr 2 (.t 2)), some (17, true)⟩,⟨some 19, .op (.load1 (.t 18)), some (17, true)⟩,⟨some 20, .op (.lenSl (.t 19)), some (17, true)⟩,⟨some 21, .op (.fieldAddr 2 (.t 3)), some (17, true)⟩,⟨some 22, .op (.load1 (.t 21)), some (17, true)⟩,⟨some 23, .op (.lenSl (.t 22)), some (17, true)⟩,⟨some 24, .op (.bin .add (.t 20) (.t 23)), some (17, true)⟩,⟨some 25, .op (.bin .eql (.t 24) (.k (.int .i64 0))), some (17, true)⟩,⟨some 26, .op (.pick (.t 17) (.t 25) (.k (.bool false))), none⟩,⟨some 4, .op (.mv (.t 26)), none⟩]) .ret)), [(.t 4)]⟩
theorem r_scalar_same : resolveFn Tryd.prog 84 = some c_scalar_same := by kernel_rfl
def c_bytes_Equal : RFn :=
 ⟨10, (.seq (.ops [] [⟨some 4, .op (.mv (.k (.bool false))), none⟩]) (.seq (.ops [] [⟨some 5, .op (.mv (.t 0)), none⟩,⟨some 6, .op (.b2s (.t 5)), none⟩,⟨some 7, .op (.mv (.t 1)), none⟩,⟨some 8, .op (.b2s (.t 7)), none⟩,⟨some 9, .op (.bin .eql (.t 6) (.t 8)), none⟩,⟨some 4, .op (.mv (.t 9)), none⟩]) .ret)), [(.t 4)]⟩
theorem r_bytes_Equal : resolveFn Tryd.prog 97 = some c_bytes_Equal := by kernel_rfl
def c_bytes_TrimLeft : RFn :=
 ⟨36, (.seq (.ops [] [⟨some 4, .op (.mv (.k (.slice none 0 0))), none⟩]) (.seq (.seq (.ops [] [⟨some 7, .op (.mv (.t 0)), none⟩,⟨some 8, .op (.lenSl (.t 7)), none⟩,⟨some 9, .op (.bin .eql (.t 8) (.k (.int .i64 0))), none⟩]) (.cond (.t 9) (.seq (.ops [] [⟨some 4, .op (.mv (.k (.slice none 0 0))), none⟩]) .ret) .skip)) (.seq (.seq (.ops [] [⟨some 10, .op (.mv (.t 1)), none⟩,⟨some 11, .op (.bin .eql (.t 10) (.k (.string ⟨#[]⟩))), none⟩]) (.cond (.t 11) (.seq (.ops [] [⟨some 12, .op (.mv (.t 0)), none⟩,⟨some 4, .op (.mv (.t 12)), none⟩]) .ret) .skip)) (.seq (.seq (.ops [] [⟨some 13, .op (.mv (.t 1)), none⟩,⟨some 14, .op (.lenStr (.t 13)), none⟩,⟨some 15, .op (.bin .eql (.t 14) (.k (.int .i64 1))), none⟩,⟨some 16, .op (.mv (.t 15)), none⟩,⟨some 17, .op (.mv (.t 1)), some (16, true)⟩,⟨some 18, .op (.ixStr (.t 17) (.k (.int .i64 0))), some (16, true)⟩,⟨some 19, .op (.bin .lss (.t 18) (.k (.int .u8 128))), some (16, true)⟩,⟨some 20, .op (.pick (.t 16) (.t 19) (.k (.bool false))), none⟩]) (.cond (.t 20) (.seq (.ops [] [⟨some 21, .op (.mv (.t 0)), none⟩,⟨some 22, .op (.mv (.t 1)), none⟩,⟨some 23, .op (.ixStr (.t 22) (.k (.int .i64 0))), none⟩,⟨some 24, .call (.k (.func (.func 93) #[] #[])) [(.t 21), (.t 23)], none⟩,⟨some 4, .op (.mv (.t 24)), none⟩]) .ret) .skip)) (.seq (.seq (.ops [] [⟨some 26, .op (.mv (.t 1)), none⟩,⟨some 27, .call (.k (.func (.func 94) #[] #[])) [(.t 26)], none⟩,⟨some 25, .op (.mv (.t 27)), none⟩,⟨some 28, .op (.extract (.t 25) 0), none⟩,⟨some 29, .op (.extract (.t 25) 1), none⟩,
 ⟨some 5, .op (.new [(.bool false), (.bool false), (.bool false), (.bool false), (.bool false), (.bool false), (.bool false), (.bool false), (.bool false), (.bool false), (.bool false), (.bool false), (.bool false), (.bool false), (.bool false), (.bool false), (.bool false), (.bool false), (.bool false), (.bool false), (.bool false), (.bool false), (.bool false), (.bool false), (.bool false), (.bool false), (.bool false), (.bool false), (.bool false), (.bool false), (.bool false), (.bool false), (.bool false), (.bool false), (.bool false), (.bool false), (.bool false), (.bool false), (.bool false), (.bool false), (.bool false), (.bool false), (.bool false), (.bool false), (.bool false), (.bool false), (.bool false), (.bool false), (.bool false), (.bool false), (.bool false), (.bool false), (.bool false), (.bool false), (.bool false), (.bool false), (.bool false), (.bool false), (.bool false), (.bool false), (.bool false), (.bool false), (.bool false), (.bool false), (.bool false), (.bool false), (.bool false), (.bool false), (.bool false), (.bool false), (.bool false), (.bool false), (.bool false), (.bool false), (.bool false), (.bool false), (.bool false), (.bool false), (.bool false), (.bool false), (.bool false), (.bool false), (.bool false), (.bool false), (.bool false), (.bool false), (.bool false), (.bool false), (.bool false), (.bool false), (.bool false), (.bool false), (.bool false), (.bool false), (.bool false), (.bool false), (.bool false), (.bool false), (.bool false), (.bool false), (.bool false), (.bool false), (.bool false), (.bool false), (.bool false), (.bool false), (.bool false), (.bool false), (.bool false), (.bool false), (.bool false), (.bool false), (.bool false), (.bool false), (.bool false), (.bool false), (.bool false), (.bool false), (.bool false), (.bool false), (.bool false), (.bool false), (.bool false), (.bool false), (.bool false), (.bool false), (.bool false), (.bool false), (.bool false), (.bool false), (.bool false), (.bool false), (.bool false), (.bool false), (.bool false), (.bool false), (.bool false), (.bool false), (.bool false), (.bool false), (.bool false), (.bool false), (.bool false), (.bool false), (.bool false), (.bool false), (.bool false), (.bool false), (.bool false), (.bool false), (.bool false), (.bool false), (.bool false), (.bool false), (.bool false), (.bool false), (.bool false), (.bool false), (.bool false), (.bool false), (.bool false), (.bool false), (.bool false), (.bool false), (.bool false), (.bool false), (.bool false), (.bool false), (.bool false), (.bool false), (.bool false), (.bool false), (.bool false), (.bool false), (.bool false), (.bool false), (.bool false), (.bool false), (.bool false), (.bool false), (.bool false), (.bool false), (.bool false), (.bool false), (.bool false), (.bool false), (.bool false), (.bool false), (.bool false), (.bool false), (.bool false), (.bool false), (.bool false), (.bool false), (.bool false), (.bool false), (.bool false), (.bool false), (.bool false), (.bool false), (.bool false), (.bool false), (.bool false), (.bool false), (.bool false), (.bool false), (.bool false), (.bool false), (.bool false), (.bool false), (.bool false), (.bool false), (.bool false), (.bool false), (.bool false), (.bool false), (.bool false), (.bool false), (.bool false), (.bool false), (.bool false), (.bool false), (.bool false), (.bool false), (.bool false), (.bool false), (.bool false), (.bool false), (.bool false), (.bool false), (.bool false), (.bool false), (.bool false), (.bool false), (.bool false), (.bool false), (.bool false), (.bool false), (.bool false), (.bool false), (.bool false), (.bool false), (.bool false), (.bool false), (.bool false), (.bool false), (.bool false), (.bool false), (.bool false), (.bool false), (.bool false), (.bool false), (.bool false), (.bool false), (.bool false), (.bool false)]), none⟩,
 ⟨none, .op (.store 256 (.t 5) (.t 28)), none⟩,⟨some 6, .op (.mv (.t 29)), none⟩]) (.seq (.ops [] [⟨some 30, .op (.mv (.t 6)), none⟩]) (.cond (.t 30) (.seq (.ops [] [⟨some 31, .op (.mv (.t 0)), none⟩,⟨some 32, .call (.k (.func (.func 95) #[] #[])) [(.t 31), (.t 5)], none⟩,⟨some 4, .op (.mv (.t 32)), none⟩]) .ret) .skip))) (.seq (.ops [] [⟨some 33, .op (.mv (.t 0)), none⟩,⟨some 34, .op (.mv (.t 1)), none⟩,⟨some 35, .call (.k (.func (.func 96) #[] #[])) [(.t 33), (.t 34)], none⟩,⟨some 4, .op (.mv (.t 35)), none⟩]) .ret)))))), [(.t 4)]⟩
theorem r_bytes_TrimLeft : resolveFn Tryd.prog 71 = some c_bytes_TrimLeft := by kernel_rfl
def c_bytes_trimLeftByte : RFn :=
 ⟨21, (.seq (.ops [] [⟨some 4, .op (.mv (.k (.slice none 0 0))), none⟩]) (.seq (.block 0 (.loop (.seq (.seq (.ops [] [⟨some 5, .op (.mv (.t 0)), none⟩,⟨some 6, .op (.lenSl (.t 5)), none⟩,⟨some 7, .op (.bin .gtr (.t 6) (.k (.int .i64 0))), none⟩,⟨some 8, .op (.mv (.t 7)), none⟩,⟨some 9, .op (.mv (.t 0)), some (8, true)⟩,⟨some 10, .op (.ixAddr 1 (.t 9) (.k (.int .i64 0))), some (8, true)⟩,⟨some 11, .op (.load1 (.t 10)), some (8, true)⟩,⟨some 12, .op (.mv (.t 1)), some (8, true)⟩,⟨some 13, .op (.bin .eql (.t 11) (.t 12)), some (8, true)⟩,⟨some 14, .op (.pick (.t 8) (.t 13) (.k (.bool false))), none⟩]) (.cond (.t 14) .skip (.exit 0))) (.block 1 (.ops [] [⟨some 15, .op (.mv (.t 0)), none⟩,⟨some 16, .op (.sl 1 (.t 15) (some (.k (.int .i64 1))) none none), none⟩,⟨some 0, .op (.mv (.t 16)), none⟩]))))) (.seq (.seq (.ops [] [⟨some 17, .op (.mv (.t 0)), none⟩,⟨some 18, .op (.lenSl (.t 17)), none⟩,⟨some 19, .op (.bin .eql (.t 18) (.k (.int .i64 0))), none⟩]) (.cond (.t 19) (.seq (.ops [] [⟨some 4, .op (.mv (.k (.slice none 0 0))), none⟩]) .ret) .skip)) (.seq (.ops [] [⟨some 20, .op (.mv (.t 0)), none⟩,⟨some 4, .op (.mv (.t 20)), none⟩]) .ret)))), [(.t 4)]⟩
theorem r_bytes_trimLeftByte : resolveFn Tryd.prog 93 = some c_bytes_trimLeftByte := by kernel_rfl
def c_bytes_Clone : RFn :=
 ⟨8, (.seq (.ops [] [⟨some 2, .op (.mv (.k (.slice none 0 0))), none⟩]) (.seq (.seq (.ops [] [⟨some 3, .op (.mv (.t 0)), none⟩,⟨some 4, .op (.eqN .sl false (.t 3)), none⟩]) (.cond (.t 4) (.seq (.ops [] [⟨some 2, .op (.mv (.k (.slice none 0 0))), none⟩]) .ret) .skip)) (.seq (.ops [] [⟨some 5, .op (.mkSl 0 [] []), none⟩,⟨some 6, .op (.mv (.t 0)), none⟩,⟨some 7, .op (.append 1 1 (.t 5) (.t 6)), none⟩,⟨some 2, .op (.mv (.t 7)), none⟩]) .ret))), [(.t 2)]⟩
theorem r_bytes_Clone : resolveFn Tryd.prog 72 = some c_bytes_Clone := by kernel_rfl
def c_lanyardref05_Int : RFn :=
 ⟨6, (.seq (.ops [] [⟨some 2, .op (.new [(.int .i64 0), (.slice none 0 0), (.slice none 0 0)]), none⟩]) (.seq (.ops [] [⟨some 3, .op (.mv (.t 0)), none⟩,⟨some 4, .call (.k (.func (.func 50) #[] #[])) [(.t 3)], none⟩,⟨some 5, .call (.k (.func (.func 49) #[] #[])) [(.t 4)], none⟩,⟨none, .op (.store 3 (.t 2) (.t 5)), none⟩]) .ret)), [(.cN 2 3)]⟩
theorem r_lanyardref05_Int : resolveFn Tryd.prog 26 = some c_lanyardref05_Int := by kernel_rfl
def c_lanyardref05_Big : RFn :=
 ⟨20, (.seq (.ops [] [⟨some 2, .op (.new [(.int .i64 0), (.slice none 0 0), (.slice none 0 0)]), none⟩]) (.seq (.ops [] [⟨some 4, .op (.mv (.t 0)), none⟩,⟨some 5, .call (.k (.func (.func 77) #[] #[])) [(.t 4)], none⟩,⟨some 3, .op (.mv (.t 5)), none⟩]) (.seq (.seq (.ops [] [⟨some 6, .op (.mv (.t 3)), none⟩,⟨some 7, .op (.lenSl (.t 6)), none⟩,⟨some 8, .op (.bin .eql (.t 7) (.k (.int .i64 0))), none⟩,⟨some 9, .op (.mv (.t 8)), none⟩,⟨some 10, .op (.mv (.t 3)), some (9, false)⟩,⟨some 11, .op (.ixAddr 1 (.t 10) (.k (.int .i64 0))), some (9, false)⟩,⟨some 12, .op (.load1 (.t 11)), some (9, false)⟩,⟨some 13, .op (.bin .geq (.t 12) (.k (.int .u8 128))), some (9, false)⟩,⟨some 14, .op (.pick (.t 9) (.k (.bool true)) (.t 13)), none⟩]) (.cond (.t 14) (.ops [] [⟨some 15, .op (.mkSl 1 [.int .u8 0] [(0, (1, (.k (.int .u8 0))))]), none⟩,⟨some 16, .op (.mv (.t 3)), none⟩,⟨some 17, .op (.append 1 1 (.t 15) (.t 16)), none⟩,⟨some 3, .op (.mv (.t 17)), none⟩]) .skip)) (.seq (.ops [] [⟨some 18, .op (.mv (.t 3)), none⟩,⟨some 19, .op (.build [(.int .i64 0), (.slice none 0 0), (.slice none 0 0)] [(0, (1, (.k (.int .i64 2)))), (1, (1, (.t 18)))]), none⟩,⟨none, .op (.store 3 (.t 2) (.t 19)), none⟩]) .ret)))), [(.cN 2 3)]⟩
theorem r_lanyardref05_Big : resolveFn Tryd.prog 49 = some c_lanyardref05_Big := by kernel_rfl
def c_lanyardref05_Bare : RFn :=
 ⟨22, (.seq (.ops [] [⟨some 2, .op (.mv (.k (.slice none 0 0))), none⟩]) (.seq (.ops [] [⟨some 3, .op (.mv (.k (.int .i64 0))), none⟩]) (.seq (.block 0 (.loop (.seq (.seq (.ops [] [⟨some 4, .op (.mv (.t 3)), none⟩,⟨some 5, .op (.mv (.t 0)), none⟩,⟨some 6, .op (.lenSl (.t 5)), none⟩,⟨some 7, .op (.bin .lss (.t 4) (.t 6)), none⟩,⟨some 8, .op (.mv (.t 7)), none⟩,⟨some 9, .op (.mv (.t 0)), some (8, true)⟩,⟨some 10, .op (.mv (.t 3)), some (8, true)⟩,⟨some 11, .op (.ixAddr 1 (.t 9) (.t 10)), some (8, true)⟩,⟨some 12, .op (.load1 (.t 11)), some (8, true)⟩,⟨some 13, .op (.bin .eql (.t 12) (.k (.int .u8 0))), some (8, true)⟩,⟨some 14, .op (.pick (.t 8) (.t 13) (.k (.bool false))), none⟩]) (.cond (.t 14) .skip (.exit 0))) (.block 1 (.ops [] [⟨some 15, .op (.mv (.t 3)), none⟩,⟨some 16, .op (.bin .add (.t 15) (.k (.int .i64 1))), none⟩,⟨some 3, .op (.mv (.t 16)), none⟩]))))) (.seq (.ops [] [⟨some 17, .op (.mkSl 0 [] []), none⟩,⟨some 18, .op (.mv (.t 0)), none⟩,⟨some 19, .op (.mv (.t 3)), none⟩,⟨some 20, .op (.sl 1 (.t 18) (some (.t 19)) none none), none⟩,⟨some 21, .op (.append 1 1 (.t 17) (.t 20)), none⟩,⟨some 2, .op (.mv (.t 21)), none⟩]) .ret)))), [(.t 2)]⟩
theorem r_lanyardref05_Bare : resolveFn Tryd.prog 77 = some c_lanyardref05_Bare := by kernel_rfl
def c_lanyardref05_Uint : RFn :=
 ⟨22, (.seq (.ops [] [⟨some 1, .op (.box (.t 0)), none⟩,⟨some 2, .op (.mv (.k (.int .u64 0))), none⟩,⟨some 3, .op (.mv (.k (.int .i64 0))), none⟩]) (.seq (.ops [] [⟨some 7, .op (.fieldAddr 1 (.t 1)), none⟩,⟨some 8, .op (.load1 (.t 7)), none⟩,⟨some 9, .call (.k (.func (.func 63) #[] #[])) [(.t 8)], none⟩,⟨some 6, .op (.mv (.t 9)), none⟩,⟨some 10, .op (.extract (.t 6) 0), none⟩,⟨some 11, .op (.extract (.t 6) 1), none⟩,⟨some 4, .op (.mv (.t 10)), none⟩,⟨some 5, .op (.mv (.t 11)), none⟩]) (.seq (.seq (.ops [⟨some 12, .op (.mv (.t 5)), none⟩,⟨some 13, .op (.un .not (.t 12)), none⟩,⟨some 14, .op (.mv (.t 13)), none⟩,⟨some 15, .op (.loadN 3 (.t 1)), some (14, false)⟩,⟨some 16, .op (.mv (.t 4)), some (14, false)⟩,⟨some 17, .call (.k (.func (.func 26) #[] #[])) [(.t 16)], some (14, false)⟩] [⟨some 18, .call (.k (.func (.func 64) #[] #[])) [(.t 15), (.t 17)], some (14, false)⟩,⟨some 19, .op (.un .not (.t 18)), some (14, false)⟩,⟨some 20, .op (.pick (.t 14) (.k (.bool true)) (.t 19)), none⟩]) (.cond (.t 20) (.seq (.ops [] [⟨some 2, .op (.mv (.k (.int .u64 0))), none⟩,⟨some 3, .op (.mv (.k (.int .i64 2))), none⟩]) .ret) .skip)) (.seq (.ops [] [⟨some 21, .op (.mv (.t 4)), none⟩,⟨some 2, .op (.mv (.t 21)), none⟩,⟨some 3, .op (.mv (.k (.int .i64 0))), none⟩]) .ret)))), [(.t 2), (.t 3)]⟩
theorem r_lanyardref05_Uint : resolveFn Tryd.prog 32 = some c_lanyardref05_Uint := by kernel_rfl
def c_scalar_Bits : RFn :=
 ⟨46, (.seq (.ops [] [⟨some 4, .op (.new [(.int .i64 0), (.slice none 0 0), (.slice none 0 0)]), none⟩,⟨some 5, .op (.mv (.k (.int .i64 0))), none⟩]) (.seq (.ops [] [⟨some 7, .op (.mv (.t 0)), none⟩,⟨some 8, .op (.lenSl (.t 7)), none⟩,⟨some 9, .op (.bin .mul (.k (.int .i64 8)) (.t 8)), none⟩,⟨some 10, .op (.mv (.t 1)), none⟩,⟨some 11, .op (.bin .sub (.t 9) (.t 10)), none⟩,⟨some 6, .op (.mv (.t 11)), none⟩]) (.seq (.seq (.ops [⟨some 12, .op (.mv (.t 1)), none⟩,⟨some 13, .op (.bin .lss (.t 12) (.k (.int .i64 0))), none⟩,⟨some 14, .op (.mv (.t 13)), none⟩,⟨some 15, .op (.mv (.t 6)), some (14, false)⟩,⟨some 16, .op (.bin .lss (.t 15) (.k (.int .i64 0))), some (14, false)⟩,⟨some 17, .op (.pick (.t 14) (.k (.bool true)) (.t 16)), none⟩,⟨some 18, .op (.mv (.t 17)), none⟩,⟨some 19, .op (.mv (.t 6)), some (18, false)⟩,⟨some 20, .op (.bin .gtr (.t 19) (.k (.int .i64 7))), some (18, false)⟩,⟨some 21, .op (.pick (.t 18) (.k (.bool true)) (.t 20)), none⟩,⟨some 22, .op (.mv (.t 21)), none⟩,⟨some 23, .op (.mv (.t 6)), some (22, false)⟩,⟨some 24, .op (.bin .gtr (.t 23) (.k (.int .i64 0))), some (22, false)⟩,⟨some 25, .op (.mv (.t 24)), some (22, false)⟩,⟨some 26, .op (.mv (.t 0)), some (25, true)⟩,⟨some 27, .op (.mv (.t 0)), some (25, true)⟩,⟨some 28, .op (.lenSl (.t 27)), some (25, true)⟩,⟨some 29, .op (.bin .sub (.t 28) (.k (.int .i64 1))), some (25, true)⟩,⟨some 30, .op (.ixAddr 1 (.t 26) (.t 29)), some (25, true)⟩,⟨some 31, .op (.load1 (.t 30)), some (25, true)⟩,⟨some 32, .op (.mv (.t 6)), some (25, true)⟩,
 ⟨some 33, .op (.bin .shl (.k (.int .u8 1)) (.t 32)), some (25, true)⟩,⟨some 34, .op (.bin .sub (.t 33) (.k (.int .u8 1))), some (25, true)⟩] [⟨some 35, .op (.bin .and (.t 31) (.t 34)), some (25, true)⟩,⟨some 36, .op (.bin .neq (.t 35) (.k (.int .u8 0))), some (25, true)⟩,⟨some 37, .op (.pick (.t 25) (.t 36) (.k (.bool false))), some (22, false)⟩,⟨some 38, .op (.pick (.t 22) (.k (.bool true)) (.t 37)), none⟩]) (.cond (.t 38) (.seq (.ops [] [⟨some 39, .op (.build [(.int .i64 0), (.slice none 0 0), (.slice none 0 0)] []), none⟩,⟨none, .op (.store 3 (.t 4) (.t 39)), none⟩,⟨some 5, .op (.mv (.k (.int .i64 1))), none⟩]) .ret) .skip)) (.seq (.ops [] [⟨some 40, .op (.mv (.t 6)), none⟩,⟨some 41, .op (.toInt .u8 (.t 40)), none⟩,⟨some 42, .op (.mkSl 1 [.int .u8 0] [(0, (1, (.t 41)))]), none⟩,⟨some 43, .op (.mv (.t 0)), none⟩,⟨some 44, .op (.append 1 1 (.t 42) (.t 43)), none⟩,⟨some 45, .op (.build [(.int .i64 0), (.slice none 0 0), (.slice none 0 0)] [(0, (1, (.k (.int .i64 3)))), (1, (1, (.t 44)))]), none⟩,⟨none, .op (.store 3 (.t 4) (.t 45)), none⟩,⟨some 5, .op (.mv (.k (.int .i64 0))), none⟩]) .ret)))), [(.cN 4 3), (.t 5)]⟩
theorem r_scalar_Bits : resolveFn Tryd.prog 22 = some c_scalar_Bits := by kernel_rfl
def c_lanyardref05_Bits : RFn :=
 ⟨51, (.seq (.ops [] [⟨some 4, .op (.new [(.int .i64 0), (.slice none 0 0), (.slice none 0 0)]), none⟩,⟨some 5, .op (.mv (.k (.int .i64 0))), none⟩]) (.seq (.seq (.ops [] [⟨some 7, .op (.mv (.t 1)), none⟩,⟨some 8, .op (.bin .lss (.t 7) (.k (.int .i64 0))), none⟩,⟨some 9, .op (.mv (.t 8)), none⟩,⟨some 10, .op (.mv (.t 1)), some (9, false)⟩,⟨some 11, .op (.mv (.t 0)), some (9, false)⟩,⟨some 12, .op (.lenSl (.t 11)), some (9, false)⟩,⟨some 13, .op (.bin .mul (.k (.int .i64 8)) (.t 12)), some (9, false)⟩,⟨some 14, .op (.bin .gtr (.t 10) (.t 13)), some (9, false)⟩,⟨some 15, .op (.pick (.t 9) (.k (.bool true)) (.t 14)), none⟩,⟨some 16, .op (.mv (.t 15)), none⟩,⟨some 17, .op (.mv (.t 0)), some (16, false)⟩,⟨some 18, .op (.lenSl (.t 17)), some (16, false)⟩,⟨some 19, .op (.mv (.t 1)), some (16, false)⟩,⟨some 20, .op (.bin .add (.t 19) (.k (.int .i64 7))), some (16, false)⟩,⟨some 21, .op (.bin .quo (.t 20) (.k (.int .i64 8))), some (16, false)⟩,⟨some 22, .op (.bin .neq (.t 18) (.t 21)), some (16, false)⟩,⟨some 23, .op (.pick (.t 16) (.k (.bool true)) (.t 22)), none⟩]) (.cond (.t 23) (.seq (.ops [] [⟨some 24, .op (.build [(.int .i64 0), (.slice none 0 0), (.slice none 0 0)] []), none⟩,⟨none, .op (.store 3 (.t 4) (.t 24)), none⟩,⟨some 5, .op (.mv (.k (.int .i64 1))), none⟩]) .ret) .skip)) (.seq (.ops [] [⟨some 25, .op (.mv (.t 0)), none⟩,⟨some 26, .op (.lenSl (.t 25)), none⟩,⟨some 27, .op (.bin .mul (.k (.int .i64 8)) (.t 26)), none⟩,⟨some 28, .op (.mv (.t 1)), none⟩,⟨some 29, .op (.bin .sub (.t 27) (.t 28)), none⟩,
 ⟨some 6, .op (.mv (.t 29)), none⟩]) (.seq (.seq (.ops [⟨some 30, .op (.mv (.t 6)), none⟩,⟨some 31, .op (.bin .gtr (.t 30) (.k (.int .i64 0))), none⟩,⟨some 32, .op (.mv (.t 31)), none⟩,⟨some 33, .op (.mv (.t 0)), some (32, true)⟩,⟨some 34, .op (.mv (.t 0)), some (32, true)⟩,⟨some 35, .op (.lenSl (.t 34)), some (32, true)⟩,⟨some 36, .op (.bin .sub (.t 35) (.k (.int .i64 1))), some (32, true)⟩,⟨some 37, .op (.ixAddr 1 (.t 33) (.t 36)), some (32, true)⟩,⟨some 38, .op (.load1 (.t 37)), some (32, true)⟩,⟨some 39, .op (.mv (.t 6)), some (32, true)⟩,⟨some 40, .op (.bin .shl (.k (.int .u8 1)) (.t 39)), some (32, true)⟩] [⟨some 41, .op (.bin .rem (.t 38) (.t 40)), some (32, true)⟩,⟨some 42, .op (.bin .neq (.t 41) (.k (.int .u8 0))), some (32, true)⟩,⟨some 43, .op (.pick (.t 32) (.t 42) (.k (.bool false))), none⟩]) (.cond (.t 43) (.seq (.ops [] [⟨some 44, .op (.build [(.int .i64 0), (.slice none 0 0), (.slice none 0 0)] []), none⟩,⟨none, .op (.store 3 (.t 4) (.t 44)), none⟩,⟨some 5, .op (.mv (.k (.int .i64 1))), none⟩]) .ret) .skip)) (.seq (.ops [] [⟨some 45, .op (.mv (.t 6)), none⟩,⟨some 46, .op (.toInt .u8 (.t 45)), none⟩,⟨some 47, .op (.mkSl 1 [.int .u8 0] [(0, (1, (.t 46)))]), none⟩,⟨some 48, .op (.mv (.t 0)), none⟩,⟨some 49, .op (.append 1 1 (.t 47) (.t 48)), none⟩,⟨some 50, .op (.build [(.int .i64 0), (.slice none 0 0), (.slice none 0 0)] [(0, (1, (.k (.int .i64 3)))), (1, (1, (.t 49)))]), none⟩,⟨none, .op (.store 3 (.t 4) (.t 50)), none⟩,⟨some 5, .op (.mv (.k (.int .i64 0))), none⟩])
 .ret))))), [(.cN 4 3), (.t 5)]⟩
theorem r_lanyardref05_Bits : resolveFn Tryd.prog 24 = some c_lanyardref05_Bits := by kernel_rfl
def c_scalar_Of : RFn :=
 ⟨37, (.seq (.ops [] [⟨some 1, .op (.box (.t 0)), none⟩,⟨some 2, .op (.mv (.k (.slice none 0 0))), none⟩,⟨some 3, .op (.mv (.k (.int .i64 0))), none⟩,⟨some 4, .op (.mv (.k (.int .i64 0))), none⟩]) (.seq (.seq (.ops [] [⟨some 8, .op (.fieldAddr 1 (.t 1)), none⟩,⟨some 9, .op (.load1 (.t 8)), none⟩,⟨some 10, .op (.lenSl (.t 9)), none⟩,⟨some 11, .op (.bin .eql (.t 10) (.k (.int .i64 0))), none⟩]) (.cond (.t 11) (.seq (.ops [] [⟨some 2, .op (.mv (.k (.slice none 0 0))), none⟩,⟨some 3, .op (.mv (.k (.int .i64 0))), none⟩,⟨some 4, .op (.mv (.k (.int .i64 2))), none⟩]) .ret) .skip)) (.seq (.ops [] [⟨some 12, .op (.fieldAddr 1 (.t 1)), none⟩,⟨some 13, .op (.load1 (.t 12)), none⟩,⟨some 14, .op (.sl 1 (.t 13) (some (.k (.int .i64 1))) none none), none⟩,⟨some 15, .call (.k (.func (.func 72) #[] #[])) [(.t 14)], none⟩,⟨some 5, .op (.new [(.slice none 0 0)]), none⟩,⟨none, .op (.store 1 (.t 5) (.t 15)), none⟩]) (.seq (.ops [⟨some 16, .op (.load1 (.t 5)), none⟩,⟨some 17, .op (.lenSl (.t 16)), none⟩,⟨some 18, .op (.bin .mul (.k (.int .i64 8)) (.t 17)), none⟩,⟨some 19, .op (.fieldAddr 1 (.t 1)), none⟩,⟨some 20, .op (.load1 (.t 19)), none⟩,⟨some 21, .op (.ixAddr 1 (.t 20) (.k (.int .i64 0))), none⟩,⟨some 22, .op (.load1 (.t 21)), none⟩,⟨some 23, .op (.toInt .i64 (.t 22)), none⟩,⟨some 24, .op (.bin .sub (.t 18) (.t 23)), none⟩,⟨some 6, .op (.new [(.int .i64 0)]), none⟩] [⟨none, .op (.store 1 (.t 6) (.t 24)), none⟩]) (.seq (.ops [] [⟨some 26, .op (.load1 (.t 5)), none⟩,⟨some 27, .op (.loadN 3 (.t 1)), none⟩,
 ⟨some 28, .op (.func 88 [(.t 5), (.t 6)]), none⟩,⟨some 29, .call (.k (.func (.func 87) #[] #[])) [(.t 26), (.k (.bool true)), (.t 27), (.t 28)], none⟩,⟨some 25, .op (.mv (.t 29)), none⟩,⟨some 30, .op (.extract (.t 25) 0), none⟩,⟨some 31, .op (.extract (.t 25) 1), none⟩,⟨none, .op (.store 1 (.t 5) (.t 30)), none⟩,⟨some 7, .op (.mv (.t 31)), none⟩]) (.seq (.seq (.ops [] [⟨some 32, .op (.mv (.t 7)), none⟩,⟨some 33, .op (.bin .neq (.t 32) (.k (.int .i64 0))), none⟩]) (.cond (.t 33) (.seq (.ops [] [⟨some 34, .op (.mv (.t 7)), none⟩,⟨some 2, .op (.mv (.k (.slice none 0 0))), none⟩,⟨some 3, .op (.mv (.k (.int .i64 0))), none⟩,⟨some 4, .op (.mv (.t 34)), none⟩]) .ret) .skip)) (.seq (.ops [⟨some 35, .op (.load1 (.t 5)), none⟩,⟨some 36, .op (.load1 (.t 6)), none⟩,⟨some 2, .op (.mv (.t 35)), none⟩] [⟨some 3, .op (.mv (.t 36)), none⟩,⟨some 4, .op (.mv (.k (.int .i64 0))), none⟩]) .ret))))))), [(.t 2), (.t 3), (.t 4)]⟩
theorem r_scalar_Of : resolveFn Tryd.prog 61 = some c_scalar_Of := by kernel_rfl
def c_lanyardref05_Of : RFn :=
 ⟨50, (.seq (.ops [] [⟨some 1, .op (.box (.t 0)), none⟩,⟨some 2, .op (.mv (.k (.slice none 0 0))), none⟩,⟨some 3, .op (.mv (.k (.int .i64 0))), none⟩,⟨some 4, .op (.mv (.k (.int .i64 0))), none⟩]) (.seq (.seq (.ops [] [⟨some 9, .op (.fieldAddr 1 (.t 1)), none⟩,⟨some 10, .op (.load1 (.t 9)), none⟩,⟨some 11, .op (.lenSl (.t 10)), none⟩,⟨some 12, .op (.bin .eql (.t 11) (.k (.int .i64 0))), none⟩,⟨some 13, .op (.mv (.t 12)), none⟩,⟨some 14, .op (.fieldAddr 1 (.t 1)), some (13, false)⟩,⟨some 15, .op (.load1 (.t 14)), some (13, false)⟩,⟨some 16, .op (.ixAddr 1 (.t 15) (.k (.int .i64 0))), some (13, false)⟩,⟨some 17, .op (.load1 (.t 16)), some (13, false)⟩,⟨some 18, .op (.bin .gtr (.t 17) (.k (.int .u8 7))), some (13, false)⟩,⟨some 19, .op (.pick (.t 13) (.k (.bool true)) (.t 18)), none⟩]) (.cond (.t 19) (.seq (.ops [] [⟨some 2, .op (.mv (.k (.slice none 0 0))), none⟩,⟨some 3, .op (.mv (.k (.int .i64 0))), none⟩,⟨some 4, .op (.mv (.k (.int .i64 2))), none⟩]) .ret) .skip)) (.seq (.ops [] [⟨some 20, .op (.mkSl 0 [] []), none⟩,⟨some 21, .op (.fieldAddr 1 (.t 1)), none⟩,⟨some 22, .op (.load1 (.t 21)), none⟩,⟨some 23, .op (.sl 1 (.t 22) (some (.k (.int .i64 1))) none none), none⟩,⟨some 24, .op (.append 1 1 (.t 20) (.t 23)), none⟩,⟨some 5, .op (.mv (.t 24)), none⟩]) (.seq (.ops [] [⟨some 25, .op (.mv (.t 5)), none⟩,⟨some 26, .op (.lenSl (.t 25)), none⟩,⟨some 27, .op (.bin .mul (.k (.int .i64 8)) (.t 26)), none⟩,⟨some 28, .op (.fieldAddr 1 (.t 1)), none⟩,⟨some 29, .op (.load1 (.t 28)), none⟩,
 ⟨some 30, .op (.ixAddr 1 (.t 29) (.k (.int .i64 0))), none⟩,⟨some 31, .op (.load1 (.t 30)), none⟩,⟨some 32, .op (.toInt .i64 (.t 31)), none⟩,⟨some 33, .op (.bin .sub (.t 27) (.t 32)), none⟩,⟨some 6, .op (.mv (.t 33)), none⟩]) (.seq (.ops [] [⟨some 35, .op (.mv (.t 5)), none⟩,⟨some 36, .op (.mv (.t 6)), none⟩,⟨some 37, .call (.k (.func (.func 24) #[] #[])) [(.t 35), (.t 36)], none⟩,⟨some 34, .op (.mv (.t 37)), none⟩,⟨some 38, .op (.extract (.t 34) 0), none⟩,⟨some 39, .op (.extract (.t 34) 1), none⟩,⟨some 7, .op (.new [(.int .i64 0), (.slice none 0 0), (.slice none 0 0)]), none⟩,⟨none, .op (.store 3 (.t 7) (.t 38)), none⟩,⟨some 8, .op (.mv (.t 39)), none⟩]) (.seq (.seq (.ops [] [⟨some 40, .op (.mv (.t 8)), none⟩,⟨some 41, .op (.bin .neq (.t 40) (.k (.int .i64 0))), none⟩,⟨some 42, .op (.mv (.t 41)), none⟩,⟨some 43, .op (.loadN 3 (.t 7)), some (42, false)⟩,⟨some 44, .op (.loadN 3 (.t 1)), some (42, false)⟩,⟨some 45, .call (.k (.func (.func 64) #[] #[])) [(.t 43), (.t 44)], some (42, false)⟩,⟨some 46, .op (.un .not (.t 45)), some (42, false)⟩,⟨some 47, .op (.pick (.t 42) (.k (.bool true)) (.t 46)), none⟩]) (.cond (.t 47) (.seq (.ops [] [⟨some 2, .op (.mv (.k (.slice none 0 0))), none⟩,⟨some 3, .op (.mv (.k (.int .i64 0))), none⟩,⟨some 4, .op (.mv (.k (.int .i64 2))), none⟩]) .ret) .skip)) (.seq (.ops [] [⟨some 48, .op (.mv (.t 5)), none⟩,⟨some 49, .op (.mv (.t 6)), none⟩,⟨some 2, .op (.mv (.t 48)), none⟩,⟨some 3, .op (.mv (.t 49)), none⟩,⟨some 4, .op (.mv (.k (.int .i64 0))), none⟩])
 .ret))))))), [(.t 2), (.t 3), (.t 4)]⟩
theorem r_lanyardref05_Of : resolveFn Tryd.prog 34 = some c_lanyardref05_Of := by kernel_rfl
def c_scalar_True : RFn :=
 ⟨22, (.seq (.ops [] [⟨some 1, .op (.box (.t 0)), none⟩,⟨some 2, .op (.mv (.k (.bool false))), none⟩,⟨some 3, .op (.mv (.k (.int .i64 0))), none⟩]) (.seq (.ops [] [⟨some 5, .op (.fieldAddr 1 (.t 1)), none⟩,⟨some 6, .op (.load1 (.t 5)), none⟩,⟨some 7, .op (.lenSl (.t 6)), none⟩,⟨some 8, .op (.bin .gtr (.t 7) (.k (.int .i64 0))), none⟩,⟨some 9, .op (.mv (.t 8)), none⟩,⟨some 10, .op (.fieldAddr 1 (.t 1)), some (9, true)⟩,⟨some 11, .op (.load1 (.t 10)), some (9, true)⟩,⟨some 12, .op (.ixAddr 1 (.t 11) (.k (.int .i64 0))), some (9, true)⟩,⟨some 13, .op (.load1 (.t 12)), some (9, true)⟩,⟨some 14, .op (.bin .neq (.t 13) (.k (.int .u8 0))), some (9, true)⟩,⟨some 15, .op (.pick (.t 9) (.t 14) (.k (.bool false))), none⟩,⟨some 4, .op (.new [(.bool false)]), none⟩,⟨none, .op (.store 1 (.t 4) (.t 15)), none⟩]) (.seq (.ops [] [⟨some 16, .op (.load1 (.t 4)), none⟩,⟨some 17, .op (.loadN 3 (.t 1)), none⟩,⟨some 18, .op (.func 86 [(.t 4)]), none⟩,⟨some 19, .call (.k (.func (.func 85) #[] #[])) [(.t 16), (.k (.bool true)), (.t 17), (.t 18)], none⟩,⟨some 20, .op (.extract (.t 19) 0), none⟩,⟨some 21, .op (.extract (.t 19) 1), none⟩,⟨some 2, .op (.mv (.t 20)), none⟩,⟨some 3, .op (.mv (.t 21)), none⟩]) .ret))), [(.t 2), (.t 3)]⟩
theorem r_scalar_True : resolveFn Tryd.prog 60 = some c_scalar_True := by kernel_rfl
def c_lanyardref05_True : RFn :=
 ⟨10, (.seq (.ops [] [⟨some 1, .op (.box (.t 0)), none⟩,⟨some 2, .op (.mv (.k (.bool false))), none⟩,⟨some 3, .op (.mv (.k (.int .i64 0))), none⟩]) (.seq (.seq (.ops [⟨some 4, .op (.loadN 3 (.t 1)), none⟩,⟨some 5, .call (.k (.func (.func 25) #[] #[])) [(.k (.bool true))], none⟩] [⟨some 6, .call (.k (.func (.func 64) #[] #[])) [(.t 4), (.t 5)], none⟩]) (.cond (.t 6) (.seq (.ops [] [⟨some 2, .op (.mv (.k (.bool true))), none⟩,⟨some 3, .op (.mv (.k (.int .i64 0))), none⟩]) .ret) .skip)) (.seq (.seq (.ops [⟨some 7, .op (.loadN 3 (.t 1)), none⟩,⟨some 8, .call (.k (.func (.func 25) #[] #[])) [(.k (.bool false))], none⟩] [⟨some 9, .call (.k (.func (.func 64) #[] #[])) [(.t 7), (.t 8)], none⟩]) (.cond (.t 9) (.seq (.ops [] [⟨some 2, .op (.mv (.k (.bool false))), none⟩,⟨some 3, .op (.mv (.k (.int .i64 0))), none⟩]) .ret) .skip)) (.seq (.ops [] [⟨some 2, .op (.mv (.k (.bool false))), none⟩,⟨some 3, .op (.mv (.k (.int .i64 2))), none⟩]) .ret)))), [(.t 2), (.t 3)]⟩
theorem r_lanyardref05_True : resolveFn Tryd.prog 33 = some c_lanyardref05_True := by kernel_rfl
def c_scalar_Bool : RFn :=
 ⟨8, (.seq (.ops [] [⟨some 2, .op (.new [(.int .i64 0), (.slice none 0 0), (.slice none 0 0)]), none⟩]) (.seq (.seq (.ops [] [⟨some 3, .op (.mv (.t 0)), none⟩]) (.cond (.t 3) (.seq (.ops [] [⟨some 4, .op (.mkSl 1 [.int .u8 0] [(0, (1, (.k (.int .u8 255))))]), none⟩,⟨some 5, .op (.build [(.int .i64 0), (.slice none 0 0), (.slice none 0 0)] [(0, (1, (.k (.int .i64 1)))), (1, (1, (.t 4)))]), none⟩,⟨none, .op (.store 3 (.t 2) (.t 5)), none⟩]) .ret) .skip)) (.seq (.ops [] [⟨some 6, .op (.mkSl 1 [.int .u8 0] [(0, (1, (.k (.int .u8 0))))]), none⟩,⟨some 7, .op (.build [(.int .i64 0), (.slice none 0 0), (.slice none 0 0)] [(0, (1, (.k (.int .i64 1)))), (1, (1, (.t 6)))]), none⟩,⟨none, .op (.store 3 (.t 2) (.t 7)), none⟩]) .ret))), [(.cN 2 3)]⟩
theorem r_scalar_Bool : resolveFn Tryd.prog 20 = some c_scalar_Bool := by kernel_rfl
def c_lanyardref05_Bool : RFn :=
 ⟨8, (.seq (.ops [] [⟨some 2, .op (.new [(.int .i64 0), (.slice none 0 0), (.slice none 0 0)]), none⟩]) (.seq (.seq (.ops [] [⟨some 3, .op (.mv (.t 0)), none⟩]) (.cond (.t 3) (.seq (.ops [] [⟨some 4, .op (.mkSl 1 [.int .u8 0] [(0, (1, (.k (.int .u8 255))))]), none⟩,⟨some 5, .op (.build [(.int .i64 0), (.slice none 0 0), (.slice none 0 0)] [(0, (1, (.k (.int .i64 1)))), (1, (1, (.t 4)))]), none⟩,⟨none, .op (.store 3 (.t 2) (.t 5)), none⟩]) .ret) .skip)) (.seq (.ops [] [⟨some 6, .op (.mkSl 1 [.int .u8 0] [(0, (1, (.k (.int .u8 0))))]), none⟩,⟨some 7, .op (.build [(.int .i64 0), (.slice none 0 0), (.slice none 0 0)] [(0, (1, (.k (.int .i64 1)))), (1, (1, (.t 6)))]), none⟩,⟨none, .op (.store 3 (.t 2) (.t 7)), none⟩]) .ret))), [(.cN 2 3)]⟩
theorem r_lanyardref05_Bool : resolveFn Tryd.prog 25 = some c_lanyardref05_Bool := by kernel_rfl
def c_scalar_Of_1 : RFn :=
 ⟨9, (.seq (.ops [] [⟨some 2, .op (.new [(.int .i64 0), (.slice none 0 0), (.slice none 0 0)]), none⟩,⟨some 3, .op (.mv (.k (.int .i64 0))), none⟩]) (.seq (.ops [] [⟨some 4, .op (.load1 (.t 0)), none⟩,⟨some 5, .op (.load1 (.t 1)), none⟩,⟨some 6, .call (.k (.func (.func 22) #[] #[])) [(.t 4), (.t 5)], none⟩,⟨some 7, .op (.extract (.t 6) 0), none⟩,⟨some 8, .op (.extract (.t 6) 1), none⟩,⟨none, .op (.store 3 (.t 2) (.t 7)), none⟩,⟨some 3, .op (.mv (.t 8)), none⟩]) .ret)), [(.cN 2 3), (.t 3)]⟩
theorem r_scalar_Of_1 : resolveFn Tryd.prog 88 = some c_scalar_Of_1 := by kernel_rfl
def c_scalar_True_1 : RFn :=
 ⟨5, (.seq (.ops [] [⟨some 1, .op (.new [(.int .i64 0), (.slice none 0 0), (.slice none 0 0)]), none⟩,⟨some 2, .op (.mv (.k (.int .i64 0))), none⟩]) (.seq (.ops [] [⟨some 3, .op (.load1 (.t 0)), none⟩,⟨some 4, .call (.k (.func (.func 20) #[] #[])) [(.t 3)], none⟩,⟨none, .op (.store 3 (.t 1) (.t 4)), none⟩,⟨some 2, .op (.mv (.k (.int .i64 0))), none⟩]) .ret)), [(.cN 1 3), (.t 2)]⟩
theorem r_scalar_True_1 : resolveFn Tryd.prog 86 = some c_scalar_True_1 := by kernel_rfl
def c_scalar_just_bool_ : RFn :=
 ⟨31, (.seq (.ops [] [⟨some 6, .op (.box (.t 2)), none⟩,⟨some 8, .op (.mv (.k (.bool false))), none⟩,⟨some 9, .op (.mv (.k (.int .i64 0))), none⟩]) (.seq (.ops [] [⟨some 10, .op (.mv (.k (.bool false))), none⟩]) (.seq (.seq (.ops [] [⟨some 13, .op (.mv (.t 1)), none⟩,⟨some 14, .op (.un .not (.t 13)), none⟩]) (.cond (.t 14) (.seq (.ops [] [⟨some 15, .op (.mv (.t 10)), none⟩,⟨some 8, .op (.mv (.t 15)), none⟩,⟨some 9, .op (.mv (.k (.int .i64 2))), none⟩]) .ret) .skip)) (.seq (.seq (.ops [] [⟨some 17, .op (.mv (.t 3)), none⟩,⟨some 18, .call (.t 17) [], none⟩,⟨some 16, .op (.mv (.t 18)), none⟩,⟨some 19, .op (.extract (.t 16) 0), none⟩,⟨some 20, .op (.extract (.t 16) 1), none⟩,⟨some 11, .op (.new [(.int .i64 0), (.slice none 0 0), (.slice none 0 0)]), none⟩,⟨none, .op (.store 3 (.t 11) (.t 19)), none⟩,⟨some 12, .op (.mv (.t 20)), none⟩]) (.seq (.ops [] [⟨some 21, .op (.mv (.t 12)), none⟩,⟨some 22, .op (.bin .neq (.t 21) (.k (.int .i64 0))), none⟩,⟨some 23, .op (.mv (.t 22)), none⟩,⟨some 24, .op (.loadN 3 (.t 11)), some (23, false)⟩,⟨some 25, .op (.loadN 3 (.t 6)), some (23, false)⟩,⟨some 26, .call (.k (.func (.func 84) #[] #[])) [(.t 24), (.t 25)], some (23, false)⟩,⟨some 27, .op (.un .not (.t 26)), some (23, false)⟩,⟨some 28, .op (.pick (.t 23) (.k (.bool true)) (.t 27)), none⟩]) (.cond (.t 28) (.seq (.ops [] [⟨some 29, .op (.mv (.t 10)), none⟩,⟨some 8, .op (.mv (.t 29)), none⟩,⟨some 9, .op (.mv (.k (.int .i64 2))), none⟩]) .ret) .skip))) (.seq (.ops [] [⟨some 30, .op (.mv (.t 0)), none⟩,
 ⟨some 8, .op (.mv (.t 30)), none⟩,⟨some 9, .op (.mv (.k (.int .i64 0))), none⟩]) .ret))))), [(.t 8), (.t 9)]⟩
theorem r_scalar_just_bool_ : resolveFn Tryd.prog 85 = some c_scalar_just_bool_ := by kernel_rfl
def c_scalar_just___byte_ : RFn :=
 ⟨31, (.seq (.ops [] [⟨some 6, .op (.box (.t 2)), none⟩,⟨some 8, .op (.mv (.k (.slice none 0 0))), none⟩,⟨some 9, .op (.mv (.k (.int .i64 0))), none⟩]) (.seq (.ops [] [⟨some 10, .op (.mv (.k (.slice none 0 0))), none⟩]) (.seq (.seq (.ops [] [⟨some 13, .op (.mv (.t 1)), none⟩,⟨some 14, .op (.un .not (.t 13)), none⟩]) (.cond (.t 14) (.seq (.ops [] [⟨some 15, .op (.mv (.t 10)), none⟩,⟨some 8, .op (.mv (.t 15)), none⟩,⟨some 9, .op (.mv (.k (.int .i64 2))), none⟩]) .ret) .skip)) (.seq (.seq (.ops [] [⟨some 17, .op (.mv (.t 3)), none⟩,⟨some 18, .call (.t 17) [], none⟩,⟨some 16, .op (.mv (.t 18)), none⟩,⟨some 19, .op (.extract (.t 16) 0), none⟩,⟨some 20, .op (.extract (.t 16) 1), none⟩,⟨some 11, .op (.new [(.int .i64 0), (.slice none 0 0), (.slice none 0 0)]), none⟩,⟨none, .op (.store 3 (.t 11) (.t 19)), none⟩,⟨some 12, .op (.mv (.t 20)), none⟩]) (.seq (.ops [] [⟨some 21, .op (.mv (.t 12)), none⟩,⟨some 22, .op (.bin .neq (.t 21) (.k (.int .i64 0))), none⟩,⟨some 23, .op (.mv (.t 22)), none⟩,⟨some 24, .op (.loadN 3 (.t 11)), some (23, false)⟩,⟨some 25, .op (.loadN 3 (.t 6)), some (23, false)⟩,⟨some 26, .call (.k (.func (.func 84) #[] #[])) [(.t 24), (.t 25)], some (23, false)⟩,⟨some 27, .op (.un .not (.t 26)), some (23, false)⟩,⟨some 28, .op (.pick (.t 23) (.k (.bool true)) (.t 27)), none⟩]) (.cond (.t 28) (.seq (.ops [] [⟨some 29, .op (.mv (.t 10)), none⟩,⟨some 8, .op (.mv (.t 29)), none⟩,⟨some 9, .op (.mv (.k (.int .i64 2))), none⟩]) .ret) .skip))) (.seq (.ops [] [⟨some 30, .op (.mv (.t 0)), none⟩,
 ⟨some 8, .op (.mv (.t 30)), none⟩,⟨some 9, .op (.mv (.k (.int .i64 0))), none⟩]) .ret))))), [(.t 8), (.t 9)]⟩
theorem r_scalar_just___byte_ : resolveFn Tryd.prog 87 = some c_scalar_just___byte_ := by kernel_rfl
end Go.Ga
