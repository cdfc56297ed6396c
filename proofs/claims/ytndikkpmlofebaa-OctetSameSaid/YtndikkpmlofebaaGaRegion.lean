/- Regions: the operations in the order of the text; every order that a drawn region allows comes to the same. -/
import Derived.Test.YtndikkpmlofebaaGaCode
namespace Go.Ga
open Go

structure RO where
  dst : Option Nat
  it : Item
  guard : Option (Nat × Bool)

/-- How a piece of code is left. -/
inductive AEx where
  | normal
  | exit (id : Nat)
  | ret
  | pan (v : Value)

def putR (f : Regs) (d : Option Nat) (v : Value) : Regs :=
  match d with
  | none => f
  | some d => fun i => if i = d then v else f i

/-- Is an operation wanted? -/
def wantedA (g : Option (Nat × Bool)) (f : Regs) : Option Bool :=
  match g with
  | none => some true
  | some (s, want) => match f s with
    | .bool b => some (b == want)
    | .chan _ => none
    | _ => some false

def goOps (P : Program) : List RO → Regs → Mem → (AEx → Regs → Mem → Prop) → Prop
  | [], f, m, Q => Q .normal f m
  | o :: l, f, m, Q => match wantedA o.guard f with
    | some true => o.it.vc P f m (fun v m' => goOps P l (putR f o.dst v) m' Q) (fun v m' => Q (.pan v) f m')
    | some false => goOps P l (putR f o.dst undef) m Q
    | none => False

def Mem.raise (m : Mem) : Mem := { m with bar := m.next }
def Mem.lower (m : Mem) (b : Nat) : Mem := { m with bar := b }

/-- The unordered part of a drawn region: what was there is not written. -/
def goQuiet (P : Program) : List RO → Regs → Mem → (Regs → Mem → Prop) → Prop
  | [], f, m, Q => Q f m
  | o :: l, f, m, Q => match wantedA o.guard f with
    | some true => o.it.vc P f m.raise (fun v m' => goQuiet P l (putR f o.dst v) (m'.lower m.bar) Q) (fun _ _ => False)
    | some false => goQuiet P l (putR f o.dst undef) m Q
    | none => False

def resolveOper (P : Program) (ops : Array Oper) (o : Oper) : Option RO :=
  match resolveItem P o.op with
  | none => none
  | some it => match o.guard with
    | none => some ⟨o.dst, it, none⟩
    | some (j, want) => match (ops[j]?).bind (·.dst) with
      | some s => some ⟨o.dst, it, some (s, want)⟩
      | none => none

def resolveOpers (P : Program) (ops : Array Oper) : List Oper → Option (List RO)
  | [] => some []
  | o :: l => match resolveOper P ops o, resolveOpers P ops l with
    | some r, some rs => some (r :: rs)
    | _, _ => none

def tmpsOf (o : Oper) : List Nat := o.op.operands.toList.filterMap fun | .tmp t => some t | _ => none

def guardSlot (ops : Array Oper) (o : Oper) : Option Nat :=
  match o.guard with
  | none => none
  | some (j, _) => (ops[j]?).bind (·.dst)

/-- All slots are slots of the frame. -/
def boundedOp (N : Nat) (ops : Array Oper) (o : Oper) : Bool :=
  (tmpsOf o).all (· < N) && o.dst.all (· < N) && (guardSlot ops o).all (· < N)

section
variable {P : Program} {N : Nat} {ops : Array Oper}

theorem mem_tmpsOf {o : Oper} {t : Nat} : Operand.tmp t ∈ o.op.operands ↔ t ∈ tmpsOf o := by
  simp only [tmpsOf, List.mem_filterMap]
  constructor
  · intro h
    exact ⟨.tmp t, by simpa using h, rfl⟩
  · rintro ⟨x, hx, he⟩
    cases x with
    | tmp u => simp only [Option.some.injEq] at he; subst he; simpa using hx
    | _ => cases he

theorem eval_tmp (a : Act) (t : Nat) : a.eval (.tmp t) = a.tmps.getD t undef := rfl

theorem wanted_rel {r : Ren} {f : Regs} {a : Act} {o : Oper} {ro : RO} {b : Bool} (h : resolveOper P ops o = some ro) (hw : wantedA ro.guard f = some b) (hb : boundedOp N ops o = true) (hN : a.tmps.size = N)
    (hv : ∀ s, guardSlot ops o = some s → VR r (f s) (a.tmps.getD s undef)) : Region.wanted o (yielded ops a.tmps) = b := by
  unfold resolveOper at h
  split at h
  · cases h
  · split at h
    · rename_i hg
      simp only [Option.some.injEq] at h
      subst h
      simp only [wantedA, Option.some.injEq] at hw
      subst hw
      simp [Region.wanted, hg]
    · rename_i j want hg
      split at h
      · rename_i s hs
        simp only [Option.some.injEq] at h
        subst h
        have hgs : guardSlot ops o = some s := by simp [guardSlot, hg, hs]
        have hr := hv s hgs
        have hlt : s < a.tmps.size := by
          simp only [boundedOp, hgs, Option.all_some, Bool.and_eq_true, decide_eq_true_eq] at hb
          rw [hN]
          exact hb.2
        have hy : yielded ops a.tmps j = match a.tmps.getD s undef with | .bool b => some b | _ => none := by
          simp only [yielded, hs, Option.bind_some, getD_eq_some hlt]
          cases a.tmps.getD s undef <;> rfl
        simp only [Region.wanted, hg, hy]
        simp only [wantedA] at hw
        generalize a.tmps.getD s undef = v' at hr
        generalize f s = v at hr hw
        cases hr <;> simp_all [botV, undef]
      · cases h

theorem putR_rel {r r' : Ren} {f : Regs} {a : Act} (hx : Ext r r') (hN : a.tmps.size = N) (h : ∀ i, i < N → VR r (f i) (a.tmps.getD i undef)) {v v' : Value} (hv : VR r' v v') (d : Option Nat) :
    (a.put d v').tmps.size = N ∧ ∀ i, i < N → VR r' (putR f d v i) ((a.put d v').tmps.getD i undef) := by
  cases d with
  | none => exact ⟨hN, fun i hi => (h i hi).mono hx⟩
  | some d =>
    refine ⟨by simp [Act.put, hN], fun i hi => ?_⟩
    simp only [putR, Act.put]
    by_cases hid : i = d
    · subst hid
      rw [if_pos rfl]
      simpa [Array.getD, hN, hi] using hv
    · rw [if_neg hid]
      have e : (a.tmps.setIfInBounds d v').getD i undef = a.tmps.getD i undef := by
        simp only [Array.getD_eq_getD_getElem?, Array.getElem?_setIfInBounds_ne (show d ≠ i from fun e => hid e.symm)]
      rw [e]
      exact (h i hi).mono hx

def RegRel (N : Nat) (r : Ren) (f : Regs) (a : Act) : Prop := a.tmps.size = N ∧ a.defers = [] ∧ ∀ i, i < N → VR r (f i) (a.tmps.getD i undef)

def ExRel (r : Ren) : AEx → Exit → Prop
  | .normal, .normal => True
  | .exit i, .exit j => i = j
  | .ret, .ret => True
  | .pan v, .panic ch => ∃ v', ch = [{ v := v', recovered := false }] ∧ VR r v v'
  | _, _ => False

/-- What the machine's postcondition says, where the abstract one is this. -/
def Post (N : Nat) (r : Ren) (m : Mem) (w : World) (ex : AEx) (f' : Regs) (m' : Mem) (e : Exit) (a' : Act) (w' : World) : Prop :=
  ∃ r', ExRel r' ex e ∧ MemRel r' m' w' ∧ RegRel N r' f' a' ∧ Fr r r' m w w'

theorem put_defers (a : Act) (d : Option Tmp) (v : Value) : (a.put d v).defers = a.defers := by cases d <;> rfl

theorem RegRel.put {r r' : Ren} {f : Regs} {a : Act} (h : RegRel N r f a) (hx : Ext r r') {v v' : Value} (hv : VR r' v v') (d : Option Nat) : RegRel N r' (putR f d v) (a.put d v') := by
  obtain ⟨h1, h2⟩ := putR_rel hx h.1 h.2.2 hv d
  exact ⟨h1, by rw [put_defers]; exact h.2.1, h2⟩

theorem RegRel.mono {r r' : Ren} {f : Regs} {a : Act} (h : RegRel N r f a) (hx : Ext r r') : RegRel N r' f a := ⟨h.1, h.2.1, fun i hi => (h.2.2 i hi).mono hx⟩

theorem bounded_tmps {o : Oper} (hb : boundedOp N ops o = true) : ∀ t, Operand.tmp t ∈ o.op.operands → t < N := by
  intro t ht
  simp only [boundedOp, Bool.and_eq_true, List.all_eq_true, decide_eq_true_eq] at hb
  exact hb.1.1 t (mem_tmpsOf.1 ht)

theorem bounded_guard {o : Oper} (hb : boundedOp N ops o = true) : ∀ s, guardSlot ops o = some s → s < N := by
  intro s hs
  simp only [boundedOp, hs, Option.all_some, Bool.and_eq_true, decide_eq_true_eq] at hb
  exact hb.2

/-- One operation, in whatever order it comes up. -/
theorem stepOp {i : Nat} {o : Oper} {ro : RO} (hi : ops[i]? = some o) (hr : resolveOper P ops o = some ro) (hb : boundedOp N ops o = true) {f : Regs} {m : Mem} {out : Out} (hout : OpOut P o f m out) (hw : wantedA ro.guard f = some true)
    {r : Ren} {w : World} {a : Act} (hm : MemRel r m w) (hN : a.tmps.size = N) (hv : ∀ t, Operand.tmp t ∈ o.op.operands → VR r (f t) (a.eval (.tmp t))) (hg : ∀ s, guardSlot ops o = some s → VR r (f s) (a.tmps.getD s undef))
    {K : Act → World → Prop} {Q : Exit → Act → World → Prop}
    (hk : ∀ v m', out = .val v m' → ∀ r' v' w', VR r' v v' → MemRel r' m' w' → Fr r r' m w w' → K (a.put o.dst v') w')
    (hp : ∀ v m', out = .pan v m' → ∀ r' v' w', VR r' v v' → MemRel r' m' w' → Fr r r' m w w' → Q (.panic [{ v := v', recovered := false }]) a w') :
    wpOp P ops Q i K a w := by
  unfold wpOp
  simp only [hi]
  rw [wanted_rel hr hw hb hN hg]
  simp only [if_true]
  left
  cases out with
  | val v m' => exact hout.2 r w a hm hv K Q (hk v m' rfl)
  | pan v m' => exact hout.2 r w a hm hv K Q (hp v m' rfl)

theorem skipOp {i : Nat} {o : Oper} {ro : RO} (hi : ops[i]? = some o) (hr : resolveOper P ops o = some ro) (hb : boundedOp N ops o = true) {f : Regs} (hw : wantedA ro.guard f = some false)
    {r : Ren} {w : World} {a : Act} (hN : a.tmps.size = N) (hg : ∀ s, guardSlot ops o = some s → VR r (f s) (a.tmps.getD s undef)) {K : Act → World → Prop} {Q : Exit → Act → World → Prop} (hk : K (a.put o.dst undef) w) :
    wpOp P ops Q i K a w := by
  unfold wpOp
  simp only [hi]
  rw [wanted_rel hr hw hb hN hg]
  exact hk

theorem Oper.wp_mono2 {o : Oper} {a : Act} {w : World} {K K' : Act → World → Prop} {Q Q' : Exit → Act → World → Prop} (h : ∀ a w, K a w → K' a w) (hq : ∀ e a w, Q e a w → Q' e a w) (hh : o.wp P a w K Q) : o.wp P a w K' Q' := by
  unfold Oper.wp at *
  generalize (execOp a.eval o).run P w = r at *
  cases r with
  | ok n w' =>
    cases n <;> simp only [Oper.upon] at hh ⊢ <;>
      first
        | exact h _ _ hh
        | exact Calls.mono hh (fun e w'' he => by
            cases e with
            | returned v => exact h _ _ he
            | panicked ch => exact hq _ _ _ he
            | outgrown => exact let ⟨a, w, q⟩ := he; ⟨a, w, hq _ _ _ q⟩)
        | exact Rows.mono hh (fun _ _ he => h _ _ he)
  | halt x w' =>
    cases x <;> simp only [Oper.upon] at hh ⊢
    exact hq _ _ _ hh

theorem wpOp_mono2 {i : Nat} {a : Act} {w : World} {K K' : Act → World → Prop} {Q Q' : Exit → Act → World → Prop} (h : ∀ a w, K a w → K' a w) (hq : ∀ e a w, Q e a w → Q' e a w) (hh : wpOp P ops Q i K a w) : wpOp P ops Q' i K' a w := by
  unfold wpOp at *
  split
  · exact h _ _ (by simpa [*] using hh)
  · rename_i o ho
    simp only [ho] at hh
    split
    · rename_i hw
      simp only [hw, if_true] at hh
      rcases hh with hh | ⟨h1, a2, w2, h2⟩
      · exact .inl (Oper.wp_mono2 h hq hh)
      · exact .inr ⟨h1, a2, w2, hq _ _ _ h2⟩
    · rename_i hw; simp only [hw] at hh; exact h _ _ hh

theorem wpOps_mono {Q Q' : Exit → Act → World → Prop} (h : ∀ e a w, Q e a w → Q' e a w) : ∀ (l : List Nat) (a : Act) (w : World), wpOps P ops Q l a w → wpOps P ops Q' l a w
  | [], _, _, hh => h _ _ _ hh
  | i :: l, a, w, hh => by
    rw [wpOps_cons] at hh ⊢
    exact wpOp_mono2 (fun a w => wpOps_mono h l a w) h hh

theorem RO_item {o : Oper} {ro : RO} (h : resolveOper P ops o = some ro) : resolveItem P o.op = some ro.it ∧ ro.dst = o.dst := by
  unfold resolveOper at h
  split at h
  · cases h
  · rename_i it hit
    split at h
    · simp only [Option.some.injEq] at h; subst h; exact ⟨hit, rfl⟩
    · split at h
      · simp only [Option.some.injEq] at h; subst h; exact ⟨hit, rfl⟩
      · cases h

/-- What a walk in the text's order comes to: for any continuation that the machine may have. -/
theorem goOps_ok : ∀ (l : List Oper) (rl : List RO) (i : Nat) (f : Regs) (m : Mem) (Q : AEx → Regs → Mem → Prop), (∀ j, l[j]? = ops[i + j]?) → resolveOpers P ops l = some rl → (∀ o ∈ l, boundedOp N ops o = true) → goOps P rl f m Q → m.bar ≤ m.next →
    ∃ ex f' m', Q ex f' m' ∧ MExt m m' ∧ ∀ (r : Ren) (w : World) (a : Act), MemRel r m w → RegRel N r f a → wpOps P ops (Post N r m w ex f' m') (List.range' i l.length) a w
  | [], rl, i, f, m, Q, _, hr, _, hv, _ => by
    simp only [resolveOpers, Option.some.injEq] at hr
    subst hr
    exact ⟨.normal, f, m, hv, MExt.refl m, fun r w a hm ha => ⟨r, trivial, hm, ha, Fr.refl r m w⟩⟩
  | o :: l, rl, i, f, m, Q, hl, hr, hb, hv, hwf => by
    simp only [resolveOpers] at hr
    split at hr
    · rename_i ro rs hro hrs
      simp only [Option.some.injEq] at hr
      subst hr
      have hi : ops[i]? = some o := by simpa using (hl 0).symm
      have hl' : ∀ j, l[j]? = ops[i + 1 + j]? := fun j => by have := hl (j + 1); simpa [Nat.add_assoc, Nat.add_comm 1 j] using this
      have hbo := hb o (by simp)
      have hb' : ∀ o ∈ l, boundedOp N ops o = true := fun x hx => hb x (by simp [hx])
      obtain ⟨hit, hdst⟩ := RO_item hro
      simp only [goOps] at hv
      split at hv
      · rename_i hw
        obtain ⟨out, hout, hK⟩ := sound_item hit hv hwf
        cases out with
        | val v m1 =>
          have hx1 : MExt m m1 := hout.1
          obtain ⟨ex, f', m', hQ, hx2, hrun⟩ := goOps_ok l rs (i + 1) _ _ Q hl' hrs hb' hK (by have := hx1.bar; have := hx1.next; omega)
          refine ⟨ex, f', m', hQ, hx1.trans hx2, fun r w a hm ha => ?_⟩
          rw [List.length_cons, List.range'_succ, wpOps_cons]
          refine stepOp hi hro hbo hout hw hm ha.1 (fun t ht => ha.2.2 t (bounded_tmps hbo t ht)) (fun s hs => ha.2.2 s (bounded_guard hbo s hs)) (fun v2 m2 he r' v' w' hv' hm' hf => ?_) (fun v2 m2 he => by cases he)
          injection he with e1 e2
          subst e1 e2
          rw [hdst] at hrun
          have := hrun r' w' _ hm' (ha.put hf.ext hv' o.dst)
          refine wpOps_mono (fun e a2 w2 hp => ?_) _ _ _ this
          obtain ⟨r2, g1, g2, g3, g4⟩ := hp
          exact ⟨r2, g1, g2, g3, hf.trans hx1 g4⟩
        | pan v m1 =>
          have hx1 : MExt m m1 := hout.1
          refine ⟨.pan v, f, m1, hK, hx1, fun r w a hm ha => ?_⟩
          rw [List.length_cons, List.range'_succ, wpOps_cons]
          refine stepOp hi hro hbo hout hw hm ha.1 (fun t ht => ha.2.2 t (bounded_tmps hbo t ht)) (fun s hs => ha.2.2 s (bounded_guard hbo s hs)) (fun v2 m2 he => by cases he) (fun v2 m2 he r' v' w' hv' hm' hf => ?_)
          injection he with e1 e2
          subst e1 e2
          exact ⟨r', ⟨v', rfl, hv'⟩, hm', ha.mono hf.ext, hf⟩
      · rename_i hw
        obtain ⟨ex, f', m', hQ, hx2, hrun⟩ := goOps_ok l rs (i + 1) _ _ Q hl' hrs hb' hv hwf
        refine ⟨ex, f', m', hQ, hx2, fun r w a hm ha => ?_⟩
        rw [List.length_cons, List.range'_succ, wpOps_cons]
        refine skipOp hi hro hbo hw ha.1 (fun s hs => ha.2.2 s (bounded_guard hbo s hs)) ?_
        rw [hdst] at hrun
        exact hrun r w _ hm (ha.put (Ext.refl r) .und o.dst)
      · cases hv
    · cases hr

end
end Go.Ga
