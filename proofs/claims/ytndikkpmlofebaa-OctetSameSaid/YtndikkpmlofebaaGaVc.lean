/- Code and functions, resolved: what is to be shown of them. -/
import Derived.Test.YtndikkpmlofebaaGaDraw3
import Derived.Laws.Entries
namespace Go.Ga
open Go

inductive RC where
  | skip
  | ops (qs ts : List RO)
  | seq (a b : RC)
  | cond (c : Rv) (a b : RC)
  | block (id : Nat) (b : RC)
  | loop (b : RC)
  | exit (id : Nat)
  | ret

def thenK (next : Regs → Mem → Prop) (Q : AEx → Regs → Mem → Prop) : AEx → Regs → Mem → Prop
  | .normal, f, m => next f m
  | .exit i, f, m => Q (.exit i) f m
  | .ret, f, m => Q .ret f m
  | .pan v, f, m => Q (.pan v) f m

def blockK (id : Nat) (Q : AEx → Regs → Mem → Prop) : AEx → Regs → Mem → Prop
  | .normal, f, m => Q .normal f m
  | .exit i, f, m => if i = id then Q .normal f m else Q (.exit i) f m
  | .ret, f, m => Q .ret f m
  | .pan v, f, m => Q (.pan v) f m

/-- A loop comes to an end, after some rounds. -/
inductive Rounds (body : Regs → Mem → (AEx → Regs → Mem → Prop) → Prop) (Q : AEx → Regs → Mem → Prop) : Nat → Regs → Mem → Prop where
  | mk (n : Nat) (f : Regs) (m : Mem) (R : Regs → Mem → Prop) (h : body f m (thenK R Q)) (hr : ∀ f1 m1, R f1 m1 → Rounds body Q n f1 m1) : Rounds body Q (n + 1) f m

def RC.vc (P : Program) : RC → Regs → Mem → (AEx → Regs → Mem → Prop) → Prop
  | .skip, f, m, Q => Q .normal f m
  | .ops qs ts, f, m, Q => goQuiet P qs f m fun f1 m1 => goOps P ts f1 m1 Q
  | .seq a b, f, m, Q => a.vc P f m (thenK (fun f1 m1 => b.vc P f1 m1 Q) Q)
  | .cond c a b, f, m, Q => match c.ev f with
    | .bool t => (t = true → a.vc P f m Q) ∧ (t = false → b.vc P f m Q)
    | _ => False
  | .block id b, f, m, Q => b.vc P f m (blockK id Q)
  | .loop b, f, m, Q => ∃ n, Rounds (fun f m Q => b.vc P f m Q) Q n f m
  | .exit id, f, m, Q => Q (.exit id) f m
  | .ret, f, m, Q => Q .ret f m

def good (b : List Nat) (i : Nat) : Bool := (List.range i).all fun j => (b.getD i 0).testBit j
def tailK (b : List Nat) : Nat → Nat
  | 0 => 0
  | i + 1 => if good b i then tailK b i else i + 1

def opLt (N : Nat) : Operand → Bool
  | .tmp t => decide (t < N)
  | _ => true

def resolveCode (P : Program) (N : Nat) : Code → Option RC
  | .skip | .label _ => some .skip
  | .region _ ops draw =>
    if draw then
      let k := tailK (bef ops) ops.size
      if k ≤ ops.size ∧ regOK N k ops = true then
        match resolveOpers P ops (ops.toList.take k), resolveOpers P ops (ops.toList.drop k) with
        | some qs, some ts => some (.ops qs ts)
        | _, _ => none
      else none
    else
      if ops.toList.all (boundedOp N ops) then (resolveOpers P ops ops.toList).map (.ops []) else none
  | .seq a b => match resolveCode P N a, resolveCode P N b with
    | some x, some y => some (.seq x y)
    | _, _ => none
  | .cond c a b => match resolveRv c, resolveCode P N a, resolveCode P N b with
    | some r, some x, some y => if opLt N c then some (.cond r x y) else none
    | _, _, _ => none
  | .block id b => (resolveCode P N b).map (.block id)
  | .loop b => (resolveCode P N b).map .loop
  | .exit id => some (.exit id)
  | .ret => some .ret
  | _ => none

/-- What a piece of code comes to, whatever world is related. -/
def Sim (P : Program) (N : Nat) (c : Code) (f : Regs) (m : Mem) (ex : AEx) (f' : Regs) (m' : Mem) : Prop :=
  MExt m m' ∧ ∀ (r : Ren) (w : World) (a : Act), MemRel r m w → RegRel N r f a → c.wp P (Post N r m w ex f' m') a w

section
variable {P : Program} {N : Nat}

theorem Post.trans {r r1 : Ren} {m m1 m2 : Mem} {w w1 : World} {ex : AEx} {f2 : Regs} (hf : Fr r r1 m w w1) (hx : MExt m m1) {e : Exit} {a : Act} {w2 : World} (h : Post N r1 m1 w1 ex f2 m2 e a w2) : Post N r m w ex f2 m2 e a w2 := by
  obtain ⟨r2, h1, h2, h3, h4⟩ := h
  exact ⟨r2, h1, h2, h3, hf.trans hx h4⟩

theorem Sim.seq_normal {a b : Code} {f f1 f2 : Regs} {m m1 m2 : Mem} {ex : AEx} (h1 : Sim P N a f m .normal f1 m1) (h2 : Sim P N b f1 m1 ex f2 m2) : Sim P N (.seq a b) f m ex f2 m2 := by
  refine ⟨h1.1.trans h2.1, fun r w a0 hm ha => wp_seq (wp_mono (h1.2 r w a0 hm ha) fun e a1 w1 hp => ?_)⟩
  obtain ⟨r1, he, hm1, ha1, hf1⟩ := hp
  cases e <;> first | exact he.elim | skip
  exact wp_mono (h2.2 r1 w1 a1 hm1 ha1) fun e a2 w2 hp2 => hp2.trans hf1 h1.1

theorem Sim.seq_exit {a b : Code} {f f1 : Regs} {m m1 : Mem} {ex : AEx} (h1 : Sim P N a f m ex f1 m1) (hne : ex ≠ .normal) : Sim P N (.seq a b) f m ex f1 m1 := by
  refine ⟨h1.1, fun r w a0 hm ha => wp_seq (wp_mono (h1.2 r w a0 hm ha) fun e a1 w1 hp => ?_)⟩
  cases e with
  | normal =>
    obtain ⟨r1, he, _⟩ := hp
    cases ex <;> first | exact absurd rfl hne | exact he.elim
  | _ => exact hp

theorem Sim.loop_exit {b : Code} {f f1 : Regs} {m m1 : Mem} {ex : AEx} (hne : ex ≠ .normal) : ∀ (n : Nat) (F : Nat → Regs) (M : Nat → Mem), F 0 = f → M 0 = m → (∀ i, i < n → Sim P N b (F i) (M i) .normal (F (i + 1)) (M (i + 1))) → Sim P N b (F n) (M n) ex f1 m1 → Sim P N (.loop b) f m ex f1 m1 := by
  intro n F M h0 h1 hs he
  subst h0 h1
  have hx : ∀ i, i ≤ n → MExt (M 0) (M i) := by
    intro i
    induction i with
    | zero => intro _; exact MExt.refl _
    | succ i ih => intro hi; exact (ih (by omega)).trans (hs i (by omega)).1
  refine ⟨(hx n (Nat.le_refl n)).trans he.1, fun r w a hm ha => ?_⟩
  intro bf k cs
  have key : ∀ j i, j + i = n → ∀ (r1 : Ren) (w1 : World) (a1 : Act), MemRel r1 (M i) w1 → RegRel N r1 (F i) a1 → Fr r r1 (M 0) w w1 →
      ∃ e a' w', Post N r (M 0) w ex f1 m1 e a' w' ∧ Arrives P (lone (bf.at a1 (.code b :: .inLoop b :: k)) cs w1) bf k cs e a' w' := by
    intro j
    induction j with
    | zero =>
      intro i hi r1 w1 a1 hm1 ha1 hf1
      have : i = n := by omega
      subst this
      obtain ⟨e, a2, w2, hp, harr⟩ := he.2 r1 w1 a1 hm1 ha1 bf (.inLoop b :: k) cs
      refine ⟨e, a2, w2, hp.trans hf1 (hx i (Nat.le_refl i)), ?_⟩
      have hnn : e ≠ .normal := by
        rintro rfl
        obtain ⟨r2, h2, _⟩ := hp
        cases ex <;> first | exact hne rfl | exact h2.elim
      exact .pass (x := .inLoop b) rfl (fun _ _ => .inl hnn) harr
    | succ j ih =>
      intro i hi r1 w1 a1 hm1 ha1 hf1
      obtain ⟨e, a2, w2, hp, harr⟩ := (hs i (by omega)).2 r1 w1 a1 hm1 ha1 bf (.inLoop b :: k) cs
      obtain ⟨r2, h2, hm2, ha2, hf2⟩ := hp
      cases e <;> first | exact h2.elim | skip
      obtain ⟨e3, a3, w3, hp3, harr3⟩ := ih (i + 1) (by omega) r2 w2 a2 hm2 ha2 (hf1.trans (hx i (by omega)) hf2)
      exact ⟨e3, a3, w3, hp3, .of_steps (Steps.trans harr (.one step_inLoop)) harr3⟩
  obtain ⟨e, a', w', hp, harr⟩ := key n 0 (by omega) r w a hm ha (Fr.refl r _ w)
  exact ⟨e, a', w', hp, .of_steps (.one step_loop) harr⟩

/-- **What is shown of the resolved code holds of the code.** -/
theorem vc_sound (hmx : P.follows .mixedOrders = true) : ∀ (c : Code) (rc : RC) (f : Regs) (m : Mem) (Q : AEx → Regs → Mem → Prop), resolveCode P N c = some rc → rc.vc P f m Q → m.bar ≤ m.next → ∃ ex f' m', Q ex f' m' ∧ Sim P N c f m ex f' m' := by
  intro c
  induction c with
  | skip =>
    intro rc f m Q hr hv hwf
    simp only [resolveCode, Option.some.injEq] at hr
    subst hr
    exact ⟨.normal, f, m, hv, MExt.refl m, fun r w a hm ha => wp_skip ⟨r, trivial, hm, ha, Fr.refl r m w⟩⟩
  | label l =>
    intro rc f m Q hr hv hwf
    simp only [resolveCode, Option.some.injEq] at hr
    subst hr
    exact ⟨.normal, f, m, hv, MExt.refl m, fun r w a hm ha => wp_label ⟨r, trivial, hm, ha, Fr.refl r m w⟩⟩
  | exit id =>
    intro rc f m Q hr hv hwf
    simp only [resolveCode, Option.some.injEq] at hr
    subst hr
    exact ⟨.exit id, f, m, hv, MExt.refl m, fun r w a hm ha => wp_exit ⟨r, rfl, hm, ha, Fr.refl r m w⟩⟩
  | ret =>
    intro rc f m Q hr hv hwf
    simp only [resolveCode, Option.some.injEq] at hr
    subst hr
    exact ⟨.ret, f, m, hv, MExt.refl m, fun r w a hm ha => wp_ret ⟨r, trivial, hm, ha, Fr.refl r m w⟩⟩
  | region id ops draw =>
    intro rc f m Q hr hv hwf
    simp only [resolveCode] at hr
    split at hr
    · rename_i hd
      subst hd
      split at hr
      · rename_i hk
        split at hr
        · rename_i qs ts hq hts
          simp only [Option.some.injEq] at hr
          subst hr
          exact drawn_ok hmx hk.1 hk.2 hq hts hv hwf id
        · cases hr
      · cases hr
    · rename_i hd
      have hd : draw = false := by simpa using hd
      subst hd
      split at hr
      · rename_i hb
        rw [List.all_eq_true] at hb
        cases hrs : resolveOpers P ops ops.toList with
        | none => simp [hrs] at hr
        | some ts =>
          simp only [hrs, Option.map_some, Option.some.injEq] at hr
          subst hr
          obtain ⟨ex, f', m', hQ, hx, hrun⟩ := goOps_ok (ops := ops) (N := N) ops.toList ts 0 f m Q (fun j => by simp) hrs hb hv hwf
          refine ⟨ex, f', m', hQ, hx, fun r w a hm ha => wp_region ?_⟩
          have := hrun r w a hm ha
          rw [show List.range' 0 ops.toList.length = List.range ops.size by simp [List.range_eq_range']] at this
          exact this
      · cases hr
  | seq a b iha ihb =>
    intro rc f m Q hr hv hwf
    simp only [resolveCode] at hr
    split at hr
    · rename_i x y hx hy
      simp only [Option.some.injEq] at hr
      subst hr
      simp only [RC.vc] at hv
      obtain ⟨ex, f1, m1, hq, hs⟩ := iha x f m _ hx hv hwf
      cases ex with
      | normal =>
        obtain ⟨ex2, f2, m2, hq2, hs2⟩ := ihb y f1 m1 Q hy hq (by have := hs.1.bar; have := hs.1.next; omega)
        exact ⟨ex2, f2, m2, hq2, hs.seq_normal hs2⟩
      | exit i => exact ⟨_, f1, m1, hq, hs.seq_exit (by simp)⟩
      | ret => exact ⟨_, f1, m1, hq, hs.seq_exit (by simp)⟩
      | pan v => exact ⟨_, f1, m1, hq, hs.seq_exit (by simp)⟩
    · cases hr
  | cond c a b iha ihb =>
    intro rc f m Q hr hv hwf
    simp only [resolveCode] at hr
    split at hr
    · rename_i r0 x y hc hx hy
      split at hr
      · rename_i hbd
        simp only [Option.some.injEq] at hr
        subst hr
        simp only [RC.vc] at hv
        split at hv
        · rename_i t he
          have hev : ∀ (r : Ren) (a0 : Act), RegRel N r f a0 → a0.eval c = .bool t := by
            intro r a0 ha
            have := resolveRv_rel (f := f) (r := r) (a := a0) hc (fun u e => by subst e; exact ha.2.2 u (by simpa [opLt] using hbd))
            rw [he] at this
            exact this.eq_of_plain rfl
          cases t with
          | true =>
            obtain ⟨ex, f1, m1, hq, hs⟩ := iha x f m Q hx (hv.1 rfl) hwf
            exact ⟨ex, f1, m1, hq, hs.1, fun r w a0 hm ha => wp_cond (hev r a0 ha) (hs.2 r w a0 hm ha)⟩
          | false =>
            obtain ⟨ex, f1, m1, hq, hs⟩ := ihb y f m Q hy (hv.2 rfl) hwf
            exact ⟨ex, f1, m1, hq, hs.1, fun r w a0 hm ha => wp_cond (hev r a0 ha) (hs.2 r w a0 hm ha)⟩
        · cases hv
      · cases hr
    · cases hr
  | block id b ih =>
    intro rc f m Q hr hv hwf
    simp only [resolveCode] at hr
    cases hb : resolveCode P N b with
    | none => simp [hb] at hr
    | some x =>
      simp only [hb, Option.map_some, Option.some.injEq] at hr
      subst hr
      simp only [RC.vc] at hv
      obtain ⟨ex, f1, m1, hq, hs⟩ := ih x f m _ hb hv hwf
      cases ex with
      | exit i =>
        simp only [blockK] at hq
        split at hq
        · rename_i hid
          subst hid
          refine ⟨.normal, f1, m1, hq, hs.1, fun r w a0 hm ha => wp_block (wp_mono (hs.2 r w a0 hm ha) fun e a1 w1 hp => ?_)⟩
          obtain ⟨r1, he, h2⟩ := hp
          cases e <;> first | exact he.elim | skip
          have he : i = _ := he
          subst he
          simp only [Exit.inBlock, if_true]
          exact ⟨r1, trivial, h2⟩
        · rename_i hid
          refine ⟨.exit i, f1, m1, hq, hs.1, fun r w a0 hm ha => wp_block (wp_mono (hs.2 r w a0 hm ha) fun e a1 w1 hp => ?_)⟩
          obtain ⟨r1, he, h2⟩ := hp
          cases e <;> first | exact he.elim | skip
          have he : i = _ := he
          subst he
          simp only [Exit.inBlock]
          rw [if_neg hid]
          exact ⟨r1, rfl, h2⟩
      | _ =>
        refine ⟨_, f1, m1, hq, hs.1, fun r w a0 hm ha => wp_block (wp_mono (hs.2 r w a0 hm ha) fun e a1 w1 hp => ?_)⟩
        have hp' := hp
        obtain ⟨r1, he, h2⟩ := hp'
        cases e <;> first | exact he.elim | exact hp
  | loop b ih =>
    intro rc f m Q hr hv hwf
    simp only [resolveCode] at hr
    cases hb : resolveCode P N b with
    | none => simp [hb] at hr
    | some x =>
      simp only [hb, Option.map_some, Option.some.injEq] at hr
      subst hr
      simp only [RC.vc] at hv
      obtain ⟨n, hv⟩ := hv
      have key : ∀ n f m, Rounds (fun f m Q => x.vc P f m Q) Q n f m → m.bar ≤ m.next → ∃ (j : Nat) (F : Nat → Regs) (M : Nat → Mem) (ex : AEx) (f' : Regs) (m' : Mem), F 0 = f ∧ M 0 = m ∧ (∀ i, i < j → Sim P N b (F i) (M i) .normal (F (i + 1)) (M (i + 1))) ∧
          Sim P N b (F j) (M j) ex f' m' ∧ ex ≠ .normal ∧ Q ex f' m' := by
        intro n f m hR
        induction hR with
        | mk n f m R h hr ihr =>
          intro hwf
          obtain ⟨ex, f1, m1, hq, hs⟩ := ih x f m _ hb h hwf
          cases ex with
          | normal =>
            obtain ⟨j, F, M, ex, f', m', e1, e2, h3, h4, h5, h6⟩ := ihr f1 m1 hq (by have := hs.1.bar; have := hs.1.next; omega)
            refine ⟨j + 1, fun i => match i with | 0 => f | i + 1 => F i, fun i => match i with | 0 => m | i + 1 => M i, ex, f', m', rfl, rfl, fun i hi => ?_, h4, h5, h6⟩
            cases i with
            | zero => simp only [e1, e2]; exact hs
            | succ i => exact h3 i (by omega)
          | exit i => exact ⟨0, fun _ => f, fun _ => m, _, f1, m1, rfl, rfl, fun i hi => by omega, hs, by simp, hq⟩
          | ret => exact ⟨0, fun _ => f, fun _ => m, _, f1, m1, rfl, rfl, fun i hi => by omega, hs, by simp, hq⟩
          | pan v => exact ⟨0, fun _ => f, fun _ => m, _, f1, m1, rfl, rfl, fun i hi => by omega, hs, by simp, hq⟩
      obtain ⟨j, F, M, ex, f', m', e1, e2, h3, h4, h5, h6⟩ := key n f m hv hwf
      exact ⟨ex, f', m', h6, Sim.loop_exit h5 j F M e1 e2 h3 h4⟩
  | _ => intro rc f m Q hr; simp [resolveCode] at hr

end
end Go.Ga
