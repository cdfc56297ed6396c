/- Functions, items of a region, code: the judgements and the plain rules. -/
import Derived.Test.YtndikkpmlofebaaGaOpsA
namespace Go.Ga
open Go

/-- How a call ends: with a value, or in a panic of the text's own. -/
inductive Res where
  | ret (v : Value)
  | pan (v : Value)

def ResRel (r : Ren) : Res → Ending → Prop
  | .ret v, .returned v' => VR r v v'
  | .pan v, .panicked ch => ∃ v', ch = [{ v := v', recovered := false }] ∧ VR r v v'
  | _, _ => False

/-- A call of function g comes to this, whatever world is related. -/
def FnEv (P : Program) (g : FuncId) (args : List Value) (m : Mem) (res : Res) (m' : Mem) : Prop :=
  (∃ fn, P.funcs[g]? = some fn ∧ fn.body.isSome = true ∧ (fn.name == "runtime.NumGoroutine") = false) ∧ MExt m m' ∧
  ∀ (r : Ren) (w : World) (args' : Array Value), MemRel r m w → args'.size = args.length → (∀ i, VR r (args.getD i undef) (args'.getD i undef)) →
    Calls P g args' w fun e w' => ∃ r', ResRel r' res e ∧ MemRel r' m' w' ∧ Fr r r' m w w'

def Fn (P : Program) (g : FuncId) (args : List Value) (m : Mem) (K : Res → Mem → Prop) : Prop :=
  m.bar ≤ m.next → ∃ res m', FnEv P g args m res m' ∧ K res m'

theorem Fn.mono {P : Program} {g : FuncId} {args : List Value} {m : Mem} {K K' : Res → Mem → Prop} (h : Fn P g args m K) (hk : ∀ res m', MExt m m' → K res m' → K' res m') : Fn P g args m K' := fun hwf => by
  obtain ⟨res, m', h1, h2⟩ := h hwf
  exact ⟨res, m', h1, hk _ _ h1.2.1 h2⟩

/-- An item of a region. -/
inductive Item where
  | op (o : ROp)
  | call (f : Rv) (args : List Rv)
  | pan (x : Rv)

def Item.vc (P : Program) (f : Regs) (m : Mem) (K Kp : Value → Mem → Prop) : Item → Prop
  | .op o => o.vc P f m K
  | .call x args => match x.ev f with
    | .func (.func g) fs caps => fs = #[] ∧ Fn P g ((args.map fun y => y.ev f) ++ caps.toList) m fun res m' => match res with
      | .ret v => K v m'
      | .pan v => Kp v m'
    | _ => False
  | .pan x => match x.ev f with
    | .iface t v => Kp (.iface t v) m
    | _ => False

inductive Out where
  | val (v : Value) (m : Mem)
  | pan (v : Value) (m : Mem)

def OpPan (P : Program) (o : Oper) (f : Regs) (m : Mem) (v : Value) (m' : Mem) : Prop :=
  MExt m m' ∧ ∀ (r : Ren) (w : World) (a : Act), MemRel r m w → (∀ t, Operand.tmp t ∈ o.op.operands → VR r (f t) (a.eval (.tmp t))) →
    ∀ (K : Act → World → Prop) (Q : Exit → Act → World → Prop), (∀ r' v' w', VR r' v v' → MemRel r' m' w' → Fr r r' m w w' → Q (.panic [{ v := v', recovered := false }]) a w') → o.wp P a w K Q

def OpOut (P : Program) (o : Oper) (f : Regs) (m : Mem) : Out → Prop
  | .val v m' => OpEv P o f m v m'
  | .pan v m' => OpPan P o f m v m'

def resolveItem (P : Program) (op : Op) : Option Item :=
  match op with
  | .call c => match c.callee with
    | .value x => do some (.call (← resolveRv x) (← resolveRvs c.args.toList))
    | .builtin _ => do some (.op (← resolveOp P (.call c)))
    | _ => none
  | .panic x => do some (.pan (← resolveRv x))
  | op => do some (.op (← resolveOp P op))

section
variable {P : Program} {f : Regs} {m : Mem} {K Kp : Value → Mem → Prop}

theorem callFunc_run {g : FuncId} {args : Array Value} {fn : Func} (h1 : P.funcs[g]? = some fn) (h2 : fn.body.isSome = true) (h3 : (fn.name == "runtime.NumGoroutine") = false) (w : World) : (callFunc g args).run P w = .ok (.enter g args) w := by
  have h4 : fn.body.isNone = false := by cases hb : fn.body <;> simp_all
  simp only [callFunc, Sem.run_bind, run_program, Result.andThen_ok, h1, h3, h4, Bool.false_eq_true, if_false, Sem.run_pure]

theorem sound_item {o : Oper} {it : Item} (h : resolveItem P o.op = some it) (hv : it.vc P f m K Kp) (hwf : m.bar ≤ m.next) :
    ∃ out, OpOut P o f m out ∧ (match out with | .val v m' => K v m' | .pan v m' => Kp v m') := by
  have plainOp : ∀ {rop}, resolveOp P o.op = some rop → (Item.op rop).vc P f m K Kp → ∃ out, OpOut P o f m out ∧ (match out with | .val v m' => K v m' | .pan v m' => Kp v m') := by
    intro rop hr hv
    obtain ⟨v, m', h1, h2⟩ := sound hr hv hwf
    exact ⟨.val v m', h1, h2⟩
  obtain ⟨dst, op, type, pos, after, guard⟩ := o
  simp only at h plainOp
  have other : ∀ {op : Op} {it : Item}, (do some (Item.op (← resolveOp P op)) : Option Item) = some it → ∃ rop, resolveOp P op = some rop ∧ it = .op rop := by
    intro op it h
    simp only [Option.bind_eq_bind, Option.bind_eq_some_iff, Option.some.injEq] at h
    obtain ⟨rop, hr, rfl⟩ := h
    exact ⟨rop, hr, rfl⟩
  cases op with
  | call c =>
    obtain ⟨callee, args, ts⟩ := c
    cases callee with
    | builtin b =>
      obtain ⟨rop, hr, rfl⟩ := other h
      exact plainOp hr hv
    | invoke r n => exact absurd h (by simp [resolveItem])
    | value x =>
      simp only [resolveItem, Option.bind_eq_bind, Option.bind_eq_some_iff, Option.some.injEq] at h
      obtain ⟨rx, hx, rs, hrs, rfl⟩ := h
      simp only [Item.vc] at hv
      split at hv
      · rename_i g fs caps he
        obtain ⟨rfl, hv⟩ := hv
        obtain ⟨res, m', ⟨⟨fn, f1, f2, f3⟩, hext, hcalls⟩, hK⟩ := hv hwf
        have run : ∀ (r : Ren) (w : World) (a : Act), MemRel r m w → (∀ t, Operand.tmp t ∈ (Op.call ⟨.value x, args, ts⟩).operands → VR r (f t) (a.eval (.tmp t))) →
            ∃ args', (execOp a.eval ⟨dst, .call ⟨.value x, args, ts⟩, type, pos, after, guard⟩).run P w = .ok (.enter g args') w ∧ Calls P g args' w fun e w' => ∃ r', ResRel r' res e ∧ MemRel r' m' w' ∧ Fr r r' m w w' := by
          intro r w a hm ht
          have e1 := rvR hx (by simp [Op.operands, Call.operands]) ht
          rw [he] at e1
          obtain ⟨cs', ex, hcs, hcv⟩ : ∃ cs', a.eval x = .func (.func g) #[] cs' ∧ caps.size = cs'.size ∧ ∀ i, VR r (caps.getD i undef) (cs'.getD i undef) := by
            generalize a.eval x = v' at e1
            cases e1 with
            | func fn hs h => exact ⟨_, rfl, hs, h⟩
          obtain ⟨g1, g2⟩ := resolveRvs_spec (f := f) (r := r) (a := a) hrs (fun t hm => ht t (by
            have hm : Operand.tmp t ∈ args := by simpa using hm
            simp [Op.operands, Call.operands, hm]))
          refine ⟨(#[] ++ args.map a.eval) ++ cs', ?_, hcalls r w _ hm (by simp [g1, hcs]) fun i => ?_⟩
          · show (do let d ← resolve a.eval ⟨.value x, args, ts⟩ type; invoke d.target d.args).run P w = _
            simp only [resolve, ex, Deferred.ofValue, pure_bind, invoke, callFunc_run f1 f2 f3]
          · rw [← toList_getD]
            have : ((#[] ++ args.map a.eval) ++ cs').toList = (args.toList.map a.eval) ++ cs'.toList := by simp
            rw [this, lappend_getD, lappend_getD]
            simp only [List.length_map, g1]
            split
            · exact g2 i
            · rw [toList_getD, toList_getD]; exact hcv _
        cases res with
        | ret v =>
          refine ⟨.val v m', ⟨hext, fun r w a hm ht K Q hk => ?_⟩, hK⟩
          obtain ⟨args', hrun, hc⟩ := run r w a hm ht
          unfold Oper.wp
          rw [hrun]
          refine hc.mono fun e w' hw => ?_
          obtain ⟨r', hres, hm', hf⟩ := hw
          cases e with
          | returned v' => exact hk r' v' w' hres hm' hf
          | panicked ch => exact hres.elim
          | outgrown => exact hres.elim
        | pan v =>
          refine ⟨.pan v m', ⟨hext, fun r w a hm ht K Q hk => ?_⟩, hK⟩
          obtain ⟨args', hrun, hc⟩ := run r w a hm ht
          unfold Oper.wp
          rw [hrun]
          refine hc.mono fun e w' hw => ?_
          obtain ⟨r', hres, hm', hf⟩ := hw
          cases e with
          | returned v' => exact hres.elim
          | panicked ch =>
            obtain ⟨v', rfl, hv'⟩ := hres
            exact hk r' v' w' hv' hm' hf
          | outgrown => exact hres.elim
      · cases hv
  | panic x =>
    simp only [resolveItem, Option.bind_eq_bind, Option.bind_eq_some_iff, Option.some.injEq] at h
    obtain ⟨rx, hx, rfl⟩ := h
    simp only [Item.vc] at hv
    split at hv
    · rename_i t v he
      refine ⟨.pan _ m, ⟨MExt.refl m, fun r w a hm ht K Q hk => ?_⟩, hv⟩
      have e1 := rvR hx (by simp [Op.operands]) ht
      rw [he] at e1
      obtain ⟨v', ex, hv'⟩ : ∃ v', a.eval x = .iface t v' ∧ VR r v v' := by
        generalize a.eval x = u at e1
        cases e1 with
        | iface t h => exact ⟨_, rfl, h⟩
      have hrun : (execOp a.eval ⟨dst, .panic x, type, pos, after, guard⟩).run P w = .halt (.panic (.iface t v')) w := by
        simp [execOp, ex, Instr.panic]
      unfold Oper.wp
      rw [hrun]
      exact hk r _ w (.iface t hv') hm (Fr.refl r m w)
    · cases hv
  | _ =>
    obtain ⟨rop, hr, rfl⟩ := other h
    exact plainOp hr hv

end
end Go.Ga
