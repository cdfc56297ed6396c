/- Each operation of the machine does what its resolved form says. -/
import Derived.Test.YtndikkpmlofebaaGaOps
namespace Go.Ga
open Go

section
variable {P : Program} {r : Ren} {m : Mem} {w : World} {f : Regs}

theorem VR.of_plainV {r : Ren} {v : Value} (h : plainV v = true) : VR r v v := by
  cases v with
  | agg cs =>
    refine .agg rfl fun i => ?_
    simp only [plainV, List.all_eq_true] at h
    by_cases hi : i < cs.size
    · exact VR.of_plain (h _ (by simp [Array.getD, hi]))
    · simpa [Array.getD, hi] using VR.und
  | _ => exact VR.of_plain h

theorem VR.eq_of_plains {r : Ren} {cs : Array Value} {v' : Value} (h : VR r (.agg cs) v') (hp : cs.toList.all plain = true) : v' = .agg cs := by
  cases h with
  | agg hs hv =>
    rename_i cs'
    congr 1
    apply Array.ext hs.symm
    intro i h1 h2
    have h3 := hv i
    simp only [List.all_eq_true] at hp
    have h4 := hp cs[i] (by simp)
    have e1 : cs.getD i undef = cs[i] := by simp [Array.getD, h2]
    have e2 : cs'.getD i undef = cs'[i] := by simp [Array.getD, h1]
    rw [e1, e2] at h3
    exact h3.eq_of_plain h4

theorem pureRun_ok {α : Type} {s : Sem α} {x : α} (h : pureRun P s = some x) (w : World) : s.run P w = .ok x w := by
  induction s generalizing w with
  | pure a => simp only [pureRun, Option.some.injEq] at h; subst h; rfl
  | program k ih => simp only [pureRun] at h; exact ih _ h w
  | mark _ k ih => simp only [pureRun] at h; exact ih h w
  | _ => simp [pureRun] at h

/-! ### What the operands are -/

def resolveRv : Operand → Option Rv
  | .tmp t => some (.t t)
  | .const v => if plainV v then some (.k v) else none
  | .func g => some (.k (.func (.func g) #[] #[]))
  | .global _ => none

theorem resolveRv_rel {x : Operand} {rv : Rv} {a : Act} (h : resolveRv x = some rv) (ht : ∀ t, x = .tmp t → VR r (f t) (a.eval (.tmp t))) : VR r (rv.ev f) (a.eval x) := by
  cases x with
  | tmp t => simp only [resolveRv, Option.some.injEq] at h; subst h; exact ht t rfl
  | const v =>
    simp only [resolveRv] at h
    split at h
    · rename_i hp
      simp only [Option.some.injEq] at h; subst h; exact VR.of_plainV hp
    · cases h
  | func g =>
    simp only [resolveRv, Option.some.injEq] at h; subst h
    exact .func _ rfl fun i => by simpa [Array.getD] using VR.und
  | global g => simp [resolveRv] at h

/-- What an operation of the machine comes to, whatever the world that is related. -/
def OpEv (P : Program) (o : Oper) (f : Regs) (m : Mem) (v : Value) (m' : Mem) : Prop :=
  MExt m m' ∧ ∀ (r : Ren) (w : World) (a : Act), MemRel r m w → (∀ t, Operand.tmp t ∈ o.op.operands → VR r (f t) (a.eval (.tmp t))) →
    ∀ (K : Act → World → Prop) (Q : Exit → Act → World → Prop), (∀ r' v' w', VR r' v v' → MemRel r' m' w' → Fr r r' m w w' → K (a.put o.dst v') w') → o.wp P a w K Q

theorem OpEv.of_value {o : Oper} {v : Value} {m' : Mem} (hx : MExt m m') {s : Act → Sem Value} (he : ∀ a : Act, execOp a.eval o = (do pure (.value (← s a))))
    (h : ∀ (r : Ren) (w : World) (a : Act), MemRel r m w → (∀ t, Operand.tmp t ∈ o.op.operands → VR r (f t) (a.eval (.tmp t))) → StepOK P (s a) r m w (fun r' v' => VR r' v v') m') : OpEv P o f m v m' := by
  refine ⟨hx, fun r w a hm ht K Q hk => ?_⟩
  obtain ⟨r', v', w', hrun, hv, hm', hf⟩ := h r w a hm ht
  unfold Oper.wp
  rw [he a]
  simp only [Sem.run_bind, hrun, Result.andThen_ok, Sem.run_pure, Oper.upon]
  exact hk r' v' w' hv hm' hf

theorem OpEv.of_unit {o : Oper} {m' : Mem} (hx : MExt m m') {s : Act → Sem Unit} (he : ∀ a : Act, execOp a.eval o = (do s a; pure .skip))
    (h : ∀ (r : Ren) (w : World) (a : Act), MemRel r m w → (∀ t, Operand.tmp t ∈ o.op.operands → VR r (f t) (a.eval (.tmp t))) → StepOK P (s a) r m w (fun _ _ => True) m') : OpEv P o f m undef m' := by
  refine ⟨hx, fun r w a hm ht K Q hk => ?_⟩
  obtain ⟨r', v', w', hrun, _, hm', hf⟩ := h r w a hm ht
  unfold Oper.wp
  rw [he a]
  simp only [Sem.run_bind, hrun, Result.andThen_ok, Sem.run_pure, Oper.upon]
  exact hk r' undef w' .und hm' hf

/-! ### Values -/

theorem binI_ok {op : BinOp} {k : IntKind} {a b : Int} {K : Value → Prop} (hs : op ≠ .shl) (hs2 : op ≠ .shr) (h : binI op k a b K) (t : TypeId) :
    ∃ v, K v ∧ plain v = true ∧ ∀ w, (binOp op t (.int k a) (.int k b)).run P w = .ok v w := by
  cases op <;> simp only [binI] at h <;> first
    | exact absurd rfl hs
    | exact absurd rfl hs2
    | exact ⟨_, h, rfl, fun w => by simp [binOp, Op.intArith, Op.intBits, Op.intCmp, bitsV]⟩
    | (obtain ⟨hb, h⟩ := h
       exact ⟨_, h, rfl, fun w => by simp [binOp, Op.intDiv, hb]⟩)
    | cases h

theorem binK_ok {op : BinOp} {x y : Value} {K : Value → Prop} (h : binK op x y K) (t : TypeId) :
    plain x = true ∧ plain y = true ∧ ∃ v, K v ∧ plain v = true ∧ ∀ w, (binOp op t x y).run P w = .ok v w := by
  unfold binK at h
  split at h
  · refine ⟨rfl, rfl, ?_⟩
    rename_i k a k' b
    split at h
    · obtain ⟨hb, h⟩ := h
      refine ⟨_, h, rfl, fun w => ?_⟩
      simp [binOp, Op.shift, shlV, show ¬ b < 0 by omega]
    · obtain ⟨hb, h⟩ := h
      refine ⟨_, h, rfl, fun w => ?_⟩
      simp [binOp, Op.shift, shrV, show ¬ b < 0 by omega]
    · rename_i h1 h2
      obtain ⟨rfl, h⟩ := h
      exact binI_ok (fun e => h1 e) (fun e => h2 e) h t
  · refine ⟨rfl, rfl, ?_⟩
    rename_i a b
    cases op <;> simp only [binS] at h <;> first
      | exact ⟨_, h, rfl, fun w => by simp [binOp, Op.stringOp]⟩
      | (obtain ⟨hb, h⟩ := h
         exact ⟨_, h, rfl, fun w => by simp only [binOp, Op.stringOp]; rw [if_neg (by omega)]; rfl⟩)
      | cases h
  · cases h

theorem unK_ok {op : UnOp} {x : Value} {K : Value → Prop} (h : unK op x K) :
    plain x = true ∧ ∃ v, K v ∧ plain v = true ∧ ∀ w, (Op.unary op x).run P w = .ok v w := by
  unfold unK at h
  split at h
  · exact ⟨rfl, _, h, rfl, fun w => rfl⟩
  · exact ⟨rfl, _, h, rfl, fun w => rfl⟩
  · exact ⟨rfl, _, h, rfl, fun w => rfl⟩
  · cases h

theorem isNil_rel {nk : NilK} {x x' : Value} {b : Bool} (h : VR r x x') (hn : isNilV nk x = some b) : isNilV nk x' = some b := by
  cases h <;> cases nk <;> simp_all [isNilV, undef, botV]

end
end Go.Ga
