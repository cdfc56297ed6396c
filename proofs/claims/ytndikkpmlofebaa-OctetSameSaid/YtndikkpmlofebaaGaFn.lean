/- Functions: from what is shown of the resolved body to the call. -/
import Derived.Test.YtndikkpmlofebaaGaVc
namespace Go.Ga
open Go

inductive RVar where
  | t (i : Nat)
  | c1 (i : Nat)
  | cN (i n : Nat)

structure RFn where
  n : Nat
  code : RC
  results : List RVar

def resolveVars (P : Program) (N : Nat) : List ResultVar → Option (List RVar)
  | [] => some []
  | .tmp t :: l => match resolveVars P N l with
    | some rs => if t < N then some (.t t :: rs) else none
    | none => none
  | .cell a ty :: l => match resolveVars P N l, P.underlying ty, P.info? ty with
    | some rs, some d, some i => if a < N then some ((if aggD d then .cN a i.size else .c1 a) :: rs) else none
    | _, _, _ => none

/-- The results' values. -/
def resVals (f : Regs) (m : Mem) : List RVar → Option (List Value)
  | [] => some []
  | .t i :: l => (resVals f m l).map (f i :: ·)
  | .c1 i :: l => match f i with
    | .pointer (some a) => match m.get a.block with
      | some (.cells c _) => if a.off < c.length then (resVals f m l).map (c.getD a.off undef :: ·) else none
      | _ => none
    | _ => none
  | .cN i n :: l => match f i with
    | .pointer (some a) => match m.get a.block with
      | some (.cells c _) => if a.off + n ≤ c.length then (resVals f m l).map (.agg ((c.drop a.off).take n).toArray :: ·) else none
      | _ => none
    | _ => none

def oneOrTuple : List Value → Value
  | [v] => v
  | vs => .tuple vs.toArray

/-- What is left to show where a body is left. -/
def retK (rs : List RVar) (K : Res → Mem → Prop) : AEx → Regs → Mem → Prop
  | .normal, f, m => match resVals f m rs with | some vs => K (.ret (oneOrTuple vs)) m | none => False
  | .ret, f, m => match resVals f m rs with | some vs => K (.ret (oneOrTuple vs)) m | none => False
  | .pan v, _, m => K (.pan v) m
  | .exit _, _, _ => False

def resolveFn (P : Program) (g : FuncId) : Option RFn :=
  match P.funcs[g]? with
  | some fn => match fn.body with
    | some c => if fn.name == "runtime.NumGoroutine" then none else
      match resolveCode P fn.ntmps c, resolveVars P fn.ntmps fn.results.toList with
      | some rc, some rs => some ⟨fn.ntmps, rc, rs⟩
      | _, _ => none
    | none => none
  | none => none

def resF (tmps : Array Value) : ResultVar → Sem Value
  | .tmp t => pure (tmps.getD t undef)
  | .cell x t => do loadVar t (← asAddr (tmps.getD x undef))

theorem results_eq (fn : Func) (tmps : Array Value) : results fn tmps = (do
    let vs ← fn.results.mapM (resF tmps)
    pure (if h : vs.size = 1 then vs[0] else .tuple vs)) := by
  unfold results
  congr 1

section
variable {P : Program} {N : Nat}

theorem results_run {r : Ren} {m : Mem} {w : World} {f : Regs} {a : Act} (hm : MemRel r m w) (ha : RegRel N r f a) : ∀ (vs : List ResultVar) (rs : List RVar) (l : List Value), resolveVars P N vs = some rs → resVals f m rs = some l →
    ∃ l' : List Value, (vs.mapM (m := Sem) (resF a.tmps)).run P w = .ok l' w ∧ l'.length = l.length ∧ ∀ i, VR r (l.getD i undef) (l'.getD i undef)
  | [], rs, l, h, hl => by
    simp only [resolveVars, Option.some.injEq] at h
    subst h
    simp only [resVals, Option.some.injEq] at hl
    subst hl
    exact ⟨[], rfl, rfl, fun i => by simpa using VR.und⟩
  | .tmp t :: vs, rs, l, h, hl => by
    simp only [resolveVars] at h
    split at h
    · rename_i rs1 hrs
      split at h
      · rename_i ht
        simp only [Option.some.injEq] at h
        subst h
        simp only [resVals] at hl
        cases h1 : resVals f m rs1 with
        | none => simp [h1] at hl
        | some l1 =>
          simp only [h1, Option.map_some, Option.some.injEq] at hl
          subst hl
          obtain ⟨l', g1, g2, g3⟩ := results_run hm ha vs rs1 l1 hrs h1
          refine ⟨a.tmps.getD t undef :: l', ?_, by simp [g2], fun i => ?_⟩
          · have e0 : resF a.tmps (.tmp t) = pure (a.tmps.getD t undef) := rfl
            simp only [List.mapM_cons, Sem.run_bind, e0, Sem.run_pure, Result.andThen_ok, g1]
          · cases i with
            | zero => simpa using ha.2.2 t ht
            | succ i => simpa using g3 i
      · cases h
    · cases h
  | .cell x ty :: vs, rs, l, h, hl => by
    simp only [resolveVars] at h
    split at h
    · rename_i rs1 d ti hrs hd hti
      split at h
      · rename_i hx
        simp only [Option.some.injEq] at h
        subst h
        have hrel := ha.2.2 x hx
        -- what is read
        have key : ∀ (u : Value) (l1 : List Value), resVals f m rs1 = some l1 → l = u :: l1 → (∃ u', (do loadVar ty (← asAddr (a.tmps.getD x undef))).run P w = .ok u' w ∧ VR r u u') →
            ∃ l' : List Value, ((ResultVar.cell x ty :: vs).mapM (m := Sem) (resF a.tmps)).run P w = .ok l' w ∧ l'.length = l.length ∧ ∀ i, VR r (l.getD i undef) (l'.getD i undef) := by
          intro u l1 h1 hl hu
          obtain ⟨u', hu1, hu2⟩ := hu
          obtain ⟨l', g1, g2, g3⟩ := results_run hm ha vs rs1 l1 hrs h1
          subst hl
          refine ⟨u' :: l', ?_, by simp [g2], fun i => ?_⟩
          · have e0 : resF a.tmps (.cell x ty) = (do loadVar ty (← asAddr (a.tmps.getD x undef))) := rfl
            rw [List.mapM_cons, Sem.run_bind, e0, hu1]
            simp only [Sem.run_bind, Result.andThen_ok, g1, Sem.run_pure]
          · cases i with
            | zero => simpa using hu2
            | succ i => simpa using g3 i
        by_cases hagg : aggD d = true
        · rw [if_pos hagg] at hl
          simp only [resVals] at hl
          split at hl
          · rename_i a0 ha0
            split at hl
            · rename_i c ro hg
              split at hl
              · rename_i hle
                cases h1 : resVals f m rs1 with
                | none => simp [h1] at hl
                | some l1 =>
                  simp only [h1, Option.map_some, Option.some.injEq] at hl
                  refine key _ l1 h1 hl.symm ?_
                  rw [ha0] at hrel
                  obtain ⟨a', ex, har, _⟩ := hrel.addr
                  rw [ex]
                  have hx' := hrel
                  rw [ex] at hx'
                  obtain ⟨r', u', w', hrun, hu, hm', hf⟩ := loadN_ok (P := P) hm hd (by cases d <;> simp_all [aggD]) hti hx' hg hle
                  simp only [Instr.loadAt, Instr.sureAddr, Sem.run_bind, Sem.run_pure, Result.andThen_ok] at hrun
                  obtain ⟨cs, hc1, hc2, hc3⟩ := loadCells_ok (P := P) hm har hg hle
                  refine ⟨.agg cs, ?_, VR.agg_of (by simp [hc2]; omega) fun j => ?_⟩
                  · simp only [asAddr, Sem.run_bind, Sem.run_pure, Result.andThen_ok, loadVar, isAgg_run hd, hagg, if_true, size_of hti, hc1]
                  · by_cases hj : j < ti.size
                    · have := hc3 j hj
                      simp only [List.getD_eq_getElem?_getD, List.getElem?_take, hj, if_true, List.getElem?_drop] at this ⊢
                      exact this
                    · have e : ((c.drop a0.off).take ti.size).getD j undef = undef := by
                        simp [List.getD_eq_getElem?_getD, List.getElem?_take, hj]
                      have e' : cs.getD j undef = undef := by
                        simp only [Array.getD]
                        rw [dif_neg (by omega)]
                      rw [e, e']
                      exact .und
              · cases hl
            · cases hl
          · cases hl
        · rw [if_neg hagg] at hl
          simp only [resVals] at hl
          split at hl
          · rename_i a0 ha0
            split at hl
            · rename_i c ro hg
              split at hl
              · rename_i hle
                cases h1 : resVals f m rs1 with
                | none => simp [h1] at hl
                | some l1 =>
                  simp only [h1, Option.map_some, Option.some.injEq] at hl
                  refine key _ l1 h1 hl.symm ?_
                  rw [ha0] at hrel
                  obtain ⟨a', ex, har, _⟩ := hrel.addr
                  rw [ex]
                  obtain ⟨v', hv1, hv2⟩ := load_ok (P := P) hm har hg hle
                  refine ⟨v', ?_, hv2⟩
                  have hagg' : aggD d = false := by simpa using hagg
                  simp only [asAddr, Sem.run_bind, Sem.run_pure, Result.andThen_ok, loadVar, isAgg_run hd, hagg', Bool.false_eq_true, if_false, hv1]
              · cases hl
            · cases hl
          · cases hl
      · cases h
    · cases h

theorem VR.oneOrTuple {r : Ren} {l l' : List Value} (hl : l'.length = l.length) (h : ∀ i, VR r (l.getD i undef) (l'.getD i undef)) : VR r (oneOrTuple l) (oneOrTuple l') := by
  match l, l', hl with
  | [], [], _ => exact .und
  | [v], [v'], _ => simpa [Go.Ga.oneOrTuple] using h 0
  | v :: u :: l, v' :: u' :: l', hl =>
    refine .tuple (by simpa using hl.symm) fun i => ?_
    have := h i
    rw [← toList_getD, ← toList_getD]
    exact this

/-- **A function's call comes to what is shown of its resolved body.** -/
theorem fn_sound (hmx : P.follows .mixedOrders = true) {g : FuncId} {rf : RFn} (h : resolveFn P g = some rf) {args : List Value} {m : Mem} {K : Res → Mem → Prop} (hn : args.length ≤ rf.n)
    (hv : rf.code.vc P (fun i => args.getD i undef) m (retK rf.results K)) : Fn P g args m K := by
  intro hwf
  unfold resolveFn at h
  split at h
  · rename_i fn hfn
    split at h
    · rename_i c hb
      split at h
      · cases h
      · rename_i hname
        split at h
        · rename_i rc rs hrc hrs
          simp only [Option.some.injEq] at h
          subst h
          obtain ⟨ex, f', m', hq, hx, hs⟩ := vc_sound hmx c rc _ m _ hrc hv hwf
          have start : ∀ (r : Ren) (args' : Array Value), args'.size = args.length → (∀ i, VR r (args.getD i undef) (args'.getD i undef)) →
              RegRel fn.ntmps r (fun i => args.getD i undef) { tmps := args' ++ Array.replicate (fn.ntmps - args'.size) undef, defers := [] } := by
            intro r args' hsz hva
            refine ⟨by simp; simp only at hn; omega, rfl, fun i hi => ?_⟩
            simp only
            rw [aappend_getD]
            by_cases hge : i < args'.size
            · rw [if_pos hge]
              exact hva i
            · rw [if_neg hge]
              have e1 : args.getD i undef = undef := by
                rw [List.getD_eq_getElem?_getD, List.getElem?_eq_none (by omega)]
                rfl
              have e2 : (Array.replicate (fn.ntmps - args'.size) undef).getD (i - args'.size) undef = undef := by
                simp only [Array.getD]
                split <;> simp
              rw [e1, e2]
              exact .und
          have ret : ∀ (vs : List Value), resVals f' m' rs = some vs → (ex = .normal ∨ ex = .ret) → FnEv P g args m (.ret (oneOrTuple vs)) m' := by
            intro vs hvs hex
            refine ⟨⟨fn, hfn, by simp [hb], by simpa using hname⟩, hx, fun r w args' hm hsz hva => ?_⟩
            refine calls_of_wp hfn hb (wp_mono (hs r w _ hm (start r args' hsz hva)) fun e a' w' hp => ?_)
            obtain ⟨r', he, hm', ha', hf⟩ := hp
            obtain ⟨l', g1, g2, g3⟩ := results_run (P := P) hm' ha' fn.results.toList rs vs hrs hvs
            have hres : (results fn a'.tmps).run P w' = .ok (oneOrTuple l') w' := by
              rw [results_eq, Array.mapM_eq_mapM_toList]
              simp only [Sem.run_bind, Sem.run_map, g1, Result.andThen_ok, Sem.run_pure]
              congr 1
              match l' with
              | [] => rfl
              | [v] => rfl
              | v :: u :: l => rfl
            have goal : bodyPost P fn (fun e w' => ∃ r', ResRel r' (.ret (oneOrTuple vs)) e ∧ MemRel r' m' w' ∧ Fr r r' m w w') .ret a' w' :=
              ⟨ha'.2.1, _, hres, r', VR.oneOrTuple g2 g3, hm', hf⟩
            rcases hex with rfl | rfl <;> cases e <;> first | exact he.elim | exact goal
          cases ex with
          | normal =>
            simp only [retK] at hq
            split at hq
            · rename_i vs hvs
              exact ⟨_, m', ret vs hvs (.inl rfl), hq⟩
            · cases hq
          | ret =>
            simp only [retK] at hq
            split at hq
            · rename_i vs hvs
              exact ⟨_, m', ret vs hvs (.inr rfl), hq⟩
            · cases hq
          | exit i => cases hq
          | pan v =>
            refine ⟨.pan v, m', ⟨⟨fn, hfn, by simp [hb], by simpa using hname⟩, hx, fun r w args' hm hsz hva => ?_⟩, hq⟩
            refine calls_of_wp hfn hb (wp_mono (hs r w _ hm (start r args' hsz hva)) fun e a' w' hp => ?_)
            obtain ⟨r', he, hm', ha', hf⟩ := hp
            cases e <;> first | exact he.elim | exact ⟨ha'.2.1, r', he, hm', hf⟩
        · cases h
    · cases h
  · cases h

end
end Go.Ga
