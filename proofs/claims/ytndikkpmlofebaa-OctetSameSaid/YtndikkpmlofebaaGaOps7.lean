/- The resolved form of an operation is sound. -/
import Derived.Test.YtndikkpmlofebaaGaOps6
namespace Go.Ga
open Go

section
variable {P : Program} {f : Regs} {m : Mem} {K : Value → Mem → Prop}

/-- What is claimed of an operation. -/
def Sound (P : Program) (o : Oper) (f : Regs) (m : Mem) (K : Value → Mem → Prop) : Prop := ∃ v m', OpEv P o f m v m' ∧ K v m'

theorem Sound.plain {o : Oper} {v : Value} (hk : K v m) (h : ∀ (r : Ren) (w : World) (a : Act), MemRel r m w → (∀ t, Operand.tmp t ∈ o.op.operands → VR r (f t) (a.eval (.tmp t))) →
    ∃ v', (execOp a.eval o).run P w = .ok (.value v') w ∧ VR r v v') : Sound P o f m K :=
  ⟨v, m, OpEv.of_run (MExt.refl m) fun r w a hm ht => by
    obtain ⟨v', h1, h2⟩ := h r w a hm ht
    exact ⟨r, v', w, .inl h1, h2, hm, Fr.refl r m w⟩, hk⟩

/-- .. of one whose text is a computation of a value. -/
theorem Sound.step {o : Oper} {v : Value} {m' : Mem} (hk : K v m') (hx : MExt m m') (s : Act → Sem Value) (he : ∀ (a : Act), execOp a.eval o = (do pure (.value (← s a))))
    (h : ∀ (r : Ren) (w : World) (a : Act), MemRel r m w → (∀ t, Operand.tmp t ∈ o.op.operands → VR r (f t) (a.eval (.tmp t))) → StepOK P (s a) r m w (fun r' v' => VR r' v v') m') : Sound P o f m K :=
  ⟨v, m', OpEv.of_value hx he h, hk⟩

theorem rvR {r : Ren} {a : Act} {x : Operand} {rv : Rv} {ops : Array Operand} (hr : resolveRv x = some rv) (hx : x ∈ ops) (ht : ∀ t, Operand.tmp t ∈ ops → VR r (f t) (a.eval (.tmp t))) : VR r (rv.ev f) (a.eval x) :=
  resolveRv_rel hr fun t e => by subst e; exact ht t hx

variable {d : Option Tmp} {ty : TypeId} {pos : String} {af : Array Edge} {gd : Option (Nat × Bool)} {rop : ROp}

theorem sound_move {x : Operand} (h : resolveOp P (.move x) = some rop) (hv : rop.vc P f m K) : Sound P ⟨d, .move x, ty, pos, af, gd⟩ f m K := by
  simp only [resolveOp, Option.bind_eq_bind, Option.bind_eq_some_iff, Option.some.injEq] at h
  obtain ⟨rv, hr, rfl⟩ := h
  exact .plain hv fun r w a hm ht => ⟨_, rfl, rvR hr (by simp [Op.operands]) ht⟩

theorem sound_assign {x : Operand} (h : resolveOp P (.assign x) = some rop) (hv : rop.vc P f m K) : Sound P ⟨d, .assign x, ty, pos, af, gd⟩ f m K := by
  simp only [resolveOp, Option.bind_eq_bind, Option.bind_eq_some_iff, Option.some.injEq] at h
  obtain ⟨rv, hr, rfl⟩ := h
  exact .plain hv fun r w a hm ht => ⟨_, rfl, rvR hr (by simp [Op.operands]) ht⟩

theorem sound_pick {c x y : Operand} (h : resolveOp P (.pick c x y) = some rop) (hv : rop.vc P f m K) : Sound P ⟨d, .pick c x y, ty, pos, af, gd⟩ f m K := by
  simp only [resolveOp, Option.bind_eq_bind, Option.bind_eq_some_iff, Option.some.injEq] at h
  obtain ⟨rc, hc, rx, hx, ry, hy, rfl⟩ := h
  simp only [ROp.vc] at hv
  split at hv
  · rename_i b hb
    refine .plain hv fun r w a hm ht => ?_
    have h1 := rvR hc (by simp [Op.operands]) ht
    have h2 := rvR hx (by simp [Op.operands]) ht
    have h3 := rvR hy (by simp [Op.operands]) ht
    rw [hb] at h1
    cases h1' : a.eval c <;> rw [h1'] at h1 <;> cases h1
    refine ⟨if b then a.eval x else a.eval y, by simp [execOp, asBool, h1'], ?_⟩
    cases b <;> assumption
  · cases hv

theorem zeroOf_spec {t : TypeId} {i : TypeInfo} {z : Value} (h : zeroOf P t = some (i, z)) : P.info? t = some i ∧ i.zero = some z ∧ z.cells.toList.all plain = true := by
  unfold zeroOf at h
  split at h
  · rename_i i' hi
    split at h
    · rename_i z' hz
      split at h
      · rename_i hp
        simp only [Option.some.injEq, Prod.mk.injEq] at h
        obtain ⟨rfl, rfl⟩ := h
        exact ⟨hi, hz, hp⟩
      · cases h
    · cases h
  · cases h

theorem sound_alloc {t : TypeId} (h : resolveOp P (.alloc t) = some rop) (hv : rop.vc P f m K) (hwf : m.bar ≤ m.next) : Sound P ⟨d, .alloc t, ty, pos, af, gd⟩ f m K := by
  simp only [resolveOp, Option.bind_eq_bind, Option.bind_eq_some_iff, Option.some.injEq] at h
  obtain ⟨⟨i, z⟩, hz, rfl⟩ := h
  obtain ⟨h1, h2, h3⟩ := zeroOf_spec hz
  exact .step hv (MExt.add hwf _) (fun _ => Instr.alloc t true (.tuple #[])) (fun _ => rfl) fun r w a hm ht => new_ok hm h1 h2 h3

theorem sound_box {t : TypeId} {x : Operand} (h : resolveOp P (.box t x) = some rop) (hv : rop.vc P f m K) (hwf : m.bar ≤ m.next) : Sound P ⟨d, .box t x, ty, pos, af, gd⟩ f m K := by
  simp only [resolveOp, Option.bind_eq_bind, Option.bind_eq_some_iff, Option.some.injEq] at h
  obtain ⟨rv, hr, rfl⟩ := h
  simp only [ROp.vc] at hv
  split at hv
  · rename_i l hl
    exact .step hv (MExt.add hwf _) (fun a => Instr.box t (a.eval x)) (fun _ => rfl) fun r w a hm ht => box_ok hm (rvR hr (by simp [Op.operands]) ht) hl
  · cases hv

theorem resolveParts_spec {place : Nat → Option (Nat × Nat)} {a : Act} {r : Ren} : ∀ {parts : List (Nat × Operand)} {rp : List (Nat × Nat × Rv)}, resolveParts place parts = some rp → (∀ p ∈ parts, ∀ t, p.2 = .tmp t → VR r (f t) (a.eval (.tmp t))) →
    rp.length = (parts.map fun p => (p.1, a.eval p.2)).length ∧ ∀ (i : Nat) p q, rp[i]? = some p → (parts.map fun p => (p.1, a.eval p.2))[i]? = some q → place q.1 = some (p.1, p.2.1) ∧ VR r (p.2.2.ev f) q.2
  | [], rp, h, _ => by
    simp only [resolveParts, Option.some.injEq] at h
    subst h
    exact ⟨rfl, fun i p q hp _ => by simp at hp⟩
  | (j, x) :: l, rp, h, ht => by
    simp only [resolveParts] at h
    split at h
    · rename_i off sz rx rs hp hr hrs
      simp only [Option.some.injEq] at h
      subst h
      obtain ⟨h1, h2⟩ := resolveParts_spec hrs (fun p hp => ht p (by simp [hp]))
      refine ⟨by simpa using h1, fun i p q hpi hqi => ?_⟩
      cases i with
      | zero =>
        simp only [List.map_cons, List.getElem?_cons_zero, Option.some.injEq] at hpi hqi
        subst hpi hqi
        exact ⟨hp, resolveRv_rel hr fun t e => ht (j, x) (by simp) t e⟩
      | succ i =>
        simp only [List.map_cons, List.getElem?_cons_succ] at hpi hqi
        exact h2 i p q hpi hqi
    · cases h

theorem zero_rel {r : Ren} {z : Value} (h : z.cells.toList.all plain = true) (i : Nat) : VR r (z.cells.toList.getD i undef) (z.cells.getD i undef) := by
  rw [toList_getD]
  by_cases hi : i < z.cells.size
  · simp only [List.all_eq_true] at h
    exact VR.of_plain (h _ (by simp [Array.getD, hi]))
  · simpa [Array.getD, hi] using VR.und

theorem VR.agg_of {r : Ren} {l : List Value} {c : Array Value} (hs : c.size = l.length) (h : ∀ i, VR r (l.getD i undef) (c.getD i undef)) : VR r (.agg l.toArray) (.agg c) :=
  .agg (by simp [hs]) fun i => by
    have := h i
    rw [← toList_getD l.toArray]
    exact this

theorem mapM_places (fields : Array Field) (h : ∀ fl ∈ fields.toList, (P.info? fl.type).isSome) (w : World) :
    ∃ places : Array (Nat × Nat), (fields.mapM (m := Sem) fun (fl : Field) => do pure (fl.offset, ← sizeOf fl.type)).run P w = .ok places w ∧ ∀ i, places[i]? = structPlace P fields i := by
  have key : ∀ (l : List Field), (∀ fl ∈ l, (P.info? fl.type).isSome) → ∃ pl : List (Nat × Nat), (l.mapM (m := Sem) fun (fl : Field) => do pure (fl.offset, ← sizeOf fl.type)).run P w = .ok pl w ∧ ∀ i : Nat, pl[i]? = (l[i]?).bind fun (fl : Field) => (P.info? fl.type).map fun ti => (fl.offset, ti.size) := by
    intro l
    induction l with
    | nil => intro _; exact ⟨[], rfl, fun i => by simp⟩
    | cons fl l ih =>
      intro hl
      obtain ⟨pl, hrun, hpl⟩ := ih (fun x hx => hl x (by simp [hx]))
      obtain ⟨ti, hti⟩ := Option.isSome_iff_exists.1 (hl fl (by simp))
      refine ⟨(fl.offset, ti.size) :: pl, ?_, fun i => ?_⟩
      · simp only [List.mapM_cons, Sem.run_bind, size_of hti, Result.andThen_ok, Sem.run_pure, hrun]
      · cases i with
        | zero => simp [hti]
        | succ i => simpa using hpl i
  obtain ⟨pl, hrun, hpl⟩ := key fields.toList h
  refine ⟨pl.toArray, ?_, fun i => ?_⟩
  · rw [Array.mapM_eq_mapM_toList, Sem.run_map, hrun]
    rfl
  · simp only [List.getElem?_toArray, hpl i, structPlace]
    cases hf : fields[i]? with
    | none => simp [hf]
    | some fl => simp [hf]

theorem sound_build {t : TypeId} {parts : Array (Nat × Operand)} (h : resolveOp P (.build t parts) = some rop) (hv : rop.vc P f m K) : Sound P ⟨d, .build t parts, ty, pos, af, gd⟩ f m K := by
  simp only [resolveOp, Option.bind_eq_bind, Option.bind_eq_some_iff] at h
  obtain ⟨⟨i, z⟩, hz, h⟩ := h
  obtain ⟨h1, h2, h3⟩ := zeroOf_spec hz
  have hzr : ∀ w, (zeroValue t).run P w = .ok z w := fun w => by simp [zeroValue, typeInfo, h1, h2]
  have hparts : ∀ (a : Act), (parts.map fun (x : Nat × Operand) => (x.1, a.eval x.2)).toList = parts.toList.map fun p => (p.1, a.eval p.2) := fun a => by simp
  have done : ∀ {place rp}, resolveParts place parts.toList = some rp → (ROp.build z.cells.toList rp).vc P f m K → (∀ (w : World) (c2 : Array Value) (a : Act), Instr.fill place z.cells (parts.toList.map fun p => (p.1, a.eval p.2)) = some c2 →
      (Instr.build t (parts.map fun (x : Nat × Operand) => (x.1, a.eval x.2))).run P w = .ok (.agg c2) w) → Sound P ⟨d, .build t parts, ty, pos, af, gd⟩ f m K := by
    intro place rp hrp hv hrun
    simp only [ROp.vc] at hv
    split at hv
    · rename_i l hl
      refine .plain hv fun r w a hm ht => ?_
      obtain ⟨hlen, hp⟩ := resolveParts_spec (a := a) (r := r) hrp (fun p hp t e => ht t (by
        simp only [Op.operands, List.mem_toArray, List.mem_map]
        exact ⟨p, hp, e⟩))
      obtain ⟨c2, hc, hs2, _, hv2⟩ := fill_ok (r := r) (f := f) (place := place) rp _ z.cells.toList z.cells hlen hp (by simp) (fun i => zero_rel h3 i) hl
      exact ⟨.agg c2, by simp only [execOp, Sem.run_bind, hrun w c2 a hc, Result.andThen_ok, Sem.run_pure], VR.agg_of hs2 hv2⟩
    · cases hv
  split at h
  · rename_i fields hf
    split at h
    · rename_i hall
      simp only [Option.bind_eq_some_iff, Option.some.injEq] at h
      obtain ⟨rp, hrp, rfl⟩ := h
      refine done hrp hv fun w c2 a hc => ?_
      obtain ⟨places, hpl, hpe⟩ := mapM_places (P := P) fields (by rw [List.all_eq_true] at hall; exact hall) w
      have hpe' : (fun i => places[i]?) = structPlace P fields := funext hpe
      simp only [Instr.build, Sem.run_bind, hzr, Result.andThen_ok, run_underlying hf, hpl, hpe', hparts, hc, Sem.run_pure]
    · cases h
  · rename_i n e hf
    simp only [Option.bind_eq_some_iff, Option.some.injEq] at h
    obtain ⟨ti, hti, rp, hrp, rfl⟩ := h
    refine done hrp hv fun w c2 a hc => ?_
    simp only [Instr.build, Sem.run_bind, hzr, Result.andThen_ok, run_underlying hf, size_of hti, hparts, hc, Sem.run_pure]
  · cases h

theorem sound_buildSlice {t : TypeId} {len : Nat} {parts : Array (Nat × Operand)} (h : resolveOp P (.buildSlice t len parts) = some rop) (hv : rop.vc P f m K) (hwf : m.bar ≤ m.next) : Sound P ⟨d, .buildSlice t len parts, ty, pos, af, gd⟩ f m K := by
  simp only [resolveOp] at h
  split at h
  · rename_i e he
    simp only [Option.bind_eq_bind, Option.bind_eq_some_iff] at h
    obtain ⟨⟨i, z⟩, hz, h⟩ := h
    obtain ⟨h1, h2, h3⟩ := zeroOf_spec hz
    split at h
    · rename_i hc
      have hc : z.cells.size = i.size ∧ 0 < i.size ∧ len * i.size ≤ 16777216 := hc
      simp only [Option.bind_eq_some_iff, Option.some.injEq] at h
      obtain ⟨rp, hrp, rfl⟩ := h
      simp only [ROp.vc] at hv
      split at hv
      · rename_i l hl
        refine .step hv (MExt.add hwf _) (fun a => Instr.buildSlice t len (parts.map fun (x : Nat × Operand) => (x.1, a.eval x.2))) (fun _ => rfl) fun r w a hm ht => ?_
        obtain ⟨hlen, hp⟩ := resolveParts_spec (a := a) (r := r) hrp (fun p hp t e => ht t (by
          simp only [Op.operands, List.mem_toArray, List.mem_map]
          exact ⟨p, hp, e⟩))
        let zero : Array Value := if len * i.size = 0 then #[] else z.cells
        have hz0 : 0 < z.cells.size := by omega
        have hcell : ∀ j, VR r (((List.range (len * i.size)).map fun j => z.cells.toList.getD (j % z.cells.toList.length) undef).getD j undef) (((Array.range (len * i.size)).map (zero[· % zero.size]!)).getD j undef) := by
          intro j
          by_cases hj : j < len * i.size
          · have hzz : zero = z.cells := by simp only [zero]; rw [if_neg (by omega)]
            have hlt : j % z.cells.size < z.cells.size := Nat.mod_lt _ hz0
            have e1 : ((List.range (len * i.size)).map fun j => z.cells.toList.getD (j % z.cells.toList.length) undef).getD j undef = z.cells.toList.getD (j % z.cells.toList.length) undef := by
              simp [List.getD_eq_getElem?_getD, hj]
            have e2 : ((Array.range (len * i.size)).map (zero[· % zero.size]!)).getD j undef = z.cells.getD (j % z.cells.size) undef := by
              simp [Array.getD, hj, hzz, hlt]
            rw [e1, e2]
            have := zero_rel (r := r) h3 (j % z.cells.size)
            simpa using this
          · have e2 : ((Array.range (len * i.size)).map (zero[· % zero.size]!)).getD j undef = undef := by simp [Array.getD, hj]
            have e1 : ((List.range (len * i.size)).map fun j => z.cells.toList.getD (j % z.cells.toList.length) undef).getD j undef = undef := by
              simp [List.getD_eq_getElem?_getD, hj]
            rw [e1, e2]
            exact .und
        obtain ⟨c2, hfill, hs2, hl2, hv2⟩ := fill_ok (r := r) (f := f) (place := fun k => some (k * i.size, i.size)) rp _ _ ((Array.range (len * i.size)).map (zero[· % zero.size]!)) hlen hp (by simp) hcell hl
        obtain ⟨r', w', hrun, g1, g2, g3⟩ := newRow_step (P := P) hm e l c2 (by omega) (fun j _ => hv2 j)
        have hparts : (parts.map fun (x : Nat × Operand) => (x.1, a.eval x.2)).toList = parts.toList.map fun p => (p.1, a.eval p.2) := by simp
        refine ⟨r', .slice (some ⟨w.heap.size, 0, none⟩) len len, w', ?_, VR.new_slice g3, g1, g2⟩
        by_cases hn0 : len * i.size = 0
        · have hzz : zero = #[] := by simp [zero, hn0]
          rw [hzz] at hfill
          rw [hn0] at hfill
          simp at hfill
          simp [Instr.buildSlice, run_underlying he, sizeOf, typeInfo, h1, hn0, hfill, hrun]
        · have hzz : zero = z.cells := by simp [zero, hn0]
          rw [hzz] at hfill
          have hbig' : ¬ (16777216 < len * i.size) := by omega
          simp [Instr.buildSlice, run_underlying he, sizeOf, typeInfo, zeroValue, h1, h2, hn0, hbig', hfill, hrun]
      · cases hv
    · cases h
  · cases h

end
end Go.Ga
