/- Each operation of the machine does what its resolved form says: memory. -/
import Derived.Test.YtndikkpmlofebaaGaOpsOk
namespace Go.Ga
open Go

section
variable {P : Program} {r : Ren} {m : Mem} {w : World} {f : Regs}

theorem OpEv.of_run {o : Oper} {v : Value} {m' : Mem} (hx : MExt m m')
    (h : ∀ (r : Ren) (w : World) (a : Act), MemRel r m w → (∀ t, Operand.tmp t ∈ o.op.operands → VR r (f t) (a.eval (.tmp t))) →
      ∃ r' v' w', ((execOp a.eval o).run P w = .ok (.value v') w' ∨ ((execOp a.eval o).run P w = .ok .skip w' ∧ v' = undef)) ∧ VR r' v v' ∧ MemRel r' m' w' ∧ Fr r r' m w w') : OpEv P o f m v m' := by
  refine ⟨hx, fun r w a hm ht K Q hk => ?_⟩
  obtain ⟨r', v', w', hrun, hv, hm', hf⟩ := h r w a hm ht
  unfold Oper.wp
  rcases hrun with hrun | ⟨hrun, rfl⟩
  · rw [hrun]; exact hk r' v' w' hv hm' hf
  · rw [hrun]; exact hk r' undef w' hv hm' hf

theorem addr_add' {a : Addr} (h : a.spot = none) (k : Nat) : a.add k = ⟨a.block, a.off + k, none⟩ := by
  obtain ⟨b, o, s⟩ := a
  simp only at h
  subst h
  exact addr_add b o k

theorem AR.add {n off : Nat} {a' : Addr} (h : AR r n off a') (k : Nat) : AR r n (off + k) (a'.add k) := by
  obtain ⟨hs, l, hl, hat⟩ := h
  rw [addr_add' hs]
  refine ⟨rfl, l, hl, fun cb base csz e => ?_⟩
  obtain ⟨h1, h2⟩ := hat cb base csz e
  exact ⟨h1, by simp only; omega⟩

theorem VR.addr {a : Addr} {v' : Value} (h : VR r (.pointer (some a)) v') : ∃ a', v' = .pointer (some a') ∧ AR r a.block a.off a' ∧ a.spot = none := by
  cases h with
  | ptr hs h => exact ⟨_, rfl, h, hs⟩

/-- A cell is read. -/
theorem load1_ok (hm : MemRel r m w) {t : TypeId} {d : TypeDesc} (ht : P.underlying t = some d) (hd : (match d with | .struct _ | .array _ _ => true | _ => false) = false) {a : Addr} {x' : Value} (hx : VR r (.pointer (some a)) x')
    {l : List Value} {ro : Bool} (hg : m.get a.block = some (.cells l ro)) (hk : a.off < l.length) : StepOK P (Instr.loadAt t x') r m w (fun r' v' => VR r' (l.getD a.off undef) v') m := by
  obtain ⟨a', rfl, ha, _⟩ := hx.addr
  obtain ⟨v', hrun, hv⟩ := load_ok (P := P) hm ha hg hk
  refine .pure hm (v' := v') ?_ hv
  simp only [Instr.loadAt, Instr.sureAddr, loadVar, isAgg, Sem.run_bind, Sem.run_pure, Result.andThen_ok, run_underlying ht, Sem.run_ite]
  cases d <;> simp_all

theorem loadN_ok (hm : MemRel r m w) {t : TypeId} {d : TypeDesc} (ht : P.underlying t = some d) (hd : (match d with | .struct _ | .array _ _ => true | _ => false) = true) {i : TypeInfo} (hi : P.info? t = some i) {a : Addr} {x' : Value}
    (hx : VR r (.pointer (some a)) x') {l : List Value} {ro : Bool} (hg : m.get a.block = some (.cells l ro)) (hk : a.off + i.size ≤ l.length) :
    StepOK P (Instr.loadAt t x') r m w (fun r' v' => VR r' (.agg ((l.drop a.off).take i.size).toArray) v') m := by
  obtain ⟨a', rfl, ha, _⟩ := hx.addr
  obtain ⟨cs, hrun, hsz, hv⟩ := loadCells_ok (P := P) hm ha hg hk
  refine .pure hm (v' := .agg cs) ?_ (.agg (by simp [hsz]; omega) fun j => ?_)
  · have hs : (sizeOf t).run P w = .ok i.size w := by simp [sizeOf, typeInfo, hi]
    have ha : (isAgg t).run P w = .ok true w := by
      simp only [isAgg, Sem.run_bind, run_underlying ht, Result.andThen_ok]
      cases d <;> simp_all
    simp only [Instr.loadAt, Instr.sureAddr, loadVar, Sem.run_bind, Sem.run_pure, Result.andThen_ok, ha, if_true, hs, hrun]
  · by_cases hj : j < i.size
    · have := hv j hj
      rw [← toList_getD]
      simp only [List.getD_eq_getElem?_getD, List.getElem?_take, hj, if_true, List.getElem?_drop] at this ⊢
      exact this
    · rw [← toList_getD]
      have e : ((l.drop a.off).take i.size).toArray.toList.getD j undef = undef := by
        simp [List.getD_eq_getElem?_getD, List.getElem?_take, hj]
      have e' : cs.getD j undef = undef := by
        simp only [Array.getD]
        rw [dif_neg (by omega)]
      rw [e, e']
      exact .und

theorem writeK_elim {a : Addr} {off : Nat} {vs : List Value} {K : Mem → Prop} (h : writeK m a off vs K) :
    ∃ l, m.get a.block = some (.cells l false) ∧ m.bar ≤ a.block ∧ a.off + off + vs.length ≤ l.length ∧ (∀ v ∈ vs, cellVal v = true) ∧ K (m.put a.block (.cells (splice l (a.off + off) vs) false)) := by
  unfold writeK at h
  split at h
  · rename_i l hl
    exact ⟨l, hl, h.1, h.2.1, h.2.2.1, h.2.2.2⟩
  · cases h

theorem store_ok (hm : MemRel r m w) {t : TypeId} {i : TypeInfo} (hi : P.info? t = some i) {a : Addr} {x' y y' : Value} (hx : VR r (.pointer (some a)) x') (hy : VR r y y') {vs : List Value} (hvs : cellsV y = some vs) (hn : vs.length = i.size)
    {l : List Value} (hg : m.get a.block = some (.cells l false)) (hbar : m.bar ≤ a.block) (hk : a.off + 0 + vs.length ≤ l.length) (h1 : ∀ v ∈ vs, cellVal v = true) :
    StepOK P (Instr.storeAt t x' y') r m w (fun _ _ => True) (m.put a.block (.cells (splice l (a.off + 0) vs) false)) := by
  obtain ⟨a', rfl, ha, _⟩ := hx.addr
  obtain ⟨hsz, hv⟩ := hy.cells hvs
  obtain ⟨w', hrun, hm', hf⟩ := storeCells_ok (P := P) hm ha hg hbar vs y'.cells.toList (by omega) (by simpa using hsz) (fun j hj => by rw [toList_getD y'.cells]; exact hv j) h1
  refine ⟨r, (), w', ?_, trivial, by simpa using hm', hf⟩
  have hs : (sizeOf t).run P w = .ok i.size w := by simp [sizeOf, typeInfo, hi]
  simp only [Instr.storeAt, Instr.sureAddr, storeVar, Sem.run_bind, Sem.run_pure, Result.andThen_ok, hs, Sem.run_ite]
  rw [if_neg (by rw [hsz, hn]; simp)]
  exact hrun

/-- A new row, as a step. -/
theorem newRow_step (hm : MemRel r m w) (elem : TypeId) (l : List Value) (c : Array Value) (hle : l.length ≤ c.size) (hv : ∀ i, i < l.length → VR r (l.getD i undef) (c.getD i undef)) :
    ∃ r' w', (newRow elem c).run P w = .ok ⟨w.heap.size, 0, none⟩ w' ∧ MemRel r' (m.add (.cells l false)) w' ∧ Fr r r' m w w' ∧ r' m.next = some (.at w.heap.size 0 c.size) := by
  obtain ⟨r', h1, h2, h3⟩ := newRow_ok hm elem l c hle hv w.drawn
  exact ⟨r', _, by simp only [newRow, Sem.run_bind, run_newObj, Result.andThen_ok, Sem.run_pure], h1, h2, h3⟩

theorem VR.new_ptr {r : Ren} {n cb csz : Nat} (h : r n = some (.at cb 0 csz)) : VR r (.pointer (some ⟨n, 0, none⟩)) (.pointer (some ⟨cb, 0, none⟩)) :=
  .ptr rfl ⟨rfl, _, h, fun _ _ _ e => by injection e with e1 e2 e3; exact ⟨e1, by simp only; omega⟩⟩

theorem VR.new_slice {r : Ren} {n cb csz k : Nat} (h : r n = some (.at cb 0 csz)) : VR r (.slice (some ⟨n, 0, none⟩) k k) (.slice (some ⟨cb, 0, none⟩) k k) :=
  .slice (Nat.le_refl _) ⟨Nat.le_refl _, .inr ⟨rfl, _, h, fun _ _ _ e => by injection e with e1 e2 e3; exact ⟨e1, by simp only; omega⟩⟩, (fun e he => nomatch he), fun _ => rfl⟩

theorem new_ok (hm : MemRel r m w) {t : TypeId} {i : TypeInfo} {z : Value} (hi : P.info? t = some i) (hz : i.zero = some z) (hp : z.cells.toList.all plain = true) :
    StepOK P (Instr.alloc t true (.tuple #[])) r m w (fun r' v' => VR r' (.pointer (some ⟨m.next, 0, none⟩)) v') (m.add (.cells z.cells.toList false)) := by
  obtain ⟨r', w', hrun, h1, h2, h3⟩ := newRow_step (P := P) hm t z.cells.toList z.cells (by simp) (fun j hj => by
    rw [toList_getD]
    simp only [List.all_eq_true] at hp
    have hj' : j < z.cells.size := by simpa using hj
    exact VR.of_plain (hp _ (by simp [Array.getD, hj'])))
  refine ⟨r', _, w', ?_, VR.new_ptr h3, h1, h2⟩
  have hzr : (zeroValue t).run P w = .ok z w := by simp [zeroValue, typeInfo, hi, hz]
  simp only [Instr.alloc, newVar, Sem.run_bind, hzr, Result.andThen_ok, hrun, Sem.run_pure]

theorem box_ok (hm : MemRel r m w) {t : TypeId} {x x' : Value} (hx : VR r x x') {l : List Value} (hl : cellsV x = some l) :
    StepOK P (Instr.box t x') r m w (fun r' v' => VR r' (.pointer (some ⟨m.next, 0, none⟩)) v') (m.add (.cells l false)) := by
  obtain ⟨hsz, hv⟩ := hx.cells hl
  obtain ⟨r', w', hrun, h1, h2, h3⟩ := newRow_step (P := P) hm t l x'.cells (by omega) (fun j _ => hv j)
  refine ⟨r', _, w', ?_, VR.new_ptr h3, h1, h2⟩
  simp only [Instr.box, newVar, Sem.run_bind, Result.andThen_ok, hrun, Sem.run_pure]

/-! ### Aggregates -/

theorem foldl_set_getD (off : Nat) : ∀ (vs : List Value) (k : Nat) (cs : Array Value), off + k + vs.length ≤ cs.size →
    ((vs.zipIdx k).foldl (fun (cs : Array Value) (p : Value × Nat) => cs.setIfInBounds (off + p.2) p.1) cs).size = cs.size ∧
    ∀ j, ((vs.zipIdx k).foldl (fun (cs : Array Value) (p : Value × Nat) => cs.setIfInBounds (off + p.2) p.1) cs).getD j undef =
      if off + k ≤ j ∧ j < off + k + vs.length then vs.getD (j - (off + k)) undef else cs.getD j undef
  | [], k, cs, _ => ⟨rfl, fun j => by rw [if_neg (by simp only [List.length_nil]; omega)]; rfl⟩
  | v :: vs, k, cs, h => by
    simp only [List.length_cons] at h
    obtain ⟨h1, h2⟩ := foldl_set_getD off vs (k + 1) (cs.setIfInBounds (off + k) v) (by simp; omega)
    simp only [List.zipIdx_cons, List.foldl_cons]
    refine ⟨by rw [h1]; simp, fun j => ?_⟩
    rw [h2 j]
    by_cases hj : j = off + k
    · subst hj
      rw [if_neg (by omega), if_pos (by simp)]
      simp [Array.getD, show off + k < cs.size by omega]
    · by_cases hj2 : off + (k + 1) ≤ j ∧ j < off + (k + 1) + vs.length
      · rw [if_pos hj2, if_pos (by simp; omega)]
        rw [show j - (off + k) = (j - (off + (k + 1))) + 1 by omega]
        simp
      · rw [if_neg hj2, if_neg (by simp; omega)]
        simp only [Array.getD]
        by_cases hjs : j < cs.size
        · simp [hjs, show ¬ (off + k = j) by omega]
        · simp [hjs]

theorem fill_ok {place : Nat → Option (Nat × Nat)} : ∀ (parts : List (Nat × Nat × Rv)) (cparts : List (Nat × Value)) (l : List Value) (c : Array Value), parts.length = cparts.length →
    (∀ (i : Nat) p q, parts[i]? = some p → cparts[i]? = some q → place q.1 = some (p.1, p.2.1) ∧ VR r (p.2.2.ev f) q.2) → c.size = l.length → (∀ i, VR r (l.getD i undef) (c.getD i undef)) → ∀ {l2}, fillL l f parts = some l2 →
    ∃ c2, Instr.fill place c cparts = some c2 ∧ c2.size = l2.length ∧ l2.length = l.length ∧ ∀ i, VR r (l2.getD i undef) (c2.getD i undef)
  | [], [], l, c, _, _, hc, hv, l2, h => by
    simp only [fillL, Option.some.injEq] at h
    subst h
    exact ⟨c, rfl, hc, rfl, hv⟩
  | [], _ :: _, _, _, h, _, _, _, _, _ => by cases h
  | _ :: _, [], _, _, h, _, _, _, _, _ => by cases h
  | (off, sz, x) :: parts, (i, v) :: cparts, l, c, hlen, hp, hc, hv, l2, h => by
    simp only [fillL] at h
    split at h
    · rename_i vs hvs
      split at h
      · rename_i hcond
        obtain ⟨hpl, hxv⟩ := hp 0 _ _ rfl rfl
        simp only at hpl hxv
        obtain ⟨hsz, hcv⟩ := hxv.cells hvs
        have hf := foldl_set_getD off v.cells.toList 0 c (by simp only [Array.length_toList]; omega)
        have hz : (v.cells.zipIdx.foldl (fun cs (c, j) => cs.setIfInBounds (off + j) c) c) = ((v.cells.toList.zipIdx 0).foldl (fun (cs : Array Value) (p : Value × Nat) => cs.setIfInBounds (off + p.2) p.1) c) := by
          rw [← Array.foldl_toList, Array.toList_zipIdx]
        obtain ⟨c2, h1, h2, h3, h4⟩ := fill_ok (place := place) parts cparts (splice l off vs) (v.cells.zipIdx.foldl (fun cs (c, j) => cs.setIfInBounds (off + j) c) c) (by simpa using hlen)
          (fun j p q hj1 hj2 => hp (j + 1) p q hj1 hj2) (by rw [hz, hf.1, length_splice (by omega)]; exact hc) (fun j => by
            rw [hz, hf.2 j, getD_splice (by omega)]
            simp only [Nat.add_zero, Array.length_toList, hsz]
            by_cases hin : off ≤ j ∧ j < off + vs.length
            · rw [if_pos hin, if_pos hin, toList_getD v.cells]; exact hcv _
            · rw [if_neg hin, if_neg hin]; exact hv j) h
        refine ⟨c2, ?_, h2, by rw [h3, length_splice (by omega)], h4⟩
        simp only [Instr.fill, hpl]
        rw [if_neg]
        · exact h1
        · simp only [ne_eq, Bool.or_eq_true, decide_eq_true_eq, not_or]
          omega
      · cases h
    · cases h

end
end Go.Ga
