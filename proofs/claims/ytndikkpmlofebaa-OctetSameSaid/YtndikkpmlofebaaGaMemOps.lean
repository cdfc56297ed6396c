/- Loads and stores of the machine over a related abstract block. -/
import Derived.Test.YtndikkpmlofebaaGaBase
import Derived.Laws.Cells
import Derived.Laws.IdiomCopy
import Derived.Laws.Append
namespace Go.Ga
open Go

section
variable {P : Program} {r : Ren} {m : Mem} {w : World}

/-- What a step of memory and value comes to. -/
def StepOK {α : Type} (P : Program) (s : Sem α) (r : Ren) (m : Mem) (w : World) (R : Ren → α → Prop) (m' : Mem) : Prop :=
  ∃ r' v' w', s.run P w = .ok v' w' ∧ R r' v' ∧ MemRel r' m' w' ∧ Fr r r' m w w'

theorem StepOK.pure {α : Type} {s : Sem α} {R : Ren → α → Prop} {v' : α} (hm : MemRel r m w) (hs : s.run P w = .ok v' w) (hv : R r v') : StepOK P s r m w R m :=
  ⟨r, v', w, hs, hv, hm, Fr.refl r m w⟩

theorem getD_eq_some {c : Array Value} {i : Nat} (h : i < c.size) : c[i]? = some (c.getD i undef) := by
  simp [Array.getD, h]

theorem lgetD_eq_some {c : List Value} {i : Nat} (h : i < c.length) : c[i]? = some (c.getD i undef) := by
  simp [List.getD, List.getElem?_eq_getElem h]

theorem toList_getD (c : Array Value) (i : Nat) : c.toList.getD i undef = c.getD i undef := by
  simp only [List.getD, Array.getD, Array.getElem?_toList]
  by_cases h : i < c.size <;> simp [h]

/-- The cells of a live row, as the machine sees them. -/
theorem live_cells (hm : MemRel r m w) {n cb base csz : Nat} (hn : r n = some (.at cb base csz)) {l : List Value} {ro : Bool} (hg : m.get n = some (.cells l ro)) :
    ∃ c e fr, w.heap[cb]? = some (.cells c e fr) ∧ l.length ≤ csz ∧ base + csz ≤ c.size ∧ (∀ i, i < l.length → VR r (l.getD i undef) (c.getD (base + i) undef)) ∧
      (ro = false → fr.1 = fr.2 ∨ base + csz ≤ fr.1) := by
  obtain ⟨b, hb, hbr⟩ := hm.live n cb base csz hn
  rw [hg] at hb
  injection hb with hb
  subst hb
  exact hbr

/-- An address that is related names a live row where the abstract memory has one. -/
theorem AR.live (hm : MemRel r m w) {n off : Nat} {a' : Addr} (h : AR r n off a') {b : Blk} (hg : m.get n = some b) :
    ∃ cb base csz, r n = some (.at cb base csz) ∧ a' = ⟨cb, base + off, none⟩ := by
  obtain ⟨hs, l, hl, hat⟩ := h
  cases l with
  | dead => rw [hm.dead n hl] at hg; cases hg
  | «at» cb base csz =>
    obtain ⟨h1, h2⟩ := hat cb base csz rfl
    refine ⟨cb, base, csz, hl, ?_⟩
    cases a'
    simp_all

theorem addr_add (cb o k : Nat) : (⟨cb, o, none⟩ : Addr).add k = ⟨cb, o + k, none⟩ := by
  unfold Addr.add
  split <;> simp_all

theorem cell_of_heap {c : Array Value} {e : TypeId} {fr : Nat × Nat} {cb o : Nat} (h : w.heap[cb]? = some (.cells c e fr)) (ho : o < c.size) : w.cell? ⟨cb, o, none⟩ = some (c.getD o undef) := by
  simp [World.cell?, h, Array.getD, ho]

/-- Cells read. -/
theorem loadCells_ok (hm : MemRel r m w) {n off k : Nat} {a' : Addr} (ha : AR r n off a') {l : List Value} {ro : Bool} (hg : m.get n = some (.cells l ro)) (hk : off + k ≤ l.length) :
    ∃ cs : Array Value, (loadCells a' k).run P w = .ok cs w ∧ cs.size = k ∧ ∀ i, i < k → VR r (l.getD (off + i) undef) (cs.getD i undef) := by
  obtain ⟨cb, base, csz, hn, rfl⟩ := ha.live hm hg
  obtain ⟨c, e, fr, hh, h1, h2, h3, _⟩ := live_cells hm hn hg
  refine ⟨_, run_loadCells w _ k (fun j => c.getD (base + off + j) undef) (fun j hj => ?_), by simp, fun i hi => ?_⟩
  · rw [addr_add]
    exact cell_of_heap hh (by omega)
  · have := h3 (off + i) (by omega)
    rw [show base + (off + i) = base + off + i by omega] at this
    simpa [hi] using this

theorem load_ok (hm : MemRel r m w) {n off : Nat} {a' : Addr} (ha : AR r n off a') {l : List Value} {ro : Bool} (hg : m.get n = some (.cells l ro)) (hk : off < l.length) :
    ∃ v', (load a').run P w = .ok v' w ∧ VR r (l.getD off undef) v' := by
  obtain ⟨cb, base, csz, hn, rfl⟩ := ha.live hm hg
  obtain ⟨c, e, fr, hh, h1, h2, h3, _⟩ := live_cells hm hn hg
  refine ⟨c.getD (base + off) undef, ?_, h3 off hk⟩
  rw [run_load, cell_of_heap hh (by omega)]

/-- The machine's row behind a store of several cells. -/
theorem storeCells_run {cb : Nat} (e : TypeId) (fr : Nat × Nat) : ∀ (vs : List Value) (o i : Nat) (w : World) (c : Array Value), w.heap[cb]? = some (.cells c e fr) → o + i + vs.length ≤ c.size →
    (∀ j, j < vs.length → ¬ (fr.1 ≤ o + i + j ∧ o + i + j < fr.2)) → (∀ v ∈ vs, v.oneCell' = true) →
    ∃ (c' : Array Value) (heap' : Array Obj), (storeCells ⟨cb, o, none⟩ vs i).run P w = .ok () { w with heap := heap' } ∧ heap'.size = w.heap.size ∧ heap'[cb]? = some (.cells c' e fr) ∧ (∀ k, k ≠ cb → heap'[k]? = w.heap[k]?) ∧
      c'.size = c.size ∧ ∀ j, c'.getD j undef = if o + i ≤ j ∧ j < o + i + vs.length then vs.getD (j - (o + i)) undef else c.getD j undef
  | [], o, i, w, c, hh, _, _, _ => ⟨c, w.heap, rfl, rfl, hh, fun _ _ => rfl, rfl, fun j => by rw [if_neg (by simp only [List.length_nil]; omega)]⟩
  | v :: vs, o, i, w, c, hh, hsz, hfr, h1 => by
    simp only [List.length_cons] at hsz
    have hlt : cb < w.heap.size := by
      rcases Nat.lt_or_ge cb w.heap.size with h | h
      · exact h
      · rw [Array.getElem?_eq_none h] at hh; cases hh
    have hcell : w.cell? ⟨cb, o + i, none⟩ = some (c.getD (o + i) undef) := cell_of_heap hh (by omega)
    have hfz : w.frozen? ⟨cb, o + i, none⟩ = false := by
      have := hfr 0 (by simp)
      simp only [Nat.add_zero] at this
      obtain ⟨lo, hi⟩ := fr
      simp only [World.frozen?, hh]
      simp only at this
      rw [← Bool.not_eq_true]
      intro hc
      rw [Bool.and_eq_true, decide_eq_true_eq, decide_eq_true_eq] at hc
      exact this hc
    have hst : (store ((⟨cb, o, none⟩ : Addr).add i) v).run P w = .ok () (w.setCell ⟨cb, o + i, none⟩ v) := by
      rw [addr_add, run_store P w _ v _ (h1 v (by simp)), hcell, hfz]
      rfl
    have hh' : (w.setCell ⟨cb, o + i, none⟩ v).heap[cb]? = some (.cells (c.setIfInBounds (o + i) v) e fr) := by
      simp [World.setCell, Array.getElem?_modify, hh]
    obtain ⟨c', heap', hrun, hs, hself, hoth, hcs, hval⟩ := storeCells_run e fr vs o (i + 1) (w.setCell ⟨cb, o + i, none⟩ v) _ hh' (by simp; omega)
      (fun j hj => by have := hfr (j + 1) (by simp; omega); rwa [show o + i + (j + 1) = o + (i + 1) + j by omega] at this) (fun x hx => h1 x (by simp [hx]))
    refine ⟨c', heap', ?_, by rw [hs]; simp [World.setCell], hself, fun k hk => ?_, by rw [hcs]; simp, fun j => ?_⟩
    · simp only [storeCells, Sem.run_bind, hst, Result.andThen_ok, hrun]
      rfl
    · rw [hoth k hk]
      simp only [World.setCell, Array.getElem?_modify]
      rw [if_neg (fun e => hk e.symm)]
    · rw [hval j]
      by_cases hj : j = o + i
      · subst hj
        rw [if_neg (by omega), if_pos (by simp)]
        simp only [Nat.sub_self]
        simp [Array.getD, show o + i < c.size by omega]
      · by_cases hj2 : o + (i + 1) ≤ j ∧ j < o + (i + 1) + vs.length
        · rw [if_pos hj2, if_pos (by simp; omega)]
          rw [show j - (o + i) = (j - (o + (i + 1))) + 1 by omega]
          simp
        · rw [if_neg hj2, if_neg (by simp; omega)]
          simp only [Array.getD]
          by_cases hjs : j < c.size
          · simp [hjs, show ¬ (o + i = j) by omega]
          · simp [hjs]

def splice (l : List Value) (off : Nat) (vs : List Value) : List Value := l.take off ++ vs ++ l.drop (off + vs.length)

theorem length_splice {l : List Value} {off : Nat} {vs : List Value} (h : off + vs.length ≤ l.length) : (splice l off vs).length = l.length := by
  simp [splice]; omega

theorem getD_splice {l : List Value} {off : Nat} {vs : List Value} (h : off + vs.length ≤ l.length) (j : Nat) :
    (splice l off vs).getD j undef = if off ≤ j ∧ j < off + vs.length then vs.getD (j - off) undef else l.getD j undef := by
  simp only [List.getD_eq_getElem?_getD, splice]
  by_cases h1 : j < off
  · rw [if_neg (by omega), List.append_assoc, List.getElem?_append_left (by simp; omega)]
    simp [h1]
  · by_cases h2 : j < off + vs.length
    · rw [if_pos (by omega), List.getElem?_append_left (by simp; omega), List.getElem?_append_right (by simp; omega)]
      rw [List.length_take, Nat.min_eq_left (by omega)]
    · rw [if_neg (by omega), List.getElem?_append_right (by simp; omega)]
      simp only [List.length_append, List.length_take, List.getElem?_drop]
      congr 2
      omega

/-- Cells written: into a row that may be. -/
theorem storeCells_ok (hm : MemRel r m w) {n off : Nat} {a' : Addr} (ha : AR r n off a') {l : List Value} (hg : m.get n = some (.cells l false)) (hbar : m.bar ≤ n) (vs vs' : List Value)
    (hk : off + vs.length ≤ l.length) (hl : vs'.length = vs.length) (hv : ∀ i, i < vs.length → VR r (vs.getD i undef) (vs'.getD i undef)) (h1 : ∀ v ∈ vs, cellVal v = true) :
    ∃ w', (storeCells a' vs').run P w = .ok () w' ∧ MemRel r (m.put n (.cells (splice l off vs) false)) w' ∧ Fr r r m w w' := by
  obtain ⟨cb, base, csz, hn, rfl⟩ := ha.live hm hg
  obtain ⟨c, e, fr, hh, hc1, hc2, hc3, hc4⟩ := live_cells hm hn hg
  have h1' : ∀ v ∈ vs', v.oneCell' = true := by
    intro v hvm
    obtain ⟨i, hi, rfl⟩ := List.getElem_of_mem hvm
    have hr := hv i (by omega)
    have e1 : vs.getD i undef = vs[i]'(by omega) := by simp [List.getD, List.getElem?_eq_getElem (show i < vs.length by omega)]
    have e2 : vs'.getD i undef = vs'[i] := by simp [List.getD, List.getElem?_eq_getElem hi]
    rw [e1, e2] at hr
    exact hr.oneCell (h1 _ (List.getElem_mem _))
  obtain ⟨c', heap', hrun, hs, hself, hoth, hcs, hval⟩ := storeCells_run (P := P) e fr vs' (base + off) 0 w c hh (by omega)
    (fun j hj => by have := hc4 rfl; omega) h1'
  have hp := hm.put hn hbar (b := .cells (splice l off vs) false) (o' := .cells c' e fr) (heap' := heap') hs hself hoth
    ⟨c', e, fr, rfl, by rw [length_splice hk]; exact hc1, by rw [hcs]; exact hc2, fun i hi => by
      rw [length_splice hk] at hi
      rw [getD_splice hk, hval]
      by_cases hin : off ≤ i ∧ i < off + vs.length
      · rw [if_pos hin, if_pos (by omega)]
        rw [show base + i - (base + off + 0) = i - off by omega]
        exact hv _ (by omega)
      · rw [if_neg hin, if_neg (by omega)]
        exact hc3 i hi, hc4⟩
  exact ⟨_, hrun, hp.1, hp.2⟩

/-- The cells of a value. -/
def cellsV : Value → Option (List Value)
  | .agg cs => some cs.toList
  | .tuple _ => none
  | .chan _ => none
  | v => some [v]

theorem VR.cells {v v' : Value} (h : VR r v v') {l : List Value} (hl : cellsV v = some l) :
    v'.cells.size = l.length ∧ ∀ i, VR r (l.getD i undef) (v'.cells.getD i undef) := by
  have single : ∀ {u u' : Value}, VR r u u' → cellsV u = some [u] → u'.cells = #[u'] → cellsV u = some l → u'.cells.size = l.length ∧ ∀ i, VR r (l.getD i undef) (u'.cells.getD i undef) := by
    intro u u' hu h1 h2 h3
    rw [h1] at h3
    injection h3 with h3
    subst h3
    refine ⟨by simp [h2], fun i => ?_⟩
    rw [h2]
    cases i with
    | zero => simpa using hu
    | succ i => simpa [Array.getD] using VR.und
  cases h with
  | agg hs h =>
    simp only [cellsV, Option.some.injEq] at hl
    subst hl
    refine ⟨by simp [Value.cells, hs], fun i => ?_⟩
    rw [toList_getD]
    exact h i
  | und => simp [cellsV, undef] at hl
  | bot v => simp [cellsV, botV] at hl
  | tuple hs h => simp [cellsV] at hl
  | bool b => exact single (.bool b) rfl rfl hl
  | int k n => exact single (.int k n) rfl rfl hl
  | string s => exact single (.string s) rfl rfl hl
  | pnil => exact single .pnil rfl rfl hl
  | ptr hs h => exact single (.ptr hs h) rfl rfl hl
  | snil => exact single .snil rfl rfl hl
  | slice hn h => exact single (.slice hn h) rfl rfl hl
  | mnil => exact single .mnil rfl rfl hl
  | map h => exact single (.map h) rfl rfl hl
  | func fn hs h => exact single (.func fn hs h) rfl rfl hl
  | nilFunc => exact single .nilFunc rfl rfl hl
  | nilIface => exact single .nilIface rfl rfl hl
  | iface t h => exact single (.iface t h) rfl rfl hl

/-- A new row. -/
theorem newRow_ok (hm : MemRel r m w) (elem : TypeId) (l : List Value) (c : Array Value) (hle : l.length ≤ c.size) (hv : ∀ i, i < l.length → VR r (l.getD i undef) (c.getD i undef)) (k : Nat) :
    ∃ r', MemRel r' (m.add (.cells l false)) { w with heap := w.heap.push (.cells c elem), drawn := k } ∧ Fr r r' m w { w with heap := w.heap.push (.cells c elem), drawn := k } ∧ r' m.next = some (.at w.heap.size 0 c.size) := by
  have := hm.add (.cells l false) (.cells c elem) c.size (fun r' hx => ⟨c, elem, (0, 0), rfl, hle, by omega, fun i hi => by simpa using (hv i hi).mono hx, fun _ => .inl rfl⟩) k
  exact ⟨_, this.1, this.2, by simp [Ren.set]⟩

end
end Go.Ga
