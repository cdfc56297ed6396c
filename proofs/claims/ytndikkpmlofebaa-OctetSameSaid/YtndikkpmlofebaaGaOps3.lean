/- Each operation of the machine does what its resolved form says: slices, indexes, growth. -/
import Derived.Test.YtndikkpmlofebaaGaOps2
import Derived.Laws.BitsLemmas
namespace Go.Ga
open Go

section
variable {P : Program} {r : Ren} {m : Mem} {w : World} {f : Regs}

theorem size_of {t : TypeId} {i : TypeInfo} (hi : P.info? t = some i) (w : World) : (sizeOf t).run P w = .ok i.size w := by simp [sizeOf, typeInfo, hi]

theorem VR.slice_inv {a : Addr} {n c : Nat} {v' : Value} (h : VR r (.slice (some a) n c) v') : ∃ a' c', v' = .slice (some a') n c' ∧ n ≤ c ∧ SR r a c a' c' := by
  cases h with
  | slice hn h => exact ⟨_, _, rfl, hn, h⟩

theorem VR.slice_nil {n c : Nat} {v' : Value} (h : VR r (.slice none n c) v') : n = 0 ∧ c = 0 ∧ v' = .slice none 0 0 := by
  cases h with
  | snil => exact ⟨rfl, rfl, rfl⟩

theorem VR.int_inv {k : IntKind} {n : Int} {v' : Value} (h : VR r (.int k n) v') : v' = .int k n := by cases h; rfl

/-- The cells of a slice's first elements. -/
theorem firstCells_ok (hm : MemRel r m w) {A : Option Addr} {n c : Nat} {v' : Value} (h : VR r (.slice A n c) v') {k esz : Nat} (hk : k ≤ n) {l : List Value} (hl : rowOf m A (k * esz) = some l) (d : Nat) :
    ∃ cs : Array Value, (Builtin.firstCells esz k v').run P { w with drawn := d } = .ok cs { w with drawn := d } ∧ cs.size = l.length ∧ l.length = k * esz ∧ ∀ i, VR r (l.getD i undef) (cs.getD i undef) := by
  have hmd := hm.drawn d
  unfold rowOf at hl
  cases A with
  | none =>
    obtain ⟨h1, h2, rfl⟩ := h.slice_nil
    subst h1 h2
    have : k = 0 := by omega
    subst this
    simp at hl
    subst hl
    exact ⟨#[], rfl, rfl, by simp, fun i => by simpa [Array.getD] using VR.und⟩
  | some a =>
    obtain ⟨a', c', rfl, hn, hs⟩ := h.slice_inv
    split at hl
    · rename_i h0
      simp only [Option.some.injEq] at hl
      subst hl
      refine ⟨#[], ?_, rfl, by simp [h0], fun i => by simpa [Array.getD] using VR.und⟩
      simp only [Builtin.firstCells, h0]
      rfl
    · rename_i h0
      have hk0 : 0 < k := by rcases Nat.eq_zero_or_pos k with h1 | h1; · subst h1; simp at h0
                             · exact h1
      have ha : AR r a.block a.off a' := hs.loc.resolve_left (by have := hs.le; omega)
      simp only at hl
      split at hl
      · rename_i l2 ro hg
        split at hl
        · rename_i hle
          simp only [Option.some.injEq] at hl
          subst hl
          obtain ⟨cs, hrun, hsz, hv⟩ := loadCells_ok (P := P) hmd ha hg hle
          refine ⟨cs, hrun, by simp [hsz]; omega, by simp; omega, fun i => ?_⟩
          by_cases hi : i < k * esz
          · have := hv i hi
            simp only [List.getD_eq_getElem?_getD, List.getElem?_take, hi, if_true, List.getElem?_drop] at this ⊢
            exact this
          · have e : ((l2.drop a.off).take (k * esz)).getD i undef = undef := by
              simp [List.getD_eq_getElem?_getD, List.getElem?_take, hi]
            have e' : cs.getD i undef = undef := by
              simp only [Array.getD]
              rw [dif_neg (by omega)]
            rw [e, e']
            exact .und
        · cases hl
      · cases hl

theorem sliceBound_ok {k : IntKind} {i : Int} {y : Nat} {code : BoundsCode} (h1 : 0 ≤ i) (h2 : i ≤ y) (w : World) : (Instr.sliceBound (.int k i) y code).run P w = .ok i.toNat w := by
  simp [Instr.sliceBound, asIntOf, h1, h2]

theorem optIx_rel {o : Option Rv} {co : Option Operand} {a : Act} (hco : co.mapM resolveRv = some o) (ht : ∀ x t, co = some x → x = .tmp t → VR r (f t) (a.eval (.tmp t))) {d n : Int} (h : optIx f o d = some n) :
    (co = none ∧ o = none ∧ n = d) ∨ ∃ x rv k, co = some x ∧ o = some rv ∧ a.eval x = .int k n := by
  cases co with
  | none =>
    have : o = none := by simpa using hco.symm
    subst this
    simp only [optIx, Option.some.injEq] at h
    exact .inl ⟨rfl, rfl, h.symm⟩
  | some x =>
    cases hr : resolveRv x with
    | none => simp [hr] at hco
    | some rv =>
      have : o = some rv := by simpa [hr] using hco.symm
      subst this
      have hx := resolveRv_rel (f := f) (r := r) (a := a) hr (fun t e => ht x t rfl e)
      simp only [optIx] at h
      split at h
      · rename_i k n' he
        simp only [Option.some.injEq] at h
        subst h
        rw [he] at hx
        exact .inr ⟨x, rv, k, rfl, rfl, hx.int_inv⟩
      · cases h

/-- The three bounds of a slice expression. -/
theorem bounds_ok {isSlice : Bool} {a : Act} {lo hi mx : Option Operand} {rlo rhi rmx : Option Rv} (h1 : lo.mapM resolveRv = some rlo) (h2 : hi.mapM resolveRv = some rhi) (h3 : mx.mapM resolveRv = some rmx)
    (t1 : ∀ x t, lo = some x → x = .tmp t → VR r (f t) (a.eval (.tmp t))) (t2 : ∀ x t, hi = some x → x = .tmp t → VR r (f t) (a.eval (.tmp t))) (t3 : ∀ x t, mx = some x → x = .tmp t → VR r (f t) (a.eval (.tmp t)))
    {n c c' : Nat} (hc : c ≤ c') {L H M : Int} (o3 : optIx f rmx c = some M) (o2 : optIx f rhi n = some H) (o1 : optIx f rlo 0 = some L) (b1 : 0 ≤ L) (b2 : L ≤ H) (b3 : H ≤ M) (b4 : M ≤ c) (hmh : rmx.isSome = true → rhi.isSome = true) (w : World) :
    (Instr.sliceBounds isSlice n c' (lo.map a.eval) (hi.map a.eval) (mx.map a.eval)).run P w = .ok (L.toNat, H.toNat, if rmx.isSome then M.toNat else c') w := by
  rcases optIx_rel h3 t3 o3 with ⟨rfl, rfl, rfl⟩ | ⟨x3, rv3, k3, rfl, rfl, e3⟩
  · rcases optIx_rel h2 t2 o2 with ⟨rfl, rfl, rfl⟩ | ⟨x2, rv2, k2, rfl, rfl, e2⟩
    · rcases optIx_rel h1 t1 o1 with ⟨rfl, rfl, rfl⟩ | ⟨x1, rv1, k1, rfl, rfl, e1⟩
      · simp [Instr.sliceBounds]
      · simp [Instr.sliceBounds, e1, sliceBound_ok b1 b2]
    · have e2' : ∀ code, (Instr.sliceBound (.int k2 H) c' code).run P w = .ok H.toNat w := fun code => sliceBound_ok (by omega) (by omega) w
      rcases optIx_rel h1 t1 o1 with ⟨rfl, rfl, rfl⟩ | ⟨x1, rv1, k1, rfl, rfl, e1⟩
      · simp [Instr.sliceBounds, e2, e2']
      · have e1' : ∀ code, (Instr.sliceBound (.int k1 L) H.toNat code).run P w = .ok L.toNat w := fun code => sliceBound_ok (by omega) (by omega) w
        simp [Instr.sliceBounds, e2, e2', e1, e1']
  · rcases optIx_rel h2 t2 o2 with ⟨rfl, rfl, rfl⟩ | ⟨x2, rv2, k2, rfl, rfl, e2⟩
    · simp at hmh
    · have e3' : ∀ code, (Instr.sliceBound (.int k3 M) c' code).run P w = .ok M.toNat w := fun code => sliceBound_ok (by omega) (by omega) w
      have e2' : ∀ code, (Instr.sliceBound (.int k2 H) M.toNat code).run P w = .ok H.toNat w := fun code => sliceBound_ok (by omega) (by omega) w
      rcases optIx_rel h1 t1 o1 with ⟨rfl, rfl, rfl⟩ | ⟨x1, rv1, k1, rfl, rfl, e1⟩
      · simp [Instr.sliceBounds, e2, e2', e3, e3']
      · have e1' : ∀ code, (Instr.sliceBound (.int k1 L) H.toNat code).run P w = .ok L.toNat w := fun code => sliceBound_ok (by omega) (by omega) w
        simp [Instr.sliceBounds, e2, e2', e3, e3', e1, e1']

/-! ### Names that go -/

def killR (r : Ren) (n : Nat) : Ren := fun k => if k = n then (r k).map (fun _ => Loc.dead) else r k

theorem Ext.kill (r : Ren) (n : Nat) : Ext r (killR r n) := fun k l hk => by
  unfold killR
  split
  · right; rw [hk]; rfl
  · left; exact hk

theorem killR_at {n k cb base csz : Nat} (h : killR r n k = some (.at cb base csz)) : k ≠ n ∧ r k = some (.at cb base csz) := by
  unfold killR at h
  split at h
  · cases hr : r k with
    | none => simp [hr] at h
    | some l => simp [hr] at h
  · rename_i hne; exact ⟨hne, h⟩

theorem MemRel.kill (hm : MemRel r m w) {n : Nat} (hbar : m.bar ≤ n) : MemRel (killR r n) (m.kill n) w ∧ Fr r (killR r n) m w w := by
  refine ⟨⟨hm.wf, fun k l hk => ?_, fun k hk => ?_, fun k cb base csz hk => ?_, fun k k' cb base csz b2 c2 h1 h2 => hm.inj _ _ _ _ _ _ _ (killR_at h1).2 (killR_at h2).2⟩,
    ⟨Nat.le_refl _, rfl, rfl, rfl, fun _ _ _ => rfl, fun _ _ _ _ _ _ => rfl, fun k hk => ?_, Ext.kill r n, fun k hk hk' => ?_, fun k cb base csz hk => .inl (killR_at hk).2⟩⟩
  · show k < m.next
    cases hr : r k with
    | none => unfold killR at hk; split at hk <;> simp [hr] at hk
    | some l' => exact hm.born k l' hr
  · simp only [Mem.kill, Mem.set]
    split
    · rfl
    · rename_i hne
      unfold killR at hk
      rw [if_neg hne] at hk
      exact hm.dead k hk
  · obtain ⟨hne, hr⟩ := killR_at hk
    obtain ⟨b, hg, hb⟩ := hm.live k cb base csz hr
    exact ⟨b, by simp only [Mem.kill, Mem.set, if_neg hne]; exact hg, hb.mono (Ext.kill r n)⟩
  · unfold killR
    rw [if_neg (by omega)]
  · exfalso
    apply hk'
    unfold killR
    split <;> simp [hk]

/-- An old row, written and taken over under a new name. -/
theorem MemRel.regrow (hm : MemRel r m w) {n cb base csz : Nat} (hn : r n = some (.at cb base csz)) (hbar : m.bar ≤ n) {b : Blk} {o' : Obj} {heap' : Array Obj} (base' csz' : Nat)
    (hsz : heap'.size = w.heap.size) (hself : heap'[cb]? = some o') (hother : ∀ k, k ≠ cb → heap'[k]? = w.heap[k]?) (hb : ∀ r', Ext r r' → BR r' b (some o') base' csz') :
    MemRel ((killR r n).set m.next (.at cb base' csz')) ((m.kill n).add b) { w with heap := heap' } ∧ Fr r ((killR r n).set m.next (.at cb base' csz')) m w { w with heap := heap' } := by
  have hnlt := hm.born n _ hn
  have hnew : killR r n m.next = none := by
    unfold killR
    rw [if_neg (by omega)]
    cases hr : r m.next with
    | none => rfl
    | some l => have := hm.born _ _ hr; omega
  have hx : Ext r ((killR r n).set m.next (.at cb base' csz')) := (Ext.kill r n).trans (Ext.set_new hnew _)
  have hne_cb : ∀ k cb2 b2 c2, killR r n k = some (.at cb2 b2 c2) → cb2 ≠ cb := fun k cb2 b2 c2 hk => by
    obtain ⟨hne, hr⟩ := killR_at hk
    rintro rfl
    exact hne (hm.inj _ _ _ _ _ _ _ hr hn)
  refine ⟨⟨Nat.le_succ_of_le hm.wf, ?_, ?_, ?_, ?_⟩, ⟨by show _ ≤ heap'.size; omega, rfl, rfl, rfl, ?_, ?_, ?_, hx, ?_, ?_⟩⟩
  · intro k l hk
    show k < m.next + 1
    unfold Ren.set at hk
    split at hk
    · omega
    · cases hr : r k with
      | none => unfold killR at hk; split at hk <;> simp [hr] at hk
      | some l' => have := hm.born k l' hr; omega
  · intro k hk
    unfold Ren.set at hk
    split at hk
    · cases hk
    · rename_i hne
      simp only [Mem.add, Mem.set, Mem.kill, if_neg hne]
      split
      · rfl
      · rename_i hne2
        unfold killR at hk
        rw [if_neg hne2] at hk
        exact hm.dead k hk
  · intro k cb2 b2 c2 hk
    unfold Ren.set at hk
    split at hk
    · rename_i he
      injection hk with hk; injection hk with e1 e2 e3
      subst e1 e2 e3 he
      refine ⟨b, by simp [Mem.add, Mem.set, Mem.kill], ?_⟩
      show BR _ b (heap'[cb]?) base' csz'
      rw [hself]
      exact hb _ hx
    · rename_i hne
      obtain ⟨hne2, hr⟩ := killR_at hk
      obtain ⟨b3, hg, hb3⟩ := hm.live k cb2 b2 c2 hr
      refine ⟨b3, by simp only [Mem.add, Mem.set, Mem.kill, if_neg hne, if_neg hne2]; exact hg, ?_⟩
      show BR _ b3 (heap'[cb2]?) b2 c2
      rw [hother _ (hne_cb _ _ _ _ hk)]
      exact hb3.mono hx
  · intro k k' cb2 b2 c2 b3 c3 h1 h2
    unfold Ren.set at h1 h2
    split at h1 <;> split at h2
    · omega
    · injection h1 with h1; injection h1 with e1 _ _
      exact absurd e1.symm (hne_cb _ _ _ _ h2)
    · injection h2 with h2; injection h2 with e1 _ _
      exact absurd e1.symm (hne_cb _ _ _ _ h1)
    · exact hm.inj _ _ _ _ _ _ _ (killR_at h1).2 (killR_at h2).2
  · intro cb2 _ hno
    exact hother _ (fun e => hno n base csz (by rw [e]; exact hn))
  · intro k cb2 b2 c2 hk hr
    refine hother _ (fun e => ?_)
    subst e
    have := hm.inj _ _ _ _ _ _ _ hr hn
    omega
  · intro k hk
    have := hm.wf
    unfold Ren.set killR
    rw [if_neg (by omega), if_neg (by omega)]
  · intro k hk hk'
    unfold Ren.set at hk'
    split at hk'
    · omega
    · exfalso
      apply hk'
      unfold killR
      split <;> simp [hk]
  · intro k cb2 b2 c2 hk
    unfold Ren.set at hk
    split at hk
    · injection hk with hk; injection hk with e1 _ _
      subst e1
      exact .inr (.inr ⟨n, base, csz, hbar, hn⟩)
    · exact .inl (killR_at hk).2

theorem Mem.put_self {n : Nat} {b : Blk} (h : m.get n = some b) : m.put n b = m := by
  obtain ⟨nx, br, g⟩ := m
  simp only [Mem.put]
  congr 1
  funext k
  show (if k = n then some b else g k) = g k
  split
  · rename_i e; subst e; exact h.symm
  · rfl

/-- A mark behind the end of a row. -/
theorem freeze_ok (hm : MemRel r m w) {n cb base csz : Nat} (hn : r n = some (.at cb base csz)) (hbar : m.bar ≤ n) {l : List Value} (hg : m.get n = some (.cells l false)) (o : Nat) (ho : ∀ c e fr, w.heap[cb]? = some (.cells c e fr) → c.size ≤ o) :
    MemRel r m (w.freeze ⟨cb, o, none⟩ 1) ∧ Fr r r m w (w.freeze ⟨cb, o, none⟩ 1) := by
  obtain ⟨c, e, fr, hh, h1, h2, h3, h4⟩ := live_cells hm hn hg
  have ho' := ho c e fr hh
  obtain ⟨lo, hi⟩ := fr
  have hp := hm.put hn hbar (b := .cells l false) (o' := .cells c e (if lo == hi then (o, o + 1) else (min lo o, max hi (o + 1))))
    (heap' := (w.freeze ⟨cb, o, none⟩ 1).heap) (by simp [World.freeze]) (by simp [World.freeze, Array.getElem?_modify, hh]) (fun k hk => by simp [World.freeze, Array.getElem?_modify, show ¬ (cb = k) by omega])
    ⟨c, e, _, rfl, h1, h2, h3, fun hro => by
      have := h4 hro
      simp only at this
      right
      split
      · simp only; omega
      · rename_i hne
        simp only [beq_iff_eq] at hne
        simp only
        omega⟩
  rw [Mem.put_self hg] at hp
  exact hp

end
end Go.Ga
