/- A region that draws its order comes to what its text says, in whatever order. -/
import Derived.Test.YtndikkpmlofebaaGaRegion
namespace Go.Ga
open Go

/-! ### What must come before what -/

def befStep (acc : List Nat) (o : Oper) : Nat := o.after.toList.foldl (fun s e => if Region.binds .any e then s ||| 2 ^ e.on ||| acc.getD e.on 0 else s) 0
def befGo : List Oper → List Nat → List Nat
  | [], acc => acc
  | o :: l, acc => befGo l (acc ++ [befStep acc o])
def bef (ops : Array Oper) : List Nat := befGo ops.toList []

def reads (ops : Array Oper) (o : Oper) : List Nat := tmpsOf o ++ (guardSlot ops o).toList

/-- Of a region whose first k operations stand in no order: all that is asked of its edges and slots. -/
def regOK (N k : Nat) (ops : Array Oper) : Bool :=
  let b := bef ops
  let l := ops.toList.zipIdx
  l.all fun (o, i) =>
    boundedOp N ops o &&
    o.after.toList.all (fun e => !Region.binds .any e || decide (e.on < i)) &&
    l.all (fun (o', j) => j == i || o.dst.isNone || o.dst != o'.dst) &&
    (reads ops o).all (fun t => l.all fun (o', j) => o'.dst != some t || j == i || (if j < i then (b.getD i 0).testBit j else (b.getD j 0).testBit i)) &&
    (decide (i < k) || (List.range i).all fun j => (b.getD i 0).testBit j)

section
variable {P : Program} {N k : Nat} {ops : Array Oper}

theorem befStep_bit {acc : List Nat} {o : Oper} {j : Nat} (h : (befStep acc o).testBit j = true) : ∃ e ∈ o.after, Region.binds .any e = true ∧ (e.on = j ∨ (acc.getD e.on 0).testBit j = true) := by
  have key : ∀ (es : List Edge) (s : Nat), (es.foldl (fun s e => if Region.binds .any e then s ||| 2 ^ e.on ||| acc.getD e.on 0 else s) s).testBit j = true → s.testBit j = true ∨ ∃ e ∈ es, Region.binds .any e = true ∧ (e.on = j ∨ (acc.getD e.on 0).testBit j = true) := by
    intro es
    induction es with
    | nil => intro s hs; exact .inl hs
    | cons e es ih =>
      intro s hs
      rw [List.foldl_cons] at hs
      rcases ih _ hs with h1 | ⟨e', he', h1⟩
      · split at h1
        · rename_i hb
          rw [Nat.testBit_or, Nat.testBit_or, Bool.or_eq_true, Bool.or_eq_true] at h1
          rcases h1 with (h1 | h1) | h1
          · exact .inl h1
          · rw [Nat.testBit_two_pow] at h1
            exact .inr ⟨e, by simp, hb, .inl (by simpa using h1)⟩
          · exact .inr ⟨e, by simp, hb, .inr h1⟩
        · exact .inl h1
      · exact .inr ⟨e', by simp [he'], h1⟩
  rcases key o.after.toList 0 h with h1 | ⟨e, he, h1⟩
  · simp at h1
  · exact ⟨e, by simpa using he, h1⟩

/-- Whoever is in, has all in that must come before. -/
theorem bef_spec {S : Nat → Prop} (hS : ∀ (i : Nat) o, ops[i]? = some o → S i → ∀ e ∈ o.after, Region.binds .any e = true → S e.on) {i j : Nat} (h : ((bef ops).getD i 0).testBit j = true) (hi : S i) : S j := by
  have key : ∀ (l : List Oper) (acc : List Nat), (∀ n, l[n]? = ops[acc.length + n]?) → (∀ i j, (acc.getD i 0).testBit j = true → S i → S j) → ∀ i j, ((befGo l acc).getD i 0).testBit j = true → S i → S j := by
    intro l
    induction l with
    | nil => intro acc _ hacc; exact hacc
    | cons o l ih =>
      intro acc hl hacc
      have ho : ops[acc.length]? = some o := by simpa using (hl 0).symm
      refine ih (acc ++ [befStep acc o]) (fun n => ?_) (fun i j hij hsi => ?_)
      · have := hl (n + 1)
        simp only [List.getElem?_cons_succ] at this
        rw [this, List.length_append, List.length_singleton]
        congr 1
        omega
      · by_cases hlt : i < acc.length
        · refine hacc i j ?_ hsi
          simpa [List.getD_eq_getElem?_getD, List.getElem?_append_left hlt] using hij
        · by_cases heq : i = acc.length
          · subst heq
            have : (acc ++ [befStep acc o]).getD acc.length 0 = befStep acc o := by simp [List.getD_eq_getElem?_getD]
            rw [this] at hij
            obtain ⟨e, he, hb, hc⟩ := befStep_bit hij
            have hse := hS _ o ho hsi e he hb
            rcases hc with rfl | hc
            · exact hse
            · exact hacc _ _ hc hse
          · have : (acc ++ [befStep acc o]).getD i 0 = 0 := by
              rw [List.getD_eq_getElem?_getD, List.getElem?_eq_none (by simp; omega)]
              rfl
            rw [this] at hij
            simp at hij
  exact key ops.toList [] (fun n => by simp) (fun i j h => by simp at h) i j h hi

structure RegFacts (N k : Nat) (ops : Array Oper) : Prop where
  bounded : ∀ (i : Nat) o, ops[i]? = some o → boundedOp N ops o = true
  back : ∀ (i : Nat) o, ops[i]? = some o → ∀ e ∈ o.after, Region.binds .any e = true → e.on < i
  unique : ∀ (i j : Nat) o o' t, ops[i]? = some o → ops[j]? = some o' → o.dst = some t → o'.dst = some t → i = j
  reader : ∀ (i j : Nat) o o' t, ops[i]? = some o → ops[j]? = some o' → t ∈ reads ops o → o'.dst = some t → j ≠ i → (j < i ∧ ((bef ops).getD i 0).testBit j = true) ∨ (i < j ∧ ((bef ops).getD j 0).testBit i = true)
  tail : ∀ (i : Nat), k ≤ i → i < ops.size → ∀ j, j < i → ((bef ops).getD i 0).testBit j = true

theorem mem_zip {i : Nat} {o : Oper} (h : ops[i]? = some o) : (o, i) ∈ ops.toList.zipIdx := by
  rw [List.mem_zipIdx_iff_getElem?]
  simpa using h

theorem regFacts (h : regOK N k ops = true) : RegFacts N k ops := by
  simp only [regOK, List.all_eq_true] at h
  have h' := fun (i : Nat) (o : Oper) (hi : ops[i]? = some o) => h (o, i) (mem_zip hi)
  simp only [Bool.and_eq_true] at h'
  refine ⟨fun i o hi => (h' i o hi).1.1.1.1, fun i o hi e he hb => ?_, fun i j o o' t hi hj ht ht' => ?_, fun i j o o' t hi hj ht ht' hne => ?_, fun i hk hlt j hj => ?_⟩
  · have := (h' i o hi).1.1.1.2
    rw [List.all_eq_true] at this
    have := this e (by simpa using he)
    simpa [hb] using this
  · have := (h' i o hi).1.1.2
    rw [List.all_eq_true] at this
    have := this (o', j) (mem_zip hj)
    simp only [Bool.or_eq_true, beq_iff_eq, bne_iff_ne, ht, ht'] at this
    rcases this with (h1 | h1) | h1
    · exact h1.symm
    · simp at h1
    · simp at h1
  · have := (h' i o hi).1.2
    rw [List.all_eq_true] at this
    have := this t ht
    rw [List.all_eq_true] at this
    have := this (o', j) (mem_zip hj)
    simp only [Bool.or_eq_true, beq_iff_eq, bne_iff_ne, ht'] at this
    rcases this with (h1 | h1) | h1
    · simp at h1
    · exact absurd h1 hne
    · split at h1
      · rename_i hlt
        exact .inl ⟨hlt, h1⟩
      · rename_i hlt
        exact .inr ⟨by omega, h1⟩
  · have := (h' i ops[i] (by simp [hlt])).2
    simp only [Bool.or_eq_true, decide_eq_true_eq, List.all_eq_true, List.mem_range] at this
    rcases this with h1 | h1
    · omega
    · exact h1 j hj

/-! ### The trace of the unordered part -/

def TrStep (P : Program) (o : Oper) (ro : RO) (f f' : Regs) (m m' : Mem) (v : Value) : Prop :=
  f' = putR f o.dst v ∧
  ((wantedA ro.guard f = some false ∧ v = undef ∧ m' = m) ∨
   (wantedA ro.guard f = some true ∧ ∃ m1, OpEv P o f m.raise v m1 ∧ m' = m1.lower m.bar))

theorem TrStep.ext {o : Oper} {ro : RO} {f f' : Regs} {m m' : Mem} {v : Value} (h : TrStep P o ro f f' m m' v) (hwf : m.bar ≤ m.next) : MExt m m' ∧ m'.bar = m.bar ∧ m'.bar ≤ m'.next ∧ m.next ≤ m'.next ∧ ∀ n, n < m.next → m'.get n = m.get n := by
  rcases h.2 with ⟨_, _, rfl⟩ | ⟨_, m1, ho, rfl⟩
  · exact ⟨MExt.refl _, rfl, hwf, Nat.le_refl _, fun _ _ => rfl⟩
  · have hx := ho.1
    have hn : m.next ≤ m1.next := hx.next
    exact ⟨⟨rfl, hn, fun n hlt => hx.get n (Nat.lt_of_lt_of_le hlt hwf)⟩, rfl, Nat.le_trans hwf hn, hn, fun n hlt => hx.get n hlt⟩

theorem quiet_trace : ∀ (l : List Oper) (rl : List RO) (f : Regs) (m : Mem) (Q : Regs → Mem → Prop), resolveOpers P ops l = some rl → goQuiet P rl f m Q → m.bar ≤ m.next →
    ∃ (F : Nat → Regs) (M : Nat → Mem) (V : Nat → Value), F 0 = f ∧ M 0 = m ∧ Q (F l.length) (M l.length) ∧ ∀ (j : Nat) o, l[j]? = some o → ∃ ro, resolveOper P ops o = some ro ∧ TrStep P o ro (F j) (F (j + 1)) (M j) (M (j + 1)) (V j)
  | [], rl, f, m, Q, hr, hg, _ => by
    simp only [resolveOpers, Option.some.injEq] at hr
    subst hr
    exact ⟨fun _ => f, fun _ => m, fun _ => undef, rfl, rfl, hg, fun j o h => by simp at h⟩
  | o :: l, rl, f, m, Q, hr, hg, hwf => by
    simp only [resolveOpers] at hr
    split at hr
    · rename_i ro rs hro hrs
      simp only [Option.some.injEq] at hr
      subst hr
      obtain ⟨hit, hdst⟩ := RO_item hro
      have glue : ∀ v f1 m1, TrStep P o ro f f1 m m1 v → goQuiet P rs f1 m1 Q → ∃ (F : Nat → Regs) (M : Nat → Mem) (V : Nat → Value), F 0 = f ∧ M 0 = m ∧ Q (F (o :: l).length) (M (o :: l).length) ∧
          ∀ (j : Nat) o', (o :: l)[j]? = some o' → ∃ ro, resolveOper P ops o' = some ro ∧ TrStep P o' ro (F j) (F (j + 1)) (M j) (M (j + 1)) (V j) := by
        intro v f1 m1 hstep hgo
        obtain ⟨F, M, V, h1, h2, h3, h4⟩ := quiet_trace l rs f1 m1 Q hrs hgo (hstep.ext hwf).2.2.1
        refine ⟨fun n => match n with | 0 => f | j + 1 => F j, fun n => match n with | 0 => m | j + 1 => M j, fun n => match n with | 0 => v | j + 1 => V j, rfl, rfl, h3, fun j o' hj => ?_⟩
        cases j with
        | zero =>
          simp only [List.getElem?_cons_zero, Option.some.injEq] at hj
          subst hj
          exact ⟨ro, hro, by simp only [h1, h2]; exact hstep⟩
        | succ j => exact h4 j o' (by simpa using hj)
      simp only [goQuiet] at hg
      split at hg
      · rename_i hw
        obtain ⟨out, hout, hK⟩ := sound_item (m := m.raise) hit hg (Nat.le_refl _)
        cases out with
        | val v m1 => exact glue v _ _ ⟨rfl, .inr ⟨hw, m1, hout, rfl⟩⟩ (by rw [← hdst]; exact hK)
        | pan v m1 => exact hK.elim
      · rename_i hw
        exact glue undef _ _ ⟨rfl, .inl ⟨hw, rfl, rfl⟩⟩ (by rw [← hdst]; exact hg)
      · cases hg
    · cases hr

end
end Go.Ga
