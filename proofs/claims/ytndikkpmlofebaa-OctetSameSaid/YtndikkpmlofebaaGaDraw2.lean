/- A region that draws its order comes to what its text says, in whatever order: the argument. -/
import Derived.Test.YtndikkpmlofebaaGaDraw
namespace Go.Ga
open Go

def cut (r : Ren) (n : Nat) : Ren := fun x => if x < n then r x else none

theorem cut_ext {r r2 : Ren} {n n2 : Nat} (hn : n ≤ n2) (h : ∀ x l, x < n → r x = some l → r2 x = some l) : Ext (cut r n) (cut r2 n2) := fun x l hx => by
  unfold cut at hx ⊢
  split at hx
  · rename_i hlt
    rw [if_pos (by omega)]
    exact .inl (h x l hlt hx)
  · cases hx

theorem cut_some {r : Ren} {n x : Nat} {l : Loc} (h : cut r n x = some l) : x < n ∧ r x = some l := by
  unfold cut at h
  split at h
  · rename_i hlt; exact ⟨hlt, h⟩
  · cases h

theorem cut_lt {r : Ren} {n x : Nat} (h : x < n) : cut r n x = r x := by unfold cut; rw [if_pos h]

section
variable {P : Program} {N k : Nat} {ops : Array Oper}

/-- The trace of a region's unordered part, with what it asks. -/
structure Tr (P : Program) (k : Nat) (ops : Array Oper) (F : Nat → Regs) (M : Nat → Mem) (V : Nat → Value) : Prop where
  le : k ≤ ops.size
  wf : (M 0).bar ≤ (M 0).next
  step : ∀ (i : Nat) o, i < k → ops[i]? = some o → ∃ ro, resolveOper P ops o = some ro ∧ TrStep P o ro (F i) (F (i + 1)) (M i) (M (i + 1)) (V i)

variable {F : Nat → Regs} {M : Nat → Mem} {V : Nat → Value}

theorem Tr.get (h : Tr P k ops F M V) {i : Nat} (hi : i < k) : ∃ o, ops[i]? = some o :=
  ⟨_, Array.getElem?_eq_getElem (show i < ops.size by have := h.le; omega)⟩

theorem Tr.ext (h : Tr P k ops F M V) : ∀ i, i ≤ k → MExt (M 0) (M i) ∧ (M i).bar = (M 0).bar ∧ (M i).bar ≤ (M i).next ∧ (M 0).next ≤ (M i).next
  | 0, _ => ⟨MExt.refl _, rfl, h.wf, Nat.le_refl _⟩
  | i + 1, hi => by
    obtain ⟨h1, h2, h3, h4⟩ := h.ext i (by omega)
    obtain ⟨o, ho⟩ := h.get (i := i) (by omega)
    obtain ⟨ro, _, hs⟩ := h.step i o (by omega) ho
    obtain ⟨g1, g2, g3, g4, g5⟩ := hs.ext h3
    exact ⟨h1.trans g1, g2.trans h2, g3, Nat.le_trans h4 g4⟩

theorem Tr.mono (h : Tr P k ops F M V) {i j : Nat} (hij : i ≤ j) (hj : j ≤ k) : (M i).next ≤ (M j).next ∧ ∀ n, n < (M i).next → (M j).get n = (M i).get n := by
  induction j with
  | zero =>
    have : i = 0 := by omega
    subst this
    exact ⟨Nat.le_refl _, fun _ _ => rfl⟩
  | succ j ih =>
    by_cases he : i = j + 1
    · subst he; exact ⟨Nat.le_refl _, fun _ _ => rfl⟩
    · obtain ⟨h1, h2⟩ := ih (by omega) (by omega)
      obtain ⟨_, _, h3, _⟩ := h.ext j (by omega)
      obtain ⟨o, ho⟩ := h.get (i := j) (by omega)
      obtain ⟨ro, _, hs⟩ := h.step j o (by omega) ho
      obtain ⟨g1, g2, g3, g4, g5⟩ := hs.ext h3
      exact ⟨Nat.le_trans h1 g4, fun n hn => (g5 n (by omega)).trans (h2 n hn)⟩

theorem Tr.slotNone (h : Tr P k ops F M V) {t : Nat} : ∀ i, i ≤ k → (∀ (j : Nat) o, j < i → ops[j]? = some o → o.dst ≠ some t) → F i t = F 0 t
  | 0, _, _ => rfl
  | i + 1, hi, hno => by
    obtain ⟨o, ho⟩ := h.get (i := i) (by omega)
    obtain ⟨ro, _, hs⟩ := h.step i o (by omega) ho
    rw [hs.1, ← h.slotNone i (by omega) (fun j o hj => hno j o (by omega))]
    have hne := hno i _ (by omega) ho
    cases hd : o.dst with
    | none => simp [putR]
    | some d =>
      simp only [putR]
      rw [if_neg (fun e => by subst e; exact hne hd)]

theorem Tr.slotSome (h : Tr P k ops F M V) (hf : RegFacts N k ops) {t j : Nat} {o : Oper} (ho : ops[j]? = some o) (hd : o.dst = some t) : ∀ i, j < i → i ≤ k → F i t = V j
  | 0, hj, _ => by omega
  | i + 1, hj, hi => by
    obtain ⟨oi, hoi⟩ := h.get (i := i) (by omega)
    obtain ⟨ro, _, hs⟩ := h.step i oi (by omega) hoi
    rw [hs.1]
    by_cases he : i = j
    · subst he
      rw [hoi] at ho
      injection ho with ho
      simp only [ho, hd, putR, if_true]
    · rw [← h.slotSome hf ho hd i (by omega) (by omega)]
      cases hd' : oi.dst with
      | none => simp [putR]
      | some d =>
        simp only [putR]
        rw [if_neg (fun e => by
          subst e
          exact he (hf.unique i j _ _ _ hoi ho hd' hd))]

/-- Where some of the unordered operations, and none of the others, have come up. -/
structure JQ (P : Program) (N k : Nat) (ops : Array Oper) (F : Nat → Regs) (M : Nat → Mem) (V : Nat → Value) (r0 : Ren) (w0 : World) (S : Nat → Prop) (r : Ren) (a : Act) (w : World) : Prop where
  mem : ∀ i, i ≤ k → MemRel (cut r (M i).next) (M i) w
  born : ∀ n l, r n = some l → n < (M 0).next ∨ ∃ i, i < k ∧ S i ∧ (M i).next ≤ n ∧ n < (M (i + 1)).next
  size : a.tmps.size = N
  defers : a.defers = []
  slotW : ∀ (i : Nat) o t, i < k → S i → ops[i]? = some o → o.dst = some t → t < N → VR (cut r (M (i + 1)).next) (V i) (a.tmps.getD t undef)
  slotN : ∀ t, t < N → (∀ (i : Nat) o, i < k → S i → ops[i]? = some o → o.dst ≠ some t) → VR r0 (F 0 t) (a.tmps.getD t undef)
  fr : Fr r0 r (M 0) w0 w
  low : ∀ n, n < (M 0).next → r n = r0 n
  old : ∀ n l, r0 n = some l → n < (M 0).next

theorem getD_put_ne {a : Act} {d : Option Tmp} {v : Value} {t : Nat} (h : d ≠ some t) : (a.put d v).tmps.getD t undef = a.tmps.getD t undef := by
  cases d with
  | none => rfl
  | some d =>
    simp only [Act.put, Array.getD_eq_getD_getElem?, Array.getElem?_setIfInBounds_ne (show d ≠ t from fun e => h (by rw [e]))]

theorem getD_put_eq {a : Act} {v : Value} {t : Nat} (h : t < a.tmps.size) : (a.put (some t) v).tmps.getD t undef = v := by
  simp [Act.put, Array.getD, h]

theorem size_put (a : Act) (d : Option Tmp) (v : Value) : (a.put d v).tmps.size = a.tmps.size := by cases d <;> simp [Act.put]

/-- One more of the unordered operations comes up. -/
theorem JQ.next (ht : Tr P k ops F M V) (hf : RegFacts N k ops) {r0 : Ren} {w0 : World} {S : Nat → Prop} {r : Ren} {a : Act} {w : World} (hj : JQ P N k ops F M V r0 w0 S r a w) {i : Nat} {o : Oper} (hik : i < k) (hio : ops[i]? = some o) (hni : ¬ S i)
    (hclosed : ∀ (i : Nat) o, ops[i]? = some o → S i → ∀ e ∈ o.after, Region.binds .any e = true → S e.on) (hready : ∀ e ∈ o.after, Region.binds .any e = true → S e.on) {K : Act → World → Prop} {Q : Exit → Act → World → Prop}
    (hK : ∀ r2 a2 w2, JQ P N k ops F M V r0 w0 (fun j => S j ∨ j = i) r2 a2 w2 → K a2 w2) : wpOp P ops Q i K a w := by
  obtain ⟨ro, hro, hstep⟩ := ht.step i o hik hio
  have hb := hf.bounded i o hio
  obtain ⟨_, hbar_i, hwf_i, hnext_i⟩ := ht.ext i (by omega)
  obtain ⟨_, _, hwf_i1, hnext_i1⟩ := ht.ext (i + 1) (by omega)
  have hSi : ∀ (i' : Nat) o', ops[i']? = some o' → (S i' ∨ i' = i) → ∀ e ∈ o'.after, Region.binds .any e = true → (S e.on ∨ e.on = i) := by
    intro i' o' hi' hs e he hbd
    rcases hs with hs | rfl
    · exact .inl (hclosed i' o' hi' hs e he hbd)
    · rw [hio] at hi'
      injection hi' with hi'
      subst hi'
      exact .inl (hready e he hbd)
  -- what is in must come before is in
  have hpred : ∀ j, ((bef ops).getD i 0).testBit j = true → j ≠ i → S j := fun j hjb hne => (bef_spec (S := fun x => S x ∨ x = i) hSi hjb (.inr rfl)).resolve_right hne
  have hpost : ∀ j, ((bef ops).getD j 0).testBit i = true → ¬ S j := fun j hjb hs => hni (bef_spec hclosed hjb hs)
  have hmono : ∀ {p q : Nat}, p ≤ q → q ≤ k → Ext (cut r (M p).next) (cut r (M q).next) := fun hpq hq => cut_ext (ht.mono hpq hq).1 fun _ _ _ h => h
  have h0ext : ∀ j, j ≤ k → Ext r0 (cut r (M j).next) := fun j hjk n l hn => by
    have hlt := hj.old n l hn
    have := (ht.ext j hjk).2.2.2
    left
    rw [cut_lt (by omega), hj.low n hlt]
    exact hn
  -- what the operation reads
  have hread : ∀ t, t < N → t ∈ reads ops o → VR (cut r (M i).next) (F i t) (a.tmps.getD t undef) := by
    intro t htN htr
    by_cases hw : ∃ (j : Nat) (o' : Oper), j < i ∧ ops[j]? = some o' ∧ o'.dst = some t
    · obtain ⟨j, o', hji, hjo, hjd⟩ := hw
      rw [ht.slotSome hf hjo hjd i hji (by omega)]
      have hs : S j := by
        rcases hf.reader i j o o' t hio hjo htr hjd (by omega) with ⟨_, h1⟩ | ⟨h1, _⟩
        · exact hpred j h1 (by omega)
        · omega
      exact (hj.slotW j o' t (by omega) hs hjo hjd htN).mono (hmono (by omega) (by omega))
    · rw [ht.slotNone i (by omega) (fun j o' hji hjo hjd => hw ⟨j, o', hji, hjo, hjd⟩)]
      refine (hj.slotN t htN fun j o' hjk hs hjo hjd => ?_).mono (h0ext i (by omega))
      by_cases hje : j = i
      · subst hje; exact hni hs
      · rcases hf.reader i j o o' t hio hjo htr hjd hje with ⟨h1, _⟩ | ⟨_, h1⟩
        · exact hw ⟨j, o', h1, hjo, hjd⟩
        · exact hpost j h1 hs
  have hops : ∀ t, Operand.tmp t ∈ o.op.operands → VR (cut r (M i).next) (F i t) (a.eval (.tmp t)) := fun t hto =>
    hread t (bounded_tmps hb t hto) (List.mem_append_left _ (mem_tmpsOf.1 hto))
  have hgd : ∀ s, guardSlot ops o = some s → VR (cut r (M i).next) (F i s) (a.tmps.getD s undef) := fun s hs =>
    hread s (bounded_guard hb s hs) (List.mem_append_right _ (by simp [hs]))
  have hne_dst : ∀ (j : Nat) o' t, j < k → S j → ops[j]? = some o' → o'.dst = some t → o.dst ≠ some t := fun j o' t hjk hs hjo hjd hd => by
    have := hf.unique i j o o' t hio hjo hd hjd
    subst this
    exact hni hs
  rcases hstep.2 with ⟨hw, hv, hM⟩ | ⟨hw, m1, hev, hM⟩
  · -- it is passed over
    refine skipOp hio hro hb hw hj.size hgd (hK r _ w ?_)
    refine ⟨hj.mem, fun n l hn => ?_, by rw [size_put]; exact hj.size, by rw [put_defers]; exact hj.defers, fun j o' t hjk hs hjo hjd htN => ?_, fun t htN hno => ?_, hj.fr, hj.low, hj.old⟩
    · rcases hj.born n l hn with h1 | ⟨i', h1, h2, h3⟩
      · exact .inl h1
      · exact .inr ⟨i', h1, .inl h2, h3⟩
    · rcases hs with hs | rfl
      · rw [getD_put_ne (hne_dst j o' t hjk hs hjo hjd)]
        exact hj.slotW j o' t hjk hs hjo hjd htN
      · rw [hio] at hjo
        injection hjo with hjo
        subst hjo
        rw [hjd, getD_put_eq (by rw [hj.size]; exact htN), hv]
        exact .und
    · rw [getD_put_ne (hno i o hik (.inr rfl) hio)]
      exact hj.slotN t htN fun j o' hjk hs => hno j o' hjk (.inl hs)
  · -- it is carried out
    have hrin : MemRel (cut r (M i).next) (M i).raise w := by
      have := hj.mem i (by omega)
      exact ⟨Nat.le_refl _, this.born, this.dead, this.live, this.inj⟩
    refine stepOp hio hro hb (out := .val (V i) m1) hev hw hrin hj.size hops hgd (fun v2 m2 he r' v' w' hv' hm' hfr => ?_) (fun v2 m2 he => by cases he)
    injection he with e1 e2
    subst e1 e2
    have hm1n : (M (i + 1)).next = m1.next := by rw [hM]; rfl
    have hm1g : ∀ n, (M (i + 1)).get n = m1.get n := by rw [hM]; exact fun _ => rfl
    have hii1 : (M i).next ≤ (M (i + 1)).next := (ht.mono (Nat.le_succ i) (by omega)).1
    have hr'low : ∀ n, n < (M i).next → r' n = r n := fun n hn => by
      have := hfr.lowR n hn
      rw [this, cut_lt hn]
    have hr'hi : ∀ n l, r' n = some l → n < (M (i + 1)).next := fun n l hn => by rw [hm1n]; exact hm'.born n l hn
    have hrint : ∀ n, (M i).next ≤ n → n < (M (i + 1)).next → r n = none := fun n h1 h2 => by
      cases hrn : r n with
      | none => rfl
      | some l =>
        exfalso
        rcases hj.born n l hrn with h3 | ⟨j, h3, h4, h5, h6⟩
        · omega
        · rcases Nat.lt_trichotomy j i with h7 | h7 | h7
          · have := (ht.mono (show j + 1 ≤ i by omega) (by omega)).1
            omega
          · subst h7; exact hni h4
          · have := (ht.mono (show i + 1 ≤ j by omega) (by omega)).1
            omega
    let r2 : Ren := fun n => if n < (M i).next then r n else if n < (M (i + 1)).next then r' n else r n
    have r2lo : ∀ n, n < (M i).next → r2 n = r n := fun n h => by simp only [r2]; rw [if_pos h]
    have r2mid : ∀ n, (M i).next ≤ n → n < (M (i + 1)).next → r2 n = r' n := fun n h1 h2 => by simp only [r2]; rw [if_neg (by omega), if_pos h2]
    have r2hi : ∀ n, (M (i + 1)).next ≤ n → r2 n = r n := fun n h => by simp only [r2]; rw [if_neg (by omega), if_neg (by omega)]
    have hr_r2 : ∀ n l, r n = some l → r2 n = some l := fun n l hn => by
      rcases Nat.lt_or_ge n (M i).next with h1 | h1
      · rw [r2lo n h1]; exact hn
      · rcases Nat.lt_or_ge n (M (i + 1)).next with h2 | h2
        · rw [hrint n h1 h2] at hn; cases hn
        · rw [r2hi n h2]; exact hn
    have hr'_r2 : ∀ n, n < (M (i + 1)).next → r2 n = r' n := fun n hn => by
      rcases Nat.lt_or_ge n (M i).next with h1 | h1
      · rw [r2lo n h1, hr'low n h1]
      · exact r2mid n h1 hn
    have hcutr' : ∀ q, (M (i + 1)).next ≤ q → Ext r' (cut r2 q) := fun q hq n l hn => by
      have hlt := hr'hi n l hn
      left
      rw [cut_lt (by omega), hr'_r2 n hlt]
      exact hn
    have hcut2 : ∀ q q', q ≤ q' → Ext (cut r q) (cut r2 q') := fun q q' hq => cut_ext hq fun x l _ hx => hr_r2 x l hx
    -- blocks of names that were there are as they were
    have hsame : ∀ n cb base csz, r n = some (.at cb base csz) → cb < w.heap.size ∧ w'.heap[cb]? = w.heap[cb]? := by
      intro n cb base csz hn
      have hk' := hj.mem k (Nat.le_refl k)
      have hnk : n < (M k).next := by
        rcases hj.born n _ hn with h3 | ⟨j, h3, h4, h5, h6⟩
        · have := (ht.ext k (Nat.le_refl k)).2.2.2; omega
        · have := (ht.mono (show j + 1 ≤ k by omega) (Nat.le_refl k)).1; omega
      have hck : cut r (M k).next n = some (.at cb base csz) := by rw [cut_lt hnk]; exact hn
      have hlt := hk'.lt hck
      refine ⟨hlt, ?_⟩
      rcases Nat.lt_or_ge n (M i).next with h1 | h1
      · exact hfr.low n cb base csz h1 (by rw [cut_lt h1]; exact hn)
      · refine hfr.out cb hlt fun n' b' c' hn' => ?_
        obtain ⟨h2, h3⟩ := cut_some hn'
        have hck' : cut r (M k).next n' = some (.at cb b' c') := by
          rw [cut_lt (by have := (ht.mono (show i ≤ k by omega) (Nat.le_refl k)).1; omega)]
          exact h3
        have := hk'.inj _ _ _ _ _ _ _ hck hck'
        omega
    have hnewimg : ∀ n cb base csz, (M i).next ≤ n → r' n = some (.at cb base csz) → w.heap.size ≤ cb := fun n cb base csz h1 hn => by
      rcases hfr.img n cb base csz hn with h2 | h2 | ⟨n0, b0, c0, h2, h3⟩
      · have := (cut_some h2).1; omega
      · exact h2
      · have h4 := (cut_some h3).1
        have : (M i).next ≤ n0 := h2
        omega
    refine hK r2 _ w' ⟨fun q hq => ?_, fun n l hn => ?_, by rw [size_put]; exact hj.size, by rw [put_defers]; exact hj.defers, fun j o' t hjk hs hjo hjd htN => ?_, fun t htN hno => ?_, ?_, fun n hn => ?_, hj.old⟩
    · -- memory
      have hold := hj.mem q hq
      refine ⟨hold.wf, fun n l hn => (cut_some hn).1, fun n hn => ?_, fun n cb base csz hn => ?_, fun n n' cb b c b' c' h1 h2 => ?_⟩
      · obtain ⟨h1, h2⟩ := cut_some hn
        by_cases hmid : (M i).next ≤ n ∧ n < (M (i + 1)).next
        · rw [r2mid n hmid.1 hmid.2] at h2
          have := hm'.dead n h2
          rw [← hm1g] at this
          have hqi : i + 1 ≤ q := by
            rcases Nat.lt_or_ge i q with h | h
            · omega
            · have := (ht.mono h (by omega)).1; omega
          rw [(ht.mono hqi hq).2 n hmid.2]
          exact this
        · have h3 : r2 n = r n := by
            rcases Nat.lt_or_ge n (M i).next with h | h
            · exact r2lo n h
            · exact r2hi n (by omega)
          rw [h3] at h2
          exact hold.dead n (by rw [cut_lt h1]; exact h2)
      · obtain ⟨h1, h2⟩ := cut_some hn
        by_cases hmid : (M i).next ≤ n ∧ n < (M (i + 1)).next
        · rw [r2mid n hmid.1 hmid.2] at h2
          obtain ⟨b, hg, hbr⟩ := hm'.live n cb base csz h2
          have hqi : i + 1 ≤ q := by
            rcases Nat.lt_or_ge i q with h | h
            · omega
            · have := (ht.mono h (by omega)).1; omega
          refine ⟨b, ?_, hbr.mono (hcutr' _ (ht.mono hqi hq).1)⟩
          rw [(ht.mono hqi hq).2 n hmid.2, hm1g]
          exact hg
        · have h3 : r2 n = r n := by
            rcases Nat.lt_or_ge n (M i).next with h | h
            · exact r2lo n h
            · exact r2hi n (by omega)
          rw [h3] at h2
          obtain ⟨b, hg, hbr⟩ := hold.live n cb base csz (by rw [cut_lt h1]; exact h2)
          refine ⟨b, hg, ?_⟩
          rw [(hsame n cb base csz h2).2]
          exact hbr.mono (hcut2 _ _ (Nat.le_refl _))
      · obtain ⟨g1, g2⟩ := cut_some h1
        obtain ⟨g3, g4⟩ := cut_some h2
        have cls : ∀ x, (r2 x = r x ∧ ¬ ((M i).next ≤ x ∧ x < (M (i + 1)).next)) ∨ (r2 x = r' x ∧ (M i).next ≤ x ∧ x < (M (i + 1)).next) := fun x => by
          by_cases hmid : (M i).next ≤ x ∧ x < (M (i + 1)).next
          · exact .inr ⟨r2mid x hmid.1 hmid.2, hmid⟩
          · left
            refine ⟨?_, hmid⟩
            rcases Nat.lt_or_ge x (M i).next with h | h
            · exact r2lo x h
            · exact r2hi x (by omega)
        rcases cls n with ⟨c1, _⟩ | ⟨c1, c2⟩ <;> rcases cls n' with ⟨c3, _⟩ | ⟨c3, c4⟩
        · rw [c1] at g2
          rw [c3] at g4
          exact hold.inj _ _ _ _ _ _ _ (by rw [cut_lt g1]; exact g2) (by rw [cut_lt g3]; exact g4)
        · rw [c1] at g2
          rw [c3] at g4
          have := (hsame n _ _ _ g2).1
          have := hnewimg n' _ _ _ c4.1 g4
          omega
        · rw [c1] at g2
          rw [c3] at g4
          have := (hsame n' _ _ _ g4).1
          have := hnewimg n _ _ _ c2.1 g2
          omega
        · rw [c1] at g2
          rw [c3] at g4
          exact hm'.inj _ _ _ _ _ _ _ g2 g4
    · -- born
      by_cases hmid : (M i).next ≤ n ∧ n < (M (i + 1)).next
      · exact .inr ⟨i, hik, .inr rfl, hmid.1, hmid.2⟩
      · have h3 : r2 n = r n := by
          rcases Nat.lt_or_ge n (M i).next with h | h
          · exact r2lo n h
          · exact r2hi n (by omega)
        rw [h3] at hn
        rcases hj.born n l hn with h1 | ⟨i', h1, h2, h3⟩
        · exact .inl h1
        · exact .inr ⟨i', h1, .inl h2, h3⟩
    · -- slots that were written
      rcases hs with hs | rfl
      · rw [getD_put_ne (hne_dst j o' t hjk hs hjo hjd)]
        exact (hj.slotW j o' t hjk hs hjo hjd htN).mono (hcut2 _ _ (Nat.le_refl _))
      · rw [hio] at hjo
        injection hjo with hjo
        subst hjo
        rw [hjd, getD_put_eq (by rw [hj.size]; exact htN)]
        exact hv'.mono (hcutr' _ (Nat.le_refl _))
    · rw [getD_put_ne (hno i o hik (.inr rfl) hio)]
      exact hj.slotN t htN fun j o' hjk hs => hno j o' hjk (.inl hs)
    · -- the frame
      have hbar0 : (M 0).bar ≤ (M i).next := by omega
      refine ⟨Nat.le_trans hj.fr.size hfr.size, hfr.os.trans hj.fr.os, hfr.tape.trans hj.fr.tape, hfr.output.trans hj.fr.output, fun cb hcb hno => ?_, fun n cb base csz hn hr => ?_, fun n hn => ?_, fun n l hn => ?_, fun n hn hn' => ?_, fun n cb base csz hn => ?_⟩
      · rw [hfr.out cb (Nat.lt_of_lt_of_le hcb hj.fr.size) fun n' b' c' hn' => ?_]
        · exact hj.fr.out cb hcb hno
        · rcases hj.fr.img n' cb b' c' (cut_some hn').2 with h1 | h1 | ⟨n0, b0, c0, _, h1⟩
          · exact hno _ _ _ h1
          · omega
          · exact hno _ _ _ h1
      · have hlt := hj.old n _ hr
        rw [(hsame n cb base csz (by rw [hj.low n hlt]; exact hr)).2]
        exact hj.fr.low n cb base csz hn hr
      · have h1 : n < (M i).next := by omega
        rw [r2lo n h1]
        exact hj.fr.lowR n hn
      · have hlt := hj.old n l hn
        left
        rw [r2lo n (by omega), hj.low n hlt]
        exact hn
      · rcases Nat.lt_or_ge n (M 0).next with h1 | h1
        · exfalso
          apply hn'
          rw [r2lo n (by omega), hj.low n h1]
          exact hn
        · exact h1
      · by_cases hmid : (M i).next ≤ n ∧ n < (M (i + 1)).next
        · rw [r2mid n hmid.1 hmid.2] at hn
          have := hnewimg n _ _ _ hmid.1 hn
          exact .inr (.inl (Nat.le_trans hj.fr.size this))
        · have h3 : r2 n = r n := by
            rcases Nat.lt_or_ge n (M i).next with h | h
            · exact r2lo n h
            · exact r2hi n (by omega)
          rw [h3] at hn
          exact hj.fr.img n cb base csz hn
    · rw [r2lo n (by omega)]
      exact hj.low n hn

end
end Go.Ga
