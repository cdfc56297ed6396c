/- A region that draws its order comes to what its text says, in whatever order: all together. -/
import Derived.Test.YtndikkpmlofebaaGaDraw2
namespace Go.Ga
open Go

section
variable {P : Program} {N k : Nat} {ops : Array Oper}

def isIn (listed : Array Bool) (j : Nat) : Prop := listed.getD j false = true

def left (n : Nat) (listed : Array Bool) : Nat := (List.range n).countP fun j => !listed.getD j false

theorem countP_one {i : Nat} {p p' : Nat → Bool} (hp : p i = true) (hp' : p' i = false) : ∀ n, i < n → (∀ j, j ≠ i → p j = p' j) → (List.range n).countP p = (List.range n).countP p' + 1
  | 0, h, _ => by omega
  | n + 1, h, hj => by
    rw [List.range_succ, List.countP_append, List.countP_append]
    by_cases he : i = n
    · subst he
      have : (List.range i).countP p = (List.range i).countP p' := List.countP_congr fun x hx => by
        rw [hj x (by have := List.mem_range.1 hx; omega)]
      simp [this, hp, hp']
    · rw [countP_one hp hp' n (by omega) hj]
      have : p n = p' n := hj n (fun e => he e.symm)
      simp only [List.countP_singleton, this]
      omega

theorem getD_set_self {listed : Array Bool} {i : Nat} (h : i < listed.size) : (listed.setIfInBounds i true).getD i false = true := by simp [Array.getD, h]

theorem getD_set_other {listed : Array Bool} {i j : Nat} (h : j ≠ i) : (listed.setIfInBounds i true).getD j false = listed.getD j false := by
  simp only [Array.getD_eq_getD_getElem?, Array.getElem?_setIfInBounds_ne (show i ≠ j from fun e => h e.symm)]

theorem left_set {listed : Array Bool} {i n : Nat} (hi : i < n) (hs : listed.size = n) (hu : listed.getD i false = false) : left n listed = left n (listed.setIfInBounds i true) + 1 :=
  countP_one (i := i) (by simp [hu]) (by simp [getD_set_self (show i < listed.size by omega)]) n hi fun j hj => by simp [getD_set_other hj]

theorem left_zero {listed : Array Bool} {n : Nat} (h : left n listed = 0) : ∀ j, j < n → isIn listed j := fun j hj => by
  have := List.countP_eq_zero.1 h j (List.mem_range.2 hj)
  simpa [isIn] using this

theorem ready_unlisted {listed : Array Bool} (hs : listed.size = ops.size) {i : Nat} (h : i ∈ Region.ready .any ops listed) : i < ops.size ∧ ¬ isIn listed i ∧ ∃ o, ops[i]? = some o ∧ ∀ e ∈ o.after, Region.binds .any e = true → isIn listed e.on := by
  obtain ⟨h1, o, h2, h3⟩ := mem_ready.1 h
  have hlt : i < ops.size := by
    rcases Nat.lt_or_ge i ops.size with h | h
    · exact h
    · rw [Array.getElem?_eq_none h] at h2; cases h2
  refine ⟨hlt, fun hin => ?_, o, h2, h3⟩
  unfold isIn at hin
  simp only [Array.getD, show i < listed.size by omega, dite_true] at h1 hin
  rw [h1] at hin
  cases hin

theorem all_in (hf : RegFacts N k ops) {listed : Array Bool} (hs : listed.size = ops.size) (h : Region.ready .any ops listed = []) : ∀ j, j < ops.size → isIn listed j := by
  intro j
  induction j using Nat.strongRecOn with
  | _ j ih =>
    intro hj
    rcases Classical.em (isIn listed j) with hin | hin
    · exact hin
    · exfalso
      have ho : ops[j]? = some ops[j] := Array.getElem?_eq_getElem hj
      have : j ∈ Region.ready .any ops listed := mem_ready.2 ⟨by
        unfold isIn at hin
        simp only [Array.getD, show j < listed.size by omega, dite_true] at hin ⊢
        simpa using hin, _, ho, fun e he hb => ih e.on (hf.back j _ ho e he hb) (by have := hf.back j _ ho e he hb; omega)⟩
      rw [h] at this
      cases this

/-- The ordered part: one may come up at a time. -/
theorem tail_any (hf : RegFacts N k ops) {Q : Exit → Act → World → Prop} : ∀ (fuel i : Nat) (listed : Array Bool) (a : Act) (w : World), k ≤ i → i ≤ ops.size → listed.size = ops.size → (∀ j, j < ops.size → (isIn listed j ↔ j < i)) → fuel = left ops.size listed →
    wpOps P ops Q (List.range' i (ops.size - i)) a w → wpAny P .any ops Q fuel listed a w := by
  intro fuel
  induction fuel with
  | zero =>
    intro i listed a w hk hi hs hin hfu h
    have hall := left_zero hfu.symm
    have : i = ops.size := by
      rcases Nat.lt_or_ge i ops.size with h1 | h1
      · have := (hin i h1).1 (hall i h1); omega
      · omega
    subst this
    rw [Nat.sub_self] at h
    refine ⟨?_, h⟩
    apply List.eq_nil_iff_forall_not_mem.2
    intro j hj
    obtain ⟨h1, h2, _⟩ := ready_unlisted hs hj
    exact h2 (hall j h1)
  | succ fuel ih =>
    intro i listed a w hk hi hs hin hfu h
    refine ⟨fun hr => ?_, fun j hj => ?_⟩
    · have hall := all_in hf hs hr
      have : i = ops.size := by
        rcases Nat.lt_or_ge i ops.size with h1 | h1
        · have := (hin i h1).1 (hall i h1); omega
        · omega
      subst this
      rw [Nat.sub_self] at h
      exact h
    · obtain ⟨hlt, hun, o, ho, hdeps⟩ := ready_unlisted hs hj
      have hji : i ≤ j := by
        rcases Nat.lt_or_ge j i with h1 | h1
        · exact absurd ((hin j hlt).2 h1) hun
        · exact h1
      have hcl : ∀ (x : Nat) ox, ops[x]? = some ox → (isIn listed x ∨ x = j) → ∀ e ∈ ox.after, Region.binds .any e = true → (isIn listed e.on ∨ e.on = j) := by
        intro x ox hx hs' e he hb
        rcases hs' with hs' | rfl
        · have hxlt : x < ops.size := by
            rcases Nat.lt_or_ge x ops.size with h | h
            · exact h
            · rw [Array.getElem?_eq_none h] at hx; cases hx
          have := hf.back x ox hx e he hb
          exact .inl ((hin e.on (by omega)).2 (by have := (hin x hxlt).1 hs'; omega))
        · rw [ho] at hx
          injection hx with hx
          subst hx
          exact .inl (hdeps e he hb)
      have hje : j = i := by
        rcases Nat.lt_or_ge i j with h1 | h1
        · exfalso
          have hb := hf.tail j (by omega) hlt i h1
          rcases bef_spec (S := fun x => isIn listed x ∨ x = j) hcl hb (.inr rfl) with h2 | h2
          · have := (hin i (by omega)).1 h2; omega
          · omega
        · omega
      subst hje
      have hsplit : List.range' j (ops.size - j) = j :: List.range' (j + 1) (ops.size - (j + 1)) := by
        rw [show ops.size - j = (ops.size - (j + 1)) + 1 by omega, List.range'_succ]
      rw [hsplit, wpOps_cons] at h
      have hun' : listed.getD j false = false := by
        unfold isIn at hun
        simpa using hun
      refine wpOp_mono (fun a w h => ih (j + 1) _ a w (by omega) (by omega) (by simpa using hs) (fun x hx => ?_) (by have := left_set hlt hs hun'; omega) h) h
      by_cases hxj : x = j
      · subst hxj
        simp only [isIn, getD_set_self (show x < listed.size by omega)]
        simp
      · simp only [isIn, getD_set_other hxj]
        have := hin x hx
        simp only [isIn] at this
        rw [this]
        omega

variable {F : Nat → Regs} {M : Nat → Mem} {V : Nat → Value}

/-- The unordered part, from wherever it stands. -/
theorem quiet_any (ht : Tr P k ops F M V) (hf : RegFacts N k ops) {r0 : Ren} {w0 : World} {Q : Exit → Act → World → Prop}
    (hend : ∀ r a w, MemRel r (M k) w → RegRel N r (F k) a → Fr r0 r (M 0) w0 w → wpOps P ops Q (List.range' k (ops.size - k)) a w) :
    ∀ (fuel : Nat) (listed : Array Bool) (r : Ren) (a : Act) (w : World), listed.size = ops.size → (∀ j, k ≤ j → ¬ isIn listed j) → (∀ (i : Nat) o, ops[i]? = some o → isIn listed i → ∀ e ∈ o.after, Region.binds .any e = true → isIn listed e.on) →
      fuel = left ops.size listed → JQ P N k ops F M V r0 w0 (isIn listed) r a w → wpAny P .any ops Q fuel listed a w := by
  intro fuel listed
  -- all of the unordered part has come up
  have turn : ∀ (fuel : Nat) (listed : Array Bool) (r : Ren) (a : Act) (w : World), listed.size = ops.size → (∀ j, k ≤ j → ¬ isIn listed j) → (∀ j, j < k → isIn listed j) → fuel = left ops.size listed → JQ P N k ops F M V r0 w0 (isIn listed) r a w → wpAny P .any ops Q fuel listed a w := by
    intro fuel listed r a w hs htail hall hfu hj
    have hkn := ht.le
    refine tail_any hf fuel k listed a w (Nat.le_refl k) hkn hs (fun j _ => ⟨fun h => ?_, fun h => hall j h⟩) hfu (hend r a w ?_ ⟨hj.size, hj.defers, fun t htN => ?_⟩ hj.fr)
    · rcases Nat.lt_or_ge j k with h1 | h1
      · exact h1
      · exact absurd h (htail j h1)
    · have hm := hj.mem k (Nat.le_refl k)
      have hcut : cut r (M k).next = r := by
        funext n
        unfold cut
        split
        · rfl
        · rename_i hge
          cases hr : r n with
          | none => rfl
          | some l =>
            rcases hj.born n l hr with h1 | ⟨i, h1, _, _, h2⟩
            · have := (ht.ext k (Nat.le_refl k)).2.2.2; omega
            · have := (ht.mono (show i + 1 ≤ k by omega) (Nat.le_refl k)).1; omega
      rw [hcut] at hm
      exact hm
    · have hmono : ∀ q, Ext (cut r q) r := fun q n l hn => .inl (cut_some hn).2
      by_cases hw : ∃ (i : Nat) (o : Oper), i < k ∧ ops[i]? = some o ∧ o.dst = some t
      · obtain ⟨i, o, h1, h2, h3⟩ := hw
        rw [ht.slotSome hf h2 h3 k h1 (Nat.le_refl k)]
        exact (hj.slotW i o t h1 (hall i h1) h2 h3 htN).mono (hmono _)
      · rw [ht.slotNone k (Nat.le_refl k) (fun i o h1 h2 h3 => hw ⟨i, o, h1, h2, h3⟩)]
        refine (hj.slotN t htN fun i o h1 _ h2 h3 => hw ⟨i, o, h1, h2, h3⟩).mono fun n l hn => ?_
        have := hj.old n l hn
        left
        rw [hj.low n this]
        exact hn
  induction fuel generalizing listed with
  | zero =>
    intro r a w hs htail hcl hfu hj
    exact turn 0 listed r a w hs htail (fun j hj => left_zero hfu.symm j (by have := ht.le; omega)) hfu hj
  | succ fuel ih =>
    intro r a w hs htail hcl hfu hj
    by_cases hall : ∀ j, j < k → isIn listed j
    · exact turn _ listed r a w hs htail hall hfu hj
    · refine ⟨fun hr => absurd (fun j hj => all_in hf hs hr j (by have := ht.le; omega)) hall, fun i hi => ?_⟩
      obtain ⟨hlt, hun, o, ho, hdeps⟩ := ready_unlisted hs hi
      have hik : i < k := by
        rcases Nat.lt_or_ge i k with h1 | h1
        · exact h1
        · exfalso
          apply hall
          intro j hj
          have hcl' : ∀ (x : Nat) ox, ops[x]? = some ox → (isIn listed x ∨ x = i) → ∀ e ∈ ox.after, Region.binds .any e = true → (isIn listed e.on ∨ e.on = i) := by
            intro x ox hx hs' e he hb
            rcases hs' with hs' | rfl
            · exact .inl (hcl x ox hx hs' e he hb)
            · rw [ho] at hx
              injection hx with hx
              subst hx
              exact .inl (hdeps e he hb)
          rcases bef_spec (S := fun x => isIn listed x ∨ x = i) hcl' (hf.tail i h1 hlt j (by omega)) (.inr rfl) with h2 | h2
          · exact h2
          · omega
      have hun' : listed.getD i false = false := by
        unfold isIn at hun
        simpa using hun
      have hset : ∀ x, isIn (listed.setIfInBounds i true) x ↔ (isIn listed x ∨ x = i) := by
        intro x
        by_cases hx : x = i
        · subst hx
          simp only [isIn, getD_set_self (show x < listed.size by omega)]
          simp
        · simp only [isIn, getD_set_other hx]
          simp [hx]
      refine hj.next ht hf hik ho hun hcl hdeps fun r2 a2 w2 hj2 => ih (listed.setIfInBounds i true) r2 a2 w2 (by simpa using hs) (fun j hj hin => ?_) (fun x ox hx hin e he hb => ?_) (by have := left_set hlt hs hun'; omega) ?_
      · rcases (hset j).1 hin with h1 | h1
        · exact htail j hj h1
        · omega
      · rw [hset] at hin ⊢
        rcases hin with h1 | rfl
        · exact .inl (hcl x ox hx h1 e he hb)
        · rw [ho] at hx
          injection hx with hx
          subst hx
          exact .inl (hdeps e he hb)
      · have : isIn (listed.setIfInBounds i true) = fun j => isIn listed j ∨ j = i := funext fun x => propext (hset x)
        rw [this]
        exact hj2

/-- **A region that draws its order.** -/
theorem drawn_ok (hmx : P.follows .mixedOrders = true) (hk : k ≤ ops.size) (hreg : regOK N k ops = true) {qs ts : List RO} (hq : resolveOpers P ops (ops.toList.take k) = some qs) (hts : resolveOpers P ops (ops.toList.drop k) = some ts)
    {f : Regs} {m : Mem} {Q : AEx → Regs → Mem → Prop} (hgo : goQuiet P qs f m fun f1 m1 => goOps P ts f1 m1 Q) (hwf : m.bar ≤ m.next) (id : Nat) :
    ∃ ex f' m', Q ex f' m' ∧ MExt m m' ∧ ∀ (r : Ren) (w : World) (a : Act), MemRel r m w → RegRel N r f a → (Code.region id ops true).wp P (Post N r m w ex f' m') a w := by
  have hf := regFacts hreg
  obtain ⟨F, M, V, h1, h2, h3, h4⟩ := quiet_trace _ _ _ _ _ hq hgo hwf
  have hlen : (ops.toList.take k).length = k := by simp; omega
  rw [hlen] at h3
  have ht : Tr P k ops F M V := ⟨hk, by rw [h2]; exact hwf, fun i o hi ho => h4 i o (by rw [List.getElem?_take, if_pos hi]; simpa using ho)⟩
  obtain ⟨hx, _, hwfk, _⟩ := ht.ext k (Nat.le_refl k)
  obtain ⟨ex, f', m', hQ, hx2, hrun⟩ := goOps_ok (ops := ops) (N := N) (ops.toList.drop k) ts k (F k) (M k) Q (fun j => by simp) hts (fun o ho => by
    have := List.mem_of_mem_drop ho
    obtain ⟨i, hi, rfl⟩ := List.getElem_of_mem this
    exact hf.bounded i _ (by simp at hi; simp [hi])) h3 hwfk
  rw [h2] at hx
  refine ⟨ex, f', m', hQ, hx.trans hx2, fun r w a hm ha => ?_⟩
  refine wp_region_any hmx ?_
  have hrange : (List.range' k (ops.toList.drop k).length) = List.range' k (ops.size - k) := by simp
  refine quiet_any ht hf (r0 := r) (w0 := { w with drawn := w.drawn + 1 }) (fun r1 a1 w1 g1 g2 g3 => ?_) ops.size (Array.replicate ops.size false) r a _ (by simp) (fun j _ h => ?_) (fun i o _ h => ?_) ?_ ?_
  · have := hrun r1 w1 a1 g1 g2
    rw [hrange] at this
    refine wpOps_mono (fun e a2 w2 hp => ?_) _ _ _ this
    obtain ⟨r2, q1, q2, q3, q4⟩ := hp
    have hfr : Fr r r2 (M 0) { w with drawn := w.drawn + 1 } w2 := g3.trans (by rw [h2]; exact hx) q4
    rw [h2] at hfr
    exact ⟨r2, q1, q2, q3, ⟨hfr.size, hfr.os, hfr.tape, hfr.output, hfr.out, hfr.low, hfr.lowR, hfr.ext, hfr.fresh, hfr.img⟩⟩
  · simp [isIn, Array.getD] at h
  · simp [isIn, Array.getD] at h
  · have : ∀ n, (List.range n).countP (fun j => !(Array.replicate ops.size false).getD j false) = n := by
      intro n
      rw [List.countP_eq_length.2]
      · simp
      · intro x _
        simp [Array.getD]
    exact (this ops.size).symm
  · have hmem : MemRel r (M 0) { w with drawn := w.drawn + 1 } := by rw [h2]; exact hm.drawn _
    have hcut : ∀ q, q ≤ k → cut r (M q).next = r := fun q hq => by
      funext n
      unfold cut
      split
      · rfl
      · rename_i hge
        cases hr : r n with
        | none => rfl
        | some l =>
          have := hmem.born n l hr
          have := (ht.ext q hq).2.2.2
          omega
    refine ⟨fun q hq => ?_, fun n l hn => .inl (hmem.born n l hn), ha.1, ha.2.1, fun i o t _ h => ?_, fun t htN _ => ?_, Fr.refl r _ _, fun _ _ => rfl, fun n l hn => hmem.born n l hn⟩
    · rw [hcut q hq]
      obtain ⟨_, _, hwfq, hnx⟩ := ht.ext q hq
      obtain ⟨_, hget⟩ := ht.mono (Nat.zero_le q) hq
      exact ⟨hwfq, fun n l hn => Nat.lt_of_lt_of_le (hmem.born n l hn) hnx, fun n hn => by rw [hget n (hmem.born n _ hn)]; exact hmem.dead n hn, fun n cb base csz hn => by
        rw [hget n (hmem.born n _ hn)]; exact hmem.live n cb base csz hn, hmem.inj⟩
    · simp [isIn, Array.getD] at h
    · rw [h1]
      exact ha.2.2 t htN

end
end Go.Ga
