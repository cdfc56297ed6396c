/- The world in which a claim's call begins, as abstract memory; a law's call. -/
import Derived.Test.YtndikkpmlofebaaGaFn
namespace Go.Ga
open Go

def isCells (w : World) (n : Nat) : Bool :=
  match w.heap[n]? with
  | some (.cells _ _ _) => true
  | _ => false

/-- Values of which all is known that is asked. -/
def goodV (w : World) : Value → Bool
  | .bool _ | .int _ _ | .string _ | .pointer none | .slice none 0 0 => true
  | .pointer (some a) => a.spot.isNone && isCells w a.block
  | _ => false

def absC (w : World) (v : Value) : Value := match v with
  | .slice (some a) n c => if c = 0 then (if n = 0 then .slice (some ⟨a.block, a.off, none⟩) 0 0 else botV) else if a.spot = none ∧ n ≤ c ∧ isCells w a.block = true then .slice (some a) n c else botV
  | v => if goodV w v then v else botV

/-- A value as the abstract memory has it. -/
def absV (w : World) : Value → Value
  | .agg cs => .agg (cs.map (absC w))
  | v => absC w v

def m0 (w : World) : Mem where
  next := w.heap.size
  bar := w.heap.size
  get n := match w.heap[n]? with
    | some (.cells c _ _) => some (.cells (c.toList.map (absC w)) true)
    | _ => none

def r0 (w : World) : Ren := fun n => match w.heap[n]? with
  | some (.cells c _ _) => some (.at n 0 c.size)
  | _ => none

section
variable {P : Program} {w : World}

theorem r0_cells {n : Nat} (h : isCells w n = true) : ∃ csz, r0 w n = some (.at n 0 csz) := by
  unfold isCells at h
  split at h
  · rename_i c e fr hh
    exact ⟨c.size, by simp [r0, hh]⟩
  · cases h

theorem AR_r0 {a : Addr} (hs : a.spot = none) (h : isCells w a.block = true) : AR (r0 w) a.block a.off a := by
  obtain ⟨csz, hc⟩ := r0_cells h
  exact ⟨hs, _, hc, fun _ _ _ e => by injection e with e1 e2 e3; exact ⟨e1, by omega⟩⟩

theorem absC_rel (v : Value) : VR (r0 w) (absC w v) v := by
  unfold absC
  split
  · rename_i a n c
    split
    · rename_i hc
      subst hc
      split
      · rename_i hn
        subst hn
        exact .slice (Nat.le_refl _) ⟨Nat.le_refl _, .inl rfl, (fun e he => by cases he), fun _ => rfl⟩
      · exact .bot _
    · split
      · rename_i h
        exact .slice h.2.1 ⟨Nat.le_refl _, .inr (AR_r0 h.1 h.2.2), (fun e he => by rw [h.1] at he; cases he), fun _ => rfl⟩
      · exact .bot _
  · split
    · rename_i h
      unfold goodV at h
      split at h
      · exact .bool _
      · exact .int _ _
      · exact .string _
      · exact .pnil
      · exact .snil
      · simp only [Bool.and_eq_true, Option.isNone_iff_eq_none] at h
        exact .ptr h.1 (AR_r0 h.1 h.2)
      · cases h
    · exact .bot v

theorem absV_rel (v : Value) : VR (r0 w) (absV w v) v := by
  cases v with
  | agg cs =>
    refine .agg (by simp) fun i => ?_
    by_cases hi : i < cs.size
    · have e1 : (cs.map (absC w)).getD i undef = absC w (cs.getD i undef) := by simp [Array.getD, hi]
      rw [e1]
      exact absC_rel _
    · have e1 : (cs.map (absC w)).getD i undef = undef := by simp [Array.getD, hi]
      have e2 : cs.getD i undef = undef := by simp [Array.getD, hi]
      rw [e1, e2]
      exact .und
  | _ => simp only [absV]; exact absC_rel _

theorem m0_rel (w : World) : MemRel (r0 w) (m0 w) w := by
  refine ⟨Nat.le_refl _, fun n l h => ?_, fun n h => ?_, fun n cb base csz h => ?_, fun n n' cb b c b' c' h1 h2 => ?_⟩
  · show n < w.heap.size
    rcases Nat.lt_or_ge n w.heap.size with h1 | h1
    · exact h1
    · simp [r0, Array.getElem?_eq_none h1] at h
  · unfold r0 at h
    split at h <;> cases h
  · unfold r0 at h
    split at h
    · rename_i c e fr hh
      injection h with h
      injection h with h1 h2 h3
      subst h1 h2 h3
      refine ⟨.cells (c.toList.map (absC w)) true, by simp [m0, hh], c, e, fr, hh, by simp, by omega, fun i hi => ?_, fun h => by cases h⟩
      have hi' : i < c.size := by simpa using hi
      have e1 : (c.toList.map (absC w)).getD i undef = absC w (c.getD i undef) := by simp [List.getD_eq_getElem?_getD, Array.getD, hi']
      rw [e1, Nat.zero_add]
      exact absC_rel _
    · cases h
  · unfold r0 at h1 h2
    split at h1
    · split at h2
      · injection h1 with h1; injection h1 with h1 _ _
        injection h2 with h2; injection h2 with h2 _ _
        omega
      · cases h2
    · cases h1

/-- **A law's call.** -/
theorem law_calls {g : FuncId} {args : Array Value} {K : Res → Mem → Prop} (h : Fn P g (args.toList.map (absV w)) (m0 w) K) (hk : ∀ res m', K res m' → res = .ret (.bool true)) :
    Calls P g args w fun e w' => e = .returned (.bool true) ∧ Go.RowKit.Below w.heap.size w w' := by
  obtain ⟨res, m', ⟨_, _, hc⟩, hK⟩ := h (Nat.le_refl _)
  have hres := hk res m' hK
  subst hres
  refine (hc (r0 w) w args (m0_rel w) (by simp) fun i => ?_).mono fun e w' he => ?_
  · by_cases hi : i < args.size
    · have e1 : (args.toList.map (absV w)).getD i undef = absV w (args.getD i undef) := by simp [List.getD_eq_getElem?_getD, Array.getD, hi]
      rw [e1]
      exact absV_rel _
    · have e1 : (args.toList.map (absV w)).getD i undef = undef := by
        rw [List.getD_eq_getElem?_getD, List.getElem?_eq_none (by simp; omega)]
        rfl
      have e2 : args.getD i undef = undef := by simp [Array.getD, hi]
      rw [e1, e2]
      exact .und
  · obtain ⟨r', hr, hm', hf⟩ := he
    refine ⟨?_, hf.os, hf.tape, hf.output, hf.size, fun k hk => ?_⟩
    · cases e with
      | returned v' =>
        have : VR r' (.bool true) v' := hr
        rw [this.eq_of_plain rfl]
      | panicked ch => exact hr.elim
      | outgrown => exact hr.elim
    · cases hc : isCells w k with
      | true =>
        obtain ⟨csz, hcs⟩ := r0_cells hc
        exact hf.low k k 0 csz hk hcs
      | false =>
        refine hf.out k hk fun n b c hn => ?_
        unfold r0 at hn
        split at hn
        · rename_i cc e fr hh
          injection hn with hn; injection hn with h1 _ _
          subst h1
          simp [isCells, hh] at hc
        · cases hn

end
end Go.Ga
