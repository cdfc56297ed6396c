/- Words and contracts of functions for the statement's proof. No condition. -/
import Derived.Test.YtdoceobedbmkiaaA3
import Derived.ChangeArms
import Derived.OpenShut
import Derived.DataReads
set_option linter.all false

namespace Go.Ga
open Go Go.Proofs
set_option linter.unusedSimpArgs false
set_option linter.unusedVariables false
set_option maxRecDepth 100000
attribute [local irreducible] appendK endK endW sch comp rs

def hcells (W : List UInt32) (R : List UInt8) (M : Nat) : List Value := W.map u32V ++ (R.map u8V ++ [.int .u64 (M : Nat)])

def fullT : RC :=
  (.tree [
  ⟨(some 11), (.op (.mv (.t 0))), none⟩,
  ⟨(some 12), (.op (.chk (.t 11))), none⟩,
  ⟨(some 13), (.op (.fieldAddr 8 (.t 12))), none⟩,
  ⟨(some 14), (.call (.k (.func (.func 59) #[] #[])) [(.t 13)]), none⟩,
  ⟨(some 15), (.call (.k (.func (.func 60) #[] #[])) []), none⟩,
  ⟨(some 16), (.op (.mv (.t 0))), none⟩,
  ⟨(some 17), (.op (.chk (.t 16))), none⟩,
  ⟨(some 18), (.op (.fieldAddr 0 (.t 17))), none⟩,
  ⟨(some 19), (.op (.loadN 8 (.t 18))), none⟩,
  ⟨(some 2), (.op (.new [(.int .u32 0), (.int .u32 0), (.int .u32 0), (.int .u32 0), (.int .u32 0), (.int .u32 0), (.int .u32 0), (.int .u32 0), (.int .u32 0), (.int .u32 0), (.int .u32 0), (.int .u32 0), (.int .u32 0), (.int .u32 0), (.int .u32 0), (.int .u32 0), (.int .u32 0), (.int .u32 0), (.int .u32 0), (.int .u32 0), (.int .u32 0), (.int .u32 0), (.int .u32 0), (.int .u32 0), (.int .u32 0), (.int .u32 0), (.int .u32 0), (.int .u32 0), (.int .u32 0), (.int .u32 0), (.int .u32 0), (.int .u32 0), (.int .u32 0), (.int .u32 0), (.int .u32 0), (.int .u32 0), (.int .u32 0), (.int .u32 0), (.int .u32 0), (.int .u32 0), (.int .u32 0), (.int .u32 0), (.int .u32 0), (.int .u32 0), (.int .u32 0), (.int .u32 0), (.int .u32 0), (.int .u32 0), (.int .u32 0), (.int .u32 0), (.int .u32 0), (.int .u32 0), (.int .u32 0), (.int .u32 0), (.int .u32 0), (.int .u32 0), (.int .u32 0), (.int .u32 0), (.int .u32 0), (.int .u32 0), (.int .u32 0), (.int .u32 0), (.int .u32 0), (.int .u32 0)])), none⟩,
  ⟨(some 4), (.op (.new [(.int .u32 0), (.int .u32 0), (.int .u32 0), (.int .u32 0), (.int .u32 0), (.int .u32 0), (.int .u32 0), (.int .u32 0)])), none⟩,
  ⟨none, (.op (.store 64 (.t 2) (.t 14))), none⟩,
  ⟨(some 3), (.op (.mv (.t 15))), none⟩,
  ⟨none, (.op (.store 8 (.t 4) (.t 19))), none⟩] d___sha_Hash__full q___sha_Hash__full)
def fullO : List RO := match fullT with | .tree os _ _ => os | _ => []

structure FullI (nx q : Nat) (gt : Nat → Option Blk) (V : List UInt32) (R : List UInt8) (S : Nat → Bool) (f : Regs) (x : Nat) (g : Nat → Option Blk) (pw pv pc : Nat) : Prop where
  le : nx ≤ x
  f0 : f 0 = .pointer (some ⟨q, 0, none⟩)
  old : ∀ p, p < nx → g p = gt p
  s0 : S 0 = true → f 11 = .pointer (some ⟨q, 0, none⟩)
  s1 : S 1 = true → f 12 = .pointer (some ⟨q, 0, none⟩)
  s2 : S 2 = true → f 13 = .pointer (some ⟨q, 8, none⟩)
  s3 : S 3 = true → f 14 = .agg ((sch R 64).map u32V).toArray
  s4 : S 4 = true → f 15 = .pointer (some ⟨pc, 0, none⟩) ∧ nx ≤ pc ∧ pc < x ∧ g pc = some (.cells (k256.map u32V) false)
  s5 : S 5 = true → f 16 = .pointer (some ⟨q, 0, none⟩)
  s6 : S 6 = true → f 17 = .pointer (some ⟨q, 0, none⟩)
  s7 : S 7 = true → f 18 = .pointer (some ⟨q, 0, none⟩)
  s8 : S 8 = true → f 19 = .agg (V.map u32V).toArray
  s9 : S 9 = true → f 2 = .pointer (some ⟨pw, 0, none⟩) ∧ nx ≤ pw ∧ pw < x ∧ g pw = some (.cells (if S 11 = true then (sch R 64).map u32V else (List.replicate 64 (0 : UInt32)).map u32V) false)
  s10 : S 10 = true → f 4 = .pointer (some ⟨pv, 0, none⟩) ∧ nx ≤ pv ∧ pv < x ∧ g pv = some (.cells (if S 13 = true then V.map u32V else (List.replicate 8 (0 : UInt32)).map u32V) false)
  s12 : S 12 = true → f 3 = .pointer (some ⟨pc, 0, none⟩)
  n1 : S 9 = true → S 10 = true → pw ≠ pv
  n2 : S 9 = true → S 4 = true → pw ≠ pc
  n3 : S 10 = true → S 4 = true → pv ≠ pc
  n4 : S 12 = true → S 4 = true
  n5 : S 11 = true → S 9 = true
  n6 : S 13 = true → S 10 = true

theorem FullI.mem {nx q : Nat} {gt : Nat → Option Blk} {V : List UInt32} {R : List UInt8} {S : Nat → Bool} {f : Regs} {x : Nat} {g : Nat → Option Blk} {pw pv pc x' : Nat} {g' : Nat → Option Blk} (h : FullI nx q gt V R S f x g pw pv pc) (hx : x ≤ x') (hg : ∀ p, p < x → g' p = g p) : FullI nx q gt V R S f x' g' pw pv pc := by
  obtain ⟨le, f0, old, s0, s1, s2, s3, s4, s5, s6, s7, s8, s9, s10, s12, n1, n2, n3, n4, n5, n6⟩ := h
  refine ⟨by omega, f0, fun p hp => (hg p (by omega)).trans (old p hp), s0, s1, s2, s3, fun h => ?_, s5, s6, s7, s8, fun h => ?_, fun h => ?_, s12, n1, n2, n3, n4, n5, n6⟩
  · obtain ⟨a, b, c, d⟩ := s4 h; exact ⟨a, b, by omega, by rw [hg _ c, d]⟩
  · obtain ⟨a, b, c, d⟩ := s9 h; exact ⟨a, b, by omega, by rw [hg _ c, d]⟩
  · obtain ⟨a, b, c, d⟩ := s10 h; exact ⟨a, b, by omega, by rw [hg _ c, d]⟩

theorem hcells_rest {W : List UInt32} {R : List UInt8} {M i : Nat} (hW : W.length = 8) (hR : R.length = 64) (hi : i < 64) : (hcells W R M).getD (8 + i) undef = .int .u8 ((R.getD i 0).toNat : Nat) := by
  rw [hcells, List.getD_eq_getElem?_getD, List.getElem?_append_right (by simp; omega), List.length_map, hW, Nat.add_sub_cancel_left, List.getElem?_append_left (by simp; omega), ← List.getD_eq_getElem?_getD]
  exact getD_u8 (by omega)
theorem hcells_words {W : List UInt32} {R : List UInt8} {M : Nat} (hW : W.length = 8) : List.take 8 (List.drop 0 (hcells W R M)) = W.map u32V := by
  rw [List.drop_zero, hcells, List.take_append_of_le_length (by simp; omega), List.take_of_length_le (by simp; omega)]

def FullS (nx q : Nat) (gt : Nat → Option Blk) (V : List UInt32) (R : List UInt8) (i : Nat) : Prop := ∀ S f x g pw pv pc, FullI nx q gt V R S f x g pw pv pc → S i = false → (∀ j ∈ d___sha_Hash__full.getD i [], S j = true) → ∃ o, fullO[i]? = some o ∧ ∀ K : AEx → Regs → Mem → Prop, (∀ f1 x g pw pv pc, FullI nx q gt V R (fun j => S j || decide (j = i)) f1 x g pw pv pc → K .normal f1 ⟨x, nx, g⟩) → goOps Try.prog [o] f ⟨x, nx, g⟩ K

theorem full_0 {nx q : Nat} {gt : Nat → Option Blk} {V : List UInt32} {R : List UInt8} {M : Nat} (hq : q < nx) (hg : gt q = some (.cells (hcells V R M) false)) (hV : V.length = 8) (hR : R.length = 64) : FullS nx q gt V R 0 := by
  intro S f x g pw pv pc h hS hdep
  refine ⟨_, rfl, fun K hK => ?_⟩
  simp only [↓gaW, ↓gaV, ↓gaC, ↓gaN, gaP, Nat.reduceEqDiff, Nat.reduceLeDiff, Nat.reduceAdd, Nat.reduceSub, Nat.reduceMul, Int.reduceLT, Int.reduceLE, Int.reduceEq, Int.reduceToNat, Int.reduceAdd, Int.reduceSub, Int.reduceMul, reduceCtorEq, ↓reduceIte, gaU, h.f0]
  refine hK _ _ _ _ _ _ (?_ : FullI nx q gt V R _ _ x g pw pv pc)
  obtain ⟨le, f0, old, s0, s1, s2, s3, s4, s5, s6, s7, s8, s9, s10, s12, n1, n2, n3, n4, n5, n6⟩ := h
  constructor
  all_goals try simp only [↓gaW, ↓gaV, ↓gaC, ↓gaN, gaP, Nat.reduceEqDiff, Nat.reduceLeDiff, Nat.reduceAdd, Nat.reduceSub, Nat.reduceMul, Int.reduceLT, Int.reduceLE, Int.reduceEq, Int.reduceToNat, Int.reduceAdd, Int.reduceSub, Int.reduceMul, reduceCtorEq, ↓reduceIte, gaU, Bool.or_eq_true, decide_eq_true_eq, Nat.reduceEqDiff, or_false, or_true, false_or, true_or, forall_const, Bool.or_false, Bool.or_true, decide_false, decide_true, false_implies, true_implies, implies_true, hS, Bool.false_eq_true, Bool.or_self, and_self, and_true]
  all_goals try assumption

theorem full_1 {nx q : Nat} {gt : Nat → Option Blk} {V : List UInt32} {R : List UInt8} {M : Nat} (hq : q < nx) (hg : gt q = some (.cells (hcells V R M) false)) (hV : V.length = 8) (hR : R.length = 64) : FullS nx q gt V R 1 := by
  intro S f x g pw pv pc h hS hdep
  refine ⟨_, rfl, fun K hK => ?_⟩
  simp only [↓gaW, ↓gaV, ↓gaC, ↓gaN, gaP, Nat.reduceEqDiff, Nat.reduceLeDiff, Nat.reduceAdd, Nat.reduceSub, Nat.reduceMul, Int.reduceLT, Int.reduceLE, Int.reduceEq, Int.reduceToNat, Int.reduceAdd, Int.reduceSub, Int.reduceMul, reduceCtorEq, ↓reduceIte, gaU, h.s0 (hdep 0 (by decide))]
  refine hK _ _ _ _ _ _ (?_ : FullI nx q gt V R _ _ x g pw pv pc)
  obtain ⟨le, f0, old, s0, s1, s2, s3, s4, s5, s6, s7, s8, s9, s10, s12, n1, n2, n3, n4, n5, n6⟩ := h
  constructor
  all_goals try simp only [↓gaW, ↓gaV, ↓gaC, ↓gaN, gaP, Nat.reduceEqDiff, Nat.reduceLeDiff, Nat.reduceAdd, Nat.reduceSub, Nat.reduceMul, Int.reduceLT, Int.reduceLE, Int.reduceEq, Int.reduceToNat, Int.reduceAdd, Int.reduceSub, Int.reduceMul, reduceCtorEq, ↓reduceIte, gaU, Bool.or_eq_true, decide_eq_true_eq, Nat.reduceEqDiff, or_false, or_true, false_or, true_or, forall_const, Bool.or_false, Bool.or_true, decide_false, decide_true, false_implies, true_implies, implies_true, hS, Bool.false_eq_true, Bool.or_self, and_self, and_true]
  all_goals try assumption

theorem full_2 {nx q : Nat} {gt : Nat → Option Blk} {V : List UInt32} {R : List UInt8} {M : Nat} (hq : q < nx) (hg : gt q = some (.cells (hcells V R M) false)) (hV : V.length = 8) (hR : R.length = 64) : FullS nx q gt V R 2 := by
  intro S f x g pw pv pc h hS hdep
  refine ⟨_, rfl, fun K hK => ?_⟩
  simp only [↓gaW, ↓gaV, ↓gaC, ↓gaN, gaP, Nat.reduceEqDiff, Nat.reduceLeDiff, Nat.reduceAdd, Nat.reduceSub, Nat.reduceMul, Int.reduceLT, Int.reduceLE, Int.reduceEq, Int.reduceToNat, Int.reduceAdd, Int.reduceSub, Int.reduceMul, reduceCtorEq, ↓reduceIte, gaU, h.s1 (hdep 1 (by decide)), Nat.zero_add]
  refine hK _ _ _ _ _ _ (?_ : FullI nx q gt V R _ _ x g pw pv pc)
  obtain ⟨le, f0, old, s0, s1, s2, s3, s4, s5, s6, s7, s8, s9, s10, s12, n1, n2, n3, n4, n5, n6⟩ := h
  constructor
  all_goals try simp only [↓gaW, ↓gaV, ↓gaC, ↓gaN, gaP, Nat.reduceEqDiff, Nat.reduceLeDiff, Nat.reduceAdd, Nat.reduceSub, Nat.reduceMul, Int.reduceLT, Int.reduceLE, Int.reduceEq, Int.reduceToNat, Int.reduceAdd, Int.reduceSub, Int.reduceMul, reduceCtorEq, ↓reduceIte, gaU, Bool.or_eq_true, decide_eq_true_eq, Nat.reduceEqDiff, or_false, or_true, false_or, true_or, forall_const, Bool.or_false, Bool.or_true, decide_false, decide_true, false_implies, true_implies, implies_true, hS, Bool.false_eq_true, Bool.or_self, and_self, and_true]
  all_goals try assumption

theorem full_3 {nx q : Nat} {gt : Nat → Option Blk} {V : List UInt32} {R : List UInt8} {M : Nat} (hq : q < nx) (hg : gt q = some (.cells (hcells V R M) false)) (hV : V.length = 8) (hR : R.length = 64) : FullS nx q gt V R 3 := by
  intro S f x g pw pv pc h hS hdep
  refine ⟨_, rfl, fun K hK => ?_⟩
  simp only [↓gaW, ↓gaV, ↓gaC, ↓gaN, gaP, Nat.reduceEqDiff, Nat.reduceLeDiff, Nat.reduceAdd, Nat.reduceSub, Nat.reduceMul, Int.reduceLT, Int.reduceLE, Int.reduceEq, Int.reduceToNat, Int.reduceAdd, Int.reduceSub, Int.reduceMul, reduceCtorEq, ↓reduceIte, gaU, h.s2 (hdep 2 (by decide))]
  refine callK_of (ct_spread (R := R) (show q < x by have := h.le; omega) ((h.old q hq).trans hg) (by simp [hcells, hV, hR]) (fun i hi => hcells_rest hV hR hi)) (fun v x' g' l1 k1 hC => ?_) h.le
  subst hC
  simp only [↓gaW, ↓gaV, ↓gaC, ↓gaN, gaP, Nat.reduceEqDiff, Nat.reduceLeDiff, Nat.reduceAdd, Nat.reduceSub, Nat.reduceMul, Int.reduceLT, Int.reduceLE, Int.reduceEq, Int.reduceToNat, Int.reduceAdd, Int.reduceSub, Int.reduceMul, reduceCtorEq, ↓reduceIte]
  have h := h.mem l1 k1
  refine hK _ _ _ _ _ _ (?_ : FullI nx q gt V R _ _ x' g' pw pv pc)
  obtain ⟨le, f0, old, s0, s1, s2, s3, s4, s5, s6, s7, s8, s9, s10, s12, n1, n2, n3, n4, n5, n6⟩ := h
  constructor
  all_goals try simp only [↓gaW, ↓gaV, ↓gaC, ↓gaN, gaP, Nat.reduceEqDiff, Nat.reduceLeDiff, Nat.reduceAdd, Nat.reduceSub, Nat.reduceMul, Int.reduceLT, Int.reduceLE, Int.reduceEq, Int.reduceToNat, Int.reduceAdd, Int.reduceSub, Int.reduceMul, reduceCtorEq, ↓reduceIte, gaU, Bool.or_eq_true, decide_eq_true_eq, Nat.reduceEqDiff, or_false, or_true, false_or, true_or, forall_const, Bool.or_false, Bool.or_true, decide_false, decide_true, false_implies, true_implies, implies_true, hS, Bool.false_eq_true, Bool.or_self, and_self, and_true]
  all_goals try assumption

theorem full_4 {nx q : Nat} {gt : Nat → Option Blk} {V : List UInt32} {R : List UInt8} {M : Nat} (hq : q < nx) (hg : gt q = some (.cells (hcells V R M) false)) (hV : V.length = 8) (hR : R.length = 64) : FullS nx q gt V R 4 := by
  intro S f x g pw pv pc h hS hdep
  refine ⟨_, rfl, fun K hK => ?_⟩
  simp only [↓gaW, ↓gaV, ↓gaC, ↓gaN, gaP, Nat.reduceEqDiff, Nat.reduceLeDiff, Nat.reduceAdd, Nat.reduceSub, Nat.reduceMul, Int.reduceLT, Int.reduceLE, Int.reduceEq, Int.reduceToNat, Int.reduceAdd, Int.reduceSub, Int.reduceMul, reduceCtorEq, ↓reduceIte, gaU]
  refine callK_of ct_constants (fun v x' g' l1 k1 hC => ?_) h.le
  obtain ⟨pc', rfl, c1, c2, c3⟩ := hC
  simp only [↓gaW, ↓gaV, ↓gaC, ↓gaN, gaP, Nat.reduceEqDiff, Nat.reduceLeDiff, Nat.reduceAdd, Nat.reduceSub, Nat.reduceMul, Int.reduceLT, Int.reduceLE, Int.reduceEq, Int.reduceToNat, Int.reduceAdd, Int.reduceSub, Int.reduceMul, reduceCtorEq, ↓reduceIte]
  have hlt := h.le
  have h9 := h.s9
  have h10 := h.s10
  have h4 := h.s4
  have hn4 := h.n4
  have hn5 := h.n5
  have hn6 := h.n6
  have hn1 := h.n1
  have hn2 := h.n2
  have hn3 := h.n3
  have h := h.mem l1 k1
  refine hK _ _ _ _ _ _ (?_ : FullI nx q gt V R _ _ x' g' pw pv pc')
  obtain ⟨le, f0, old, s0, s1, s2, s3, s4, s5, s6, s7, s8, s9, s10, s12, n1, n2, n3, n4, n5, n6⟩ := h
  constructor
  all_goals try simp only [↓gaW, ↓gaV, ↓gaC, ↓gaN, gaP, Nat.reduceEqDiff, Nat.reduceLeDiff, Nat.reduceAdd, Nat.reduceSub, Nat.reduceMul, Int.reduceLT, Int.reduceLE, Int.reduceEq, Int.reduceToNat, Int.reduceAdd, Int.reduceSub, Int.reduceMul, reduceCtorEq, ↓reduceIte, gaU, Bool.or_eq_true, decide_eq_true_eq, Nat.reduceEqDiff, or_false, or_true, false_or, true_or, forall_const, Bool.or_false, Bool.or_true, decide_false, decide_true, false_implies, true_implies, implies_true, hS, Bool.false_eq_true, Bool.or_self, and_self, and_true]
  all_goals try assumption
  · exact ⟨by omega, c2, c3⟩
  · intro h12; have := hn4 h12; rw [hS] at this; cases this
  · intro h e; have := (h9 h).2.2.1; omega
  · intro h e; have := (h10 h).2.2.1; omega

theorem full_5 {nx q : Nat} {gt : Nat → Option Blk} {V : List UInt32} {R : List UInt8} {M : Nat} (hq : q < nx) (hg : gt q = some (.cells (hcells V R M) false)) (hV : V.length = 8) (hR : R.length = 64) : FullS nx q gt V R 5 := by
  intro S f x g pw pv pc h hS hdep
  refine ⟨_, rfl, fun K hK => ?_⟩
  simp only [↓gaW, ↓gaV, ↓gaC, ↓gaN, gaP, Nat.reduceEqDiff, Nat.reduceLeDiff, Nat.reduceAdd, Nat.reduceSub, Nat.reduceMul, Int.reduceLT, Int.reduceLE, Int.reduceEq, Int.reduceToNat, Int.reduceAdd, Int.reduceSub, Int.reduceMul, reduceCtorEq, ↓reduceIte, gaU, h.f0]
  refine hK _ _ _ _ _ _ (?_ : FullI nx q gt V R _ _ x g pw pv pc)
  obtain ⟨le, f0, old, s0, s1, s2, s3, s4, s5, s6, s7, s8, s9, s10, s12, n1, n2, n3, n4, n5, n6⟩ := h
  constructor
  all_goals try simp only [↓gaW, ↓gaV, ↓gaC, ↓gaN, gaP, Nat.reduceEqDiff, Nat.reduceLeDiff, Nat.reduceAdd, Nat.reduceSub, Nat.reduceMul, Int.reduceLT, Int.reduceLE, Int.reduceEq, Int.reduceToNat, Int.reduceAdd, Int.reduceSub, Int.reduceMul, reduceCtorEq, ↓reduceIte, gaU, Bool.or_eq_true, decide_eq_true_eq, Nat.reduceEqDiff, or_false, or_true, false_or, true_or, forall_const, Bool.or_false, Bool.or_true, decide_false, decide_true, false_implies, true_implies, implies_true, hS, Bool.false_eq_true, Bool.or_self, and_self, and_true]
  all_goals try assumption

theorem full_6 {nx q : Nat} {gt : Nat → Option Blk} {V : List UInt32} {R : List UInt8} {M : Nat} (hq : q < nx) (hg : gt q = some (.cells (hcells V R M) false)) (hV : V.length = 8) (hR : R.length = 64) : FullS nx q gt V R 6 := by
  intro S f x g pw pv pc h hS hdep
  refine ⟨_, rfl, fun K hK => ?_⟩
  simp only [↓gaW, ↓gaV, ↓gaC, ↓gaN, gaP, Nat.reduceEqDiff, Nat.reduceLeDiff, Nat.reduceAdd, Nat.reduceSub, Nat.reduceMul, Int.reduceLT, Int.reduceLE, Int.reduceEq, Int.reduceToNat, Int.reduceAdd, Int.reduceSub, Int.reduceMul, reduceCtorEq, ↓reduceIte, gaU, h.s5 (hdep 5 (by decide))]
  refine hK _ _ _ _ _ _ (?_ : FullI nx q gt V R _ _ x g pw pv pc)
  obtain ⟨le, f0, old, s0, s1, s2, s3, s4, s5, s6, s7, s8, s9, s10, s12, n1, n2, n3, n4, n5, n6⟩ := h
  constructor
  all_goals try simp only [↓gaW, ↓gaV, ↓gaC, ↓gaN, gaP, Nat.reduceEqDiff, Nat.reduceLeDiff, Nat.reduceAdd, Nat.reduceSub, Nat.reduceMul, Int.reduceLT, Int.reduceLE, Int.reduceEq, Int.reduceToNat, Int.reduceAdd, Int.reduceSub, Int.reduceMul, reduceCtorEq, ↓reduceIte, gaU, Bool.or_eq_true, decide_eq_true_eq, Nat.reduceEqDiff, or_false, or_true, false_or, true_or, forall_const, Bool.or_false, Bool.or_true, decide_false, decide_true, false_implies, true_implies, implies_true, hS, Bool.false_eq_true, Bool.or_self, and_self, and_true]
  all_goals try assumption

theorem full_7 {nx q : Nat} {gt : Nat → Option Blk} {V : List UInt32} {R : List UInt8} {M : Nat} (hq : q < nx) (hg : gt q = some (.cells (hcells V R M) false)) (hV : V.length = 8) (hR : R.length = 64) : FullS nx q gt V R 7 := by
  intro S f x g pw pv pc h hS hdep
  refine ⟨_, rfl, fun K hK => ?_⟩
  simp only [↓gaW, ↓gaV, ↓gaC, ↓gaN, gaP, Nat.reduceEqDiff, Nat.reduceLeDiff, Nat.reduceAdd, Nat.reduceSub, Nat.reduceMul, Int.reduceLT, Int.reduceLE, Int.reduceEq, Int.reduceToNat, Int.reduceAdd, Int.reduceSub, Int.reduceMul, reduceCtorEq, ↓reduceIte, gaU, h.s6 (hdep 6 (by decide)), Nat.zero_add]
  refine hK _ _ _ _ _ _ (?_ : FullI nx q gt V R _ _ x g pw pv pc)
  obtain ⟨le, f0, old, s0, s1, s2, s3, s4, s5, s6, s7, s8, s9, s10, s12, n1, n2, n3, n4, n5, n6⟩ := h
  constructor
  all_goals try simp only [↓gaW, ↓gaV, ↓gaC, ↓gaN, gaP, Nat.reduceEqDiff, Nat.reduceLeDiff, Nat.reduceAdd, Nat.reduceSub, Nat.reduceMul, Int.reduceLT, Int.reduceLE, Int.reduceEq, Int.reduceToNat, Int.reduceAdd, Int.reduceSub, Int.reduceMul, reduceCtorEq, ↓reduceIte, gaU, Bool.or_eq_true, decide_eq_true_eq, Nat.reduceEqDiff, or_false, or_true, false_or, true_or, forall_const, Bool.or_false, Bool.or_true, decide_false, decide_true, false_implies, true_implies, implies_true, hS, Bool.false_eq_true, Bool.or_self, and_self, and_true]
  all_goals try assumption

theorem full_8 {nx q : Nat} {gt : Nat → Option Blk} {V : List UInt32} {R : List UInt8} {M : Nat} (hq : q < nx) (hg : gt q = some (.cells (hcells V R M) false)) (hV : V.length = 8) (hR : R.length = 64) : FullS nx q gt V R 8 := by
  intro S f x g pw pv pc h hS hdep
  refine ⟨_, rfl, fun K hK => ?_⟩
  simp only [↓gaW, ↓gaV, ↓gaC, ↓gaN, gaP, Nat.reduceEqDiff, Nat.reduceLeDiff, Nat.reduceAdd, Nat.reduceSub, Nat.reduceMul, Int.reduceLT, Int.reduceLE, Int.reduceEq, Int.reduceToNat, Int.reduceAdd, Int.reduceSub, Int.reduceMul, reduceCtorEq, ↓reduceIte, gaU, h.s7 (hdep 7 (by decide)), (h.old q hq).trans hg, hcells_words hV]
  refine And.intro (by simp [hcells, hV, hR]) ?_
  refine hK _ _ _ _ _ _ (?_ : FullI nx q gt V R _ _ x g pw pv pc)
  obtain ⟨le, f0, old, s0, s1, s2, s3, s4, s5, s6, s7, s8, s9, s10, s12, n1, n2, n3, n4, n5, n6⟩ := h
  constructor
  all_goals try simp only [↓gaW, ↓gaV, ↓gaC, ↓gaN, gaP, Nat.reduceEqDiff, Nat.reduceLeDiff, Nat.reduceAdd, Nat.reduceSub, Nat.reduceMul, Int.reduceLT, Int.reduceLE, Int.reduceEq, Int.reduceToNat, Int.reduceAdd, Int.reduceSub, Int.reduceMul, reduceCtorEq, ↓reduceIte, gaU, Bool.or_eq_true, decide_eq_true_eq, Nat.reduceEqDiff, or_false, or_true, false_or, true_or, forall_const, Bool.or_false, Bool.or_true, decide_false, decide_true, false_implies, true_implies, implies_true, hS, Bool.false_eq_true, Bool.or_self, and_self, and_true]
  all_goals try assumption

theorem full_9 {nx q : Nat} {gt : Nat → Option Blk} {V : List UInt32} {R : List UInt8} {M : Nat} (hq : q < nx) (hg : gt q = some (.cells (hcells V R M) false)) (hV : V.length = 8) (hR : R.length = 64) : FullS nx q gt V R 9 := by
  intro S f x g pw pv pc h hS hdep
  refine ⟨_, rfl, fun K hK => ?_⟩
  simp only [↓gaW, ↓gaV, ↓gaC, ↓gaN, gaP, Nat.reduceEqDiff, Nat.reduceLeDiff, Nat.reduceAdd, Nat.reduceSub, Nat.reduceMul, Int.reduceLT, Int.reduceLE, Int.reduceEq, Int.reduceToNat, Int.reduceAdd, Int.reduceSub, Int.reduceMul, reduceCtorEq, ↓reduceIte, gaU]
  have hlt := h.le
  have h9 := h.s9
  have h10 := h.s10
  have h4 := h.s4
  have hn4 := h.n4
  have hn5 := h.n5
  have hn6 := h.n6
  have hn1 := h.n1
  have hn2 := h.n2
  have hn3 := h.n3
  have h11 : S 11 = false := by
    cases h : S 11 with
    | false => rfl
    | true => have := hn5 h; rw [hS] at this; cases this
  obtain ⟨g', hg'⟩ : ∃ g', upd g x (some (.cells ((List.replicate 64 (0 : UInt32)).map u32V) false)) = g' := ⟨_, rfl⟩
  have hgx : g' x = some (.cells ((List.replicate 64 (0 : UInt32)).map u32V) false) := by rw [← hg']; simp only [upd_e, if_true]
  have h := h.mem (x' := x + 1) (g' := g') (by omega) (fun p hp => by rw [← hg']; simp only [upd_e]; rw [if_neg (by omega)])
  refine hK _ _ _ _ _ _ (?_ : FullI nx q gt V R _ _ (x + 1) _ x pv pc)
  refine (show FullI nx q gt V R _ _ (x + 1) (upd g x (some (.cells ((List.replicate 64 (0 : UInt32)).map u32V) false))) x pv pc from ?_)
  rw [hg']
  obtain ⟨le, f0, old, s0, s1, s2, s3, s4, s5, s6, s7, s8, s9, s10, s12, n1, n2, n3, n4, n5, n6⟩ := h
  constructor
  all_goals try simp only [↓gaW, ↓gaV, ↓gaC, ↓gaN, gaP, Nat.reduceEqDiff, Nat.reduceLeDiff, Nat.reduceAdd, Nat.reduceSub, Nat.reduceMul, Int.reduceLT, Int.reduceLE, Int.reduceEq, Int.reduceToNat, Int.reduceAdd, Int.reduceSub, Int.reduceMul, reduceCtorEq, ↓reduceIte, gaU, Bool.or_eq_true, decide_eq_true_eq, Nat.reduceEqDiff, or_false, or_true, false_or, true_or, forall_const, Bool.or_false, Bool.or_true, decide_false, decide_true, false_implies, true_implies, implies_true, hS, Bool.false_eq_true, Bool.or_self, and_self, and_true]
  all_goals try assumption
  · simp only [h11, Bool.false_eq_true, if_false]
    exact ⟨hlt, by omega, hgx⟩
  · intro h e; have := (h10 h).2.2.1; omega
  · intro h e; have := (h4 h).2.2.1; omega

theorem full_10 {nx q : Nat} {gt : Nat → Option Blk} {V : List UInt32} {R : List UInt8} {M : Nat} (hq : q < nx) (hg : gt q = some (.cells (hcells V R M) false)) (hV : V.length = 8) (hR : R.length = 64) : FullS nx q gt V R 10 := by
  intro S f x g pw pv pc h hS hdep
  refine ⟨_, rfl, fun K hK => ?_⟩
  simp only [↓gaW, ↓gaV, ↓gaC, ↓gaN, gaP, Nat.reduceEqDiff, Nat.reduceLeDiff, Nat.reduceAdd, Nat.reduceSub, Nat.reduceMul, Int.reduceLT, Int.reduceLE, Int.reduceEq, Int.reduceToNat, Int.reduceAdd, Int.reduceSub, Int.reduceMul, reduceCtorEq, ↓reduceIte, gaU]
  have hlt := h.le
  have h9 := h.s9
  have h10 := h.s10
  have h4 := h.s4
  have hn4 := h.n4
  have hn5 := h.n5
  have hn6 := h.n6
  have hn1 := h.n1
  have hn2 := h.n2
  have hn3 := h.n3
  have h13 : S 13 = false := by
    cases h : S 13 with
    | false => rfl
    | true => have := hn6 h; rw [hS] at this; cases this
  obtain ⟨g', hg'⟩ : ∃ g', upd g x (some (.cells ((List.replicate 8 (0 : UInt32)).map u32V) false)) = g' := ⟨_, rfl⟩
  have hgx : g' x = some (.cells ((List.replicate 8 (0 : UInt32)).map u32V) false) := by rw [← hg']; simp only [upd_e, if_true]
  have h := h.mem (x' := x + 1) (g' := g') (by omega) (fun p hp => by rw [← hg']; simp only [upd_e]; rw [if_neg (by omega)])
  refine hK _ _ _ _ _ _ (?_ : FullI nx q gt V R _ _ (x + 1) _ pw x pc)
  refine (show FullI nx q gt V R _ _ (x + 1) (upd g x (some (.cells ((List.replicate 8 (0 : UInt32)).map u32V) false))) pw x pc from ?_)
  rw [hg']
  obtain ⟨le, f0, old, s0, s1, s2, s3, s4, s5, s6, s7, s8, s9, s10, s12, n1, n2, n3, n4, n5, n6⟩ := h
  constructor
  all_goals try simp only [↓gaW, ↓gaV, ↓gaC, ↓gaN, gaP, Nat.reduceEqDiff, Nat.reduceLeDiff, Nat.reduceAdd, Nat.reduceSub, Nat.reduceMul, Int.reduceLT, Int.reduceLE, Int.reduceEq, Int.reduceToNat, Int.reduceAdd, Int.reduceSub, Int.reduceMul, reduceCtorEq, ↓reduceIte, gaU, Bool.or_eq_true, decide_eq_true_eq, Nat.reduceEqDiff, or_false, or_true, false_or, true_or, forall_const, Bool.or_false, Bool.or_true, decide_false, decide_true, false_implies, true_implies, implies_true, hS, Bool.false_eq_true, Bool.or_self, and_self, and_true]
  all_goals try assumption
  · simp only [h13, Bool.false_eq_true, if_false]
    exact ⟨hlt, by omega, hgx⟩
  · intro h e; have := (h9 h).2.2.1; omega
  · intro h e; have := (h4 h).2.2.1; omega

theorem full_11 {nx q : Nat} {gt : Nat → Option Blk} {V : List UInt32} {R : List UInt8} {M : Nat} (hq : q < nx) (hg : gt q = some (.cells (hcells V R M) false)) (hV : V.length = 8) (hR : R.length = 64) : FullS nx q gt V R 11 := by
  intro S f x g pw pv pc h hS hdep
  refine ⟨_, rfl, fun K hK => ?_⟩
  have hb9 : S 9 = true := hdep 9 (by decide)
  obtain ⟨a1, a2, a3, a4⟩ := h.s9 hb9
  simp only [hS, Bool.false_eq_true, if_false] at a4
  have hln := sch_len R 64
  have hsp : splice ((List.replicate 64 (0 : UInt32)).map u32V) 0 ((sch R 64).map u32V) = (sch R 64).map u32V := by simp [splice, hln]
  have h3 := h.s3 (hdep 3 (by decide))
  have hall := all_u32 (sch R 64)
  have hlt := h.le
  have h9 := h.s9
  have h10 := h.s10
  have h4 := h.s4
  have hn4 := h.n4
  have hn5 := h.n5
  have hn6 := h.n6
  have hn1 := h.n1
  have hn2 := h.n2
  have hn3 := h.n3
  obtain ⟨Lw, hLw⟩ : ∃ L, (sch R 64).map u32V = L := ⟨_, rfl⟩
  have hLl : Lw.length = 64 := by rw [← hLw]; simp [hln]
  rw [hLw] at h3 hsp hall
  simp only [↓gaW, ↓gaV, ↓gaC, ↓gaN, gaP, Nat.reduceEqDiff, Nat.reduceLeDiff, Nat.reduceAdd, Nat.reduceSub, Nat.reduceMul, Int.reduceLT, Int.reduceLE, Int.reduceEq, Int.reduceToNat, Int.reduceAdd, Int.reduceSub, Int.reduceMul, reduceCtorEq, ↓reduceIte, gaU, a1, h3, a4, Nat.add_zero, hsp]
  refine And.intro hLl (And.intro a2 (And.intro (by simp [hLl]) (And.intro hall ?_)))
  refine hK _ _ _ _ _ _ (?_ : FullI nx q gt V R _ _ x _ pw pv pc)
  obtain ⟨le, f0, old, s0, s1, s2, s3, s4, s5, s6, s7, s8, s9, s10, s12, n1, n2, n3, n4, n5, n6⟩ := h
  constructor
  all_goals try simp only [↓gaW, ↓gaV, ↓gaC, ↓gaN, gaP, Nat.reduceEqDiff, Nat.reduceLeDiff, Nat.reduceAdd, Nat.reduceSub, Nat.reduceMul, Int.reduceLT, Int.reduceLE, Int.reduceEq, Int.reduceToNat, Int.reduceAdd, Int.reduceSub, Int.reduceMul, reduceCtorEq, ↓reduceIte, gaU, Bool.or_eq_true, decide_eq_true_eq, Nat.reduceEqDiff, or_false, or_true, false_or, true_or, forall_const, Bool.or_false, Bool.or_true, decide_false, decide_true, false_implies, true_implies, implies_true, hS, Bool.false_eq_true, Bool.or_self, and_self, and_true]
  all_goals try assumption
  · intro p hp; rw [if_neg (by omega)]; exact old p hp
  · intro h; obtain ⟨b1, b2, b3, b4⟩ := s4 h; exact ⟨b1, b2, b3, by rw [if_neg (fun e => hn2 hb9 h e.symm)]; exact b4⟩
  · intro h; exact ⟨a1, a2, a3, by rw [hLw]⟩
  · intro h; obtain ⟨b1, b2, b3, b4⟩ := s10 h; exact ⟨b1, b2, b3, by rw [if_neg (fun e => hn1 hb9 h e.symm)]; exact b4⟩

theorem full_12 {nx q : Nat} {gt : Nat → Option Blk} {V : List UInt32} {R : List UInt8} {M : Nat} (hq : q < nx) (hg : gt q = some (.cells (hcells V R M) false)) (hV : V.length = 8) (hR : R.length = 64) : FullS nx q gt V R 12 := by
  intro S f x g pw pv pc h hS hdep
  refine ⟨_, rfl, fun K hK => ?_⟩
  have hb4 := (h.s4 (hdep 4 (by decide))).1
  simp only [↓gaW, ↓gaV, ↓gaC, ↓gaN, gaP, Nat.reduceEqDiff, Nat.reduceLeDiff, Nat.reduceAdd, Nat.reduceSub, Nat.reduceMul, Int.reduceLT, Int.reduceLE, Int.reduceEq, Int.reduceToNat, Int.reduceAdd, Int.reduceSub, Int.reduceMul, reduceCtorEq, ↓reduceIte, gaU, hb4]
  refine hK _ _ _ _ _ _ (?_ : FullI nx q gt V R _ _ x g pw pv pc)
  obtain ⟨le, f0, old, s0, s1, s2, s3, s4, s5, s6, s7, s8, s9, s10, s12, n1, n2, n3, n4, n5, n6⟩ := h
  constructor
  all_goals try simp only [↓gaW, ↓gaV, ↓gaC, ↓gaN, gaP, Nat.reduceEqDiff, Nat.reduceLeDiff, Nat.reduceAdd, Nat.reduceSub, Nat.reduceMul, Int.reduceLT, Int.reduceLE, Int.reduceEq, Int.reduceToNat, Int.reduceAdd, Int.reduceSub, Int.reduceMul, reduceCtorEq, ↓reduceIte, gaU, Bool.or_eq_true, decide_eq_true_eq, Nat.reduceEqDiff, or_false, or_true, false_or, true_or, forall_const, Bool.or_false, Bool.or_true, decide_false, decide_true, false_implies, true_implies, implies_true, hS, Bool.false_eq_true, Bool.or_self, and_self, and_true]
  all_goals try assumption
  · exact hdep 4 (by decide)

theorem full_13 {nx q : Nat} {gt : Nat → Option Blk} {V : List UInt32} {R : List UInt8} {M : Nat} (hq : q < nx) (hg : gt q = some (.cells (hcells V R M) false)) (hV : V.length = 8) (hR : R.length = 64) : FullS nx q gt V R 13 := by
  intro S f x g pw pv pc h hS hdep
  refine ⟨_, rfl, fun K hK => ?_⟩
  have hb10 : S 10 = true := hdep 10 (by decide)
  obtain ⟨a1, a2, a3, a4⟩ := h.s10 hb10
  simp only [hS, Bool.false_eq_true, if_false] at a4
  have hsp : splice ((List.replicate 8 (0 : UInt32)).map u32V) 0 (V.map u32V) = V.map u32V := by simp [splice, hV]
  have h8 := h.s8 (hdep 8 (by decide))
  have hall := all_u32 V
  have hlt := h.le
  have h9 := h.s9
  have h10 := h.s10
  have h4 := h.s4
  have hn4 := h.n4
  have hn5 := h.n5
  have hn6 := h.n6
  have hn1 := h.n1
  have hn2 := h.n2
  have hn3 := h.n3
  simp only [↓gaW, ↓gaV, ↓gaC, ↓gaN, gaP, Nat.reduceEqDiff, Nat.reduceLeDiff, Nat.reduceAdd, Nat.reduceSub, Nat.reduceMul, Int.reduceLT, Int.reduceLE, Int.reduceEq, Int.reduceToNat, Int.reduceAdd, Int.reduceSub, Int.reduceMul, reduceCtorEq, ↓reduceIte, gaU, a1, h8, a4, Nat.add_zero, hsp]
  refine And.intro (by simp [hV]) (And.intro a2 (And.intro (by simp [hV]) (And.intro hall ?_)))
  refine hK _ _ _ _ _ _ (?_ : FullI nx q gt V R _ _ x _ pw pv pc)
  obtain ⟨le, f0, old, s0, s1, s2, s3, s4, s5, s6, s7, s8, s9, s10, s12, n1, n2, n3, n4, n5, n6⟩ := h
  constructor
  all_goals try simp only [↓gaW, ↓gaV, ↓gaC, ↓gaN, gaP, Nat.reduceEqDiff, Nat.reduceLeDiff, Nat.reduceAdd, Nat.reduceSub, Nat.reduceMul, Int.reduceLT, Int.reduceLE, Int.reduceEq, Int.reduceToNat, Int.reduceAdd, Int.reduceSub, Int.reduceMul, reduceCtorEq, ↓reduceIte, gaU, Bool.or_eq_true, decide_eq_true_eq, Nat.reduceEqDiff, or_false, or_true, false_or, true_or, forall_const, Bool.or_false, Bool.or_true, decide_false, decide_true, false_implies, true_implies, implies_true, hS, Bool.false_eq_true, Bool.or_self, and_self, and_true]
  all_goals try assumption
  · intro p hp; rw [if_neg (by omega)]; exact old p hp
  · intro h; obtain ⟨b1, b2, b3, b4⟩ := s4 h; exact ⟨b1, b2, b3, by rw [if_neg (fun e => hn3 hb10 h e.symm)]; exact b4⟩
  · intro h; obtain ⟨b1, b2, b3, b4⟩ := s9 h; exact ⟨b1, b2, b3, by rw [if_neg (hn1 h hb10)]; exact b4⟩
  · first | exact ⟨a1, a2, a3⟩ | exact fun _ => ⟨a1, a2, a3⟩

theorem full_tree {nx q : Nat} {gt : Nat → Option Blk} {V : List UInt32} {R : List UInt8} {M : Nat} {f : Regs} {L : AEx → Regs → Mem → Prop} (hq : q < nx) (hg : gt q = some (.cells (hcells V R M) false)) (hV : V.length = 8) (hR : R.length = 64) (f0 : f 0 = .pointer (some ⟨q, 0, none⟩))
    (hL : ∀ f1 x g pw pv pc, FullI nx q gt V R (fun _ => true) f1 x g pw pv pc → L .normal f1 ⟨x, nx, g⟩) :
    goTree Try.prog fullO d___sha_Hash__full q___sha_Hash__full fullO.length 0 f ⟨nx, nx, gt⟩ L := by
  refine tree_inv (fun S f m => ∃ x g pw pv pc, m = ⟨x, nx, g⟩ ∧ FullI nx q gt V R S f x g pw pv pc) rfl ?_ ?_ _ 0 f _ (by rw [lefts_zero]) ?_
  · rintro S i f _ ⟨x, g, pw, pv, pc, rfl, h⟩ hi hS hdep
    have hi : i < 14 := hi
    have key : FullS nx q gt V R i := by
      rcases (show i = 0 ∨ i = 1 ∨ i = 2 ∨ i = 3 ∨ i = 4 ∨ i = 5 ∨ i = 6 ∨ i = 7 ∨ i = 8 ∨ i = 9 ∨ i = 10 ∨ i = 11 ∨ i = 12 ∨ i = 13 by omega) with rfl | rfl | rfl | rfl | rfl | rfl | rfl | rfl | rfl | rfl | rfl | rfl | rfl | rfl
      · exact full_0 hq hg hV hR
      · exact full_1 hq hg hV hR
      · exact full_2 hq hg hV hR
      · exact full_3 hq hg hV hR
      · exact full_4 hq hg hV hR
      · exact full_5 hq hg hV hR
      · exact full_6 hq hg hV hR
      · exact full_7 hq hg hV hR
      · exact full_8 hq hg hV hR
      · exact full_9 hq hg hV hR
      · exact full_10 hq hg hV hR
      · exact full_11 hq hg hV hR
      · exact full_12 hq hg hV hR
      · exact full_13 hq hg hV hR
    obtain ⟨o, h1, h2⟩ := key S f x g pw pv pc h hS hdep
    exact ⟨o, h1, fun K hK => h2 K fun f1 x g pw pv pc h => hK _ _ ⟨x, g, pw, pv, pc, rfl, h⟩⟩
  · rintro S f _ ⟨x, g, pw, pv, pc, rfl, h⟩ hall
    have : FullI nx q gt V R (fun _ => true) f x g pw pv pc := by
      obtain ⟨le, f0, old, s0, s1, s2, s3, s4, s5, s6, s7, s8, s9, s10, s12, n1, n2, n3, n4, n5, n6⟩ := h
      have e : ∀ j, j < 14 → S j = true := hall
      rw [e 11 (by omega)] at s9
      rw [e 13 (by omega)] at s10
      exact ⟨le, f0, old, fun _ => s0 (e 0 (by omega)), fun _ => s1 (e 1 (by omega)), fun _ => s2 (e 2 (by omega)), fun _ => s3 (e 3 (by omega)), fun _ => s4 (e 4 (by omega)), fun _ => s5 (e 5 (by omega)), fun _ => s6 (e 6 (by omega)), fun _ => s7 (e 7 (by omega)), fun _ => s8 (e 8 (by omega)), fun _ => s9 (e 9 (by omega)), fun _ => s10 (e 10 (by omega)), fun _ => s12 (e 12 (by omega)), fun _ _ => n1 (e 9 (by omega)) (e 10 (by omega)), fun _ _ => n2 (e 9 (by omega)) (e 4 (by omega)), fun _ _ => n3 (e 10 (by omega)) (e 4 (by omega)), fun _ => rfl, fun _ => rfl, fun _ => rfl⟩
    exact hL f x g pw pv pc this
  · refine ⟨nx, gt, 0, 0, 0, rfl, ?_⟩
    constructor <;> simp [f0]
end Go.Ga

/- Loops and branches behind which more is to be done: what holds there is told once. -/
namespace Go.Ga
open Go

/-- A loop in its block: J holds where it is left, R where the function is. -/
theorem bloop_of {P : Program} {b : RC} {f : Regs} {m : Mem} {s : Stk} {id : Nat} (J R : Regs → Mem → Prop) (I : Nat → Regs → Mem → Prop) (k : Nat) (h0 : I k f m)
    (hs : ∀ S : Stk, (∀ f m, J f m → D P S .normal f m) → (∀ f m, R f m → D P S .ret f m) → ∀ k f m, I k f m → b.vc P f m (D P (.top (loopK P I k (.blk id S)))))
    (hJ : ∀ f m, J f m → D P s .normal f m) (hR : ∀ f m, R f m → D P s .ret f m) : RC.vc P (.loop b) f m (D P (.blk id s)) :=
  loop_of I k h0 (hs s hJ hR)

/-- A branch with more behind it. -/
theorem cond_join {P : Program} {t : Bool} {a b rest : RC} {f : Regs} {m : Mem} {s : Stk} (J R : Regs → Mem → Prop)
    (h1 : ∀ S : Stk, (∀ f m, J f m → D P S .normal f m) → (∀ f m, R f m → D P S .ret f m) → t = true → a.vc P f m (D P S))
    (h2 : ∀ S : Stk, (∀ f m, J f m → D P S .normal f m) → (∀ f m, R f m → D P S .ret f m) → t = false → b.vc P f m (D P S))
    (hJ : ∀ f m, J f m → RC.vc P rest f m (D P s)) (hR : ∀ f m, R f m → D P s .ret f m) : condK P t a b f m (D P (.thn rest s)) :=
  condK_of (h1 (.thn rest s) hJ hR) (h2 (.thn rest s) hJ hR)
end Go.Ga

namespace Go.Ga
open Go Go.Proofs
set_option linter.unusedSimpArgs false
set_option linter.unusedVariables false
set_option maxRecDepth 100000
attribute [local irreducible] appendK endK endW sch comp rs

def addT (V v : List UInt32) (t : Nat) : List UInt32 := (List.zipWith (· + ·) V v).take t ++ V.drop t
theorem addT_len {V v : List UInt32} {t : Nat} (hV : V.length = 8) (hv : v.length = 8) (ht : t ≤ 8) : (addT V v t).length = 8 := by simp [addT, hV, hv]; omega
theorem addT_get {V v : List UInt32} {t : Nat} (hV : V.length = 8) (hv : v.length = 8) (ht : t < 8) : (addT V v t).getD t 0 = V.getD t 0 := by
  rw [addT, List.getD_eq_getElem?_getD, List.getElem?_append_right (by simp; omega), List.length_take, List.length_zipWith, hV, hv, show t - min t (min 8 8) = 0 by omega, List.getElem?_drop, Nat.add_zero, ← List.getD_eq_getElem?_getD]
theorem addT_set {V v : List UInt32} {t : Nat} (hV : V.length = 8) (hv : v.length = 8) (ht : t < 8) : (addT V v t).set t (V.getD t 0 + v.getD t 0) = addT V v (t + 1) := by
  refine List.ext_getElem? fun i => ?_
  have hz : ∀ i, i < 8 → (List.zipWith (· + ·) V v)[i]? = some (V.getD i 0 + v.getD i 0) := fun i hi => by
    rw [List.getElem?_zipWith, List.getElem?_eq_getElem (show i < V.length by omega), List.getElem?_eq_getElem (show i < v.length by omega), List.getD_eq_getElem?_getD, List.getElem?_eq_getElem (show i < V.length by omega), List.getD_eq_getElem?_getD, List.getElem?_eq_getElem (show i < v.length by omega)]
    rfl
  have hla := addT_len hV hv (show t ≤ 8 by omega)
  rw [List.getElem?_set]
  split
  · rename_i he
    subst he
    rw [if_pos (by omega), addT, List.getElem?_append_left (by simp; omega), List.getElem?_take_of_lt (by omega), hz _ ht]
  · rename_i he
    rcases Nat.lt_or_ge i t with h | h
    · rw [addT, addT, List.getElem?_append_left (by simp; omega), List.getElem?_append_left (by simp; omega), List.getElem?_take_of_lt h, List.getElem?_take_of_lt (by omega)]
    · rw [addT, addT, List.getElem?_append_right (by simp; omega), List.getElem?_append_right (by simp; omega), List.getElem?_drop, List.getElem?_drop]
      congr 1
      simp
      omega
theorem addT_full {V v : List UInt32} (hV : V.length = 8) (hv : v.length = 8) : addT V v 8 = List.zipWith (· + ·) V v := by
  rw [addT, List.take_of_length_le (by simp; omega), List.drop_of_length_le (by omega), List.append_nil]

theorem hcells_len {W : List UInt32} {R : List UInt8} {M : Nat} (hW : W.length = 8) (hR : R.length = 64) : (hcells W R M).length = 73 := by simp [hcells, hW, hR]
theorem hcells_word {W : List UInt32} {R : List UInt8} {M i : Nat} (hW : W.length = 8) (hi : i < 8) : (hcells W R M).getD i undef = u32V (W.getD i 0) := by
  rw [hcells, List.getD_eq_getElem?_getD, List.getElem?_append_left (by simp; omega), ← List.getD_eq_getElem?_getD]
  exact getD_w (by omega)
theorem hcells_set {W : List UInt32} {R : List UInt8} {M i : Nat} {x : UInt32} (hW : W.length = 8) (hi : i < 8) : splice (hcells W R M) i [u32V x] = hcells (W.set i x) R M := by
  have h := splice_set (l := W) (i := i) (x := x) (by omega)
  have e : splice (hcells W R M) i [u32V x] = splice (W.map u32V) i [u32V x] ++ (R.map u8V ++ [.int .u64 (M : Nat)]) := by
    simp only [splice, hcells]
    rw [List.take_append_of_le_length (by simp; omega), List.drop_append_of_le_length (by simp; omega)]
    simp
  rw [e, h]
  rfl

theorem full_code : c___sha_Hash__full.code = .seq fullT (match c___sha_Hash__full.code with | .seq _ b => b | _ => .skip) := rfl

section
variable {nx : Nat} {gt : Nat → Option Blk}

theorem ct_full {q M : Nat} {V : List UInt32} {R : List UInt8} (hq : q < nx) (hg : gt q = some (.cells (hcells V R M) false)) (hV : V.length = 8) (hR : R.length = 64) :
    Cw Try.prog 35 [.pointer (some ⟨q, 0, none⟩)] q nx gt fun _ _ gt' => gt' q = some (.cells (hcells (comp V R) R M) false) := by
  refine Cw.of hmx r___sha_Hash__full (by simp [c___sha_Hash__full]) fun b hb hbq => ?_
  obtain ⟨Lw, hLw⟩ : ∃ L, (sch R 64).map u32V = L := ⟨_, rfl⟩
  have hln := sch_len R 64
  have hLl : Lw.length = 64 := by rw [← hLw]; simp [hln]
  simp only [c___sha_Hash__full, ↓gaW, ↓gaV, ↓gaC, ↓gaN, gaP, Nat.reduceEqDiff, Nat.reduceLeDiff, Nat.reduceAdd, Nat.reduceSub, Nat.reduceMul, Int.reduceLT, Int.reduceLE, Int.reduceEq, Int.reduceToNat, Int.reduceAdd, Int.reduceSub, Int.reduceMul, reduceCtorEq, ↓reduceIte]
  refine vc_tree_pick ⟨fun i => if i = 0 then .pointer (some ⟨q, 0, none⟩) else if i = 2 then .pointer (some ⟨nx, 0, none⟩) else if i = 3 then .pointer (some ⟨nx + 1, 0, none⟩) else if i = 4 then .pointer (some ⟨nx + 2, 0, none⟩) else botV,
    ⟨nx + 3, b, upd (upd (upd gt nx (some (.cells Lw false))) (nx + 1) (some (.cells (k256.map u32V) false))) (nx + 2) (some (.cells (V.map u32V) false))⟩, ?_, ?_, ?_⟩
  rotate_left
  · exact ⟨rfl, by show nx ≤ nx + 3; omega, fun n hn => by simp only [↓gaW, ↓gaV, ↓gaC, ↓gaN, gaP, Nat.reduceEqDiff, Nat.reduceLeDiff, Nat.reduceAdd, Nat.reduceSub, Nat.reduceMul, Int.reduceLT, Int.reduceLE, Int.reduceEq, Int.reduceToNat, Int.reduceAdd, Int.reduceSub, Int.reduceMul, reduceCtorEq, ↓reduceIte] at hn ⊢; rw [if_neg (by omega), if_neg (by omega), if_neg (by omega)]⟩
  · refine full_tree hq hg hV hR (by simp only [↓gaW, ↓gaV, ↓gaC, ↓gaN, gaP, Nat.reduceEqDiff, Nat.reduceLeDiff, Nat.reduceAdd, Nat.reduceSub, Nat.reduceMul, Int.reduceLT, Int.reduceLE, Int.reduceEq, Int.reduceToNat, Int.reduceAdd, Int.reduceSub, Int.reduceMul, reduceCtorEq, ↓reduceIte]) fun f1 x g pw pv pc h => ?_
    obtain ⟨le, f0, old, s0, s1, s2, s3, s4, s5, s6, s7, s8, s9, s10, s12, n1, n2, n3, n4, n5, n6⟩ := h
    obtain ⟨a1, a2, a3, a4⟩ := s9 rfl
    obtain ⟨b1, b2, b3, b4⟩ := s10 rfl
    obtain ⟨c1, c2, c3, c4⟩ := s4 rfl
    have c5 := s12 rfl
    have n1 := n1 rfl rfl
    have n2 := n2 rfl rfl
    have n3 := n3 rfl rfl
    simp only [if_true] at a4 b4
    rw [hLw] at a4
    have fl : ∀ l : List UInt32, flatB (some (.cells (l.map u32V) false)) = true := fun l => by simp [flatB, plain, u32V]
    have flL := fl (sch R 64)
    rw [hLw] at flL
    have k1 : ¬ nx + 1 = nx := by omega
    have k2 : ¬ nx + 2 = nx := by omega
    have k3 : ¬ nx + 2 = nx + 1 := by omega
    have k4 : ¬ nx = nx + 1 := by omega
    have k5 : ¬ nx = nx + 2 := by omega
    have k6 : ¬ nx + 1 = nx + 2 := by omega
    refine ⟨rfl, fun n hn => by simp only [↓gaW, ↓gaV, ↓gaC, ↓gaN, gaP, Nat.reduceEqDiff, Nat.reduceLeDiff, Nat.reduceAdd, Nat.reduceSub, Nat.reduceMul, Int.reduceLT, Int.reduceLE, Int.reduceEq, Int.reduceToNat, Int.reduceAdd, Int.reduceSub, Int.reduceMul, reduceCtorEq, ↓reduceIte] at hn ⊢; rw [if_neg (by omega), if_neg (by omega), if_neg (by omega)], fun n => if n = nx then pw else if n = nx + 1 then pc else pv, fun n h1 h2 => ?_, fun n n' h1 h2 h3 h4 he => ?_, fun i => ?_⟩
    · simp only [↓gaW, ↓gaV, ↓gaC, ↓gaN, gaP, Nat.reduceEqDiff, Nat.reduceLeDiff, Nat.reduceAdd, Nat.reduceSub, Nat.reduceMul, Int.reduceLT, Int.reduceLE, Int.reduceEq, Int.reduceToNat, Int.reduceAdd, Int.reduceSub, Int.reduceMul, reduceCtorEq, ↓reduceIte] at h1 h2 ⊢
      rcases (show n = nx ∨ n = nx + 1 ∨ n = nx + 2 by omega) with e | e | e <;> rw [e] <;> simp only [if_true, if_neg k1, if_neg k2, if_neg k3, if_neg k4, if_neg k5, if_neg k6]
      · exact ⟨a2, a4.symm, flL⟩
      · exact ⟨c2, c4.symm, fl _⟩
      · exact ⟨b2, b4.symm, fl _⟩
    · simp only [↓gaW, ↓gaV, ↓gaC, ↓gaN, gaP, Nat.reduceEqDiff, Nat.reduceLeDiff, Nat.reduceAdd, Nat.reduceSub, Nat.reduceMul, Int.reduceLT, Int.reduceLE, Int.reduceEq, Int.reduceToNat, Int.reduceAdd, Int.reduceSub, Int.reduceMul, reduceCtorEq, ↓reduceIte] at h1 h2 h3 h4
      rcases (show n = nx ∨ n = nx + 1 ∨ n = nx + 2 by omega) with e | e | e <;> rcases (show n' = nx ∨ n' = nx + 1 ∨ n' = nx + 2 by omega) with e' | e' | e' <;> rw [e, e'] at he ⊢ <;> simp only [if_true, if_neg k1, if_neg k2, if_neg k3, if_neg k4, if_neg k5, if_neg k6] at he <;> first | rfl | exact absurd he n1 | exact absurd he.symm n1 | exact absurd he n2 | exact absurd he.symm n2 | exact absurd he n3 | exact absurd he.symm n3
    · rcases (show i = 0 ∨ i = 2 ∨ i = 3 ∨ i = 4 ∨ (i ≠ 0 ∧ i ≠ 2 ∧ i ≠ 3 ∧ i ≠ 4) by omega) with e | e | e | e | ⟨z1, z2, z3, z4⟩
      · refine .inr (.inl ⟨by simp only [e, f0, if_true], by simp [e, lowV, hq]⟩)
      · refine .inr (.inr ⟨nx, 0, Nat.le_refl _, by show nx < nx + 3; omega, by simp [e], by simp [e, a1]⟩)
      · refine .inr (.inr ⟨nx + 1, 0, by show nx ≤ nx + 1; omega, by show nx + 1 < nx + 3; omega, by simp [e], by simp [e, c5]⟩)
      · refine .inr (.inr ⟨nx + 2, 0, by show nx ≤ nx + 2; omega, by show nx + 2 < nx + 3; omega, by simp [e], by simp [e, b1]⟩)
      · exact .inl (by simp [z1, z2, z3, z4])
  have hr0 := rs_len hV R
  simp only [↓gaW, ↓gaV, ↓gaC, ↓gaN, gaP, Nat.reduceEqDiff, Nat.reduceLeDiff, Nat.reduceAdd, Nat.reduceSub, Nat.reduceMul, Int.reduceLT, Int.reduceLE, Int.reduceEq, Int.reduceToNat, Int.reduceAdd, Int.reduceSub, Int.reduceMul, reduceCtorEq, ↓reduceIte]
  obtain ⟨G, hG⟩ : ∃ G, upd (upd (upd gt nx (some (.cells Lw false))) (nx + 1) (some (.cells (k256.map u32V) false))) (nx + 2) (some (.cells (V.map u32V) false)) = G := ⟨_, rfl⟩
  have G0 : ∀ p, p < nx → G p = gt p := fun p hp => by rw [← hG]; simp only [upd_e]; rw [if_neg (by omega), if_neg (by omega), if_neg (by omega)]
  have G1 : G nx = some (.cells Lw false) := by rw [← hG]; simp only [upd_e]; rw [if_neg (by omega), if_neg (by omega), if_true]
  have G2 : G (nx + 1) = some (.cells (k256.map u32V) false) := by rw [← hG]; simp only [upd_e]; rw [if_neg (by omega), if_true]
  have G3 : G (nx + 2) = some (.cells ((rs V R 0).map u32V) false) := by rw [← hG]; simp only [upd_e]; rw [if_true]; unfold rs; rfl
  rw [hG]
  refine bloop_of (fun f m => ∃ g, f 0 = .pointer (some ⟨q, 0, none⟩) ∧ f 4 = .pointer (some ⟨nx + 2, 0, none⟩) ∧ m = ⟨nx + 3, b, g⟩ ∧ (∀ p, p < nx → g p = gt p) ∧ g (nx + 2) = some (.cells ((rs V R 64).map u32V) false)) (fun _ _ => False)
    (fun j f m => ∃ (t : Nat) (g : Nat → Option Blk), j = 64 - t ∧ t ≤ 64 ∧ f 0 = .pointer (some ⟨q, 0, none⟩) ∧ f 2 = .pointer (some ⟨nx, 0, none⟩) ∧ f 3 = .pointer (some ⟨nx + 1, 0, none⟩) ∧ f 4 = .pointer (some ⟨nx + 2, 0, none⟩) ∧ f 20 = .int .i64 (t : Nat) ∧ m = ⟨nx + 3, b, g⟩ ∧ (∀ p, p < nx → g p = gt p) ∧ g nx = some (.cells Lw false) ∧ g (nx + 1) = some (.cells (k256.map u32V) false) ∧ g (nx + 2) = some (.cells ((rs V R t).map u32V) false)) 64
    ⟨0, G, by omega, by omega, rfl, rfl, rfl, rfl, rfl, rfl, G0, G1, G2, G3⟩ ?_ ?_ (fun _ _ h => h.elim)
  · intro SS hJ _ j f m
    rintro ⟨t, g, rfl, ht, f0, f2, f3, f4, f20, rfl, hF, g1, g2, g3⟩
    by_cases hlt : (t : Int) < 64
    · obtain ⟨a, b', c, d, e, f', h, i, hv⟩ := list8 (hr0 t)
      have cK := getD_w (l := k256) (i := t) (by show t < 64; omega)
      have cW : Lw.getD t undef = u32V ((sch R 64).getD t 0) := by rw [← hLw]; exact getD_w (by omega)
      have hnx : rs V R (t + 1) = rnd (k256.getD t 0) ((sch R 64).getD t 0) (rs V R t) := by
        conv => lhs; unfold rs
      rw [hv] at g3 hnx
      simp only [List.map_cons, List.map_nil] at g3
      have hkl : (k256.map u32V).length = 64 := rfl
      generalize k256.map u32V = Kc at *
      generalize k256.getD t 0 = Kt at *
      generalize (sch R 64).getD t 0 = Wt at *
      have q1 : (t : Int) + 1 = ((t + 1 : Nat) : Int) := by omega
      simp only [↓gaW, ↓gaV, ↓gaC, ↓gaN, gaP, Nat.reduceEqDiff, Nat.reduceLeDiff, Nat.reduceAdd, Nat.reduceSub, Nat.reduceMul, Int.reduceLT, Int.reduceLE, Int.reduceEq, Int.reduceToNat, Int.reduceAdd, Int.reduceSub, Int.reduceMul, reduceCtorEq, ↓reduceIte, List.getD_cons_zero, List.getD_cons_succ, fillL, splice, List.take_zero, List.drop_zero, List.drop_succ_cons, List.take_succ_cons, List.drop_nil, List.take_nil, gaU, f4, f20, hlt, decide_true, g3, Nat.zero_add, Nat.mul_one]
      repeat refine And.intro (by first | omega | (simp; done) | (simp; omega) | exact all1 rfl) ?_
      refine callQ_of (ct_turn (n := 6) (by decide) (by decide)) (fun v n1 g1' l1 k1 hC => ?_)
      obtain ⟨rfl, rfl, rfl⟩ := hC
      simp only [↓gaW, ↓gaV, ↓gaC, ↓gaN, gaP, Nat.reduceEqDiff, Nat.reduceLeDiff, Nat.reduceAdd, Nat.reduceSub, Nat.reduceMul, Int.reduceLT, Int.reduceLE, Int.reduceEq, Int.reduceToNat, Int.reduceAdd, Int.reduceSub, Int.reduceMul, reduceCtorEq, ↓reduceIte, gaU]
      refine callQ_of (ct_turn (n := 11) (by decide) (by decide)) (fun v n1 g1' l1 k1 hC => ?_)
      obtain ⟨rfl, rfl, rfl⟩ := hC
      simp only [↓gaW, ↓gaV, ↓gaC, ↓gaN, gaP, Nat.reduceEqDiff, Nat.reduceLeDiff, Nat.reduceAdd, Nat.reduceSub, Nat.reduceMul, Int.reduceLT, Int.reduceLE, Int.reduceEq, Int.reduceToNat, Int.reduceAdd, Int.reduceSub, Int.reduceMul, reduceCtorEq, ↓reduceIte, gaU]
      refine callQ_of (ct_turn (n := 25) (by decide) (by decide)) (fun v n1 g1' l1 k1 hC => ?_)
      obtain ⟨rfl, rfl, rfl⟩ := hC
      simp only [↓gaW, ↓gaV, ↓gaC, ↓gaN, gaP, Nat.reduceEqDiff, Nat.reduceLeDiff, Nat.reduceAdd, Nat.reduceSub, Nat.reduceMul, Int.reduceLT, Int.reduceLE, Int.reduceEq, Int.reduceToNat, Int.reduceAdd, Int.reduceSub, Int.reduceMul, reduceCtorEq, ↓reduceIte, List.getD_cons_zero, List.getD_cons_succ, fillL, splice, List.take_zero, List.drop_zero, List.drop_succ_cons, List.take_succ_cons, List.drop_nil, List.take_nil, gaU, f2, f3, f4, g1, g2, g3, Nat.zero_add, Nat.mul_one, Int.toNat_natCast, cK, cW]
      repeat refine And.intro (by first | omega | (simp; done) | (simp; omega) | exact all1 rfl) ?_
      refine callQ_of (ct_turn (n := 2) (by decide) (by decide)) (fun v n1 g1' l1 k1 hC => ?_)
      obtain ⟨rfl, rfl, rfl⟩ := hC
      simp only [↓gaW, ↓gaV, ↓gaC, ↓gaN, gaP, Nat.reduceEqDiff, Nat.reduceLeDiff, Nat.reduceAdd, Nat.reduceSub, Nat.reduceMul, Int.reduceLT, Int.reduceLE, Int.reduceEq, Int.reduceToNat, Int.reduceAdd, Int.reduceSub, Int.reduceMul, reduceCtorEq, ↓reduceIte, gaU]
      refine callQ_of (ct_turn (n := 13) (by decide) (by decide)) (fun v n1 g1' l1 k1 hC => ?_)
      obtain ⟨rfl, rfl, rfl⟩ := hC
      simp only [↓gaW, ↓gaV, ↓gaC, ↓gaN, gaP, Nat.reduceEqDiff, Nat.reduceLeDiff, Nat.reduceAdd, Nat.reduceSub, Nat.reduceMul, Int.reduceLT, Int.reduceLE, Int.reduceEq, Int.reduceToNat, Int.reduceAdd, Int.reduceSub, Int.reduceMul, reduceCtorEq, ↓reduceIte, gaU]
      refine callQ_of (ct_turn (n := 22) (by decide) (by decide)) (fun v n1 g1' l1 k1 hC => ?_)
      obtain ⟨rfl, rfl, rfl⟩ := hC
      have hrow : ∀ b, rowOf ⟨nx + 3, b, g1'⟩ (some ⟨nx + 2, 0, none⟩) (Nat.min 7 7) = some [u32V a, u32V b', u32V c, u32V d, u32V e, u32V f', u32V h] := fun b => by
        simp [rowOf, g3]
      simp only [↓gaW, ↓gaV, ↓gaC, ↓gaN, gaP, Nat.reduceEqDiff, Nat.reduceLeDiff, Nat.reduceAdd, Nat.reduceSub, Nat.reduceMul, Int.reduceLT, Int.reduceLE, Int.reduceEq, Int.reduceToNat, Int.reduceAdd, Int.reduceSub, Int.reduceMul, reduceCtorEq, ↓reduceIte, List.getD_cons_zero, List.getD_cons_succ, fillL, splice, List.take_zero, List.drop_zero, List.drop_succ_cons, List.take_succ_cons, List.drop_nil, List.take_nil, gaU, f4, g3, Nat.zero_add, Nat.mul_one, Int.toNat_natCast, hrow, cpK_s (show Nat.min 7 7 ≠ 0 by decide)]
      repeat refine And.intro (by first | omega | (simp; done) | (simp; omega) | exact all1 rfl) ?_
      simp only [↓gaW, ↓gaV, ↓gaC, ↓gaN, gaP, Nat.reduceEqDiff, Nat.reduceLeDiff, Nat.reduceAdd, Nat.reduceSub, Nat.reduceMul, Int.reduceLT, Int.reduceLE, Int.reduceEq, Int.reduceToNat, Int.reduceAdd, Int.reduceSub, Int.reduceMul, reduceCtorEq, ↓reduceIte, List.getD_cons_zero, List.getD_cons_succ, fillL, splice, List.take_zero, List.drop_zero, List.drop_succ_cons, List.take_succ_cons, List.drop_nil, List.take_nil, gaU, f20, q1, i64_w ((t + 1 : Nat) : Int) (by omega), List.nil_append, List.cons_append, List.length_cons, List.length_nil, Nat.zero_add, Nat.mul_one]
      repeat refine And.intro (by first | omega | (simp; done) | (simp; omega) | exact all1 rfl) ?_
      refine And.intro (all_u32 [a, b', c, d, e, f', h]) ?_
      repeat refine And.intro (by first | omega | (simp; done) | (simp; omega) | exact all1 rfl) ?_
      simp only [↓gaW, ↓gaV, ↓gaC, ↓gaN, gaP, Nat.reduceEqDiff, Nat.reduceLeDiff, Nat.reduceAdd, Nat.reduceSub, Nat.reduceMul, Int.reduceLT, Int.reduceLE, Int.reduceEq, Int.reduceToNat, Int.reduceAdd, Int.reduceSub, Int.reduceMul, reduceCtorEq, ↓reduceIte, loopK_n]
      refine ⟨64 - (t + 1), by omega, t + 1, _, rfl, by omega, f0, f2, f3, f4, rfl, rfl, fun p hp => ?_, ?_, ?_, ?_⟩
      · simp only [upd_e]; rw [if_neg (by omega), if_neg (by omega), if_neg (by omega), hF p hp]
      · simp only [upd_e]; rw [if_neg (by omega), if_neg (by omega), if_neg (by omega), g1]
      · simp only [upd_e]; rw [if_neg (by omega), if_neg (by omega), if_neg (by omega), g2]
      · simp only [upd_e, if_true]
        rw [hnx, ch_alt, mj_alt]
        rfl
    · have h64 : t = 64 := by omega
      subst h64
      simp only [↓gaW, ↓gaV, ↓gaC, ↓gaN, gaP, Nat.reduceEqDiff, Nat.reduceLeDiff, Nat.reduceAdd, Nat.reduceSub, Nat.reduceMul, Int.reduceLT, Int.reduceLE, Int.reduceEq, Int.reduceToNat, Int.reduceAdd, Int.reduceSub, Int.reduceMul, reduceCtorEq, ↓reduceIte, f20, hlt, decide_false, loopK_e]
      exact hJ _ _ ⟨g, by simp only [↓gaW, ↓gaV, ↓gaC, ↓gaN, gaP, Nat.reduceEqDiff, Nat.reduceLeDiff, Nat.reduceAdd, Nat.reduceSub, Nat.reduceMul, Int.reduceLT, Int.reduceLE, Int.reduceEq, Int.reduceToNat, Int.reduceAdd, Int.reduceSub, Int.reduceMul, reduceCtorEq, ↓reduceIte, f0], by simp only [↓gaW, ↓gaV, ↓gaC, ↓gaN, gaP, Nat.reduceEqDiff, Nat.reduceLeDiff, Nat.reduceAdd, Nat.reduceSub, Nat.reduceMul, Int.reduceLT, Int.reduceLE, Int.reduceEq, Int.reduceToNat, Int.reduceAdd, Int.reduceSub, Int.reduceMul, reduceCtorEq, ↓reduceIte, f4], rfl, hF, g3⟩
  · rintro f m ⟨g, f0, f4, rfl, hF, g3⟩
    obtain ⟨v, hv⟩ : ∃ v, rs V R 64 = v := ⟨_, rfl⟩
    have hvl : v.length = 8 := by rw [← hv]; exact hr0 64
    have hcp : comp V R = List.zipWith (· + ·) V v := by unfold comp; rw [hv]
    rw [hv] at g3
    have hgq : g q = some (.cells (hcells (addT V v 0) R M) false) := by
      rw [hF q hq, hg]; rfl
    simp only [↓gaW, ↓gaV, ↓gaC, ↓gaN, gaP, Nat.reduceEqDiff, Nat.reduceLeDiff, Nat.reduceAdd, Nat.reduceSub, Nat.reduceMul, Int.reduceLT, Int.reduceLE, Int.reduceEq, Int.reduceToNat, Int.reduceAdd, Int.reduceSub, Int.reduceMul, reduceCtorEq, ↓reduceIte]
    refine loop_of (fun j f m => ∃ (t : Nat) (g : Nat → Option Blk), j = 8 - t ∧ t ≤ 8 ∧ f 0 = .pointer (some ⟨q, 0, none⟩) ∧ f 4 = .pointer (some ⟨nx + 2, 0, none⟩) ∧ f 94 = .int .i64 (t : Nat) ∧ m = ⟨nx + 3, b, g⟩ ∧ (∀ p, p < nx → p ≠ q → g p = gt p) ∧ g q = some (.cells (hcells (addT V v t) R M) false) ∧ g (nx + 2) = some (.cells (v.map u32V) false)) 8
      ⟨0, g, by omega, by omega, by simp only [↓gaW, ↓gaV, ↓gaC, ↓gaN, gaP, Nat.reduceEqDiff, Nat.reduceLeDiff, Nat.reduceAdd, Nat.reduceSub, Nat.reduceMul, Int.reduceLT, Int.reduceLE, Int.reduceEq, Int.reduceToNat, Int.reduceAdd, Int.reduceSub, Int.reduceMul, reduceCtorEq, ↓reduceIte, f0], by simp only [↓gaW, ↓gaV, ↓gaC, ↓gaN, gaP, Nat.reduceEqDiff, Nat.reduceLeDiff, Nat.reduceAdd, Nat.reduceSub, Nat.reduceMul, Int.reduceLT, Int.reduceLE, Int.reduceEq, Int.reduceToNat, Int.reduceAdd, Int.reduceSub, Int.reduceMul, reduceCtorEq, ↓reduceIte, f4], by simp only [↓gaW, ↓gaV, ↓gaC, ↓gaN, gaP, Nat.reduceEqDiff, Nat.reduceLeDiff, Nat.reduceAdd, Nat.reduceSub, Nat.reduceMul, Int.reduceLT, Int.reduceLE, Int.reduceEq, Int.reduceToNat, Int.reduceAdd, Int.reduceSub, Int.reduceMul, reduceCtorEq, ↓reduceIte], rfl, fun p hp _ => hF p hp, hgq, g3⟩ ?_
    rintro j f m ⟨t, g, rfl, ht, f0, f4, f94, rfl, hF, hgq, g3⟩
    by_cases hlt : (t : Int) < 8
    · have ht8 : t < 8 := by omega
      have hal := addT_len hV hvl (show t ≤ 8 by omega)
      have c1 := hcells_word (R := R) (M := M) hal ht8
      rw [addT_get hV hvl ht8] at c1
      have c2 := getD_w (l := v) (i := t) (by omega)
      have hst := hcells_set (R := R) (M := M) (x := V.getD t 0 + v.getD t 0) hal ht8
      rw [addT_set hV hvl ht8] at hst
      have hl := hcells_len (M := M) hal hR
      have q1 : (t : Int) + 1 = ((t + 1 : Nat) : Int) := by omega
      simp only [↓gaW, ↓gaV, ↓gaC, ↓gaN, gaP, Nat.reduceEqDiff, Nat.reduceLeDiff, Nat.reduceAdd, Nat.reduceSub, Nat.reduceMul, Int.reduceLT, Int.reduceLE, Int.reduceEq, Int.reduceToNat, Int.reduceAdd, Int.reduceSub, Int.reduceMul, reduceCtorEq, ↓reduceIte, gaU, f0, f4, f94, hlt, decide_true, hgq, g3, Int.toNat_natCast, Nat.mul_one, Nat.zero_add, c1, c2, hst]
      repeat refine And.intro (by first | omega | (simp; done) | (simp; omega) | exact all1 rfl) ?_
      simp only [↓gaW, ↓gaV, ↓gaC, ↓gaN, gaP, Nat.reduceEqDiff, Nat.reduceLeDiff, Nat.reduceAdd, Nat.reduceSub, Nat.reduceMul, Int.reduceLT, Int.reduceLE, Int.reduceEq, Int.reduceToNat, Int.reduceAdd, Int.reduceSub, Int.reduceMul, reduceCtorEq, ↓reduceIte, f94, q1, i64_w ((t + 1 : Nat) : Int) (by omega), loopK_n]
      refine ⟨8 - (t + 1), by omega, t + 1, _, rfl, by omega, f0, f4, rfl, rfl, fun p hp hpq => ?_, by simp only [upd_e, if_true], ?_⟩
      · simp only [upd_e]; rw [if_neg hpq, hF p hp hpq]
      · simp only [upd_e]; rw [if_neg (by omega), g3]
    · have h8 : t = 8 := by omega
      subst h8
      rw [addT_full hV hvl, ← hcp] at hgq
      simp only [↓gaW, ↓gaV, ↓gaC, ↓gaN, gaP, Nat.reduceEqDiff, Nat.reduceLeDiff, Nat.reduceAdd, Nat.reduceSub, Nat.reduceMul, Int.reduceLT, Int.reduceLE, Int.reduceEq, Int.reduceToNat, Int.reduceAdd, Int.reduceSub, Int.reduceMul, reduceCtorEq, ↓reduceIte, gaU, f94, hlt, decide_false, loopK_e]
      rw [endW_n, res_nil]
      exact ⟨rfl, by omega, hF, hgq⟩
end
end Go.Ga

namespace Go.Ga
open Go Go.Proofs
set_option linter.unusedSimpArgs false
set_option linter.unusedVariables false

/-- What 'Bytes' answers, in a new block. -/
def ByVF (lo nx : Nat) (gt : Nat → Option Blk) (n : Nat) (many : Int) (v : Value) : Prop :=
  ∃ s, v = .tuple #[s, .bool (byOk n many)] ∧ BySl nx gt s (if byOk n many then be many.toNat n else []) ∧ ∀ a n c, s = .slice (some a) n c → lo ≤ a.block

theorem ct_BytesF {nx : Nat} {gt : Nat → Option Blk} {n : Nat} {many : Int} (hn : n < 18446744073709551616) (hm : -9223372036854775808 ≤ many ∧ many ≤ 9223372036854775807) :
    Ct Try.prog 36 [.int .u64 (n : Nat), .int .i64 many] nx gt fun v nx' gt' => ByVF nx nx' gt' n many v := by
  refine Ct.of hmx r_octet_Bytes (by simp [c_octet_Bytes]) fun b hb => ?_
  have rest : ∀ k : Nat, many = k → k ≤ 64 → byOk n many = true → ∀ f : Regs, f 0 = .int .u64 (n : Nat) → f 1 = .int .i64 (k : Nat) →
      RC.vc Try.prog (match c_octet_Bytes.code with | .seq _ (.seq _ c) => c | _ => .skip) f ⟨nx, b, gt⟩ (D Try.prog (.top (endK c_octet_Bytes.results b nx gt fun v nx' gt' => ByVF nx nx' gt' n many v))) := by
    rintro k rfl hk hok f h0 h1
    have g5 : (if (8 : Int) < (k : Int) then 8 else (k : Int)) = ((min k 8 : Nat) : Int) := by split <;> omega
    simp only [c_octet_Bytes, ↓gaW, ↓gaC, ↓gaN, gaP, Nat.reduceEqDiff, Nat.reduceLeDiff, Nat.reduceAdd, Nat.reduceSub, Nat.reduceMul, Int.reduceLT, Int.reduceLE, Int.reduceEq, Int.reduceToNat, Int.reduceAdd, Int.reduceSub, Int.reduceMul, reduceCtorEq, ↓reduceIte, h0, h1, g5]
    repeat refine And.intro (by first | omega | simp) ?_
    refine loop_of (fun j f m => ∃ t ce g, j = k - t ∧ t ≤ min k 8 ∧ f 6 = .slice (some ⟨nx, 0, none⟩) k k ∧ f 0 = .int .u64 (n : Nat) ∧ f 1 = .int .i64 (k : Nat) ∧ f 28 = .int .i64 (min k 8 : Nat) ∧ f 29 = .int .i64 (t : Nat) ∧ m = ⟨nx + 1, b, g⟩ ∧ (∀ i, i < nx → g i = gt i) ∧ g nx = some (.cells ce false) ∧ ce.length = k ∧
        ∀ i, i < k → ce.getD i undef = if k - 1 - i < t then u8V (UInt8.ofNat (n / 256 ^ (k - 1 - i))) else .int .u8 0) k
      ⟨0, (List.range k).map fun i => [Value.int .u8 0].getD (i % 1) undef, _, by omega, by omega, rfl, h0, h1, rfl, rfl, rfl, fun i hi => by simp only [upd_e]; rw [if_neg (by omega)], by simp only [upd_e, if_true], by simp, fun i hi => by rw [getD_range _ _ _ hi, zero1b, if_neg (by omega)]⟩ ?_
    rintro j f m ⟨t, ce, g, rfl, ht, h6, h0, h1, h28, h29, rfl, hg, hgn, hcl, hce⟩
    simp only [↓gaW, ↓gaC, ↓gaN, gaP, Nat.reduceEqDiff, Nat.reduceLeDiff, Nat.reduceAdd, Nat.reduceSub, Nat.reduceMul, Int.reduceLT, Int.reduceLE, Int.reduceEq, Int.reduceToNat, Int.reduceAdd, Int.reduceSub, Int.reduceMul, reduceCtorEq, ↓reduceIte, h28, h29]
    refine condK_dec (fun hlt => ?_) fun hge => ?_
    · have htk : t < min k 8 := by omega
      have g4 : ((k : Int) - 1 - (t : Int)).toNat = k - 1 - t := by omega
      simp only [↓gaW, ↓gaC, ↓gaN, gaP, Nat.reduceEqDiff, Nat.reduceLeDiff, Nat.reduceAdd, Nat.reduceSub, Nat.reduceMul, Int.reduceLT, Int.reduceLE, Int.reduceEq, Int.reduceToNat, Int.reduceAdd, Int.reduceSub, Int.reduceMul, reduceCtorEq, ↓reduceIte, h6, h0, h1, h28, h29, g4, hgn, i64_w ((k : Int) - 1) (by omega), i64_w ((k : Int) - 1 - (t : Int)) (by omega), i64_w (8 * (t : Int)) (by omega), i64_w ((t : Int) + 1) (by omega), shr8 t n (by omega), u8_of]
      repeat refine And.intro (by first | omega | exact all1 rfl) ?_
      refine ⟨k - t - 1, by omega, t + 1, splice ce (k - 1 - t) [.int .u8 ((UInt8.ofNat (n / 256 ^ t)).toNat : Nat)], _, by omega, by omega, h6, h0, h1, h28, rfl, rfl, fun i hi => ?_, ?_, ?_, fun i hi => ?_⟩
      · simp only [upd_e]; rw [if_neg (by omega)]; exact hg i hi
      · simp only [upd_e, if_true]
      · rw [splice1_len (by omega)]; exact hcl
      · rw [splice1 (by omega)]
        by_cases hi' : i = k - 1 - t
        · subst hi'
          rw [if_pos (by omega), if_pos (by omega)]
          have e : k - 1 - (k - 1 - t) = t := by omega
          rw [e]
          rfl
        · rw [if_neg hi', hce i hi]
          by_cases h' : k - 1 - i < t
          · rw [if_pos h', if_pos (by omega)]
          · rw [if_neg h', if_neg (by omega)]
    · have : t = min k 8 := by omega
      simp only [↓gaW, ↓gaC, ↓gaN, gaP, Nat.reduceEqDiff, Nat.reduceLeDiff, Nat.reduceAdd, Nat.reduceSub, Nat.reduceMul, Int.reduceLT, Int.reduceLE, Int.reduceEq, Int.reduceToNat, Int.reduceAdd, Int.reduceSub, Int.reduceMul, reduceCtorEq, ↓reduceIte, gaE, h6]
      refine ⟨by omega, fun i hi => hg i hi, _, by rw [hok], ?_, fun a n c h => by injection h with h _ _; injection h with h; subst h; exact Nat.le_refl _⟩
      rw [hok, if_pos rfl, Int.toNat_natCast]
      refine BySl.mk (.inl rfl) (by omega) hgn (Nat.le_refl _) (by omega) (be_length _ _) fun i hi => ?_
      rw [hce i hi, be_getD _ _ _ hi]
      by_cases h' : k - 1 - i < t
      · rw [if_pos h']
      · rw [if_neg h']
        have hp : 256 ^ 8 ≤ 256 ^ (k - 1 - i) := Nat.pow_le_pow_right (by decide) (by omega)
        have : n / 256 ^ (k - 1 - i) = 0 := Nat.div_eq_of_lt (by omega)
        rw [this]; rfl
  by_cases h1 : many < 0
  · have : byOk n many = false := by simp [byOk]; omega
    simp only [c_octet_Bytes, ↓gaW, ↓gaC, ↓gaN, gaP, Nat.reduceEqDiff, Nat.reduceLeDiff, Nat.reduceAdd, Nat.reduceSub, Nat.reduceMul, Int.reduceLT, Int.reduceLE, Int.reduceEq, Int.reduceToNat, Int.reduceAdd, Int.reduceSub, Int.reduceMul, reduceCtorEq, ↓reduceIte, gaE, h1, decide_true]
    exact ⟨by omega, fun _ _ => trivial, _, by rw [this], by rw [this]; exact .nil, fun a n c h => by cases h⟩
  by_cases h2 : 64 < many
  · have : byOk n many = false := by simp [byOk]; omega
    simp only [c_octet_Bytes, ↓gaW, ↓gaC, ↓gaN, gaP, Nat.reduceEqDiff, Nat.reduceLeDiff, Nat.reduceAdd, Nat.reduceSub, Nat.reduceMul, Int.reduceLT, Int.reduceLE, Int.reduceEq, Int.reduceToNat, Int.reduceAdd, Int.reduceSub, Int.reduceMul, reduceCtorEq, ↓reduceIte, gaE, h1, h2, decide_true, decide_false]
    exact ⟨by omega, fun _ _ => trivial, _, by rw [this], by rw [this]; exact .nil, fun a n c h => by cases h⟩
  obtain ⟨k, rfl⟩ : ∃ k : Nat, many = k := ⟨many.toNat, by omega⟩
  have hpos : 0 < 256 ^ k := Nat.pow_pos (by decide)
  by_cases h3 : (k : Int) < 8
  · by_cases h4 : n / 256 ^ k = 0
    · have hok : byOk n (k : Int) = true := by
        have := (Nat.div_eq_zero_iff_lt hpos).1 h4
        simp [byOk]; omega
      simp only [c_octet_Bytes, ↓gaW, ↓gaN, gaP, Nat.reduceEqDiff, Nat.reduceLeDiff, Nat.reduceAdd, Nat.reduceSub, Nat.reduceMul, Int.reduceLT, Int.reduceLE, Int.reduceEq, Int.reduceToNat, Int.reduceAdd, Int.reduceSub, Int.reduceMul, reduceCtorEq, ↓reduceIte, h1, h2, h3, decide_true, decide_false, i64_w (8 * (k : Int)) (by omega), shr8 k n (by omega), h4]
      repeat refine And.intro (by first | omega | simp) ?_
      refine condK_of (fun h => by simp at h) fun _ => ?_
      rw [vc_skip, D_thn_n]
      refine rest k rfl (by omega) hok _ ?_ ?_ <;> rfl
    · have hok : byOk n (k : Int) = false := by
        have : 0 < n / 256 ^ k := Nat.pos_of_ne_zero h4
        have := (Nat.div_pos_iff.1 this).2
        simp [byOk]; omega
      have h4' : ((n / 256 ^ k : Nat) : Int) ≠ 0 := by omega
      simp only [c_octet_Bytes, ↓gaW, ↓gaC, ↓gaN, gaP, Nat.reduceEqDiff, Nat.reduceLeDiff, Nat.reduceAdd, Nat.reduceSub, Nat.reduceMul, Int.reduceLT, Int.reduceLE, Int.reduceEq, Int.reduceToNat, Int.reduceAdd, Int.reduceSub, Int.reduceMul, reduceCtorEq, ↓reduceIte, gaE, h1, h2, h3, decide_true, decide_false, i64_w (8 * (k : Int)) (by omega), shr8 k n (by omega), h4']
      repeat refine And.intro (by first | omega | simp) ?_
      exact ⟨_, by rw [hok], by rw [hok]; exact .nil, fun a n c h => by cases h⟩
  · have hp : 256 ^ 8 ≤ 256 ^ k := Nat.pow_le_pow_right (by decide) (by omega)
    have hok : byOk n (k : Int) = true := by simp [byOk]; omega
    simp only [c_octet_Bytes, ↓gaW, ↓gaN, gaP, Nat.reduceEqDiff, Nat.reduceLeDiff, Nat.reduceAdd, Nat.reduceSub, Nat.reduceMul, Int.reduceLT, Int.reduceLE, Int.reduceEq, Int.reduceToNat, Int.reduceAdd, Int.reduceSub, Int.reduceMul, reduceCtorEq, ↓reduceIte, h1, h2, h3, decide_true, decide_false]
    refine condK_of (fun h => by simp at h) fun _ => ?_
    rw [vc_skip, D_thn_n]
    refine rest k rfl (by omega) hok _ ?_ ?_ <;> rfl
end Go.Ga

namespace Go.Ga
open Go Go.Proofs
set_option linter.unusedSimpArgs false
set_option linter.unusedVariables false
set_option maxRecDepth 100000
attribute [local irreducible] appendK endK endW sch comp rs

theorem hcells_many {W : List UInt32} {R : List UInt8} {M : Nat} (hW : W.length = 8) (hR : R.length = 64) : (hcells W R M).getD 72 undef = .int .u64 (M : Nat) := by
  rw [hcells, List.getD_eq_getElem?_getD, List.getElem?_append_right (by simp; omega), List.getElem?_append_right (by simp; omega)]
  simp [hW, hR]
theorem hcells_setmany {W : List UInt32} {R : List UInt8} {M N : Nat} (hW : W.length = 8) (hR : R.length = 64) : splice (hcells W R M) 72 [.int .u64 (N : Nat)] = hcells W R N := by
  simp only [splice, hcells]
  rw [← List.append_assoc, List.take_append_of_le_length (by simp [hW, hR]), List.take_of_length_le (by simp [hW, hR]), List.drop_of_length_le (by simp [hW, hR])]
  simp
theorem hcells_lay {W : List UInt32} {R p : List UInt8} {M r : Nat} (hW : W.length = 8) (hR : R.length = 64) (h : r + p.length ≤ 64) : splice (hcells W R M) (8 + r) (p.map u8V) = hcells W (lay R r p) M := by
  simp only [splice, hcells, lay]
  rw [List.take_append, List.take_of_length_le (by simp; omega), List.length_map, hW, Nat.add_sub_cancel_left, List.take_append_of_le_length (by simp; omega), List.drop_append, List.drop_of_length_le (by simp; omega), List.length_map, List.length_map, hW, show 8 + r + p.length - 8 = r + p.length by omega, List.drop_append_of_le_length (by simp; omega)]
  simp only [List.nil_append, List.map_append, List.map_take, List.map_drop, List.length_map, List.append_assoc]

section
variable {nx : Nat} {gt : Nat → Option Blk}

theorem ct_New : Ct Try.prog 13 [] nx gt fun v nx' gt' => v = .pointer (some ⟨nx, 0, none⟩) ∧ nx' = nx + 1 ∧ gt' nx = some (.cells (hcells ivs (List.replicate 64 0) 0) false) := by
  refine Ct.of hmx r_sha_New (by simp [c_sha_New]) fun b hb => ?_
  simp only [c_sha_New, ↓gaW, ↓gaV, ↓gaC, ↓gaN, gaP, Nat.reduceEqDiff, Nat.reduceLeDiff, Nat.reduceAdd, Nat.reduceSub, Nat.reduceMul, Int.reduceLT, Int.reduceLE, Int.reduceEq, Int.reduceToNat, Int.reduceAdd, Int.reduceSub, Int.reduceMul, reduceCtorEq, ↓reduceIte, List.getD_cons_zero, List.getD_cons_succ, fillL, splice, List.take_zero, List.drop_zero, List.drop_succ_cons, List.take_succ_cons, List.drop_nil, List.take_nil, gaE, implies_true, Nat.le_refl, Int.sub_zero, Nat.sub_zero, Int.le_refl, true_or, or_true]
  refine ⟨by omega, fun q hq => by rw [if_neg (by omega)], ?_⟩
  rfl

/-- A hash in its block. -/
def HashB (l : List UInt8) (b : Option Blk) : Prop := ∃ W R, b = some (.cells (hcells W R l.length) false) ∧ HashIs l W R

theorem ct_Write {q n c : Nat} {A : Option Addr} {l p : List UInt8} (hq : q < nx) (hg : HashB l (gt q)) (hA : Row nx gt 1 A n (p.map u8V)) (hc : n ≤ c) (hne : 0 < n → ∀ a, A = some a → a.block ≠ q) (hs : l.length + n < 1000000000000) :
    Cw Try.prog 14 [.pointer (some ⟨q, 0, none⟩), .slice A n c] q nx gt fun _ _ gt' => HashB (l ++ p) (gt' q) := by
  have hp : p.length = n := by simpa using hA.len
  refine Cw.of hmx r___sha_Hash__Write (by simp [c___sha_Hash__Write]) fun b hb hbq => ?_
  simp only [c___sha_Hash__Write, ↓gaW, ↓gaV, ↓gaC, ↓gaN, gaP, Nat.reduceEqDiff, Nat.reduceLeDiff, Nat.reduceAdd, Nat.reduceSub, Nat.reduceMul, Int.reduceLT, Int.reduceLE, Int.reduceEq, Int.reduceToNat, Int.reduceAdd, Int.reduceSub, Int.reduceMul, reduceCtorEq, ↓reduceIte]
  refine loop_of (fun j f m => ∃ (k x c' : Nat) (g : Nat → Option Blk) (A' : Option Addr), j = n - k ∧ k ≤ n ∧ f 0 = .pointer (some ⟨q, 0, none⟩) ∧ f 1 = .slice A' (n - k) c' ∧ n - k ≤ c' ∧ m = ⟨x, b, g⟩ ∧ nx ≤ x ∧ (∀ p, p < nx → p ≠ q → g p = gt p) ∧ HashB (l ++ p.take k) (g q) ∧ Row x g 1 A' (n - k) ((p.drop k).map u8V) ∧ (0 < n - k → ∀ a, A' = some a → a.block ≠ q)) n
    ⟨0, nx, c, gt, A, by omega, by omega, rfl, rfl, by omega, rfl, by omega, fun _ _ _ => rfl, by simpa using hg, by simpa using hA, hne⟩ ?_
  rintro j f m ⟨k, x, c', g, A', rfl, hk, f0, f1, hc', rfl, hx, hF, hgq, hA', hne'⟩
  by_cases hlt : (0 : Int) < ((n - k : Nat) : Int)
  · have hne' := hne' (by omega)
    obtain ⟨W, R, hgq, hI⟩ := hgq
    have hW := hI.wlen
    have hR := hI.len
    have hl1 : (l ++ p.take k).length = l.length + k := by simp; omega
    rw [hl1] at hgq
    obtain ⟨l1, hl1'⟩ : ∃ l1, l ++ p.take k = l1 := ⟨_, rfl⟩
    rw [hl1'] at hI hl1
    obtain ⟨r, hr⟩ : ∃ r, (l.length + k) % 64 = r := ⟨_, rfl⟩
    have hr64 : r < 64 := by omega
    obtain ⟨w, hw⟩ : ∃ w, Nat.min (n - k) (64 - r) = w := ⟨_, rfl⟩
    have hw0 : 0 < w := by rw [← hw, Nat.lt_min]; omega
    have hw1 : w ≤ n - k := by rw [← hw]; exact Nat.min_le_left _ _
    have hw2 : w ≤ 64 - r := by rw [← hw]; exact Nat.min_le_right _ _
    obtain ⟨a, ce, ro, rfl, p1, p2, _⟩ := hA'.cells (by omega)
    obtain ⟨P, hP⟩ : ∃ P, (p.drop k).take w = P := ⟨_, rfl⟩
    have hPl : P.length = w := by rw [← hP]; simp; omega
    have hrow : ∀ b, rowOf ⟨x, b, g⟩ (some ⟨a.block, a.off, a.spot⟩) w = some (P.map u8V) := fun b => by
      have := (hA'.part (lo := 0) (hi := w) (by omega) hw1 rfl).rowOf (b := b)
      rw [Nat.sub_zero, List.drop_zero, ← List.map_take, hP] at this
      exact this
    have e1 : (((l.length + k : Nat) : Int)).tmod 64 = (r : Int) := by rw [Int.tmod_eq_emod_of_nonneg (by omega)]; omega
    have e2 : ((64 : Int) - (r : Int)).toNat = 64 - r := by omega
    have hmany := hcells_many (M := l.length + k) hW hR
    have hlay := hcells_lay (M := l.length + k) (p := P) (r := r) hW hR (by omega)
    have hR2 := lay_len (p := P) (r := r) hR (by omega)
    have hmany2 := hcells_many (M := l.length + k) hW hR2
    have hset2 := hcells_setmany (M := l.length + k) (N := l.length + k + w) hW hR2
    have hlen := hcells_len (M := l.length + k) hW hR
    have hlen2 := hcells_len (M := l.length + k) hW hR2
    have e3 : ((l.length + k : Nat) : Int) + (w : Int) = ((l.length + k + w : Nat) : Int) := by omega
    obtain ⟨H1, hH1⟩ : ∃ H, hcells W R (l.length + k) = H := ⟨_, rfl⟩
    obtain ⟨H2, hH2⟩ : ∃ H, hcells W (lay R r P) (l.length + k) = H := ⟨_, rfl⟩
    rw [hH1] at hgq hmany hlay hlen
    rw [hH2] at hlay hmany2 hset2 hlen2
    simp only [↓gaW, ↓gaV, ↓gaC, ↓gaN, gaP, Nat.reduceEqDiff, Nat.reduceLeDiff, Nat.reduceAdd, Nat.reduceSub, Nat.reduceMul, Int.reduceLT, Int.reduceLE, Int.reduceEq, Int.reduceToNat, Int.reduceAdd, Int.reduceSub, Int.reduceMul, reduceCtorEq, ↓reduceIte, gaU, f0, f1, hlt, decide_true, hgq, hmany, e1, e2, Nat.zero_add, Nat.mul_one, Int.toNat_natCast, Nat.reduceAdd, hw]
    have hsp := hA'.spot a rfl
    have hany : w ≠ 0 := by omega
    have hmany3 := hcells_many (M := l.length + k + w) hW hR2
    have hlen3 := hcells_len (M := l.length + k + w) hW hR2
    obtain ⟨H3, hH3⟩ : ∃ H, hcells W (lay R r P) (l.length + k + w) = H := ⟨_, rfl⟩
    rw [hH3] at hset2 hmany3 hlen3
    have e5 : (((l.length + k + w : Nat) : Int)).tmod 64 = (((r + w) % 64 : Nat) : Int) := by rw [Int.tmod_eq_emod_of_nonneg (by omega)]; omega
    have e6 : IntKind.u64.wrap (w : Int) = (w : Int) := u64_i _ (by omega)
    have e7 : ((n - k : Nat) : Int) - (w : Int) = ((n - k - w : Nat) : Int) := by omega
    have e8 : (c' : Int) - (w : Int) = ((c' - w : Nat) : Int) := by omega
    have hrt : (l.length + k) % 64 = r := hr
    have hl1p : l1 ++ P = l ++ p.take (k + w) := by rw [← hl1', ← hP, List.append_assoc, ← List.take_add]
    have hln1 : (l ++ p.take (k + w)).length = l.length + k + w := by simp; omega
    have hA2 : ∀ x' g', x ≤ x' → g' a.block = g a.block → Row x' g' 1 (some ⟨a.block, a.off + w, a.spot⟩) (n - k - w) ((p.drop (k + w)).map u8V) := fun x' g' h1 h2 => by
      have h3 := (hA'.keepA h1 (fun _ a' ha => by injection ha with ha; subst ha; exact h2)).part (lo := w) (hi := n - k) hw1 (Nat.le_refl _) rfl
      rw [← List.map_drop, ← List.map_take, List.drop_drop, List.take_of_length_le (by simp; omega)] at h3
      exact h3
    simp only [↓gaW, ↓gaV, ↓gaC, ↓gaN, gaP, Nat.reduceEqDiff, Nat.reduceLeDiff, Nat.reduceAdd, Nat.reduceSub, Nat.reduceMul, Int.reduceLT, Int.reduceLE, Int.reduceEq, Int.reduceToNat, Int.reduceAdd, Int.reduceSub, Int.reduceMul, reduceCtorEq, ↓reduceIte, gaU, hrow, hgq, cpK_s hany, hlay, Nat.add_zero, hmany2, e6, e3, u64_i ((l.length + k + w : Nat) : Int) (by omega), hset2, hmany3, e5]
    repeat refine And.intro (by first | omega | (rcases hsp with h | h <;> simp [h]; done) | (simp; omega) | exact all_u8 _ | exact all1 rfl) ?_
    by_cases hfull : (((r + w) % 64 : Nat) : Int) = 0
    · have hrw : r + P.length = 64 := by omega
      have hI2 := hI.full (p := P) (by rw [hl1, hrt]; exact hrw)
      rw [hl1, hrt, hl1p] at hI2
      simp only [↓gaW, ↓gaV, ↓gaC, ↓gaN, gaP, Nat.reduceEqDiff, Nat.reduceLeDiff, Nat.reduceAdd, Nat.reduceSub, Nat.reduceMul, Int.reduceLT, Int.reduceLE, Int.reduceEq, Int.reduceToNat, Int.reduceAdd, Int.reduceSub, Int.reduceMul, reduceCtorEq, ↓reduceIte, f0, hfull, decide_true]
      refine callW_of (ct_full (M := l.length + k + w) (V := W) (R := lay R r P) (by omega) (by simp only [upd_e, if_true]; rw [hH3]) hW hR2) (fun v x2 g2 l2 k2 hC => ?_) (by omega) hbq
      simp only [↓gaW, ↓gaV, ↓gaC, ↓gaN, gaP, Nat.reduceEqDiff, Nat.reduceLeDiff, Nat.reduceAdd, Nat.reduceSub, Nat.reduceMul, Int.reduceLT, Int.reduceLE, Int.reduceEq, Int.reduceToNat, Int.reduceAdd, Int.reduceSub, Int.reduceMul, reduceCtorEq, ↓reduceIte, loopK_n]
      have hga : g2 a.block = g a.block := by
        have := hne' a rfl
        rw [k2 _ (by omega) this]; simp only [upd_e]; rw [if_neg this, if_neg this]
      refine ⟨n - (k + w), by omega, k + w, x2, c' - w, g2, some ⟨a.block, a.off + w, a.spot⟩, rfl, by omega, f0, ?_, by omega, rfl, by omega, fun p' hp' hpq => ?_, ⟨comp W (lay R r P), lay R r P, by rw [hC, hln1], hI2⟩, ?_, fun _ a' ha => by injection ha with ha; subst ha; exact hne' a rfl⟩
      · rw [e7, e8]; simp only [Int.toNat_natCast]; rw [show n - k - w = n - (k + w) by omega]
      · rw [k2 p' (by omega) hpq]; simp only [upd_e]; rw [if_neg hpq, if_neg hpq, hF p' hp' hpq]
      · rw [show n - (k + w) = n - k - w by omega]; exact hA2 _ _ l2 hga
    · have hrw : r + P.length < 64 := by omega
      have hI2 := hI.part (p := P) (by rw [hl1, hrt]; exact hrw)
      rw [hl1, hrt, hl1p] at hI2
      simp only [↓gaW, ↓gaV, ↓gaC, ↓gaN, gaP, Nat.reduceEqDiff, Nat.reduceLeDiff, Nat.reduceAdd, Nat.reduceSub, Nat.reduceMul, Int.reduceLT, Int.reduceLE, Int.reduceEq, Int.reduceToNat, Int.reduceAdd, Int.reduceSub, Int.reduceMul, reduceCtorEq, ↓reduceIte, hfull, decide_false, loopK_n]
      have hga : (upd (upd g q (some (.cells H2 false))) q (some (.cells H3 false))) a.block = g a.block := by
        have := hne' a rfl
        simp only [upd_e]; rw [if_neg this, if_neg this]
      refine ⟨n - (k + w), by omega, k + w, x, c' - w, _, some ⟨a.block, a.off + w, a.spot⟩, rfl, by omega, f0, ?_, by omega, rfl, by omega, fun p' hp' hpq => ?_, ⟨W, lay R r P, by simp only [upd_e, if_true]; rw [hln1, hH3], hI2⟩, ?_, fun _ a' ha => by injection ha with ha; subst ha; exact hne' a rfl⟩
      · rw [e7, e8]; simp only [Int.toNat_natCast]; rw [show n - k - w = n - (k + w) by omega]
      · simp only [upd_e]; rw [if_neg hpq, if_neg hpq, hF p' hp' hpq]
      · rw [show n - (k + w) = n - k - w by omega]; exact hA2 _ _ (Nat.le_refl _) hga
  · have hkn : k = n := by omega
    subst hkn
    rw [List.take_of_length_le (by omega)] at hgq
    simp only [↓gaW, ↓gaV, ↓gaC, ↓gaN, gaP, Nat.reduceEqDiff, Nat.reduceLeDiff, Nat.reduceAdd, Nat.reduceSub, Nat.reduceMul, Int.reduceLT, Int.reduceLE, Int.reduceEq, Int.reduceToNat, Int.reduceAdd, Int.reduceSub, Int.reduceMul, reduceCtorEq, ↓reduceIte, f1, hlt, decide_false, loopK_e]
    rw [endW_n, res_nil]
    exact ⟨rfl, by omega, hF, hgq⟩
end
end Go.Ga

namespace Go.Ga
open Go Go.Proofs
set_option linter.unusedSimpArgs false
set_option linter.unusedVariables false
set_option maxRecDepth 100000
attribute [local irreducible] appendK endK endW sch comp rs

theorem outS_len (w : List UInt32) : (outS w).length = 32 := by simp [outS]
theorem outS_get {w : List UInt32} {i : Nat} (h : i < 32) : (outS w).getD i 0 = UInt8.ofNat ((w.getD (i / 4) 0).toNat / 2 ^ (24 - 8 * (i % 4))) := by
  simp [outS, List.getD_eq_getElem?_getD, h]
theorem fill8_step {l : List UInt8} {t n : Nat} (hl : l.length = n) (ht : t < n) : splice ((l.take t ++ List.replicate (n - t) 0).map u8V) t [u8V (l.getD t 0)] = (l.take (t + 1) ++ List.replicate (n - (t + 1)) 0).map u8V := by
  have e1 : (l.take t).length = t := by simp; omega
  have e2 : l.take (t + 1) = l.take t ++ [l.getD t 0] := by
    rw [List.take_add_one, List.getElem?_eq_getElem (show t < l.length by omega), List.getD_eq_getElem?_getD, List.getElem?_eq_getElem (show t < l.length by omega)]; rfl
  simp only [splice]
  rw [← List.map_take, ← List.map_drop, List.take_append_of_le_length (by omega), List.take_of_length_le (by omega), List.drop_append, List.drop_of_length_le (by simp; omega), List.nil_append, e1, List.length_singleton, show t + 1 - t = 1 by omega, List.drop_replicate, e2]
  generalize l.take t = L
  simp [show n - t - 1 = n - (t + 1) by omega]
theorem row8 {x q n : Nat} {g : Nat → Option Blk} {w : List UInt8} {ro : Bool} (hq : q < x) (hg : g q = some (.cells (w.map u8V) ro)) (hw : w.length = n) : Row x g 1 (some ⟨q, 0, none⟩) n (w.map u8V) :=
  ⟨fun a ha => by injection ha with ha; subst ha; exact .inl rfl, by simp [hw], fun _ => ⟨_, _, ro, rfl, hq, hg, by simp [hw], fun i hi => by simp⟩⟩

section
variable {nx : Nat} {gt : Nat → Option Blk}

theorem ct_Sum {q : Nat} {l : List UInt8} (hq : q < nx) (hg : HashB l (gt q)) (hs : l.length < 100000000000) :
    Ct Try.prog 15 [.pointer (some ⟨q, 0, none⟩)] nx gt fun v _ _ => v = .agg ((sha l).map u8V).toArray := by
  refine Ct.of hmx r___sha_Hash__Sum (by simp [c___sha_Hash__Sum]) fun b hb => ?_
  obtain ⟨W, R, hg, hI⟩ := hg
  have hW := hI.wlen
  have hR := hI.len
  have hlen := hcells_len (M := l.length) hW hR
  have hmany := hcells_many (M := l.length) hW hR
  have hall : ∀ v ∈ hcells W R l.length, cellVal v = true := by
    intro v hv
    rw [hcells, List.mem_append, List.mem_append] at hv
    rcases hv with h | h | h
    · exact all_u32 _ v h
    · exact all_u8 _ v h
    · rw [List.mem_singleton] at h; rw [h]; rfl
  obtain ⟨H, hH⟩ : ∃ H, hcells W R l.length = H := ⟨_, rfl⟩
  rw [hH] at hg hlen hmany hall
  have htk : List.take 73 H = H := List.take_of_length_le (by omega)
  have hsp : ∀ z : List Value, z.length = 73 → splice z 0 H = H := fun z hz => by simp [splice, hz, hlen]
  simp only [c___sha_Hash__Sum, ↓gaW, ↓gaV, ↓gaC, ↓gaN, gaP, Nat.reduceEqDiff, Nat.reduceLeDiff, Nat.reduceAdd, Nat.reduceSub, Nat.reduceMul, Int.reduceLT, Int.reduceLE, Int.reduceEq, Int.reduceToNat, Int.reduceAdd, Int.reduceSub, Int.reduceMul, reduceCtorEq, ↓reduceIte, gaU]
  rw [if_neg (show ¬ q = nx by omega), hg]
  simp only [↓gaW, ↓gaV, ↓gaC, ↓gaN, gaP, Nat.reduceEqDiff, Nat.reduceLeDiff, Nat.reduceAdd, Nat.reduceSub, Nat.reduceMul, Int.reduceLT, Int.reduceLE, Int.reduceEq, Int.reduceToNat, Int.reduceAdd, Int.reduceSub, Int.reduceMul, reduceCtorEq, ↓reduceIte, gaU, List.drop_zero, htk, Nat.zero_add]
  refine And.intro (by omega) (And.intro hlen (And.intro (by omega) (And.intro (by simp [hlen]) (And.intro hall ?_))))
  rw [hsp _ rfl]
  simp only [↓gaW, ↓gaV, ↓gaC, ↓gaN, gaP, Nat.reduceEqDiff, Nat.reduceLeDiff, Nat.reduceAdd, Nat.reduceSub, Nat.reduceMul, Int.reduceLT, Int.reduceLE, Int.reduceEq, Int.reduceToNat, Int.reduceAdd, Int.reduceSub, Int.reduceMul, reduceCtorEq, ↓reduceIte, List.getD_cons_zero, List.getD_cons_succ, fillL, splice, List.take_zero, List.drop_zero, List.drop_succ_cons, List.take_succ_cons, List.drop_nil, List.take_nil]
  have hb1 : HashB l (upd (upd (upd (upd gt nx (some (.cells ((List.replicate 32 (0 : UInt8)).map u8V) false))) (nx + 1) (some (.cells (List.replicate 8 (.int .u32 0) ++ List.replicate 64 (.int .u8 0) ++ [.int .u64 0]) false))) (nx + 1) (some (.cells H false))) (nx + 1 + 1) (some (.cells [u8V 128] false)) (nx + 1)) := ⟨W, R, by simp only [upd_e]; rw [if_neg (by omega), if_true, hH], hI⟩
  have hr1 : Row (nx + 1 + 1 + 1) (upd (upd (upd (upd gt nx (some (.cells ((List.replicate 32 (0 : UInt8)).map u8V) false))) (nx + 1) (some (.cells (List.replicate 8 (.int .u32 0) ++ List.replicate 64 (.int .u8 0) ++ [.int .u64 0]) false))) (nx + 1) (some (.cells H false))) (nx + 1 + 1) (some (.cells [u8V 128] false))) 1 (some ⟨nx + 1 + 1, 0, none⟩) 1 (([128] : List UInt8).map u8V) := row8 (ro := false) (by omega) (by simp only [upd_e, if_true]; rfl) rfl
  refine callW_of (ct_Write (by omega) hb1 hr1 (by omega) (fun _ a ha => by injection ha with ha; subst ha; show nx + 1 + 1 ≠ nx + 1; omega) (by omega)) (fun v x1 g1 l1 k1 hC => ?_) (by omega) (by omega)
  have F1 : ∀ p, p < nx → g1 p = gt p := fun p hp => by rw [k1 p (by omega) (by omega)]; simp only [upd_e]; rw [if_neg (by omega), if_neg (by omega), if_neg (by omega), if_neg (by omega)]
  have O1 : g1 nx = some (.cells ((List.replicate 32 (0 : UInt8)).map u8V) false) := by rw [k1 nx (by omega) (by omega)]; simp only [upd_e]; rw [if_neg (by omega), if_neg (by omega), if_neg (by omega), if_true]; rfl
  clear hb1 hr1 k1
  simp only [↓gaW, ↓gaV, ↓gaC, ↓gaN, gaP, Nat.reduceEqDiff, Nat.reduceLeDiff, Nat.reduceAdd, Nat.reduceSub, Nat.reduceMul, Int.reduceLT, Int.reduceLE, Int.reduceEq, Int.reduceToNat, Int.reduceAdd, Int.reduceSub, Int.reduceMul, reduceCtorEq, ↓reduceIte]
  have hq8 : (l.length : Int) * 8 = ((l.length * 8 : Nat) : Int) := by omega
  refine bloop_of (fun f m => ∃ (x : Nat) (g : Nat → Option Blk), f 0 = .pointer (some ⟨q, 0, none⟩) ∧ f 2 = .pointer (some ⟨nx, 0, none⟩) ∧ f 3 = .pointer (some ⟨nx + 1, 0, none⟩) ∧ m = ⟨x, b, g⟩ ∧ nx + 3 ≤ x ∧ (∀ p, p < nx → g p = gt p) ∧ g nx = some (.cells ((List.replicate 32 (0 : UInt8)).map u8V) false) ∧ HashB (l ++ 128 :: List.replicate (zs l.length) 0) (g (nx + 1))) (fun _ _ => False)
    (fun j f m => ∃ (t x : Nat) (g : Nat → Option Blk), j = zs l.length - t ∧ t ≤ zs l.length ∧ f 0 = .pointer (some ⟨q, 0, none⟩) ∧ f 2 = .pointer (some ⟨nx, 0, none⟩) ∧ f 3 = .pointer (some ⟨nx + 1, 0, none⟩) ∧ m = ⟨x, b, g⟩ ∧ nx + 3 ≤ x ∧ (∀ p, p < nx → g p = gt p) ∧ g nx = some (.cells ((List.replicate 32 (0 : UInt8)).map u8V) false) ∧ HashB (l ++ 128 :: List.replicate t 0) (g (nx + 1))) (zs l.length)
    ⟨0, x1, g1, by omega, by omega, rfl, rfl, rfl, rfl, l1, F1, O1, hC⟩ ?_ ?_ (fun _ _ h => h.elim)
  · intro SS hJ _ j f m
    rintro ⟨t, x, g, rfl, ht, f0, f2, f3, rfl, hx, hF, hO, W', R', hg', hI'⟩
    have hW' := hI'.wlen
    have hR' := hI'.len
    have hl2 : (l ++ 128 :: List.replicate t (0 : UInt8)).length = l.length + 1 + t := by simp; omega
    have hmany' := hcells_many (M := l.length + 1 + t) hW' hR'
    have hlen' := hcells_len (M := l.length + 1 + t) hW' hR'
    have hz : zs l.length = (119 - l.length % 64) % 64 := rfl
    have hgb : HashB (l ++ 128 :: List.replicate t 0) (g (nx + 1)) := ⟨W', R', hg', hI'⟩
    rw [hl2] at hg'
    have e1 : (((l.length + 1 + t : Nat) : Int)).tmod 64 = (((l.length + 1 + t) % 64 : Nat) : Int) := by rw [Int.tmod_eq_emod_of_nonneg (by omega)]; omega
    by_cases h56 : (((l.length + 1 + t) % 64 : Nat) : Int) = 56
    · have : t = zs l.length := by omega
      subst this
      simp only [↓gaW, ↓gaV, ↓gaC, ↓gaN, gaP, Nat.reduceEqDiff, Nat.reduceLeDiff, Nat.reduceAdd, Nat.reduceSub, Nat.reduceMul, Int.reduceLT, Int.reduceLE, Int.reduceEq, Int.reduceToNat, Int.reduceAdd, Int.reduceSub, Int.reduceMul, reduceCtorEq, ↓reduceIte, gaU, f3, hg', hmany', hlen', e1, h56, decide_true, Bool.not_true, Nat.zero_add]
      repeat refine And.intro (by first | omega | (simp; done) | (simp; omega) | exact all1 rfl) ?_
      exact hJ _ _ ⟨x, g, by simp only [↓gaW, ↓gaV, ↓gaC, ↓gaN, gaP, Nat.reduceEqDiff, Nat.reduceLeDiff, Nat.reduceAdd, Nat.reduceSub, Nat.reduceMul, Int.reduceLT, Int.reduceLE, Int.reduceEq, Int.reduceToNat, Int.reduceAdd, Int.reduceSub, Int.reduceMul, reduceCtorEq, ↓reduceIte, f0], by simp only [↓gaW, ↓gaV, ↓gaC, ↓gaN, gaP, Nat.reduceEqDiff, Nat.reduceLeDiff, Nat.reduceAdd, Nat.reduceSub, Nat.reduceMul, Int.reduceLT, Int.reduceLE, Int.reduceEq, Int.reduceToNat, Int.reduceAdd, Int.reduceSub, Int.reduceMul, reduceCtorEq, ↓reduceIte, f2], by simp only [↓gaW, ↓gaV, ↓gaC, ↓gaN, gaP, Nat.reduceEqDiff, Nat.reduceLeDiff, Nat.reduceAdd, Nat.reduceSub, Nat.reduceMul, Int.reduceLT, Int.reduceLE, Int.reduceEq, Int.reduceToNat, Int.reduceAdd, Int.reduceSub, Int.reduceMul, reduceCtorEq, ↓reduceIte, f3], rfl, hx, hF, hO, hgb⟩
    · have htz : t < zs l.length := by omega
      simp only [↓gaW, ↓gaV, ↓gaC, ↓gaN, gaP, Nat.reduceEqDiff, Nat.reduceLeDiff, Nat.reduceAdd, Nat.reduceSub, Nat.reduceMul, Int.reduceLT, Int.reduceLE, Int.reduceEq, Int.reduceToNat, Int.reduceAdd, Int.reduceSub, Int.reduceMul, reduceCtorEq, ↓reduceIte, List.getD_cons_zero, List.getD_cons_succ, fillL, splice, List.take_zero, List.drop_zero, List.drop_succ_cons, List.take_succ_cons, List.drop_nil, List.take_nil, gaU, f3, hg', hmany', hlen', e1, h56, decide_false, Bool.not_false, Nat.zero_add]
      repeat refine And.intro (by first | omega | (simp; done) | (simp; omega) | exact all1 rfl) ?_
      have hr2 : Row (x + 1) (upd g x (some (.cells [.int .u8 0] false))) 1 (some ⟨x, 0, none⟩) 1 (([0] : List UInt8).map u8V) := row8 (ro := false) (by omega) (by simp only [upd_e, if_true]; rfl) rfl
      refine callW_of (ct_Write (q := nx + 1) (l := l ++ 128 :: List.replicate t 0) (by omega) (by simp only [upd_e]; rw [if_neg (by omega)]; exact hgb) hr2 (by omega) (fun _ a ha => by injection ha with ha; subst ha; show x ≠ nx + 1; omega) (by rw [hl2]; omega)) (fun v x2 g2 l2 k2 hC => ?_) (by omega) (by omega)
      simp only [↓gaW, ↓gaV, ↓gaC, ↓gaN, gaP, Nat.reduceEqDiff, Nat.reduceLeDiff, Nat.reduceAdd, Nat.reduceSub, Nat.reduceMul, Int.reduceLT, Int.reduceLE, Int.reduceEq, Int.reduceToNat, Int.reduceAdd, Int.reduceSub, Int.reduceMul, reduceCtorEq, ↓reduceIte, loopK_n]
      refine ⟨zs l.length - (t + 1), by omega, t + 1, x2, g2, rfl, by omega, f0, f2, f3, rfl, by omega, fun p hp => ?_, ?_, ?_⟩
      · rw [k2 p (by omega) (by omega)]; simp only [upd_e]; rw [if_neg (by omega), hF p hp]
      · rw [k2 nx (by omega) (by omega)]; simp only [upd_e]; rw [if_neg (by omega), hO]
      · rw [List.append_assoc, List.cons_append, ← List.replicate_succ'] at hC
        exact hC
  · rintro f m ⟨x, g, f0, f2, f3, rfl, hx, hF, hO, hgb⟩
    have hgq : g q = some (.cells H false) := (hF q hq).trans hg
    simp only [↓gaW, ↓gaV, ↓gaC, ↓gaN, gaP, Nat.reduceEqDiff, Nat.reduceLeDiff, Nat.reduceAdd, Nat.reduceSub, Nat.reduceMul, Int.reduceLT, Int.reduceLE, Int.reduceEq, Int.reduceToNat, Int.reduceAdd, Int.reduceSub, Int.reduceMul, reduceCtorEq, ↓reduceIte, gaU, f0, hgq, hmany, hlen, hq8, u64_i ((l.length * 8 : Nat) : Int) (by omega), Nat.zero_add]
    repeat refine And.intro (by first | omega | (simp; done) | (simp; omega) | exact all1 rfl) ?_
    refine callK_of (ct_BytesF (n := l.length * 8) (many := 8) (by omega) (by omega)) (fun v x3 g3 l3 k3 hC => ?_) (by omega)
    obtain ⟨sl, rfl, hby, hnew⟩ := hC
    have hok : byOk (l.length * 8) 8 = true := by
      simp only [byOk]
      have : l.length * 8 < 256 ^ (8 : Int).toNat := by show _ < 256 ^ 8; omega
      simp [this]
      omega
    rw [hok] at hby ⊢
    obtain ⟨A8, n8, c8, rfl, hc8, hl8, hr8⟩ := hby
    have hn8 : n8 = 8 := by rw [← hl8]; simp [be]
    subst hn8
    have hgb3 : HashB (l ++ 128 :: List.replicate (zs l.length) 0) (g3 (nx + 1)) := by rw [k3 _ (by omega)]; exact hgb
    simp only [↓gaW, ↓gaV, ↓gaC, ↓gaN, gaP, Nat.reduceEqDiff, Nat.reduceLeDiff, Nat.reduceAdd, Nat.reduceSub, Nat.reduceMul, Int.reduceLT, Int.reduceLE, Int.reduceEq, Int.reduceToNat, Int.reduceAdd, Int.reduceSub, Int.reduceMul, reduceCtorEq, ↓reduceIte, f3]
    repeat refine And.intro (by first | omega | (simp; done) | (simp; omega) | exact all1 rfl) ?_
    have hl3' : (l ++ 128 :: List.replicate (zs l.length) (0 : UInt8)).length = l.length + 1 + zs l.length := by simp; omega
    have hz : zs l.length = (119 - l.length % 64) % 64 := rfl
    refine callW_of (ct_Write (q := nx + 1) (l := l ++ 128 :: List.replicate (zs l.length) 0) (by omega) hgb3 hr8 hc8 (fun _ a ha => by subst ha; have := hnew a _ _ rfl; omega) (by rw [hl3']; omega)) (fun v x4 g4 l4 k4 hC => ?_) (by omega) (by omega)
    have hpad : l ++ 128 :: List.replicate (zs l.length) 0 ++ be 8 (l.length * 8) = padS l := by
      rw [padS, Nat.mod_eq_of_lt (by omega), List.append_assoc, List.cons_append]; rfl
    rw [if_pos rfl, show ((8 : Int).toNat) = 8 from rfl, hpad] at hC
    obtain ⟨W2, R2, hg4, hI2⟩ := hC
    have hW2 := hI2.wlen
    have hlen4 := hcells_len (M := (padS l).length) hW2 hI2.len
    have F4 : ∀ p, p < nx → g4 p = gt p := fun p hp => by rw [k4 p (by omega) (by omega), k3 p (by omega), hF p hp]
    have O4 : g4 nx = some (.cells ((List.replicate 32 (0 : UInt8)).map u8V) false) := by rw [k4 nx (by omega) (by omega), k3 nx (by omega), hO]
    have hsha : sha l = outS W2 := by rw [sha, ← hI2.words]
    have hwd : ∀ i, i < 8 → (hcells W2 R2 (padS l).length).getD i undef = u32V (W2.getD i 0) := fun i hi => hcells_word hW2 hi
    rw [hsha]
    clear hpad hgb3 hr8 hnew k3 k4 hgb hgq
    generalize hcells W2 R2 (padS l).length = H4 at *
    have h3' : x4 ≠ nx := by omega
    simp only [↓gaW, ↓gaV, ↓gaC, ↓gaN, gaP, Nat.reduceEqDiff, Nat.reduceLeDiff, Nat.reduceAdd, Nat.reduceSub, Nat.reduceMul, Int.reduceLT, Int.reduceLE, Int.reduceEq, Int.reduceToNat, Int.reduceAdd, Int.reduceSub, Int.reduceMul, reduceCtorEq, ↓reduceIte]
    obtain ⟨g5, hg5⟩ : ∃ g, upd g4 x4 (some (.cells ((List.replicate 32 (0 : UInt8)).map u8V) false)) = g := ⟨_, rfl⟩
    refine loop_of (fun j f m => ∃ (t : Nat) (g : Nat → Option Blk), j = 32 - t ∧ t ≤ 32 ∧ f 2 = .pointer (some ⟨nx, 0, none⟩) ∧ f 3 = .pointer (some ⟨nx + 1, 0, none⟩) ∧ f 6 = .pointer (some ⟨x4, 0, none⟩) ∧ f 30 = .int .i64 (t : Nat) ∧ m = ⟨x4 + 1, b, g⟩ ∧ (∀ p, p < nx → g p = gt p) ∧ g nx = some (.cells ((List.replicate 32 (0 : UInt8)).map u8V) false) ∧ g (nx + 1) = some (.cells H4 false) ∧ g x4 = some (.cells (((outS W2).take t ++ List.replicate (32 - t) 0).map u8V) false)) 32
      ⟨0, _, by omega, by omega, by simp only [↓gaW, ↓gaV, ↓gaC, ↓gaN, gaP, Nat.reduceEqDiff, Nat.reduceLeDiff, Nat.reduceAdd, Nat.reduceSub, Nat.reduceMul, Int.reduceLT, Int.reduceLE, Int.reduceEq, Int.reduceToNat, Int.reduceAdd, Int.reduceSub, Int.reduceMul, reduceCtorEq, ↓reduceIte, f2], by simp only [↓gaW, ↓gaV, ↓gaC, ↓gaN, gaP, Nat.reduceEqDiff, Nat.reduceLeDiff, Nat.reduceAdd, Nat.reduceSub, Nat.reduceMul, Int.reduceLT, Int.reduceLE, Int.reduceEq, Int.reduceToNat, Int.reduceAdd, Int.reduceSub, Int.reduceMul, reduceCtorEq, ↓reduceIte, f3], by simp only [↓gaW, ↓gaV, ↓gaC, ↓gaN, gaP, Nat.reduceEqDiff, Nat.reduceLeDiff, Nat.reduceAdd, Nat.reduceSub, Nat.reduceMul, Int.reduceLT, Int.reduceLE, Int.reduceEq, Int.reduceToNat, Int.reduceAdd, Int.reduceSub, Int.reduceMul, reduceCtorEq, ↓reduceIte], by simp only [↓gaW, ↓gaV, ↓gaC, ↓gaN, gaP, Nat.reduceEqDiff, Nat.reduceLeDiff, Nat.reduceAdd, Nat.reduceSub, Nat.reduceMul, Int.reduceLT, Int.reduceLE, Int.reduceEq, Int.reduceToNat, Int.reduceAdd, Int.reduceSub, Int.reduceMul, reduceCtorEq, ↓reduceIte], rfl, fun p hp => by simp only [upd_e]; rw [if_neg (by omega), F4 p hp], by simp only [upd_e]; rw [if_neg (by omega), O4], by simp only [upd_e]; rw [if_neg (by omega), hg4], by simp only [upd_e, if_true]; rfl⟩ ?_
    rintro j f m ⟨t, g, rfl, ht, f2, f3, f6, f30, rfl, hF, hO, hgH, hgx⟩
    have hol := outS_len W2
    by_cases hlt : (t : Int) < 32
    · have ht32 : t < 32 := by omega
      have hst := fill8_step (l := outS W2) (n := 32) hol ht32
      rw [outS_get ht32] at hst
      have d1 : (t : Int).tdiv 4 = ((t / 4 : Nat) : Int) := by rw [Int.tdiv_eq_ediv_of_nonneg (by omega)]; omega
      have d2 : (t : Int).tmod 4 = ((t % 4 : Nat) : Int) := by rw [Int.tmod_eq_emod_of_nonneg (by omega)]; omega
      have d3 : ((t % 4 : Nat) : Int) * 8 = ((8 * (t % 4) : Nat) : Int) := by omega
      have d4 : (24 : Int) - ((8 * (t % 4) : Nat) : Int) = ((24 - 8 * (t % 4) : Nat) : Int) := by omega
      have d5 : shrV .u32 ((((W2.getD (t / 4) 0).toNat : Nat)) : Int) ((24 - 8 * (t % 4) : Nat) : Int) = (((W2.getD (t / 4) 0).toNat / 2 ^ (24 - 8 * (t % 4)) : Nat) : Int) := shr_nat (k := .u32) _ _ (by show _ ≤ 32; omega)
      have hc := hwd (t / 4) (by omega)
      have q1 : (t : Int) + 1 = ((t + 1 : Nat) : Int) := by omega
      have hu : ∀ n : Nat, Value.int .u8 (IntKind.u8.wrap (n : Int)) = u8V (UInt8.ofNat n) := fun n => by rw [u8_of]; rfl
      have hcl : ∀ v : UInt8, cellsV (u8V v) = some [u8V v] := fun _ => rfl
      simp only [u32V] at hc
      simp only [↓gaW, ↓gaV, ↓gaC, ↓gaN, gaP, Nat.reduceEqDiff, Nat.reduceLeDiff, Nat.reduceAdd, Nat.reduceSub, Nat.reduceMul, Int.reduceLT, Int.reduceLE, Int.reduceEq, Int.reduceToNat, Int.reduceAdd, Int.reduceSub, Int.reduceMul, reduceCtorEq, ↓reduceIte, gaU, f3, f6, f30, hlt, decide_true, hgH, hgx, d1, d2, d3, d4, d5, i64_w ((t / 4 : Nat) : Int) (by omega), i64_w ((8 * (t % 4) : Nat) : Int) (by omega), i64_w ((24 - 8 * (t % 4) : Nat) : Int) (by omega), Int.toNat_natCast, Nat.mul_one, Nat.zero_add, hc, hu, hcl, hst]
      repeat refine And.intro (by first | omega | (simp [hol]; omega) | exact all1 rfl) ?_
      simp only [↓gaW, ↓gaV, ↓gaC, ↓gaN, gaP, Nat.reduceEqDiff, Nat.reduceLeDiff, Nat.reduceAdd, Nat.reduceSub, Nat.reduceMul, Int.reduceLT, Int.reduceLE, Int.reduceEq, Int.reduceToNat, Int.reduceAdd, Int.reduceSub, Int.reduceMul, reduceCtorEq, ↓reduceIte, q1, i64_w ((t + 1 : Nat) : Int) (by omega), loopK_n]
      refine ⟨32 - (t + 1), by omega, t + 1, _, rfl, by omega, f2, f3, f6, rfl, rfl, fun p hp => ?_, ?_, ?_, by simp only [upd_e, if_true]⟩
      · simp only [upd_e]; rw [if_neg (by omega), hF p hp]
      · simp only [upd_e]; rw [if_neg (by omega), hO]
      · simp only [upd_e]; rw [if_neg (by omega), hgH]
    · have h32 : t = 32 := by omega
      subst h32
      rw [Nat.sub_self, List.replicate_zero, List.append_nil, List.take_of_length_le (by omega)] at hgx
      have hLl : ((outS W2).map u8V).length = 32 := by simp [hol]
      have hLa : ∀ v ∈ (outS W2).map u8V, cellVal v = true := all_u8 _
      generalize (outS W2).map u8V = L at *
      have htk2 : List.take 32 L = L := List.take_of_length_le (by omega)
      have hsp2 : splice ((List.replicate 32 (0 : UInt8)).map u8V) 0 L = L := by simp [splice, hLl]
      simp only [↓gaW, ↓gaV, ↓gaC, ↓gaN, gaP, Nat.reduceEqDiff, Nat.reduceLeDiff, Nat.reduceAdd, Nat.reduceSub, Nat.reduceMul, Int.reduceLT, Int.reduceLE, Int.reduceEq, Int.reduceToNat, Int.reduceAdd, Int.reduceSub, Int.reduceMul, reduceCtorEq, ↓reduceIte, gaU, f2, f6, f30, hlt, decide_false, loopK_e, hgx, hO, List.drop_zero, htk2, Nat.add_zero, hsp2]
      repeat refine And.intro (by first | omega | (simp [hLl]; done) | exact hLa) ?_
      refine end_cN (q := nx) (ro := false) L (by simp only [↓gaW, ↓gaV, ↓gaC, ↓gaN, gaP, Nat.reduceEqDiff, Nat.reduceLeDiff, Nat.reduceAdd, Nat.reduceSub, Nat.reduceMul, Int.reduceLT, Int.reduceLE, Int.reduceEq, Int.reduceToNat, Int.reduceAdd, Int.reduceSub, Int.reduceMul, reduceCtorEq, ↓reduceIte, f2]) (by simp only [upd_e, if_true]) hLl ⟨rfl, by omega, fun p hp => ?_, rfl⟩
      simp only [upd_e]; rw [if_neg (by omega), hF p hp]

theorem ct_Of {A : Option Addr} {n c : Nat} {l : List UInt8} (hA : Row nx gt 1 A n (l.map u8V)) (hc : n ≤ c) (hn : n < 10000000000) :
    Ct Try.prog 16 [.slice A n c] nx gt fun v _ _ => v = .agg ((sha l).map u8V).toArray := by
  have hl : l.length = n := by simpa using hA.len
  refine Ct.of hmx r_sha_Of (by simp [c_sha_Of]) fun b hb => ?_
  simp only [c_sha_Of, ↓gaW, ↓gaV, ↓gaC, ↓gaN, gaP, Nat.reduceEqDiff, Nat.reduceLeDiff, Nat.reduceAdd, Nat.reduceSub, Nat.reduceMul, Int.reduceLT, Int.reduceLE, Int.reduceEq, Int.reduceToNat, Int.reduceAdd, Int.reduceSub, Int.reduceMul, reduceCtorEq, ↓reduceIte]
  refine callK_of ct_New (fun v x1 g1 l1 k1 hC => ?_) (by omega)
  obtain ⟨rfl, rfl, hg1⟩ := hC
  have F1 : ∀ p, p < nx → g1 p = gt p := fun p hp => by rw [k1 p (by omega)]; simp only [upd_e]; rw [if_neg (by omega)]
  have O1 : g1 nx = some (.cells ((List.replicate 32 (0 : UInt8)).map u8V) false) := by rw [k1 nx (by omega)]; simp only [upd_e, if_true]; rfl
  have hA1 := hA.keep (nx' := nx + 1 + 1) (by omega) F1
  have hb1 : HashB [] (g1 (nx + 1)) := ⟨ivs, List.replicate 64 0, hg1, .new⟩
  have hne : 0 < n → ∀ a, A = some a → a.block ≠ nx + 1 := fun h0 a ha => by
    obtain ⟨a', _, _, e1, e2, _⟩ := hA.cells h0
    rw [ha] at e1
    injection e1 with e1
    subst e1
    omega
  simp only [↓gaW, ↓gaV, ↓gaC, ↓gaN, gaP, Nat.reduceEqDiff, Nat.reduceLeDiff, Nat.reduceAdd, Nat.reduceSub, Nat.reduceMul, Int.reduceLT, Int.reduceLE, Int.reduceEq, Int.reduceToNat, Int.reduceAdd, Int.reduceSub, Int.reduceMul, reduceCtorEq, ↓reduceIte]
  refine callW_of (ct_Write (by omega) hb1 hA1 hc hne (by simp; omega)) (fun v x2 g2 l2 k2 hC => ?_) (by omega) (by omega)
  rw [List.nil_append] at hC
  simp only [↓gaW, ↓gaV, ↓gaC, ↓gaN, gaP, Nat.reduceEqDiff, Nat.reduceLeDiff, Nat.reduceAdd, Nat.reduceSub, Nat.reduceMul, Int.reduceLT, Int.reduceLE, Int.reduceEq, Int.reduceToNat, Int.reduceAdd, Int.reduceSub, Int.reduceMul, reduceCtorEq, ↓reduceIte]
  refine callK_of (ct_Sum (by omega) hC (by omega)) (fun v x3 g3 l3 k3 hC => ?_) (by omega)
  subst hC
  have F3 : ∀ p, p < nx → g3 p = gt p := fun p hp => by rw [k3 p (by omega), k2 p (by omega) (by omega), F1 p hp]
  have O3 : g3 nx = some (.cells ((List.replicate 32 (0 : UInt8)).map u8V) false) := by rw [k3 nx (by omega), k2 nx (by omega) (by omega), O1]
  have hLl : ((sha l).map u8V).length = 32 := by simp [sha, outS_len]
  have hLa : ∀ v ∈ (sha l).map u8V, cellVal v = true := all_u8 _
  generalize (sha l).map u8V = L at *
  have hsp2 : splice ((List.replicate 32 (0 : UInt8)).map u8V) 0 L = L := by simp [splice, hLl]
  simp only [↓gaW, ↓gaV, ↓gaC, ↓gaN, gaP, Nat.reduceEqDiff, Nat.reduceLeDiff, Nat.reduceAdd, Nat.reduceSub, Nat.reduceMul, Int.reduceLT, Int.reduceLE, Int.reduceEq, Int.reduceToNat, Int.reduceAdd, Int.reduceSub, Int.reduceMul, reduceCtorEq, ↓reduceIte, gaU, O3, Nat.add_zero, hsp2]
  repeat refine And.intro (by first | omega | (simp [hLl]; done) | exact hLa) ?_
  refine end_cN (q := nx) (ro := false) L (by simp only [↓gaW, ↓gaV, ↓gaC, ↓gaN, gaP, Nat.reduceEqDiff, Nat.reduceLeDiff, Nat.reduceAdd, Nat.reduceSub, Nat.reduceMul, Int.reduceLT, Int.reduceLE, Int.reduceEq, Int.reduceToNat, Int.reduceAdd, Int.reduceSub, Int.reduceMul, reduceCtorEq, ↓reduceIte]) (by simp only [upd_e, if_true]) hLl ⟨rfl, by omega, fun p hp => ?_, rfl⟩
  simp only [upd_e]; rw [if_neg (by omega), F3 p hp]
end
end Go.Ga

namespace Go.Ga
open Go Go.Proofs
set_option linter.unusedSimpArgs false
set_option linter.unusedVariables false
set_option maxRecDepth 100000
attribute [local irreducible] appendK endK endW sch comp rs

def thrA : RC :=
  (.seq
  (.ops [] [
  ⟨(some 6), (.op (.mv (.k (.int .i64 0)))), none⟩])
  (.block 0
  (.loop
  (.seq
  (.seq
  (.ops [] [
  ⟨(some 20), (.op (.mv (.t 6))), none⟩,
  ⟨(some 21), (.op (.bin .lss (.t 20) (.k (.int .i64 16)))), none⟩])
  (.cond (.t 21)
  .skip
  (.exit 0)))
  (.seq
  (.block 1
  (.seq
  (.ops [] [
  ⟨(some 25), (.op (.mv (.t 1))), none⟩,
  ⟨(some 26), (.op (.mv (.t 6))), none⟩,
  ⟨(some 27), (.op (.bin .mul (.k (.int .i64 4)) (.t 26))), none⟩,
  ⟨(some 28), (.op (.mv (.t 6))), none⟩,
  ⟨(some 29), (.op (.bin .mul (.k (.int .i64 4)) (.t 28))), none⟩,
  ⟨(some 30), (.op (.bin .add (.t 29) (.k (.int .i64 4)))), none⟩,
  ⟨(some 31), (.op (.sl 1 (.t 25) (some (.t 27)) (some (.t 30)) none)), none⟩,
  ⟨(some 32), (.call (.k (.func (.func 63) #[] #[])) [(.t 31)]), none⟩,
  ⟨(some 24), (.op (.mv (.t 32))), none⟩,
  ⟨(some 33), (.op (.extract (.t 24) 0)), none⟩,
  ⟨(some 34), (.op (.extract (.t 24) 1)), none⟩,
  ⟨(some 7), (.op (.mv (.t 33))), none⟩,
  ⟨(some 8), (.op (.mv (.t 34))), none⟩])
  (.ops [] [
  ⟨(some 35), (.op (.mv (.t 6))), none⟩,
  ⟨(some 36), (.op (.mv (.t 7))), none⟩,
  ⟨(some 37), (.op (.toInt .u32 (.t 36))), none⟩,
  ⟨(some 38), (.op (.ixAddrA 64 1 (.t 5) (.t 35))), none⟩,
  ⟨none, (.op (.store 1 (.t 38) (.t 37))), none⟩])))
  (.ops [] [
  ⟨(some 22), (.op (.mv (.t 6))), none⟩,
  ⟨(some 23), (.op (.bin .add (.t 22) (.k (.int .i64 1)))), none⟩,
  ⟨(some 6), (.op (.mv (.t 23))), none⟩]))))))
def thrB : RC :=
  (.seq
  (.ops [] [
  ⟨(some 9), (.op (.mv (.k (.int .i64 16)))), none⟩])
  (.block 2
  (.loop
  (.seq
  (.seq
  (.ops [] [
  ⟨(some 39), (.op (.mv (.t 9))), none⟩,
  ⟨(some 40), (.op (.bin .lss (.t 39) (.k (.int .i64 64)))), none⟩])
  (.cond (.t 40)
  .skip
  (.exit 2)))
  (.seq
  (.block 3
  (.seq
  (.ops [] [
  ⟨(some 43), (.op (.mv (.t 9))), none⟩,
  ⟨(some 44), (.op (.bin .sub (.t 43) (.k (.int .i64 15)))), none⟩,
  ⟨(some 45), (.op (.ixAddrA 64 1 (.t 5) (.t 44))), none⟩,
  ⟨(some 46), (.op (.load1 (.t 45))), none⟩,
  ⟨(some 10), (.op (.mv (.t 46))), none⟩])
  (.seq
  (.ops [] [
  ⟨(some 47), (.op (.mv (.t 9))), none⟩,
  ⟨(some 48), (.op (.bin .sub (.t 47) (.k (.int .i64 2)))), none⟩,
  ⟨(some 49), (.op (.ixAddrA 64 1 (.t 5) (.t 48))), none⟩,
  ⟨(some 50), (.op (.load1 (.t 49))), none⟩,
  ⟨(some 11), (.op (.mv (.t 50))), none⟩])
  (.ops [
  ⟨(some 51), (.op (.mv (.t 9))), none⟩,
  ⟨(some 52), (.op (.mv (.t 9))), none⟩,
  ⟨(some 53), (.op (.bin .sub (.t 52) (.k (.int .i64 16)))), none⟩,
  ⟨(some 54), (.op (.ixAddrA 64 1 (.t 5) (.t 53))), none⟩,
  ⟨(some 55), (.op (.load1 (.t 54))), none⟩,
  ⟨(some 56), (.op (.mv (.t 10))), none⟩,
  ⟨(some 57), (.call (.k (.func (.func 64) #[] #[])) [(.t 56), (.k (.int .i64 7))]), none⟩,
  ⟨(some 58), (.op (.mv (.t 10))), none⟩,
  ⟨(some 59), (.call (.k (.func (.func 64) #[] #[])) [(.t 58), (.k (.int .i64 18))]), none⟩,
  ⟨(some 60), (.op (.bin .xor (.t 57) (.t 59))), none⟩,
  ⟨(some 61), (.op (.mv (.t 10))), none⟩,
  ⟨(some 62), (.op (.bin .shr (.t 61) (.k (.int .u64 3)))), none⟩,
  ⟨(some 63), (.op (.bin .xor (.t 60) (.t 62))), none⟩,
  ⟨(some 64), (.op (.bin .add (.t 55) (.t 63))), none⟩,
  ⟨(some 65), (.op (.mv (.t 9))), none⟩,
  ⟨(some 66), (.op (.bin .sub (.t 65) (.k (.int .i64 7)))), none⟩,
  ⟨(some 67), (.op (.ixAddrA 64 1 (.t 5) (.t 66))), none⟩,
  ⟨(some 68), (.op (.load1 (.t 67))), none⟩,
  ⟨(some 69), (.op (.bin .add (.t 64) (.t 68))), none⟩,
  ⟨(some 70), (.op (.mv (.t 11))), none⟩,
  ⟨(some 71), (.call (.k (.func (.func 64) #[] #[])) [(.t 70), (.k (.int .i64 17))]), none⟩,
  ⟨(some 72), (.op (.mv (.t 11))), none⟩,
  ⟨(some 73), (.call (.k (.func (.func 64) #[] #[])) [(.t 72), (.k (.int .i64 19))]), none⟩,
  ⟨(some 74), (.op (.bin .xor (.t 71) (.t 73))), none⟩,
  ⟨(some 75), (.op (.mv (.t 11))), none⟩,
  ⟨(some 76), (.op (.bin .shr (.t 75) (.k (.int .u64 10)))), none⟩,
  ⟨(some 77), (.op (.bin .xor (.t 74) (.t 76))), none⟩,
  ⟨(some 78), (.op (.bin .add (.t 69) (.t 77))), none⟩] [
  ⟨(some 79), (.op (.ixAddrA 64 1 (.t 5) (.t 51))), none⟩,
  ⟨none, (.op (.store 1 (.t 79) (.t 78))), none⟩]))))
  (.ops [] [
  ⟨(some 41), (.op (.mv (.t 9))), none⟩,
  ⟨(some 42), (.op (.bin .add (.t 41) (.k (.int .i64 1)))), none⟩,
  ⟨(some 9), (.op (.mv (.t 42))), none⟩]))))))
def thrC : RC :=
  (.seq
  (.ops [] [
  ⟨(some 14), (.op (.mv (.k (.int .i64 0)))), none⟩])
  (.block 4
  (.loop
  (.seq
  (.seq
  (.ops [] [
  ⟨(some 84), (.op (.mv (.t 14))), none⟩,
  ⟨(some 85), (.op (.bin .lss (.t 84) (.k (.int .i64 64)))), none⟩])
  (.cond (.t 85)
  .skip
  (.exit 4)))
  (.seq
  (.block 5
  (.seq
  (.ops [] [
  ⟨(some 88), (.op (.mv (.t 13))), none⟩,
  ⟨(some 89), (.op (.ixAddr 1 (.t 88) (.k (.int .i64 4)))), none⟩,
  ⟨(some 90), (.op (.load1 (.t 89))), none⟩,
  ⟨(some 15), (.op (.mv (.t 90))), none⟩])
  (.seq
  (.ops [] [
  ⟨(some 91), (.op (.mv (.t 13))), none⟩,
  ⟨(some 92), (.op (.ixAddr 1 (.t 91) (.k (.int .i64 0)))), none⟩,
  ⟨(some 93), (.op (.load1 (.t 92))), none⟩,
  ⟨(some 16), (.op (.mv (.t 93))), none⟩])
  (.seq
  (.ops [
  ⟨(some 94), (.op (.mv (.t 13))), none⟩,
  ⟨(some 95), (.op (.ixAddr 1 (.t 94) (.k (.int .i64 7)))), none⟩,
  ⟨(some 96), (.op (.load1 (.t 95))), none⟩,
  ⟨(some 97), (.op (.mv (.t 15))), none⟩,
  ⟨(some 98), (.call (.k (.func (.func 64) #[] #[])) [(.t 97), (.k (.int .i64 6))]), none⟩,
  ⟨(some 99), (.op (.mv (.t 15))), none⟩,
  ⟨(some 100), (.call (.k (.func (.func 64) #[] #[])) [(.t 99), (.k (.int .i64 11))]), none⟩,
  ⟨(some 101), (.op (.bin .xor (.t 98) (.t 100))), none⟩,
  ⟨(some 102), (.op (.mv (.t 15))), none⟩,
  ⟨(some 103), (.call (.k (.func (.func 64) #[] #[])) [(.t 102), (.k (.int .i64 25))]), none⟩,
  ⟨(some 104), (.op (.bin .xor (.t 101) (.t 103))), none⟩,
  ⟨(some 105), (.op (.bin .add (.t 96) (.t 104))), none⟩,
  ⟨(some 106), (.op (.mv (.t 15))), none⟩,
  ⟨(some 107), (.op (.mv (.t 13))), none⟩,
  ⟨(some 108), (.op (.ixAddr 1 (.t 107) (.k (.int .i64 5)))), none⟩,
  ⟨(some 109), (.op (.load1 (.t 108))), none⟩,
  ⟨(some 110), (.op (.bin .and (.t 106) (.t 109))), none⟩,
  ⟨(some 111), (.op (.mv (.t 15))), none⟩,
  ⟨(some 112), (.op (.un .xor (.t 111))), none⟩,
  ⟨(some 113), (.op (.mv (.t 13))), none⟩,
  ⟨(some 114), (.op (.ixAddr 1 (.t 113) (.k (.int .i64 6)))), none⟩,
  ⟨(some 115), (.op (.load1 (.t 114))), none⟩,
  ⟨(some 116), (.op (.bin .and (.t 112) (.t 115))), none⟩,
  ⟨(some 117), (.op (.bin .or (.t 110) (.t 116))), none⟩,
  ⟨(some 118), (.op (.bin .add (.t 105) (.t 117))), none⟩,
  ⟨(some 119), (.op (.mv (.t 12))), none⟩,
  ⟨(some 120), (.op (.mv (.t 14))), none⟩,
  ⟨(some 121), (.op (.ixAddr 1 (.t 119) (.t 120))), none⟩,
  ⟨(some 122), (.op (.load1 (.t 121))), none⟩,
  ⟨(some 123), (.op (.bin .add (.t 118) (.t 122))), none⟩,
  ⟨(some 124), (.op (.mv (.t 14))), none⟩,
  ⟨(some 125), (.op (.ixAddrA 64 1 (.t 5) (.t 124))), none⟩,
  ⟨(some 126), (.op (.load1 (.t 125))), none⟩] [
  ⟨(some 127), (.op (.bin .add (.t 123) (.t 126))), none⟩,
  ⟨(some 17), (.op (.mv (.t 127))), none⟩])
  (.seq
  (.ops [
  ⟨(some 128), (.op (.mv (.t 16))), none⟩,
  ⟨(some 129), (.call (.k (.func (.func 64) #[] #[])) [(.t 128), (.k (.int .i64 2))]), none⟩,
  ⟨(some 130), (.op (.mv (.t 16))), none⟩,
  ⟨(some 131), (.call (.k (.func (.func 64) #[] #[])) [(.t 130), (.k (.int .i64 13))]), none⟩,
  ⟨(some 132), (.op (.bin .xor (.t 129) (.t 131))), none⟩,
  ⟨(some 133), (.op (.mv (.t 16))), none⟩,
  ⟨(some 134), (.call (.k (.func (.func 64) #[] #[])) [(.t 133), (.k (.int .i64 22))]), none⟩,
  ⟨(some 135), (.op (.bin .xor (.t 132) (.t 134))), none⟩,
  ⟨(some 136), (.op (.mv (.t 16))), none⟩,
  ⟨(some 137), (.op (.mv (.t 13))), none⟩,
  ⟨(some 138), (.op (.ixAddr 1 (.t 137) (.k (.int .i64 1)))), none⟩,
  ⟨(some 139), (.op (.load1 (.t 138))), none⟩,
  ⟨(some 140), (.op (.bin .and (.t 136) (.t 139))), none⟩,
  ⟨(some 141), (.op (.mv (.t 16))), none⟩,
  ⟨(some 142), (.op (.mv (.t 13))), none⟩,
  ⟨(some 143), (.op (.ixAddr 1 (.t 142) (.k (.int .i64 2)))), none⟩,
  ⟨(some 144), (.op (.load1 (.t 143))), none⟩,
  ⟨(some 145), (.op (.bin .and (.t 141) (.t 144))), none⟩,
  ⟨(some 146), (.op (.bin .or (.t 140) (.t 145))), none⟩,
  ⟨(some 147), (.op (.mv (.t 13))), none⟩,
  ⟨(some 148), (.op (.ixAddr 1 (.t 147) (.k (.int .i64 1)))), none⟩,
  ⟨(some 149), (.op (.load1 (.t 148))), none⟩,
  ⟨(some 150), (.op (.mv (.t 13))), none⟩,
  ⟨(some 151), (.op (.ixAddr 1 (.t 150) (.k (.int .i64 2)))), none⟩,
  ⟨(some 152), (.op (.load1 (.t 151))), none⟩,
  ⟨(some 153), (.op (.bin .and (.t 149) (.t 152))), none⟩,
  ⟨(some 154), (.op (.bin .or (.t 146) (.t 153))), none⟩] [
  ⟨(some 155), (.op (.bin .add (.t 135) (.t 154))), none⟩,
  ⟨(some 18), (.op (.mv (.t 155))), none⟩])
  (.ops [
  ⟨(some 156), (.op (.mv (.t 17))), none⟩,
  ⟨(some 157), (.op (.mv (.t 18))), none⟩,
  ⟨(some 158), (.op (.bin .add (.t 156) (.t 157))), none⟩,
  ⟨(some 159), (.op (.mv (.t 13))), none⟩,
  ⟨(some 160), (.op (.ixAddr 1 (.t 159) (.k (.int .i64 0)))), none⟩,
  ⟨(some 161), (.op (.load1 (.t 160))), none⟩,
  ⟨(some 162), (.op (.mv (.t 13))), none⟩,
  ⟨(some 163), (.op (.ixAddr 1 (.t 162) (.k (.int .i64 1)))), none⟩,
  ⟨(some 164), (.op (.load1 (.t 163))), none⟩,
  ⟨(some 165), (.op (.mv (.t 13))), none⟩,
  ⟨(some 166), (.op (.ixAddr 1 (.t 165) (.k (.int .i64 2)))), none⟩,
  ⟨(some 167), (.op (.load1 (.t 166))), none⟩,
  ⟨(some 168), (.op (.mv (.t 13))), none⟩,
  ⟨(some 169), (.op (.ixAddr 1 (.t 168) (.k (.int .i64 3)))), none⟩,
  ⟨(some 170), (.op (.load1 (.t 169))), none⟩,
  ⟨(some 171), (.op (.mv (.t 17))), none⟩,
  ⟨(some 172), (.op (.bin .add (.t 170) (.t 171))), none⟩,
  ⟨(some 173), (.op (.mv (.t 13))), none⟩,
  ⟨(some 174), (.op (.ixAddr 1 (.t 173) (.k (.int .i64 4)))), none⟩,
  ⟨(some 175), (.op (.load1 (.t 174))), none⟩,
  ⟨(some 176), (.op (.mv (.t 13))), none⟩,
  ⟨(some 177), (.op (.ixAddr 1 (.t 176) (.k (.int .i64 5)))), none⟩,
  ⟨(some 178), (.op (.load1 (.t 177))), none⟩,
  ⟨(some 179), (.op (.mv (.t 13))), none⟩,
  ⟨(some 180), (.op (.ixAddr 1 (.t 179) (.k (.int .i64 6)))), none⟩,
  ⟨(some 181), (.op (.load1 (.t 180))), none⟩] [
  ⟨(some 182), (.op (.mkSl 8 [(.int .u32 0), (.int .u32 0), (.int .u32 0), (.int .u32 0), (.int .u32 0), (.int .u32 0), (.int .u32 0), (.int .u32 0)] [(0, (1, (.t 158))), (1, (1, (.t 161))), (2, (1, (.t 164))), (3, (1, (.t 167))), (4, (1, (.t 172))), (5, (1, (.t 175))), (6, (1, (.t 178))), (7, (1, (.t 181)))])), none⟩,
  ⟨(some 13), (.op (.mv (.t 182))), none⟩]))))))
  (.ops [] [
  ⟨(some 86), (.op (.mv (.t 14))), none⟩,
  ⟨(some 87), (.op (.bin .add (.t 86) (.k (.int .i64 1)))), none⟩,
  ⟨(some 14), (.op (.mv (.t 87))), none⟩]))))))
def thrD : RC :=
  (.seq
  (.ops [] [
  ⟨(some 19), (.op (.mv (.k (.int .i64 0)))), none⟩])
  (.block 6
  (.loop
  (.seq
  (.seq
  (.ops [] [
  ⟨(some 183), (.op (.mv (.t 19))), none⟩,
  ⟨(some 184), (.op (.bin .lss (.t 183) (.k (.int .i64 8)))), none⟩])
  (.cond (.t 184)
  .skip
  (.exit 6)))
  (.seq
  (.block 7
  (.ops [
  ⟨(some 187), (.op (.mv (.t 13))), none⟩,
  ⟨(some 188), (.op (.mv (.t 19))), none⟩,
  ⟨(some 189), (.op (.mv (.t 13))), none⟩,
  ⟨(some 190), (.op (.mv (.t 19))), none⟩,
  ⟨(some 191), (.op (.ixAddr 1 (.t 189) (.t 190))), none⟩,
  ⟨(some 192), (.op (.load1 (.t 191))), none⟩,
  ⟨(some 193), (.op (.mv (.t 0))), none⟩,
  ⟨(some 194), (.op (.mv (.t 19))), none⟩,
  ⟨(some 195), (.op (.ixAddr 1 (.t 193) (.t 194))), none⟩,
  ⟨(some 196), (.op (.load1 (.t 195))), none⟩,
  ⟨(some 197), (.op (.bin .add (.t 192) (.t 196))), none⟩] [
  ⟨(some 198), (.op (.ixAddr 1 (.t 187) (.t 188))), none⟩,
  ⟨none, (.op (.store 1 (.t 198) (.t 197))), none⟩]))
  (.ops [] [
  ⟨(some 185), (.op (.mv (.t 19))), none⟩,
  ⟨(some 186), (.op (.bin .add (.t 185) (.k (.int .i64 1)))), none⟩,
  ⟨(some 19), (.op (.mv (.t 186))), none⟩]))))))

theorem sch_succ (R : List UInt8) (t : Nat) : sch R (t + 1) = sch R t ++ [wnext R t (sch R t)] := by
  conv => lhs; unfold sch

theorem four {R : List UInt8} {t : Nat} (h : 4 * t + 4 ≤ R.length) : (R.drop (4 * t)).take 4 = [R.getD (4 * t) 0, R.getD (4 * t + 1) 0, R.getD (4 * t + 2) 0, R.getD (4 * t + 3) 0] := by
  have g : ∀ i, i < R.length → R.drop i = R.getD i 0 :: R.drop (i + 1) := fun i hi => by
    rw [List.drop_eq_getElem_cons hi, List.getD_eq_getElem?_getD, List.getElem?_eq_getElem hi]; rfl
  rw [g _ (by omega), g _ (by omega), g _ (by omega), g _ (by omega)]
  rfl

section
variable {f : Regs} {x b q : Nat} {g : Nat → Option Blk} {s : Stk}

theorem thrA_of {B : Option Addr} {d : Nat} {R : List UInt8} (hbx : b ≤ x) (hb : b ≤ q) (hq : q < x) (f1 : f 1 = .slice B 64 d) (hd : 64 ≤ d) (hB : Row x g 1 B 64 (R.map u8V)) (hBq : ∀ a, B = some a → a.block ≠ q) (f5 : f 5 = .pointer (some ⟨q, 0, none⟩)) (gq : g q = some (.cells ((List.replicate 64 (0 : UInt32)).map u32V) false))
    (K : ∀ (f' : Regs) (x' : Nat) (g' : Nat → Option Blk), f' 0 = f 0 → f' 5 = f 5 → x ≤ x' → (∀ p, p < x → p ≠ q → g' p = g p) → g' q = some (.cells ((sch R 16 ++ List.replicate (64 - 16) 0).map u32V) false) → D Try.prog s .normal f' ⟨x', b, g'⟩) :
    RC.vc Try.prog thrA f ⟨x, b, g⟩ (D Try.prog s) := by
  have hR : R.length = 64 := by simpa using hB.len
  simp only [thrA, ↓gaW, ↓gaV, ↓gaC, ↓gaN, gaP, Nat.reduceEqDiff, Nat.reduceLeDiff, Nat.reduceAdd, Nat.reduceSub, Nat.reduceMul, Int.reduceLT, Int.reduceLE, Int.reduceEq, Int.reduceToNat, Int.reduceAdd, Int.reduceSub, Int.reduceMul, reduceCtorEq, ↓reduceIte]
  refine loop_of (fun j f' m => ∃ (t x' : Nat) (g' : Nat → Option Blk), j = 16 - t ∧ t ≤ 16 ∧ f' 0 = f 0 ∧ f' 1 = .slice B 64 d ∧ f' 5 = .pointer (some ⟨q, 0, none⟩) ∧ f' 6 = .int .i64 (t : Nat) ∧ m = ⟨x', b, g'⟩ ∧ x ≤ x' ∧ (∀ p, p < x → p ≠ q → g' p = g p) ∧ g' q = some (.cells ((sch R t ++ List.replicate (64 - t) 0).map u32V) false)) 16
    ⟨0, x, g, by omega, by omega, by simp only [↓gaW, ↓gaV, ↓gaC, ↓gaN, gaP, Nat.reduceEqDiff, Nat.reduceLeDiff, Nat.reduceAdd, Nat.reduceSub, Nat.reduceMul, Int.reduceLT, Int.reduceLE, Int.reduceEq, Int.reduceToNat, Int.reduceAdd, Int.reduceSub, Int.reduceMul, reduceCtorEq, ↓reduceIte], by simp only [↓gaW, ↓gaV, ↓gaC, ↓gaN, gaP, Nat.reduceEqDiff, Nat.reduceLeDiff, Nat.reduceAdd, Nat.reduceSub, Nat.reduceMul, Int.reduceLT, Int.reduceLE, Int.reduceEq, Int.reduceToNat, Int.reduceAdd, Int.reduceSub, Int.reduceMul, reduceCtorEq, ↓reduceIte, f1], by simp only [↓gaW, ↓gaV, ↓gaC, ↓gaN, gaP, Nat.reduceEqDiff, Nat.reduceLeDiff, Nat.reduceAdd, Nat.reduceSub, Nat.reduceMul, Int.reduceLT, Int.reduceLE, Int.reduceEq, Int.reduceToNat, Int.reduceAdd, Int.reduceSub, Int.reduceMul, reduceCtorEq, ↓reduceIte, f5], by simp only [↓gaW, ↓gaV, ↓gaC, ↓gaN, gaP, Nat.reduceEqDiff, Nat.reduceLeDiff, Nat.reduceAdd, Nat.reduceSub, Nat.reduceMul, Int.reduceLT, Int.reduceLE, Int.reduceEq, Int.reduceToNat, Int.reduceAdd, Int.reduceSub, Int.reduceMul, reduceCtorEq, ↓reduceIte], rfl, by omega, fun _ _ _ => rfl, by unfold sch; exact gq⟩ ?_
  rintro j f' m ⟨t, x', g', rfl, ht, f0', f1', f5', f6', rfl, hx, hF, hgq⟩
  have hsl := sch_len R t
  by_cases hlt : (t : Int) < 16
  · have e0 : (4 : Int) * (t : Int) = ((4 * t : Nat) : Int) := by omega
    have e1 : ((4 * t : Nat) : Int) + 4 = ((4 * t + 4 : Nat) : Int) := by omega
    obtain ⟨a, ce, ro, rfl, p1, p2, _⟩ := hB.cells (by omega)
    have hsp := hB.spot a rfl
    have hB' := hB.keepA hx (gt' := g') (fun _ a' ha => by injection ha with ha; subst ha; exact hF _ p1 (hBq a rfl))
    have hpart := hB'.part (lo := 4 * t) (hi := 4 * t + 4) (by omega) (by omega) rfl
    rw [show 4 * t + 4 - 4 * t = 4 by omega, ← List.map_drop, ← List.map_take, four (by omega)] at hpart
    have e2 : (((4 * t + 4 : Nat) : Int) - ((4 * t : Nat) : Int)).toNat = 4 := by omega
    have b0 := (R.getD (4 * t) 0).toNat_lt
    have b1 := (R.getD (4 * t + 1) 0).toNat_lt
    have b2 := (R.getD (4 * t + 2) 0).toNat_lt
    have b3 := (R.getD (4 * t + 3) 0).toNat_lt
    have hw : wnext R t (sch R t) = UInt32.ofNat ((((R.getD (4 * t) 0).toNat * 256 + (R.getD (4 * t + 1) 0).toNat) * 256 + (R.getD (4 * t + 2) 0).toNat) * 256 + (R.getD (4 * t + 3) 0).toNat) := by
      rw [wnext, if_pos (by omega)]; rfl
    have hval : val [R.getD (4 * t) 0, R.getD (4 * t + 1) 0, R.getD (4 * t + 2) 0, R.getD (4 * t + 3) 0] = (((R.getD (4 * t) 0).toNat * 256 + (R.getD (4 * t + 1) 0).toNat) * 256 + (R.getD (4 * t + 2) 0).toNat) * 256 + (R.getD (4 * t + 3) 0).toNat := by
      simp [val, valFrom]
    simp only [↓gaW, ↓gaV, ↓gaC, ↓gaN, gaP, Nat.reduceEqDiff, Nat.reduceLeDiff, Nat.reduceAdd, Nat.reduceSub, Nat.reduceMul, Int.reduceLT, Int.reduceLE, Int.reduceEq, Int.reduceToNat, Int.reduceAdd, Int.reduceSub, Int.reduceMul, reduceCtorEq, ↓reduceIte, gaU, f1', f6', hlt, decide_true, e0, e1, i64_w ((4 * t : Nat) : Int) (by omega), i64_w ((4 * t + 4 : Nat) : Int) (by omega), Int.toNat_natCast, Nat.mul_one, e2]
    repeat refine And.intro (by first | omega | (rcases hsp with h | h <;> simp [h]; done)) ?_
    refine callK_of (ct_rNum hpart (by omega)) (fun v x2 g2 l2 k2 hC => ?_) (by omega)
    rw [numV, hval, if_pos (by omega)] at hC
    subst hC
    have hst := fill_step (w := wnext R t (sch R t)) hsl (by omega)
    obtain ⟨N, hN⟩ : ∃ N, (((R.getD (4 * t) 0).toNat * 256 + (R.getD (4 * t + 1) 0).toNat) * 256 + (R.getD (4 * t + 2) 0).toNat) * 256 + (R.getD (4 * t + 3) 0).toNat = N := ⟨_, rfl⟩
    have hN32 : N < 4294967296 := by omega
    rw [hN] at hw
    have hv : Value.int .u32 ((N : Nat) : Int) = u32V (wnext R t (sch R t)) := by rw [hw, ← u32V_lt hN32]
    have q1 : (t : Int) + 1 = ((t + 1 : Nat) : Int) := by omega
    have hgq2 : g2 q = some (.cells ((sch R t ++ List.replicate (64 - t) 0).map u32V) false) := by rw [k2 q (by omega), hgq]
    simp only [↓gaW, ↓gaV, ↓gaC, ↓gaN, gaP, Nat.reduceEqDiff, Nat.reduceLeDiff, Nat.reduceAdd, Nat.reduceSub, Nat.reduceMul, Int.reduceLT, Int.reduceLE, Int.reduceEq, Int.reduceToNat, Int.reduceAdd, Int.reduceSub, Int.reduceMul, reduceCtorEq, ↓reduceIte, gaU, f5', f6', hN, u32_i (N : Int) (by omega), hv, hgq2, Int.toNat_natCast, Nat.mul_one, Nat.zero_add, hst]
    repeat refine And.intro (by first | omega | (simp; done) | (simp; omega) | exact all1 rfl) ?_
    simp only [↓gaW, ↓gaV, ↓gaC, ↓gaN, gaP, Nat.reduceEqDiff, Nat.reduceLeDiff, Nat.reduceAdd, Nat.reduceSub, Nat.reduceMul, Int.reduceLT, Int.reduceLE, Int.reduceEq, Int.reduceToNat, Int.reduceAdd, Int.reduceSub, Int.reduceMul, reduceCtorEq, ↓reduceIte, f6', q1, i64_w ((t + 1 : Nat) : Int) (by omega), loopK_n]
    refine ⟨16 - (t + 1), by omega, t + 1, x2, _, rfl, by omega, f0', f1', f5', rfl, rfl, by omega, fun p hp hpq => ?_, by simp only [upd_e, if_true]; rw [sch_succ]⟩
    simp only [upd_e]; rw [if_neg hpq, k2 p (by omega), hF p hp hpq]
  · have h16 : t = 16 := by omega
    subst h16
    simp only [↓gaW, ↓gaV, ↓gaC, ↓gaN, gaP, Nat.reduceEqDiff, Nat.reduceLeDiff, Nat.reduceAdd, Nat.reduceSub, Nat.reduceMul, Int.reduceLT, Int.reduceLE, Int.reduceEq, Int.reduceToNat, Int.reduceAdd, Int.reduceSub, Int.reduceMul, reduceCtorEq, ↓reduceIte, f6', hlt, decide_false, loopK_e]
    exact K _ _ _ (by simp only [↓gaW, ↓gaV, ↓gaC, ↓gaN, gaP, Nat.reduceEqDiff, Nat.reduceLeDiff, Nat.reduceAdd, Nat.reduceSub, Nat.reduceMul, Int.reduceLT, Int.reduceLE, Int.reduceEq, Int.reduceToNat, Int.reduceAdd, Int.reduceSub, Int.reduceMul, reduceCtorEq, ↓reduceIte, f0']) (by simp only [↓gaW, ↓gaV, ↓gaC, ↓gaN, gaP, Nat.reduceEqDiff, Nat.reduceLeDiff, Nat.reduceAdd, Nat.reduceSub, Nat.reduceMul, Int.reduceLT, Int.reduceLE, Int.reduceEq, Int.reduceToNat, Int.reduceAdd, Int.reduceSub, Int.reduceMul, reduceCtorEq, ↓reduceIte, f5', f5]) hx hF hgq

theorem thrB_of {R : List UInt8} (hbx : b ≤ x) (hb : b ≤ q) (hq : q < x) (f5 : f 5 = .pointer (some ⟨q, 0, none⟩)) (gq : g q = some (.cells ((sch R 16 ++ List.replicate (64 - 16) 0).map u32V) false))
    (K : ∀ (f' : Regs) (g' : Nat → Option Blk), f' 0 = f 0 → f' 5 = f 5 → (∀ p, p ≠ q → g' p = g p) → g' q = some (.cells ((sch R 64).map u32V) false) → D Try.prog s .normal f' ⟨x, b, g'⟩) :
    RC.vc Try.prog thrB f ⟨x, b, g⟩ (D Try.prog s) := by
  simp only [thrB, ↓gaW, ↓gaV, ↓gaC, ↓gaN, gaP, Nat.reduceEqDiff, Nat.reduceLeDiff, Nat.reduceAdd, Nat.reduceSub, Nat.reduceMul, Int.reduceLT, Int.reduceLE, Int.reduceEq, Int.reduceToNat, Int.reduceAdd, Int.reduceSub, Int.reduceMul, reduceCtorEq, ↓reduceIte]
  refine loop_of (fun j f' m => ∃ (t : Nat) (g' : Nat → Option Blk), j = 64 - t ∧ 16 ≤ t ∧ t ≤ 64 ∧ f' 0 = f 0 ∧ f' 5 = .pointer (some ⟨q, 0, none⟩) ∧ f' 9 = .int .i64 (t : Nat) ∧ m = ⟨x, b, g'⟩ ∧ (∀ p, p ≠ q → g' p = g p) ∧ g' q = some (.cells ((sch R t ++ List.replicate (64 - t) 0).map u32V) false)) 48
    ⟨16, g, by omega, by omega, by omega, by simp only [↓gaW, ↓gaV, ↓gaC, ↓gaN, gaP, Nat.reduceEqDiff, Nat.reduceLeDiff, Nat.reduceAdd, Nat.reduceSub, Nat.reduceMul, Int.reduceLT, Int.reduceLE, Int.reduceEq, Int.reduceToNat, Int.reduceAdd, Int.reduceSub, Int.reduceMul, reduceCtorEq, ↓reduceIte], by simp only [↓gaW, ↓gaV, ↓gaC, ↓gaN, gaP, Nat.reduceEqDiff, Nat.reduceLeDiff, Nat.reduceAdd, Nat.reduceSub, Nat.reduceMul, Int.reduceLT, Int.reduceLE, Int.reduceEq, Int.reduceToNat, Int.reduceAdd, Int.reduceSub, Int.reduceMul, reduceCtorEq, ↓reduceIte, f5], by simp only [↓gaW, ↓gaV, ↓gaC, ↓gaN, gaP, Nat.reduceEqDiff, Nat.reduceLeDiff, Nat.reduceAdd, Nat.reduceSub, Nat.reduceMul, Int.reduceLT, Int.reduceLE, Int.reduceEq, Int.reduceToNat, Int.reduceAdd, Int.reduceSub, Int.reduceMul, reduceCtorEq, ↓reduceIte], rfl, fun _ _ => rfl, gq⟩ ?_
  rintro j f' m ⟨t, g', rfl, ht16, ht, f0', f5', f9', rfl, hF, hgn⟩
  have hsl := sch_len R t
  by_cases hlt : (t : Int) < 64
  · have hw : wnext R t (sch R t) = (sch R t).getD (t - 16) 0 + sg0 ((sch R t).getD (t - 15) 0) + (sch R t).getD (t - 7) 0 + sg1 ((sch R t).getD (t - 2) 0) := by
      rw [wnext, if_neg (by omega)]
    have hst := fill_step (w := wnext R t (sch R t)) hsl (by omega)
    have c15 := fill_get hsl (show t - 15 < t by omega)
    have c2 := fill_get hsl (show t - 2 < t by omega)
    have c16 := fill_get hsl (show t - 16 < t by omega)
    have c7 := fill_get hsl (show t - 7 < t by omega)
    have e15 : (t : Int) - 15 = ((t - 15 : Nat) : Int) := by omega
    have e2 : (t : Int) - 2 = ((t - 2 : Nat) : Int) := by omega
    have e16 : (t : Int) - 16 = ((t - 16 : Nat) : Int) := by omega
    have e7 : (t : Int) - 7 = ((t - 7 : Nat) : Int) := by omega
    have hsch := sch_succ R t
    rw [hw] at hst hsch
    generalize (sch R t).getD (t - 15) 0 = X15 at *
    generalize (sch R t).getD (t - 2) 0 = X2 at *
    generalize (sch R t).getD (t - 16) 0 = X16 at *
    generalize (sch R t).getD (t - 7) 0 = X7 at *
    have w3 : ∀ (K : Value → Prop), binK .shr (u32V X15) (.int .u64 3) K = K (u32V (UInt32.ofNat (X15.toNat / 2 ^ 3))) := fun K => w_shr (k := .u64) (s := 3) (by decide)
    have w10 : ∀ (K : Value → Prop), binK .shr (u32V X2) (.int .u64 10) K = K (u32V (UInt32.ofNat (X2.toNat / 2 ^ 10))) := fun K => w_shr (k := .u64) (s := 10) (by decide)
    have q1 : (t : Int) + 1 = ((t + 1 : Nat) : Int) := by omega
    simp only [↓gaW, ↓gaV, ↓gaC, ↓gaN, gaP, Nat.reduceEqDiff, Nat.reduceLeDiff, Nat.reduceAdd, Nat.reduceSub, Nat.reduceMul, Int.reduceLT, Int.reduceLE, Int.reduceEq, Int.reduceToNat, Int.reduceAdd, Int.reduceSub, Int.reduceMul, reduceCtorEq, ↓reduceIte, gaU, f5', f9', hlt, decide_true, decide_false, hgn, Nat.zero_add, Nat.mul_one, e15, e2, e16, e7, i64_w ((t - 15 : Nat) : Int) (by omega), i64_w ((t - 2 : Nat) : Int) (by omega), i64_w ((t - 16 : Nat) : Int) (by omega), Int.toNat_natCast, c15, c2, c16]
    repeat refine And.intro (by first | omega | (simp; done) | (simp; omega) | exact all1 rfl) ?_
    refine callQ_of (ct_turned (n := 7) (by decide) (by decide)) (fun v n1 g1 l1 k1 hC => ?_)
    obtain ⟨rfl, rfl, rfl⟩ := hC
    simp only [↓gaW, ↓gaV, ↓gaC, ↓gaN, gaP, Nat.reduceEqDiff, Nat.reduceLeDiff, Nat.reduceAdd, Nat.reduceSub, Nat.reduceMul, Int.reduceLT, Int.reduceLE, Int.reduceEq, Int.reduceToNat, Int.reduceAdd, Int.reduceSub, Int.reduceMul, reduceCtorEq, ↓reduceIte, gaU]
    refine callQ_of (ct_turned (n := 18) (by decide) (by decide)) (fun v n1 g1 l1 k1 hC => ?_)
    obtain ⟨rfl, rfl, rfl⟩ := hC
    simp only [↓gaW, ↓gaV, ↓gaC, ↓gaN, gaP, Nat.reduceEqDiff, Nat.reduceLeDiff, Nat.reduceAdd, Nat.reduceSub, Nat.reduceMul, Int.reduceLT, Int.reduceLE, Int.reduceEq, Int.reduceToNat, Int.reduceAdd, Int.reduceSub, Int.reduceMul, reduceCtorEq, ↓reduceIte, gaU, w3, f5', f9', e7, hgn, Nat.zero_add, Nat.mul_one, i64_w ((t - 7 : Nat) : Int) (by omega), Int.toNat_natCast, c7]
    repeat refine And.intro (by first | omega | (simp; done) | (simp; omega) | exact all1 rfl) ?_
    refine callQ_of (ct_turned (n := 17) (by decide) (by decide)) (fun v n1 g1 l1 k1 hC => ?_)
    obtain ⟨rfl, rfl, rfl⟩ := hC
    simp only [↓gaW, ↓gaV, ↓gaC, ↓gaN, gaP, Nat.reduceEqDiff, Nat.reduceLeDiff, Nat.reduceAdd, Nat.reduceSub, Nat.reduceMul, Int.reduceLT, Int.reduceLE, Int.reduceEq, Int.reduceToNat, Int.reduceAdd, Int.reduceSub, Int.reduceMul, reduceCtorEq, ↓reduceIte, gaU]
    refine callQ_of (ct_turned (n := 19) (by decide) (by decide)) (fun v n1 g1 l1 k1 hC => ?_)
    obtain ⟨rfl, rfl, rfl⟩ := hC
    simp only [sg0, sg1] at hst hsch
    simp only [↓gaW, ↓gaV, ↓gaC, ↓gaN, gaP, Nat.reduceEqDiff, Nat.reduceLeDiff, Nat.reduceAdd, Nat.reduceSub, Nat.reduceMul, Int.reduceLT, Int.reduceLE, Int.reduceEq, Int.reduceToNat, Int.reduceAdd, Int.reduceSub, Int.reduceMul, reduceCtorEq, ↓reduceIte, gaU, w10, f5', hgn, Nat.zero_add, Nat.mul_one, Int.toNat_natCast, hst]
    repeat refine And.intro (by first | omega | (simp; done) | (simp; omega) | exact all1 rfl) ?_
    simp only [↓gaW, ↓gaV, ↓gaC, ↓gaN, gaP, Nat.reduceEqDiff, Nat.reduceLeDiff, Nat.reduceAdd, Nat.reduceSub, Nat.reduceMul, Int.reduceLT, Int.reduceLE, Int.reduceEq, Int.reduceToNat, Int.reduceAdd, Int.reduceSub, Int.reduceMul, reduceCtorEq, ↓reduceIte, f9', q1, i64_w ((t + 1 : Nat) : Int) (by omega), loopK_n]
    refine ⟨64 - (t + 1), by omega, t + 1, _, rfl, by omega, by omega, f0', f5', rfl, rfl, fun p hp => ?_, by simp only [upd_e, if_true]; rw [hsch]⟩
    simp only [upd_e]; rw [if_neg hp, hF p hp]
  · have h64 : t = 64 := by omega
    subst h64
    rw [Nat.sub_self, List.replicate_zero, List.append_nil] at hgn
    simp only [↓gaW, ↓gaV, ↓gaC, ↓gaN, gaP, Nat.reduceEqDiff, Nat.reduceLeDiff, Nat.reduceAdd, Nat.reduceSub, Nat.reduceMul, Int.reduceLT, Int.reduceLE, Int.reduceEq, Int.reduceToNat, Int.reduceAdd, Int.reduceSub, Int.reduceMul, reduceCtorEq, ↓reduceIte, f9', hlt, decide_false, loopK_e]
    exact K _ _ (by simp only [↓gaW, ↓gaV, ↓gaC, ↓gaN, gaP, Nat.reduceEqDiff, Nat.reduceLeDiff, Nat.reduceAdd, Nat.reduceSub, Nat.reduceMul, Int.reduceLT, Int.reduceLE, Int.reduceEq, Int.reduceToNat, Int.reduceAdd, Int.reduceSub, Int.reduceMul, reduceCtorEq, ↓reduceIte, f0']) (by simp only [↓gaW, ↓gaV, ↓gaC, ↓gaN, gaP, Nat.reduceEqDiff, Nat.reduceLeDiff, Nat.reduceAdd, Nat.reduceSub, Nat.reduceMul, Int.reduceLT, Int.reduceLE, Int.reduceEq, Int.reduceToNat, Int.reduceAdd, Int.reduceSub, Int.reduceMul, reduceCtorEq, ↓reduceIte, f5', f5]) hF hgn

theorem thrC_of {A : Option Addr} {W : List UInt32} {R : List UInt8} {qk : Nat} (hbx : b ≤ x) (hq : q < x) (hk : qk < x) (f5 : f 5 = .pointer (some ⟨q, 0, none⟩)) (gq : g q = some (.cells ((sch R 64).map u32V) false)) (f12 : f 12 = .slice (some ⟨qk, 0, none⟩) 64 64) (gk : g qk = some (.cells (k256.map u32V) false))
    (f13 : f 13 = .slice A 8 8) (hA : Row x g 1 A 8 (W.map u32V))
    (K : ∀ (f' : Regs) (x' p : Nat) (g' : Nat → Option Blk), f' 0 = f 0 → f' 13 = .slice (some ⟨p, 0, none⟩) 8 8 → x ≤ x' → (∀ p, p < x → g' p = g p) → x ≤ p → p < x' → g' p = some (.cells ((rs W R 64).map u32V) false) → D Try.prog s .normal f' ⟨x', b, g'⟩) :
    RC.vc Try.prog thrC f ⟨x, b, g⟩ (D Try.prog s) := by
  have hW : W.length = 8 := by simpa using hA.len
  have hr0 := rs_len hW R
  obtain ⟨Lw, hLw⟩ : ∃ L, (sch R 64).map u32V = L := ⟨_, rfl⟩
  have hln := sch_len R 64
  have hLl : Lw.length = 64 := by rw [← hLw]; simp [hln]
  rw [hLw] at gq
  have hkl : (k256.map u32V).length = 64 := rfl
  have cK : ∀ t, t < 64 → (k256.map u32V).getD t undef = u32V (k256.getD t 0) := fun t ht => getD_w (by show t < 64; omega)
  generalize k256.map u32V = Kc at *
  simp only [thrC, ↓gaW, ↓gaV, ↓gaC, ↓gaN, gaP, Nat.reduceEqDiff, Nat.reduceLeDiff, Nat.reduceAdd, Nat.reduceSub, Nat.reduceMul, Int.reduceLT, Int.reduceLE, Int.reduceEq, Int.reduceToNat, Int.reduceAdd, Int.reduceSub, Int.reduceMul, reduceCtorEq, ↓reduceIte]
  refine loop_of (fun j f' m => ∃ (t x' : Nat) (g' : Nat → Option Blk) (a : Addr) (ce : List Value) (ro : Bool), j = 64 - t ∧ t ≤ 64 ∧ f' 0 = f 0 ∧ f' 5 = .pointer (some ⟨q, 0, none⟩) ∧ f' 12 = .slice (some ⟨qk, 0, none⟩) 64 64 ∧ f' 13 = .slice (some a) 8 8 ∧ f' 14 = .int .i64 (t : Nat) ∧ m = ⟨x', b, g'⟩ ∧ x ≤ x' ∧ (∀ p, p < x → g' p = g p) ∧
      a.block < x' ∧ g' a.block = some (.cells ce ro) ∧ a.off + 8 ≤ ce.length ∧ (∀ i, i < 8 → ce.getD (a.off + i) undef = u32V ((rs W R t).getD i 0)) ∧ (0 < t → x ≤ a.block ∧ a = ⟨a.block, 0, none⟩ ∧ ro = false ∧ ce = (rs W R t).map u32V)) 64 ?_ ?_
  · obtain ⟨a, ce, ro, rfl, p1, p2, p3, p4⟩ := hA.cells (by omega)
    refine ⟨0, x, g, a, ce, ro, by omega, by omega, by simp only [↓gaW, ↓gaV, ↓gaC, ↓gaN, gaP, Nat.reduceEqDiff, Nat.reduceLeDiff, Nat.reduceAdd, Nat.reduceSub, Nat.reduceMul, Int.reduceLT, Int.reduceLE, Int.reduceEq, Int.reduceToNat, Int.reduceAdd, Int.reduceSub, Int.reduceMul, reduceCtorEq, ↓reduceIte], by simp only [↓gaW, ↓gaV, ↓gaC, ↓gaN, gaP, Nat.reduceEqDiff, Nat.reduceLeDiff, Nat.reduceAdd, Nat.reduceSub, Nat.reduceMul, Int.reduceLT, Int.reduceLE, Int.reduceEq, Int.reduceToNat, Int.reduceAdd, Int.reduceSub, Int.reduceMul, reduceCtorEq, ↓reduceIte, f5], by simp only [↓gaW, ↓gaV, ↓gaC, ↓gaN, gaP, Nat.reduceEqDiff, Nat.reduceLeDiff, Nat.reduceAdd, Nat.reduceSub, Nat.reduceMul, Int.reduceLT, Int.reduceLE, Int.reduceEq, Int.reduceToNat, Int.reduceAdd, Int.reduceSub, Int.reduceMul, reduceCtorEq, ↓reduceIte, f12], by simp only [↓gaW, ↓gaV, ↓gaC, ↓gaN, gaP, Nat.reduceEqDiff, Nat.reduceLeDiff, Nat.reduceAdd, Nat.reduceSub, Nat.reduceMul, Int.reduceLT, Int.reduceLE, Int.reduceEq, Int.reduceToNat, Int.reduceAdd, Int.reduceSub, Int.reduceMul, reduceCtorEq, ↓reduceIte, f13], by simp only [↓gaW, ↓gaV, ↓gaC, ↓gaN, gaP, Nat.reduceEqDiff, Nat.reduceLeDiff, Nat.reduceAdd, Nat.reduceSub, Nat.reduceMul, Int.reduceLT, Int.reduceLE, Int.reduceEq, Int.reduceToNat, Int.reduceAdd, Int.reduceSub, Int.reduceMul, reduceCtorEq, ↓reduceIte], rfl, by omega, fun _ _ => rfl, p1, p2, p3, fun i hi => ?_, fun h => absurd h (Nat.lt_irrefl 0)⟩
    rw [p4 i hi]
    unfold rs
    exact getD_w (by omega)
  rintro j f' m ⟨t, x', g', a0, ce, ro, rfl, ht, f0', f5', f12', f13', f14', rfl, hx, hF, p1, p2, p3, p4, p5⟩
  by_cases hlt : (t : Int) < 64
  · have gq' := (hF q hq).trans gq
    have gk' := (hF qk hk).trans gk
    obtain ⟨a, b', c, d, e, f1, h, i, hv⟩ := list8 (hr0 t)
    rw [hv] at p4
    have c0 : ce.getD a0.off undef = u32V a := p4 0 (by omega)
    have c1 : ce.getD (a0.off + 1) undef = u32V b' := p4 1 (by omega)
    have c2 : ce.getD (a0.off + 2) undef = u32V c := p4 2 (by omega)
    have c3 : ce.getD (a0.off + 3) undef = u32V d := p4 3 (by omega)
    have c4 : ce.getD (a0.off + 4) undef = u32V e := p4 4 (by omega)
    have c5 : ce.getD (a0.off + 5) undef = u32V f1 := p4 5 (by omega)
    have c6 : ce.getD (a0.off + 6) undef = u32V h := p4 6 (by omega)
    have c7 : ce.getD (a0.off + 7) undef = u32V i := p4 7 (by omega)
    have cKt := cK t (by omega)
    have cW : Lw.getD t undef = u32V ((sch R 64).getD t 0) := by rw [← hLw]; exact getD_w (by omega)
    have hnx : rs W R (t + 1) = rnd (k256.getD t 0) ((sch R 64).getD t 0) (rs W R t) := by
      conv => lhs; unfold rs
    rw [hv] at hnx
    generalize k256.getD t 0 = Kt at *
    generalize (sch R 64).getD t 0 = Wt at *
    have q1 : (t : Int) + 1 = ((t + 1 : Nat) : Int) := by omega
    simp only [↓gaW, ↓gaV, ↓gaC, ↓gaN, gaP, Nat.reduceEqDiff, Nat.reduceLeDiff, Nat.reduceAdd, Nat.reduceSub, Nat.reduceMul, Int.reduceLT, Int.reduceLE, Int.reduceEq, Int.reduceToNat, Int.reduceAdd, Int.reduceSub, Int.reduceMul, reduceCtorEq, ↓reduceIte, List.getD_cons_zero, List.getD_cons_succ, fillL, splice, List.take_zero, List.drop_zero, List.drop_succ_cons, List.take_succ_cons, List.drop_nil, List.take_nil, gaU, f13', f14', hlt, decide_true, p2, c0, c4, c7, Nat.add_zero, Nat.mul_one]
    repeat refine And.intro (by first | omega | (simp; done) | (simp; omega) | exact all1 rfl) ?_
    refine callQ_of (ct_turned (n := 6) (by decide) (by decide)) (fun v n1 g1' l1 k1 hC => ?_)
    obtain ⟨rfl, rfl, rfl⟩ := hC
    simp only [↓gaW, ↓gaV, ↓gaC, ↓gaN, gaP, Nat.reduceEqDiff, Nat.reduceLeDiff, Nat.reduceAdd, Nat.reduceSub, Nat.reduceMul, Int.reduceLT, Int.reduceLE, Int.reduceEq, Int.reduceToNat, Int.reduceAdd, Int.reduceSub, Int.reduceMul, reduceCtorEq, ↓reduceIte, gaU]
    refine callQ_of (ct_turned (n := 11) (by decide) (by decide)) (fun v n1 g1' l1 k1 hC => ?_)
    obtain ⟨rfl, rfl, rfl⟩ := hC
    simp only [↓gaW, ↓gaV, ↓gaC, ↓gaN, gaP, Nat.reduceEqDiff, Nat.reduceLeDiff, Nat.reduceAdd, Nat.reduceSub, Nat.reduceMul, Int.reduceLT, Int.reduceLE, Int.reduceEq, Int.reduceToNat, Int.reduceAdd, Int.reduceSub, Int.reduceMul, reduceCtorEq, ↓reduceIte, gaU]
    refine callQ_of (ct_turned (n := 25) (by decide) (by decide)) (fun v n1 g1' l1 k1 hC => ?_)
    obtain ⟨rfl, rfl, rfl⟩ := hC
    simp only [↓gaW, ↓gaV, ↓gaC, ↓gaN, gaP, Nat.reduceEqDiff, Nat.reduceLeDiff, Nat.reduceAdd, Nat.reduceSub, Nat.reduceMul, Int.reduceLT, Int.reduceLE, Int.reduceEq, Int.reduceToNat, Int.reduceAdd, Int.reduceSub, Int.reduceMul, reduceCtorEq, ↓reduceIte, gaU, f5', f12', f13', f14', p2, gq', gk', c5, c6, cKt, cW, Nat.zero_add, Nat.mul_one, Int.toNat_natCast]
    repeat refine And.intro (by first | omega | (simp; done) | (simp; omega) | exact all1 rfl) ?_
    refine callQ_of (ct_turned (n := 2) (by decide) (by decide)) (fun v n1 g1' l1 k1 hC => ?_)
    obtain ⟨rfl, rfl, rfl⟩ := hC
    simp only [↓gaW, ↓gaV, ↓gaC, ↓gaN, gaP, Nat.reduceEqDiff, Nat.reduceLeDiff, Nat.reduceAdd, Nat.reduceSub, Nat.reduceMul, Int.reduceLT, Int.reduceLE, Int.reduceEq, Int.reduceToNat, Int.reduceAdd, Int.reduceSub, Int.reduceMul, reduceCtorEq, ↓reduceIte, gaU]
    refine callQ_of (ct_turned (n := 13) (by decide) (by decide)) (fun v n1 g1' l1 k1 hC => ?_)
    obtain ⟨rfl, rfl, rfl⟩ := hC
    simp only [↓gaW, ↓gaV, ↓gaC, ↓gaN, gaP, Nat.reduceEqDiff, Nat.reduceLeDiff, Nat.reduceAdd, Nat.reduceSub, Nat.reduceMul, Int.reduceLT, Int.reduceLE, Int.reduceEq, Int.reduceToNat, Int.reduceAdd, Int.reduceSub, Int.reduceMul, reduceCtorEq, ↓reduceIte, gaU]
    refine callQ_of (ct_turned (n := 22) (by decide) (by decide)) (fun v n1 g1' l1 k1 hC => ?_)
    obtain ⟨rfl, rfl, rfl⟩ := hC
    simp only [↓gaW, ↓gaV, ↓gaC, ↓gaN, gaP, Nat.reduceEqDiff, Nat.reduceLeDiff, Nat.reduceAdd, Nat.reduceSub, Nat.reduceMul, Int.reduceLT, Int.reduceLE, Int.reduceEq, Int.reduceToNat, Int.reduceAdd, Int.reduceSub, Int.reduceMul, reduceCtorEq, ↓reduceIte, List.getD_cons_zero, List.getD_cons_succ, fillL, splice, List.take_zero, List.drop_zero, List.drop_succ_cons, List.take_succ_cons, List.drop_nil, List.take_nil, gaU, f13', f14', p2, c0, c1, c2, c3, c4, c5, c6, Nat.add_zero, Nat.mul_one]
    repeat refine And.intro (by first | omega | (simp; done) | (simp; omega) | exact all1 rfl) ?_
    simp only [↓gaW, ↓gaV, ↓gaC, ↓gaN, gaP, Nat.reduceEqDiff, Nat.reduceLeDiff, Nat.reduceAdd, Nat.reduceSub, Nat.reduceMul, Int.reduceLT, Int.reduceLE, Int.reduceEq, Int.reduceToNat, Int.reduceAdd, Int.reduceSub, Int.reduceMul, reduceCtorEq, ↓reduceIte, List.getD_cons_zero, List.getD_cons_succ, fillL, splice, List.take_zero, List.drop_zero, List.drop_succ_cons, List.take_succ_cons, List.drop_nil, List.take_nil, gaU, f14', q1, i64_w ((t + 1 : Nat) : Int) (by omega), loopK_n, List.nil_append, List.cons_append]
    refine ⟨64 - (t + 1), by omega, t + 1, n1 + 1, _, ⟨n1, 0, none⟩, (rs W R (t + 1)).map u32V, false, rfl, by omega, f0', f5', f12', rfl, rfl, rfl, by omega, fun p hp => ?_, by show n1 < n1 + 1; omega, ?_, by simp [hr0], fun i hi => by rw [Nat.zero_add]; exact getD_w (by rw [hr0]; exact hi), fun _ => ⟨hx, rfl, rfl, rfl⟩⟩
    · simp only [upd_e]; rw [if_neg (by omega), hF p hp]
    · simp only [upd_e, if_true]; rw [hnx]; rfl
  · have h64 : t = 64 := by omega
    subst h64
    obtain ⟨r1, r2, rfl, rfl⟩ := p5 (by omega)
    simp only [↓gaW, ↓gaV, ↓gaC, ↓gaN, gaP, Nat.reduceEqDiff, Nat.reduceLeDiff, Nat.reduceAdd, Nat.reduceSub, Nat.reduceMul, Int.reduceLT, Int.reduceLE, Int.reduceEq, Int.reduceToNat, Int.reduceAdd, Int.reduceSub, Int.reduceMul, reduceCtorEq, ↓reduceIte, f14', hlt, decide_false, loopK_e]
    exact K _ _ a0.block _ (by simp only [↓gaW, ↓gaV, ↓gaC, ↓gaN, gaP, Nat.reduceEqDiff, Nat.reduceLeDiff, Nat.reduceAdd, Nat.reduceSub, Nat.reduceMul, Int.reduceLT, Int.reduceLE, Int.reduceEq, Int.reduceToNat, Int.reduceAdd, Int.reduceSub, Int.reduceMul, reduceCtorEq, ↓reduceIte, f0']) (by simp only [↓gaW, ↓gaV, ↓gaC, ↓gaN, gaP, Nat.reduceEqDiff, Nat.reduceLeDiff, Nat.reduceAdd, Nat.reduceSub, Nat.reduceMul, Int.reduceLT, Int.reduceLE, Int.reduceEq, Int.reduceToNat, Int.reduceAdd, Int.reduceSub, Int.reduceMul, reduceCtorEq, ↓reduceIte, f13']; rw [r2]) hx hF r1 p1 p2

theorem thrD_of {A : Option Addr} {d p : Nat} {W v : List UInt32} (hb : b ≤ p) (hp : p < x) (f13 : f 13 = .slice (some ⟨p, 0, none⟩) 8 8) (gp : g p = some (.cells (v.map u32V) false)) (hv : v.length = 8)
    (f0 : f 0 = .slice A 8 d) (hA : Row x g 1 A 8 (W.map u32V)) (hAp : ∀ a, A = some a → a.block ≠ p)
    (K : ∀ (f' : Regs) (g' : Nat → Option Blk), f' 13 = f 13 → (∀ q, q ≠ p → g' q = g q) → g' p = some (.cells ((List.zipWith (· + ·) W v).map u32V) false) → D Try.prog s .normal f' ⟨x, b, g'⟩) :
    RC.vc Try.prog thrD f ⟨x, b, g⟩ (D Try.prog s) := by
  have hW : W.length = 8 := by simpa using hA.len
  obtain ⟨a, ce, ro, rfl, a1, a2, a3, a4⟩ := hA.cells (by omega)
  have hap := hAp a rfl
  simp only [thrD, ↓gaW, ↓gaV, ↓gaC, ↓gaN, gaP, Nat.reduceEqDiff, Nat.reduceLeDiff, Nat.reduceAdd, Nat.reduceSub, Nat.reduceMul, Int.reduceLT, Int.reduceLE, Int.reduceEq, Int.reduceToNat, Int.reduceAdd, Int.reduceSub, Int.reduceMul, reduceCtorEq, ↓reduceIte]
  refine loop_of (fun j f' m => ∃ (t : Nat) (g' : Nat → Option Blk), j = 8 - t ∧ t ≤ 8 ∧ f' 0 = .slice (some a) 8 d ∧ f' 13 = .slice (some ⟨p, 0, none⟩) 8 8 ∧ f' 19 = .int .i64 (t : Nat) ∧ m = ⟨x, b, g'⟩ ∧ (∀ q, q ≠ p → g' q = g q) ∧ g' p = some (.cells ((addT v W t).map u32V) false)) 8
    ⟨0, g, by omega, by omega, by simp only [↓gaW, ↓gaV, ↓gaC, ↓gaN, gaP, Nat.reduceEqDiff, Nat.reduceLeDiff, Nat.reduceAdd, Nat.reduceSub, Nat.reduceMul, Int.reduceLT, Int.reduceLE, Int.reduceEq, Int.reduceToNat, Int.reduceAdd, Int.reduceSub, Int.reduceMul, reduceCtorEq, ↓reduceIte, f0], by simp only [↓gaW, ↓gaV, ↓gaC, ↓gaN, gaP, Nat.reduceEqDiff, Nat.reduceLeDiff, Nat.reduceAdd, Nat.reduceSub, Nat.reduceMul, Int.reduceLT, Int.reduceLE, Int.reduceEq, Int.reduceToNat, Int.reduceAdd, Int.reduceSub, Int.reduceMul, reduceCtorEq, ↓reduceIte, f13], by simp only [↓gaW, ↓gaV, ↓gaC, ↓gaN, gaP, Nat.reduceEqDiff, Nat.reduceLeDiff, Nat.reduceAdd, Nat.reduceSub, Nat.reduceMul, Int.reduceLT, Int.reduceLE, Int.reduceEq, Int.reduceToNat, Int.reduceAdd, Int.reduceSub, Int.reduceMul, reduceCtorEq, ↓reduceIte], rfl, fun _ _ => rfl, gp⟩ ?_
  rintro j f' m ⟨t, g', rfl, ht, f0', f13', f19', rfl, hF, hgp⟩
  have hal := addT_len hv hW ht
  by_cases hlt : (t : Int) < 8
  · have ht8 : t < 8 := by omega
    have c1 := getD_w (l := addT v W t) (i := t) (by omega)
    rw [addT_get hv hW ht8] at c1
    have c2 := (a4 t ht8).trans (getD_w (l := W) (i := t) (by omega))
    have ga' := (hF _ hap).trans a2
    have hst := splice_set (l := addT v W t) (i := t) (x := v.getD t 0 + W.getD t 0) (by omega)
    rw [addT_set hv hW ht8] at hst
    have q1 : (t : Int) + 1 = ((t + 1 : Nat) : Int) := by omega
    simp only [↓gaW, ↓gaV, ↓gaC, ↓gaN, gaP, Nat.reduceEqDiff, Nat.reduceLeDiff, Nat.reduceAdd, Nat.reduceSub, Nat.reduceMul, Int.reduceLT, Int.reduceLE, Int.reduceEq, Int.reduceToNat, Int.reduceAdd, Int.reduceSub, Int.reduceMul, reduceCtorEq, ↓reduceIte, gaU, f0', f13', f19', hlt, decide_true, hgp, ga', Int.toNat_natCast, Nat.mul_one, Nat.zero_add, c1, c2, hst]
    repeat refine And.intro (by first | omega | (simp; done) | (simp; omega) | exact all1 rfl) ?_
    simp only [↓gaW, ↓gaV, ↓gaC, ↓gaN, gaP, Nat.reduceEqDiff, Nat.reduceLeDiff, Nat.reduceAdd, Nat.reduceSub, Nat.reduceMul, Int.reduceLT, Int.reduceLE, Int.reduceEq, Int.reduceToNat, Int.reduceAdd, Int.reduceSub, Int.reduceMul, reduceCtorEq, ↓reduceIte, f19', q1, i64_w ((t + 1 : Nat) : Int) (by omega), loopK_n]
    refine ⟨8 - (t + 1), by omega, t + 1, _, rfl, by omega, f0', f13', rfl, rfl, fun q hq => ?_, by simp only [upd_e, if_true]⟩
    simp only [upd_e]; rw [if_neg hq, hF q hq]
  · have h8 : t = 8 := by omega
    subst h8
    rw [addT_full hv hW] at hgp
    have hcm : List.zipWith (· + ·) v W = List.zipWith (· + ·) W v := by
      refine List.ext_getElem? fun i => ?_
      rw [List.getElem?_zipWith, List.getElem?_zipWith]
      cases v[i]? <;> cases W[i]? <;> simp [UInt32.add_comm]
    rw [hcm] at hgp
    simp only [↓gaW, ↓gaV, ↓gaC, ↓gaN, gaP, Nat.reduceEqDiff, Nat.reduceLeDiff, Nat.reduceAdd, Nat.reduceSub, Nat.reduceMul, Int.reduceLT, Int.reduceLE, Int.reduceEq, Int.reduceToNat, Int.reduceAdd, Int.reduceSub, Int.reduceMul, reduceCtorEq, ↓reduceIte, f19', hlt, decide_false, loopK_e]
    exact K _ _ (by simp only [↓gaW, ↓gaV, ↓gaC, ↓gaN, gaP, Nat.reduceEqDiff, Nat.reduceLeDiff, Nat.reduceAdd, Nat.reduceSub, Nat.reduceMul, Int.reduceLT, Int.reduceLE, Int.reduceEq, Int.reduceToNat, Int.reduceAdd, Int.reduceSub, Int.reduceMul, reduceCtorEq, ↓reduceIte, f13', f13]) hF hgp
end

section
variable {nx : Nat} {gt : Nat → Option Blk}

theorem ct_rconstants : Ct Try.prog 65 [] nx gt fun v nx' gt' => v = .slice (some ⟨nx, 0, none⟩) 64 64 ∧ nx' = nx + 1 ∧ gt' nx = some (.cells (k256.map u32V) false) := by
  refine Ct.of hmx r_lanyardref06_constants (by simp [c_lanyardref06_constants]) fun b hb => ?_
  simp only [c_lanyardref06_constants, ↓gaW, ↓gaV, ↓gaC, ↓gaN, gaP, Nat.reduceEqDiff, Nat.reduceLeDiff, Nat.reduceAdd, Nat.reduceSub, Nat.reduceMul, Int.reduceLT, Int.reduceLE, Int.reduceEq, Int.reduceToNat, Int.reduceAdd, Int.reduceSub, Int.reduceMul, reduceCtorEq, ↓reduceIte, List.getD_cons_zero, List.getD_cons_succ, fillL, splice, List.take_zero, List.drop_zero, List.drop_succ_cons, List.take_succ_cons, List.drop_nil, List.take_nil, gaE, implies_true, Nat.le_refl, Int.sub_zero, Nat.sub_zero, Int.le_refl, true_or, or_true]
  refine ⟨by omega, fun q hq => by rw [if_neg (by omega)], ?_⟩
  rfl

theorem ct_through {A B : Option Addr} {c d : Nat} {W : List UInt32} {R : List UInt8} (hA : Row nx gt 1 A 8 (W.map u32V)) (hc : 8 ≤ c) (hB : Row nx gt 1 B 64 (R.map u8V)) (hd : 64 ≤ d) :
    Ct Try.prog 38 [.slice A 8 c, .slice B 64 d] nx gt fun v nx' gt' => ∃ p, v = .slice (some ⟨p, 0, none⟩) 8 8 ∧ nx ≤ p ∧ p < nx' ∧ gt' p = some (.cells ((comp W R).map u32V) false) := by
  have hW : W.length = 8 := by simpa using hA.len
  refine Ct.of hmx r_lanyardref06_through (by simp [c_lanyardref06_through]) fun b hb => ?_
  simp only [c_lanyardref06_through, ↓gaW, ↓gaV, ↓gaC, ↓gaN, gaP, Nat.reduceEqDiff, Nat.reduceLeDiff, Nat.reduceAdd, Nat.reduceSub, Nat.reduceMul, Int.reduceLT, Int.reduceLE, Int.reduceEq, Int.reduceToNat, Int.reduceAdd, Int.reduceSub, Int.reduceMul, reduceCtorEq, ↓reduceIte]
  refine (show RC.vc Try.prog thrA _ _ (D Try.prog (.thn (.seq thrB (.seq _ (.seq _ (.seq thrC (.seq thrD _))))) _)) from ?_)
  have hlow : ∀ {C : Option Addr} {n : Nat} {e : Nat} {l : List Value}, Row nx gt e C n l → 0 < n → ∀ a, C = some a → a.block < nx := fun h h0 a ha => by
    obtain ⟨a', _, _, e1, e2, _⟩ := h.cells h0
    rw [ha] at e1
    injection e1 with e1
    subst e1
    exact e2
  have hAl := hlow hA (by omega)
  have hBl := hlow hB (by omega)
  refine thrA_of (q := nx) (R := R) (B := B) (d := d) (by omega) (by omega) (by omega) (by simp only [↓gaW, ↓gaV, ↓gaC, ↓gaN, gaP, Nat.reduceEqDiff, Nat.reduceLeDiff, Nat.reduceAdd, Nat.reduceSub, Nat.reduceMul, Int.reduceLT, Int.reduceLE, Int.reduceEq, Int.reduceToNat, Int.reduceAdd, Int.reduceSub, Int.reduceMul, reduceCtorEq, ↓reduceIte]) hd (hB.keep (Nat.le_succ _) (fun p hp => by simp only [upd_e]; rw [if_neg (by omega)])) (fun a ha => by have := hBl a ha; omega) (by simp only [↓gaW, ↓gaV, ↓gaC, ↓gaN, gaP, Nat.reduceEqDiff, Nat.reduceLeDiff, Nat.reduceAdd, Nat.reduceSub, Nat.reduceMul, Int.reduceLT, Int.reduceLE, Int.reduceEq, Int.reduceToNat, Int.reduceAdd, Int.reduceSub, Int.reduceMul, reduceCtorEq, ↓reduceIte]) (by simp only [upd_e, if_true]; rfl) ?_
  intro f1 x1 g1 a0 a5 l1 k1 hw1
  simp only [↓gaW, ↓gaV, ↓gaC, ↓gaN, gaP, Nat.reduceEqDiff, Nat.reduceLeDiff, Nat.reduceAdd, Nat.reduceSub, Nat.reduceMul, Int.reduceLT, Int.reduceLE, Int.reduceEq, Int.reduceToNat, Int.reduceAdd, Int.reduceSub, Int.reduceMul, reduceCtorEq, ↓reduceIte] at a0 a5
  simp only [↓gaW, ↓gaV, ↓gaC, ↓gaN, gaP, Nat.reduceEqDiff, Nat.reduceLeDiff, Nat.reduceAdd, Nat.reduceSub, Nat.reduceMul, Int.reduceLT, Int.reduceLE, Int.reduceEq, Int.reduceToNat, Int.reduceAdd, Int.reduceSub, Int.reduceMul, reduceCtorEq, ↓reduceIte]
  refine thrB_of (q := nx) (R := R) (by omega) (by omega) (by omega) a5 hw1 ?_
  intro f2 g2 b0 b5 k2 hw2
  rw [a0] at b0
  rw [a5] at b5
  have F2 : ∀ p, p < nx → g2 p = gt p := fun p hp => by rw [k2 p (by omega), k1 p (by omega) (by omega)]; simp only [upd_e]; rw [if_neg (by omega)]
  simp only [↓gaW, ↓gaV, ↓gaC, ↓gaN, gaP, Nat.reduceEqDiff, Nat.reduceLeDiff, Nat.reduceAdd, Nat.reduceSub, Nat.reduceMul, Int.reduceLT, Int.reduceLE, Int.reduceEq, Int.reduceToNat, Int.reduceAdd, Int.reduceSub, Int.reduceMul, reduceCtorEq, ↓reduceIte]
  refine callK_of ct_rconstants (fun v x3 g3 l3 k3 hC => ?_) (by omega)
  obtain ⟨rfl, rfl, hk3⟩ := hC
  have F3 : ∀ p, p < nx → g3 p = gt p := fun p hp => by rw [k3 p (by omega), F2 p hp]
  have hw3 : g3 nx = some (.cells ((sch R 64).map u32V) false) := by rw [k3 nx (by omega)]; exact hw2
  simp only [↓gaW, ↓gaV, ↓gaC, ↓gaN, gaP, Nat.reduceEqDiff, Nat.reduceLeDiff, Nat.reduceAdd, Nat.reduceSub, Nat.reduceMul, Int.reduceLT, Int.reduceLE, Int.reduceEq, Int.reduceToNat, Int.reduceAdd, Int.reduceSub, Int.reduceMul, reduceCtorEq, ↓reduceIte, List.getD_cons_zero, List.getD_cons_succ, fillL, splice, List.take_zero, List.drop_zero, List.drop_succ_cons, List.take_succ_cons, List.drop_nil, List.take_nil, b0]
  have hA4 : Row (x1 + 1 + 1) (upd g3 (x1 + 1) (some (.cells [] false))) 1 A 8 (W.map u32V) := hA.keep (by omega) (fun p hp => by simp only [upd_e]; rw [if_neg (by omega), F3 p hp])
  have hrow : ∀ b, rowOf ⟨x1 + 1 + 1, b, upd g3 (x1 + 1) (some (.cells [] false))⟩ A 8 = some (W.map u32V) := fun b => hA4.rowOf
  simp only [hrow, asO_e]
  refine grow_app (nx := x1 + 1 + 1) (l := []) (Grow.lit (q := x1 + 1) (l := []) (ro := false) (by omega) (by simp only [upd_e, if_true]) rfl) (by omega) (by omega) (by omega) (by simp [hW]) (all_u32 _) (by omega) (by omega) fun A' x4 g4 l4 k4 hgr => ?_
  rw [List.nil_append] at hgr
  have hrA := hgr.row
  have F4 : ∀ p, p < nx → g4 p = gt p := fun p hp => by rw [k4 p (by omega)]; simp only [upd_e]; rw [if_neg (by omega), F3 p hp]
  have hw4 : g4 nx = some (.cells ((sch R 64).map u32V) false) := by rw [k4 nx (by omega)]; simp only [upd_e]; rw [if_neg (by omega), hw3]
  have hk4 : g4 x1 = some (.cells (k256.map u32V) false) := by rw [k4 x1 (by omega)]; simp only [upd_e]; rw [if_neg (by omega), hk3]
  refine thrC_of (q := nx) (qk := x1) (A := A') (W := W) (R := R) (by omega) (by omega) (by omega) (by simp only [↓gaW, ↓gaV, ↓gaC, ↓gaN, gaP, Nat.reduceEqDiff, Nat.reduceLeDiff, Nat.reduceAdd, Nat.reduceSub, Nat.reduceMul, Int.reduceLT, Int.reduceLE, Int.reduceEq, Int.reduceToNat, Int.reduceAdd, Int.reduceSub, Int.reduceMul, reduceCtorEq, ↓reduceIte, b5]) hw4 (by simp only [↓gaW, ↓gaV, ↓gaC, ↓gaN, gaP, Nat.reduceEqDiff, Nat.reduceLeDiff, Nat.reduceAdd, Nat.reduceSub, Nat.reduceMul, Int.reduceLT, Int.reduceLE, Int.reduceEq, Int.reduceToNat, Int.reduceAdd, Int.reduceSub, Int.reduceMul, reduceCtorEq, ↓reduceIte]) hk4 (by simp only [↓gaW, ↓gaV, ↓gaC, ↓gaN, gaP, Nat.reduceEqDiff, Nat.reduceLeDiff, Nat.reduceAdd, Nat.reduceSub, Nat.reduceMul, Int.reduceLT, Int.reduceLE, Int.reduceEq, Int.reduceToNat, Int.reduceAdd, Int.reduceSub, Int.reduceMul, reduceCtorEq, ↓reduceIte]) (by simpa using hrA) ?_
  intro f5 x5 p g5 c0 c13 l5 k5 p1 p2 hv5
  simp only [↓gaW, ↓gaV, ↓gaC, ↓gaN, gaP, Nat.reduceEqDiff, Nat.reduceLeDiff, Nat.reduceAdd, Nat.reduceSub, Nat.reduceMul, Int.reduceLT, Int.reduceLE, Int.reduceEq, Int.reduceToNat, Int.reduceAdd, Int.reduceSub, Int.reduceMul, reduceCtorEq, ↓reduceIte] at c0
  rw [b0] at c0
  have F5 : ∀ p, p < nx → g5 p = gt p := fun p hp => by rw [k5 p (by omega), F4 p hp]
  simp only [↓gaW, ↓gaV, ↓gaC, ↓gaN, gaP, Nat.reduceEqDiff, Nat.reduceLeDiff, Nat.reduceAdd, Nat.reduceSub, Nat.reduceMul, Int.reduceLT, Int.reduceLE, Int.reduceEq, Int.reduceToNat, Int.reduceAdd, Int.reduceSub, Int.reduceMul, reduceCtorEq, ↓reduceIte]
  refine thrD_of (p := p) (W := W) (A := A) (by omega) p2 c13 hv5 (rs_len hW R 64) c0 (hA.keep (by omega) F5) (fun a ha => by have := hAl a ha; omega) ?_
  intro f6 g6 d13 k6 hv6
  rw [c13] at d13
  simp only [↓gaW, ↓gaV, ↓gaC, ↓gaN, gaP, Nat.reduceEqDiff, Nat.reduceLeDiff, Nat.reduceAdd, Nat.reduceSub, Nat.reduceMul, Int.reduceLT, Int.reduceLE, Int.reduceEq, Int.reduceToNat, Int.reduceAdd, Int.reduceSub, Int.reduceMul, reduceCtorEq, ↓reduceIte, gaE, implies_true, Nat.le_refl, Int.sub_zero, Nat.sub_zero, Int.le_refl, true_or, or_true, d13]
  refine ⟨by omega, fun q hq => by rw [k6 q (by omega), F5 q hq], p, rfl, by omega, p2, ?_⟩
  rw [hv6]
  unfold comp
  rfl
end
end Go.Ga

namespace Go.Ga
open Go Go.Proofs
set_option linter.unusedSimpArgs false
set_option linter.unusedVariables false
set_option maxRecDepth 100000
attribute [local irreducible] appendK endK endW sch comp rs

theorem padS_len (l : List UInt8) : (padS l).length = l.length + 9 + zs l.length := by simp [padS, be8]; omega
theorem padS_mod (l : List UInt8) : (padS l).length % 64 = 0 := by
  rw [padS_len, zs]; omega

section
variable {nx : Nat} {gt : Nat → Option Blk}

theorem ct_filled {A : Option Addr} {n c : Nat} {l : List UInt8} (hA : Row nx gt 1 A n (l.map u8V)) (hc : n ≤ c) (hn : n < 10000000000) :
    Ct Try.prog 37 [.slice A n c] nx gt fun v nx' gt' => ∃ A', v = .slice A' (padS l).length (padS l).length ∧ Row nx' gt' 1 A' (padS l).length ((padS l).map u8V) := by
  have hl : l.length = n := by simpa using hA.len
  refine Ct.of hmx r_lanyardref06_filled (by simp [c_lanyardref06_filled]) fun b hb => ?_
  have hA0 : Row (nx + 1) (upd gt nx (some (.cells [] false))) 1 A n (l.map u8V) := hA.keep (by omega) (fun p hp => by simp only [upd_e]; rw [if_neg (by omega)])
  have hrow : ∀ b, rowOf ⟨nx + 1, b, upd gt nx (some (.cells [] false))⟩ A n = some (l.map u8V) := fun b => hA0.rowOf
  have hnil : ∀ v ∈ ([] : List Value), cellVal v = true := by simp
  simp only [c_lanyardref06_filled, ↓gaW, ↓gaV, ↓gaC, ↓gaN, gaP, Nat.reduceEqDiff, Nat.reduceLeDiff, Nat.reduceAdd, Nat.reduceSub, Nat.reduceMul, Int.reduceLT, Int.reduceLE, Int.reduceEq, Int.reduceToNat, Int.reduceAdd, Int.reduceSub, Int.reduceMul, reduceCtorEq, ↓reduceIte, List.getD_cons_zero, List.getD_cons_succ, fillL, splice, List.take_zero, List.drop_zero, List.drop_succ_cons, List.take_succ_cons, List.drop_nil, List.take_nil, hrow]
  refine grow_app (nx := nx) (l := []) (Grow.lit (q := nx) (l := []) (ro := false) (by omega) (by simp only [upd_e, if_true]) rfl) (by omega) (by omega) (by omega) (by simp [hl]) (all_u8 _) (by omega) (by omega) fun A1 x1 g1 l1 k1 hgr1 => ?_
  have F1 : ∀ p, p < nx → g1 p = gt p := fun p hp => by rw [k1 p hp]; simp only [upd_e]; rw [if_neg (by omega)]
  rw [List.nil_append, Nat.zero_add] at hgr1
  simp only [↓gaW, ↓gaV, ↓gaC, ↓gaN, gaP, Nat.reduceEqDiff, Nat.reduceLeDiff, Nat.reduceAdd, Nat.reduceSub, Nat.reduceMul, Int.reduceLT, Int.reduceLE, Int.reduceEq, Int.reduceToNat, Int.reduceAdd, Int.reduceSub, Int.reduceMul, reduceCtorEq, ↓reduceIte, List.getD_cons_zero, List.getD_cons_succ, fillL, splice, List.take_zero, List.drop_zero, List.drop_succ_cons, List.take_succ_cons, List.drop_nil, List.take_nil, Nat.zero_add]
  have hrow1 : ∀ b, rowOf ⟨x1 + 1, b, upd g1 x1 (some (.cells [.int .u8 128] false))⟩ (some ⟨x1, 0, none⟩) 1 = some [u8V 128] := fun b => by simp [rowOf, upd]; rfl
  simp only [hrow1, asO_e]
  refine grow_append (nx := nx) (k := 1) (hgr1.keep (Nat.le_succ _) (fun p hp => by simp only [upd_e]; rw [if_neg (by omega)])) (by omega) (by omega) (by omega) (by omega) rfl (all1 rfl) (by omega) (by omega) fun g2 k2 ho2 => ?_
  have F2 : ∀ p, p < nx → g2 p = gt p := fun p hp => by rw [k2 p hp]; simp only [upd_e]; rw [if_neg (by omega), F1 p hp]
  have ho2 : Grow nx b (x1 + 1 + 1) g2 1 (some ⟨x1 + 1, 0, some 1⟩) (n + 1) ((l ++ 128 :: List.replicate 0 0).map u8V) := .inl (by simpa using ho2)
  have hz : zs l.length = (119 - l.length % 64) % 64 := rfl
  have hq8 : (n : Int) * 8 = ((n * 8 : Nat) : Int) := by omega
  refine bloop_of (fun f m => ∃ (x : Nat) (g : Nat → Option Blk) (A' : Option Addr), f 0 = .slice A n c ∧ f 3 = .slice A' (n + 1 + zs n) (n + 1 + zs n) ∧ m = ⟨x, b, g⟩ ∧ nx ≤ x ∧ (∀ p, p < nx → g p = gt p) ∧ Grow nx b x g 1 A' (n + 1 + zs n) ((l ++ 128 :: List.replicate (zs n) 0).map u8V)) (fun _ _ => False)
    (fun j f m => ∃ (t x : Nat) (g : Nat → Option Blk) (A' : Option Addr), j = zs n - t ∧ t ≤ zs n ∧ f 0 = .slice A n c ∧ f 3 = .slice A' (n + 1 + t) (n + 1 + t) ∧ m = ⟨x, b, g⟩ ∧ nx ≤ x ∧ (∀ p, p < nx → g p = gt p) ∧ Grow nx b x g 1 A' (n + 1 + t) ((l ++ 128 :: List.replicate t 0).map u8V)) (zs n)
    ⟨0, x1 + 1 + 1, g2, some ⟨x1 + 1, 0, some 1⟩, by omega, by omega, by simp only [↓gaW, ↓gaV, ↓gaC, ↓gaN, gaP, Nat.reduceEqDiff, Nat.reduceLeDiff, Nat.reduceAdd, Nat.reduceSub, Nat.reduceMul, Int.reduceLT, Int.reduceLE, Int.reduceEq, Int.reduceToNat, Int.reduceAdd, Int.reduceSub, Int.reduceMul, reduceCtorEq, ↓reduceIte], by simp only [↓gaW, ↓gaV, ↓gaC, ↓gaN, gaP, Nat.reduceEqDiff, Nat.reduceLeDiff, Nat.reduceAdd, Nat.reduceSub, Nat.reduceMul, Int.reduceLT, Int.reduceLE, Int.reduceEq, Int.reduceToNat, Int.reduceAdd, Int.reduceSub, Int.reduceMul, reduceCtorEq, ↓reduceIte], rfl, by omega, F2, ho2⟩ ?_ ?_ (fun _ _ h => h.elim)
  · intro SS hJ _ j f m
    rintro ⟨t, x, g, A', rfl, ht, f0, f3, rfl, hx, hF, hgr⟩
    rw [hl] at hz
    have e1 : (((n + 1 + t : Nat) : Int)).tmod 64 = (((n + 1 + t) % 64 : Nat) : Int) := by rw [Int.tmod_eq_emod_of_nonneg (by omega)]; omega
    by_cases h56 : (((n + 1 + t) % 64 : Nat) : Int) = 56
    · have : t = zs n := by omega
      subst this
      simp only [↓gaW, ↓gaV, ↓gaC, ↓gaN, gaP, Nat.reduceEqDiff, Nat.reduceLeDiff, Nat.reduceAdd, Nat.reduceSub, Nat.reduceMul, Int.reduceLT, Int.reduceLE, Int.reduceEq, Int.reduceToNat, Int.reduceAdd, Int.reduceSub, Int.reduceMul, reduceCtorEq, ↓reduceIte, f3, e1, h56, decide_true, Bool.not_true]
      repeat refine And.intro (by first | omega | (simp; done) | (simp; omega) | exact all1 rfl) ?_
      exact hJ _ _ ⟨x, g, A', by simp only [↓gaW, ↓gaV, ↓gaC, ↓gaN, gaP, Nat.reduceEqDiff, Nat.reduceLeDiff, Nat.reduceAdd, Nat.reduceSub, Nat.reduceMul, Int.reduceLT, Int.reduceLE, Int.reduceEq, Int.reduceToNat, Int.reduceAdd, Int.reduceSub, Int.reduceMul, reduceCtorEq, ↓reduceIte, f0], by simp only [↓gaW, ↓gaV, ↓gaC, ↓gaN, gaP, Nat.reduceEqDiff, Nat.reduceLeDiff, Nat.reduceAdd, Nat.reduceSub, Nat.reduceMul, Int.reduceLT, Int.reduceLE, Int.reduceEq, Int.reduceToNat, Int.reduceAdd, Int.reduceSub, Int.reduceMul, reduceCtorEq, ↓reduceIte, f3], rfl, hx, hF, hgr⟩
    · have hrow2 : ∀ b, rowOf ⟨x + 1, b, upd g x (some (.cells [.int .u8 0] false))⟩ (some ⟨x, 0, none⟩) 1 = some [u8V 0] := fun b => by simp [rowOf, upd]; rfl
      simp only [↓gaW, ↓gaV, ↓gaC, ↓gaN, gaP, Nat.reduceEqDiff, Nat.reduceLeDiff, Nat.reduceAdd, Nat.reduceSub, Nat.reduceMul, Int.reduceLT, Int.reduceLE, Int.reduceEq, Int.reduceToNat, Int.reduceAdd, Int.reduceSub, Int.reduceMul, reduceCtorEq, ↓reduceIte, List.getD_cons_zero, List.getD_cons_succ, fillL, splice, List.take_zero, List.drop_zero, List.drop_succ_cons, List.take_succ_cons, List.drop_nil, List.take_nil, f3, e1, h56, decide_false, Bool.not_false, Nat.zero_add]
      repeat refine And.intro (by first | omega | (simp; done) | (simp; omega) | exact all1 rfl) ?_
      simp only [hrow2, asO_e]
      refine grow_append (nx := nx) (k := 1) (hgr.keep (Nat.le_succ _) (fun p hp => by simp only [upd_e]; rw [if_neg (by omega)])) (by omega) (by omega) (by omega) (by omega) rfl (all1 rfl) (by omega) (by omega) fun g3 k3 ho3 => ?_
      simp only [↓gaW, ↓gaV, ↓gaC, ↓gaN, gaP, Nat.reduceEqDiff, Nat.reduceLeDiff, Nat.reduceAdd, Nat.reduceSub, Nat.reduceMul, Int.reduceLT, Int.reduceLE, Int.reduceEq, Int.reduceToNat, Int.reduceAdd, Int.reduceSub, Int.reduceMul, reduceCtorEq, ↓reduceIte, loopK_n]
      refine ⟨zs n - (t + 1), by omega, t + 1, x + 1 + 1, g3, some ⟨x + 1, 0, some 1⟩, rfl, by omega, f0, rfl, rfl, by omega, fun p hp => by rw [k3 p hp]; simp only [upd_e]; rw [if_neg (by omega), hF p hp], .inl ?_⟩
      have e2 : (l ++ 128 :: List.replicate (t + 1) (0 : UInt8)).map u8V = (l ++ 128 :: List.replicate t 0).map u8V ++ [u8V 0] := by
        rw [List.replicate_succ']; simp
      rw [e2]
      exact ho3
  · rintro f m ⟨x, g, A', f0, f3, rfl, hx, hF, hgr⟩
    have hzn : zs n < 64 := Nat.mod_lt _ (by decide)
    simp only [↓gaW, ↓gaV, ↓gaC, ↓gaN, gaP, Nat.reduceEqDiff, Nat.reduceLeDiff, Nat.reduceAdd, Nat.reduceSub, Nat.reduceMul, Int.reduceLT, Int.reduceLE, Int.reduceEq, Int.reduceToNat, Int.reduceAdd, Int.reduceSub, Int.reduceMul, reduceCtorEq, ↓reduceIte, f0, u64_i (n : Int) (by omega), hq8, u64_i ((n * 8 : Nat) : Int) (by omega)]
    refine callK_of (ct_rBytes (n := n * 8) (many := 8) (by omega) (by omega)) (fun v x3 g3 l3 k3 hC => ?_) (by omega)
    obtain ⟨sl, rfl, hby⟩ := hC
    have hok : byOk (n * 8) 8 = true := by
      simp only [byOk]
      have : n * 8 < 256 ^ (8 : Int).toNat := by show _ < 256 ^ 8; omega
      simp [this]
      omega
    rw [hok] at hby ⊢
    obtain ⟨A8, n8, c8, rfl, hc8, hl8, hr8⟩ := hby
    have hn8 : n8 = 8 := by rw [← hl8]; simp [be]
    subst hn8
    have hrow8 : ∀ b, rowOf ⟨x3, b, g3⟩ A8 8 = some _ := fun b => hr8.rowOf
    simp only [↓gaW, ↓gaV, ↓gaC, ↓gaN, gaP, Nat.reduceEqDiff, Nat.reduceLeDiff, Nat.reduceAdd, Nat.reduceSub, Nat.reduceMul, Int.reduceLT, Int.reduceLE, Int.reduceEq, Int.reduceToNat, Int.reduceAdd, Int.reduceSub, Int.reduceMul, reduceCtorEq, ↓reduceIte, f3, hrow8]
    repeat refine And.intro (by first | omega | (simp; done) | (simp; omega) | exact all1 rfl) ?_
    refine grow_append (nx := nx) (k := 8) (hgr.keep l3 k3) (by omega) (by omega) (by omega) (by omega) (by simp [be]) (all_u8 _) (by omega) (by omega) fun g4 k4 ho4 => ?_
    have hpad : (l ++ 128 :: List.replicate (zs n) (0 : UInt8)).map u8V ++ (be 8 (n * 8)).map u8V = (padS l).map u8V := by
      rw [padS, hl, Nat.mod_eq_of_lt (by omega)]
      simp
      rfl
    have hlen : n + 1 + zs n + 8 = (padS l).length := by rw [padS_len, hl]; omega
    rw [hpad, hlen] at ho4
    rw [hlen]
    simp only [↓gaW, ↓gaV, ↓gaC, ↓gaN, gaP, Nat.reduceEqDiff, Nat.reduceLeDiff, Nat.reduceAdd, Nat.reduceSub, Nat.reduceMul, Int.reduceLT, Int.reduceLE, Int.reduceEq, Int.reduceToNat, Int.reduceAdd, Int.reduceSub, Int.reduceMul, reduceCtorEq, ↓reduceIte, gaE, implies_true, Nat.le_refl, Int.sub_zero, Nat.sub_zero, Int.le_refl, true_or, or_true]
    exact ⟨by omega, fun q hq => by rw [k4 q hq, k3 q (by omega), hF q hq], _, rfl, by simpa using ho4.row⟩

theorem ct_rOf {A : Option Addr} {n c : Nat} {l : List UInt8} (hA : Row nx gt 1 A n (l.map u8V)) (hc : n ≤ c) (hn : n < 10000000000) :
    Ct Try.prog 17 [.slice A n c] nx gt fun v _ _ => v = .agg ((sha l).map u8V).toArray := by
  have hl : l.length = n := by simpa using hA.len
  refine Ct.of hmx r_lanyardref06_Of (by simp [c_lanyardref06_Of]) fun b hb => ?_
  have kA : ∀ {v1 v2 : Blk}, ∀ p, p < nx → upd (upd gt nx (some v1)) (nx + 1) (some v2) p = gt p := fun p hp => by simp only [upd_e]; rw [if_neg (by omega), if_neg (by omega)]
  simp only [c_lanyardref06_Of, ↓gaW, ↓gaV, ↓gaC, ↓gaN, gaP, Nat.reduceEqDiff, Nat.reduceLeDiff, Nat.reduceAdd, Nat.reduceSub, Nat.reduceMul, Int.reduceLT, Int.reduceLE, Int.reduceEq, Int.reduceToNat, Int.reduceAdd, Int.reduceSub, Int.reduceMul, reduceCtorEq, ↓reduceIte, List.getD_cons_zero, List.getD_cons_succ, fillL, splice, List.take_zero, List.drop_zero, List.drop_succ_cons, List.take_succ_cons, List.drop_nil, List.take_nil]
  refine callK_of (ct_filled (hA.keep (by omega) kA) hc hn) (fun v x1 g1 l1 k1 hC => ?_) (by omega)
  obtain ⟨A', rfl, hF1⟩ := hC
  have F1 : ∀ p, p < nx → g1 p = gt p := fun p hp => by rw [k1 p (by omega)]; exact kA p hp
  have O1 : g1 nx = some (.cells ((List.replicate 32 (0 : UInt8)).map u8V) false) := by rw [k1 nx (by omega)]; simp only [upd_e]; rw [if_neg (by omega), if_true]; rfl
  have S1 : g1 (nx + 1) = some (.cells (ivs.map u32V) false) := by rw [k1 (nx + 1) (by omega)]; simp only [upd_e, if_true]; rfl
  obtain ⟨pd, hpd⟩ : ∃ pd, padS l = pd := ⟨_, rfl⟩
  have hsha : sha l = outS (goB (pd.length / 64) ivs pd) := by rw [sha, hpd]
  have hmod := padS_mod l
  have hplen := padS_len l
  have hzn : zs l.length < 64 := Nat.mod_lt _ (by decide)
  rw [hpd] at hF1 hmod hplen ⊢
  rw [hsha]
  obtain ⟨T, hT⟩ : ∃ T, pd.length / 64 = T := ⟨_, rfl⟩
  have hpT : pd.length = 64 * T := by omega
  rw [hT]
  rw [hpT] at hF1
  simp only [↓gaW, ↓gaV, ↓gaC, ↓gaN, gaP, Nat.reduceEqDiff, Nat.reduceLeDiff, Nat.reduceAdd, Nat.reduceSub, Nat.reduceMul, Int.reduceLT, Int.reduceLE, Int.reduceEq, Int.reduceToNat, Int.reduceAdd, Int.reduceSub, Int.reduceMul, reduceCtorEq, ↓reduceIte, hpT]
  refine bloop_of (fun f m => ∃ (x p : Nat) (g : Nat → Option Blk), f 2 = .pointer (some ⟨nx, 0, none⟩) ∧ f 3 = .slice (some ⟨p, 0, none⟩) 8 8 ∧ m = ⟨x, b, g⟩ ∧ nx + 2 ≤ x ∧ (∀ p, p < nx → g p = gt p) ∧ g nx = some (.cells ((List.replicate 32 (0 : UInt8)).map u8V) false) ∧ nx < p ∧ p < x ∧ g p = some (.cells ((goB T ivs pd).map u32V) false)) (fun _ _ => False)
    (fun j f m => ∃ (t x p : Nat) (g : Nat → Option Blk), j = T - t ∧ t ≤ T ∧ f 2 = .pointer (some ⟨nx, 0, none⟩) ∧ f 3 = .slice (some ⟨p, 0, none⟩) 8 8 ∧ f 4 = .slice A' (64 * T) (64 * T) ∧ f 5 = .int .i64 ((64 * t : Nat) : Int) ∧ m = ⟨x, b, g⟩ ∧ nx + 2 ≤ x ∧ (∀ p, p < nx → g p = gt p) ∧ g nx = some (.cells ((List.replicate 32 (0 : UInt8)).map u8V) false) ∧ nx < p ∧ p < x ∧ g p = some (.cells ((goB t ivs pd).map u32V) false) ∧ Row x g 1 A' (64 * T) (pd.map u8V)) T
    ⟨0, x1, nx + 1, g1, by omega, by omega, by simp only [↓gaW, ↓gaV, ↓gaC, ↓gaN, gaP, Nat.reduceEqDiff, Nat.reduceLeDiff, Nat.reduceAdd, Nat.reduceSub, Nat.reduceMul, Int.reduceLT, Int.reduceLE, Int.reduceEq, Int.reduceToNat, Int.reduceAdd, Int.reduceSub, Int.reduceMul, reduceCtorEq, ↓reduceIte], by simp only [↓gaW, ↓gaV, ↓gaC, ↓gaN, gaP, Nat.reduceEqDiff, Nat.reduceLeDiff, Nat.reduceAdd, Nat.reduceSub, Nat.reduceMul, Int.reduceLT, Int.reduceLE, Int.reduceEq, Int.reduceToNat, Int.reduceAdd, Int.reduceSub, Int.reduceMul, reduceCtorEq, ↓reduceIte], by simp only [↓gaW, ↓gaV, ↓gaC, ↓gaN, gaP, Nat.reduceEqDiff, Nat.reduceLeDiff, Nat.reduceAdd, Nat.reduceSub, Nat.reduceMul, Int.reduceLT, Int.reduceLE, Int.reduceEq, Int.reduceToNat, Int.reduceAdd, Int.reduceSub, Int.reduceMul, reduceCtorEq, ↓reduceIte], by simp only [↓gaW, ↓gaV, ↓gaC, ↓gaN, gaP, Nat.reduceEqDiff, Nat.reduceLeDiff, Nat.reduceAdd, Nat.reduceSub, Nat.reduceMul, Int.reduceLT, Int.reduceLE, Int.reduceEq, Int.reduceToNat, Int.reduceAdd, Int.reduceSub, Int.reduceMul, reduceCtorEq, ↓reduceIte], rfl, l1, F1, O1, by omega, by omega, S1, hF1⟩ ?_ ?_ (fun _ _ h => h.elim)
  · intro SS hJ _ j f m
    rintro ⟨t, x, p, g, rfl, ht, f2, f3, f4, f5, rfl, hx, hF, hO, p0, p1, p2, hP⟩
    by_cases hlt : ((64 * t : Nat) : Int) < ((64 * T : Nat) : Int)
    · obtain ⟨a, ce, ro, rfl, a1, a2, a3, a4⟩ := hP.cells (by omega)
      have hsp := hP.spot a rfl
      have hpart := hP.part (lo := 64 * t) (hi := 64 * t + 64) (by omega) (by omega) rfl
      rw [show 64 * t + 64 - 64 * t = 64 by omega, ← List.map_drop, ← List.map_take] at hpart
      have e1 : ((64 * t : Nat) : Int) + 64 = ((64 * t + 64 : Nat) : Int) := by omega
      have e2 : (((64 * t + 64 : Nat) : Int) - ((64 * t : Nat) : Int)).toNat = 64 := by omega
      have e3 : ((64 * T : Nat) : Int) - ((64 * t : Nat) : Int) = ((64 * T - 64 * t : Nat) : Int) := by omega
      have hgl : (goB t ivs pd).length = 8 := goB_len rfl _ _
      have hS : Row x g 1 (some ⟨p, 0, none⟩) 8 ((goB t ivs pd).map u32V) := ⟨fun a ha => by injection ha with ha; subst ha; exact .inl rfl, by simp [hgl], fun _ => ⟨_, _, false, rfl, p1, p2, by simp [hgl], fun i hi => by simp⟩⟩
      simp only [↓gaW, ↓gaV, ↓gaC, ↓gaN, gaP, Nat.reduceEqDiff, Nat.reduceLeDiff, Nat.reduceAdd, Nat.reduceSub, Nat.reduceMul, Int.reduceLT, Int.reduceLE, Int.reduceEq, Int.reduceToNat, Int.reduceAdd, Int.reduceSub, Int.reduceMul, reduceCtorEq, ↓reduceIte, f3, f4, f5, hlt, decide_true, e1, i64_w ((64 * t + 64 : Nat) : Int) (by omega), e2, e3, Int.toNat_natCast, Nat.mul_one]
      repeat refine And.intro (by first | omega | (rcases hsp with h | h <;> simp [h]; done)) ?_
      refine callK_of (ct_through hS (by omega) hpart (by omega)) (fun v x2 g2 l2 k2 hC => ?_) (by omega)
      obtain ⟨p', rfl, h1, h2, h3⟩ := hC
      simp only [↓gaW, ↓gaV, ↓gaC, ↓gaN, gaP, Nat.reduceEqDiff, Nat.reduceLeDiff, Nat.reduceAdd, Nat.reduceSub, Nat.reduceMul, Int.reduceLT, Int.reduceLE, Int.reduceEq, Int.reduceToNat, Int.reduceAdd, Int.reduceSub, Int.reduceMul, reduceCtorEq, ↓reduceIte, f5, e1, i64_w ((64 * t + 64 : Nat) : Int) (by omega), loopK_n]
      refine ⟨T - (t + 1), by omega, t + 1, x2, p', g2, rfl, by omega, f2, rfl, f4, by rw [show 64 * (t + 1) = 64 * t + 64 by omega], rfl, by omega, fun q hq => by rw [k2 q (by omega), hF q hq], by rw [k2 nx (by omega), hO], by omega, h2, by rw [h3, goB_succ], hP.keep l2 k2⟩
    · have hT : t = T := by omega
      subst hT
      simp only [↓gaW, ↓gaV, ↓gaC, ↓gaN, gaP, Nat.reduceEqDiff, Nat.reduceLeDiff, Nat.reduceAdd, Nat.reduceSub, Nat.reduceMul, Int.reduceLT, Int.reduceLE, Int.reduceEq, Int.reduceToNat, Int.reduceAdd, Int.reduceSub, Int.reduceMul, reduceCtorEq, ↓reduceIte, f4, f5, hlt, decide_false, loopK_e]
      exact hJ _ _ ⟨x, p, g, by simp only [↓gaW, ↓gaV, ↓gaC, ↓gaN, gaP, Nat.reduceEqDiff, Nat.reduceLeDiff, Nat.reduceAdd, Nat.reduceSub, Nat.reduceMul, Int.reduceLT, Int.reduceLE, Int.reduceEq, Int.reduceToNat, Int.reduceAdd, Int.reduceSub, Int.reduceMul, reduceCtorEq, ↓reduceIte, f2], by simp only [↓gaW, ↓gaV, ↓gaC, ↓gaN, gaP, Nat.reduceEqDiff, Nat.reduceLeDiff, Nat.reduceAdd, Nat.reduceSub, Nat.reduceMul, Int.reduceLT, Int.reduceLE, Int.reduceEq, Int.reduceToNat, Int.reduceAdd, Int.reduceSub, Int.reduceMul, reduceCtorEq, ↓reduceIte, f3], rfl, hx, hF, hO, p0, p1, p2⟩
  · rintro f m ⟨x, p, g, f2, f3, rfl, hx, hF, hO, p0, p1, p2⟩
    obtain ⟨W2, hW2⟩ : ∃ W, goB T ivs pd = W := ⟨_, rfl⟩
    have hwl : W2.length = 8 := by rw [← hW2]; exact goB_len rfl _ _
    rw [hW2] at p2 ⊢
    simp only [↓gaW, ↓gaV, ↓gaC, ↓gaN, gaP, Nat.reduceEqDiff, Nat.reduceLeDiff, Nat.reduceAdd, Nat.reduceSub, Nat.reduceMul, Int.reduceLT, Int.reduceLE, Int.reduceEq, Int.reduceToNat, Int.reduceAdd, Int.reduceSub, Int.reduceMul, reduceCtorEq, ↓reduceIte]
    refine loop_of (fun j f m => ∃ (t : Nat) (g : Nat → Option Blk), j = 32 - t ∧ t ≤ 32 ∧ f 2 = .pointer (some ⟨nx, 0, none⟩) ∧ f 3 = .slice (some ⟨p, 0, none⟩) 8 8 ∧ f 6 = .pointer (some ⟨x, 0, none⟩) ∧ f 7 = .int .i64 (t : Nat) ∧ m = ⟨x + 1, b, g⟩ ∧ (∀ p, p < nx → g p = gt p) ∧ g nx = some (.cells ((List.replicate 32 (0 : UInt8)).map u8V) false) ∧ g p = some (.cells (W2.map u32V) false) ∧ g x = some (.cells (((outS W2).take t ++ List.replicate (32 - t) 0).map u8V) false)) 32
      ⟨0, _, by omega, by omega, by simp only [↓gaW, ↓gaV, ↓gaC, ↓gaN, gaP, Nat.reduceEqDiff, Nat.reduceLeDiff, Nat.reduceAdd, Nat.reduceSub, Nat.reduceMul, Int.reduceLT, Int.reduceLE, Int.reduceEq, Int.reduceToNat, Int.reduceAdd, Int.reduceSub, Int.reduceMul, reduceCtorEq, ↓reduceIte, f2], by simp only [↓gaW, ↓gaV, ↓gaC, ↓gaN, gaP, Nat.reduceEqDiff, Nat.reduceLeDiff, Nat.reduceAdd, Nat.reduceSub, Nat.reduceMul, Int.reduceLT, Int.reduceLE, Int.reduceEq, Int.reduceToNat, Int.reduceAdd, Int.reduceSub, Int.reduceMul, reduceCtorEq, ↓reduceIte, f3], by simp only [↓gaW, ↓gaV, ↓gaC, ↓gaN, gaP, Nat.reduceEqDiff, Nat.reduceLeDiff, Nat.reduceAdd, Nat.reduceSub, Nat.reduceMul, Int.reduceLT, Int.reduceLE, Int.reduceEq, Int.reduceToNat, Int.reduceAdd, Int.reduceSub, Int.reduceMul, reduceCtorEq, ↓reduceIte], by simp only [↓gaW, ↓gaV, ↓gaC, ↓gaN, gaP, Nat.reduceEqDiff, Nat.reduceLeDiff, Nat.reduceAdd, Nat.reduceSub, Nat.reduceMul, Int.reduceLT, Int.reduceLE, Int.reduceEq, Int.reduceToNat, Int.reduceAdd, Int.reduceSub, Int.reduceMul, reduceCtorEq, ↓reduceIte], rfl, fun q hq => by simp only [upd_e]; rw [if_neg (by omega), hF q hq], by simp only [upd_e]; rw [if_neg (by omega), hO], by simp only [upd_e]; rw [if_neg (by omega), p2], by simp only [upd_e, if_true]; rfl⟩ ?_
    rintro j f m ⟨t, g, rfl, ht, f2, f3, f6, f7, rfl, hF, hO, hgH, hgx⟩
    have hol := outS_len W2
    by_cases hlt : (t : Int) < 32
    · have ht32 : t < 32 := by omega
      have hst := fill8_step (l := outS W2) (n := 32) hol ht32
      rw [outS_get ht32] at hst
      have d1 : (t : Int).tdiv 4 = ((t / 4 : Nat) : Int) := by rw [Int.tdiv_eq_ediv_of_nonneg (by omega)]; omega
      have d2 : (t : Int).tmod 4 = ((t % 4 : Nat) : Int) := by rw [Int.tmod_eq_emod_of_nonneg (by omega)]; omega
      have d3 : (8 : Int) * ((t % 4 : Nat) : Int) = ((8 * (t % 4) : Nat) : Int) := by omega
      have d4 : (24 : Int) - ((8 * (t % 4) : Nat) : Int) = ((24 - 8 * (t % 4) : Nat) : Int) := by omega
      have d5 : shrV .u32 ((((W2.getD (t / 4) 0).toNat : Nat)) : Int) ((24 - 8 * (t % 4) : Nat) : Int) = (((W2.getD (t / 4) 0).toNat / 2 ^ (24 - 8 * (t % 4)) : Nat) : Int) := shr_nat (k := .u32) _ _ (by show _ ≤ 32; omega)
      have hcw := getD_u32 (l := W2) (i := t / 4) (by omega)
      have q1 : (t : Int) + 1 = ((t + 1 : Nat) : Int) := by omega
      have hu : ∀ n : Nat, Value.int .u8 (IntKind.u8.wrap (n : Int)) = u8V (UInt8.ofNat n) := fun n => by rw [u8_of]; rfl
      have hcl : ∀ v : UInt8, cellsV (u8V v) = some [u8V v] := fun _ => rfl
      simp only [↓gaW, ↓gaV, ↓gaC, ↓gaN, gaP, Nat.reduceEqDiff, Nat.reduceLeDiff, Nat.reduceAdd, Nat.reduceSub, Nat.reduceMul, Int.reduceLT, Int.reduceLE, Int.reduceEq, Int.reduceToNat, Int.reduceAdd, Int.reduceSub, Int.reduceMul, reduceCtorEq, ↓reduceIte, f3, f6, f7, hlt, decide_true, hgH, hgx, d1, d2, d3, d4, d5, i64_w ((t / 4 : Nat) : Int) (by omega), i64_w ((8 * (t % 4) : Nat) : Int) (by omega), i64_w ((24 - 8 * (t % 4) : Nat) : Int) (by omega), Int.toNat_natCast, Nat.mul_one, Nat.zero_add, hcw, hu, hcl, hst]
      repeat refine And.intro (by first | omega | (simp [hol]; omega) | (simp [hwl]; omega) | exact all1 rfl) ?_
      simp only [↓gaW, ↓gaV, ↓gaC, ↓gaN, gaP, Nat.reduceEqDiff, Nat.reduceLeDiff, Nat.reduceAdd, Nat.reduceSub, Nat.reduceMul, Int.reduceLT, Int.reduceLE, Int.reduceEq, Int.reduceToNat, Int.reduceAdd, Int.reduceSub, Int.reduceMul, reduceCtorEq, ↓reduceIte, f7, q1, i64_w ((t + 1 : Nat) : Int) (by omega), loopK_n]
      refine ⟨32 - (t + 1), by omega, t + 1, _, rfl, by omega, f2, f3, f6, rfl, rfl, fun p hp => ?_, ?_, ?_, by simp only [upd_e, if_true]⟩
      · simp only [upd_e]; rw [if_neg (by omega), hF p hp]
      · simp only [upd_e]; rw [if_neg (by omega), hO]
      · simp only [upd_e]; rw [if_neg (by omega), hgH]
    · have h32 : t = 32 := by omega
      subst h32
      rw [Nat.sub_self, List.replicate_zero, List.append_nil, List.take_of_length_le (by omega)] at hgx
      have hLl : ((outS W2).map u8V).length = 32 := by simp [hol]
      have hLa : ∀ v ∈ (outS W2).map u8V, cellVal v = true := all_u8 _
      generalize (outS W2).map u8V = L at *
      have htk2 : List.take 32 L = L := List.take_of_length_le (by omega)
      have hsp2 : splice ((List.replicate 32 (0 : UInt8)).map u8V) 0 L = L := by simp [splice, hLl]
      simp only [↓gaW, ↓gaV, ↓gaC, ↓gaN, gaP, Nat.reduceEqDiff, Nat.reduceLeDiff, Nat.reduceAdd, Nat.reduceSub, Nat.reduceMul, Int.reduceLT, Int.reduceLE, Int.reduceEq, Int.reduceToNat, Int.reduceAdd, Int.reduceSub, Int.reduceMul, reduceCtorEq, ↓reduceIte, gaU, f2, f6, f7, hlt, decide_false, loopK_e, hgx, hO, List.drop_zero, htk2, Nat.add_zero, hsp2]
      repeat refine And.intro (by first | omega | (simp [hLl]; done) | exact hLa) ?_
      refine end_cN (q := nx) (ro := false) L (by simp only [↓gaW, ↓gaV, ↓gaC, ↓gaN, gaP, Nat.reduceEqDiff, Nat.reduceLeDiff, Nat.reduceAdd, Nat.reduceSub, Nat.reduceMul, Int.reduceLT, Int.reduceLE, Int.reduceEq, Int.reduceToNat, Int.reduceAdd, Int.reduceSub, Int.reduceMul, reduceCtorEq, ↓reduceIte, f2]) (by simp only [upd_e, if_true]) hLl ⟨rfl, by omega, fun p hp => ?_, rfl⟩
      simp only [upd_e]; rw [if_neg (by omega), hF p hp]
end
end Go.Ga

/- Equality of arrays of whole numbers. -/
namespace Go.Ga
open Go

theorem pr_bind {P : Program} {α β : Type} (s : Sem α) (f : α → Sem β) : pureRun P (s >>= f) = (pureRun P s).bind fun a => pureRun P (f a) := by
  show pureRun P (Sem.bind s f) = _
  induction s with
  | pure a => rfl
  | program k ih => simp only [Sem.bind, pureRun]; exact ih P
  | mark m k ih => simp only [Sem.bind, pureRun]; exact ih
  | _ => rfl
theorem pr_pure {P : Program} {α : Type} (a : α) : pureRun P (pure a : Sem α) = some a := rfl
theorem pr_prog {P : Program} : pureRun P program = some P := rfl
theorem pr_under {P : Program} {t : TypeId} {d : TypeDesc} (h : P.underlying t = some d) : pureRun P (underlying t) = some d := by
  simp only [underlying, pr_bind, pr_prog, Option.bind_some, h]; rfl
theorem pr_size {P : Program} {t : TypeId} {i : TypeInfo} (h : P.info? t = some i) : pureRun P (sizeOf t) = some i.size := by
  simp only [sizeOf, typeInfo, pr_bind, pr_prog, Option.bind_some, h]; rfl

def eqK (P : Program) (op : BinOp) (t : TypeId) (xs ys : Array Value) (K : Bool → Prop) : Prop :=
  xs.toList.all plain = true ∧ ys.toList.all plain = true ∧
  match pureRun P (do eqGuard op t (.tmp 0) (.tmp 0) (.agg xs) (.agg ys); binOp op t (.agg xs) (.agg ys)) with
  | some (.bool b) => K b
  | _ => False
theorem o_eqA {P : Program} {f : Regs} {m : Mem} {K : Value → Mem → Prop} (op : BinOp) (t : TypeId) (x y : Rv) : ROp.vc P f m K (.eqA op t x y) = asA (x.ev f) fun xs => asA (y.ev f) fun ys => eqK P op t xs ys fun b => K (.bool b) m := by
  dsimp only [ROp.vc, asA, eqK]
  cases x.ev f <;> first | rfl | (cases y.ev f <;> rfl)

theorem eq_ints {P : Program} {t e : TypeId} {len : Nat} {k k' : IntKind} {i : TypeInfo} (ht : P.underlying t = some (.array len e)) (he : P.underlying e = some (.int k')) (hi : P.info? e = some i) (hs : i.size = 1)
    (xs ys : List Int) (hx : xs.length = len) (hy : ys.length = len) (d : Nat) :
    pureRun P (Op.equalIn (d + 2) t (.agg (xs.map (Value.int k)).toArray) (.agg (ys.map (Value.int k)).toArray)) = some (decide (xs = ys)) := by
  have hpart : ∀ (l : List Int) j, j < l.length → pureRun P (part e (l.map (Value.int k)).toArray (j * 1)) = some (.int k (l.getD j 0)) := by
    intro l j hj
    simp only [part, isAgg, pr_bind, pr_under he, Option.bind_some, pr_pure, Nat.mul_one]
    simp [hj, List.getD_eq_getElem?_getD, pr_pure]
  have hel : ∀ a b : Int, pureRun P (Op.equalIn (d + 1) e (.int k a) (.int k b)) = some (a == b) := by
    intro a b
    rw [Op.equalIn]
    simp only [pr_bind, pr_under he, Option.bind_some, if_true]
    rfl
  have hdrop : ∀ (l : List Int) j, j < l.length → l.drop j = l.getD j 0 :: l.drop (j + 1) := fun l j hj => by
    rw [List.drop_eq_getElem_cons hj, List.getD_eq_getElem?_getD, List.getElem?_eq_getElem hj]; rfl
  have key : ∀ n s, s + n = len → pureRun P (forIn (List.range' s n) ((none, ()) : Option Bool × Unit) fun i __s => do
      let __do_lift ← part e (List.map (Value.int k) xs).toArray (i * 1)
      let __do_lift_1 ← part e (List.map (Value.int k) ys).toArray (i * 1)
      let __do_lift ← Op.equalIn (d + 1) e __do_lift __do_lift_1
      if (!__do_lift) = true then pure (ForInStep.done (some false, ())) else pure (ForInStep.yield (none, ()))) = some (if xs.drop s = ys.drop s then (none, ()) else (some false, ())) := by
    intro n
    induction n with
    | zero =>
      intro s hs
      rw [List.drop_eq_nil_of_le (by omega), List.drop_eq_nil_of_le (by omega)]
      rfl
    | succ n ih =>
      intro s hs
      rw [List.range'_succ, List.forIn_cons]
      simp only [pr_bind, hpart xs s (by omega), hpart ys s (by omega), Option.bind_some, hel]
      rw [hdrop xs s (by omega), hdrop ys s (by omega)]
      by_cases hab : xs.getD s 0 = ys.getD s 0
      · rw [hab]
        simp only [beq_self_eq_true, Bool.not_true, Bool.false_eq_true, if_false, pr_pure, Option.bind_some, List.cons.injEq, true_and]
        exact ih (s + 1) (by omega)
      · have : (xs.getD s 0 == ys.getD s 0) = false := by simpa using hab
        rw [this, if_neg (fun h => hab (List.cons.inj h).1)]
        simp only [Bool.not_false, if_true, pr_pure, Option.bind_some]
  rw [Op.equalIn]
  simp only [pr_bind, pr_under ht, Option.bind_some, pr_size hi, hs]
  simp only [Std.Legacy.Range.forIn_eq_forIn_range', Std.Legacy.Range.size]
  rw [show (len - 0 + 1 - 1) / 1 = len by omega, key len 0 (by omega), Option.bind_some]
  simp only [List.drop_zero]
  by_cases h : xs = ys <;> simp [h, pr_pure]

theorem plain_ints {k : IntKind} (xs : List Int) : (xs.map (Value.int k)).toArray.toList.all plain = true := by
  simp [plain]

theorem eqK_ints {P : Program} {t e : TypeId} {len : Nat} {k k' : IntKind} {i : TypeInfo} (ht : P.underlying t = some (.array len e)) (he : P.underlying e = some (.int k')) (hi : P.info? e = some i) (hs : i.size = 1) (hg : P.eqGuardType P.depth t = false)
    (xs ys : List Int) (hx : xs.length = len) (hy : ys.length = len) (K : Bool → Prop) :
    eqK P .eql t (xs.map (Value.int k)).toArray (ys.map (Value.int k)).toArray K = K (decide (xs = ys)) := by
  have h1 : pureRun P (do eqGuard .eql t (.tmp 0) (.tmp 0) (.agg (xs.map (Value.int k)).toArray) (.agg (ys.map (Value.int k)).toArray); binOp .eql t (.agg (xs.map (Value.int k)).toArray) (.agg (ys.map (Value.int k)).toArray)) = some (.bool (decide (xs = ys))) := by
    have e1 : pureRun P (eqGuard .eql t (.tmp 0) (.tmp 0) (.agg (xs.map (Value.int k)).toArray) (.agg (ys.map (Value.int k)).toArray)) = some () := by
      simp [eqGuard, pr_bind, pr_prog, hg, pr_pure]
    rw [pr_bind, e1, Option.bind_some]
    have := eq_ints (k := k) ht he hi hs xs ys hx hy 9998
    simp only [binOp, Op.equal, Op.maxDepth, pr_bind, this, Option.bind_some]
    rfl
  unfold eqK
  rw [h1]
  simp [plain]
theorem eqK_intsN {P : Program} {t e : TypeId} {len : Nat} {k k' : IntKind} {i : TypeInfo} (ht : P.underlying t = some (.array len e)) (he : P.underlying e = some (.int k')) (hi : P.info? e = some i) (hs : i.size = 1) (hg : P.eqGuardType P.depth t = false)
    (xs ys : List Int) (hx : xs.length = len) (hy : ys.length = len) (K : Bool → Prop) :
    eqK P .neq t (xs.map (Value.int k)).toArray (ys.map (Value.int k)).toArray K = K (!decide (xs = ys)) := by
  have h1 : pureRun P (do eqGuard .neq t (.tmp 0) (.tmp 0) (.agg (xs.map (Value.int k)).toArray) (.agg (ys.map (Value.int k)).toArray); binOp .neq t (.agg (xs.map (Value.int k)).toArray) (.agg (ys.map (Value.int k)).toArray)) = some (.bool (!decide (xs = ys))) := by
    have e1 : pureRun P (eqGuard .neq t (.tmp 0) (.tmp 0) (.agg (xs.map (Value.int k)).toArray) (.agg (ys.map (Value.int k)).toArray)) = some () := by
      simp [eqGuard, pr_bind, pr_prog, hg, pr_pure]
    rw [pr_bind, e1, Option.bind_some]
    have := eq_ints (k := k) ht he hi hs xs ys hx hy 9998
    simp only [binOp, Op.equal, Op.maxDepth, pr_bind, this, Option.bind_some]
    rfl
  unfold eqK
  rw [h1]
  simp [plain]
end Go.Ga

namespace Go.Ga
open Go Go.Proofs
set_option linter.unusedSimpArgs false
set_option linter.unusedVariables false
set_option maxRecDepth 100000
attribute [local irreducible] appendK endK endW sch comp rs sha

theorem bytes_ints (l : List UInt8) : l.map u8V = (l.map fun b => ((b.toNat : Nat) : Int)).map (Value.int .u8) := by
  rw [List.map_map]; rfl
theorem bytes_ints_inj {l l' : List UInt8} : (l.map fun b => ((b.toNat : Nat) : Int)) = (l'.map fun b => ((b.toNat : Nat) : Int)) ↔ l = l' := by
  constructor
  · intro h
    have := congrArg (List.map fun z : Int => UInt8.ofNat z.toNat) h
    rw [List.map_map, List.map_map] at this
    have e : ((fun z : Int => UInt8.ofNat z.toNat) ∘ fun b : UInt8 => ((b.toNat : Nat) : Int)) = id := by funext b; simp [Function.comp]
    rw [e, List.map_id, List.map_id] at this
    exact this
  · rintro rfl; rfl
theorem eq32 {l l' : List UInt8} (hx : l.length = 32) (hy : l'.length = 32) (K : Bool → Prop) : eqK Try.prog .eql 28 (l.map u8V).toArray (l'.map u8V).toArray K = K (decide (l = l')) := by
  rw [bytes_ints, bytes_ints, eqK_ints (P := Try.prog) (t := 28) (e := 5) (len := 32) (k' := .u8) (i := ((Try.prog).info? 5).get (by kernel_rfl)) (by kernel_rfl) (by kernel_rfl) (Option.some_get _).symm (by kernel_rfl) (by kernel_rfl) _ _ (by simpa using hx) (by simpa using hy) K]
  congr 1
  exact decide_eq_decide.2 bytes_ints_inj
theorem ne32 {l l' : List UInt8} (hx : l.length = 32) (hy : l'.length = 32) (K : Bool → Prop) : eqK Try.prog .neq 28 (l.map u8V).toArray (l'.map u8V).toArray K = K (!decide (l = l')) := by
  rw [bytes_ints, bytes_ints, eqK_intsN (P := Try.prog) (t := 28) (e := 5) (len := 32) (k' := .u8) (i := ((Try.prog).info? 5).get (by kernel_rfl)) (by kernel_rfl) (by kernel_rfl) (Option.some_get _).symm (by kernel_rfl) (by kernel_rfl) _ _ (by simpa using hx) (by simpa using hy) K]
  congr 2
  exact decide_eq_decide.2 bytes_ints_inj

theorem sha_len (l : List UInt8) : (sha l).length = 32 := by unfold sha; exact outS_len _

theorem asC_cvB {v : Value} : v = v := rfl
def cvK (m : Mem) (a : Addr) (n c : Nat) (K : Value → Mem → Prop) : Blk → Prop
  | .cells _ ro => ro = false ∧ m.bar ≤ a.block ∧ 0 < c ∧ K (.slice (some a) n c) m
  | .map _ => False
theorem o_cvB {P : Program} {f : Regs} {m : Mem} {K : Value → Mem → Prop} (x : Rv) : ROp.vc P f m K (.cvB x) = asS (x.ev f) fun A n c => asO A fun a => asC (m.get a.block) fun _ ro => ro = false ∧ m.bar ≤ a.block ∧ 0 < c ∧ K (.slice (some a) n c) m := by
  dsimp only [ROp.vc, asS, asO, asC]
  cases x.ev f with
  | slice A n c =>
    cases A with
    | none => rfl
    | some a =>
      dsimp only
      cases m.get a.block with
      | none => rfl
      | some b =>
        cases b with
        | map es => rfl
        | cells l ro =>
          cases ro with
          | false => exact propext ⟨fun h => ⟨rfl, h⟩, fun h => h.2⟩
          | true => exact propext ⟨fun h => h.elim, fun h => by cases h.1⟩
  | _ => rfl

section
variable {nx : Nat} {gt : Nat → Option Blk}

theorem row20 {x : Nat} {g : Nat → Option Blk} {l : List UInt8} (hl : l.length = 32) (hg : g x = some (.cells (l.map u8V) false)) : Row (x + 1) g 1 (some ⟨x, 0, none⟩) 20 ((l.take 20).map u8V) := by
  have hr1 := (row8 (x := x + 1) (q := x) (g := g) (w := l) (ro := false) (by omega) hg hl).part (lo := 0) (hi := 20) (by omega) (by omega) rfl
  rw [List.drop_zero, Nat.sub_zero, ← List.map_take] at hr1
  exact hr1

theorem ct_Name {A : Option Addr} {n c : Nat} {l : List UInt8} (hA : Row nx gt 1 A n (l.map u8V)) (hc : n ≤ c) (hn : n < 10000000000) :
    Ct Try.prog 18 [.slice A n c] nx gt fun v _ _ => v = .string ⟨(hexL ((sha l).take 20)).toArray⟩ := by
  refine Ct.of hmx r_sha_Name (by simp [c_sha_Name]) fun b hb => ?_
  simp only [c_sha_Name, ↓gaW, ↓gaV, ↓gaC, ↓gaN, gaP, Nat.reduceEqDiff, Nat.reduceLeDiff, Nat.reduceAdd, Nat.reduceSub, Nat.reduceMul, Int.reduceLT, Int.reduceLE, Int.reduceEq, Int.reduceToNat, Int.reduceAdd, Int.reduceSub, Int.reduceMul, reduceCtorEq, ↓reduceIte]
  refine callK_of (ct_Of hA hc hn) (fun v x1 g1 l1 k1 hC => ?_) (by omega)
  subst hC
  have hsl := sha_len l
  have hLa : ∀ v ∈ (sha l).map u8V, cellVal v = true := all_u8 _
  have hsp2 : splice ((List.replicate 32 (0 : UInt8)).map u8V) 0 ((sha l).map u8V) = (sha l).map u8V := by simp [splice, hsl]
  simp only [↓gaW, ↓gaV, ↓gaC, ↓gaN, gaP, Nat.reduceEqDiff, Nat.reduceLeDiff, Nat.reduceAdd, Nat.reduceSub, Nat.reduceMul, Int.reduceLT, Int.reduceLE, Int.reduceEq, Int.reduceToNat, Int.reduceAdd, Int.reduceSub, Int.reduceMul, reduceCtorEq, ↓reduceIte, gaU, Nat.add_zero]
  refine And.intro (by simp [hsl]) (And.intro (by omega) (And.intro (by simp [hsl]) (And.intro hLa ?_)))
  refine callK_of (ct_Hex (row20 hsl (by simp only [upd_e, if_true]; exact congrArg (fun l => some (Blk.cells l false)) hsp2)) (by omega)) (fun v x2 g2 l2 k2 hC => ?_) (by omega)
  subst hC
  simp only [↓gaW, ↓gaV, ↓gaC, ↓gaN, gaP, Nat.reduceEqDiff, Nat.reduceLeDiff, Nat.reduceAdd, Nat.reduceSub, Nat.reduceMul, Int.reduceLT, Int.reduceLE, Int.reduceEq, Int.reduceToNat, Int.reduceAdd, Int.reduceSub, Int.reduceMul, reduceCtorEq, ↓reduceIte, gaE, implies_true, Nat.le_refl, Int.sub_zero, Nat.sub_zero, Int.le_refl, true_or, or_true]
  refine ⟨by omega, fun q hq => ?_⟩
  rw [k2 q (by omega)]; simp only [upd_e]; rw [if_neg (by omega), if_neg (by omega), k1 q hq]

theorem ct_rName {A : Option Addr} {n c : Nat} {l : List UInt8} (hA : Row nx gt 1 A n (l.map u8V)) (hc : n ≤ c) (hn : n < 10000000000) :
    Ct Try.prog 19 [.slice A n c] nx gt fun v _ _ => v = .string ⟨(hexL ((sha l).take 20)).toArray⟩ := by
  refine Ct.of hmx r_lanyardref06_Name (by simp [c_lanyardref06_Name]) fun b hb => ?_
  simp only [c_lanyardref06_Name, ↓gaW, ↓gaV, ↓gaC, ↓gaN, gaP, Nat.reduceEqDiff, Nat.reduceLeDiff, Nat.reduceAdd, Nat.reduceSub, Nat.reduceMul, Int.reduceLT, Int.reduceLE, Int.reduceEq, Int.reduceToNat, Int.reduceAdd, Int.reduceSub, Int.reduceMul, reduceCtorEq, ↓reduceIte]
  refine callK_of (ct_rOf hA hc hn) (fun v x1 g1 l1 k1 hC => ?_) (by omega)
  subst hC
  have hsl := sha_len l
  have hLa : ∀ v ∈ (sha l).map u8V, cellVal v = true := all_u8 _
  have hsp2 : splice ((List.replicate 32 (0 : UInt8)).map u8V) 0 ((sha l).map u8V) = (sha l).map u8V := by simp [splice, hsl]
  simp only [↓gaW, ↓gaV, ↓gaC, ↓gaN, gaP, Nat.reduceEqDiff, Nat.reduceLeDiff, Nat.reduceAdd, Nat.reduceSub, Nat.reduceMul, Int.reduceLT, Int.reduceLE, Int.reduceEq, Int.reduceToNat, Int.reduceAdd, Int.reduceSub, Int.reduceMul, reduceCtorEq, ↓reduceIte, gaU, Nat.add_zero]
  refine And.intro (by simp [hsl]) (And.intro (by omega) (And.intro (by simp [hsl]) (And.intro hLa ?_)))
  refine callK_of (ct_rHex (row20 hsl (by simp only [upd_e, if_true]; exact congrArg (fun l => some (Blk.cells l false)) hsp2)) (by omega)) (fun v x2 g2 l2 k2 hC => ?_) (by omega)
  subst hC
  simp only [↓gaW, ↓gaV, ↓gaC, ↓gaN, gaP, Nat.reduceEqDiff, Nat.reduceLeDiff, Nat.reduceAdd, Nat.reduceSub, Nat.reduceMul, Int.reduceLT, Int.reduceLE, Int.reduceEq, Int.reduceToNat, Int.reduceAdd, Int.reduceSub, Int.reduceMul, reduceCtorEq, ↓reduceIte, gaE, implies_true, Nat.le_refl, Int.sub_zero, Nat.sub_zero, Int.le_refl, true_or, or_true]
  refine ⟨by omega, fun q hq => ?_⟩
  rw [k2 q (by omega)]; simp only [upd_e]; rw [if_neg (by omega), if_neg (by omega), k1 q hq]
end
end Go.Ga

namespace Go.Ga
open Go Go.Proofs
set_option linter.unusedSimpArgs false
set_option linter.unusedVariables false
set_option maxRecDepth 100000
attribute [local irreducible] appendK endK endW sch comp rs sha

def awkT : RC :=
  (.tree [
  ⟨(some 16), (.op (.loadN 32 (.t 2))), none⟩,
  ⟨(some 17), (.op (.mkSl 3 [(.int .u8 0), (.int .u8 0), (.int .u8 0)] [(0, (1, (.k (.int .u8 97)))), (1, (1, (.k (.int .u8 98)))), (2, (1, (.k (.int .u8 99))))])), none⟩,
  ⟨(some 18), (.op (.cvB (.t 17))), none⟩,
  ⟨(some 19), (.call (.k (.func (.func 16) #[] #[])) [(.t 18)]), none⟩,
  ⟨(some 20), (.op (.eqA .eql 28 (.t 16) (.t 19))), none⟩,
  ⟨(some 21), (.op (.mv (.t 20))), none⟩,
  ⟨(some 22), (.op (.ixAddrA 32 1 (.t 2) (.k (.int .i64 0)))), (some (21, true))⟩,
  ⟨(some 23), (.op (.load1 (.t 22))), (some (21, true))⟩,
  ⟨(some 24), (.op (.bin .eql (.t 23) (.k (.int .u8 186)))), (some (21, true))⟩,
  ⟨(some 25), (.op (.pick (.t 21) (.t 24) (.k (.bool false)))), none⟩,
  ⟨(some 26), (.op (.mv (.t 25))), none⟩,
  ⟨(some 27), (.op (.ixAddrA 32 1 (.t 2) (.k (.int .i64 31)))), (some (26, true))⟩,
  ⟨(some 28), (.op (.load1 (.t 27))), (some (26, true))⟩,
  ⟨(some 29), (.op (.bin .eql (.t 28) (.k (.int .u8 173)))), (some (26, true))⟩,
  ⟨(some 30), (.op (.pick (.t 26) (.t 29) (.k (.bool false)))), none⟩,
  ⟨(some 0), (.op (.mv (.t 30))), none⟩] d_lanyardlaw06_awake q_lanyardlaw06_awake)

section
variable {nx : Nat} {gt : Nat → Option Blk}

/-- The last region of awake, in every order. -/
theorem awk_tree {f : Regs} {x b p : Nat} {g : Nat → Option Blk} {s : Stk} (hp : p < x) (f2 : f 2 = .pointer (some ⟨p, 0, none⟩)) (hg : g p = some (.cells ((sha [97, 98, 99]).map u8V) false))
    (K : ∀ f' : Regs, f' 0 = .bool true → D Try.prog s .normal f' ⟨x, b, g⟩) : RC.vc Try.prog awkT f ⟨x, b, g⟩ (D Try.prog s) := by
  refine vc_tree_pick ⟨fun i => if i = 0 then .bool true else botV, ⟨x, b, g⟩, K _ rfl, ⟨rfl, Nat.le_refl _, fun _ _ => rfl⟩, ?_⟩
  have hsl := sha_len [97, 98, 99]
  have htk : List.take 32 ((sha [97, 98, 99]).map u8V) = (sha [97, 98, 99]).map u8V := List.take_of_length_le (by simp [hsl])
  have c0 : ((sha [97, 98, 99]).map u8V).getD 0 undef = .int .u8 186 := by
    rw [getD_u8 (by omega), sha_abc.1]; rfl
  have c31 : ((sha [97, 98, 99]).map u8V).getD 31 undef = .int .u8 173 := by
    rw [getD_u8 (by omega), sha_abc.2]; rfl
  have hfin : ∀ (f1 : Regs) (x1 : Nat) (g1 : Nat → Option Blk), f1 0 = .bool true → pickEnd ⟨x, b, g⟩ (fun i => if i = 0 then .bool true else botV) ⟨x, b, g⟩ .normal f1 ⟨x1, x, g1⟩ := fun f1 x1 g1 h => by
    refine ⟨rfl, fun n _ => rfl, fun n => n, fun n h1 h2 => ?_, fun n n' h1 h2 => ?_, fun i => ?_⟩
    · exact absurd h2 (by simpa using h1)
    · exact absurd h2 (by simpa using h1)
    · by_cases hi : i = 0
      · exact .inr (.inl ⟨by simp [hi, h], by simp [hi, lowV, plain]⟩)
      · exact .inl (by simp [hi])
  have heq : ∀ K : Bool → Prop, eqK Try.prog .eql 28 ((sha [97, 98, 99]).map u8V).toArray ((sha [97, 98, 99]).map u8V).toArray K = K true := fun K => by rw [eq32 hsl hsl]; simp
  have hDl : ((sha [97, 98, 99]).map u8V).length = 32 := by simp [hsl]
  have hpx : ¬ p = x := by omega
  have hrow : ∀ gg : Nat → Option Blk, gg x = some (.cells [.int .u8 97, .int .u8 98, .int .u8 99] false) → Row (x + 1) gg 1 (some ⟨x, 0, none⟩) 3 (([97, 98, 99] : List UInt8).map u8V) := fun gg h => row8 (ro := false) (by omega) h rfl
  generalize hD : (sha [97, 98, 99]).map u8V = Dg at *
  generalize hPE : pickEnd ⟨x, b, g⟩ (fun i => if i = 0 then .bool true else botV) ⟨x, b, g⟩ = PE at *
  simp only [↓gaW, ↓gaV, ↓gaC, ↓gaN, gaP, Nat.reduceEqDiff, Nat.reduceLeDiff, Nat.reduceAdd, Nat.reduceSub, Nat.reduceMul, Int.reduceLT, Int.reduceLE, Int.reduceEq, Int.reduceToNat, Int.reduceAdd, Int.reduceSub, Int.reduceMul, reduceCtorEq, ↓reduceIte]
  simp only [tree_s, allP_cons, allP_nil, List.getElem?_cons_zero, List.getElem?_cons_succ, Nat.reducePow, Nat.reduceOr, Option.map, t_lanyardlaw06_awake, ↓gaW, ↓gaV, ↓gaC, ↓gaN, gaP, Nat.reduceEqDiff, Nat.reduceLeDiff, Nat.reduceAdd, Nat.reduceSub, Nat.reduceMul, Int.reduceLT, Int.reduceLE, Int.reduceEq, Int.reduceToNat, Int.reduceAdd, Int.reduceSub, Int.reduceMul, reduceCtorEq, ↓reduceIte, List.getD_cons_zero, List.getD_cons_succ, fillL, splice, List.take_zero, List.drop_zero, List.drop_succ_cons, List.take_succ_cons, List.drop_nil, List.take_nil, gaU, o_cvB, f2, hg, List.drop_zero, htk, if_neg hpx]
  repeat' refine And.intro ?_ ?_
  all_goals first
    | omega
    | (refine callK_of (ct_Of (hrow _ (by simp only [upd_e, if_true])) (by omega) (by omega)) (fun v x2 g2 l2 k2 hC => ?_) (by omega)
       rw [hD] at hC
       subst hC
       have hg2 : g2 p = some (.cells Dg false) := by
         rw [k2 p (by omega)]; simp only [upd_e]; rw [if_neg hpx, hg]
       simp only [tree_s, allP_cons, allP_nil, List.getElem?_cons_zero, List.getElem?_cons_succ, Nat.reducePow, Nat.reduceOr, Option.map, t_lanyardlaw06_awake, ↓gaW, ↓gaV, ↓gaC, ↓gaN, gaP, Nat.reduceEqDiff, Nat.reduceLeDiff, Nat.reduceAdd, Nat.reduceSub, Nat.reduceMul, Int.reduceLT, Int.reduceLE, Int.reduceEq, Int.reduceToNat, Int.reduceAdd, Int.reduceSub, Int.reduceMul, reduceCtorEq, ↓reduceIte, List.getD_cons_zero, List.getD_cons_succ, fillL, splice, List.take_zero, List.drop_zero, List.drop_succ_cons, List.take_succ_cons, List.drop_nil, List.take_nil, gaU, f2, hg2, List.drop_zero, htk, o_eqA, heq, c0, c31, decide_true]
       repeat' refine And.intro ?_ ?_
       all_goals first | omega | exact hfin _ _ _ (by simp only [↓gaW, ↓gaV, ↓gaC, ↓gaN, gaP, Nat.reduceEqDiff, Nat.reduceLeDiff, Nat.reduceAdd, Nat.reduceSub, Nat.reduceMul, Int.reduceLT, Int.reduceLE, Int.reduceEq, Int.reduceToNat, Int.reduceAdd, Int.reduceSub, Int.reduceMul, reduceCtorEq, ↓reduceIte]))

theorem ct_awake06 : Ct Try.prog 12 [] nx gt fun v _ _ => v = .bool true := by
  refine Ct.ofT hmx r_lanyardlaw06_awake (by simp [c_lanyardlaw06_awake]) fun b hb => ?_
  simp only [c_lanyardlaw06_awake, ↓gaW, ↓gaV, ↓gaC, ↓gaN, gaP, Nat.reduceEqDiff, Nat.reduceLeDiff, Nat.reduceAdd, Nat.reduceSub, Nat.reduceMul, Int.reduceLT, Int.reduceLE, Int.reduceEq, Int.reduceToNat, Int.reduceAdd, Int.reduceSub, Int.reduceMul, reduceCtorEq, ↓reduceIte]
  refine callK_of ct_New (fun v x1 g1 l1 k1 hC => ?_) (by omega)
  obtain ⟨rfl, rfl, hg1⟩ := hC
  have hb1 : HashB [] (g1 nx) := ⟨ivs, List.replicate 64 0, hg1, .new⟩
  simp only [↓gaW, ↓gaV, ↓gaC, ↓gaN, gaP, Nat.reduceEqDiff, Nat.reduceLeDiff, Nat.reduceAdd, Nat.reduceSub, Nat.reduceMul, Int.reduceLT, Int.reduceLE, Int.reduceEq, Int.reduceToNat, Int.reduceAdd, Int.reduceSub, Int.reduceMul, reduceCtorEq, ↓reduceIte, List.getD_cons_zero, List.getD_cons_succ, fillL, splice, List.take_zero, List.drop_zero, List.drop_succ_cons, List.take_succ_cons, List.drop_nil, List.take_nil, gaU, o_cvB, isNilV, Option.isNone_some]
  repeat refine And.intro (by first | omega | (simp; done) | (simp; omega) | exact all1 rfl) ?_
  refine callW_of (ct_Write (q := nx) (p := [97]) (by omega) (by simp only [upd_e]; rw [if_neg (by omega)]; exact hb1) (row8 (ro := false) (by omega) (by simp only [upd_e, if_true]; rfl) rfl) (by omega) (fun _ a ha => by injection ha with ha; subst ha; show nx + 1 ≠ nx; omega) (by simp)) (fun v x2 g2 l2 k2 hC => ?_) (by omega) (by omega)
  rw [List.nil_append] at hC
  simp only [↓gaW, ↓gaV, ↓gaC, ↓gaN, gaP, Nat.reduceEqDiff, Nat.reduceLeDiff, Nat.reduceAdd, Nat.reduceSub, Nat.reduceMul, Int.reduceLT, Int.reduceLE, Int.reduceEq, Int.reduceToNat, Int.reduceAdd, Int.reduceSub, Int.reduceMul, reduceCtorEq, ↓reduceIte, List.getD_cons_zero, List.getD_cons_succ, fillL, splice, List.take_zero, List.drop_zero, List.drop_succ_cons, List.take_succ_cons, List.drop_nil, List.take_nil, gaU, o_cvB]
  repeat refine And.intro (by first | omega | (simp; done) | (simp; omega) | exact all1 rfl) ?_
  refine callW_of (ct_Write (q := nx) (p := [98, 99]) (by omega) (by simp only [upd_e]; rw [if_neg (by omega)]; exact hC) (row8 (ro := false) (by omega) (by simp only [upd_e, if_true]; rfl) rfl) (by omega) (fun _ a ha => by injection ha with ha; subst ha; show x2 ≠ nx; omega) (by simp)) (fun v x3 g3 l3 k3 hC => ?_) (by omega) (by omega)
  simp only [↓gaW, ↓gaV, ↓gaC, ↓gaN, gaP, Nat.reduceEqDiff, Nat.reduceLeDiff, Nat.reduceAdd, Nat.reduceSub, Nat.reduceMul, Int.reduceLT, Int.reduceLE, Int.reduceEq, Int.reduceToNat, Int.reduceAdd, Int.reduceSub, Int.reduceMul, reduceCtorEq, ↓reduceIte]
  refine callK_of (ct_Sum (by omega) hC (by simp)) (fun v x4 g4 l4 k4 hC => ?_) (by omega)
  subst hC
  have hsl := sha_len [97, 98, 99]
  have hLa : ∀ v ∈ (sha [97, 98, 99]).map u8V, cellVal v = true := all_u8 _
  have hsp2 : splice ((List.replicate 32 (0 : UInt8)).map u8V) 0 ((sha [97, 98, 99]).map u8V) = (sha [97, 98, 99]).map u8V := by simp [splice, hsl]
  simp only [↓gaW, ↓gaV, ↓gaC, ↓gaN, gaP, Nat.reduceEqDiff, Nat.reduceLeDiff, Nat.reduceAdd, Nat.reduceSub, Nat.reduceMul, Int.reduceLT, Int.reduceLE, Int.reduceEq, Int.reduceToNat, Int.reduceAdd, Int.reduceSub, Int.reduceMul, reduceCtorEq, ↓reduceIte, gaU, Nat.add_zero]
  refine And.intro (by simp [hsl]) (And.intro (by omega) (And.intro (by simp [hsl]) (And.intro hLa ?_)))
  refine (show RC.vc Try.prog awkT _ _ (D Try.prog _) from ?_)
  refine awk_tree (p := x4) (by omega) (by simp only [↓gaW, ↓gaV, ↓gaC, ↓gaN, gaP, Nat.reduceEqDiff, Nat.reduceLeDiff, Nat.reduceAdd, Nat.reduceSub, Nat.reduceMul, Int.reduceLT, Int.reduceLE, Int.reduceEq, Int.reduceToNat, Int.reduceAdd, Int.reduceSub, Int.reduceMul, reduceCtorEq, ↓reduceIte]) (by simp only [upd_e, if_true]; exact congrArg (fun l => some (Blk.cells l false)) hsp2) fun f' h0 => ?_
  simp only [↓gaW, ↓gaV, ↓gaC, ↓gaN, gaP, Nat.reduceEqDiff, Nat.reduceLeDiff, Nat.reduceAdd, Nat.reduceSub, Nat.reduceMul, Int.reduceLT, Int.reduceLE, Int.reduceEq, Int.reduceToNat, Int.reduceAdd, Int.reduceSub, Int.reduceMul, reduceCtorEq, ↓reduceIte, gaE, implies_true, Nat.le_refl, Int.sub_zero, Nat.sub_zero, Int.le_refl, true_or, or_true, h0]
  refine ⟨by omega, fun q hq => ?_⟩
  rw [if_neg (by omega), if_neg (by omega), k4 q (by omega), k3 q (by omega) (by omega)]
  simp only [upd_e]
  rw [if_neg (by omega), k2 q (by omega) (by omega)]
  simp only [upd_e]
  rw [if_neg (by omega), k1 q hq]

theorem fn_Sums {A : Option Addr} {n c : Nat} {l : List UInt8} (hA : Row nx gt 1 A n (l.map u8V)) (hc : n ≤ c) :
    Ct Try.prog 5 [.slice A n c] nx gt fun v _ _ => v = .bool true := by
  refine Ct.of hmx r_lanyardlaw06_ShaSums (by simp [c_lanyardlaw06_ShaSums]) fun b hb => ?_
  have hF : ∀ q, q < nx → gt q = gt q := fun _ _ => rfl
  simp only [c_lanyardlaw06_ShaSums, ↓gaW, ↓gaV, ↓gaC, ↓gaN, gaP, Nat.reduceEqDiff, Nat.reduceLeDiff, Nat.reduceAdd, Nat.reduceSub, Nat.reduceMul, Int.reduceLT, Int.reduceLE, Int.reduceEq, Int.reduceToNat, Int.reduceAdd, Int.reduceSub, Int.reduceMul, reduceCtorEq, ↓reduceIte]
  refine callK_of ct_awake06 (fun v n1 g1 l1 k1 hC => ?_) (by omega)
  subst hC
  have hA := hA.keep l1 k1
  have hF : ∀ q, q < nx → g1 q = gt q := fun q hq => (k1 q (by omega)).trans (hF q hq)
  simp only [↓gaW, ↓gaV, ↓gaC, ↓gaN, gaP, Nat.reduceEqDiff, Nat.reduceLeDiff, Nat.reduceAdd, Nat.reduceSub, Nat.reduceMul, Int.reduceLT, Int.reduceLE, Int.reduceEq, Int.reduceToNat, Int.reduceAdd, Int.reduceSub, Int.reduceMul, reduceCtorEq, ↓reduceIte]
  by_cases g1 : (2000 : Int) < (n : Int)
  · simp only [↓gaW, ↓gaV, ↓gaC, ↓gaN, gaP, Nat.reduceEqDiff, Nat.reduceLeDiff, Nat.reduceAdd, Nat.reduceSub, Nat.reduceMul, Int.reduceLT, Int.reduceLE, Int.reduceEq, Int.reduceToNat, Int.reduceAdd, Int.reduceSub, Int.reduceMul, reduceCtorEq, ↓reduceIte, gaE, implies_true, Nat.le_refl, Int.sub_zero, Nat.sub_zero, Int.le_refl, true_or, or_true, g1, decide_true]
    exact ⟨by omega, hF⟩
  have hsl := sha_len l
  simp only [↓gaW, ↓gaV, ↓gaC, ↓gaN, gaP, Nat.reduceEqDiff, Nat.reduceLeDiff, Nat.reduceAdd, Nat.reduceSub, Nat.reduceMul, Int.reduceLT, Int.reduceLE, Int.reduceEq, Int.reduceToNat, Int.reduceAdd, Int.reduceSub, Int.reduceMul, reduceCtorEq, ↓reduceIte, g1, decide_false]
  refine callK_of (ct_Of hA hc (by omega)) (fun v n2 g2 l2 k2 hC => ?_) (by omega)
  subst hC
  have hA := hA.keep l2 k2
  have hF : ∀ q, q < nx → g2 q = gt q := fun q hq => (k2 q (by omega)).trans (hF q hq)
  simp only [↓gaW, ↓gaV, ↓gaC, ↓gaN, gaP, Nat.reduceEqDiff, Nat.reduceLeDiff, Nat.reduceAdd, Nat.reduceSub, Nat.reduceMul, Int.reduceLT, Int.reduceLE, Int.reduceEq, Int.reduceToNat, Int.reduceAdd, Int.reduceSub, Int.reduceMul, reduceCtorEq, ↓reduceIte]
  refine callK_of (ct_rOf hA hc (by omega)) (fun v n3 g3 l3 k3 hC => ?_) (by omega)
  subst hC
  have hA := hA.keep l3 k3
  have hF : ∀ q, q < nx → g3 q = gt q := fun q hq => (k3 q (by omega)).trans (hF q hq)
  simp only [↓gaW, ↓gaV, ↓gaC, ↓gaN, gaP, Nat.reduceEqDiff, Nat.reduceLeDiff, Nat.reduceAdd, Nat.reduceSub, Nat.reduceMul, Int.reduceLT, Int.reduceLE, Int.reduceEq, Int.reduceToNat, Int.reduceAdd, Int.reduceSub, Int.reduceMul, reduceCtorEq, ↓reduceIte, o_eqA, eq32 hsl hsl, decide_true]
  refine callK_of (ct_Name hA hc (by omega)) (fun v n4 g4 l4 k4 hC => ?_) (by omega)
  subst hC
  have hA := hA.keep l4 k4
  have hF : ∀ q, q < nx → g4 q = gt q := fun q hq => (k4 q (by omega)).trans (hF q hq)
  simp only [↓gaW, ↓gaV, ↓gaC, ↓gaN, gaP, Nat.reduceEqDiff, Nat.reduceLeDiff, Nat.reduceAdd, Nat.reduceSub, Nat.reduceMul, Int.reduceLT, Int.reduceLE, Int.reduceEq, Int.reduceToNat, Int.reduceAdd, Int.reduceSub, Int.reduceMul, reduceCtorEq, ↓reduceIte]
  refine callK_of (ct_rName hA hc (by omega)) (fun v n5 g5 l5 k5 hC => ?_) (by omega)
  subst hC
  have hF : ∀ q, q < nx → g5 q = gt q := fun q hq => (k5 q (by omega)).trans (hF q hq)
  simp only [↓gaW, ↓gaV, ↓gaC, ↓gaN, gaP, Nat.reduceEqDiff, Nat.reduceLeDiff, Nat.reduceAdd, Nat.reduceSub, Nat.reduceMul, Int.reduceLT, Int.reduceLE, Int.reduceEq, Int.reduceToNat, Int.reduceAdd, Int.reduceSub, Int.reduceMul, reduceCtorEq, ↓reduceIte, gaE, implies_true, Nat.le_refl, Int.sub_zero, Nat.sub_zero, Int.le_refl, true_or, or_true, beq_self_eq_true]
  exact ⟨by omega, hF⟩
end
end Go.Ga

/- An array of whole numbers that a law is given. -/
namespace Go.Ga
open Go

section
variable {P : Program} {H : Type} {enc : TypeId × Value → H} {w : World} {base : Nat} {sp : Nat → Bool} {held : Bool} {t e : TypeId} {n : Nat} {k : IntKind}

def intOf : Option Value → Int
  | some (.int _ z) => z
  | _ => 0
theorem mapM_all {α β : Type} (f : α → Option β) (g : α → β) : ∀ (L : List α), (∀ i ∈ L, f i = some (g i)) → L.mapM f = some (L.map g)
  | [], _ => rfl
  | a :: L, h => by
    rw [List.mapM_cons, h a (by simp), mapM_all f g L fun i hi => h i (by simp [hi])]
    rfl
theorem mapM_inv {α β : Type} (f : α → Option β) : ∀ (L : List α) (xs : List β), L.mapM f = some xs → ∃ g : α → Option β, (∀ i ∈ L, f i = g i ∧ (g i).isSome) ∧ xs.map some = L.map g
  | [], xs, h => by
    simp at h
    subst h
    exact ⟨fun _ => none, by simp, rfl⟩
  | a :: L, xs, h => by
    rw [List.mapM_cons] at h
    simp only [bind, Option.bind_eq_some_iff, pure, Option.some.injEq] at h
    obtain ⟨y, hy, ys, hys, rfl⟩ := h
    obtain ⟨g, h1, h2⟩ := mapM_inv f L ys hys
    refine ⟨f, fun i hi => ⟨rfl, ?_⟩, ?_⟩
    · rcases List.mem_cons.1 hi with rfl | hi
      · simp [hy]
      · rw [(h1 i hi).1]; exact (h1 i hi).2
    · simp only [List.map_cons, hy, h2, List.cons.injEq, true_and]
      exact List.map_congr_left fun i hi => (h1 i hi).1.symm

def arrD (k : IntKind) (zs : List Int) : DataW H := .agg (zs.map fun z => .lit (.int k z))

theorem shut_arrI (ht : P.underlying t = some (.array n e)) (he : P.underlying e = some (.int k)) (hc : P.cellsOf e = 1) (hct : P.cellsOf t = n) {zs : List Int} (hl : zs.length = n) (hw : ∀ z ∈ zs, (Lit.int k z).wf = true) :
    DataW.Trod enc P w base sp held t (.agg (zs.map (Value.int k)).toArray) (arrD k zs) [] := by
  refine ⟨2, ?_⟩
  have h1 : ∀ i ∈ List.range n, DataW.trod enc P w base sp held 1 e (((zs.map (Value.int k)).drop (i * 1)).take 1) = some ((.lit (.int k (zs.getD i 0)) : DataW H), []) := by
    intro i hi
    have hi : i < zs.length := by rw [hl]; exact List.mem_range.1 hi
    have e1 : ((zs.map (Value.int k)).drop (i * 1)).take 1 = [.int k (zs.getD i 0)] := by
      rw [Nat.mul_one, List.drop_eq_getElem_cons (by simpa using hi)]
      simp [List.getD_eq_getElem?_getD, hi]
    rw [e1]
    have hwi : (Lit.int k (zs.getD i 0)).wf = true := hw _ (by rw [List.getD_eq_getElem?_getD, List.getElem?_eq_getElem hi]; exact List.getElem_mem hi)
    have hwi' := hwi
    simp only [List.getD_eq_getElem?_getD] at hwi' ⊢
    simp [DataW.trod, he, hwi']
  rw [DataW.trod_step]
  unfold DataW.trodStep
  simp only [ht, Value.cells, hct, hc, List.length_map, hl, if_true]
  rw [mapM_all _ _ _ h1]
  simp only [Option.map_some, List.map_map, arrD, Option.some.injEq, Prod.mk.injEq, DataW.agg.injEq]
  refine ⟨?_, by simp⟩
  refine List.ext_getElem (by simp [hl]) fun i h1 h2 => ?_
  have hi : i < zs.length := by simpa using h2
  simp [hi]

theorem open_arrI (ht : P.underlying t = some (.array n e)) (he : P.underlying e = some (.int k)) (hc : P.cellsOf e = 1) (hct : P.cellsOf t = n) {r : Reach} {b0 : Nat} {v : Value} {d : DataW H} {ps : List MemPlace} (hval : Value.okWide P w r b0 t v) (hd : DataW.Trod enc P w base sp held t v d ps) :
    ∃ zs : List Int, v = .agg (zs.map (Value.int k)).toArray ∧ zs.length = n ∧ (∀ z ∈ zs, (Lit.int k z).wf = true) ∧ d = arrD k zs ∧ ps = [] := by
  simp only [Value.okWide, ht] at hval
  obtain ⟨cs, rfl, hcs, _⟩ := hval
  obtain ⟨fuel, hf⟩ := hd
  cases fuel with
  | zero => simp [DataW.trod] at hf
  | succ fuel =>
    rw [DataW.trod_step] at hf
    unfold DataW.trodStep at hf
    simp only [ht, Value.cells] at hf
    rw [if_pos (by simpa using hcs)] at hf
    simp only [Option.map_eq_some_iff] at hf
    obtain ⟨xs, hx, e1⟩ := hf
    obtain ⟨g, hg, hgx⟩ := mapM_inv _ _ _ hx
    have hlen : cs.toList.length = n := by simp [hcs, hct]
    have cell : ∀ i, i < n → ∃ z, cs.toList[i]? = some (.int k z) ∧ (Lit.int k z).wf = true ∧ g i = some ((.lit (.int k z) : DataW H), []) := by
      intro i hi
      obtain ⟨h1, h2⟩ := hg i (List.mem_range.2 hi)
      obtain ⟨y, hy⟩ := Option.isSome_iff_exists.1 h2
      rw [hy] at h1
      obtain ⟨z, h3, rfl, h4⟩ := DataW.trod_int he h1
      refine ⟨z, ?_, h4, hy⟩
      rw [hc, Nat.mul_one, List.drop_eq_getElem_cons (by omega)] at h3
      simp at h3
      rw [List.getElem?_eq_getElem (by omega)]
      simp [h3]
    have hzs : ∃ zs : List Int, zs.length = n ∧ ∀ i, i < n → cs.toList[i]? = some (.int k (zs.getD i 0)) ∧ (Lit.int k (zs.getD i 0)).wf = true ∧ g i = some ((.lit (.int k (zs.getD i 0)) : DataW H), []) := by
      refine ⟨(List.range n).map fun i => intOf cs.toList[i]?, by simp, fun i hi => ?_⟩
      obtain ⟨z, h1, h2, h3⟩ := cell i hi
      have : ((List.range n).map fun i => intOf cs.toList[i]?).getD i 0 = z := by
        rw [List.getD_eq_getElem?_getD, List.getElem?_map, List.getElem?_range hi]
        simp only [Option.map_some, h1, Option.getD_some, intOf]
      rw [this]
      exact ⟨h1, h2, h3⟩
    obtain ⟨zs, hl, hz⟩ := hzs
    refine ⟨zs, ?_, hl, fun z hmem => ?_, ?_, ?_⟩
    · congr 1
      apply Array.ext'
      refine List.ext_getElem? fun i => ?_
      rcases Nat.lt_or_ge i n with h | h
      · rw [(hz i h).1]
        simp [List.getElem?_map, List.getD_eq_getElem?_getD, List.getElem?_eq_getElem (show i < zs.length by omega)]
      · rw [List.getElem?_eq_none (by omega), List.getElem?_eq_none (by simp; omega)]
    · obtain ⟨i, hi, rfl⟩ := List.getElem_of_mem hmem
      have := (hz i (by omega)).2.1
      simpa [List.getD_eq_getElem?_getD, List.getElem?_eq_getElem hi] using this
    · simp only [Prod.mk.injEq] at e1
      rw [← e1.1, arrD]
      congr 1
      refine List.ext_getElem? fun i => ?_
      have hxi : (xs.map some)[i]? = ((List.range n).map g)[i]? := by rw [hgx]
      rcases Nat.lt_or_ge i n with h | h
      · rw [List.getElem?_map, List.getElem?_map, List.getElem?_range h, Option.map_some, (hz i h).2.2] at hxi
        cases hx1 : xs[i]? with
        | none => simp [hx1] at hxi
        | some y =>
          simp only [hx1, Option.map_some, Option.some.injEq] at hxi
          simp [hx1, hxi, List.getD_eq_getElem?_getD, List.getElem?_eq_getElem (show i < zs.length by omega)]
      · have : xs.length = n := by
          have := congrArg List.length hgx
          simpa using this
        rw [List.getElem?_eq_none (by simp; omega), List.getElem?_eq_none (by simp; omega)]
    · simp only [Prod.mk.injEq] at e1
      rw [← e1.2, List.flatMap_eq_nil_iff]
      intro y hy
      obtain ⟨i, hi, rfl⟩ := List.getElem_of_mem hy
      have hn : xs.length = n := by
        have := congrArg List.length hgx
        simpa using this
      have hxi : (xs.map some)[i]? = ((List.range n).map g)[i]? := by rw [hgx]
      rw [List.getElem?_map, List.getElem?_eq_getElem hi, List.getElem?_map, List.getElem?_range (by omega), Option.map_some, Option.map_some, (hz i (by omega)).2.2] at hxi
      simp only [Option.some.injEq] at hxi
      rw [hxi]
end

theorem absV_arr {w : World} {k : IntKind} {zs : List Int} : absV w (.agg (zs.map (Value.int k)).toArray) = .agg (zs.map (Value.int k)).toArray := by
  simp only [absV]
  congr 1
  apply Array.ext'
  simp [Function.comp_def, absC, goodV]
theorem list6 {zs : List Int} (h : zs.length = 6) : ∃ a b c d e f, zs = [a, b, c, d, e, f] := by
  match zs, h with
  | [a, b, c, d, e, f], _ => exact ⟨a, b, c, d, e, f, rfl⟩
end Go.Ga

/- A slice of words that a law is given. -/
namespace Go.Ga
open Go

theorem wf_u32 {n : Int} (h : (Lit.int .u32 n).wf = true) : 0 ≤ n ∧ n ≤ 4294967295 := by
  have := (Lit.wf_int_iff _ _).1 h
  simpa [IntKind.min, IntKind.max, IntKind.signed, IntKind.bits] using this
theorem wf_u32N {n : Int} (h : (Lit.int .u32 n).wf = true) : ∃ x : Nat, n = x ∧ x < 4294967296 := by
  have := wf_u32 h
  exact ⟨n.toNat, by omega, by omega⟩

/-- A row's slice of words. -/
theorem absV_words {w : World} {a : Option Addr} {len cap : Nat} {zs : List Int} (h : IsRow .u32 w a len cap zs) :
    ∃ A, absV w (.slice a len cap) = .slice A len cap ∧ len ≤ cap ∧ ∃ l : List UInt32, Row w.heap.size (m0 w).get 1 A len (l.map u32V) := by
  rcases h with ⟨rfl, rfl, rfl, rfl⟩ | ⟨x, rfl, h1, h2, h3, h4, h5⟩
  · exact ⟨none, rfl, Nat.le_refl _, [], .nil⟩
  by_cases hc : cap = 0
  · subst hc
    have : len = 0 := by omega
    subst this
    exact ⟨some ⟨x.block, x.off, none⟩, by simp [absV, absC], Nat.le_refl _, [], ⟨fun a ha => by injection ha with ha; subst ha; exact .inl rfl, rfl, fun h => absurd h (Nat.lt_irrefl 0)⟩⟩
  have c0 := h4 0 (by omega)
  have hx : x.add 0 = x := by simp [Addr.add]
  rw [hx] at c0
  unfold World.cell? at c0
  split at c0
  · rename_i ce el fr hb
    have hsp : x.spot = none := by
      by_cases h : x.spot.isSome
      · rw [if_pos h] at c0; cases c0
      · simpa using h
    have hlt : x.block < w.heap.size := by
      rcases Nat.lt_or_ge x.block w.heap.size with h | h
      · exact h
      · rw [Array.getElem?_eq_none h] at hb; cases hb
    have hcell : ∀ i, i < cap → ce[x.off + i]? = some (.int .u32 (zs.getD i 0)) := by
      intro i hi
      have := h4 i (by omega)
      unfold World.cell? Addr.add at this
      by_cases h0 : i = 0
      · subst h0
        simp only [if_true, hb, hsp] at this
        simpa using this
      · simp only [if_neg h0, hb] at this
        simpa using this
    have hsz : x.off + cap ≤ ce.size := by
      have := hcell (cap - 1) (by omega)
      rcases Nat.lt_or_ge (x.off + (cap - 1)) ce.size with h | h
      · omega
      · rw [Array.getElem?_eq_none h] at this; cases this
    refine ⟨some x, ?_, h1, (zs.take len).map fun n => UInt32.ofNat n.toNat, ⟨fun a ha => by injection ha with ha; subst ha; exact .inl hsp, ?_, fun hN => ⟨x, ce.toList.map (absC w), true, rfl, hlt, ?_, ?_, fun i hi => ?_⟩⟩⟩
    · have : isCells w x.block = true := by simp [isCells, hb]
      simp [absV, absC, hc, hsp, h1, this]
    · simp; omega
    · simp [m0, hb]
    · simp; omega
    · have e1 := hcell i (by omega)
      have hz : i < zs.length := by omega
      have hw := wf_u32 (h5 (zs.getD i 0) (by rw [List.getD_eq_getElem?_getD, List.getElem?_eq_getElem hz]; exact List.getElem_mem hz))
      have e2 : ce.toList[x.off + i]? = some (.int .u32 (zs.getD i 0)) := by simpa using e1
      have e3 : (ce.toList.map (absC w)).getD (x.off + i) undef = .int .u32 (zs.getD i 0) := by
        rw [List.getD_eq_getElem?_getD, List.getElem?_map, e2]
        rfl
      rw [e3, getD_u32 (by simp; omega)]
      congr 1
      have e4 : ((zs.take len).map fun n => UInt32.ofNat n.toNat).getD i 0 = UInt32.ofNat (zs.getD i 0).toNat := by
        simp [List.getD_eq_getElem?_getD, List.getElem?_map, hi, List.getElem?_eq_getElem hz]
      rw [e4, UInt32.toNat_ofNat']
      omega
  · cases c0

end Go.Ga

/- What a law is given: what its values are made of, in the abstract memory. -/
namespace Go.Ga
open Go

section
variable {H : Type} {enc : TypeId × Value → H} {P : Program} {w : World} {held : Bool} {f : Nat} {t : TypeId} {cs : List Value}

/-- These cells are a value of this type. -/
def Shp (enc : TypeId × Value → H) (P : Program) (w : World) (held : Bool) (f : Nat) (t : TypeId) (cs : List Value) : Prop := ∃ x, DataW.trod enc P w 0 (fun _ => true) held f t cs = some x

theorem Shp.int {k : IntKind} (ht : P.underlying t = some (.int k)) (h : Shp enc P w held f t cs) : ∃ n, cs = [.int k n] ∧ (Lit.int k n).wf = true := by
  obtain ⟨x, hx⟩ := h
  obtain ⟨n, h1, _, h2⟩ := DataW.trod_int ht hx
  exact ⟨n, h1, h2⟩
theorem Shp.bool (ht : P.underlying t = some .bool) (h : Shp enc P w held f t cs) : ∃ b, cs = [.bool b] := by
  obtain ⟨x, hx⟩ := h
  obtain ⟨n, h1, _⟩ := DataW.trod_bool ht hx
  exact ⟨n, h1⟩
theorem Shp.string (ht : P.underlying t = some .string) (h : Shp enc P w held f t cs) : ∃ s : ByteArray, cs = [.string s] ∧ s.size ≤ maxLen := by
  obtain ⟨x, hx⟩ := h
  obtain ⟨n, h1, _, h2⟩ := DataW.trod_string ht hx
  exact ⟨n, h1, h2⟩
theorem Shp.struct {fs : Array Field} (ht : P.underlying t = some (.struct fs)) (h : Shp enc P w held f t cs) :
    ∃ n, f = n + 1 ∧ cs.length = P.cellsOf t ∧ ∀ (i : Nat) (fl : Field), fs[i]? = some fl → Shp enc P w held n fl.type ((cs.drop fl.offset).take (P.cellsOf fl.type)) := by
  obtain ⟨x, hx⟩ := h
  obtain ⟨xs, n, h1, _, h2, h3, h4⟩ := DataW.trod_struct ht hx
  refine ⟨n, h1, h2, fun i fl hi => ?_⟩
  have hlt : i < xs.length := by
    rw [h3]
    exact (Array.getElem?_eq_some_iff.1 hi).1
  exact ⟨xs[i], by rw [h4 i fl hi, List.getElem?_eq_getElem hlt]⟩
theorem Shp.array {m : Nat} {e : TypeId} (ht : P.underlying t = some (.array m e)) (h : Shp enc P w held f t cs) :
    ∃ n, f = n + 1 ∧ cs.length = P.cellsOf t ∧ ∀ i, i < m → Shp enc P w held n e ((cs.drop (i * P.cellsOf e)).take (P.cellsOf e)) := by
  obtain ⟨x, hx⟩ := h
  obtain ⟨xs, n, h1, _, h2, h3, h4⟩ := DataW.trod_array ht hx
  exact ⟨n, h1, h2, fun i hi => ⟨xs[i]'(by omega), by rw [h4 i hi, List.getElem?_eq_getElem (by omega)]⟩⟩

theorem cells_all {w : World} {a : Addr} {N : Nat} {g : Nat → Value} (hN : 0 < N) (h : ∀ i, i < N → w.cell? (a.add i) = some (g i)) :
    a.spot = none ∧ isCells w a.block = true ∧ a.block < w.heap.size ∧ ∃ ce : List Value, (m0 w).get a.block = some (.cells (ce.map (absC w)) true) ∧ a.off + N ≤ ce.length ∧ ∀ i, i < N → ce[a.off + i]? = some (g i) := by
  have c0 := h 0 hN
  have hx : a.add 0 = a := by simp [Addr.add]
  rw [hx] at c0
  unfold World.cell? at c0
  split at c0
  · rename_i ce el fr hb
    have hsp : a.spot = none := by
      by_cases h : a.spot.isSome
      · rw [if_pos h] at c0; cases c0
      · simpa using h
    have hlt : a.block < w.heap.size := by
      rcases Nat.lt_or_ge a.block w.heap.size with h | h
      · exact h
      · rw [Array.getElem?_eq_none h] at hb; cases hb
    have hcell : ∀ i, i < N → ce.toList[a.off + i]? = some (g i) := by
      intro i hi
      have := h i hi
      unfold World.cell? Addr.add at this
      by_cases h0 : i = 0
      · subst h0
        simp only [if_true, hb, hsp] at this
        simpa using this
      · simp only [if_neg h0, hb] at this
        simpa using this
    refine ⟨hsp, by simp [isCells, hb], hlt, ce.toList, by simp [m0, hb], ?_, hcell⟩
    have := hcell (N - 1) (by omega)
    rcases Nat.lt_or_ge (a.off + (N - 1)) ce.toList.length with h | h
    · omega
    · rw [List.getElem?_eq_none h] at this; cases this
  · cases c0

theorem add_addr {a : Addr} {i j : Nat} (_ : a.spot = none) : (a.add i).add j = a.add (i + j) := by
  unfold Addr.add
  by_cases h1 : i = 0 <;> by_cases h2 : j = 0 <;> simp [h1, h2, Nat.add_assoc]

theorem Shp.slice {e : TypeId} (ht : P.underlying t = some (.slice e)) (hc : 0 < P.cellsOf e) (h : Shp enc P w held f t cs) :
    ∃ n v A len cap, ∃ l : List Value, f = n + 1 ∧ cs = [v] ∧ absC w v = .slice A len cap ∧ len ≤ cap ∧ Row w.heap.size (m0 w).get (P.cellsOf e) A (len * P.cellsOf e) (l.map (absC w)) ∧ l.length = len * P.cellsOf e ∧
      ∀ i, i < len → Shp enc P w held n e ((l.drop (i * P.cellsOf e)).take (P.cellsOf e)) := by
  obtain ⟨x, hx⟩ := h
  rcases DataW.trod_slice ht hx with ⟨rfl, _⟩ | ⟨a, len, cap, elems, rest, n, rfl, rfl, _, _, hl, hm, he, hel, hsp, _⟩
  · cases f with
    | zero => simp [DataW.trod] at hx
    | succ n => exact ⟨n, _, none, 0, 0, [], rfl, rfl, rfl, Nat.le_refl _, by rw [Nat.zero_mul]; exact .nil, by simp, fun i hi => absurd hi (Nat.not_lt_zero i)⟩
  · obtain ⟨hr, hrest⟩ := hsp rfl
    have one : ∀ i, i < cap → ∃ cs', w.cells? 0 (a.add (i * P.cellsOf e)) (P.cellsOf e) = some cs' ∧ Shp enc P w held n e cs' := by
      intro i hi
      rcases Nat.lt_or_ge i len with h | h
      · have h1 := hel i h
        rw [List.getElem?_eq_getElem (by omega), Option.bind_eq_some_iff] at h1
        obtain ⟨cs', h1, h2⟩ := h1
        exact ⟨cs', h1, _, h2⟩
      · have h1 := hrest (i - len) (by omega)
        rw [List.getElem?_eq_getElem (by omega), Option.bind_eq_some_iff, show len + (i - len) = i by omega] at h1
        obtain ⟨cs', h1, h2⟩ := h1
        exact ⟨cs', h1, _, h2⟩
    rcases Nat.eq_zero_or_pos cap with h0 | h0
    · subst h0
      have : len = 0 := by omega
      subst this
      exact ⟨n, _, some ⟨a.block, a.off, none⟩, 0, 0, [], rfl, rfl, by simp [absC], Nat.le_refl _, ⟨fun a ha => by injection ha with ha; subst ha; exact .inl rfl, by simp, fun h => by rw [Nat.zero_mul] at h; exact absurd h (Nat.lt_irrefl 0)⟩, by simp, fun i hi => absurd hi (Nat.not_lt_zero i)⟩
    · obtain ⟨cs0, hc0, ht0⟩ := one 0 h0
      obtain ⟨_, hl0, hg0⟩ := World.cells?_some hc0
      have hx0 : a.add (0 * P.cellsOf e) = a := by simp [Addr.add]
      rw [hx0] at hg0
      have hspot : a.spot = none := by
        refine (cells_all (w := w) (a := a) (N := 1) (g := fun i => cs0.getD 0 undef) (by omega) fun i hi => ?_).1
        have : i = 0 := by omega
        subst this
        rw [hg0 0 hc, List.getD_eq_getElem?_getD, List.getElem?_eq_getElem (by omega)]
        rfl
      have hpos : 0 < cap * P.cellsOf e := Nat.mul_pos h0 hc
      have hall : ∀ j, j < cap * P.cellsOf e → ∃ v, w.cell? (a.add j) = some v := by
        intro j hj
        have hd := Nat.div_add_mod j (P.cellsOf e)
        have hm := Nat.mod_lt j hc
        obtain ⟨cs', h1, _⟩ := one (j / P.cellsOf e) ((Nat.div_lt_iff_lt_mul hc).2 hj)
        obtain ⟨_, h2, h3⟩ := World.cells?_some h1
        have h4 := h3 (j % P.cellsOf e) hm
        rw [add_addr hspot, show j / P.cellsOf e * P.cellsOf e + j % P.cellsOf e = j by rw [Nat.mul_comm]; exact hd, List.getElem?_eq_getElem (by omega)] at h4
        exact ⟨_, h4⟩
      obtain ⟨g, hg⟩ : ∃ g : Nat → Value, ∀ j, j < cap * P.cellsOf e → w.cell? (a.add j) = some (g j) := by
        refine ⟨fun j => (w.cell? (a.add j)).getD undef, fun j hj => ?_⟩
        obtain ⟨v, hv⟩ := hall j hj
        simp only [hv, Option.getD_some]
      obtain ⟨h1, h2, h3, ce, h4, h5, h6⟩ := cells_all hpos hg
      have hle : len * P.cellsOf e ≤ cap * P.cellsOf e := Nat.mul_le_mul_right _ hl
      refine ⟨n, _, some a, len, cap, (ce.drop a.off).take (len * P.cellsOf e), rfl, rfl, ?_, hl, ⟨fun a' ha => by injection ha with ha; subst ha; exact .inl h1, by simp; omega, fun _ => ⟨a, _, true, rfl, h3, h4, by simp; omega, fun i hi => ?_⟩⟩, by simp; omega, fun i hi => ?_⟩
      · obtain ⟨ab, ao, asp⟩ := a
        simp only at h1
        subst h1
        simp [absC, show cap ≠ 0 by omega, hl, h2]
      · rw [List.getD_eq_getElem?_getD, List.getD_eq_getElem?_getD, List.getElem?_map, List.getElem?_map, List.getElem?_take_of_lt hi, List.getElem?_drop]
      · obtain ⟨cs', e1, e2⟩ := one i (by omega)
        obtain ⟨_, e3, e4⟩ := World.cells?_some e1
        have hik : i * P.cellsOf e + P.cellsOf e ≤ len * P.cellsOf e := by
          have := Nat.mul_le_mul_right (P.cellsOf e) (show i + 1 ≤ len by omega)
          rw [Nat.add_mul, Nat.one_mul] at this
          exact this
        have : ((((ce.drop a.off).take (len * P.cellsOf e)).drop (i * P.cellsOf e)).take (P.cellsOf e)) = cs' := by
          refine List.ext_getElem? fun k => ?_
          rcases Nat.lt_or_ge k (P.cellsOf e) with hk | hk
          · rw [List.getElem?_take_of_lt hk, List.getElem?_drop, List.getElem?_take_of_lt (by omega), List.getElem?_drop, h6 _ (by omega), ← hg _ (by omega), ← add_addr h1, e4 k hk]
          · rw [List.getElem?_eq_none (by simp; omega), List.getElem?_eq_none (by omega)]
        rw [this]
        exact e2

theorem Shp.bytes {e : TypeId} (ht : P.underlying t = some (.slice e)) (he : P.underlying e = some (.int .u8)) (hc : P.cellsOf e = 1) (h : Shp enc P w held f t cs) :
    ∃ v A len cap, ∃ l : List UInt8, cs = [v] ∧ absC w v = .slice A len cap ∧ len ≤ cap ∧ Row w.heap.size (m0 w).get 1 A len (l.map u8V) := by
  obtain ⟨n, v, A, len, cap, l, rfl, h1, h2, h3, h4, h5, h6⟩ := h.slice ht (by omega)
  rw [hc, Nat.mul_one] at h4 h5
  refine ⟨v, A, len, cap, l.map fun v => UInt8.ofNat (intOf (some v)).toNat, h1, h2, h3, ?_⟩
  have : (l.map fun v => UInt8.ofNat (intOf (some v)).toNat).map u8V = l.map (absC w) := by
    rw [List.map_map]
    refine List.map_congr_left fun v hv => ?_
    obtain ⟨i, hi, rfl⟩ := List.getElem_of_mem hv
    obtain ⟨z, e1, e2⟩ := (h6 i (by omega)).int he
    have e1' : l[i] = .int .u8 z := by
      rw [hc, Nat.mul_one, List.drop_eq_getElem_cons hi] at e1
      simp only [List.take_succ_cons, List.take_zero, List.cons.injEq, and_true] at e1
      exact e1
    rw [e1']
    obtain ⟨b1, b2⟩ := wf_u8 e2
    simp only [Function.comp, intOf, u8V, absC, goodV, if_true]
    rw [UInt8.toNat_ofNat']
    congr 1
    omega
  rw [this]
  exact h4
theorem Shp.words {e : TypeId} (ht : P.underlying t = some (.slice e)) (he : P.underlying e = some (.int .u32)) (hc : P.cellsOf e = 1) (h : Shp enc P w held f t cs) :
    ∃ v A len cap, ∃ l : List UInt32, cs = [v] ∧ absC w v = .slice A len cap ∧ len ≤ cap ∧ Row w.heap.size (m0 w).get 1 A len (l.map u32V) := by
  obtain ⟨n, v, A, len, cap, l, rfl, h1, h2, h3, h4, h5, h6⟩ := h.slice ht (by omega)
  rw [hc, Nat.mul_one] at h4 h5
  refine ⟨v, A, len, cap, l.map fun v => UInt32.ofNat (intOf (some v)).toNat, h1, h2, h3, ?_⟩
  have : (l.map fun v => UInt32.ofNat (intOf (some v)).toNat).map u32V = l.map (absC w) := by
    rw [List.map_map]
    refine List.map_congr_left fun v hv => ?_
    obtain ⟨i, hi, rfl⟩ := List.getElem_of_mem hv
    obtain ⟨z, e1, e2⟩ := (h6 i (by omega)).int he
    have e1' : l[i] = .int .u32 z := by
      rw [hc, Nat.mul_one, List.drop_eq_getElem_cons hi] at e1
      simp only [List.take_succ_cons, List.take_zero, List.cons.injEq, and_true] at e1
      exact e1
    rw [e1']
    obtain ⟨b1, b2⟩ := wf_u32 e2
    simp only [Function.comp, intOf, u32V, absC, goodV, if_true]
    rw [UInt32.toNat_ofNat']
    congr 1
    omega
  rw [this]
  exact h4

theorem list_two {cs : List Value} {a b : Value} (hl : cs.length = 2) (h0 : (cs.drop 0).take 1 = [a]) (h1 : (cs.drop 1).take 1 = [b]) : cs = [a, b] := by
  match cs, hl with
  | [x, y], _ =>
    simp at h0 h1
    rw [h0, h1]
theorem take_one {cs : List Value} {i : Nat} (h : i < cs.length) : (cs.drop i).take 1 = [cs[i]] := by
  rw [List.drop_eq_getElem_cons h]; rfl

/-- An array of two. -/
theorem open_two {e : TypeId} (ht : P.underlying t = some (.array 2 e)) (hc : P.cellsOf e = 1) (hct : P.cellsOf t = 2) {r : Reach} {b0 : Nat} {v : Value} {d : DataW H} {ps : List MemPlace} (hval : Value.okWide P w r b0 t v) (hd : DataW.Trod enc P w 0 (fun _ => true) held t v d ps) :
    ∃ a b n, v = .agg #[a, b] ∧ Shp enc P w held n e [a] ∧ Shp enc P w held n e [b] := by
  simp only [Value.okWide, ht] at hval
  obtain ⟨cs, rfl, hcs, _⟩ := hval
  obtain ⟨fuel, hf⟩ := hd
  obtain ⟨n, rfl, hl, h⟩ := Shp.array ht ⟨_, hf⟩
  have h0 := h 0 (by omega)
  have h1 := h 1 (by omega)
  simp only [Value.cells] at hl h0 h1
  rw [hct] at hl
  rw [hc, take_one (by omega)] at h0 h1
  refine ⟨_, _, n, ?_, h0, h1⟩
  congr 1
  apply Array.ext'
  exact list_two hl (take_one (by omega)) (take_one (by omega))
theorem open_words2 {e e' : TypeId} (ht : P.underlying t = some (.array 2 e)) (he : P.underlying e = some (.slice e')) (he' : P.underlying e' = some (.int .u32)) (hc : P.cellsOf e = 1) (hct : P.cellsOf t = 2) (hc' : P.cellsOf e' = 1) {r : Reach} {b0 : Nat} {v : Value} {d : DataW H} {ps : List MemPlace} (hval : Value.okWide P w r b0 t v) (hd : DataW.Trod enc P w 0 (fun _ => true) held t v d ps) :
    ∃ (A : Option Addr) (n c : Nat) (l : List UInt32) (B : Option Addr) (m d : Nat) (k : List UInt32), absV w v = .agg #[.slice A n c, .slice B m d] ∧ Row w.heap.size (m0 w).get 1 A n (l.map u32V) ∧ n ≤ c ∧ Row w.heap.size (m0 w).get 1 B m (k.map u32V) ∧ m ≤ d := by
  obtain ⟨a, b, n, rfl, h0, h1⟩ := open_two ht hc hct hval hd
  obtain ⟨_, A, n, c, l, e0, e1, e2, e3⟩ := h0.words he he' hc'
  obtain ⟨_, B, m, d, k, f0, f1, f2, f3⟩ := h1.words he he' hc'
  injection e0 with e0
  injection f0 with f0
  subst e0 f0
  exact ⟨A, n, c, l, B, m, d, k, by simp [absV, e1, f1], e3, e2, f3, f2⟩
theorem open_bytes2 {e e' : TypeId} (ht : P.underlying t = some (.array 2 e)) (he : P.underlying e = some (.slice e')) (he' : P.underlying e' = some (.int .u8)) (hc : P.cellsOf e = 1) (hct : P.cellsOf t = 2) (hc' : P.cellsOf e' = 1) {r : Reach} {b0 : Nat} {v : Value} {d : DataW H} {ps : List MemPlace} (hval : Value.okWide P w r b0 t v) (hd : DataW.Trod enc P w 0 (fun _ => true) held t v d ps) :
    ∃ (A : Option Addr) (n c : Nat) (l : List UInt8) (B : Option Addr) (m d : Nat) (k : List UInt8), absV w v = .agg #[.slice A n c, .slice B m d] ∧ Row w.heap.size (m0 w).get 1 A n (l.map u8V) ∧ n ≤ c ∧ Row w.heap.size (m0 w).get 1 B m (k.map u8V) ∧ m ≤ d := by
  obtain ⟨a, b, n, rfl, h0, h1⟩ := open_two ht hc hct hval hd
  obtain ⟨_, A, n, c, l, e0, e1, e2, e3⟩ := h0.bytes he he' hc'
  obtain ⟨_, B, m, d, k, f0, f1, f2, f3⟩ := h1.bytes he he' hc'
  injection e0 with e0
  injection f0 with f0
  subst e0 f0
  exact ⟨A, n, c, l, B, m, d, k, by simp [absV, e1, f1], e3, e2, f3, f2⟩
end
theorem list2 {zs : List Int} (h : zs.length = 2) : ∃ a b, zs = [a, b] := by
  match zs, h with
  | [a, b], _ => exact ⟨a, b, rfl⟩
end Go.Ga

/- A slice of slices of bytes that a law is given. -/
namespace Go.Ga
open Go

/-- Slices of bytes in a row. -/
def RowB (nx : Nat) (gt : Nat → Option Blk) (A : Option Addr) (n : Nat) (ls : List (List UInt8)) : Prop := ls.length = n ∧ (∀ a, A = some a → a.spot = none ∨ a.spot = some 1) ∧ (0 < n → ∃ a ce ro, A = some a ∧ a.block < nx ∧ gt a.block = some (.cells ce ro) ∧ a.off + n ≤ ce.length ∧
  ∀ i, i < n → ∃ B m d, ce.getD (a.off + i) undef = .slice B m d ∧ m ≤ d ∧ Row nx gt 1 B m ((ls.getD i []).map u8V))
theorem RowB.keep {nx gt A n ls nx' gt'} (h : RowB nx gt A n ls) (h1 : nx ≤ nx') (h2 : ∀ p, p < nx → gt' p = gt p) : RowB nx' gt' A n ls := by
  refine ⟨h.1, h.2.1, fun h0 => ?_⟩
  obtain ⟨a, ce, ro, e1, e2, e3, e4, e5⟩ := h.2.2 h0
  refine ⟨a, ce, ro, e1, by omega, by rw [h2 _ e2, e3], e4, fun i hi => ?_⟩
  obtain ⟨B, m, d, f1, f2, f3⟩ := e5 i hi
  exact ⟨B, m, d, f1, f2, f3.keep h1 h2⟩

section
variable {H : Type} {enc : TypeId × Value → H} {P : Program} {w : World} {held : Bool} {t : TypeId}

theorem open_lbytes {e e' : TypeId} (ht : P.underlying t = some (.slice e)) (he : P.underlying e = some (.slice e')) (he' : P.underlying e' = some (.int .u8)) (hc : P.cellsOf e = 1) (hc' : P.cellsOf e' = 1) {r : Reach} {b0 : Nat} {v : Value} {d : DataW H} {ps : List MemPlace} (hval : Value.okWide P w r b0 t v) (hd : DataW.Trod enc P w 0 (fun _ => true) held t v d ps) :
    ∃ (A : Option Addr) (n c : Nat) (ls : List (List UInt8)), absV w v = .slice A n c ∧ RowB w.heap.size (m0 w).get A n ls ∧ n ≤ c := by
  obtain ⟨a, len, cap, rfl⟩ := WideShapes.okWide_slice ht hval
  obtain ⟨fuel, hf⟩ := hd
  obtain ⟨n, v, A, len', cap', l, _, h1, h2, h3, h4, h5, h6⟩ := Shp.slice ht (by omega) ⟨_, hf⟩
  have hv : v = .slice a len cap := by
    simp only [Value.cells] at h1
    injection h1 with h1
    exact h1.symm
  subst hv
  rw [hc, Nat.mul_one] at h4 h5
  have hB : ∀ i, i < len' → ∃ (B : Option Addr) (m d : Nat) (k : List UInt8), (l.map (absC w)).getD i undef = .slice B m d ∧ m ≤ d ∧ Row w.heap.size (m0 w).get 1 B m (k.map u8V) := fun i hi => by
    obtain ⟨v', B, m, d, k, e1, e2, e3, e4⟩ := (h6 i hi).bytes he he' hc'
    have e1' : l[i]'(by omega) = v' := by
      rw [hc, Nat.mul_one, take_one (by omega)] at e1
      simpa using e1
    refine ⟨B, m, d, k, ?_, e3, e4⟩
    rw [List.getD_eq_getElem?_getD, List.getElem?_map, List.getElem?_eq_getElem (show i < l.length by omega), e1']
    exact e2
  have hls : ∃ ls : List (List UInt8), ls.length = len' ∧ ∀ i, i < len' → ∃ (B : Option Addr) (m d : Nat), (l.map (absC w)).getD i undef = .slice B m d ∧ m ≤ d ∧ Row w.heap.size (m0 w).get 1 B m ((ls.getD i []).map u8V) := by
    have key : ∀ k, k ≤ len' → ∃ ls : List (List UInt8), ls.length = k ∧ ∀ i, i < k → ∃ (B : Option Addr) (m d : Nat), (l.map (absC w)).getD i undef = .slice B m d ∧ m ≤ d ∧ Row w.heap.size (m0 w).get 1 B m ((ls.getD i []).map u8V) := by
      intro k
      induction k with
      | zero => intro _; exact ⟨[], rfl, fun i hi => absurd hi (Nat.not_lt_zero i)⟩
      | succ k ih =>
        intro hk
        obtain ⟨ls, e1, e2⟩ := ih (by omega)
        obtain ⟨B, m, d, x, f1, f2, f3⟩ := hB k (by omega)
        refine ⟨ls ++ [x], by simp [e1], fun i hi => ?_⟩
        rcases Nat.lt_or_ge i k with h | h
        · obtain ⟨B, m, d, g1, g2, g3⟩ := e2 i h
          refine ⟨B, m, d, g1, g2, ?_⟩
          rw [List.getD_eq_getElem?_getD, List.getElem?_append_left (by omega), ← List.getD_eq_getElem?_getD]
          exact g3
        · have : i = k := by omega
          subst this
          refine ⟨B, m, d, f1, f2, ?_⟩
          rw [List.getD_eq_getElem?_getD, List.getElem?_append_right (by omega), e1, Nat.sub_self]
          exact f3
    exact key len' (Nat.le_refl _)
  obtain ⟨ls, e1, e2⟩ := hls
  refine ⟨A, len', cap', ls, h2, ⟨e1, fun a ha => h4.spot a ha, fun h0 => ?_⟩, h3⟩
  obtain ⟨a, ce, ro, g1, g2, g3, g4, g5⟩ := h4.cells h0
  refine ⟨a, ce, ro, g1, g2, g3, g4, fun i hi => ?_⟩
  rw [g5 i hi]
  exact e2 i hi
end
end Go.Ga
