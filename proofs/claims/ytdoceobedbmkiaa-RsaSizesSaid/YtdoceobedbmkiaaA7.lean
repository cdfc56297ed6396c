/- Words and contracts of functions for the statement's proof. No condition. -/
import Derived.Test.YtdoceobedbmkiaaA6
import Derived.ChangeArms
import Derived.OpenShut
import Derived.DataReads
set_option linter.all false

namespace Go.Ga
open Go Go.Proofs
set_option linter.unusedSimpArgs false
set_option linter.unusedVariables false
set_option maxRecDepth 100000
attribute [local irreducible] appendK endK endW

def rightB (N : List UInt8) (E : Nat) : Bool := decide (62 ≤ N.length ∧ N.length ≤ 512 ∧ (N.getD 0 0).toNat ≠ 0 ∧ (N.getD (N.length - 1) 0).toNat % 2 = 1 ∧ E % 2 = 1 ∧ 3 ≤ E)
def keyV (A : Option Addr) (n c E : Nat) : Value := .agg #[.slice A n c, .int .u32 (E : Nat)]

theorem and1_8 {x : Nat} (h : x < 256) : bitsV .and .u8 (x : Int) 1 = ((x % 2 : Nat) : Int) := by
  have := and_u8 (x := x) (y := 1) h (by omega)
  rw [Nat.and_one_is_mod] at this
  exact this
theorem and1_32 {x : Nat} (h : x < 4294967296) : bitsV .and .u32 (x : Int) 1 = ((x % 2 : Nat) : Int) := by
  have := and_u32 (x := x) (y := 1) h (by omega)
  rw [Nat.and_one_is_mod] at this
  exact this

section
variable {nx : Nat} {gt : Nat → Option Blk}

theorem ct_Right {A : Option Addr} {n c E : Nat} {N : List UInt8} (hA : Row nx gt 1 A n (N.map u8V)) (hE : E < 4294967296) (hn : n ≤ 100000) :
    Ct Try.prog 24 [keyV A n c E] nx gt fun v _ _ => v = .bool (rightB N E) := by
  have hN : N.length = n := by simpa using hA.len
  refine Ct.of hmx r_rsa_Right (by simp [c_rsa_Right]) fun b hb => ?_
  by_cases c1 : (62 : Int) ≤ (n : Int)
  · obtain ⟨a, ce, ro, rfl, p1, p2, p3, p4⟩ := hA.cells (by omega)
    have p0 := p4 0 (by omega)
    rw [getD_u8 (by omega), Nat.add_zero] at p0
    have pl := p4 (n - 1) (by omega)
    rw [getD_u8 (by omega)] at pl
    have na : ¬ a.block = nx := by omega
    obtain ⟨x0, h0⟩ : ∃ x, (N.getD 0 0).toNat = x := ⟨_, rfl⟩
    obtain ⟨xl, hl⟩ : ∃ x, (N.getD (n - 1) 0).toNat = x := ⟨_, rfl⟩
    have bl : xl < 256 := by rw [← hl]; exact UInt8.toNat_lt _
    rw [h0] at p0
    rw [hl] at pl
    have e1 : (n : Int) - 1 = ((n - 1 : Nat) : Int) := by omega
    have i1 := i64_w ((n - 1 : Nat) : Int) (by omega)
    have e2 : ((n - 1 : Nat) : Int).toNat = n - 1 := by omega
    have bx : bitsV .and .u8 (xl : Int) 1 = ((xl % 2 : Nat) : Int) := and1_8 bl
    have be : bitsV .and .u32 (E : Int) 1 = ((E % 2 : Nat) : Int) := and1_32 hE
    by_cases c2 : (n : Int) ≤ 512
    · skip
      by_cases c3 : ((x0 : Nat) : Int) = 0
      · skip
        simp only [c_rsa_Right, keyV, ↓gaW, ↓gaV, ↓gaC, ↓gaN, gaP, Nat.reduceEqDiff, Nat.reduceLeDiff, Nat.reduceAdd, Nat.reduceSub, Nat.reduceMul, Int.reduceLT, Int.reduceLE, Int.reduceEq, Int.reduceToNat, Int.reduceAdd, Int.reduceSub, Int.reduceMul, reduceCtorEq, ↓reduceIte, gaE, implies_true, Nat.le_refl, Int.sub_zero, Nat.sub_zero, Int.le_refl, true_or, or_true, List.getD_cons_zero, List.getD_cons_succ, List.length_cons, List.length_nil, gaU, c1, c2, c3, decide_true, decide_false, Bool.not_true, Bool.not_false, p2, p0, pl, if_neg na, e1, i1, e2, bx, be, Nat.mul_one]
        repeat refine And.intro (by omega) ?_
        refine ⟨fun q hq => by rw [if_neg (by omega)], ?_⟩
        rw [Eq.comm, Value.bool.injEq, rightB, hN, h0, hl]
        simp only [decide_eq_true_eq, decide_eq_false_iff_not]
        omega
      · skip
        by_cases c4 : ((xl % 2 : Nat) : Int) = 1
        · skip
          by_cases c5 : ((E % 2 : Nat) : Int) = 1
          · skip
            by_cases c6 : (3 : Int) ≤ (E : Int)
            · skip
              simp only [c_rsa_Right, keyV, ↓gaW, ↓gaV, ↓gaC, ↓gaN, gaP, Nat.reduceEqDiff, Nat.reduceLeDiff, Nat.reduceAdd, Nat.reduceSub, Nat.reduceMul, Int.reduceLT, Int.reduceLE, Int.reduceEq, Int.reduceToNat, Int.reduceAdd, Int.reduceSub, Int.reduceMul, reduceCtorEq, ↓reduceIte, gaE, implies_true, Nat.le_refl, Int.sub_zero, Nat.sub_zero, Int.le_refl, true_or, or_true, List.getD_cons_zero, List.getD_cons_succ, List.length_cons, List.length_nil, gaU, c1, c2, c3, c4, c5, c6, decide_true, decide_false, Bool.not_true, Bool.not_false, p2, p0, pl, if_neg na, e1, i1, e2, bx, be, Nat.mul_one]
              repeat refine And.intro (by omega) ?_
              refine ⟨fun q hq => by rw [if_neg (by omega)], ?_⟩
              rw [Eq.comm, Value.bool.injEq, rightB, hN, h0, hl]
              simp only [decide_eq_true_eq, decide_eq_false_iff_not]
              omega
            · skip
              simp only [c_rsa_Right, keyV, ↓gaW, ↓gaV, ↓gaC, ↓gaN, gaP, Nat.reduceEqDiff, Nat.reduceLeDiff, Nat.reduceAdd, Nat.reduceSub, Nat.reduceMul, Int.reduceLT, Int.reduceLE, Int.reduceEq, Int.reduceToNat, Int.reduceAdd, Int.reduceSub, Int.reduceMul, reduceCtorEq, ↓reduceIte, gaE, implies_true, Nat.le_refl, Int.sub_zero, Nat.sub_zero, Int.le_refl, true_or, or_true, List.getD_cons_zero, List.getD_cons_succ, List.length_cons, List.length_nil, gaU, c1, c2, c3, c4, c5, c6, decide_true, decide_false, Bool.not_true, Bool.not_false, p2, p0, pl, if_neg na, e1, i1, e2, bx, be, Nat.mul_one]
              repeat refine And.intro (by omega) ?_
              refine ⟨fun q hq => by rw [if_neg (by omega)], ?_⟩
              rw [Eq.comm, Value.bool.injEq, rightB, hN, h0, hl]
              simp only [decide_eq_true_eq, decide_eq_false_iff_not]
              omega
          · skip
            simp only [c_rsa_Right, keyV, ↓gaW, ↓gaV, ↓gaC, ↓gaN, gaP, Nat.reduceEqDiff, Nat.reduceLeDiff, Nat.reduceAdd, Nat.reduceSub, Nat.reduceMul, Int.reduceLT, Int.reduceLE, Int.reduceEq, Int.reduceToNat, Int.reduceAdd, Int.reduceSub, Int.reduceMul, reduceCtorEq, ↓reduceIte, gaE, implies_true, Nat.le_refl, Int.sub_zero, Nat.sub_zero, Int.le_refl, true_or, or_true, List.getD_cons_zero, List.getD_cons_succ, List.length_cons, List.length_nil, gaU, c1, c2, c3, c4, c5, decide_true, decide_false, Bool.not_true, Bool.not_false, p2, p0, pl, if_neg na, e1, i1, e2, bx, be, Nat.mul_one]
            repeat refine And.intro (by omega) ?_
            refine ⟨fun q hq => by rw [if_neg (by omega)], ?_⟩
            rw [Eq.comm, Value.bool.injEq, rightB, hN, h0, hl]
            simp only [decide_eq_true_eq, decide_eq_false_iff_not]
            omega
        · skip
          simp only [c_rsa_Right, keyV, ↓gaW, ↓gaV, ↓gaC, ↓gaN, gaP, Nat.reduceEqDiff, Nat.reduceLeDiff, Nat.reduceAdd, Nat.reduceSub, Nat.reduceMul, Int.reduceLT, Int.reduceLE, Int.reduceEq, Int.reduceToNat, Int.reduceAdd, Int.reduceSub, Int.reduceMul, reduceCtorEq, ↓reduceIte, gaE, implies_true, Nat.le_refl, Int.sub_zero, Nat.sub_zero, Int.le_refl, true_or, or_true, List.getD_cons_zero, List.getD_cons_succ, List.length_cons, List.length_nil, gaU, c1, c2, c3, c4, decide_true, decide_false, Bool.not_true, Bool.not_false, p2, p0, pl, if_neg na, e1, i1, e2, bx, be, Nat.mul_one]
          repeat refine And.intro (by omega) ?_
          refine ⟨fun q hq => by rw [if_neg (by omega)], ?_⟩
          rw [Eq.comm, Value.bool.injEq, rightB, hN, h0, hl]
          simp only [decide_eq_true_eq, decide_eq_false_iff_not]
          omega
    · skip
      simp only [c_rsa_Right, keyV, ↓gaW, ↓gaV, ↓gaC, ↓gaN, gaP, Nat.reduceEqDiff, Nat.reduceLeDiff, Nat.reduceAdd, Nat.reduceSub, Nat.reduceMul, Int.reduceLT, Int.reduceLE, Int.reduceEq, Int.reduceToNat, Int.reduceAdd, Int.reduceSub, Int.reduceMul, reduceCtorEq, ↓reduceIte, gaE, implies_true, Nat.le_refl, Int.sub_zero, Nat.sub_zero, Int.le_refl, true_or, or_true, List.getD_cons_zero, List.getD_cons_succ, List.length_cons, List.length_nil, gaU, c1, c2, decide_true, decide_false, Bool.not_true, Bool.not_false, p2, p0, pl, if_neg na, e1, i1, e2, bx, be, Nat.mul_one]
      repeat refine And.intro (by omega) ?_
      refine ⟨fun q hq => by rw [if_neg (by omega)], ?_⟩
      rw [Eq.comm, Value.bool.injEq, rightB, hN, h0, hl]
      simp only [decide_eq_true_eq, decide_eq_false_iff_not]
      omega
  · have c1' : ¬ 62 ≤ n := by omega
    simp only [c_rsa_Right, keyV, ↓gaW, ↓gaV, ↓gaC, ↓gaN, gaP, Nat.reduceEqDiff, Nat.reduceLeDiff, Nat.reduceAdd, Nat.reduceSub, Nat.reduceMul, Int.reduceLT, Int.reduceLE, Int.reduceEq, Int.reduceToNat, Int.reduceAdd, Int.reduceSub, Int.reduceMul, reduceCtorEq, ↓reduceIte, gaE, implies_true, Nat.le_refl, Int.sub_zero, Nat.sub_zero, Int.le_refl, true_or, or_true, List.getD_cons_zero, gaU, c1, decide_false]
    repeat refine And.intro (by omega) ?_
    refine ⟨fun q hq => by rw [if_neg (by omega)], ?_⟩
    rw [Eq.comm, Value.bool.injEq, rightB, hN]
    exact decide_eq_false fun h => c1' h.1

theorem ct_rRight {A : Option Addr} {n c E : Nat} {N : List UInt8} (hA : Row nx gt 1 A n (N.map u8V)) (hE : E < 4294967296) (hn : n ≤ 100000) :
    Ct Try.prog 25 [keyV A n c E] nx gt fun v _ _ => v = .bool (rightB N E) := by
  have hN : N.length = n := by simpa using hA.len
  refine Ct.of hmx r_lanyardref09_Right (by simp [c_lanyardref09_Right]) fun b hb => ?_
  by_cases c1 : (62 : Int) ≤ (n : Int)
  · obtain ⟨a, ce, ro, rfl, p1, p2, p3, p4⟩ := hA.cells (by omega)
    have p0 := p4 0 (by omega)
    rw [getD_u8 (by omega), Nat.add_zero] at p0
    have pl := p4 (n - 1) (by omega)
    rw [getD_u8 (by omega)] at pl
    have na : ¬ a.block = nx := by omega
    obtain ⟨x0, h0⟩ : ∃ x, (N.getD 0 0).toNat = x := ⟨_, rfl⟩
    obtain ⟨xl, hl⟩ : ∃ x, (N.getD (n - 1) 0).toNat = x := ⟨_, rfl⟩
    have bl : xl < 256 := by rw [← hl]; exact UInt8.toNat_lt _
    rw [h0] at p0
    rw [hl] at pl
    have e1 : (n : Int) - 1 = ((n - 1 : Nat) : Int) := by omega
    have i1 := i64_w ((n - 1 : Nat) : Int) (by omega)
    have e2 : ((n - 1 : Nat) : Int).toNat = n - 1 := by omega
    have bx : ((xl : Nat) : Int).tmod 2 = ((xl % 2 : Nat) : Int) := by rw [Int.tmod_eq_emod_of_nonneg (by omega)]; omega
    have be : ((E : Nat) : Int).tmod 2 = ((E % 2 : Nat) : Int) := by rw [Int.tmod_eq_emod_of_nonneg (by omega)]; omega
    by_cases c2 : (n : Int) ≤ 512
    · skip
      by_cases c3 : ((x0 : Nat) : Int) = 0
      · skip
        simp only [c_lanyardref09_Right, keyV, ↓gaW, ↓gaV, ↓gaC, ↓gaN, gaP, Nat.reduceEqDiff, Nat.reduceLeDiff, Nat.reduceAdd, Nat.reduceSub, Nat.reduceMul, Int.reduceLT, Int.reduceLE, Int.reduceEq, Int.reduceToNat, Int.reduceAdd, Int.reduceSub, Int.reduceMul, reduceCtorEq, ↓reduceIte, gaE, implies_true, Nat.le_refl, Int.sub_zero, Nat.sub_zero, Int.le_refl, true_or, or_true, List.getD_cons_zero, List.getD_cons_succ, List.length_cons, List.length_nil, gaU, c1, c2, c3, decide_true, decide_false, Bool.not_true, Bool.not_false, p2, p0, pl, if_neg na, e1, i1, e2, bx, be, Nat.mul_one]
        repeat refine And.intro (by omega) ?_
        refine ⟨fun q hq => by rw [if_neg (by omega)], ?_⟩
        rw [Eq.comm, Value.bool.injEq, rightB, hN, h0, hl]
        simp only [decide_eq_true_eq, decide_eq_false_iff_not]
        omega
      · skip
        by_cases c4 : ((xl % 2 : Nat) : Int) = 1
        · skip
          by_cases c5 : ((E % 2 : Nat) : Int) = 1
          · skip
            by_cases c6 : (3 : Int) ≤ (E : Int)
            · skip
              simp only [c_lanyardref09_Right, keyV, ↓gaW, ↓gaV, ↓gaC, ↓gaN, gaP, Nat.reduceEqDiff, Nat.reduceLeDiff, Nat.reduceAdd, Nat.reduceSub, Nat.reduceMul, Int.reduceLT, Int.reduceLE, Int.reduceEq, Int.reduceToNat, Int.reduceAdd, Int.reduceSub, Int.reduceMul, reduceCtorEq, ↓reduceIte, gaE, implies_true, Nat.le_refl, Int.sub_zero, Nat.sub_zero, Int.le_refl, true_or, or_true, List.getD_cons_zero, List.getD_cons_succ, List.length_cons, List.length_nil, gaU, c1, c2, c3, c4, c5, c6, decide_true, decide_false, Bool.not_true, Bool.not_false, p2, p0, pl, if_neg na, e1, i1, e2, bx, be, Nat.mul_one]
              repeat refine And.intro (by omega) ?_
              refine ⟨fun q hq => by rw [if_neg (by omega)], ?_⟩
              rw [Eq.comm, Value.bool.injEq, rightB, hN, h0, hl]
              simp only [decide_eq_true_eq, decide_eq_false_iff_not]
              omega
            · skip
              simp only [c_lanyardref09_Right, keyV, ↓gaW, ↓gaV, ↓gaC, ↓gaN, gaP, Nat.reduceEqDiff, Nat.reduceLeDiff, Nat.reduceAdd, Nat.reduceSub, Nat.reduceMul, Int.reduceLT, Int.reduceLE, Int.reduceEq, Int.reduceToNat, Int.reduceAdd, Int.reduceSub, Int.reduceMul, reduceCtorEq, ↓reduceIte, gaE, implies_true, Nat.le_refl, Int.sub_zero, Nat.sub_zero, Int.le_refl, true_or, or_true, List.getD_cons_zero, List.getD_cons_succ, List.length_cons, List.length_nil, gaU, c1, c2, c3, c4, c5, c6, decide_true, decide_false, Bool.not_true, Bool.not_false, p2, p0, pl, if_neg na, e1, i1, e2, bx, be, Nat.mul_one]
              repeat refine And.intro (by omega) ?_
              refine ⟨fun q hq => by rw [if_neg (by omega)], ?_⟩
              rw [Eq.comm, Value.bool.injEq, rightB, hN, h0, hl]
              simp only [decide_eq_true_eq, decide_eq_false_iff_not]
              omega
          · skip
            simp only [c_lanyardref09_Right, keyV, ↓gaW, ↓gaV, ↓gaC, ↓gaN, gaP, Nat.reduceEqDiff, Nat.reduceLeDiff, Nat.reduceAdd, Nat.reduceSub, Nat.reduceMul, Int.reduceLT, Int.reduceLE, Int.reduceEq, Int.reduceToNat, Int.reduceAdd, Int.reduceSub, Int.reduceMul, reduceCtorEq, ↓reduceIte, gaE, implies_true, Nat.le_refl, Int.sub_zero, Nat.sub_zero, Int.le_refl, true_or, or_true, List.getD_cons_zero, List.getD_cons_succ, List.length_cons, List.length_nil, gaU, c1, c2, c3, c4, c5, decide_true, decide_false, Bool.not_true, Bool.not_false, p2, p0, pl, if_neg na, e1, i1, e2, bx, be, Nat.mul_one]
            repeat refine And.intro (by omega) ?_
            refine ⟨fun q hq => by rw [if_neg (by omega)], ?_⟩
            rw [Eq.comm, Value.bool.injEq, rightB, hN, h0, hl]
            simp only [decide_eq_true_eq, decide_eq_false_iff_not]
            omega
        · skip
          simp only [c_lanyardref09_Right, keyV, ↓gaW, ↓gaV, ↓gaC, ↓gaN, gaP, Nat.reduceEqDiff, Nat.reduceLeDiff, Nat.reduceAdd, Nat.reduceSub, Nat.reduceMul, Int.reduceLT, Int.reduceLE, Int.reduceEq, Int.reduceToNat, Int.reduceAdd, Int.reduceSub, Int.reduceMul, reduceCtorEq, ↓reduceIte, gaE, implies_true, Nat.le_refl, Int.sub_zero, Nat.sub_zero, Int.le_refl, true_or, or_true, List.getD_cons_zero, List.getD_cons_succ, List.length_cons, List.length_nil, gaU, c1, c2, c3, c4, decide_true, decide_false, Bool.not_true, Bool.not_false, p2, p0, pl, if_neg na, e1, i1, e2, bx, be, Nat.mul_one]
          repeat refine And.intro (by omega) ?_
          refine ⟨fun q hq => by rw [if_neg (by omega)], ?_⟩
          rw [Eq.comm, Value.bool.injEq, rightB, hN, h0, hl]
          simp only [decide_eq_true_eq, decide_eq_false_iff_not]
          omega
    · skip
      simp only [c_lanyardref09_Right, keyV, ↓gaW, ↓gaV, ↓gaC, ↓gaN, gaP, Nat.reduceEqDiff, Nat.reduceLeDiff, Nat.reduceAdd, Nat.reduceSub, Nat.reduceMul, Int.reduceLT, Int.reduceLE, Int.reduceEq, Int.reduceToNat, Int.reduceAdd, Int.reduceSub, Int.reduceMul, reduceCtorEq, ↓reduceIte, gaE, implies_true, Nat.le_refl, Int.sub_zero, Nat.sub_zero, Int.le_refl, true_or, or_true, List.getD_cons_zero, List.getD_cons_succ, List.length_cons, List.length_nil, gaU, c1, c2, decide_true, decide_false, Bool.not_true, Bool.not_false, p2, p0, pl, if_neg na, e1, i1, e2, bx, be, Nat.mul_one]
      repeat refine And.intro (by omega) ?_
      refine ⟨fun q hq => by rw [if_neg (by omega)], ?_⟩
      rw [Eq.comm, Value.bool.injEq, rightB, hN, h0, hl]
      simp only [decide_eq_true_eq, decide_eq_false_iff_not]
      omega
  · have c1' : ¬ 62 ≤ n := by omega
    simp only [c_lanyardref09_Right, keyV, ↓gaW, ↓gaV, ↓gaC, ↓gaN, gaP, Nat.reduceEqDiff, Nat.reduceLeDiff, Nat.reduceAdd, Nat.reduceSub, Nat.reduceMul, Int.reduceLT, Int.reduceLE, Int.reduceEq, Int.reduceToNat, Int.reduceAdd, Int.reduceSub, Int.reduceMul, reduceCtorEq, ↓reduceIte, gaE, implies_true, Nat.le_refl, Int.sub_zero, Nat.sub_zero, Int.le_refl, true_or, or_true, List.getD_cons_zero, gaU, c1, decide_false]
    repeat refine And.intro (by omega) ?_
    refine ⟨fun q hq => by rw [if_neg (by omega)], ?_⟩
    rw [Eq.comm, Value.bool.injEq, rightB, hN]
    exact decide_eq_false fun h => c1' h.1
end
end Go.Ga

namespace Go.Ga
open Go Go.Proofs
set_option linter.unusedSimpArgs false
set_option linter.unusedVariables false
set_option maxRecDepth 100000
attribute [local irreducible] appendK endK endW

section
variable {nx : Nat} {gt : Nat → Option Blk}

theorem ct_Light {A : Option Addr} {n c E : Nat} : Ct Try.prog 21 [keyV A n c E] nx gt fun v _ _ => v = .bool (decide ((n : Int) ≤ 140)) := by
  refine Ct.of hmx r_lanyardref09_LightKey (by simp [c_lanyardref09_LightKey]) fun b hb => ?_
  simp only [c_lanyardref09_LightKey, keyV, ↓gaW, ↓gaV, ↓gaC, ↓gaN, gaP, Nat.reduceEqDiff, Nat.reduceLeDiff, Nat.reduceAdd, Nat.reduceSub, Nat.reduceMul, Int.reduceLT, Int.reduceLE, Int.reduceEq, Int.reduceToNat, Int.reduceAdd, Int.reduceSub, Int.reduceMul, reduceCtorEq, ↓reduceIte, gaE, implies_true, Nat.le_refl, Int.sub_zero, Nat.sub_zero, Int.le_refl, true_or, or_true, List.getD_cons_zero, gaU]
  repeat refine And.intro (by omega) ?_
  exact fun q hq => by rw [if_neg (by omega)]

def h7 : List UInt8 := [7, 0, 0, 0, 0, 0, 0, 0, 0, 0, 0, 0, 0, 0, 0, 0, 0, 0, 0, 0, 0, 0, 0, 0, 0, 0, 0, 0, 0, 0, 0, 0]

theorem ct_awake09 : Ct Try.prog 20 [] nx gt fun v _ _ => v = .bool true := by
  refine Ct.of hmx r_lanyardlaw09_awake (by simp [c_lanyardlaw09_awake]) fun b hb => ?_
  have hF : ∀ q, q < nx → gt q = gt q := fun _ _ => rfl
  simp only [c_lanyardlaw09_awake, ↓gaW, ↓gaV, ↓gaC, ↓gaN, gaP, Nat.reduceEqDiff, Nat.reduceLeDiff, Nat.reduceAdd, Nat.reduceSub, Nat.reduceMul, Int.reduceLT, Int.reduceLE, Int.reduceEq, Int.reduceToNat, Int.reduceAdd, Int.reduceSub, Int.reduceMul, reduceCtorEq, ↓reduceIte, List.getD_cons_zero, List.getD_cons_succ, fillL, splice, List.take_zero, List.drop_zero, List.drop_succ_cons, List.take_succ_cons, List.drop_nil, List.take_nil]
  refine (show callK Try.prog 22 [.agg (h7.map u8V).toArray, .int .i64 62] _ _ _ _ _ from ?_)
  refine callK_of (ct_Frame (H := h7) (s := 62) rfl) (fun v x1 g1 l1 k1 hC => ?_) (by omega)
  obtain ⟨A, n, c, rfl, hc, hn, hr⟩ := hC
  have e0 : frameR h7 62 = (frL h7 62, 0) := if_pos (by omega)
  rw [e0] at hn hr
  have hn : n = 62 := hn
  subst hn
  obtain ⟨a, ce, ro, rfl, p1, p2, p3, p4⟩ := hr.cells (by omega)
  have v1 : ce.getD (a.off + 1) undef = .int .u8 1 := p4 1 (by omega)
  have v9 : ce.getD (a.off + 9) undef = .int .u8 255 := p4 9 (by omega)
  have v10 : ce.getD (a.off + 10) undef = .int .u8 0 := p4 10 (by omega)
  have v11 : ce.getD (a.off + 11) undef = .int .u8 48 := p4 11 (by omega)
  have v30 : ce.getD (a.off + 30) undef = .int .u8 7 := p4 30 (by omega)
  simp only [↓gaW, ↓gaV, ↓gaC, ↓gaN, gaP, Nat.reduceEqDiff, Nat.reduceLeDiff, Nat.reduceAdd, Nat.reduceSub, Nat.reduceMul, Int.reduceLT, Int.reduceLE, Int.reduceEq, Int.reduceToNat, Int.reduceAdd, Int.reduceSub, Int.reduceMul, reduceCtorEq, ↓reduceIte, gaE, implies_true, Nat.le_refl, Int.sub_zero, Nat.sub_zero, Int.le_refl, true_or, or_true, e0, p2, v1, v9, v10, v11, v30, decide_true, Nat.mul_one]
  exact ⟨by omega, by omega, by omega, by omega, by omega, by omega, by omega, by omega, k1⟩

theorem fn_Frames {A : Option Addr} {n c E : Nat} {H N : List UInt8} {s : Int} (hH : H.length = 32) (hs : -9223372036854775808 ≤ s ∧ s ≤ 9223372036854775807) (hA : Row nx gt 1 A n (N.map u8V)) (hc : n ≤ c) (hE : E < 4294967296) :
    Ct Try.prog 6 [.agg (H.map u8V).toArray, .int .i64 s, keyV A n c E] nx gt fun v _ _ => v = .bool true := by
  refine Ct.of hmx r_lanyardlaw09_RsaFrames (by simp [c_lanyardlaw09_RsaFrames]) fun b hb => ?_
  have hF : ∀ q, q < nx → gt q = gt q := fun _ _ => rfl
  simp only [c_lanyardlaw09_RsaFrames, keyV, ↓gaW, ↓gaV, ↓gaC, ↓gaN, gaP, Nat.reduceEqDiff, Nat.reduceLeDiff, Nat.reduceAdd, Nat.reduceSub, Nat.reduceMul, Int.reduceLT, Int.reduceLE, Int.reduceEq, Int.reduceToNat, Int.reduceAdd, Int.reduceSub, Int.reduceMul, reduceCtorEq, ↓reduceIte]
  have hHl : (H.map u8V).length = 32 := by simp [hH]
  have htk : List.take 32 (H.map u8V) = H.map u8V := List.take_of_length_le (by omega)
  refine callK_of ct_awake09 (fun v x1 g1 l1 k1 hC => ?_) (by omega)
  subst hC
  have a1 : g1 nx = some (.cells (H.map u8V) false) := by rw [k1 nx (by omega)]; simp only [upd_e, if_true]; rw [if_neg (by omega)]
  have b1 : g1 (nx + 1) = some (.cells [.slice A n c, .int .u32 (E : Nat)] false) := by rw [k1 _ (by omega)]; simp only [upd_e, if_true]
  have F1 : ∀ p, p < nx → g1 p = gt p := fun p hp => by rw [k1 p (by omega)]; simp only [upd_e]; rw [if_neg (by omega), if_neg (by omega)]
  have hA1 : Row x1 g1 1 A n (N.map u8V) := hA.keep (by omega) F1
  clear k1
  simp only [↓gaW, ↓gaV, ↓gaC, ↓gaN, gaP, Nat.reduceEqDiff, Nat.reduceLeDiff, Nat.reduceAdd, Nat.reduceSub, Nat.reduceMul, Int.reduceLT, Int.reduceLE, Int.reduceEq, Int.reduceToNat, Int.reduceAdd, Int.reduceSub, Int.reduceMul, reduceCtorEq, ↓reduceIte, gaU, b1, List.drop_zero, List.take_succ_cons, List.take_zero, List.length_cons, List.length_nil]
  refine callK_of (ct_Light (A := A) (n := n) (c := c) (E := E)) (fun v x2 g2 l2 k2 hC => ?_) (by omega)
  subst hC
  by_cases hn : (n : Int) ≤ 140
  · have a2 : g2 nx = some (.cells (H.map u8V) false) := by rw [k2 nx (by omega), a1]
    have b2 : g2 (nx + 1) = some (.cells [.slice A n c, .int .u32 (E : Nat)] false) := by rw [k2 _ (by omega), b1]
    have F2 : ∀ p, p < nx → g2 p = gt p := fun p hp => by rw [k2 p (by omega), F1 p hp]
    have hA2 : Row x2 g2 1 A n (N.map u8V) := hA1.keep (by omega) k2
    simp only [↓gaW, ↓gaV, ↓gaC, ↓gaN, gaP, Nat.reduceEqDiff, Nat.reduceLeDiff, Nat.reduceAdd, Nat.reduceSub, Nat.reduceMul, Int.reduceLT, Int.reduceLE, Int.reduceEq, Int.reduceToNat, Int.reduceAdd, Int.reduceSub, Int.reduceMul, reduceCtorEq, ↓reduceIte, gaU, hn, decide_true, Bool.not_true, a2, hHl, htk, List.drop_zero]
    refine callK_of (ct_Frame (s := s) hH) (fun v x3 g3 l3 k3 hC => ?_) (by omega)
    obtain ⟨B, nb, cb, rfl, hcb, hnb, hrb⟩ := hC
    have a3 : g3 nx = some (.cells (H.map u8V) false) := by rw [k3 nx (by omega), a2]
    have b3 : g3 (nx + 1) = some (.cells [.slice A n c, .int .u32 (E : Nat)] false) := by rw [k3 _ (by omega), b2]
    have F3 : ∀ p, p < nx → g3 p = gt p := fun p hp => by rw [k3 p (by omega), F2 p hp]
    have hA3 : Row x3 g3 1 A n (N.map u8V) := hA2.keep (by omega) k3
    simp only [↓gaW, ↓gaV, ↓gaC, ↓gaN, gaP, Nat.reduceEqDiff, Nat.reduceLeDiff, Nat.reduceAdd, Nat.reduceSub, Nat.reduceMul, Int.reduceLT, Int.reduceLE, Int.reduceEq, Int.reduceToNat, Int.reduceAdd, Int.reduceSub, Int.reduceMul, reduceCtorEq, ↓reduceIte, gaU, a3, hHl, htk, List.drop_zero]
    refine And.intro (by omega) (And.intro (by omega) ?_)
    refine callK_of (ct_rFrame (s := s) hH) (fun v x4 g4 l4 k4 hC => ?_) (by omega)
    obtain ⟨D4, nd, cd, rfl, hcd, hnd, hrd⟩ := hC
    have b4 : g4 (nx + 1) = some (.cells [.slice A n c, .int .u32 (E : Nat)] false) := by rw [k4 _ (by omega), b3]
    have F4 : ∀ p, p < nx → g4 p = gt p := fun p hp => by rw [k4 p (by omega), F3 p hp]
    have hA4 : Row x4 g4 1 A n (N.map u8V) := hA3.keep (by omega) k4
    have hrb4 := hrb.keep (by omega) k4
    have rb : ∀ b, rowOf ⟨x4, b, g4⟩ B nb = some _ := fun b => hrb4.rowOf
    have rd : ∀ b, rowOf ⟨x4, b, g4⟩ D4 nd = some _ := fun b => hrd.rowOf
    simp only [↓gaW, ↓gaV, ↓gaC, ↓gaN, gaP, Nat.reduceEqDiff, Nat.reduceLeDiff, Nat.reduceAdd, Nat.reduceSub, Nat.reduceMul, Int.reduceLT, Int.reduceLE, Int.reduceEq, Int.reduceToNat, Int.reduceAdd, Int.reduceSub, Int.reduceMul, reduceCtorEq, ↓reduceIte, gaU, rb, rd, b4, List.drop_zero, List.take_succ_cons, List.take_zero, List.length_cons, List.length_nil, beq_self_eq_true, bytesOf_map, decide_true]
    refine And.intro (by omega) (And.intro (by omega) ?_)
    refine callQ_of (ct_Right (E := E) (c := c) hA4 hE (by omega)) (fun v x5 g5 l5 k5 hC => ?_)
    subst hC
    have b5 : g5 (nx + 1) = some (.cells [.slice A n c, .int .u32 (E : Nat)] false) := by rw [k5 _ (by omega), b4]
    have F5 : ∀ p, p < nx → g5 p = gt p := fun p hp => by rw [k5 p (by omega), F4 p hp]
    have hA5 : Row x5 g5 1 A n (N.map u8V) := hA4.keep (by omega) k5
    simp only [↓gaW, ↓gaV, ↓gaC, ↓gaN, gaP, Nat.reduceEqDiff, Nat.reduceLeDiff, Nat.reduceAdd, Nat.reduceSub, Nat.reduceMul, Int.reduceLT, Int.reduceLE, Int.reduceEq, Int.reduceToNat, Int.reduceAdd, Int.reduceSub, Int.reduceMul, reduceCtorEq, ↓reduceIte, gaU, b5, List.drop_zero, List.take_succ_cons, List.take_zero, List.length_cons, List.length_nil, beq_self_eq_true, bytesOf_map]
    refine callK_of (ct_rRight (E := E) (c := c) hA5 hE (by omega)) (fun v x6 g6 l6 k6 hC => ?_) (by omega)
    subst hC
    simp only [↓gaW, ↓gaV, ↓gaC, ↓gaN, gaP, Nat.reduceEqDiff, Nat.reduceLeDiff, Nat.reduceAdd, Nat.reduceSub, Nat.reduceMul, Int.reduceLT, Int.reduceLE, Int.reduceEq, Int.reduceToNat, Int.reduceAdd, Int.reduceSub, Int.reduceMul, reduceCtorEq, ↓reduceIte, gaE, implies_true, Nat.le_refl, Int.sub_zero, Nat.sub_zero, Int.le_refl, true_or, or_true, beq_self_eq_true]
    exact ⟨by omega, fun q hq => by rw [k6 q (by omega), F5 q hq]⟩
  · simp only [↓gaW, ↓gaV, ↓gaC, ↓gaN, gaP, Nat.reduceEqDiff, Nat.reduceLeDiff, Nat.reduceAdd, Nat.reduceSub, Nat.reduceMul, Int.reduceLT, Int.reduceLE, Int.reduceEq, Int.reduceToNat, Int.reduceAdd, Int.reduceSub, Int.reduceMul, reduceCtorEq, ↓reduceIte, gaE, implies_true, Nat.le_refl, Int.sub_zero, Nat.sub_zero, Int.le_refl, true_or, or_true, hn, decide_false, Bool.not_false]
    exact ⟨by omega, fun q hq => by rw [k2 q (by omega), F1 q hq]⟩
end
end Go.Ga

/- Numbers and their bytes, the highest first. -/
namespace Go.Ga
open Go

def bv : List UInt8 → Nat
  | [] => 0
  | x :: l => x.toNat * 256 ^ l.length + bv l
theorem bv_append (a b : List UInt8) : bv (a ++ b) = bv a * 256 ^ b.length + bv b := by
  induction a with
  | nil => simp [bv]
  | cons x a ih => simp only [List.cons_append, bv, ih, List.length_append, Nat.pow_add, Nat.add_mul, Nat.mul_assoc, Nat.add_assoc]
theorem lt8 (x : UInt8) : x.toNat < 256 := x.toNat_lt
theorem bv_lt (l : List UInt8) : bv l < 256 ^ l.length := by
  induction l with
  | nil => simp [bv]
  | cons x l ih =>
    simp only [bv, List.length_cons, Nat.pow_succ]
    have h1 := lt8 x
    have h2 : x.toNat * 256 ^ l.length ≤ 255 * 256 ^ l.length := Nat.mul_le_mul_right _ (by omega)
    omega
theorem take_snoc8 {l : List UInt8} {i : Nat} (h : i < l.length) : l.take (i + 1) = l.take i ++ [l.getD i 0] := by
  rw [List.take_add_one, List.getD_eq_getElem?_getD, List.getElem?_eq_getElem h]; rfl
theorem bv_take {l : List UInt8} {i : Nat} (h : i < l.length) : bv (l.take (i + 1)) = bv (l.take i) * 256 + (l.getD i 0).toNat := by
  rw [take_snoc8 h, bv_append]; simp [bv]

theorem pow_q (q r : Nat) : 256 ^ (4 * q + r) = 4294967296 ^ q * 256 ^ r := by
  rw [Nat.pow_add, Nat.pow_mul]

theorem from_step {w : List UInt32} {n i k : Nat} {l : List UInt8} (hl : l.length = n) (hi : i < n) (hk : k = n - 1 - i) (h : lv w = bv (l.take i) * 256 ^ (n - i)) (hq : k / 4 < w.length) :
    ∃ V, (w.getD (k / 4) 0).toNat = V ∧ V + (l.getD i 0).toNat * 256 ^ (k % 4) < 4294967296 ∧ (V ||| ((l.getD i 0).toNat * 256 ^ (k % 4))) = V + (l.getD i 0).toNat * 256 ^ (k % 4) ∧
      lv (w.set (k / 4) (UInt32.ofNat (V + (l.getD i 0).toNat * 256 ^ (k % 4)))) = bv (l.take (i + 1)) * 256 ^ (n - (i + 1)) := by
  obtain ⟨q, hq'⟩ : ∃ q, k / 4 = q := ⟨_, rfl⟩
  obtain ⟨r, hr'⟩ : ∃ r, k % 4 = r := ⟨_, rfl⟩
  have hk4 : k = 4 * q + r := by omega
  have hr : r < 4 := by omega
  rw [hq'] at hq ⊢
  rw [hr']
  have hc := lt8 (l.getD i 0)
  obtain ⟨c, hc'⟩ : ∃ c, (l.getD i 0).toNat = c := ⟨_, rfl⟩
  rw [hc'] at hc ⊢
  obtain ⟨X, hX⟩ : ∃ X, bv (l.take i) = X := ⟨_, rfl⟩
  rw [hX] at h
  have e1 : n - i = k + 1 := by omega
  have e2 : 256 ^ (k + 1) = 4294967296 ^ q * 256 ^ (r + 1) := by rw [hk4, Nat.add_assoc, pow_q]
  have hV0 : (w.getD q 0).toNat = X * 256 ^ (r + 1) % 4294967296 := by
    rw [lv_get, h, e1, e2, show X * (4294967296 ^ q * 256 ^ (r + 1)) = 4294967296 ^ q * (X * 256 ^ (r + 1)) by ac_rfl, Nat.mul_div_cancel_left _ (Nat.pow_pos (by decide))]
  have e3 : (4294967296 : Nat) = 256 ^ (3 - r) * 256 ^ (r + 1) := by rw [← Nat.pow_add, show 3 - r + (r + 1) = 4 by omega]
  have hV : (w.getD q 0).toNat = X % 256 ^ (3 - r) * 256 ^ (r + 1) := by rw [hV0, e3, Nat.mul_mod_mul_right]
  obtain ⟨Y, hY⟩ : ∃ Y, X % 256 ^ (3 - r) = Y := ⟨_, rfl⟩
  have hY2 : Y < 256 ^ (3 - r) := by rw [← hY]; exact Nat.mod_lt _ (Nat.pow_pos (by decide))
  rw [hY] at hV
  have hcr : c * 256 ^ r < 256 ^ (r + 1) := by rw [Nat.pow_succ, Nat.mul_comm]; exact Nat.mul_lt_mul_of_pos_left hc (Nat.pow_pos (by decide))
  have hlt : Y * 256 ^ (r + 1) + c * 256 ^ r < 4294967296 := by
    have h1 : (Y + 1) * 256 ^ (r + 1) ≤ 4294967296 := by rw [e3]; exact Nat.mul_le_mul_right _ hY2
    have h2 := hcr
    rw [Nat.add_mul] at h1
    omega
  refine ⟨_, hV, hlt, ?_, ?_⟩
  · have h2 : c * 256 ^ r < 2 ^ (8 * (r + 1)) := by
      rw [Nat.pow_mul]; exact hcr
    have := Nat.two_pow_add_eq_or_of_lt h2 Y
    rw [Nat.pow_mul] at this
    rw [Nat.mul_comm Y]
    exact this.symm
  · have hs := lv_set (x := UInt32.ofNat (Y * 256 ^ (r + 1) + c * 256 ^ r)) hq
    rw [hV, ofNat32, Nat.mod_eq_of_lt hlt, Nat.mul_add] at hs
    rw [bv_take (by omega), hX, hc', show n - (i + 1) = k by omega]
    have e4 : 4294967296 ^ q * (c * 256 ^ r) = c * 256 ^ k := by rw [hk4, pow_q]; ac_rfl
    rw [Nat.add_mul, Nat.mul_assoc, ← Nat.pow_succ', ← Nat.succ_eq_add_one, ← e4] at *
    rw [h, e1] at hs
    omega

theorem shl32 {c r : Nat} (hc : c < 256) (hr : r < 4) : shlV .u32 (c : Int) ((8 * r : Nat) : Int) = ((c * 256 ^ r : Nat) : Int) := by
  have h2 : c * 256 ^ r < 4294967296 := by
    have h1 : (256 : Nat) ^ r ≤ 256 ^ 3 := Nat.pow_le_pow_right (by decide) (by omega)
    have h3 : c * 256 ^ r ≤ 255 * 256 ^ 3 := Nat.mul_le_mul (by omega) h1
    omega
  simp only [shlV, IntKind.bits, Int.toNat_natCast]
  rw [Nat.min_eq_left (by omega)]
  have : r = 0 ∨ r = 1 ∨ r = 2 ∨ r = 3 := by omega
  rcases this with rfl | rfl | rfl | rfl <;> simp only [Nat.reduceMul, Nat.reducePow, Int.reducePow, u32_w] at h2 ⊢ <;> omega

/-- A number's bytes. -/
def cb (y : Nat) : List UInt8 := if y = 0 then [] else cb (y / 256) ++ [UInt8.ofNat y]
termination_by y
decreasing_by omega
theorem cb_zero : cb 0 = [] := by rw [cb]; rfl
theorem cb_pos {y : Nat} (h : y ≠ 0) : cb y = cb (y / 256) ++ [UInt8.ofNat y] := by rw [cb, if_neg h]
theorem ofNat8 (n : Nat) : (UInt8.ofNat n).toNat = n % 256 := by rw [UInt8.toNat_ofNat']
theorem bv_cb (y : Nat) : bv (cb y) = y := by
  induction y using Nat.strongRecOn with
  | ind y ih =>
    by_cases h : y = 0
    · subst h; rw [cb_zero]; rfl
    · rw [cb_pos h, bv_append, ih _ (by omega)]; simp [bv]; omega
def beL : Nat → Nat → List UInt8
  | 0, _ => []
  | k + 1, x => UInt8.ofNat (x / 256 ^ k) :: beL k x
theorem beL_len (k x : Nat) : (beL k x).length = k := by
  induction k with
  | zero => rfl
  | succ k ih => rw [beL, List.length_cons, ih]
theorem beL_snoc (k x : Nat) : beL (k + 1) x = beL k (x / 256) ++ [UInt8.ofNat x] := by
  induction k with
  | zero => simp [beL]
  | succ k ih => rw [beL, ih, beL, List.cons_append, Nat.pow_succ', Nat.div_div_eq_div_mul]
theorem cb_beL (y : Nat) : cb y = beL ((bl y + 7) / 8) y := by
  induction y using Nat.strongRecOn with
  | ind y ih =>
    by_cases h : y = 0
    · subst h; rw [cb_zero]; rfl
    · rw [cb_pos h, ih _ (by omega)]
      have e : (bl y + 7) / 8 = (bl (y / 256) + 7) / 8 + 1 := by
        rcases Nat.lt_or_ge y 256 with h1 | h1
        · rw [Nat.div_eq_of_lt h1, bl_zero]
          have h2 := bl_le.2 (show y < 2 ^ 8 from h1)
          have h3 : bl y ≠ 0 := fun e => by have := bl_le.1 (Nat.le_of_eq e); simp at this; exact h this
          omega
        · have := bl_div (s := 8) (show 2 ^ 8 ≤ y from h1)
          rw [show (2 : Nat) ^ 8 = 256 from rfl] at this
          omega
      rw [e, beL_snoc]
theorem cb_len (y : Nat) : (cb y).length = (bl y + 7) / 8 := by rw [cb_beL, beL_len]
theorem cb_step {x k : Nat} : cb (x / 256 ^ k) = if cb (x / 256 ^ (k + 1)) = [] ∧ x / 256 ^ k % 256 = 0 then [] else cb (x / 256 ^ (k + 1)) ++ [UInt8.ofNat (x / 256 ^ k % 256)] := by
  have e : x / 256 ^ (k + 1) = x / 256 ^ k / 256 := by rw [Nat.pow_succ, Nat.div_div_eq_div_mul]
  rw [e]
  obtain ⟨y, hy⟩ : ∃ y, x / 256 ^ k = y := ⟨_, rfl⟩
  rw [hy]
  have e8 : UInt8.ofNat (y % 256) = UInt8.ofNat y := by apply UInt8.toNat_inj.1; rw [ofNat8, ofNat8]; omega
  rw [e8]
  by_cases h : y = 0
  · subst h; simp [cb_zero]
  · rw [cb_pos h]
    have : ¬ (cb (y / 256) = [] ∧ y % 256 = 0) := fun ⟨h1, h2⟩ => by
      have := bv_cb (y / 256)
      rw [h1] at this
      simp [bv] at this
      omega
    rw [if_neg this]
theorem getByte {l : List UInt32} {i k : Nat} (hk : k < 4) : (l.getD i 0).toNat / 256 ^ k % 256 = lv l / 256 ^ (4 * i + k) % 256 := by
  rw [lv_get, pow_q, ← Nat.div_div_eq_div_mul]
  obtain ⟨z, hz⟩ : ∃ z, lv l / 4294967296 ^ i = z := ⟨_, rfl⟩
  rw [hz]
  have : k = 0 ∨ k = 1 ∨ k = 2 ∨ k = 3 := by omega
  rcases this with rfl | rfl | rfl | rfl <;> simp only [Nat.reducePow] <;> omega
theorem cb_head {y : Nat} (h : y ≠ 0) : (cb y).getD 0 0 ≠ 0 := by
  induction y using Nat.strongRecOn with
  | ind y ih =>
    rw [cb_pos h]
    by_cases h1 : y / 256 = 0
    · rw [h1, cb_zero]
      intro e
      have : (UInt8.ofNat y).toNat = 0 := by
        have e : UInt8.ofNat y = 0 := e
        rw [e]; rfl
      rw [ofNat8] at this
      omega
    · have h2 := ih _ (by omega) h1
      have h3 : cb (y / 256) ≠ [] := fun e => h1 (by rw [← bv_cb (y / 256), e]; rfl)
      cases hc : cb (y / 256) with
      | nil => exact absurd hc h3
      | cons a t => rw [hc] at h2; exact h2
theorem bv_cb_drop (l : List UInt8) : (cb (bv l)).length ≤ l.length ∧ l.drop (l.length - (cb (bv l)).length) = cb (bv l) := by
  have key : ∀ l : List UInt8, ∃ z, l = List.replicate z 0 ++ cb (bv l) := by
    intro l
    generalize hn : l.length = n
    induction n generalizing l with
    | zero => rw [List.eq_nil_of_length_eq_zero hn]; exact ⟨0, by simp [bv, cb_zero]⟩
    | succ n ih =>
      have hs : l = l.take n ++ [l.getD n 0] := by rw [← take_snoc8 (by omega), List.take_of_length_le (by omega)]
      obtain ⟨z, hz⟩ := ih (l.take n) (by simp; omega)
      have hb : bv l = bv (l.take n) * 256 + (l.getD n 0).toNat := by rw [← bv_take (by omega), List.take_of_length_le (by omega)]
      have h8 := lt8 (l.getD n 0)
      by_cases h0 : bv l = 0
      · have e1 : bv (l.take n) = 0 := by omega
        have e2 : l.getD n 0 = 0 := by apply UInt8.toNat_inj.1; show _ = 0; omega
        refine ⟨z + 1, ?_⟩
        rw [h0, cb_zero, List.append_nil]
        rw [e1, cb_zero, List.append_nil] at hz
        rw [hs, e2, hz, List.replicate_succ']
      · refine ⟨z, ?_⟩
        have e1 : bv l / 256 = bv (l.take n) := by omega
        have e2 : UInt8.ofNat (bv l) = l.getD n 0 := by apply UInt8.toNat_inj.1; rw [ofNat8]; omega
        rw [cb_pos h0, e1, e2, ← List.append_assoc, ← hz]
        exact hs
  obtain ⟨z, hz⟩ := key l
  obtain ⟨y, hy⟩ : ∃ y, bv l = y := ⟨_, rfl⟩
  rw [hy] at hz ⊢
  subst hz
  simp
end Go.Ga

namespace Go.Ga
open Go Go.Proofs
set_option linter.unusedSimpArgs false
set_option linter.unusedVariables false
set_option maxRecDepth 100000
attribute [local irreducible] appendK

section
variable {nx : Nat} {gt : Nat → Option Blk}

theorem u8_cell {A : Option Addr} {n : Nat} {l : List UInt8} (hr : Row nx gt 1 A n (l.map u8V)) (hl : l.length = n) {i : Nat} (hi : i < n) : ∃ a ce ro, A = some a ∧ a.block < nx ∧ gt a.block = some (.cells ce ro) ∧ a.off + i < ce.length ∧ ce.getD (a.off + i) undef = .int .u8 ((l.getD i 0).toNat : Nat) := by
  obtain ⟨a, ce, ro, h1, h2, h3, h4, h5⟩ := hr.cells (by omega)
  exact ⟨a, ce, ro, h1, h2, h3, by omega, by rw [h5 i hi, getD_u8 (by omega)]⟩

theorem ct_From {A : Option Addr} {n c : Nat} {l : List UInt8} (hr : Row nx gt 1 A n (l.map u8V)) (hn : n < 100000000) :
    Ct Try.prog 34 [.slice A n c] nx gt fun v nx' gt' => W32 nx' gt' v (lb (bv l)) := by
  have hl : l.length = n := by simpa using hr.len
  refine Ct.of hmx r_limb_From (by simp [c_limb_From]) fun b hb => ?_
  have e1 : (n : Int) + 4 = ((n + 4 : Nat) : Int) := by omega
  have e2 : ((n + 4 : Nat) : Int) - 1 = ((n + 3 : Nat) : Int) := by omega
  have e3 : ((n + 3 : Nat) : Int).tdiv 4 = (((n + 3) / 4 : Nat) : Int) := rfl
  obtain ⟨M, hM⟩ : ∃ M, (n + 3) / 4 = M := ⟨_, rfl⟩
  simp only [c_limb_From, ↓gaW, ↓gaV, ↓gaC, ↓gaN, gaP, Nat.reduceEqDiff, Nat.reduceLeDiff, Nat.reduceAdd, Nat.reduceSub, Nat.reduceMul, Int.reduceLT, Int.reduceLE, Int.reduceEq, Int.reduceToNat, Int.reduceAdd, Int.reduceSub, Int.reduceMul, reduceCtorEq, ↓reduceIte, e1, i64_w ((n + 4 : Nat) : Int) (by omega), e2, i64_w ((n + 3 : Nat) : Int) (by omega), e3, hM, i64_w (M : Int) (by omega), zeros32]
  repeat refine And.intro (by first | omega | simp) ?_
  refine loop_of (fun j f mm => ∃ (i : Nat) (g : Nat → Option Blk) (w : List UInt32), j = n - i ∧ i ≤ n ∧ f 0 = .slice A n c ∧ f 3 = .slice (some ⟨nx, 0, none⟩) M M ∧ f 13 = .slice A n c ∧ f 14 = .int .i64 (n : Nat) ∧ f 15 = .int .i64 (i : Nat) ∧ mm = ⟨nx + 1, b, g⟩ ∧
      (∀ q, q < nx → g q = gt q) ∧ g nx = some (.cells (w.map u32V) false) ∧ w.length = M ∧ lv w = bv (l.take i) * 256 ^ (n - i)) n
    ⟨0, _, List.replicate M 0, by omega, by omega, rfl, rfl, rfl, rfl, rfl, rfl, fun q hq => by simp only [upd_e]; rw [if_neg (by omega)], by simp only [upd_e, if_true], by simp, by simp [lv_replicate, bv]⟩ ?_
  rintro j f mm ⟨i, g, w, rfl, hi, h0, h3, h13, h14, h15, rfl, hg, hgn, hw, he⟩
  by_cases hlt : (i : Int) < (n : Int)
  · obtain ⟨a, ce, ro, rfl, a1, a2, a3, a4⟩ := u8_cell hr hl (i := i) (by omega)
    have a2' : g a.block = some (.cells ce ro) := by rw [hg _ a1, a2]
    obtain ⟨k, hk⟩ : ∃ k, k = n - 1 - i := ⟨_, rfl⟩
    obtain ⟨V, hV, v1, v2, v3⟩ := from_step hl (show i < n by omega) hk he (by omega)
    have hc := lt8 (l.getD i 0)
    obtain ⟨C, hC⟩ : ∃ C, (l.getD i 0).toNat = C := ⟨_, rfl⟩
    rw [hC] at a4 v1 v2 v3 hc
    have q1 : (i : Int) + 1 = ((i + 1 : Nat) : Int) := by omega
    have q2 : (n : Int) - 1 = ((n - 1 : Nat) : Int) := by omega
    have q3 : ((n - 1 : Nat) : Int) - (i : Int) = (k : Int) := by omega
    have q4 : (k : Int).tdiv 4 = ((k / 4 : Nat) : Int) := rfl
    have q5 : (k : Int).tmod 4 = ((k % 4 : Nat) : Int) := rfl
    have q6 : ((k % 4 : Nat) : Int) * 8 = ((8 * (k % 4) : Nat) : Int) := by omega
    have q7 : IntKind.u32.wrap (C : Int) = (C : Int) := u32_i _ (by omega)
    have q8 := shl32 hc (show k % 4 < 4 by omega)
    have q9 := or_u32 (x := V) (y := C * 256 ^ (k % 4)) (by omega) (by omega)
    have qa : (w.map u32V).getD (k / 4) undef = .int .u32 (V : Nat) := by rw [getD_u32 (by omega), hV]
    simp only [↓gaW, ↓gaV, ↓gaC, ↓gaN, gaP, Nat.reduceEqDiff, Nat.reduceLeDiff, Nat.reduceAdd, Nat.reduceSub, Nat.reduceMul, Int.reduceLT, Int.reduceLE, Int.reduceEq, Int.reduceToNat, Int.reduceAdd, Int.reduceSub, Int.reduceMul, reduceCtorEq, ↓reduceIte, h0, h3, h13, h14, h15, hlt, decide_true, a2', a4, q1, q2, q3, q4, q5, q6, q7, i64_w ((i + 1 : Nat) : Int) (by omega), i64_w ((n - 1 : Nat) : Int) (by omega), i64_w (k : Int) (by omega), i64_w ((k / 4 : Nat) : Int) (by omega), i64_w ((8 * (k % 4) : Nat) : Int) (by omega), q8, qa, q9, v2, hgn, Nat.mul_one, Nat.zero_add, u32V_lt v1, cv_u32, splice_set (show k / 4 < w.length by omega), loopK_n]
    repeat refine And.intro (by first | omega | (simp; omega) | exact all1 (cl_u32 _)) ?_
    refine ⟨n - (i + 1), by omega, i + 1, upd g nx (some (.cells ((w.set (k / 4) (UInt32.ofNat (V + C * 256 ^ (k % 4)))).map u32V) false)), w.set (k / 4) (UInt32.ofNat (V + C * 256 ^ (k % 4))), ?_⟩
    (repeat' refine And.intro ?_ ?_) <;> first | rfl | assumption | omega | (intro q hq; simp (disch := omega) only [upd_e, if_neg, hg]; done) | (simp only [upd_e, if_true]; done) | skip
    simp [hw]
  · have hin : i = n := by omega
    subst hin
    rw [List.take_of_length_le (show l.length ≤ i by omega), Nat.sub_self, Nat.pow_zero, Nat.mul_one] at he
    simp only [↓gaW, ↓gaV, ↓gaC, ↓gaN, gaP, Nat.reduceEqDiff, Nat.reduceLeDiff, Nat.reduceAdd, Nat.reduceSub, Nat.reduceMul, Int.reduceLT, Int.reduceLE, Int.reduceEq, Int.reduceToNat, Int.reduceAdd, Int.reduceSub, Int.reduceMul, reduceCtorEq, ↓reduceIte, gaE, implies_true, Nat.le_refl, Int.sub_zero, Nat.sub_zero, Int.le_refl, true_or, or_true, h0, h3, h14, h15, hlt, decide_false, loopK_e]
    refine callK_of (ct_bare (Row.w32 (by omega) hgn hw) (Nat.le_refl _) (by omega)) (fun v n1 g1 l1 k1 hC => ?_) (by omega)
    rw [he] at hC
    simp only [↓gaW, ↓gaV, ↓gaC, ↓gaN, gaP, Nat.reduceEqDiff, Nat.reduceLeDiff, Nat.reduceAdd, Nat.reduceSub, Nat.reduceMul, Int.reduceLT, Int.reduceLE, Int.reduceEq, Int.reduceToNat, Int.reduceAdd, Int.reduceSub, Int.reduceMul, reduceCtorEq, ↓reduceIte, gaE, implies_true, Nat.le_refl, Int.sub_zero, Nat.sub_zero, Int.le_refl, true_or, or_true]
    exact ⟨by omega, fun q hq => by rw [k1 q (by omega), hg q hq], hC⟩

theorem ct_rFrom {A : Option Addr} {n c : Nat} {l : List UInt8} (hr : Row nx gt 1 A n (l.map u8V)) (hn : n < 100000000) :
    Ct Try.prog 47 [.slice A n c] nx gt fun v nx' gt' => W32 nx' gt' v (lb (bv l)) := by
  have hl : l.length = n := by simpa using hr.len
  refine Ct.of hmx r_lanyardref07_From (by simp [c_lanyardref07_From]) fun b hb => ?_
  have e1 : (n : Int).tdiv 4 = ((n / 4 : Nat) : Int) := rfl
  obtain ⟨M, hM⟩ : ∃ M, n / 4 + 1 = M := ⟨_, rfl⟩
  have e2 : ((n / 4 : Nat) : Int) + 1 = (M : Int) := by omega
  simp only [c_lanyardref07_From, ↓gaW, ↓gaV, ↓gaC, ↓gaN, gaP, Nat.reduceEqDiff, Nat.reduceLeDiff, Nat.reduceAdd, Nat.reduceSub, Nat.reduceMul, Int.reduceLT, Int.reduceLE, Int.reduceEq, Int.reduceToNat, Int.reduceAdd, Int.reduceSub, Int.reduceMul, reduceCtorEq, ↓reduceIte, e1, i64_w ((n / 4 : Nat) : Int) (by omega), e2, i64_w (M : Int) (by omega), zeros32]
  repeat refine And.intro (by first | omega | simp) ?_
  refine loop_of (fun j f mm => ∃ (i : Nat) (g : Nat → Option Blk) (w : List UInt32), j = n - i ∧ i ≤ n ∧ f 0 = .slice A n c ∧ f 3 = .slice (some ⟨nx, 0, none⟩) M M ∧ f 4 = .int .i64 (i : Nat) ∧ mm = ⟨nx + 1, b, g⟩ ∧
      (∀ q, q < nx → g q = gt q) ∧ g nx = some (.cells (w.map u32V) false) ∧ w.length = M ∧ lv w = bv (l.take i) * 256 ^ (n - i)) n
    ⟨0, _, List.replicate M 0, by omega, by omega, rfl, rfl, rfl, rfl, fun q hq => by simp only [upd_e]; rw [if_neg (by omega)], by simp only [upd_e, if_true], by simp, by simp [lv_replicate, bv]⟩ ?_
  rintro j f mm ⟨i, g, w, rfl, hi, h0, h3, h4, rfl, hg, hgn, hw, he⟩
  by_cases hlt : (i : Int) < (n : Int)
  · obtain ⟨a, ce, ro, rfl, a1, a2, a3, a4⟩ := u8_cell hr hl (i := i) (by omega)
    have a2' : g a.block = some (.cells ce ro) := by rw [hg _ a1, a2]
    obtain ⟨k, hk⟩ : ∃ k, k = n - 1 - i := ⟨_, rfl⟩
    obtain ⟨V, hV, v1, v2, v3⟩ := from_step hl (show i < n by omega) hk he (by omega)
    have hc := lt8 (l.getD i 0)
    obtain ⟨C, hC⟩ : ∃ C, (l.getD i 0).toNat = C := ⟨_, rfl⟩
    rw [hC] at a4 v1 v2 v3 hc
    have q1 : (i : Int) + 1 = ((i + 1 : Nat) : Int) := by omega
    have q2 : (n : Int) - 1 = ((n - 1 : Nat) : Int) := by omega
    have q3 : ((n - 1 : Nat) : Int) - (i : Int) = (k : Int) := by omega
    have q4 : (k : Int).tdiv 4 = ((k / 4 : Nat) : Int) := rfl
    have q5 : (k : Int).tmod 4 = ((k % 4 : Nat) : Int) := rfl
    have q6 : 8 * ((k % 4 : Nat) : Int) = ((8 * (k % 4) : Nat) : Int) := by omega
    have q7 : IntKind.u32.wrap (C : Int) = (C : Int) := u32_i _ (by omega)
    have q8 := shl32 hc (show k % 4 < 4 by omega)
    have q9 : (V : Int) + ((C * 256 ^ (k % 4) : Nat) : Int) = ((V + C * 256 ^ (k % 4) : Nat) : Int) := by omega
    have qb := u32_i ((V + C * 256 ^ (k % 4) : Nat) : Int) (by omega)
    have qa : (w.map u32V).getD (k / 4) undef = .int .u32 (V : Nat) := by rw [getD_u32 (by omega), hV]
    simp only [↓gaW, ↓gaV, ↓gaC, ↓gaN, gaP, Nat.reduceEqDiff, Nat.reduceLeDiff, Nat.reduceAdd, Nat.reduceSub, Nat.reduceMul, Int.reduceLT, Int.reduceLE, Int.reduceEq, Int.reduceToNat, Int.reduceAdd, Int.reduceSub, Int.reduceMul, reduceCtorEq, ↓reduceIte, h0, h3, h4, hlt, decide_true, a2', a4, q1, q2, q3, q4, q5, q6, q7, i64_w ((i + 1 : Nat) : Int) (by omega), i64_w ((n - 1 : Nat) : Int) (by omega), i64_w (k : Int) (by omega), i64_w ((k / 4 : Nat) : Int) (by omega), i64_w ((8 * (k % 4) : Nat) : Int) (by omega), q8, qa, q9, qb, hgn, Nat.mul_one, Nat.zero_add, u32V_lt v1, cv_u32, splice_set (show k / 4 < w.length by omega), loopK_n]
    repeat refine And.intro (by first | omega | (simp; omega) | exact all1 (cl_u32 _)) ?_
    refine ⟨n - (i + 1), by omega, i + 1, upd g nx (some (.cells ((w.set (k / 4) (UInt32.ofNat (V + C * 256 ^ (k % 4)))).map u32V) false)), w.set (k / 4) (UInt32.ofNat (V + C * 256 ^ (k % 4))), ?_⟩
    (repeat' refine And.intro ?_ ?_) <;> first | rfl | assumption | omega | (intro q hq; simp (disch := omega) only [upd_e, if_neg, hg]; done) | (simp only [upd_e, if_true]; done) | skip
    simp [hw]
  · have hin : i = n := by omega
    subst hin
    rw [List.take_of_length_le (show l.length ≤ i by omega), Nat.sub_self, Nat.pow_zero, Nat.mul_one] at he
    simp only [↓gaW, ↓gaV, ↓gaC, ↓gaN, gaP, Nat.reduceEqDiff, Nat.reduceLeDiff, Nat.reduceAdd, Nat.reduceSub, Nat.reduceMul, Int.reduceLT, Int.reduceLE, Int.reduceEq, Int.reduceToNat, Int.reduceAdd, Int.reduceSub, Int.reduceMul, reduceCtorEq, ↓reduceIte, gaE, implies_true, Nat.le_refl, Int.sub_zero, Nat.sub_zero, Int.le_refl, true_or, or_true, h0, h3, h4, hlt, decide_false, loopK_e]
    refine callK_of (ct_rBare (Row.w32 (by omega) hgn hw) (Nat.le_refl _) (by omega)) (fun v n1 g1 l1 k1 hC => ?_) (by omega)
    rw [he] at hC
    simp only [↓gaW, ↓gaV, ↓gaC, ↓gaN, gaP, Nat.reduceEqDiff, Nat.reduceLeDiff, Nat.reduceAdd, Nat.reduceSub, Nat.reduceMul, Int.reduceLT, Int.reduceLE, Int.reduceEq, Int.reduceToNat, Int.reduceAdd, Int.reduceSub, Int.reduceMul, reduceCtorEq, ↓reduceIte, gaE, implies_true, Nat.le_refl, Int.sub_zero, Nat.sub_zero, Int.le_refl, true_or, or_true]
    exact ⟨by omega, fun q hq => by rw [k1 q (by omega), hg q hq], hC⟩
end
end Go.Ga

namespace Go.Ga
open Go Go.Proofs
set_option linter.unusedSimpArgs false
set_option linter.unusedVariables false
set_option maxRecDepth 100000
attribute [local irreducible] appendK

theorem splice_set8 {l : List UInt8} {i : Nat} {x : UInt8} (h : i < l.length) : splice (l.map u8V) i [u8V x] = (l.set i x).map u8V := by
  rw [List.map_set, List.set_eq_take_append_cons_drop, if_pos (by simpa using h)]
  simp [splice]
theorem zeros8 (k : Nat) : ((List.range k).map fun i => [Value.int .u8 0].getD (i % 1) undef) = (List.replicate k (0 : UInt8)).map u8V := by
  have h : (fun i : Nat => [Value.int .u8 0].getD (i % 1) undef) = fun _ => u8V 0 := by funext i; simp [Nat.mod_one]; rfl
  rw [h]
  refine List.ext_getElem (by simp) fun i h1 h2 => by simp
theorem be_set {m k x : Nat} (h : k < m) : (List.replicate (m - k) (0 : UInt8) ++ beL k x).set (m - 1 - k) (UInt8.ofNat (x / 256 ^ k)) = List.replicate (m - (k + 1)) 0 ++ beL (k + 1) x := by
  obtain ⟨z, hz⟩ : ∃ z, m - 1 - k = z := ⟨_, rfl⟩
  rw [hz, show m - k = z + 1 by omega, show m - (k + 1) = z by omega, List.replicate_succ', List.append_assoc, List.set_append_right _ _ (by simp)]
  simp [beL]
theorem u8V_of (V r y : Nat) (h : V / 256 ^ r % 256 = y % 256) : Value.int .u8 (IntKind.u8.wrap ((V / 2 ^ (8 * r) : Nat) : Int)) = u8V (UInt8.ofNat y) := by
  rw [u8V, ofNat8, u8_w, ← h, Nat.pow_mul]; rfl

section
variable {nx : Nat} {gt : Nat → Option Blk}

theorem ct_To {A : Option Addr} {n c : Nat} {l : List UInt32} (hr : Row nx gt 1 A n (l.map u32V)) (hc : n ≤ c) (hn : n < 100000000) :
    Ct Try.prog 46 [.slice A n c] nx gt fun v nx' gt' => BySl nx' gt' v (cb (lv l)) := by
  have hl : l.length = n := by simpa using hr.len
  refine Ct.of hmx r_limb_To (by simp [c_limb_To]) fun b hb => ?_
  have s1 : bl (lv l) ≤ 32 * n := by
    refine bl_le.2 ?_
    have := lv_lt l
    rw [hl] at this
    rw [Nat.pow_mul]; exact this
  obtain ⟨M, hM⟩ : ∃ M, (bl (lv l) + 7) / 8 = M := ⟨_, rfl⟩
  have e1 : ((bl (lv l) : Nat) : Int) + 7 = ((bl (lv l) + 7 : Nat) : Int) := by omega
  have e2 : ((bl (lv l) + 7 : Nat) : Int).tdiv 8 = (((bl (lv l) + 7) / 8 : Nat) : Int) := rfl
  rw [hM] at e2
  simp only [c_limb_To, ↓gaW, ↓gaV, ↓gaC, ↓gaN, gaP, Nat.reduceEqDiff, Nat.reduceLeDiff, Nat.reduceAdd, Nat.reduceSub, Nat.reduceMul, Int.reduceLT, Int.reduceLE, Int.reduceEq, Int.reduceToNat, Int.reduceAdd, Int.reduceSub, Int.reduceMul, reduceCtorEq, ↓reduceIte]
  refine callK_of (ct_Len hr hc (by omega)) (fun v n1 g1 l1 k1 hC => ?_) (by omega)
  subst hC
  have hr := hr.keep l1 k1
  simp only [↓gaW, ↓gaV, ↓gaC, ↓gaN, gaP, Nat.reduceEqDiff, Nat.reduceLeDiff, Nat.reduceAdd, Nat.reduceSub, Nat.reduceMul, Int.reduceLT, Int.reduceLE, Int.reduceEq, Int.reduceToNat, Int.reduceAdd, Int.reduceSub, Int.reduceMul, reduceCtorEq, ↓reduceIte, e1, i64_w ((bl (lv l) + 7 : Nat) : Int) (by omega), e2, i64_w (M : Int) (by omega), zeros8]
  repeat refine And.intro (by first | omega | simp) ?_
  refine loop_of (fun j f mm => ∃ (k : Nat) (g : Nat → Option Blk), j = M - k ∧ k ≤ M ∧ f 0 = .slice A n c ∧ f 3 = .int .i64 (M : Nat) ∧ f 4 = .slice (some ⟨n1, 0, none⟩) M M ∧ f 12 = .int .i64 (M : Nat) ∧ f 13 = .int .i64 (k : Nat) ∧ mm = ⟨n1 + 1, b, g⟩ ∧
      (∀ q, q < n1 → g q = g1 q) ∧ g n1 = some (.cells ((List.replicate (M - k) 0 ++ beL k (lv l)).map u8V) false)) M
    ⟨0, _, by omega, by omega, rfl, rfl, rfl, rfl, rfl, rfl, fun q hq => by simp only [upd_e]; rw [if_neg (by omega)], by simp [upd_e, beL]⟩ ?_
  rintro j f mm ⟨k, g, rfl, hi, h0, h3, h4, h12, h13, rfl, hg, hgn⟩
  by_cases hlt : (k : Int) < (M : Int)
  · obtain ⟨a, ce, ro, rfl, a1, a2, a3, a4⟩ := w32_cell hr hl (i := k / 4) (by omega)
    have a2' : g a.block = some (.cells ce ro) := by rw [hg _ a1, a2]
    have q1 : (k : Int) + 1 = ((k + 1 : Nat) : Int) := by omega
    have q2 : (M : Int) - 1 = ((M - 1 : Nat) : Int) := by omega
    have q3 : ((M - 1 : Nat) : Int) - (k : Int) = ((M - 1 - k : Nat) : Int) := by omega
    have q4 : (k : Int).tdiv 4 = ((k / 4 : Nat) : Int) := rfl
    have q5 : (k : Int).tmod 4 = ((k % 4 : Nat) : Int) := rfl
    have q6 : ((k % 4 : Nat) : Int) * 8 = ((8 * (k % 4) : Nat) : Int) := by omega
    have q8 : shrV .u32 (((l.getD (k / 4) 0).toNat : Nat) : Int) ((8 * (k % 4) : Nat) : Int) = (((l.getD (k / 4) 0).toNat / 2 ^ (8 * (k % 4)) : Nat) : Int) := shr_nat (k := .u32) _ _ (by show _ ≤ 32; omega)
    have q9 := u8V_of _ (k % 4) (lv l / 256 ^ k) (by rw [getByte (l := l) (i := k / 4) (show k % 4 < 4 by omega), show 4 * (k / 4) + k % 4 = k by omega])
    have hlen : (List.replicate (M - k) (0 : UInt8) ++ beL k (lv l)).length = M := by simp [beL_len]; omega
    simp only [↓gaW, ↓gaV, ↓gaC, ↓gaN, gaP, Nat.reduceEqDiff, Nat.reduceLeDiff, Nat.reduceAdd, Nat.reduceSub, Nat.reduceMul, Int.reduceLT, Int.reduceLE, Int.reduceEq, Int.reduceToNat, Int.reduceAdd, Int.reduceSub, Int.reduceMul, reduceCtorEq, ↓reduceIte, h0, h3, h4, h12, h13, hlt, decide_true, a2', a4, q1, q2, q3, q4, q5, q6, i64_w ((k + 1 : Nat) : Int) (by omega), i64_w ((M - 1 : Nat) : Int) (by omega), i64_w ((M - 1 - k : Nat) : Int) (by omega), i64_w ((k / 4 : Nat) : Int) (by omega), i64_w ((8 * (k % 4) : Nat) : Int) (by omega), q8, q9, hgn, Nat.mul_one, Nat.zero_add, cv_u8, splice_set8 (show M - 1 - k < (List.replicate (M - k) (0 : UInt8) ++ beL k (lv l)).length by omega), be_set (show k < M by omega), loopK_n]
    repeat refine And.intro (by first | omega | (simp [beL_len]; omega) | exact all1 rfl) ?_
    refine ⟨M - (k + 1), by omega, k + 1, upd g n1 (some (.cells ((List.replicate (M - (k + 1)) 0 ++ beL (k + 1) (lv l)).map u8V) false)), ?_⟩
    (repeat' refine And.intro ?_ ?_) <;> first | rfl | assumption | omega | (intro q hq; simp (disch := omega) only [upd_e, if_neg, hg]; done) | (simp only [upd_e, if_true]; done) | skip
  · have hin : k = M := by omega
    subst hin
    rw [Nat.sub_self, List.replicate_zero, List.nil_append, ← hM, ← cb_beL] at hgn
    simp only [↓gaW, ↓gaV, ↓gaC, ↓gaN, gaP, Nat.reduceEqDiff, Nat.reduceLeDiff, Nat.reduceAdd, Nat.reduceSub, Nat.reduceMul, Int.reduceLT, Int.reduceLE, Int.reduceEq, Int.reduceToNat, Int.reduceAdd, Int.reduceSub, Int.reduceMul, reduceCtorEq, ↓reduceIte, gaE, implies_true, Nat.le_refl, Int.sub_zero, Nat.sub_zero, Int.le_refl, true_or, or_true, h3, h4, h12, h13, hlt, decide_false, loopK_e]
    refine ⟨by omega, fun q hq => by rw [hg q (by omega), k1 q hq], ?_⟩
    refine BySl.mk (.inl rfl) (by omega) hgn (Nat.le_refl _) ?_ ?_ ?_
    · simp [cb_len, hM]
    · rw [cb_len, hM]
    · intro i hi; rw [getD_u8 (by rw [cb_len, hM]; exact hi)]; rfl

theorem ct_rTo {A : Option Addr} {n c : Nat} {l : List UInt32} (hr : Row nx gt 1 A n (l.map u32V)) (hn : n < 100000000) :
    Ct Try.prog 54 [.slice A n c] nx gt fun v nx' gt' => BySl nx' gt' v (cb (lv l)) := by
  have hl : l.length = n := by simpa using hr.len
  refine Ct.of hmx r_lanyardref07_To (by simp [c_lanyardref07_To]) fun b hb => ?_
  have hS : ∀ e, (cb (lv l / e)).length ≤ 4 * n + 1 := fun e => by
    rw [cb_len]
    have : bl (lv l / e) ≤ 32 * n := by
      refine bl_le.2 (Nat.lt_of_le_of_lt (Nat.div_le_self _ _) ?_)
      have := lv_lt l
      rw [hl] at this
      rw [Nat.pow_mul]; exact this
    omega
  simp only [c_lanyardref07_To, ↓gaW, ↓gaV, ↓gaC, ↓gaN, gaP, Nat.reduceEqDiff, Nat.reduceLeDiff, Nat.reduceAdd, Nat.reduceSub, Nat.reduceMul, Int.reduceLT, Int.reduceLE, Int.reduceEq, Int.reduceToNat, Int.reduceAdd, Int.reduceSub, Int.reduceMul, reduceCtorEq, ↓reduceIte, i64_w ((n : Int) - 1) (by omega)]
  refine loop_of (fun j f mm => ∃ (y x : Nat) (g : Nat → Option Blk) (Q : Option Addr) (s : Nat), j = y ∧ y ≤ n ∧ f 0 = .slice A n c ∧ f 3 = .slice Q s s ∧ f 4 = .int .i64 ((y : Int) - 1) ∧ mm = ⟨x, b, g⟩ ∧ nx ≤ x ∧
      (∀ q, q < nx → g q = gt q) ∧ Grow nx b x g 1 Q s ((cb (lv l / 256 ^ (4 * y))).map u8V)) n
    ⟨n, nx, gt, none, 0, rfl, by omega, rfl, rfl, rfl, rfl, by omega, fun _ _ => rfl, by
      rw [Nat.div_eq_of_lt (by have := lv_lt l; rw [hl] at this; rw [Nat.pow_mul]; exact this), cb_zero]; exact .nil⟩ ?_
  rintro j f mm ⟨y, x, g, Q, s, rfl, hy, h0, h3, h4, rfl, hx, hg, hgr⟩
  rcases Nat.eq_zero_or_pos j with rfl | hj
  · simp only [↓gaW, ↓gaV, ↓gaC, ↓gaN, gaP, Nat.reduceEqDiff, Nat.reduceLeDiff, Nat.reduceAdd, Nat.reduceSub, Nat.reduceMul, Int.reduceLT, Int.reduceLE, Int.reduceEq, Int.reduceToNat, Int.reduceAdd, Int.reduceSub, Int.reduceMul, reduceCtorEq, ↓reduceIte, gaE, implies_true, Nat.le_refl, Int.sub_zero, Nat.sub_zero, Int.le_refl, true_or, or_true, h3, h4, show ((0 : Nat) : Int) - 1 = -1 from rfl, show ¬ (0 : Int) ≤ -1 by omega, decide_false, loopK_e]
    rw [Nat.mul_zero, Nat.pow_zero, Nat.div_one] at hgr
    exact ⟨by omega, hg, hgr.byte⟩
  · obtain ⟨z, rfl⟩ : ∃ z, j = z + 1 := ⟨j - 1, by omega⟩
    rw [show ((z + 1 : Nat) : Int) - 1 = (z : Int) by omega] at h4
    obtain ⟨a, ce, ro, rfl, a1, a2, a3, a4⟩ := w32_cell hr hl (i := z) (by omega)
    simp only [↓gaW, ↓gaV, ↓gaC, ↓gaN, gaP, Nat.reduceEqDiff, Nat.reduceLeDiff, Nat.reduceAdd, Nat.reduceSub, Nat.reduceMul, Int.reduceLT, Int.reduceLE, Int.reduceEq, Int.reduceToNat, Int.reduceAdd, Int.reduceSub, Int.reduceMul, reduceCtorEq, ↓reduceIte, h4, show (0 : Int) ≤ (z : Int) by omega, decide_true]
    refine loop_of (fun j f mm => ∃ (t x : Nat) (g : Nat → Option Blk) (Q : Option Addr) (s : Nat), j = t ∧ t ≤ 4 ∧ f 0 = .slice (some a) n c ∧ f 3 = .slice Q s s ∧ f 4 = .int .i64 (z : Nat) ∧ f 5 = .int .i64 ((t : Int) - 1) ∧ mm = ⟨x, b, g⟩ ∧ nx ≤ x ∧
        (∀ q, q < nx → g q = gt q) ∧ Grow nx b x g 1 Q s ((cb (lv l / 256 ^ (4 * z + t))).map u8V)) 4
      ⟨4, x, g, Q, s, rfl, by omega, h0, h3, h4, rfl, rfl, hx, hg, hgr⟩ ?_
    clear hgr hg h3 h0 hx
    rintro j f mm ⟨t, x, g, Q, s, rfl, ht, h0, h3, h4, h5, rfl, hx, hg, hgr⟩
    rcases Nat.eq_zero_or_pos j with rfl | hj
    · simp only [↓gaW, ↓gaV, ↓gaC, ↓gaN, gaP, Nat.reduceEqDiff, Nat.reduceLeDiff, Nat.reduceAdd, Nat.reduceSub, Nat.reduceMul, Int.reduceLT, Int.reduceLE, Int.reduceEq, Int.reduceToNat, Int.reduceAdd, Int.reduceSub, Int.reduceMul, reduceCtorEq, ↓reduceIte, h3, h4, h5, show ((0 : Nat) : Int) - 1 = -1 from rfl, show ¬ (0 : Int) ≤ -1 by omega, decide_false, i64_w ((z : Int) - 1) (by omega), loopK_e, loopK_n]
      exact ⟨z, by omega, z, x, g, Q, s, rfl, by omega, h0, rfl, rfl, rfl, hx, hg, hgr⟩
    · obtain ⟨t, rfl⟩ : ∃ t, j = t + 1 := ⟨j - 1, by omega⟩
      rw [show ((t + 1 : Nat) : Int) - 1 = (t : Int) by omega] at h5
      have a2' : g a.block = some (.cells ce ro) := by rw [hg _ a1, a2]
      have hst := cb_step (x := lv l) (k := 4 * z + t)
      have q5 : 8 * (t : Int) = ((8 * t : Nat) : Int) := by omega
      have q8 : shrV .u32 (((l.getD z 0).toNat : Nat) : Int) ((8 * t : Nat) : Int) = (((l.getD z 0).toNat / 2 ^ (8 * t) : Nat) : Int) := shr_nat (k := .u32) _ _ (by show _ ≤ 32; omega)
      have q9 : IntKind.u8.wrap (((l.getD z 0).toNat / 2 ^ (8 * t) : Nat) : Int) = ((lv l / 256 ^ (4 * z + t) % 256 : Nat) : Int) := by
        rw [← getByte (l := l) (i := z) (show t < 4 by omega), u8_w, Nat.pow_mul]; rfl
      obtain ⟨D, hD⟩ : ∃ D, lv l / 256 ^ (4 * z + t) % 256 = D := ⟨_, rfl⟩
      have hD2 : D < 256 := by omega
      rw [hD] at q9 hst
      have u8D : Value.int .u8 ((D : Nat) : Int) = u8V (UInt8.ofNat D) := by rw [u8V, ofNat8, Nat.mod_eq_of_lt hD2]
      have w5 := i64_w ((t : Int) - 1) (by omega)
      have hs : s = (cb (lv l / 256 ^ (4 * z + (t + 1)))).length := by simpa using hgr.len.symm
      have hs2 := hS (256 ^ (4 * z + (t + 1)))
      rw [show 4 * z + t + 1 = 4 * z + (t + 1) from rfl] at hst
      simp only [↓gaW, ↓gaV, ↓gaC, ↓gaN, gaP, Nat.reduceEqDiff, Nat.reduceLeDiff, Nat.reduceAdd, Nat.reduceSub, Nat.reduceMul, Int.reduceLT, Int.reduceLE, Int.reduceEq, Int.reduceToNat, Int.reduceAdd, Int.reduceSub, Int.reduceMul, reduceCtorEq, ↓reduceIte, h0, h3, h4, h5, a2', a4, show (0 : Int) ≤ (t : Int) by omega, decide_true, q5, i64_w ((8 * t : Nat) : Int) (by omega), q8, q9]
      repeat refine And.intro (by omega) ?_
      by_cases c1 : (0 : Int) < (s : Int)
      · simp only [↓gaW, ↓gaV, ↓gaC, ↓gaN, gaP, Nat.reduceEqDiff, Nat.reduceLeDiff, Nat.reduceAdd, Nat.reduceSub, Nat.reduceMul, Int.reduceLT, Int.reduceLE, Int.reduceEq, Int.reduceToNat, Int.reduceAdd, Int.reduceSub, Int.reduceMul, reduceCtorEq, ↓reduceIte, h0, h3, h4, h5, c1, decide_true]
        simp only [List.getD_cons_zero, List.getD_cons_succ, fillL, splice, List.take_zero, List.drop_zero, List.drop_succ_cons, List.take_succ_cons, List.drop_nil, List.take_nil, cv_u8, u8D, ↓gaW, ↓gaV, ↓gaC, ↓gaN, gaP, Nat.reduceEqDiff, Nat.reduceLeDiff, Nat.reduceAdd, Nat.reduceSub, Nat.reduceMul, Int.reduceLT, Int.reduceLE, Int.reduceEq, Int.reduceToNat, Int.reduceAdd, Int.reduceSub, Int.reduceMul, reduceCtorEq, ↓reduceIte, row_new (show 1 ≤ [u8V (UInt8.ofNat D)].length by simp)]
        refine grow_append (nx := nx) (hgr.keep (Nat.le_succ _) (fun p hp => by simp only [upd_e]; rw [if_neg (by omega)])) (by omega) (by omega) (by omega) (by omega) (by simp) (all1 rfl) (by omega) (by omega) fun g' hg' how => ?_
        simp only [↓gaW, ↓gaV, ↓gaC, ↓gaN, gaP, Nat.reduceEqDiff, Nat.reduceLeDiff, Nat.reduceAdd, Nat.reduceSub, Nat.reduceMul, Int.reduceLT, Int.reduceLE, Int.reduceEq, Int.reduceToNat, Int.reduceAdd, Int.reduceSub, Int.reduceMul, reduceCtorEq, ↓reduceIte, h5, w5, loopK_n]
        rw [show [u8V (UInt8.ofNat D)] = ([UInt8.ofNat D] : List UInt8).map u8V from rfl, ← List.map_append] at how
        refine ⟨t, by omega, t, x + 1 + 1, g', some ⟨x + 1, 0, some 1⟩, s + 1, ?_⟩
        refine ⟨rfl, by omega, h0, rfl, h4, rfl, rfl, by omega, fun p hp => by rw [hg' p hp]; simp only [upd_e]; rw [if_neg (by omega), hg p hp], ?_⟩
        rw [hst, if_neg (by intro hh; simp_all)]
        exact .inl how
      · by_cases c2 : (0 : Int) < (D : Int)
        · simp only [↓gaW, ↓gaV, ↓gaC, ↓gaN, gaP, Nat.reduceEqDiff, Nat.reduceLeDiff, Nat.reduceAdd, Nat.reduceSub, Nat.reduceMul, Int.reduceLT, Int.reduceLE, Int.reduceEq, Int.reduceToNat, Int.reduceAdd, Int.reduceSub, Int.reduceMul, reduceCtorEq, ↓reduceIte, h0, h3, h4, h5, c1, c2, decide_true, decide_false]
          simp only [List.getD_cons_zero, List.getD_cons_succ, fillL, splice, List.take_zero, List.drop_zero, List.drop_succ_cons, List.take_succ_cons, List.drop_nil, List.take_nil, cv_u8, u8D, ↓gaW, ↓gaV, ↓gaC, ↓gaN, gaP, Nat.reduceEqDiff, Nat.reduceLeDiff, Nat.reduceAdd, Nat.reduceSub, Nat.reduceMul, Int.reduceLT, Int.reduceLE, Int.reduceEq, Int.reduceToNat, Int.reduceAdd, Int.reduceSub, Int.reduceMul, reduceCtorEq, ↓reduceIte, row_new (show 1 ≤ [u8V (UInt8.ofNat D)].length by simp)]
          refine grow_append (nx := nx) (hgr.keep (Nat.le_succ _) (fun p hp => by simp only [upd_e]; rw [if_neg (by omega)])) (by omega) (by omega) (by omega) (by omega) (by simp) (all1 rfl) (by omega) (by omega) fun g' hg' how => ?_
          simp only [↓gaW, ↓gaV, ↓gaC, ↓gaN, gaP, Nat.reduceEqDiff, Nat.reduceLeDiff, Nat.reduceAdd, Nat.reduceSub, Nat.reduceMul, Int.reduceLT, Int.reduceLE, Int.reduceEq, Int.reduceToNat, Int.reduceAdd, Int.reduceSub, Int.reduceMul, reduceCtorEq, ↓reduceIte, h5, w5, loopK_n]
          rw [show [u8V (UInt8.ofNat D)] = ([UInt8.ofNat D] : List UInt8).map u8V from rfl, ← List.map_append] at how
          refine ⟨t, by omega, t, x + 1 + 1, g', some ⟨x + 1, 0, some 1⟩, s + 1, ?_⟩
          refine ⟨rfl, by omega, h0, rfl, h4, rfl, rfl, by omega, fun p hp => by rw [hg' p hp]; simp only [upd_e]; rw [if_neg (by omega), hg p hp], ?_⟩
          rw [hst, if_neg (by intro hh; simp_all)]
          exact .inl how
        · simp only [↓gaW, ↓gaV, ↓gaC, ↓gaN, gaP, Nat.reduceEqDiff, Nat.reduceLeDiff, Nat.reduceAdd, Nat.reduceSub, Nat.reduceMul, Int.reduceLT, Int.reduceLE, Int.reduceEq, Int.reduceToNat, Int.reduceAdd, Int.reduceSub, Int.reduceMul, reduceCtorEq, ↓reduceIte, h0, h3, h4, h5, c1, c2, decide_false, w5, loopK_n]
          have hD0 : D = 0 := by omega
          refine ⟨t, by omega, t, x, g, Q, s, rfl, by omega, rfl, rfl, rfl, hx, hg, ?_⟩
          have hnil : cb (lv l / 256 ^ (4 * z + (t + 1))) = [] := List.eq_nil_of_length_eq_zero (by omega)
          rw [hst, if_pos ⟨hnil, hD0⟩]
          rw [hnil] at hgr
          exact hgr
end
end Go.Ga

namespace Go.Ga
open Go Go.Proofs
set_option linter.unusedSimpArgs false
set_option linter.unusedVariables false
set_option maxRecDepth 100000
attribute [local irreducible] appendK endK endW

/-- A number's bytes, so many. -/
def padL (s x : Nat) : List UInt8 := List.replicate (s - (cb x).length) 0 ++ cb x
def powR (N S : List UInt8) (E : Nat) : List UInt8 × Int :=
  if rightB N E = false then ([], 1) else if S.length ≠ N.length ∨ bv N ≤ bv S then ([], 6) else (padL N.length (bv S ^ E % bv N), 0)
def PowV (R : List UInt8 × Int) (v : Value) (x : Nat) (g : Nat → Option Blk) : Prop :=
  ∃ A n c, v = .tuple #[.slice A n c, .int .i64 R.2] ∧ n ≤ c ∧ R.1.length = n ∧ Row x g 1 A n (R.1.map u8V)
theorem PowV.nil {R : List UInt8 × Int} {e : Int} (h : R = ([], e)) {x : Nat} {g : Nat → Option Blk} : PowV R (.tuple #[.slice none 0 0, .int .i64 e]) x g := by
  subst h
  exact ⟨none, 0, 0, rfl, Nat.le_refl _, rfl, .nil⟩
theorem cb_le {x k : Nat} (h : x < 256 ^ k) : (cb x).length ≤ k := by
  rw [cb_len]
  have : bl x ≤ 8 * k := bl_le.2 (by rw [Nat.pow_mul]; exact h)
  omega
theorem padL_len {s x : Nat} (h : x < 256 ^ s) : (padL s x).length = s := by
  have := cb_le h
  simp [padL]; omega
theorem bv_pos {N : List UInt8} (h : (N.getD 0 0).toNat ≠ 0) : bv N ≠ 0 := by
  cases N with
  | nil => exact absurd rfl h
  | cons x l =>
    have h : x.toNat ≠ 0 := h
    have h1 : 0 < 256 ^ l.length := Nat.pow_pos (by omega)
    have h2 : 0 < x.toNat * 256 ^ l.length := Nat.mul_pos (by omega) h1
    simp only [bv]; omega
theorem rightB_pos {N : List UInt8} {E : Nat} (h : rightB N E = true) : bv N ≠ 0 ∧ 62 ≤ N.length ∧ N.length ≤ 512 := by
  rw [rightB, decide_eq_true_eq] at h
  exact ⟨bv_pos h.2.2.1, h.1, h.2.1⟩

section
variable {nx : Nat} {gt : Nat → Option Blk}

theorem pad_app {x b s k : Nat} {g : Nat → Option Blk} {B : Option Addr} {y : Nat} {K : Value → Mem → Prop} (hrb : Row x g 1 B k ((cb y).map u8V)) (hb : b ≤ x) (hs : s < 1000000) (hkm : k < 10000000)
    (hK : ∀ A' x' g', x + 1 ≤ x' → (∀ i, i < x → g' i = g i) → Row x' g' 1 A' (s - k + k) ((padL s y).map u8V) → (padL s y).length = s - k + k → K (.slice A' (s - k + k) (s - k + k)) ⟨x', b, g'⟩) :
    asO (rowOf ⟨x + 1, b, upd g x (some (.cells ((List.replicate (s - k) (0 : UInt8)).map u8V) false))⟩ B k) fun news => appendK 1 1 ⟨x + 1, b, upd g x (some (.cells ((List.replicate (s - k) (0 : UInt8)).map u8V) false))⟩ (some ⟨x, 0, none⟩) (s - k) (s - k) k news K := by
  have hkl : (cb y).length = k := by simpa using hrb.len
  have h1 : rowOf ⟨x + 1, b, upd g x (some (.cells ((List.replicate (s - k) (0 : UInt8)).map u8V) false))⟩ B k = some ((cb y).map u8V) := (hrb.keep (nx' := x + 1) (by omega) fun i hi => by simp only [upd_e]; rw [if_neg (by omega)]).rowOf
  rw [h1, asO_e]
  refine grow_app (nx := x) (Grow.lit (q := x) (ro := false) (by omega) (by simp only [upd_e, if_true]; rfl) (by simp)) (by omega) (by omega) (by omega) (by simp [hkl]) (all_u8 _) (by omega) (by omega) fun A' x' g' k1 k2 hg => ?_
  rw [← List.map_append] at hg
  have e : List.replicate (s - k) (0 : UInt8) ++ cb y = padL s y := by rw [padL, hkl]
  rw [e] at hg
  refine hK A' x' g' k1 (fun i hi => by rw [k2 i hi]; simp only [upd_e]; rw [if_neg (by omega)]) (by simpa using hg.row) ?_
  rw [← e]; simp [hkl]

theorem ct_Padded {A : Option Addr} {n c : Nat} {l : List UInt32} {s : Nat} (hr : Row nx gt 1 A n (l.map u32V)) (hn : n < 1000000) (hs : s < 1000000) :
    Ct Try.prog 50 [.slice A n c, .int .i64 s] nx gt fun v nx' gt' => BySl nx' gt' v (padL s (lv l)) := by
  refine Ct.of hmx r_lanyardref09_Padded (by simp [c_lanyardref09_Padded]) fun b hb => ?_
  have hF : ∀ q, q < nx → gt q = gt q := fun _ _ => rfl
  have hl : l.length = n := by simpa using hr.len
  have hk : (cb (lv l)).length ≤ 4 * n := cb_le (by
    have := lv_lt l
    rw [hl] at this
    rw [Nat.pow_mul]
    exact this)
  simp only [c_lanyardref09_Padded, ↓gaW, ↓gaV, ↓gaC, ↓gaN, gaP, Nat.reduceEqDiff, Nat.reduceLeDiff, Nat.reduceAdd, Nat.reduceSub, Nat.reduceMul, Int.reduceLT, Int.reduceLE, Int.reduceEq, Int.reduceToNat, Int.reduceAdd, Int.reduceSub, Int.reduceMul, reduceCtorEq, ↓reduceIte]
  refine callK_of (ct_rTo (c := c) hr (by omega)) (fun v x1 g1 l1 k1 hC => ?_) (by omega)
  obtain ⟨B, k, d, rfl, hd, hkl, hrb⟩ := hC
  have hk2 : k ≤ 4 * n := by omega
  have e1 : (if (0 : Int) > (s : Int) - (k : Int) then 0 else (s : Int) - (k : Int)) = ((s - k : Nat) : Int) := by split <;> omega
  have hz := zeros8 (s - k)
  simp only [↓gaW, ↓gaV, ↓gaC, ↓gaN, gaP, Nat.reduceEqDiff, Nat.reduceLeDiff, Nat.reduceAdd, Nat.reduceSub, Nat.reduceMul, Int.reduceLT, Int.reduceLE, Int.reduceEq, Int.reduceToNat, Int.reduceAdd, Int.reduceSub, Int.reduceMul, reduceCtorEq, ↓reduceIte, e1, i64_w ((s : Int) - (k : Int)) (by omega), Nat.mul_one, Int.toNat_natCast, List.length_cons, List.length_nil, hz]
  repeat refine And.intro (by first | omega | (simp; done) | (simp; omega) | exact all1 rfl) ?_
  refine pad_app hrb (by omega) hs (by omega) fun A' x' g' m1 m2 hr' hlen => ?_
  simp only [↓gaW, ↓gaV, ↓gaC, ↓gaN, gaP, Nat.reduceEqDiff, Nat.reduceLeDiff, Nat.reduceAdd, Nat.reduceSub, Nat.reduceMul, Int.reduceLT, Int.reduceLE, Int.reduceEq, Int.reduceToNat, Int.reduceAdd, Int.reduceSub, Int.reduceMul, reduceCtorEq, ↓reduceIte, gaE, implies_true, Nat.le_refl, Int.sub_zero, Nat.sub_zero, Int.le_refl, true_or, or_true]
  exact ⟨by omega, fun q hq => by rw [m2 q (by omega), k1 q hq], _, _, _, rfl, Nat.le_refl _, hlen, hr'⟩
end
end Go.Ga

namespace Go.Ga
open Go Go.Proofs
set_option linter.unusedSimpArgs false
set_option linter.unusedVariables false
set_option maxRecDepth 100000
attribute [local irreducible] appendK endK endW

def mdR (a m : Nat) : Nat := if m = 0 then 0 else a % m
theorem ModV.w {nx : Nat} {gt : Nat → Option Blk} {a m : Nat} {v : Value} (h : ModV nx gt a m v) (h0 : m ≠ 0) : ∃ (A : Option Addr) (n c : Nat), v = .tuple #[.slice A n c, .bool true] ∧ n ≤ c ∧ (lb (a % m)).length = n ∧ Row nx gt 1 A n ((lb (a % m)).map u32V) := by
  rcases h with ⟨h1, _⟩ | ⟨_, v1, rfl, ⟨A, n, c, rfl, h1, h2, h3⟩⟩
  · exact absurd h1 h0
  · exact ⟨A, n, c, rfl, h1, h2, h3⟩

theorem lb_bytes {x n : Nat} (h : x < 256 ^ n) : (lb x).length ≤ n + 1 := by
  refine lb_len_le.2 (Nat.lt_of_lt_of_le h ?_)
  rw [show (4294967296 : Nat) = 256 ^ 4 by decide, ← Nat.pow_mul]
  exact Nat.pow_le_pow_right (by omega) (by omega)

section
variable {nx : Nat} {gt : Nat → Option Blk}

theorem ct_Power {A B : Option Addr} {n c m d E : Nat} {N S : List UInt8} (hA : Row nx gt 1 A n (N.map u8V)) (hc : n ≤ c) (hE : E < 4294967296) (hn : n ≤ 100000) (hB : Row nx gt 1 B m (S.map u8V)) (hd : m ≤ d) (hm : m ≤ 100000) :
    Ct Try.prog 27 [keyV A n c E, .slice B m d] nx gt fun v x g => PowV (powR N S E) v x g := by
  have hN : N.length = n := by simpa using hA.len
  have hS : S.length = m := by simpa using hB.len
  refine Ct.of hmx r_rsa_Power (by simp [c_rsa_Power]) fun b hb => ?_
  have hF : ∀ q, q < nx → upd gt nx (some (.cells [.slice A n c, .int .u32 (E : Nat)] false)) q = gt q := fun q hq => by simp only [upd_e]; rw [if_neg (by omega)]
  have hb0 : upd gt nx (some (.cells [.slice A n c, .int .u32 (E : Nat)] false)) nx = some (.cells [.slice A n c, .int .u32 (E : Nat)] false) := by simp only [upd_e, if_true]
  have hA0 := hA.keep (nx' := nx + 1) (by omega) hF
  have hB0 := hB.keep (nx' := nx + 1) (by omega) hF
  simp only [c_rsa_Power, keyV, ↓gaW, ↓gaV, ↓gaC, ↓gaN, gaP, Nat.reduceEqDiff, Nat.reduceLeDiff, Nat.reduceAdd, Nat.reduceSub, Nat.reduceMul, Int.reduceLT, Int.reduceLE, Int.reduceEq, Int.reduceToNat, Int.reduceAdd, Int.reduceSub, Int.reduceMul, reduceCtorEq, ↓reduceIte, List.getD_cons_zero, List.getD_cons_succ, fillL, splice, List.take_zero, List.drop_zero, List.drop_succ_cons, List.take_succ_cons, List.drop_nil, List.take_nil, gaU]
  generalize upd gt nx (some (.cells [.slice A n c, .int .u32 (E : Nat)] false)) = g0 at *
  refine callK_of (ct_Right (E := E) (c := c) hA0 hE hn) (fun v x1 g1 l1 k1 hC => ?_) (by omega)
  subst hC
  have hb1 : g1 nx = some (.cells [.slice A n c, .int .u32 (E : Nat)] false) := by rw [k1 nx (by omega), hb0]
  have F1 : ∀ p, p < nx → g1 p = gt p := fun p hp => by rw [k1 p (by omega), hF p hp]
  have hA1 := hA0.keep l1 k1
  have hB1 := hB0.keep l1 k1
  cases hR : rightB N E with
  | false =>
    have e : powR N S E = ([], 1) := if_pos hR
    simp only [↓gaW, ↓gaV, ↓gaC, ↓gaN, gaP, Nat.reduceEqDiff, Nat.reduceLeDiff, Nat.reduceAdd, Nat.reduceSub, Nat.reduceMul, Int.reduceLT, Int.reduceLE, Int.reduceEq, Int.reduceToNat, Int.reduceAdd, Int.reduceSub, Int.reduceMul, reduceCtorEq, ↓reduceIte, gaE, implies_true, Nat.le_refl, Int.sub_zero, Nat.sub_zero, Int.le_refl, true_or, or_true, Bool.not_false]
    exact ⟨by omega, F1, PowV.nil e⟩
  | true =>
    obtain ⟨hpos, hn1, hn2⟩ := rightB_pos hR
    rw [hN] at hn1 hn2
    simp only [↓gaW, ↓gaV, ↓gaC, ↓gaN, gaP, Nat.reduceEqDiff, Nat.reduceLeDiff, Nat.reduceAdd, Nat.reduceSub, Nat.reduceMul, Int.reduceLT, Int.reduceLE, Int.reduceEq, Int.reduceToNat, Int.reduceAdd, Int.reduceSub, Int.reduceMul, reduceCtorEq, ↓reduceIte, Bool.not_true, hb1, List.getD_cons_zero, List.length_cons, List.length_nil]
    repeat refine And.intro (by omega) ?_
    refine callK_of (ct_From (c := c) hA1 (by omega)) (fun v x2 g2 l2 k2 hC => ?_) (by omega)
    obtain ⟨A2, a2, c2, rfl, hc2, hl2, r2⟩ := hC
    have hb2 : g2 nx = some (.cells [.slice A n c, .int .u32 (E : Nat)] false) := by rw [k2 nx (by omega), hb1]
    have F2 : ∀ p, p < nx → g2 p = gt p := fun p hp => by rw [k2 p (by omega), F1 p hp]
    have hB2 := hB1.keep l2 k2
    simp only [↓gaW, ↓gaV, ↓gaC, ↓gaN, gaP, Nat.reduceEqDiff, Nat.reduceLeDiff, Nat.reduceAdd, Nat.reduceSub, Nat.reduceMul, Int.reduceLT, Int.reduceLE, Int.reduceEq, Int.reduceToNat, Int.reduceAdd, Int.reduceSub, Int.reduceMul, reduceCtorEq, ↓reduceIte]
    repeat refine And.intro (by omega) ?_
    refine callK_of (ct_From (c := d) hB2 (by omega)) (fun v x3 g3 l3 k3 hC => ?_) (by omega)
    obtain ⟨A3, a3, c3, rfl, hc3, hl3, r3⟩ := hC
    have hb3 : g3 nx = some (.cells [.slice A n c, .int .u32 (E : Nat)] false) := by rw [k3 nx (by omega), hb2]
    have F3 : ∀ p, p < nx → g3 p = gt p := fun p hp => by rw [k3 p (by omega), F2 p hp]
    have r23 := r2.keep l3 k3
    have hbn : bv N < 256 ^ n := by rw [← hN]; exact bv_lt N
    have hbs : bv S < 256 ^ m := by rw [← hS]; exact bv_lt S
    have ha2 : a2 ≤ n + 1 := by rw [← hl2]; exact lb_bytes hbn
    have ha3 : a3 ≤ m + 1 := by rw [← hl3]; exact lb_bytes hbs
    by_cases hmn : (m : Int) = (n : Int)
    · have hmn' : m = n := by omega
      simp only [↓gaW, ↓gaV, ↓gaC, ↓gaN, gaP, Nat.reduceEqDiff, Nat.reduceLeDiff, Nat.reduceAdd, Nat.reduceSub, Nat.reduceMul, Int.reduceLT, Int.reduceLE, Int.reduceEq, Int.reduceToNat, Int.reduceAdd, Int.reduceSub, Int.reduceMul, reduceCtorEq, ↓reduceIte, hb3, List.getD_cons_zero, hmn, decide_true, Bool.not_true, List.length_cons, List.length_nil]
      repeat refine And.intro (by omega) ?_
      refine callK_of (ct_Cmp r3 hc3 (by omega) r23 hc2 (by omega)) (fun v x4 g4 l4 k4 hC => ?_) (by omega)
      subst hC
      rw [lv_lb, lv_lb]
      have hb4 : g4 nx = some (.cells [.slice A n c, .int .u32 (E : Nat)] false) := by rw [k4 nx (by omega), hb3]
      have F4 : ∀ p, p < nx → g4 p = gt p := fun p hp => by rw [k4 p (by omega), F3 p hp]
      have r24 := r23.keep l4 k4
      have r34 := r3.keep l4 k4
      have hneg := cmpI_neg ((bv S : Nat) : Int) ((bv N : Nat) : Int)
      by_cases hcmp : (0 : Int) ≤ cmpI ((bv S : Nat) : Int) ((bv N : Nat) : Int)
      · have e : powR N S E = ([], 6) := by
          rw [powR, if_neg (by simp [hR]), if_pos (.inr (by omega))]
        simp only [↓gaW, ↓gaV, ↓gaC, ↓gaN, gaP, Nat.reduceEqDiff, Nat.reduceLeDiff, Nat.reduceAdd, Nat.reduceSub, Nat.reduceMul, Int.reduceLT, Int.reduceLE, Int.reduceEq, Int.reduceToNat, Int.reduceAdd, Int.reduceSub, Int.reduceMul, reduceCtorEq, ↓reduceIte, gaE, implies_true, Nat.le_refl, Int.sub_zero, Nat.sub_zero, Int.le_refl, true_or, or_true, hcmp, decide_true]
        first | exact ⟨F4, PowV.nil e⟩ | exact ⟨by omega, F4, PowV.nil e⟩ | exact ⟨by omega, by omega, F4, PowV.nil e⟩ | exact ⟨by omega, by omega, by omega, F4, PowV.nil e⟩ | trace_state
      · have hlt : bv S < bv N := by omega
        have e : powR N S E = (padL n (bv S ^ E % bv N), 0) := by
          rw [powR, if_neg (by simp [hR]), if_neg (by omega), hN]
        have eE : Value.int .u32 (E : Int) = u32V (UInt32.ofNat E) := by rw [u32V, ofNat32, Nat.mod_eq_of_lt hE]
        have eL : lv [UInt32.ofNat E] = E := by simp [lv, ofNat32, Nat.mod_eq_of_lt hE]
        simp only [↓gaW, ↓gaV, ↓gaC, ↓gaN, gaP, Nat.reduceEqDiff, Nat.reduceLeDiff, Nat.reduceAdd, Nat.reduceSub, Nat.reduceMul, Int.reduceLT, Int.reduceLE, Int.reduceEq, Int.reduceToNat, Int.reduceAdd, Int.reduceSub, Int.reduceMul, reduceCtorEq, ↓reduceIte, hcmp, decide_false, hb4, List.getD_cons_zero, List.getD_cons_succ, fillL, spl1, List.length_cons, List.length_nil]
        refine And.intro (by omega) ?_
        have K4 : ∀ {B : Option Blk} i, i < x4 → upd g4 x4 B i = g4 i := fun i hi => by simp only [upd_e]; rw [if_neg (by omega)]
        have hone : Row (x4 + 1) (upd g4 x4 (some (.cells [.int .u32 (E : Int)] false))) 1 (some ⟨x4, 0, none⟩) 1 ([UInt32.ofNat E].map u32V) := row8c (ro := false) (by omega) (by simp only [upd_e, if_true, List.map_cons, List.map_nil, eE]) rfl
        refine callK_of (ct_mExp (r34.keep (by omega) K4) hc3 (by omega) hone (Nat.le_refl _) (by omega) (r24.keep (by omega) K4) hc2 (by omega)) (fun v x5 g5 l5 k5 hC => ?_) (by omega)
        rw [lv_lb, lv_lb, eL] at hC
        obtain ⟨A5, a5, c5, rfl, hc5, hl5, r5⟩ := hC.w hpos
        have F5 : ∀ p, p < nx → g5 p = gt p := fun p hp => by rw [k5 p (by omega), K4 p (by omega), F4 p hp]
        have hx : bv S ^ E % bv N < 256 ^ n := Nat.lt_trans (Nat.mod_lt _ (by omega)) hbn
        have ha5 : a5 ≤ n + 1 := by rw [← hl5]; exact lb_bytes hx
        generalize bv S ^ E % bv N = y at *
        simp only [↓gaW, ↓gaV, ↓gaC, ↓gaN, gaP, Nat.reduceEqDiff, Nat.reduceLeDiff, Nat.reduceAdd, Nat.reduceSub, Nat.reduceMul, Int.reduceLT, Int.reduceLE, Int.reduceEq, Int.reduceToNat, Int.reduceAdd, Int.reduceSub, Int.reduceMul, reduceCtorEq, ↓reduceIte]
        repeat refine And.intro (by first | omega | (simp; done) | (simp; omega) | exact all1 rfl) ?_
        refine callK_of (ct_To (c := c5) r5 hc5 (by omega)) (fun v x6 g6 l6 k6 hC => ?_) (by omega)
        rw [lv_lb] at hC
        obtain ⟨A6, k, c6, rfl, hc6, hl6, r6⟩ := hC
        have F6 : ∀ p, p < nx → g6 p = gt p := fun p hp => by rw [k6 p (by omega), F5 p hp]
        have hk : k ≤ n := by rw [← hl6]; exact cb_le hx
        have hz := zeros8 (n - k)
        have e1 : (m : Int) - (k : Int) = ((n - k : Nat) : Int) := by omega
        simp only [↓gaW, ↓gaV, ↓gaC, ↓gaN, gaP, Nat.reduceEqDiff, Nat.reduceLeDiff, Nat.reduceAdd, Nat.reduceSub, Nat.reduceMul, Int.reduceLT, Int.reduceLE, Int.reduceEq, Int.reduceToNat, Int.reduceAdd, Int.reduceSub, Int.reduceMul, reduceCtorEq, ↓reduceIte, e1, i64_w ((n - k : Nat) : Int) (by omega), Nat.mul_one, Int.toNat_natCast, List.length_cons, List.length_nil, hz]
        repeat refine And.intro (by omega) ?_
        refine pad_app r6 (by omega) (by omega) (by omega) fun A' x' g' m1 m2 hr' hlen => ?_
        simp only [↓gaW, ↓gaV, ↓gaC, ↓gaN, gaP, Nat.reduceEqDiff, Nat.reduceLeDiff, Nat.reduceAdd, Nat.reduceSub, Nat.reduceMul, Int.reduceLT, Int.reduceLE, Int.reduceEq, Int.reduceToNat, Int.reduceAdd, Int.reduceSub, Int.reduceMul, reduceCtorEq, ↓reduceIte, gaE, implies_true, Nat.le_refl, Int.sub_zero, Nat.sub_zero, Int.le_refl, true_or, or_true]
        refine ⟨by omega, fun q hq => by rw [m2 q (by omega), F6 q hq], ?_⟩
        rw [e]
        exact ⟨A', _, _, rfl, Nat.le_refl _, hlen, hr'⟩
    · have e : powR N S E = ([], 6) := by
        rw [powR, if_neg (by simp [hR]), if_pos (.inl (by omega))]
      simp only [↓gaW, ↓gaV, ↓gaC, ↓gaN, gaP, Nat.reduceEqDiff, Nat.reduceLeDiff, Nat.reduceAdd, Nat.reduceSub, Nat.reduceMul, Int.reduceLT, Int.reduceLE, Int.reduceEq, Int.reduceToNat, Int.reduceAdd, Int.reduceSub, Int.reduceMul, reduceCtorEq, ↓reduceIte, gaE, implies_true, Nat.le_refl, Int.sub_zero, Nat.sub_zero, Int.le_refl, true_or, or_true, hb3, List.getD_cons_zero, hmn, decide_false, Bool.not_false, List.length_cons, List.length_nil]
      exact ⟨by omega, by omega, F3, PowV.nil e⟩
end
end Go.Ga

namespace Go.Ga
open Go Go.Proofs
set_option linter.unusedSimpArgs false
set_option linter.unusedVariables false
set_option maxRecDepth 100000
attribute [local irreducible] appendK endK endW

section
variable {nx : Nat} {gt : Nat → Option Blk}

theorem ct_rPower {A B : Option Addr} {n c m d E : Nat} {N S : List UInt8} (hA : Row nx gt 1 A n (N.map u8V)) (hc : n ≤ c) (hE : E < 4294967296) (hn : n ≤ 100000) (hB : Row nx gt 1 B m (S.map u8V)) (hd : m ≤ d) (hm : m ≤ 100000) :
    Ct Try.prog 28 [keyV A n c E, .slice B m d] nx gt fun v x g => PowV (powR N S E) v x g := by
  have hN : N.length = n := by simpa using hA.len
  have hS : S.length = m := by simpa using hB.len
  refine Ct.of hmx r_lanyardref09_Power (by simp [c_lanyardref09_Power]) fun b hb => ?_
  have hF : ∀ q, q < nx → upd gt nx (some (.cells [.slice A n c, .int .u32 (E : Nat)] false)) q = gt q := fun q hq => by simp only [upd_e]; rw [if_neg (by omega)]
  have hb0 : upd gt nx (some (.cells [.slice A n c, .int .u32 (E : Nat)] false)) nx = some (.cells [.slice A n c, .int .u32 (E : Nat)] false) := by simp only [upd_e, if_true]
  have hA0 := hA.keep (nx' := nx + 1) (by omega) hF
  have hB0 := hB.keep (nx' := nx + 1) (by omega) hF
  simp only [c_lanyardref09_Power, keyV, ↓gaW, ↓gaV, ↓gaC, ↓gaN, gaP, Nat.reduceEqDiff, Nat.reduceLeDiff, Nat.reduceAdd, Nat.reduceSub, Nat.reduceMul, Int.reduceLT, Int.reduceLE, Int.reduceEq, Int.reduceToNat, Int.reduceAdd, Int.reduceSub, Int.reduceMul, reduceCtorEq, ↓reduceIte, List.getD_cons_zero, List.getD_cons_succ, fillL, splice, List.take_zero, List.drop_zero, List.drop_succ_cons, List.take_succ_cons, List.drop_nil, List.take_nil, gaU]
  generalize upd gt nx (some (.cells [.slice A n c, .int .u32 (E : Nat)] false)) = g0 at *
  refine callK_of (ct_rRight (E := E) (c := c) hA0 hE hn) (fun v x1 g1 l1 k1 hC => ?_) (by omega)
  subst hC
  have hb1 : g1 nx = some (.cells [.slice A n c, .int .u32 (E : Nat)] false) := by rw [k1 nx (by omega), hb0]
  have F1 : ∀ p, p < nx → g1 p = gt p := fun p hp => by rw [k1 p (by omega), hF p hp]
  have hA1 := hA0.keep l1 k1
  have hB1 := hB0.keep l1 k1
  cases hR : rightB N E with
  | false =>
    have e : powR N S E = ([], 1) := if_pos hR
    simp only [↓gaW, ↓gaV, ↓gaC, ↓gaN, gaP, Nat.reduceEqDiff, Nat.reduceLeDiff, Nat.reduceAdd, Nat.reduceSub, Nat.reduceMul, Int.reduceLT, Int.reduceLE, Int.reduceEq, Int.reduceToNat, Int.reduceAdd, Int.reduceSub, Int.reduceMul, reduceCtorEq, ↓reduceIte, gaE, implies_true, Nat.le_refl, Int.sub_zero, Nat.sub_zero, Int.le_refl, true_or, or_true, Bool.not_false]
    exact ⟨by omega, F1, PowV.nil e⟩
  | true =>
    obtain ⟨hpos, hn1, hn2⟩ := rightB_pos hR
    rw [hN] at hn1 hn2
    simp only [↓gaW, ↓gaV, ↓gaC, ↓gaN, gaP, Nat.reduceEqDiff, Nat.reduceLeDiff, Nat.reduceAdd, Nat.reduceSub, Nat.reduceMul, Int.reduceLT, Int.reduceLE, Int.reduceEq, Int.reduceToNat, Int.reduceAdd, Int.reduceSub, Int.reduceMul, reduceCtorEq, ↓reduceIte, Bool.not_true, hb1, List.getD_cons_zero, List.length_cons, List.length_nil]
    repeat refine And.intro (by omega) ?_
    refine callK_of (ct_rFrom (c := c) hA1 (by omega)) (fun v x2 g2 l2 k2 hC => ?_) (by omega)
    obtain ⟨A2, a2, c2, rfl, hc2, hl2, r2⟩ := hC
    have hb2 : g2 nx = some (.cells [.slice A n c, .int .u32 (E : Nat)] false) := by rw [k2 nx (by omega), hb1]
    have F2 : ∀ p, p < nx → g2 p = gt p := fun p hp => by rw [k2 p (by omega), F1 p hp]
    have hB2 := hB1.keep l2 k2
    simp only [↓gaW, ↓gaV, ↓gaC, ↓gaN, gaP, Nat.reduceEqDiff, Nat.reduceLeDiff, Nat.reduceAdd, Nat.reduceSub, Nat.reduceMul, Int.reduceLT, Int.reduceLE, Int.reduceEq, Int.reduceToNat, Int.reduceAdd, Int.reduceSub, Int.reduceMul, reduceCtorEq, ↓reduceIte]
    repeat refine And.intro (by omega) ?_
    refine callK_of (ct_rFrom (c := d) hB2 (by omega)) (fun v x3 g3 l3 k3 hC => ?_) (by omega)
    obtain ⟨A3, a3, c3, rfl, hc3, hl3, r3⟩ := hC
    have hb3 : g3 nx = some (.cells [.slice A n c, .int .u32 (E : Nat)] false) := by rw [k3 nx (by omega), hb2]
    have F3 : ∀ p, p < nx → g3 p = gt p := fun p hp => by rw [k3 p (by omega), F2 p hp]
    have r23 := r2.keep l3 k3
    have hbn : bv N < 256 ^ n := by rw [← hN]; exact bv_lt N
    have hbs : bv S < 256 ^ m := by rw [← hS]; exact bv_lt S
    have ha2 : a2 ≤ n + 1 := by rw [← hl2]; exact lb_bytes hbn
    have ha3 : a3 ≤ m + 1 := by rw [← hl3]; exact lb_bytes hbs
    by_cases hmn : (m : Int) = (n : Int)
    · have hmn' : m = n := by omega
      simp only [↓gaW, ↓gaV, ↓gaC, ↓gaN, gaP, Nat.reduceEqDiff, Nat.reduceLeDiff, Nat.reduceAdd, Nat.reduceSub, Nat.reduceMul, Int.reduceLT, Int.reduceLE, Int.reduceEq, Int.reduceToNat, Int.reduceAdd, Int.reduceSub, Int.reduceMul, reduceCtorEq, ↓reduceIte, hb3, List.getD_cons_zero, hmn, decide_true, Bool.not_true, List.length_cons, List.length_nil]
      repeat refine And.intro (by omega) ?_
      refine callK_of (ct_rCmp (c := c3) (d := c2) r3 (by omega) r23 (by omega)) (fun v x4 g4 l4 k4 hC => ?_) (by omega)
      subst hC
      rw [lv_lb, lv_lb]
      have hb4 : g4 nx = some (.cells [.slice A n c, .int .u32 (E : Nat)] false) := by rw [k4 nx (by omega), hb3]
      have F4 : ∀ p, p < nx → g4 p = gt p := fun p hp => by rw [k4 p (by omega), F3 p hp]
      have r24 := r23.keep l4 k4
      have r34 := r3.keep l4 k4
      have hneg := cmpI_neg ((bv S : Nat) : Int) ((bv N : Nat) : Int)
      by_cases hcmp : (0 : Int) ≤ cmpI ((bv S : Nat) : Int) ((bv N : Nat) : Int)
      · have e : powR N S E = ([], 6) := by
          rw [powR, if_neg (by simp [hR]), if_pos (.inr (by omega))]
        simp only [↓gaW, ↓gaV, ↓gaC, ↓gaN, gaP, Nat.reduceEqDiff, Nat.reduceLeDiff, Nat.reduceAdd, Nat.reduceSub, Nat.reduceMul, Int.reduceLT, Int.reduceLE, Int.reduceEq, Int.reduceToNat, Int.reduceAdd, Int.reduceSub, Int.reduceMul, reduceCtorEq, ↓reduceIte, gaE, implies_true, Nat.le_refl, Int.sub_zero, Nat.sub_zero, Int.le_refl, true_or, or_true, hcmp, decide_true]
        first | exact ⟨F4, PowV.nil e⟩ | exact ⟨by omega, F4, PowV.nil e⟩ | exact ⟨by omega, by omega, F4, PowV.nil e⟩ | exact ⟨by omega, by omega, by omega, F4, PowV.nil e⟩ | trace_state
      · have hlt : bv S < bv N := by omega
        have e : powR N S E = (padL n (bv S ^ E % bv N), 0) := by
          rw [powR, if_neg (by simp [hR]), if_neg (by omega), hN]
        have eE : Value.int .u32 (E : Int) = u32V (UInt32.ofNat E) := by rw [u32V, ofNat32, Nat.mod_eq_of_lt hE]
        have eL : lv [UInt32.ofNat E] = E := by simp [lv, ofNat32, Nat.mod_eq_of_lt hE]
        simp only [↓gaW, ↓gaV, ↓gaC, ↓gaN, gaP, Nat.reduceEqDiff, Nat.reduceLeDiff, Nat.reduceAdd, Nat.reduceSub, Nat.reduceMul, Int.reduceLT, Int.reduceLE, Int.reduceEq, Int.reduceToNat, Int.reduceAdd, Int.reduceSub, Int.reduceMul, reduceCtorEq, ↓reduceIte, hcmp, decide_false, hb4, List.getD_cons_zero, List.getD_cons_succ, fillL, spl1, List.length_cons, List.length_nil]
        refine And.intro (by omega) ?_
        have K4 : ∀ {B : Option Blk} i, i < x4 → upd g4 x4 B i = g4 i := fun i hi => by simp only [upd_e]; rw [if_neg (by omega)]
        have hone : Row (x4 + 1) (upd g4 x4 (some (.cells [.int .u32 (E : Int)] false))) 1 (some ⟨x4, 0, none⟩) 1 ([UInt32.ofNat E].map u32V) := row8c (ro := false) (by omega) (by simp only [upd_e, if_true, List.map_cons, List.map_nil, eE]) rfl
        refine callK_of (ct_rExp (r34.keep (by omega) K4) hc3 (by omega) hone (Nat.le_refl _) (by omega) (r24.keep (by omega) K4) hc2 (by omega)) (fun v x5 g5 l5 k5 hC => ?_) (by omega)
        rw [lv_lb, lv_lb, eL] at hC
        obtain ⟨A5, a5, c5, rfl, hc5, hl5, r5⟩ := hC.w hpos
        have F5 : ∀ p, p < nx → g5 p = gt p := fun p hp => by rw [k5 p (by omega), K4 p (by omega), F4 p hp]
        have hx : bv S ^ E % bv N < 256 ^ n := Nat.lt_trans (Nat.mod_lt _ (by omega)) hbn
        have ha5 : a5 ≤ n + 1 := by rw [← hl5]; exact lb_bytes hx
        generalize bv S ^ E % bv N = y at *
        simp only [↓gaW, ↓gaV, ↓gaC, ↓gaN, gaP, Nat.reduceEqDiff, Nat.reduceLeDiff, Nat.reduceAdd, Nat.reduceSub, Nat.reduceMul, Int.reduceLT, Int.reduceLE, Int.reduceEq, Int.reduceToNat, Int.reduceAdd, Int.reduceSub, Int.reduceMul, reduceCtorEq, ↓reduceIte]
        have hb5 : g5 nx = some (.cells [.slice A n c, .int .u32 (E : Nat)] false) := by rw [k5 nx (by omega), K4 nx (by omega), hb4]
        simp only [hb5, ↓gaW, ↓gaV, ↓gaC, ↓gaN, gaP, Nat.reduceEqDiff, Nat.reduceLeDiff, Nat.reduceAdd, Nat.reduceSub, Nat.reduceMul, Int.reduceLT, Int.reduceLE, Int.reduceEq, Int.reduceToNat, Int.reduceAdd, Int.reduceSub, Int.reduceMul, reduceCtorEq, ↓reduceIte, List.getD_cons_zero, List.length_cons, List.length_nil]
        repeat refine And.intro (by omega) ?_
        refine callK_of (ct_Padded (c := c5) (s := n) r5 (by omega) (by omega)) (fun v x6 g6 l6 k6 hC => ?_) (by omega)
        rw [lv_lb] at hC
        obtain ⟨A6, k, c6, rfl, hc6, hl6, r6⟩ := hC
        simp only [↓gaW, ↓gaV, ↓gaC, ↓gaN, gaP, Nat.reduceEqDiff, Nat.reduceLeDiff, Nat.reduceAdd, Nat.reduceSub, Nat.reduceMul, Int.reduceLT, Int.reduceLE, Int.reduceEq, Int.reduceToNat, Int.reduceAdd, Int.reduceSub, Int.reduceMul, reduceCtorEq, ↓reduceIte, gaE, implies_true, Nat.le_refl, Int.sub_zero, Nat.sub_zero, Int.le_refl, true_or, or_true]
        refine ⟨by omega, fun q hq => by rw [k6 q (by omega), F5 q hq], ?_⟩
        rw [e]
        exact ⟨A6, _, _, rfl, hc6, hl6, r6⟩
    · have e : powR N S E = ([], 6) := by
        rw [powR, if_neg (by simp [hR]), if_pos (.inl (by omega))]
      simp only [↓gaW, ↓gaV, ↓gaC, ↓gaN, gaP, Nat.reduceEqDiff, Nat.reduceLeDiff, Nat.reduceAdd, Nat.reduceSub, Nat.reduceMul, Int.reduceLT, Int.reduceLE, Int.reduceEq, Int.reduceToNat, Int.reduceAdd, Int.reduceSub, Int.reduceMul, reduceCtorEq, ↓reduceIte, gaE, implies_true, Nat.le_refl, Int.sub_zero, Nat.sub_zero, Int.le_refl, true_or, or_true, hb3, List.getD_cons_zero, hmn, decide_false, Bool.not_false, List.length_cons, List.length_nil]
      exact ⟨by omega, by omega, F3, PowV.nil e⟩
end
end Go.Ga

namespace Go.Ga
open Go Go.Proofs
set_option linter.unusedSimpArgs false
set_option linter.unusedVariables false
set_option maxRecDepth 100000
attribute [local irreducible] appendK endK endW sha

def verR (N S : List UInt8) (E : Nat) (T : List UInt8) : Int :=
  if (powR N S E).2 ≠ 0 then (powR N S E).2 else if ((powR N S E).1 == frL (sha T) N.length) = true then 0 else 6
theorem powR_ok {N S : List UInt8} {E : Nat} (h : (powR N S E).2 = 0) : 62 ≤ N.length ∧ N.length ≤ 512 ∧ rightB N E = true ∧ S.length = N.length ∧ bv S < bv N ∧ (powR N S E).1 = padL N.length (bv S ^ E % bv N) := by
  unfold powR at h ⊢
  split at h
  · cases h
  · rename_i hr
    split at h
    · cases h
    · rename_i h2
      rw [if_neg hr, if_neg h2]
      have hr : rightB N E = true := by simpa using hr
      obtain ⟨_, h3, h4⟩ := rightB_pos hr
      exact ⟨h3, h4, hr, by omega, by omega, rfl⟩

section
variable {nx : Nat} {gt : Nat → Option Blk}

theorem ct_EqualB {A B : Option Addr} {n c m d : Nat} {l k : List UInt8} (hA : Row nx gt 1 A n (l.map u8V)) (hB : Row nx gt 1 B m (k.map u8V)) :
    Ct Try.prog 51 [.slice A n c, .slice B m d] nx gt fun v _ _ => v = .bool (l == k) := by
  refine Ct.of hmx r_bytes_Equal (by simp [c_bytes_Equal]) fun b hb => ?_
  have ra : ∀ b, rowOf ⟨nx, b, gt⟩ A n = some _ := fun b => hA.rowOf
  have rb : ∀ b, rowOf ⟨nx, b, gt⟩ B m = some _ := fun b => hB.rowOf
  simp only [c_bytes_Equal, ↓gaW, ↓gaV, ↓gaC, ↓gaN, gaP, Nat.reduceEqDiff, Nat.reduceLeDiff, Nat.reduceAdd, Nat.reduceSub, Nat.reduceMul, Int.reduceLT, Int.reduceLE, Int.reduceEq, Int.reduceToNat, Int.reduceAdd, Int.reduceSub, Int.reduceMul, reduceCtorEq, ↓reduceIte, gaE, implies_true, Nat.le_refl, Int.sub_zero, Nat.sub_zero, Int.le_refl, true_or, or_true, ra, rb, bytesOf_map, str_eq]

theorem ct_Verify {A B C : Option Addr} {n c m d h e E : Nat} {N S T : List UInt8} (hA : Row nx gt 1 A n (N.map u8V)) (hc : n ≤ c) (hE : E < 4294967296) (hn : n ≤ 100000) (hB : Row nx gt 1 B m (S.map u8V)) (hd : m ≤ d) (hm : m ≤ 100000) (hC : Row nx gt 1 C h (T.map u8V)) (he : h ≤ e) (hh : h ≤ 100000) :
    Ct Try.prog 29 [keyV A n c E, .slice C h e, .slice B m d] nx gt fun v x g => v = .int .i64 (verR N S E T) := by
  have hN : N.length = n := by simpa using hA.len
  have hsl := sha_len T
  refine Ct.of hmx r_rsa_Verify (by simp [c_rsa_Verify]) fun b hb => ?_
  have hF : ∀ q, q < nx → upd gt nx (some (.cells [.slice A n c, .int .u32 (E : Nat)] false)) q = gt q := fun q hq => by simp only [upd_e]; rw [if_neg (by omega)]
  have hb0 : upd gt nx (some (.cells [.slice A n c, .int .u32 (E : Nat)] false)) nx = some (.cells [.slice A n c, .int .u32 (E : Nat)] false) := by simp only [upd_e, if_true]
  have hA0 := hA.keep (nx' := nx + 1) (by omega) hF
  have hB0 := hB.keep (nx' := nx + 1) (by omega) hF
  have hC0 := hC.keep (nx' := nx + 1) (by omega) hF
  simp only [c_rsa_Verify, keyV, ↓gaW, ↓gaV, ↓gaC, ↓gaN, gaP, Nat.reduceEqDiff, Nat.reduceLeDiff, Nat.reduceAdd, Nat.reduceSub, Nat.reduceMul, Int.reduceLT, Int.reduceLE, Int.reduceEq, Int.reduceToNat, Int.reduceAdd, Int.reduceSub, Int.reduceMul, reduceCtorEq, ↓reduceIte, List.getD_cons_zero, List.getD_cons_succ, fillL, splice, List.take_zero, List.drop_zero, List.drop_succ_cons, List.take_succ_cons, List.drop_nil, List.take_nil, gaU]
  generalize upd gt nx (some (.cells [.slice A n c, .int .u32 (E : Nat)] false)) = g0 at *
  refine callK_of (ct_Power (E := E) hA0 hc hE hn hB0 hd hm) (fun v x1 g1 l1 k1 hC => ?_) (by omega)
  obtain ⟨A1, a1, c1, rfl, hc1, hl1, r1⟩ := hC
  have hb1 : g1 nx = some (.cells [.slice A n c, .int .u32 (E : Nat)] false) := by rw [k1 nx (by omega), hb0]
  have F1 : ∀ p, p < nx → g1 p = gt p := fun p hp => by rw [k1 p (by omega), hF p hp]
  have hC1 := hC0.keep l1 k1
  simp only [↓gaW, ↓gaV, ↓gaC, ↓gaN, gaP, Nat.reduceEqDiff, Nat.reduceLeDiff, Nat.reduceAdd, Nat.reduceSub, Nat.reduceMul, Int.reduceLT, Int.reduceLE, Int.reduceEq, Int.reduceToNat, Int.reduceAdd, Int.reduceSub, Int.reduceMul, reduceCtorEq, ↓reduceIte]
  by_cases h0 : (powR N S E).2 = 0
  · obtain ⟨q1, q2, _⟩ := powR_ok h0
    rw [hN] at q1 q2
    have hf : frameR (sha T) (n : Int) = (frL (sha T) n, 0) := by rw [frameR, if_pos (by omega), Int.toNat_natCast]
    have hv : verR N S E T = if ((powR N S E).1 == frL (sha T) n) = true then 0 else 6 := by rw [verR, if_neg (by simpa using h0), hN]
    simp only [↓gaW, ↓gaV, ↓gaC, ↓gaN, gaP, Nat.reduceEqDiff, Nat.reduceLeDiff, Nat.reduceAdd, Nat.reduceSub, Nat.reduceMul, Int.reduceLT, Int.reduceLE, Int.reduceEq, Int.reduceToNat, Int.reduceAdd, Int.reduceSub, Int.reduceMul, reduceCtorEq, ↓reduceIte, h0, decide_true, Bool.not_true]
    repeat refine And.intro (by omega) ?_
    refine callQ_of (ct_Of hC1 he (by omega)) (fun v x2 g2 l2 k2 hC => ?_)
    subst hC
    have hb2 : g2 nx = some (.cells [.slice A n c, .int .u32 (E : Nat)] false) := by rw [k2 nx (by omega), hb1]
    have F2 : ∀ p, p < nx → g2 p = gt p := fun p hp => by rw [k2 p (by omega), F1 p hp]
    have r2 := r1.keep l2 k2
    simp only [↓gaW, ↓gaV, ↓gaC, ↓gaN, gaP, Nat.reduceEqDiff, Nat.reduceLeDiff, Nat.reduceAdd, Nat.reduceSub, Nat.reduceMul, Int.reduceLT, Int.reduceLE, Int.reduceEq, Int.reduceToNat, Int.reduceAdd, Int.reduceSub, Int.reduceMul, reduceCtorEq, ↓reduceIte, hb2, List.getD_cons_zero, List.length_cons, List.length_nil]
    repeat refine And.intro (by omega) ?_
    refine callQ_of (ct_Frame (s := (n : Int)) hsl) (fun v x3 g3 l3 k3 hC => ?_)
    obtain ⟨A3, a3, c3, rfl, hc3, hn3, r3⟩ := hC
    rw [hf] at r3 hn3
    have F3 : ∀ p, p < nx → g3 p = gt p := fun p hp => by rw [k3 p (by omega), F2 p hp]
    have r23 := r2.keep l3 k3
    simp only [↓gaW, ↓gaV, ↓gaC, ↓gaN, gaP, Nat.reduceEqDiff, Nat.reduceLeDiff, Nat.reduceAdd, Nat.reduceSub, Nat.reduceMul, Int.reduceLT, Int.reduceLE, Int.reduceEq, Int.reduceToNat, Int.reduceAdd, Int.reduceSub, Int.reduceMul, reduceCtorEq, ↓reduceIte, hf]
    repeat refine And.intro (by omega) ?_
    refine callK_of (ct_EqualB (c := c1) (d := c3) r23 r3) (fun v x4 g4 l4 k4 hC => ?_) (by omega)
    subst hC
    have F4 : ∀ p, p < nx → g4 p = gt p := fun p hp => by rw [k4 p (by omega), F3 p hp]
    cases hq : ((powR N S E).1 == frL (sha T) n) with
    | true =>
      rw [hq, if_pos rfl] at hv
      simp only [↓gaW, ↓gaV, ↓gaC, ↓gaN, gaP, Nat.reduceEqDiff, Nat.reduceLeDiff, Nat.reduceAdd, Nat.reduceSub, Nat.reduceMul, Int.reduceLT, Int.reduceLE, Int.reduceEq, Int.reduceToNat, Int.reduceAdd, Int.reduceSub, Int.reduceMul, reduceCtorEq, ↓reduceIte, gaE, implies_true, Nat.le_refl, Int.sub_zero, Nat.sub_zero, Int.le_refl, true_or, or_true, hq, hv, Bool.not_true]
      exact ⟨by omega, F4⟩
    | false =>
      rw [hq, if_neg (by decide)] at hv
      simp only [↓gaW, ↓gaV, ↓gaC, ↓gaN, gaP, Nat.reduceEqDiff, Nat.reduceLeDiff, Nat.reduceAdd, Nat.reduceSub, Nat.reduceMul, Int.reduceLT, Int.reduceLE, Int.reduceEq, Int.reduceToNat, Int.reduceAdd, Int.reduceSub, Int.reduceMul, reduceCtorEq, ↓reduceIte, gaE, implies_true, Nat.le_refl, Int.sub_zero, Nat.sub_zero, Int.le_refl, true_or, or_true, hq, hv, Bool.not_false]
      exact ⟨by omega, F4⟩
  · have hv : verR N S E T = (powR N S E).2 := by rw [verR, if_pos h0]
    simp only [↓gaW, ↓gaV, ↓gaC, ↓gaN, gaP, Nat.reduceEqDiff, Nat.reduceLeDiff, Nat.reduceAdd, Nat.reduceSub, Nat.reduceMul, Int.reduceLT, Int.reduceLE, Int.reduceEq, Int.reduceToNat, Int.reduceAdd, Int.reduceSub, Int.reduceMul, reduceCtorEq, ↓reduceIte, gaE, implies_true, Nat.le_refl, Int.sub_zero, Nat.sub_zero, Int.le_refl, true_or, or_true, h0, decide_false, Bool.not_false]
    repeat refine And.intro (by omega) ?_
    rw [hv]

theorem ct_rVerify {A B C : Option Addr} {n c m d h e E : Nat} {N S T : List UInt8} (hA : Row nx gt 1 A n (N.map u8V)) (hc : n ≤ c) (hE : E < 4294967296) (hn : n ≤ 100000) (hB : Row nx gt 1 B m (S.map u8V)) (hd : m ≤ d) (hm : m ≤ 100000) (hC : Row nx gt 1 C h (T.map u8V)) (he : h ≤ e) (hh : h ≤ 100000) :
    Ct Try.prog 30 [keyV A n c E, .slice C h e, .slice B m d] nx gt fun v x g => v = .int .i64 (verR N S E T) := by
  have hN : N.length = n := by simpa using hA.len
  have hsl := sha_len T
  refine Ct.of hmx r_lanyardref09_Verify (by simp [c_lanyardref09_Verify]) fun b hb => ?_
  have hF : ∀ q, q < nx → upd gt nx (some (.cells [.slice A n c, .int .u32 (E : Nat)] false)) q = gt q := fun q hq => by simp only [upd_e]; rw [if_neg (by omega)]
  have hb0 : upd gt nx (some (.cells [.slice A n c, .int .u32 (E : Nat)] false)) nx = some (.cells [.slice A n c, .int .u32 (E : Nat)] false) := by simp only [upd_e, if_true]
  have hA0 := hA.keep (nx' := nx + 1) (by omega) hF
  have hB0 := hB.keep (nx' := nx + 1) (by omega) hF
  have hC0 := hC.keep (nx' := nx + 1) (by omega) hF
  simp only [c_lanyardref09_Verify, keyV, ↓gaW, ↓gaV, ↓gaC, ↓gaN, gaP, Nat.reduceEqDiff, Nat.reduceLeDiff, Nat.reduceAdd, Nat.reduceSub, Nat.reduceMul, Int.reduceLT, Int.reduceLE, Int.reduceEq, Int.reduceToNat, Int.reduceAdd, Int.reduceSub, Int.reduceMul, reduceCtorEq, ↓reduceIte, List.getD_cons_zero, List.getD_cons_succ, fillL, splice, List.take_zero, List.drop_zero, List.drop_succ_cons, List.take_succ_cons, List.drop_nil, List.take_nil, gaU]
  generalize upd gt nx (some (.cells [.slice A n c, .int .u32 (E : Nat)] false)) = g0 at *
  refine callK_of (ct_rPower (E := E) hA0 hc hE hn hB0 hd hm) (fun v x1 g1 l1 k1 hC => ?_) (by omega)
  obtain ⟨A1, a1, c1, rfl, hc1, hl1, r1⟩ := hC
  have hb1 : g1 nx = some (.cells [.slice A n c, .int .u32 (E : Nat)] false) := by rw [k1 nx (by omega), hb0]
  have F1 : ∀ p, p < nx → g1 p = gt p := fun p hp => by rw [k1 p (by omega), hF p hp]
  have hC1 := hC0.keep l1 k1
  simp only [↓gaW, ↓gaV, ↓gaC, ↓gaN, gaP, Nat.reduceEqDiff, Nat.reduceLeDiff, Nat.reduceAdd, Nat.reduceSub, Nat.reduceMul, Int.reduceLT, Int.reduceLE, Int.reduceEq, Int.reduceToNat, Int.reduceAdd, Int.reduceSub, Int.reduceMul, reduceCtorEq, ↓reduceIte]
  by_cases h0 : (powR N S E).2 = 0
  · obtain ⟨q1, q2, _⟩ := powR_ok h0
    rw [hN] at q1 q2
    have hf : frameR (sha T) (n : Int) = (frL (sha T) n, 0) := by rw [frameR, if_pos (by omega), Int.toNat_natCast]
    have hv : verR N S E T = if ((powR N S E).1 == frL (sha T) n) = true then 0 else 6 := by rw [verR, if_neg (by simpa using h0), hN]
    simp only [↓gaW, ↓gaV, ↓gaC, ↓gaN, gaP, Nat.reduceEqDiff, Nat.reduceLeDiff, Nat.reduceAdd, Nat.reduceSub, Nat.reduceMul, Int.reduceLT, Int.reduceLE, Int.reduceEq, Int.reduceToNat, Int.reduceAdd, Int.reduceSub, Int.reduceMul, reduceCtorEq, ↓reduceIte, h0, decide_true, Bool.not_true]
    repeat refine And.intro (by omega) ?_
    refine callQ_of (ct_rOf hC1 he (by omega)) (fun v x2 g2 l2 k2 hC => ?_)
    subst hC
    have hb2 : g2 nx = some (.cells [.slice A n c, .int .u32 (E : Nat)] false) := by rw [k2 nx (by omega), hb1]
    have F2 : ∀ p, p < nx → g2 p = gt p := fun p hp => by rw [k2 p (by omega), F1 p hp]
    have r2 := r1.keep l2 k2
    simp only [↓gaW, ↓gaV, ↓gaC, ↓gaN, gaP, Nat.reduceEqDiff, Nat.reduceLeDiff, Nat.reduceAdd, Nat.reduceSub, Nat.reduceMul, Int.reduceLT, Int.reduceLE, Int.reduceEq, Int.reduceToNat, Int.reduceAdd, Int.reduceSub, Int.reduceMul, reduceCtorEq, ↓reduceIte, hb2, List.getD_cons_zero, List.length_cons, List.length_nil]
    repeat refine And.intro (by omega) ?_
    refine callQ_of (ct_rFrame (s := (n : Int)) hsl) (fun v x3 g3 l3 k3 hC => ?_)
    obtain ⟨A3, a3, c3, rfl, hc3, hn3, r3⟩ := hC
    rw [hf] at r3 hn3
    have F3 : ∀ p, p < nx → g3 p = gt p := fun p hp => by rw [k3 p (by omega), F2 p hp]
    have r23 := r2.keep l3 k3
    simp only [↓gaW, ↓gaV, ↓gaC, ↓gaN, gaP, Nat.reduceEqDiff, Nat.reduceLeDiff, Nat.reduceAdd, Nat.reduceSub, Nat.reduceMul, Int.reduceLT, Int.reduceLE, Int.reduceEq, Int.reduceToNat, Int.reduceAdd, Int.reduceSub, Int.reduceMul, reduceCtorEq, ↓reduceIte, hf]
    have ra : ∀ b, rowOf ⟨x3, b, g3⟩ A1 a1 = some _ := fun b => r23.rowOf
    have rb : ∀ b, rowOf ⟨x3, b, g3⟩ A3 a3 = some _ := fun b => r3.rowOf
    simp only [↓gaW, ↓gaV, ↓gaC, ↓gaN, gaP, Nat.reduceEqDiff, Nat.reduceLeDiff, Nat.reduceAdd, Nat.reduceSub, Nat.reduceMul, Int.reduceLT, Int.reduceLE, Int.reduceEq, Int.reduceToNat, Int.reduceAdd, Int.reduceSub, Int.reduceMul, reduceCtorEq, ↓reduceIte, ra, rb, bytesOf_map, str_eq]
    have F4 := F3
    repeat refine And.intro (by omega) ?_
    cases hq : ((powR N S E).1 == frL (sha T) n) with
    | true =>
      rw [hq, if_pos rfl] at hv
      simp only [↓gaW, ↓gaV, ↓gaC, ↓gaN, gaP, Nat.reduceEqDiff, Nat.reduceLeDiff, Nat.reduceAdd, Nat.reduceSub, Nat.reduceMul, Int.reduceLT, Int.reduceLE, Int.reduceEq, Int.reduceToNat, Int.reduceAdd, Int.reduceSub, Int.reduceMul, reduceCtorEq, ↓reduceIte, gaE, implies_true, Nat.le_refl, Int.sub_zero, Nat.sub_zero, Int.le_refl, true_or, or_true, hq, hv, Bool.not_true]
      exact ⟨by omega, F4⟩
    | false =>
      rw [hq, if_neg (by decide)] at hv
      simp only [↓gaW, ↓gaV, ↓gaC, ↓gaN, gaP, Nat.reduceEqDiff, Nat.reduceLeDiff, Nat.reduceAdd, Nat.reduceSub, Nat.reduceMul, Int.reduceLT, Int.reduceLE, Int.reduceEq, Int.reduceToNat, Int.reduceAdd, Int.reduceSub, Int.reduceMul, reduceCtorEq, ↓reduceIte, gaE, implies_true, Nat.le_refl, Int.sub_zero, Nat.sub_zero, Int.le_refl, true_or, or_true, hq, hv, Bool.not_false]
      exact ⟨by omega, F4⟩
  · have hv : verR N S E T = (powR N S E).2 := by rw [verR, if_pos h0]
    simp only [↓gaW, ↓gaV, ↓gaC, ↓gaN, gaP, Nat.reduceEqDiff, Nat.reduceLeDiff, Nat.reduceAdd, Nat.reduceSub, Nat.reduceMul, Int.reduceLT, Int.reduceLE, Int.reduceEq, Int.reduceToNat, Int.reduceAdd, Int.reduceSub, Int.reduceMul, reduceCtorEq, ↓reduceIte, gaE, implies_true, Nat.le_refl, Int.sub_zero, Nat.sub_zero, Int.le_refl, true_or, or_true, h0, decide_false, Bool.not_false]
    repeat refine And.intro (by omega) ?_
    rw [hv]
end
end Go.Ga

namespace Go.Ga
open Go Go.Proofs
set_option linter.unusedSimpArgs false
set_option linter.unusedVariables false
set_option maxRecDepth 100000
attribute [local irreducible] appendK endK endW sha

section
variable {nx : Nat} {gt : Nat → Option Blk}

theorem fn_Verifies {A B C : Option Addr} {n c m d h e E : Nat} {N S T : List UInt8} (hA : Row nx gt 1 A n (N.map u8V)) (hc : n ≤ c) (hE : E < 4294967296) (hC : Row nx gt 1 C h (T.map u8V)) (he : h ≤ e) (hB : Row nx gt 1 B m (S.map u8V)) (hd : m ≤ d) :
    Ct Try.prog 8 [keyV A n c E, .slice C h e, .slice B m d] nx gt fun v _ _ => v = .bool true := by
  refine Ct.of hmx r_lanyardlaw09_RsaVerifies (by simp [c_lanyardlaw09_RsaVerifies]) fun b hb => ?_
  have hF : ∀ q, q < nx → upd gt nx (some (.cells [.slice A n c, .int .u32 (E : Nat)] false)) q = gt q := fun q hq => by simp only [upd_e]; rw [if_neg (by omega)]
  have hb0 : upd gt nx (some (.cells [.slice A n c, .int .u32 (E : Nat)] false)) nx = some (.cells [.slice A n c, .int .u32 (E : Nat)] false) := by simp only [upd_e, if_true]
  have hA0 := hA.keep (nx' := nx + 1) (by omega) hF
  have hB0 := hB.keep (nx' := nx + 1) (by omega) hF
  have hC0 := hC.keep (nx' := nx + 1) (by omega) hF
  simp only [c_lanyardlaw09_RsaVerifies, keyV, ↓gaW, ↓gaV, ↓gaC, ↓gaN, gaP, Nat.reduceEqDiff, Nat.reduceLeDiff, Nat.reduceAdd, Nat.reduceSub, Nat.reduceMul, Int.reduceLT, Int.reduceLE, Int.reduceEq, Int.reduceToNat, Int.reduceAdd, Int.reduceSub, Int.reduceMul, reduceCtorEq, ↓reduceIte, List.getD_cons_zero, List.getD_cons_succ, fillL, splice, List.take_zero, List.drop_zero, List.drop_succ_cons, List.take_succ_cons, List.drop_nil, List.take_nil, gaU]
  generalize upd gt nx (some (.cells [.slice A n c, .int .u32 (E : Nat)] false)) = g0 at *
  refine callK_of ct_awake09 (fun v x1 g1 l1 k1 hv => ?_) (by omega)
  subst hv
  have b1 : g1 nx = some (.cells [.slice A n c, .int .u32 (E : Nat)] false) := by rw [k1 _ (by omega), hb0]
  have F1 : ∀ p, p < nx → g1 p = gt p := fun p hp => by rw [k1 p (by omega), hF p hp]
  have hA1 := hA0.keep l1 k1
  have hB1 := hB0.keep l1 k1
  have hC1 := hC0.keep l1 k1
  simp only [↓gaW, ↓gaV, ↓gaC, ↓gaN, gaP, Nat.reduceEqDiff, Nat.reduceLeDiff, Nat.reduceAdd, Nat.reduceSub, Nat.reduceMul, Int.reduceLT, Int.reduceLE, Int.reduceEq, Int.reduceToNat, Int.reduceAdd, Int.reduceSub, Int.reduceMul, reduceCtorEq, ↓reduceIte, gaU, b1, List.drop_zero, List.take_succ_cons, List.take_zero, List.length_cons, List.length_nil]
  repeat refine And.intro (by omega) ?_
  refine callK_of (ct_Light (A := A) (n := n) (c := c) (E := E)) (fun v x2 g2 l2 k2 hv => ?_) (by omega)
  subst hv
  have b2 : g2 nx = some (.cells [.slice A n c, .int .u32 (E : Nat)] false) := by rw [k2 _ (by omega), b1]
  have F2 : ∀ p, p < nx → g2 p = gt p := fun p hp => by rw [k2 p (by omega), F1 p hp]
  have hA2 := hA1.keep l2 k2
  have hB2 := hB1.keep l2 k2
  have hC2 := hC1.keep l2 k2
  by_cases d1 : (n : Int) ≤ 140
  · by_cases d2 : (1000 : Int) < (h : Int)
    · simp only [↓gaW, ↓gaV, ↓gaC, ↓gaN, gaP, Nat.reduceEqDiff, Nat.reduceLeDiff, Nat.reduceAdd, Nat.reduceSub, Nat.reduceMul, Int.reduceLT, Int.reduceLE, Int.reduceEq, Int.reduceToNat, Int.reduceAdd, Int.reduceSub, Int.reduceMul, reduceCtorEq, ↓reduceIte, gaE, implies_true, Nat.le_refl, Int.sub_zero, Nat.sub_zero, Int.le_refl, true_or, or_true, d1, d2, decide_true, Bool.not_true]
      exact ⟨by omega, F2⟩
    · by_cases d3 : (300 : Int) < (m : Int)
      · simp only [↓gaW, ↓gaV, ↓gaC, ↓gaN, gaP, Nat.reduceEqDiff, Nat.reduceLeDiff, Nat.reduceAdd, Nat.reduceSub, Nat.reduceMul, Int.reduceLT, Int.reduceLE, Int.reduceEq, Int.reduceToNat, Int.reduceAdd, Int.reduceSub, Int.reduceMul, reduceCtorEq, ↓reduceIte, gaE, implies_true, Nat.le_refl, Int.sub_zero, Nat.sub_zero, Int.le_refl, true_or, or_true, d1, d2, d3, decide_true, decide_false, Bool.not_true]
        exact ⟨by omega, F2⟩
      · simp only [↓gaW, ↓gaV, ↓gaC, ↓gaN, gaP, Nat.reduceEqDiff, Nat.reduceLeDiff, Nat.reduceAdd, Nat.reduceSub, Nat.reduceMul, Int.reduceLT, Int.reduceLE, Int.reduceEq, Int.reduceToNat, Int.reduceAdd, Int.reduceSub, Int.reduceMul, reduceCtorEq, ↓reduceIte, gaU, d1, d2, d3, decide_true, decide_false, Bool.not_true, b2, List.drop_zero, List.take_succ_cons, List.take_zero, List.length_cons, List.length_nil]
        repeat refine And.intro (by omega) ?_
        refine callK_of (ct_Power (E := E) hA2 hc hE (by omega) hB2 hd (by omega)) (fun v x3 g3 l3 k3 hv => ?_) (by omega)
        obtain ⟨A3, a3, c3, rfl, hc3, hl3, r3⟩ := hv
        have b3 : g3 nx = some (.cells [.slice A n c, .int .u32 (E : Nat)] false) := by rw [k3 _ (by omega), b2]
        have F3 : ∀ p, p < nx → g3 p = gt p := fun p hp => by rw [k3 p (by omega), F2 p hp]
        have hA3 := hA2.keep l3 k3
        have hB3 := hB2.keep l3 k3
        have hC3 := hC2.keep l3 k3
        simp only [↓gaW, ↓gaV, ↓gaC, ↓gaN, gaP, Nat.reduceEqDiff, Nat.reduceLeDiff, Nat.reduceAdd, Nat.reduceSub, Nat.reduceMul, Int.reduceLT, Int.reduceLE, Int.reduceEq, Int.reduceToNat, Int.reduceAdd, Int.reduceSub, Int.reduceMul, reduceCtorEq, ↓reduceIte, gaU, b3, List.drop_zero, List.take_succ_cons, List.take_zero, List.length_cons, List.length_nil]
        repeat refine And.intro (by omega) ?_
        refine callK_of (ct_rPower (E := E) hA3 hc hE (by omega) hB3 hd (by omega)) (fun v x4 g4 l4 k4 hv => ?_) (by omega)
        obtain ⟨A4, a4, c4, rfl, hc4, hl4, r4⟩ := hv
        have b4 : g4 nx = some (.cells [.slice A n c, .int .u32 (E : Nat)] false) := by rw [k4 _ (by omega), b3]
        have F4 : ∀ p, p < nx → g4 p = gt p := fun p hp => by rw [k4 p (by omega), F3 p hp]
        have hA4 := hA3.keep l4 k4
        have hB4 := hB3.keep l4 k4
        have hC4 := hC3.keep l4 k4
        have r34 := r3.keep l4 k4
        have ra : ∀ b, rowOf ⟨x4, b, g4⟩ A3 a3 = some _ := fun b => r34.rowOf
        have rb : ∀ b, rowOf ⟨x4, b, g4⟩ A4 a4 = some _ := fun b => r4.rowOf
        simp only [↓gaW, ↓gaV, ↓gaC, ↓gaN, gaP, Nat.reduceEqDiff, Nat.reduceLeDiff, Nat.reduceAdd, Nat.reduceSub, Nat.reduceMul, Int.reduceLT, Int.reduceLE, Int.reduceEq, Int.reduceToNat, Int.reduceAdd, Int.reduceSub, Int.reduceMul, reduceCtorEq, ↓reduceIte, gaU, ra, rb, bytesOf_map, str_eq, b4, List.drop_zero, List.take_succ_cons, List.take_zero, List.length_cons, List.length_nil, beq_self_eq_true, decide_true]
        repeat refine And.intro (by omega) ?_
        refine callQ_of (ct_Verify (E := E) hA4 hc hE (by omega) hB4 hd (by omega) hC4 he (by omega)) (fun v x5 g5 l5 k5 hv => ?_)
        subst hv
        have b5 : g5 nx = some (.cells [.slice A n c, .int .u32 (E : Nat)] false) := by rw [k5 _ (by omega), b4]
        have F5 : ∀ p, p < nx → g5 p = gt p := fun p hp => by rw [k5 p (by omega), F4 p hp]
        have hA5 := hA4.keep l5 k5
        have hB5 := hB4.keep l5 k5
        have hC5 := hC4.keep l5 k5
        simp only [↓gaW, ↓gaV, ↓gaC, ↓gaN, gaP, Nat.reduceEqDiff, Nat.reduceLeDiff, Nat.reduceAdd, Nat.reduceSub, Nat.reduceMul, Int.reduceLT, Int.reduceLE, Int.reduceEq, Int.reduceToNat, Int.reduceAdd, Int.reduceSub, Int.reduceMul, reduceCtorEq, ↓reduceIte, gaU, b5, List.drop_zero, List.take_succ_cons, List.take_zero, List.length_cons, List.length_nil, beq_self_eq_true]
        repeat refine And.intro (by omega) ?_
        refine callK_of (ct_rVerify (E := E) hA5 hc hE (by omega) hB5 hd (by omega) hC5 he (by omega)) (fun v x6 g6 l6 k6 hv => ?_) (by omega)
        subst hv
        simp only [↓gaW, ↓gaV, ↓gaC, ↓gaN, gaP, Nat.reduceEqDiff, Nat.reduceLeDiff, Nat.reduceAdd, Nat.reduceSub, Nat.reduceMul, Int.reduceLT, Int.reduceLE, Int.reduceEq, Int.reduceToNat, Int.reduceAdd, Int.reduceSub, Int.reduceMul, reduceCtorEq, ↓reduceIte, gaE, implies_true, Nat.le_refl, Int.sub_zero, Nat.sub_zero, Int.le_refl, true_or, or_true, decide_true]
        exact ⟨by omega, fun q hq => by rw [k6 q (by omega), F5 q hq]⟩
  · simp only [↓gaW, ↓gaV, ↓gaC, ↓gaN, gaP, Nat.reduceEqDiff, Nat.reduceLeDiff, Nat.reduceAdd, Nat.reduceSub, Nat.reduceMul, Int.reduceLT, Int.reduceLE, Int.reduceEq, Int.reduceToNat, Int.reduceAdd, Int.reduceSub, Int.reduceMul, reduceCtorEq, ↓reduceIte, gaE, implies_true, Nat.le_refl, Int.sub_zero, Nat.sub_zero, Int.le_refl, true_or, or_true, d1, decide_false, Bool.not_false]
    exact ⟨by omega, F2⟩
end
end Go.Ga

namespace Go.Ga
open Go Go.Proofs
set_option linter.unusedSimpArgs false
set_option linter.unusedVariables false
set_option maxRecDepth 100000
attribute [local irreducible] appendK endK endW sha

theorem bv_zeros (k : Nat) : bv (List.replicate k 0) = 0 := by
  induction k with
  | zero => rfl
  | succ k ih => simp [List.replicate_succ, bv, ih]
theorem bv_padL (s x : Nat) : bv (padL s x) = x := by
  rw [padL, bv_append, bv_zeros, bv_cb]; omega

section
variable {nx : Nat} {gt : Nat → Option Blk}

theorem fn_Sizes {A B C : Option Addr} {n c m d h e E : Nat} {N S T : List UInt8} (hA : Row nx gt 1 A n (N.map u8V)) (hc : n ≤ c) (hE : E < 4294967296) (hC : Row nx gt 1 C h (T.map u8V)) (he : h ≤ e) (hB : Row nx gt 1 B m (S.map u8V)) (hd : m ≤ d) :
    Ct Try.prog 10 [keyV A n c E, .slice C h e, .slice B m d] nx gt fun v _ _ => v = .bool true := by
  have hN : N.length = n := by simpa using hA.len
  have hS : S.length = m := by simpa using hB.len
  refine Ct.of hmx r_lanyardlaw09_RsaSizes (by simp [c_lanyardlaw09_RsaSizes]) fun b hb => ?_
  have hF : ∀ q, q < nx → upd gt nx (some (.cells [.slice A n c, .int .u32 (E : Nat)] false)) q = gt q := fun q hq => by simp only [upd_e]; rw [if_neg (by omega)]
  have hb0 : upd gt nx (some (.cells [.slice A n c, .int .u32 (E : Nat)] false)) nx = some (.cells [.slice A n c, .int .u32 (E : Nat)] false) := by simp only [upd_e, if_true]
  have hA0 := hA.keep (nx' := nx + 1) (by omega) hF
  have hB0 := hB.keep (nx' := nx + 1) (by omega) hF
  have hC0 := hC.keep (nx' := nx + 1) (by omega) hF
  simp only [c_lanyardlaw09_RsaSizes, keyV, ↓gaW, ↓gaV, ↓gaC, ↓gaN, gaP, Nat.reduceEqDiff, Nat.reduceLeDiff, Nat.reduceAdd, Nat.reduceSub, Nat.reduceMul, Int.reduceLT, Int.reduceLE, Int.reduceEq, Int.reduceToNat, Int.reduceAdd, Int.reduceSub, Int.reduceMul, reduceCtorEq, ↓reduceIte, List.getD_cons_zero, List.getD_cons_succ, fillL, splice, List.take_zero, List.drop_zero, List.drop_succ_cons, List.take_succ_cons, List.drop_nil, List.take_nil, gaU]
  generalize upd gt nx (some (.cells [.slice A n c, .int .u32 (E : Nat)] false)) = g0 at *
  refine callK_of ct_awake09 (fun v x1 g1 l1 k1 hv => ?_) (by omega)
  subst hv
  have b1 : g1 nx = some (.cells [.slice A n c, .int .u32 (E : Nat)] false) := by rw [k1 _ (by omega), hb0]
  have F1 : ∀ p, p < nx → g1 p = gt p := fun p hp => by rw [k1 p (by omega), hF p hp]
  have hA1 := hA0.keep l1 k1
  have hB1 := hB0.keep l1 k1
  have hC1 := hC0.keep l1 k1
  simp only [↓gaW, ↓gaV, ↓gaC, ↓gaN, gaP, Nat.reduceEqDiff, Nat.reduceLeDiff, Nat.reduceAdd, Nat.reduceSub, Nat.reduceMul, Int.reduceLT, Int.reduceLE, Int.reduceEq, Int.reduceToNat, Int.reduceAdd, Int.reduceSub, Int.reduceMul, reduceCtorEq, ↓reduceIte, gaU, b1, List.drop_zero, List.take_succ_cons, List.take_zero, List.length_cons, List.length_nil]
  repeat refine And.intro (by omega) ?_
  refine callK_of (ct_Light (A := A) (n := n) (c := c) (E := E)) (fun v x2 g2 l2 k2 hv => ?_) (by omega)
  subst hv
  have b2 : g2 nx = some (.cells [.slice A n c, .int .u32 (E : Nat)] false) := by rw [k2 _ (by omega), b1]
  have F2 : ∀ p, p < nx → g2 p = gt p := fun p hp => by rw [k2 p (by omega), F1 p hp]
  have hA2 := hA1.keep l2 k2
  have hB2 := hB1.keep l2 k2
  have hC2 := hC1.keep l2 k2
  by_cases d1 : (n : Int) ≤ 140
  · by_cases d2 : (500 : Int) < (h : Int)
    · simp only [↓gaW, ↓gaV, ↓gaC, ↓gaN, gaP, Nat.reduceEqDiff, Nat.reduceLeDiff, Nat.reduceAdd, Nat.reduceSub, Nat.reduceMul, Int.reduceLT, Int.reduceLE, Int.reduceEq, Int.reduceToNat, Int.reduceAdd, Int.reduceSub, Int.reduceMul, reduceCtorEq, ↓reduceIte, gaE, implies_true, Nat.le_refl, Int.sub_zero, Nat.sub_zero, Int.le_refl, true_or, or_true, d1, d2, decide_true, Bool.not_true]
      exact ⟨by omega, F2⟩
    · by_cases d3 : (300 : Int) < (m : Int)
      · simp only [↓gaW, ↓gaV, ↓gaC, ↓gaN, gaP, Nat.reduceEqDiff, Nat.reduceLeDiff, Nat.reduceAdd, Nat.reduceSub, Nat.reduceMul, Int.reduceLT, Int.reduceLE, Int.reduceEq, Int.reduceToNat, Int.reduceAdd, Int.reduceSub, Int.reduceMul, reduceCtorEq, ↓reduceIte, gaE, implies_true, Nat.le_refl, Int.sub_zero, Nat.sub_zero, Int.le_refl, true_or, or_true, d1, d2, d3, decide_true, decide_false, Bool.not_true]
        exact ⟨by omega, F2⟩
      · simp only [↓gaW, ↓gaV, ↓gaC, ↓gaN, gaP, Nat.reduceEqDiff, Nat.reduceLeDiff, Nat.reduceAdd, Nat.reduceSub, Nat.reduceMul, Int.reduceLT, Int.reduceLE, Int.reduceEq, Int.reduceToNat, Int.reduceAdd, Int.reduceSub, Int.reduceMul, reduceCtorEq, ↓reduceIte, gaU, d1, d2, d3, decide_true, decide_false, Bool.not_true, b2, List.drop_zero, List.take_succ_cons, List.take_zero, List.length_cons, List.length_nil]
        repeat refine And.intro (by omega) ?_
        refine callK_of (ct_Verify (E := E) hA2 hc hE (by omega) hB2 hd (by omega) hC2 he (by omega)) (fun v x3 g3 l3 k3 hv => ?_) (by omega)
        subst hv
        have b3 : g3 nx = some (.cells [.slice A n c, .int .u32 (E : Nat)] false) := by rw [k3 _ (by omega), b2]
        have F3 : ∀ p, p < nx → g3 p = gt p := fun p hp => by rw [k3 p (by omega), F2 p hp]
        have hA3 := hA2.keep l3 k3
        have hB3 := hB2.keep l3 k3
        simp only [↓gaW, ↓gaV, ↓gaC, ↓gaN, gaP, Nat.reduceEqDiff, Nat.reduceLeDiff, Nat.reduceAdd, Nat.reduceSub, Nat.reduceMul, Int.reduceLT, Int.reduceLE, Int.reduceEq, Int.reduceToNat, Int.reduceAdd, Int.reduceSub, Int.reduceMul, reduceCtorEq, ↓reduceIte, gaU, b3, List.drop_zero, List.take_succ_cons, List.take_zero, List.length_cons, List.length_nil]
        repeat refine And.intro (by omega) ?_
        refine callK_of (ct_Power (E := E) hA3 hc hE (by omega) hB3 hd (by omega)) (fun v x4 g4 l4 k4 hv => ?_) (by omega)
        obtain ⟨A4, a4, c4, rfl, hc4, hl4, r4⟩ := hv
        have b4 : g4 nx = some (.cells [.slice A n c, .int .u32 (E : Nat)] false) := by rw [k4 _ (by omega), b3]
        have F4 : ∀ p, p < nx → g4 p = gt p := fun p hp => by rw [k4 p (by omega), F3 p hp]
        have hA4 := hA3.keep l4 k4
        have hB4 := hB3.keep l4 k4
        simp only [↓gaW, ↓gaV, ↓gaC, ↓gaN, gaP, Nat.reduceEqDiff, Nat.reduceLeDiff, Nat.reduceAdd, Nat.reduceSub, Nat.reduceMul, Int.reduceLT, Int.reduceLE, Int.reduceEq, Int.reduceToNat, Int.reduceAdd, Int.reduceSub, Int.reduceMul, reduceCtorEq, ↓reduceIte, gaU, b4, List.drop_zero, List.take_succ_cons, List.take_zero, List.length_cons, List.length_nil]
        repeat refine And.intro (by omega) ?_
        refine callK_of (ct_Right (E := E) (c := c) hA4 hE (by omega)) (fun v x5 g5 l5 k5 hv => ?_) (by omega)
        subst hv
        have b5 : g5 nx = some (.cells [.slice A n c, .int .u32 (E : Nat)] false) := by rw [k5 _ (by omega), b4]
        have F5 : ∀ p, p < nx → g5 p = gt p := fun p hp => by rw [k5 p (by omega), F4 p hp]
        have hA5 := hA4.keep l5 k5
        have hB5 := hB4.keep l5 k5
        have r5 := r4.keep l5 k5
        cases hR : rightB N E with
        | false =>
          have p1 : (powR N S E).2 = 1 := by rw [powR, if_pos hR]
          have p2 : verR N S E T = 1 := by rw [verR, p1, if_pos (by decide)]
          simp only [↓gaW, ↓gaV, ↓gaC, ↓gaN, gaP, Nat.reduceEqDiff, Nat.reduceLeDiff, Nat.reduceAdd, Nat.reduceSub, Nat.reduceMul, Int.reduceLT, Int.reduceLE, Int.reduceEq, Int.reduceToNat, Int.reduceAdd, Int.reduceSub, Int.reduceMul, reduceCtorEq, ↓reduceIte, gaE, implies_true, Nat.le_refl, Int.sub_zero, Nat.sub_zero, Int.le_refl, true_or, or_true, p1, p2, decide_true, Bool.not_false]
          exact ⟨by omega, F5⟩
        | true =>
          simp only [↓gaW, ↓gaV, ↓gaC, ↓gaN, gaP, Nat.reduceEqDiff, Nat.reduceLeDiff, Nat.reduceAdd, Nat.reduceSub, Nat.reduceMul, Int.reduceLT, Int.reduceLE, Int.reduceEq, Int.reduceToNat, Int.reduceAdd, Int.reduceSub, Int.reduceMul, reduceCtorEq, ↓reduceIte, Bool.not_true, b5, List.getD_cons_zero, List.length_cons, List.length_nil]
          by_cases hmn : (m : Int) = (n : Int)
          · simp only [↓gaW, ↓gaV, ↓gaC, ↓gaN, gaP, Nat.reduceEqDiff, Nat.reduceLeDiff, Nat.reduceAdd, Nat.reduceSub, Nat.reduceMul, Int.reduceLT, Int.reduceLE, Int.reduceEq, Int.reduceToNat, Int.reduceAdd, Int.reduceSub, Int.reduceMul, reduceCtorEq, ↓reduceIte, Bool.not_true, b5, List.getD_cons_zero, List.length_cons, List.length_nil, hmn, decide_true]
            repeat refine And.intro (by omega) ?_
            refine callQ_of (ct_From (c := d) hB5 (by omega)) (fun v x6 g6 l6 k6 hv => ?_)
            obtain ⟨A6, a6, c6, rfl, hc6, hl6, r6⟩ := hv
            have b6 : g6 nx = some (.cells [.slice A n c, .int .u32 (E : Nat)] false) := by rw [k6 _ (by omega), b5]
            have F6 : ∀ p, p < nx → g6 p = gt p := fun p hp => by rw [k6 p (by omega), F5 p hp]
            have hA6 := hA5.keep l6 k6
            have r56 := r5.keep l6 k6
            simp only [↓gaW, ↓gaV, ↓gaC, ↓gaN, gaP, Nat.reduceEqDiff, Nat.reduceLeDiff, Nat.reduceAdd, Nat.reduceSub, Nat.reduceMul, Int.reduceLT, Int.reduceLE, Int.reduceEq, Int.reduceToNat, Int.reduceAdd, Int.reduceSub, Int.reduceMul, reduceCtorEq, ↓reduceIte, b6, List.getD_cons_zero, List.length_cons, List.length_nil]
            repeat refine And.intro (by omega) ?_
            refine callK_of (ct_From (c := c) hA6 (by omega)) (fun v x7 g7 l7 k7 hv => ?_) (by omega)
            obtain ⟨A7, a7, c7, rfl, hc7, hl7, r7⟩ := hv
            have b7 : g7 nx = some (.cells [.slice A n c, .int .u32 (E : Nat)] false) := by rw [k7 _ (by omega), b6]
            have F7 : ∀ p, p < nx → g7 p = gt p := fun p hp => by rw [k7 p (by omega), F6 p hp]
            have hA7 := hA6.keep l7 k7
            have r57 := r56.keep l7 k7
            have r67 := r6.keep l7 k7
            have hbn : bv N < 256 ^ n := by rw [← hN]; exact bv_lt N
            have hbs : bv S < 256 ^ m := by rw [← hS]; exact bv_lt S
            have ha6 : a6 ≤ m + 1 := by rw [← hl6]; exact lb_bytes hbs
            have ha7 : a7 ≤ n + 1 := by rw [← hl7]; exact lb_bytes hbn
            simp only [↓gaW, ↓gaV, ↓gaC, ↓gaN, gaP, Nat.reduceEqDiff, Nat.reduceLeDiff, Nat.reduceAdd, Nat.reduceSub, Nat.reduceMul, Int.reduceLT, Int.reduceLE, Int.reduceEq, Int.reduceToNat, Int.reduceAdd, Int.reduceSub, Int.reduceMul, reduceCtorEq, ↓reduceIte]
            refine callK_of (ct_Cmp r67 hc6 (by omega) r7 hc7 (by omega)) (fun v x8 g8 l8 k8 hv => ?_) (by omega)
            subst hv
            rw [lv_lb, lv_lb]
            have b8 : g8 nx = some (.cells [.slice A n c, .int .u32 (E : Nat)] false) := by rw [k8 _ (by omega), b7]
            have F8 : ∀ p, p < nx → g8 p = gt p := fun p hp => by rw [k8 p (by omega), F7 p hp]
            have hA8 := hA7.keep l8 k8
            have r58 := r57.keep l8 k8
            have hneg := cmpI_neg ((bv S : Nat) : Int) ((bv N : Nat) : Int)
            by_cases hcmp : (0 : Int) ≤ cmpI ((bv S : Nat) : Int) ((bv N : Nat) : Int)
            · have p1 : (powR N S E).2 = 6 := by rw [powR, if_neg (by simp [hR]), if_pos (.inr (by omega))]
              have p2 : verR N S E T = 6 := by rw [verR, p1, if_pos (by decide)]
              simp only [↓gaW, ↓gaV, ↓gaC, ↓gaN, gaP, Nat.reduceEqDiff, Nat.reduceLeDiff, Nat.reduceAdd, Nat.reduceSub, Nat.reduceMul, Int.reduceLT, Int.reduceLE, Int.reduceEq, Int.reduceToNat, Int.reduceAdd, Int.reduceSub, Int.reduceMul, reduceCtorEq, ↓reduceIte, gaE, implies_true, Nat.le_refl, Int.sub_zero, Nat.sub_zero, Int.le_refl, true_or, or_true, hcmp, p1, p2, decide_true]
              exact ⟨by omega, F8⟩
            · have hlt : bv S < bv N := by omega
              have hp : powR N S E = (padL n (bv S ^ E % bv N), 0) := by rw [powR, if_neg (by simp [hR]), if_neg (by omega), hN]
              obtain ⟨y, hy⟩ : ∃ y, bv S ^ E % bv N = y := ⟨_, rfl⟩
              have hy2 : y < bv N := by rw [← hy]; exact Nat.mod_lt _ (by omega)
              rw [hy] at hp
              have p2 : verR N S E T = 0 ∨ verR N S E T = 6 := by
                rw [verR, hp, if_neg (by simp)]
                split <;> simp
              rw [hp] at hl4 r58 ⊢
              have ha4 : a4 = n := by rw [← hl4]; exact padL_len (Nat.lt_trans hy2 hbn)
              subst ha4
              generalize verR N S E T = w at *
              simp only [↓gaW, ↓gaV, ↓gaC, ↓gaN, gaP, Nat.reduceEqDiff, Nat.reduceLeDiff, Nat.reduceAdd, Nat.reduceSub, Nat.reduceMul, Int.reduceLT, Int.reduceLE, Int.reduceEq, Int.reduceToNat, Int.reduceAdd, Int.reduceSub, Int.reduceMul, reduceCtorEq, ↓reduceIte, hcmp, decide_false, decide_true, b8, List.getD_cons_zero, List.length_cons, List.length_nil]
              repeat refine And.intro (by omega) ?_
              refine callQ_of (ct_From (c := c4) r58 (by omega)) (fun v x9 g9 l9 k9 hv => ?_)
              rw [bv_padL] at hv
              obtain ⟨A9, a9, c9, rfl, hc9, hl9, r9⟩ := hv
              have F9 : ∀ p, p < nx → g9 p = gt p := fun p hp => by rw [k9 p (by omega), F8 p hp]
              have hA9 := hA8.keep l9 k9
              have b9 : g9 nx = some (.cells [.slice A a4 c, .int .u32 (E : Nat)] false) := by rw [k9 _ (by omega), b8]
              simp only [↓gaW, ↓gaV, ↓gaC, ↓gaN, gaP, Nat.reduceEqDiff, Nat.reduceLeDiff, Nat.reduceAdd, Nat.reduceSub, Nat.reduceMul, Int.reduceLT, Int.reduceLE, Int.reduceEq, Int.reduceToNat, Int.reduceAdd, Int.reduceSub, Int.reduceMul, reduceCtorEq, ↓reduceIte, b9, List.getD_cons_zero, List.length_cons, List.length_nil]
              repeat refine And.intro (by omega) ?_
              refine callK_of (ct_From (c := c) hA9 (by omega)) (fun v xa ga la ka hv => ?_) (by omega)
              obtain ⟨Aa, aa, ca, rfl, hca, hla, ra⟩ := hv
              have Fa : ∀ p, p < nx → ga p = gt p := fun p hp => by rw [ka p (by omega), F9 p hp]
              have r9a := r9.keep la ka
              have ha9 : a9 ≤ a4 + 1 := by rw [← hl9]; exact lb_bytes (Nat.lt_trans hy2 hbn)
              have haa : aa ≤ a4 + 1 := by rw [← hla]; exact lb_bytes hbn
              simp only [↓gaW, ↓gaV, ↓gaC, ↓gaN, gaP, Nat.reduceEqDiff, Nat.reduceLeDiff, Nat.reduceAdd, Nat.reduceSub, Nat.reduceMul, Int.reduceLT, Int.reduceLE, Int.reduceEq, Int.reduceToNat, Int.reduceAdd, Int.reduceSub, Int.reduceMul, reduceCtorEq, ↓reduceIte]
              refine callK_of (ct_Cmp r9a hc9 (by omega) ra hca (by omega)) (fun v xb gb lb' kb hv => ?_) (by omega)
              subst hv
              rw [lv_lb, lv_lb]
              have hneg2 : cmpI ((y : Nat) : Int) ((bv N : Nat) : Int) < 0 := (cmpI_neg _ _).2 (by omega)
              rcases p2 with p2 | p2
              · subst p2
                simp only [↓gaW, ↓gaV, ↓gaC, ↓gaN, gaP, Nat.reduceEqDiff, Nat.reduceLeDiff, Nat.reduceAdd, Nat.reduceSub, Nat.reduceMul, Int.reduceLT, Int.reduceLE, Int.reduceEq, Int.reduceToNat, Int.reduceAdd, Int.reduceSub, Int.reduceMul, reduceCtorEq, ↓reduceIte, gaE, implies_true, Nat.le_refl, Int.sub_zero, Nat.sub_zero, Int.le_refl, true_or, or_true, hneg2, decide_true]
                exact ⟨by omega, fun q hq => by rw [kb q (by omega), Fa q hq]⟩
              · subst p2
                simp only [↓gaW, ↓gaV, ↓gaC, ↓gaN, gaP, Nat.reduceEqDiff, Nat.reduceLeDiff, Nat.reduceAdd, Nat.reduceSub, Nat.reduceMul, Int.reduceLT, Int.reduceLE, Int.reduceEq, Int.reduceToNat, Int.reduceAdd, Int.reduceSub, Int.reduceMul, reduceCtorEq, ↓reduceIte, gaE, implies_true, Nat.le_refl, Int.sub_zero, Nat.sub_zero, Int.le_refl, true_or, or_true, hneg2, decide_true]
                exact ⟨by omega, fun q hq => by rw [kb q (by omega), Fa q hq]⟩
          · have p1 : (powR N S E).2 = 6 := by rw [powR, if_neg (by simp [hR]), if_pos (.inl (by omega))]
            have p2 : verR N S E T = 6 := by rw [verR, p1, if_pos (by decide)]
            simp only [↓gaW, ↓gaV, ↓gaC, ↓gaN, gaP, Nat.reduceEqDiff, Nat.reduceLeDiff, Nat.reduceAdd, Nat.reduceSub, Nat.reduceMul, Int.reduceLT, Int.reduceLE, Int.reduceEq, Int.reduceToNat, Int.reduceAdd, Int.reduceSub, Int.reduceMul, reduceCtorEq, ↓reduceIte, gaE, implies_true, Nat.le_refl, Int.sub_zero, Nat.sub_zero, Int.le_refl, true_or, or_true, Bool.not_true, Bool.not_false, b5, List.getD_cons_zero, List.length_cons, List.length_nil, hmn, p1, p2, decide_true, decide_false]
            exact ⟨by omega, by omega, F5⟩
  · simp only [↓gaW, ↓gaV, ↓gaC, ↓gaN, gaP, Nat.reduceEqDiff, Nat.reduceLeDiff, Nat.reduceAdd, Nat.reduceSub, Nat.reduceMul, Int.reduceLT, Int.reduceLE, Int.reduceEq, Int.reduceToNat, Int.reduceAdd, Int.reduceSub, Int.reduceMul, reduceCtorEq, ↓reduceIte, gaE, implies_true, Nat.le_refl, Int.sub_zero, Nat.sub_zero, Int.le_refl, true_or, or_true, d1, decide_false, Bool.not_false]
    exact ⟨by omega, F2⟩
end
end Go.Ga

/- An array of whole numbers that a law is given. -/
namespace Go.Ga
open Go

section
variable {P : Program} {H : Type} {enc : TypeId × Value → H} {w : World} {base : Nat} {sp : Nat → Bool} {held : Bool} {t e : TypeId} {n : Nat} {k : IntKind}

def intOf : Option Value → Int
  | some (.int _ z) => z
  | _ => 0
theorem mapM_all {α β : Type} (f : α → Option β) (g : α → β) : ∀ (L : List α), (∀ i ∈ L, f i = some (g i)) → L.mapM f = some (L.map g)
  | [], _ => rfl
  | a :: L, h => by
    rw [List.mapM_cons, h a (by simp), mapM_all f g L fun i hi => h i (by simp [hi])]
    rfl
theorem mapM_inv {α β : Type} (f : α → Option β) : ∀ (L : List α) (xs : List β), L.mapM f = some xs → ∃ g : α → Option β, (∀ i ∈ L, f i = g i ∧ (g i).isSome) ∧ xs.map some = L.map g
  | [], xs, h => by
    simp at h
    subst h
    exact ⟨fun _ => none, by simp, rfl⟩
  | a :: L, xs, h => by
    rw [List.mapM_cons] at h
    simp only [bind, Option.bind_eq_some_iff, pure, Option.some.injEq] at h
    obtain ⟨y, hy, ys, hys, rfl⟩ := h
    obtain ⟨g, h1, h2⟩ := mapM_inv f L ys hys
    refine ⟨f, fun i hi => ⟨rfl, ?_⟩, ?_⟩
    · rcases List.mem_cons.1 hi with rfl | hi
      · simp [hy]
      · rw [(h1 i hi).1]; exact (h1 i hi).2
    · simp only [List.map_cons, hy, h2, List.cons.injEq, true_and]
      exact List.map_congr_left fun i hi => (h1 i hi).1.symm

def arrD (k : IntKind) (zs : List Int) : DataW H := .agg (zs.map fun z => .lit (.int k z))

theorem shut_arrI (ht : P.underlying t = some (.array n e)) (he : P.underlying e = some (.int k)) (hc : P.cellsOf e = 1) (hct : P.cellsOf t = n) {zs : List Int} (hl : zs.length = n) (hw : ∀ z ∈ zs, (Lit.int k z).wf = true) :
    DataW.Trod enc P w base sp held t (.agg (zs.map (Value.int k)).toArray) (arrD k zs) [] := by
  refine ⟨2, ?_⟩
  have h1 : ∀ i ∈ List.range n, DataW.trod enc P w base sp held 1 e (((zs.map (Value.int k)).drop (i * 1)).take 1) = some ((.lit (.int k (zs.getD i 0)) : DataW H), []) := by
    intro i hi
    have hi : i < zs.length := by rw [hl]; exact List.mem_range.1 hi
    have e1 : ((zs.map (Value.int k)).drop (i * 1)).take 1 = [.int k (zs.getD i 0)] := by
      rw [Nat.mul_one, List.drop_eq_getElem_cons (by simpa using hi)]
      simp [List.getD_eq_getElem?_getD, hi]
    rw [e1]
    have hwi : (Lit.int k (zs.getD i 0)).wf = true := hw _ (by rw [List.getD_eq_getElem?_getD, List.getElem?_eq_getElem hi]; exact List.getElem_mem hi)
    have hwi' := hwi
    simp only [List.getD_eq_getElem?_getD] at hwi' ⊢
    simp [DataW.trod, he, hwi']
  rw [DataW.trod_step]
  unfold DataW.trodStep
  simp only [ht, Value.cells, hct, hc, List.length_map, hl, if_true]
  rw [mapM_all _ _ _ h1]
  simp only [Option.map_some, List.map_map, arrD, Option.some.injEq, Prod.mk.injEq, DataW.agg.injEq]
  refine ⟨?_, by simp⟩
  refine List.ext_getElem (by simp [hl]) fun i h1 h2 => ?_
  have hi : i < zs.length := by simpa using h2
  simp [hi]

theorem open_arrI (ht : P.underlying t = some (.array n e)) (he : P.underlying e = some (.int k)) (hc : P.cellsOf e = 1) (hct : P.cellsOf t = n) {r : Reach} {b0 : Nat} {v : Value} {d : DataW H} {ps : List MemPlace} (hval : Value.okWide P w r b0 t v) (hd : DataW.Trod enc P w base sp held t v d ps) :
    ∃ zs : List Int, v = .agg (zs.map (Value.int k)).toArray ∧ zs.length = n ∧ (∀ z ∈ zs, (Lit.int k z).wf = true) ∧ d = arrD k zs ∧ ps = [] := by
  simp only [Value.okWide, ht] at hval
  obtain ⟨cs, rfl, hcs, _⟩ := hval
  obtain ⟨fuel, hf⟩ := hd
  cases fuel with
  | zero => simp [DataW.trod] at hf
  | succ fuel =>
    rw [DataW.trod_step] at hf
    unfold DataW.trodStep at hf
    simp only [ht, Value.cells] at hf
    rw [if_pos (by simpa using hcs)] at hf
    simp only [Option.map_eq_some_iff] at hf
    obtain ⟨xs, hx, e1⟩ := hf
    obtain ⟨g, hg, hgx⟩ := mapM_inv _ _ _ hx
    have hlen : cs.toList.length = n := by simp [hcs, hct]
    have cell : ∀ i, i < n → ∃ z, cs.toList[i]? = some (.int k z) ∧ (Lit.int k z).wf = true ∧ g i = some ((.lit (.int k z) : DataW H), []) := by
      intro i hi
      obtain ⟨h1, h2⟩ := hg i (List.mem_range.2 hi)
      obtain ⟨y, hy⟩ := Option.isSome_iff_exists.1 h2
      rw [hy] at h1
      obtain ⟨z, h3, rfl, h4⟩ := DataW.trod_int he h1
      refine ⟨z, ?_, h4, hy⟩
      rw [hc, Nat.mul_one, List.drop_eq_getElem_cons (by omega)] at h3
      simp at h3
      rw [List.getElem?_eq_getElem (by omega)]
      simp [h3]
    have hzs : ∃ zs : List Int, zs.length = n ∧ ∀ i, i < n → cs.toList[i]? = some (.int k (zs.getD i 0)) ∧ (Lit.int k (zs.getD i 0)).wf = true ∧ g i = some ((.lit (.int k (zs.getD i 0)) : DataW H), []) := by
      refine ⟨(List.range n).map fun i => intOf cs.toList[i]?, by simp, fun i hi => ?_⟩
      obtain ⟨z, h1, h2, h3⟩ := cell i hi
      have : ((List.range n).map fun i => intOf cs.toList[i]?).getD i 0 = z := by
        rw [List.getD_eq_getElem?_getD, List.getElem?_map, List.getElem?_range hi]
        simp only [Option.map_some, h1, Option.getD_some, intOf]
      rw [this]
      exact ⟨h1, h2, h3⟩
    obtain ⟨zs, hl, hz⟩ := hzs
    refine ⟨zs, ?_, hl, fun z hmem => ?_, ?_, ?_⟩
    · congr 1
      apply Array.ext'
      refine List.ext_getElem? fun i => ?_
      rcases Nat.lt_or_ge i n with h | h
      · rw [(hz i h).1]
        simp [List.getElem?_map, List.getD_eq_getElem?_getD, List.getElem?_eq_getElem (show i < zs.length by omega)]
      · rw [List.getElem?_eq_none (by omega), List.getElem?_eq_none (by simp; omega)]
    · obtain ⟨i, hi, rfl⟩ := List.getElem_of_mem hmem
      have := (hz i (by omega)).2.1
      simpa [List.getD_eq_getElem?_getD, List.getElem?_eq_getElem hi] using this
    · simp only [Prod.mk.injEq] at e1
      rw [← e1.1, arrD]
      congr 1
      refine List.ext_getElem? fun i => ?_
      have hxi : (xs.map some)[i]? = ((List.range n).map g)[i]? := by rw [hgx]
      rcases Nat.lt_or_ge i n with h | h
      · rw [List.getElem?_map, List.getElem?_map, List.getElem?_range h, Option.map_some, (hz i h).2.2] at hxi
        cases hx1 : xs[i]? with
        | none => simp [hx1] at hxi
        | some y =>
          simp only [hx1, Option.map_some, Option.some.injEq] at hxi
          simp [hx1, hxi, List.getD_eq_getElem?_getD, List.getElem?_eq_getElem (show i < zs.length by omega)]
      · have : xs.length = n := by
          have := congrArg List.length hgx
          simpa using this
        rw [List.getElem?_eq_none (by simp; omega), List.getElem?_eq_none (by simp; omega)]
    · simp only [Prod.mk.injEq] at e1
      rw [← e1.2, List.flatMap_eq_nil_iff]
      intro y hy
      obtain ⟨i, hi, rfl⟩ := List.getElem_of_mem hy
      have hn : xs.length = n := by
        have := congrArg List.length hgx
        simpa using this
      have hxi : (xs.map some)[i]? = ((List.range n).map g)[i]? := by rw [hgx]
      rw [List.getElem?_map, List.getElem?_eq_getElem hi, List.getElem?_map, List.getElem?_range (by omega), Option.map_some, Option.map_some, (hz i (by omega)).2.2] at hxi
      simp only [Option.some.injEq] at hxi
      rw [hxi]
end

theorem absV_arr {w : World} {k : IntKind} {zs : List Int} : absV w (.agg (zs.map (Value.int k)).toArray) = .agg (zs.map (Value.int k)).toArray := by
  simp only [absV]
  congr 1
  apply Array.ext'
  simp [Function.comp_def, absC, goodV]
theorem list6 {zs : List Int} (h : zs.length = 6) : ∃ a b c d e f, zs = [a, b, c, d, e, f] := by
  match zs, h with
  | [a, b, c, d, e, f], _ => exact ⟨a, b, c, d, e, f, rfl⟩
end Go.Ga

/- A slice of words that a law is given. -/
namespace Go.Ga
open Go

theorem wf_u32 {n : Int} (h : (Lit.int .u32 n).wf = true) : 0 ≤ n ∧ n ≤ 4294967295 := by
  have := (Lit.wf_int_iff _ _).1 h
  simpa [IntKind.min, IntKind.max, IntKind.signed, IntKind.bits] using this
theorem wf_u32N {n : Int} (h : (Lit.int .u32 n).wf = true) : ∃ x : Nat, n = x ∧ x < 4294967296 := by
  have := wf_u32 h
  exact ⟨n.toNat, by omega, by omega⟩

/-- A row's slice of words. -/
theorem absV_words {w : World} {a : Option Addr} {len cap : Nat} {zs : List Int} (h : IsRow .u32 w a len cap zs) :
    ∃ A, absV w (.slice a len cap) = .slice A len cap ∧ len ≤ cap ∧ ∃ l : List UInt32, Row w.heap.size (m0 w).get 1 A len (l.map u32V) := by
  rcases h with ⟨rfl, rfl, rfl, rfl⟩ | ⟨x, rfl, h1, h2, h3, h4, h5⟩
  · exact ⟨none, rfl, Nat.le_refl _, [], .nil⟩
  by_cases hc : cap = 0
  · subst hc
    have : len = 0 := by omega
    subst this
    exact ⟨some ⟨x.block, x.off, none⟩, by simp [absV, absC], Nat.le_refl _, [], ⟨fun a ha => by injection ha with ha; subst ha; exact .inl rfl, rfl, fun h => absurd h (Nat.lt_irrefl 0)⟩⟩
  have c0 := h4 0 (by omega)
  have hx : x.add 0 = x := by simp [Addr.add]
  rw [hx] at c0
  unfold World.cell? at c0
  split at c0
  · rename_i ce el fr hb
    have hsp : x.spot = none := by
      by_cases h : x.spot.isSome
      · rw [if_pos h] at c0; cases c0
      · simpa using h
    have hlt : x.block < w.heap.size := by
      rcases Nat.lt_or_ge x.block w.heap.size with h | h
      · exact h
      · rw [Array.getElem?_eq_none h] at hb; cases hb
    have hcell : ∀ i, i < cap → ce[x.off + i]? = some (.int .u32 (zs.getD i 0)) := by
      intro i hi
      have := h4 i (by omega)
      unfold World.cell? Addr.add at this
      by_cases h0 : i = 0
      · subst h0
        simp only [if_true, hb, hsp] at this
        simpa using this
      · simp only [if_neg h0, hb] at this
        simpa using this
    have hsz : x.off + cap ≤ ce.size := by
      have := hcell (cap - 1) (by omega)
      rcases Nat.lt_or_ge (x.off + (cap - 1)) ce.size with h | h
      · omega
      · rw [Array.getElem?_eq_none h] at this; cases this
    refine ⟨some x, ?_, h1, (zs.take len).map fun n => UInt32.ofNat n.toNat, ⟨fun a ha => by injection ha with ha; subst ha; exact .inl hsp, ?_, fun hN => ⟨x, ce.toList.map (absC w), true, rfl, hlt, ?_, ?_, fun i hi => ?_⟩⟩⟩
    · have : isCells w x.block = true := by simp [isCells, hb]
      simp [absV, absC, hc, hsp, h1, this]
    · simp; omega
    · simp [m0, hb]
    · simp; omega
    · have e1 := hcell i (by omega)
      have hz : i < zs.length := by omega
      have hw := wf_u32 (h5 (zs.getD i 0) (by rw [List.getD_eq_getElem?_getD, List.getElem?_eq_getElem hz]; exact List.getElem_mem hz))
      have e2 : ce.toList[x.off + i]? = some (.int .u32 (zs.getD i 0)) := by simpa using e1
      have e3 : (ce.toList.map (absC w)).getD (x.off + i) undef = .int .u32 (zs.getD i 0) := by
        rw [List.getD_eq_getElem?_getD, List.getElem?_map, e2]
        rfl
      rw [e3, getD_u32 (by simp; omega)]
      congr 1
      have e4 : ((zs.take len).map fun n => UInt32.ofNat n.toNat).getD i 0 = UInt32.ofNat (zs.getD i 0).toNat := by
        simp [List.getD_eq_getElem?_getD, List.getElem?_map, hi, List.getElem?_eq_getElem hz]
      rw [e4, UInt32.toNat_ofNat']
      omega
  · cases c0

end Go.Ga

/- What a law is given: what its values are made of, in the abstract memory. -/
namespace Go.Ga
open Go

section
variable {H : Type} {enc : TypeId × Value → H} {P : Program} {w : World} {held : Bool} {f : Nat} {t : TypeId} {cs : List Value}

/-- These cells are a value of this type. -/
def Shp (enc : TypeId × Value → H) (P : Program) (w : World) (held : Bool) (f : Nat) (t : TypeId) (cs : List Value) : Prop := ∃ x, DataW.trod enc P w 0 (fun _ => true) held f t cs = some x

theorem Shp.int {k : IntKind} (ht : P.underlying t = some (.int k)) (h : Shp enc P w held f t cs) : ∃ n, cs = [.int k n] ∧ (Lit.int k n).wf = true := by
  obtain ⟨x, hx⟩ := h
  obtain ⟨n, h1, _, h2⟩ := DataW.trod_int ht hx
  exact ⟨n, h1, h2⟩
theorem Shp.bool (ht : P.underlying t = some .bool) (h : Shp enc P w held f t cs) : ∃ b, cs = [.bool b] := by
  obtain ⟨x, hx⟩ := h
  obtain ⟨n, h1, _⟩ := DataW.trod_bool ht hx
  exact ⟨n, h1⟩
theorem Shp.string (ht : P.underlying t = some .string) (h : Shp enc P w held f t cs) : ∃ s : ByteArray, cs = [.string s] ∧ s.size ≤ maxLen := by
  obtain ⟨x, hx⟩ := h
  obtain ⟨n, h1, _, h2⟩ := DataW.trod_string ht hx
  exact ⟨n, h1, h2⟩
theorem Shp.struct {fs : Array Field} (ht : P.underlying t = some (.struct fs)) (h : Shp enc P w held f t cs) :
    ∃ n, f = n + 1 ∧ cs.length = P.cellsOf t ∧ ∀ (i : Nat) (fl : Field), fs[i]? = some fl → Shp enc P w held n fl.type ((cs.drop fl.offset).take (P.cellsOf fl.type)) := by
  obtain ⟨x, hx⟩ := h
  obtain ⟨xs, n, h1, _, h2, h3, h4⟩ := DataW.trod_struct ht hx
  refine ⟨n, h1, h2, fun i fl hi => ?_⟩
  have hlt : i < xs.length := by
    rw [h3]
    exact (Array.getElem?_eq_some_iff.1 hi).1
  exact ⟨xs[i], by rw [h4 i fl hi, List.getElem?_eq_getElem hlt]⟩
theorem Shp.array {m : Nat} {e : TypeId} (ht : P.underlying t = some (.array m e)) (h : Shp enc P w held f t cs) :
    ∃ n, f = n + 1 ∧ cs.length = P.cellsOf t ∧ ∀ i, i < m → Shp enc P w held n e ((cs.drop (i * P.cellsOf e)).take (P.cellsOf e)) := by
  obtain ⟨x, hx⟩ := h
  obtain ⟨xs, n, h1, _, h2, h3, h4⟩ := DataW.trod_array ht hx
  exact ⟨n, h1, h2, fun i hi => ⟨xs[i]'(by omega), by rw [h4 i hi, List.getElem?_eq_getElem (by omega)]⟩⟩

theorem cells_all {w : World} {a : Addr} {N : Nat} {g : Nat → Value} (hN : 0 < N) (h : ∀ i, i < N → w.cell? (a.add i) = some (g i)) :
    a.spot = none ∧ isCells w a.block = true ∧ a.block < w.heap.size ∧ ∃ ce : List Value, (m0 w).get a.block = some (.cells (ce.map (absC w)) true) ∧ a.off + N ≤ ce.length ∧ ∀ i, i < N → ce[a.off + i]? = some (g i) := by
  have c0 := h 0 hN
  have hx : a.add 0 = a := by simp [Addr.add]
  rw [hx] at c0
  unfold World.cell? at c0
  split at c0
  · rename_i ce el fr hb
    have hsp : a.spot = none := by
      by_cases h : a.spot.isSome
      · rw [if_pos h] at c0; cases c0
      · simpa using h
    have hlt : a.block < w.heap.size := by
      rcases Nat.lt_or_ge a.block w.heap.size with h | h
      · exact h
      · rw [Array.getElem?_eq_none h] at hb; cases hb
    have hcell : ∀ i, i < N → ce.toList[a.off + i]? = some (g i) := by
      intro i hi
      have := h i hi
      unfold World.cell? Addr.add at this
      by_cases h0 : i = 0
      · subst h0
        simp only [if_true, hb, hsp] at this
        simpa using this
      · simp only [if_neg h0, hb] at this
        simpa using this
    refine ⟨hsp, by simp [isCells, hb], hlt, ce.toList, by simp [m0, hb], ?_, hcell⟩
    have := hcell (N - 1) (by omega)
    rcases Nat.lt_or_ge (a.off + (N - 1)) ce.toList.length with h | h
    · omega
    · rw [List.getElem?_eq_none h] at this; cases this
  · cases c0

theorem add_addr {a : Addr} {i j : Nat} (_ : a.spot = none) : (a.add i).add j = a.add (i + j) := by
  unfold Addr.add
  by_cases h1 : i = 0 <;> by_cases h2 : j = 0 <;> simp [h1, h2, Nat.add_assoc]

theorem Shp.slice {e : TypeId} (ht : P.underlying t = some (.slice e)) (hc : 0 < P.cellsOf e) (h : Shp enc P w held f t cs) :
    ∃ n v A len cap, ∃ l : List Value, f = n + 1 ∧ cs = [v] ∧ absC w v = .slice A len cap ∧ len ≤ cap ∧ Row w.heap.size (m0 w).get (P.cellsOf e) A (len * P.cellsOf e) (l.map (absC w)) ∧ l.length = len * P.cellsOf e ∧
      ∀ i, i < len → Shp enc P w held n e ((l.drop (i * P.cellsOf e)).take (P.cellsOf e)) := by
  obtain ⟨x, hx⟩ := h
  rcases DataW.trod_slice ht hx with ⟨rfl, _⟩ | ⟨a, len, cap, elems, rest, n, rfl, rfl, _, _, hl, hm, he, hel, hsp, _⟩
  · cases f with
    | zero => simp [DataW.trod] at hx
    | succ n => exact ⟨n, _, none, 0, 0, [], rfl, rfl, rfl, Nat.le_refl _, by rw [Nat.zero_mul]; exact .nil, by simp, fun i hi => absurd hi (Nat.not_lt_zero i)⟩
  · obtain ⟨hr, hrest⟩ := hsp rfl
    have one : ∀ i, i < cap → ∃ cs', w.cells? 0 (a.add (i * P.cellsOf e)) (P.cellsOf e) = some cs' ∧ Shp enc P w held n e cs' := by
      intro i hi
      rcases Nat.lt_or_ge i len with h | h
      · have h1 := hel i h
        rw [List.getElem?_eq_getElem (by omega), Option.bind_eq_some_iff] at h1
        obtain ⟨cs', h1, h2⟩ := h1
        exact ⟨cs', h1, _, h2⟩
      · have h1 := hrest (i - len) (by omega)
        rw [List.getElem?_eq_getElem (by omega), Option.bind_eq_some_iff, show len + (i - len) = i by omega] at h1
        obtain ⟨cs', h1, h2⟩ := h1
        exact ⟨cs', h1, _, h2⟩
    rcases Nat.eq_zero_or_pos cap with h0 | h0
    · subst h0
      have : len = 0 := by omega
      subst this
      exact ⟨n, _, some ⟨a.block, a.off, none⟩, 0, 0, [], rfl, rfl, by simp [absC], Nat.le_refl _, ⟨fun a ha => by injection ha with ha; subst ha; exact .inl rfl, by simp, fun h => by rw [Nat.zero_mul] at h; exact absurd h (Nat.lt_irrefl 0)⟩, by simp, fun i hi => absurd hi (Nat.not_lt_zero i)⟩
    · obtain ⟨cs0, hc0, ht0⟩ := one 0 h0
      obtain ⟨_, hl0, hg0⟩ := World.cells?_some hc0
      have hx0 : a.add (0 * P.cellsOf e) = a := by simp [Addr.add]
      rw [hx0] at hg0
      have hspot : a.spot = none := by
        refine (cells_all (w := w) (a := a) (N := 1) (g := fun i => cs0.getD 0 undef) (by omega) fun i hi => ?_).1
        have : i = 0 := by omega
        subst this
        rw [hg0 0 hc, List.getD_eq_getElem?_getD, List.getElem?_eq_getElem (by omega)]
        rfl
      have hpos : 0 < cap * P.cellsOf e := Nat.mul_pos h0 hc
      have hall : ∀ j, j < cap * P.cellsOf e → ∃ v, w.cell? (a.add j) = some v := by
        intro j hj
        have hd := Nat.div_add_mod j (P.cellsOf e)
        have hm := Nat.mod_lt j hc
        obtain ⟨cs', h1, _⟩ := one (j / P.cellsOf e) ((Nat.div_lt_iff_lt_mul hc).2 hj)
        obtain ⟨_, h2, h3⟩ := World.cells?_some h1
        have h4 := h3 (j % P.cellsOf e) hm
        rw [add_addr hspot, show j / P.cellsOf e * P.cellsOf e + j % P.cellsOf e = j by rw [Nat.mul_comm]; exact hd, List.getElem?_eq_getElem (by omega)] at h4
        exact ⟨_, h4⟩
      obtain ⟨g, hg⟩ : ∃ g : Nat → Value, ∀ j, j < cap * P.cellsOf e → w.cell? (a.add j) = some (g j) := by
        refine ⟨fun j => (w.cell? (a.add j)).getD undef, fun j hj => ?_⟩
        obtain ⟨v, hv⟩ := hall j hj
        simp only [hv, Option.getD_some]
      obtain ⟨h1, h2, h3, ce, h4, h5, h6⟩ := cells_all hpos hg
      have hle : len * P.cellsOf e ≤ cap * P.cellsOf e := Nat.mul_le_mul_right _ hl
      refine ⟨n, _, some a, len, cap, (ce.drop a.off).take (len * P.cellsOf e), rfl, rfl, ?_, hl, ⟨fun a' ha => by injection ha with ha; subst ha; exact .inl h1, by simp; omega, fun _ => ⟨a, _, true, rfl, h3, h4, by simp; omega, fun i hi => ?_⟩⟩, by simp; omega, fun i hi => ?_⟩
      · obtain ⟨ab, ao, asp⟩ := a
        simp only at h1
        subst h1
        simp [absC, show cap ≠ 0 by omega, hl, h2]
      · rw [List.getD_eq_getElem?_getD, List.getD_eq_getElem?_getD, List.getElem?_map, List.getElem?_map, List.getElem?_take_of_lt hi, List.getElem?_drop]
      · obtain ⟨cs', e1, e2⟩ := one i (by omega)
        obtain ⟨_, e3, e4⟩ := World.cells?_some e1
        have hik : i * P.cellsOf e + P.cellsOf e ≤ len * P.cellsOf e := by
          have := Nat.mul_le_mul_right (P.cellsOf e) (show i + 1 ≤ len by omega)
          rw [Nat.add_mul, Nat.one_mul] at this
          exact this
        have : ((((ce.drop a.off).take (len * P.cellsOf e)).drop (i * P.cellsOf e)).take (P.cellsOf e)) = cs' := by
          refine List.ext_getElem? fun k => ?_
          rcases Nat.lt_or_ge k (P.cellsOf e) with hk | hk
          · rw [List.getElem?_take_of_lt hk, List.getElem?_drop, List.getElem?_take_of_lt (by omega), List.getElem?_drop, h6 _ (by omega), ← hg _ (by omega), ← add_addr h1, e4 k hk]
          · rw [List.getElem?_eq_none (by simp; omega), List.getElem?_eq_none (by omega)]
        rw [this]
        exact e2

theorem Shp.bytes {e : TypeId} (ht : P.underlying t = some (.slice e)) (he : P.underlying e = some (.int .u8)) (hc : P.cellsOf e = 1) (h : Shp enc P w held f t cs) :
    ∃ v A len cap, ∃ l : List UInt8, cs = [v] ∧ absC w v = .slice A len cap ∧ len ≤ cap ∧ Row w.heap.size (m0 w).get 1 A len (l.map u8V) := by
  obtain ⟨n, v, A, len, cap, l, rfl, h1, h2, h3, h4, h5, h6⟩ := h.slice ht (by omega)
  rw [hc, Nat.mul_one] at h4 h5
  refine ⟨v, A, len, cap, l.map fun v => UInt8.ofNat (intOf (some v)).toNat, h1, h2, h3, ?_⟩
  have : (l.map fun v => UInt8.ofNat (intOf (some v)).toNat).map u8V = l.map (absC w) := by
    rw [List.map_map]
    refine List.map_congr_left fun v hv => ?_
    obtain ⟨i, hi, rfl⟩ := List.getElem_of_mem hv
    obtain ⟨z, e1, e2⟩ := (h6 i (by omega)).int he
    have e1' : l[i] = .int .u8 z := by
      rw [hc, Nat.mul_one, List.drop_eq_getElem_cons hi] at e1
      simp only [List.take_succ_cons, List.take_zero, List.cons.injEq, and_true] at e1
      exact e1
    rw [e1']
    obtain ⟨b1, b2⟩ := wf_u8 e2
    simp only [Function.comp, intOf, u8V, absC, goodV, if_true]
    rw [UInt8.toNat_ofNat']
    congr 1
    omega
  rw [this]
  exact h4
theorem Shp.words {e : TypeId} (ht : P.underlying t = some (.slice e)) (he : P.underlying e = some (.int .u32)) (hc : P.cellsOf e = 1) (h : Shp enc P w held f t cs) :
    ∃ v A len cap, ∃ l : List UInt32, cs = [v] ∧ absC w v = .slice A len cap ∧ len ≤ cap ∧ Row w.heap.size (m0 w).get 1 A len (l.map u32V) := by
  obtain ⟨n, v, A, len, cap, l, rfl, h1, h2, h3, h4, h5, h6⟩ := h.slice ht (by omega)
  rw [hc, Nat.mul_one] at h4 h5
  refine ⟨v, A, len, cap, l.map fun v => UInt32.ofNat (intOf (some v)).toNat, h1, h2, h3, ?_⟩
  have : (l.map fun v => UInt32.ofNat (intOf (some v)).toNat).map u32V = l.map (absC w) := by
    rw [List.map_map]
    refine List.map_congr_left fun v hv => ?_
    obtain ⟨i, hi, rfl⟩ := List.getElem_of_mem hv
    obtain ⟨z, e1, e2⟩ := (h6 i (by omega)).int he
    have e1' : l[i] = .int .u32 z := by
      rw [hc, Nat.mul_one, List.drop_eq_getElem_cons hi] at e1
      simp only [List.take_succ_cons, List.take_zero, List.cons.injEq, and_true] at e1
      exact e1
    rw [e1']
    obtain ⟨b1, b2⟩ := wf_u32 e2
    simp only [Function.comp, intOf, u32V, absC, goodV, if_true]
    rw [UInt32.toNat_ofNat']
    congr 1
    omega
  rw [this]
  exact h4

theorem list_two {cs : List Value} {a b : Value} (hl : cs.length = 2) (h0 : (cs.drop 0).take 1 = [a]) (h1 : (cs.drop 1).take 1 = [b]) : cs = [a, b] := by
  match cs, hl with
  | [x, y], _ =>
    simp at h0 h1
    rw [h0, h1]
theorem take_one {cs : List Value} {i : Nat} (h : i < cs.length) : (cs.drop i).take 1 = [cs[i]] := by
  rw [List.drop_eq_getElem_cons h]; rfl

/-- An array of two. -/
theorem open_two {e : TypeId} (ht : P.underlying t = some (.array 2 e)) (hc : P.cellsOf e = 1) (hct : P.cellsOf t = 2) {r : Reach} {b0 : Nat} {v : Value} {d : DataW H} {ps : List MemPlace} (hval : Value.okWide P w r b0 t v) (hd : DataW.Trod enc P w 0 (fun _ => true) held t v d ps) :
    ∃ a b n, v = .agg #[a, b] ∧ Shp enc P w held n e [a] ∧ Shp enc P w held n e [b] := by
  simp only [Value.okWide, ht] at hval
  obtain ⟨cs, rfl, hcs, _⟩ := hval
  obtain ⟨fuel, hf⟩ := hd
  obtain ⟨n, rfl, hl, h⟩ := Shp.array ht ⟨_, hf⟩
  have h0 := h 0 (by omega)
  have h1 := h 1 (by omega)
  simp only [Value.cells] at hl h0 h1
  rw [hct] at hl
  rw [hc, take_one (by omega)] at h0 h1
  refine ⟨_, _, n, ?_, h0, h1⟩
  congr 1
  apply Array.ext'
  exact list_two hl (take_one (by omega)) (take_one (by omega))
theorem open_words2 {e e' : TypeId} (ht : P.underlying t = some (.array 2 e)) (he : P.underlying e = some (.slice e')) (he' : P.underlying e' = some (.int .u32)) (hc : P.cellsOf e = 1) (hct : P.cellsOf t = 2) (hc' : P.cellsOf e' = 1) {r : Reach} {b0 : Nat} {v : Value} {d : DataW H} {ps : List MemPlace} (hval : Value.okWide P w r b0 t v) (hd : DataW.Trod enc P w 0 (fun _ => true) held t v d ps) :
    ∃ (A : Option Addr) (n c : Nat) (l : List UInt32) (B : Option Addr) (m d : Nat) (k : List UInt32), absV w v = .agg #[.slice A n c, .slice B m d] ∧ Row w.heap.size (m0 w).get 1 A n (l.map u32V) ∧ n ≤ c ∧ Row w.heap.size (m0 w).get 1 B m (k.map u32V) ∧ m ≤ d := by
  obtain ⟨a, b, n, rfl, h0, h1⟩ := open_two ht hc hct hval hd
  obtain ⟨_, A, n, c, l, e0, e1, e2, e3⟩ := h0.words he he' hc'
  obtain ⟨_, B, m, d, k, f0, f1, f2, f3⟩ := h1.words he he' hc'
  injection e0 with e0
  injection f0 with f0
  subst e0 f0
  exact ⟨A, n, c, l, B, m, d, k, by simp [absV, e1, f1], e3, e2, f3, f2⟩
theorem open_bytes2 {e e' : TypeId} (ht : P.underlying t = some (.array 2 e)) (he : P.underlying e = some (.slice e')) (he' : P.underlying e' = some (.int .u8)) (hc : P.cellsOf e = 1) (hct : P.cellsOf t = 2) (hc' : P.cellsOf e' = 1) {r : Reach} {b0 : Nat} {v : Value} {d : DataW H} {ps : List MemPlace} (hval : Value.okWide P w r b0 t v) (hd : DataW.Trod enc P w 0 (fun _ => true) held t v d ps) :
    ∃ (A : Option Addr) (n c : Nat) (l : List UInt8) (B : Option Addr) (m d : Nat) (k : List UInt8), absV w v = .agg #[.slice A n c, .slice B m d] ∧ Row w.heap.size (m0 w).get 1 A n (l.map u8V) ∧ n ≤ c ∧ Row w.heap.size (m0 w).get 1 B m (k.map u8V) ∧ m ≤ d := by
  obtain ⟨a, b, n, rfl, h0, h1⟩ := open_two ht hc hct hval hd
  obtain ⟨_, A, n, c, l, e0, e1, e2, e3⟩ := h0.bytes he he' hc'
  obtain ⟨_, B, m, d, k, f0, f1, f2, f3⟩ := h1.bytes he he' hc'
  injection e0 with e0
  injection f0 with f0
  subst e0 f0
  exact ⟨A, n, c, l, B, m, d, k, by simp [absV, e1, f1], e3, e2, f3, f2⟩
end
theorem list2 {zs : List Int} (h : zs.length = 2) : ∃ a b, zs = [a, b] := by
  match zs, h with
  | [a, b], _ => exact ⟨a, b, rfl⟩
end Go.Ga

/- A slice of slices of bytes that a law is given. -/
namespace Go.Ga
open Go

/-- Slices of bytes in a row. -/
def RowB (nx : Nat) (gt : Nat → Option Blk) (A : Option Addr) (n : Nat) (ls : List (List UInt8)) : Prop := ls.length = n ∧ (∀ a, A = some a → a.spot = none ∨ a.spot = some 1) ∧ (0 < n → ∃ a ce ro, A = some a ∧ a.block < nx ∧ gt a.block = some (.cells ce ro) ∧ a.off + n ≤ ce.length ∧
  ∀ i, i < n → ∃ B m d, ce.getD (a.off + i) undef = .slice B m d ∧ m ≤ d ∧ Row nx gt 1 B m ((ls.getD i []).map u8V))
theorem RowB.keep {nx gt A n ls nx' gt'} (h : RowB nx gt A n ls) (h1 : nx ≤ nx') (h2 : ∀ p, p < nx → gt' p = gt p) : RowB nx' gt' A n ls := by
  refine ⟨h.1, h.2.1, fun h0 => ?_⟩
  obtain ⟨a, ce, ro, e1, e2, e3, e4, e5⟩ := h.2.2 h0
  refine ⟨a, ce, ro, e1, by omega, by rw [h2 _ e2, e3], e4, fun i hi => ?_⟩
  obtain ⟨B, m, d, f1, f2, f3⟩ := e5 i hi
  exact ⟨B, m, d, f1, f2, f3.keep h1 h2⟩

section
variable {H : Type} {enc : TypeId × Value → H} {P : Program} {w : World} {held : Bool} {t : TypeId}

theorem open_lbytes {e e' : TypeId} (ht : P.underlying t = some (.slice e)) (he : P.underlying e = some (.slice e')) (he' : P.underlying e' = some (.int .u8)) (hc : P.cellsOf e = 1) (hc' : P.cellsOf e' = 1) {r : Reach} {b0 : Nat} {v : Value} {d : DataW H} {ps : List MemPlace} (hval : Value.okWide P w r b0 t v) (hd : DataW.Trod enc P w 0 (fun _ => true) held t v d ps) :
    ∃ (A : Option Addr) (n c : Nat) (ls : List (List UInt8)), absV w v = .slice A n c ∧ RowB w.heap.size (m0 w).get A n ls ∧ n ≤ c := by
  obtain ⟨a, len, cap, rfl⟩ := WideShapes.okWide_slice ht hval
  obtain ⟨fuel, hf⟩ := hd
  obtain ⟨n, v, A, len', cap', l, _, h1, h2, h3, h4, h5, h6⟩ := Shp.slice ht (by omega) ⟨_, hf⟩
  have hv : v = .slice a len cap := by
    simp only [Value.cells] at h1
    injection h1 with h1
    exact h1.symm
  subst hv
  rw [hc, Nat.mul_one] at h4 h5
  have hB : ∀ i, i < len' → ∃ (B : Option Addr) (m d : Nat) (k : List UInt8), (l.map (absC w)).getD i undef = .slice B m d ∧ m ≤ d ∧ Row w.heap.size (m0 w).get 1 B m (k.map u8V) := fun i hi => by
    obtain ⟨v', B, m, d, k, e1, e2, e3, e4⟩ := (h6 i hi).bytes he he' hc'
    have e1' : l[i]'(by omega) = v' := by
      rw [hc, Nat.mul_one, take_one (by omega)] at e1
      simpa using e1
    refine ⟨B, m, d, k, ?_, e3, e4⟩
    rw [List.getD_eq_getElem?_getD, List.getElem?_map, List.getElem?_eq_getElem (show i < l.length by omega), e1']
    exact e2
  have hls : ∃ ls : List (List UInt8), ls.length = len' ∧ ∀ i, i < len' → ∃ (B : Option Addr) (m d : Nat), (l.map (absC w)).getD i undef = .slice B m d ∧ m ≤ d ∧ Row w.heap.size (m0 w).get 1 B m ((ls.getD i []).map u8V) := by
    have key : ∀ k, k ≤ len' → ∃ ls : List (List UInt8), ls.length = k ∧ ∀ i, i < k → ∃ (B : Option Addr) (m d : Nat), (l.map (absC w)).getD i undef = .slice B m d ∧ m ≤ d ∧ Row w.heap.size (m0 w).get 1 B m ((ls.getD i []).map u8V) := by
      intro k
      induction k with
      | zero => intro _; exact ⟨[], rfl, fun i hi => absurd hi (Nat.not_lt_zero i)⟩
      | succ k ih =>
        intro hk
        obtain ⟨ls, e1, e2⟩ := ih (by omega)
        obtain ⟨B, m, d, x, f1, f2, f3⟩ := hB k (by omega)
        refine ⟨ls ++ [x], by simp [e1], fun i hi => ?_⟩
        rcases Nat.lt_or_ge i k with h | h
        · obtain ⟨B, m, d, g1, g2, g3⟩ := e2 i h
          refine ⟨B, m, d, g1, g2, ?_⟩
          rw [List.getD_eq_getElem?_getD, List.getElem?_append_left (by omega), ← List.getD_eq_getElem?_getD]
          exact g3
        · have : i = k := by omega
          subst this
          refine ⟨B, m, d, f1, f2, ?_⟩
          rw [List.getD_eq_getElem?_getD, List.getElem?_append_right (by omega), e1, Nat.sub_self]
          exact f3
    exact key len' (Nat.le_refl _)
  obtain ⟨ls, e1, e2⟩ := hls
  refine ⟨A, len', cap', ls, h2, ⟨e1, fun a ha => h4.spot a ha, fun h0 => ?_⟩, h3⟩
  obtain ⟨a, ce, ro, g1, g2, g3, g4, g5⟩ := h4.cells h0
  refine ⟨a, ce, ro, g1, g2, g3, g4, fun i hi => ?_⟩
  rw [g5 i hi]
  exact e2 i hi
end
end Go.Ga

/- A key and a hash that a law is given. -/
namespace Go.Ga
open Go

section
variable {H : Type} {enc : TypeId × Value → H} {P : Program} {w : World} {held : Bool} {t : TypeId}

theorem open_hash {m : Nat} {e : TypeId} (ht : P.underlying t = some (.array m e)) (he : P.underlying e = some (.int .u8)) (hc : P.cellsOf e = 1) (hct : P.cellsOf t = m) {r : Reach} {b0 : Nat} {v : Value} {d : DataW H} {ps : List MemPlace} (hval : Value.okWide P w r b0 t v) (hd : DataW.Trod enc P w 0 (fun _ => true) held t v d ps) :
    ∃ l : List UInt8, absV w v = .agg (l.map u8V).toArray ∧ l.length = m := by
  obtain ⟨zs, rfl, hl, hw, _, _⟩ := open_arrI (k := .u8) ht he hc hct hval hd
  refine ⟨zs.map fun z => UInt8.ofNat z.toNat, ?_, by simp [hl]⟩
  rw [absV_arr, List.map_map]
  congr 2
  refine List.map_congr_left fun z hz => ?_
  obtain ⟨b1, b2⟩ := wf_u8 (hw z hz)
  simp only [Function.comp, u8V]
  rw [UInt8.toNat_ofNat']
  congr 1
  omega

/-- A structure of bytes and a word. -/
theorem open_key {fs : Array Field} {t0 t1 e : TypeId} (ht : P.underlying t = some (.struct fs)) (ht0 : P.underlying t0 = some (.slice e)) (he : P.underlying e = some (.int .u8)) (ht1 : P.underlying t1 = some (.int .u32)) (h0 : (fs[0]?).map (fun f => (f.type, f.offset)) = some (t0, 0)) (h1 : (fs[1]?).map (fun f => (f.type, f.offset)) = some (t1, 1))
    (hc : P.cellsOf e = 1) (hc0 : P.cellsOf t0 = 1) (hc1 : P.cellsOf t1 = 1) (hct : P.cellsOf t = 2)
    {r : Reach} {b0 : Nat} {v : Value} {d : DataW H} {ps : List MemPlace} (hval : Value.okWide P w r b0 t v) (hd : DataW.Trod enc P w 0 (fun _ => true) held t v d ps) :
    ∃ (A : Option Addr) (n c : Nat) (l : List UInt8) (E : Nat), absV w v = .agg #[.slice A n c, .int .u32 (E : Nat)] ∧ Row w.heap.size (m0 w).get 1 A n (l.map u8V) ∧ n ≤ c ∧ E < 4294967296 := by
  simp only [Value.okWide, ht] at hval
  obtain ⟨cs, rfl, hcs, _⟩ := hval
  obtain ⟨fuel, hf⟩ := hd
  obtain ⟨n, rfl, hl, h⟩ := Shp.struct ht ⟨_, hf⟩
  simp only [Option.map_eq_some_iff] at h0 h1
  obtain ⟨f0, e0, e0'⟩ := h0
  obtain ⟨f1, e1, e1'⟩ := h1
  injection e0' with a0 b0
  injection e1' with a1 b1
  have g0 := h 0 f0 e0
  have g1 := h 1 f1 e1
  simp only [Value.cells] at hl g0 g1
  rw [hct] at hl
  rw [a0, b0, hc0, take_one (by omega)] at g0
  rw [a1, b1, hc1, take_one (by omega)] at g1
  obtain ⟨_, A, n, c, l, q0, q1, q2, q3⟩ := g0.bytes ht0 he hc
  obtain ⟨z, z1, z2⟩ := g1.int ht1
  obtain ⟨b1, b2⟩ := wf_u32 z2
  injection q0 with q0
  injection z1 with z1
  refine ⟨A, n, c, l, z.toNat, ?_, q3, q2, by omega⟩
  have hcs2 : cs = #[cs.toList[0], cs.toList[1]] := by
    apply Array.ext'
    exact list_two hl (take_one (by omega)) (take_one (by omega))
  have hz : (z.toNat : Int) = z := by omega
  have i1 : absC w (.int .u32 z) = .int .u32 z := by simp [absC, goodV]
  rw [q0, z1] at hcs2
  rw [hcs2]
  simp [absV, q1, i1, hz]
end
end Go.Ga
