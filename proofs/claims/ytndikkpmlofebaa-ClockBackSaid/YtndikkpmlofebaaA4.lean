/- Words and contracts of functions for the statement's proof. No condition. -/
import Derived.Test.YtndikkpmlofebaaA3
import Derived.Test.YtndikkpmlofebaaProg
import Derived.KernelRfl
import Derived.WalkKit
import Derived.ProofKit
import Derived.DataShut
set_option linter.all false

namespace Go.Ga
open Go Go.Proofs
set_option linter.unusedSimpArgs false
set_option linter.unusedVariables false
set_option maxRecDepth 100000

theorem ct_right {nx : Nat} {gt : Nat → Option Blk} {d0 d1 d2 d3 d4 d5 : Int} :
    Ct Try.prog 46 [.agg #[.int .i64 d0, .int .i64 d1, .int .i64 d2, .int .i64 d3, .int .i64 d4, .int .i64 d5]] nx gt fun v _ _ => v = .bool (okD d0 d1 d2 d3 d4 d5) := by
  refine Ct.of hmx r_lanyardref03_right (by simp [c_lanyardref03_right]) fun b hb => ?_
  have bad : ∀ {nx' : Nat} {gt' : Nat → Option Blk}, nx ≤ nx' → (∀ i, i < nx → gt' i = gt i) → okD d0 d1 d2 d3 d4 d5 = false → nx ≤ nx' ∧ (∀ i, i < nx → gt' i = gt i) ∧ (Value.bool false) = .bool (okD d0 d1 d2 d3 d4 d5) :=
    fun h1 h2 h3 => ⟨h1, h2, by rw [h3]⟩
  have old : ∀ (l : Option Blk) i, i < nx → (if i = nx then l else gt i) = gt i := fun l i hi => by rw [if_neg (by omega)]
  by_cases a0 : d0 < 1950
  · have hf : okD d0 d1 d2 d3 d4 d5 = false := by simp only [okD, inB, Bool.and_eq_false_iff, decide_eq_false_iff_not]; omega
    simp only [c_lanyardref03_right, ↓gaW, ↓gaC, ↓gaN, gaP, Nat.reduceEqDiff, Nat.reduceLeDiff, Nat.reduceAdd, Nat.reduceSub, Nat.reduceMul, Int.reduceLT, Int.reduceLE, Int.reduceEq, Int.reduceToNat, Int.reduceAdd, Int.reduceSub, Int.reduceMul, reduceCtorEq, ↓reduceIte, gaE, List.getD_cons_zero, List.getD_cons_succ, a0, decide_true, decide_false, hf]
    repeat refine And.intro (by omega) ?_
    exact old _
  by_cases a1 : 2199 < d0
  · have hf : okD d0 d1 d2 d3 d4 d5 = false := by simp only [okD, inB, Bool.and_eq_false_iff, decide_eq_false_iff_not]; omega
    simp only [c_lanyardref03_right, ↓gaW, ↓gaC, ↓gaN, gaP, Nat.reduceEqDiff, Nat.reduceLeDiff, Nat.reduceAdd, Nat.reduceSub, Nat.reduceMul, Int.reduceLT, Int.reduceLE, Int.reduceEq, Int.reduceToNat, Int.reduceAdd, Int.reduceSub, Int.reduceMul, reduceCtorEq, ↓reduceIte, gaE, List.getD_cons_zero, List.getD_cons_succ, a0, a1, decide_true, decide_false, hf]
    repeat refine And.intro (by omega) ?_
    exact old _
  by_cases a2 : d1 < 1
  · have hf : okD d0 d1 d2 d3 d4 d5 = false := by simp only [okD, inB, Bool.and_eq_false_iff, decide_eq_false_iff_not]; omega
    simp only [c_lanyardref03_right, ↓gaW, ↓gaC, ↓gaN, gaP, Nat.reduceEqDiff, Nat.reduceLeDiff, Nat.reduceAdd, Nat.reduceSub, Nat.reduceMul, Int.reduceLT, Int.reduceLE, Int.reduceEq, Int.reduceToNat, Int.reduceAdd, Int.reduceSub, Int.reduceMul, reduceCtorEq, ↓reduceIte, gaE, List.getD_cons_zero, List.getD_cons_succ, a0, a1, a2, decide_true, decide_false, hf]
    repeat refine And.intro (by omega) ?_
    exact old _
  by_cases a3 : 12 < d1
  · have hf : okD d0 d1 d2 d3 d4 d5 = false := by simp only [okD, inB, Bool.and_eq_false_iff, decide_eq_false_iff_not]; omega
    simp only [c_lanyardref03_right, ↓gaW, ↓gaC, ↓gaN, gaP, Nat.reduceEqDiff, Nat.reduceLeDiff, Nat.reduceAdd, Nat.reduceSub, Nat.reduceMul, Int.reduceLT, Int.reduceLE, Int.reduceEq, Int.reduceToNat, Int.reduceAdd, Int.reduceSub, Int.reduceMul, reduceCtorEq, ↓reduceIte, gaE, List.getD_cons_zero, List.getD_cons_succ, a0, a1, a2, a3, decide_true, decide_false, hf]
    repeat refine And.intro (by omega) ?_
    exact old _
  by_cases b0 : 1 ≤ d2
  rotate_left
  · have hf : okD d0 d1 d2 d3 d4 d5 = false := by simp only [okD, inB, Bool.and_eq_false_iff, decide_eq_false_iff_not]; omega
    simp only [c_lanyardref03_right, ↓gaW, ↓gaC, ↓gaN, gaP, Nat.reduceEqDiff, Nat.reduceLeDiff, Nat.reduceAdd, Nat.reduceSub, Nat.reduceMul, Int.reduceLT, Int.reduceLE, Int.reduceEq, Int.reduceToNat, Int.reduceAdd, Int.reduceSub, Int.reduceMul, reduceCtorEq, ↓reduceIte, gaE, List.getD_cons_zero, List.getD_cons_succ, a0, a1, a2, a3, b0, decide_true, decide_false, hf]
    repeat refine And.intro (by omega) ?_
    exact old _
  simp only [c_lanyardref03_right, ↓gaW, ↓gaC, ↓gaN, gaP, Nat.reduceEqDiff, Nat.reduceLeDiff, Nat.reduceAdd, Nat.reduceSub, Nat.reduceMul, Int.reduceLT, Int.reduceLE, Int.reduceEq, Int.reduceToNat, Int.reduceAdd, Int.reduceSub, Int.reduceMul, reduceCtorEq, ↓reduceIte, List.getD_cons_zero, List.getD_cons_succ, a0, a1, a2, a3, b0, decide_true, decide_false]
  repeat refine And.intro (by omega) ?_
  refine callQ_of (ct_rlast (by omega) (by omega)) (fun v n1 g1 l1 k1 hC => ?_)
  subst hC
  have c1 : g1 nx = some (.cells [.int .i64 d0, .int .i64 d1, .int .i64 d2, .int .i64 d3, .int .i64 d4, .int .i64 d5] false) := by rw [k1 nx (by omega)]; simp only [upd_e, if_true]
  have o1 : ∀ i, i < nx → g1 i = gt i := fun i hi => by rw [k1 i (by omega)]; simp only [upd_e]; rw [if_neg (by omega)]
  by_cases b1 : d2 ≤ lastI d0 d1
  rotate_left
  · have hf : okD d0 d1 d2 d3 d4 d5 = false := by simp only [okD, inB, Bool.and_eq_false_iff, decide_eq_false_iff_not]; omega
    simp only [↓gaW, ↓gaC, ↓gaN, gaP, Nat.reduceEqDiff, Nat.reduceLeDiff, Nat.reduceAdd, Nat.reduceSub, Nat.reduceMul, Int.reduceLT, Int.reduceLE, Int.reduceEq, Int.reduceToNat, Int.reduceAdd, Int.reduceSub, Int.reduceMul, reduceCtorEq, ↓reduceIte, gaE, List.getD_cons_zero, List.getD_cons_succ, c1, b0, b1, decide_true, decide_false, hf]
    repeat refine And.intro (by omega) ?_
    first | done | exact o1 | exact ⟨by omega, o1⟩
  by_cases b2 : 0 ≤ d3
  rotate_left
  · have hf : okD d0 d1 d2 d3 d4 d5 = false := by simp only [okD, inB, Bool.and_eq_false_iff, decide_eq_false_iff_not]; omega
    simp only [↓gaW, ↓gaC, ↓gaN, gaP, Nat.reduceEqDiff, Nat.reduceLeDiff, Nat.reduceAdd, Nat.reduceSub, Nat.reduceMul, Int.reduceLT, Int.reduceLE, Int.reduceEq, Int.reduceToNat, Int.reduceAdd, Int.reduceSub, Int.reduceMul, reduceCtorEq, ↓reduceIte, gaE, List.getD_cons_zero, List.getD_cons_succ, c1, b0, b1, b2, decide_true, decide_false, hf]
    repeat refine And.intro (by omega) ?_
    first | done | exact o1 | exact ⟨by omega, o1⟩
  by_cases b3 : d3 < 24
  rotate_left
  · have hf : okD d0 d1 d2 d3 d4 d5 = false := by simp only [okD, inB, Bool.and_eq_false_iff, decide_eq_false_iff_not]; omega
    simp only [↓gaW, ↓gaC, ↓gaN, gaP, Nat.reduceEqDiff, Nat.reduceLeDiff, Nat.reduceAdd, Nat.reduceSub, Nat.reduceMul, Int.reduceLT, Int.reduceLE, Int.reduceEq, Int.reduceToNat, Int.reduceAdd, Int.reduceSub, Int.reduceMul, reduceCtorEq, ↓reduceIte, gaE, List.getD_cons_zero, List.getD_cons_succ, c1, b0, b1, b2, b3, decide_true, decide_false, hf]
    repeat refine And.intro (by omega) ?_
    first | done | exact o1 | exact ⟨by omega, o1⟩
  by_cases b4 : 0 ≤ d4
  rotate_left
  · have hf : okD d0 d1 d2 d3 d4 d5 = false := by simp only [okD, inB, Bool.and_eq_false_iff, decide_eq_false_iff_not]; omega
    simp only [↓gaW, ↓gaC, ↓gaN, gaP, Nat.reduceEqDiff, Nat.reduceLeDiff, Nat.reduceAdd, Nat.reduceSub, Nat.reduceMul, Int.reduceLT, Int.reduceLE, Int.reduceEq, Int.reduceToNat, Int.reduceAdd, Int.reduceSub, Int.reduceMul, reduceCtorEq, ↓reduceIte, gaE, List.getD_cons_zero, List.getD_cons_succ, c1, b0, b1, b2, b3, b4, decide_true, decide_false, hf]
    repeat refine And.intro (by omega) ?_
    first | done | exact o1 | exact ⟨by omega, o1⟩
  by_cases b5 : d4 < 60
  rotate_left
  · have hf : okD d0 d1 d2 d3 d4 d5 = false := by simp only [okD, inB, Bool.and_eq_false_iff, decide_eq_false_iff_not]; omega
    simp only [↓gaW, ↓gaC, ↓gaN, gaP, Nat.reduceEqDiff, Nat.reduceLeDiff, Nat.reduceAdd, Nat.reduceSub, Nat.reduceMul, Int.reduceLT, Int.reduceLE, Int.reduceEq, Int.reduceToNat, Int.reduceAdd, Int.reduceSub, Int.reduceMul, reduceCtorEq, ↓reduceIte, gaE, List.getD_cons_zero, List.getD_cons_succ, c1, b0, b1, b2, b3, b4, b5, decide_true, decide_false, hf]
    repeat refine And.intro (by omega) ?_
    first | done | exact o1 | exact ⟨by omega, o1⟩
  by_cases b6 : 0 ≤ d5
  rotate_left
  · have hf : okD d0 d1 d2 d3 d4 d5 = false := by simp only [okD, inB, Bool.and_eq_false_iff, decide_eq_false_iff_not]; omega
    simp only [↓gaW, ↓gaC, ↓gaN, gaP, Nat.reduceEqDiff, Nat.reduceLeDiff, Nat.reduceAdd, Nat.reduceSub, Nat.reduceMul, Int.reduceLT, Int.reduceLE, Int.reduceEq, Int.reduceToNat, Int.reduceAdd, Int.reduceSub, Int.reduceMul, reduceCtorEq, ↓reduceIte, gaE, List.getD_cons_zero, List.getD_cons_succ, c1, b0, b1, b2, b3, b4, b5, b6, decide_true, decide_false, hf]
    repeat refine And.intro (by omega) ?_
    first | done | exact o1 | exact ⟨by omega, o1⟩
  by_cases b7 : d5 < 60
  rotate_left
  · have hf : okD d0 d1 d2 d3 d4 d5 = false := by simp only [okD, inB, Bool.and_eq_false_iff, decide_eq_false_iff_not]; omega
    simp only [↓gaW, ↓gaC, ↓gaN, gaP, Nat.reduceEqDiff, Nat.reduceLeDiff, Nat.reduceAdd, Nat.reduceSub, Nat.reduceMul, Int.reduceLT, Int.reduceLE, Int.reduceEq, Int.reduceToNat, Int.reduceAdd, Int.reduceSub, Int.reduceMul, reduceCtorEq, ↓reduceIte, gaE, List.getD_cons_zero, List.getD_cons_succ, c1, b0, b1, b2, b3, b4, b5, b6, b7, decide_true, decide_false, hf]
    repeat refine And.intro (by omega) ?_
    first | done | exact o1 | exact ⟨by omega, o1⟩
  have hf : okD d0 d1 d2 d3 d4 d5 = true := by simp only [okD, inB, Bool.and_eq_true, decide_eq_true_eq]; omega
  simp only [↓gaW, ↓gaC, ↓gaN, gaP, Nat.reduceEqDiff, Nat.reduceLeDiff, Nat.reduceAdd, Nat.reduceSub, Nat.reduceMul, Int.reduceLT, Int.reduceLE, Int.reduceEq, Int.reduceToNat, Int.reduceAdd, Int.reduceSub, Int.reduceMul, reduceCtorEq, ↓reduceIte, gaE, List.getD_cons_zero, List.getD_cons_succ, c1, b0, b1, b2, b3, b4, b5, b6, b7, decide_true, decide_false, hf]
  repeat refine And.intro (by omega) ?_
  first | done | exact o1 | exact ⟨by omega, o1⟩

theorem ct_rSeconds {nx : Nat} {gt : Nat → Option Blk} {d0 d1 d2 d3 d4 d5 : Int} :
    Ct Try.prog 28 [.agg #[.int .i64 d0, .int .i64 d1, .int .i64 d2, .int .i64 d3, .int .i64 d4, .int .i64 d5]] nx gt fun v _ _ => v = SecV d0 d1 d2 d3 d4 d5 := by
  refine Ct.of hmx r_lanyardref03_Seconds (by simp [c_lanyardref03_Seconds]) fun b hb => ?_
  simp only [c_lanyardref03_Seconds, ↓gaW, ↓gaC, ↓gaN, gaP, Nat.reduceEqDiff, Nat.reduceLeDiff, Nat.reduceAdd, Nat.reduceSub, Nat.reduceMul, Int.reduceLT, Int.reduceLE, Int.reduceEq, Int.reduceToNat, Int.reduceAdd, Int.reduceSub, Int.reduceMul, reduceCtorEq, ↓reduceIte, List.drop_zero, List.take_succ_cons, List.take_zero]
  refine callK_of ct_right (fun v n1 g1 l1 k1 hC => ?_) (by omega)
  subst hC
  have c1 : g1 nx = some (.cells [.int .i64 d0, .int .i64 d1, .int .i64 d2, .int .i64 d3, .int .i64 d4, .int .i64 d5] false) := by rw [k1 nx (by omega)]; simp only [upd_e, if_true]
  have o1 : ∀ i, i < nx → g1 i = gt i := fun i hi => by rw [k1 i (by omega)]; simp only [upd_e]; rw [if_neg (by omega)]
  cases hf : okD d0 d1 d2 d3 d4 d5 with
  | false =>
    simp only [↓gaW, ↓gaC, ↓gaN, gaP, Nat.reduceEqDiff, Nat.reduceLeDiff, Nat.reduceAdd, Nat.reduceSub, Nat.reduceMul, Int.reduceLT, Int.reduceLE, Int.reduceEq, Int.reduceToNat, Int.reduceAdd, Int.reduceSub, Int.reduceMul, reduceCtorEq, ↓reduceIte, gaE]
    exact ⟨by omega, o1, by rw [SecV, hf, if_neg (by decide)]⟩
  | true =>
  have hf' := hf
  simp only [okD, inB, Bool.and_eq_true, decide_eq_true_eq] at hf'
  obtain ⟨⟨a0, a1⟩, ⟨a2, a3⟩, ⟨a4, a5⟩, ⟨a6, a7⟩, ⟨a8, a9⟩, a10, a11⟩ := hf'
  have lb := lastI_bd (y := d0) a2 a3
  simp only [↓gaW, ↓gaC, ↓gaN, gaP, Nat.reduceEqDiff, Nat.reduceLeDiff, Nat.reduceAdd, Nat.reduceSub, Nat.reduceMul, Int.reduceLT, Int.reduceLE, Int.reduceEq, Int.reduceToNat, Int.reduceAdd, Int.reduceSub, Int.reduceMul, reduceCtorEq, ↓reduceIte, c1, List.getD_cons_zero, List.getD_cons_succ]
  repeat refine And.intro (by omega) ?_
  refine callK_of (ct_days (by omega) (by omega) (by omega)) (fun v n2 g2 l2 k2 hC => ?_) (by omega)
  subst hC
  simp only [↓gaW, ↓gaC, ↓gaN, gaP, Nat.reduceEqDiff, Nat.reduceLeDiff, Nat.reduceAdd, Nat.reduceSub, Nat.reduceMul, Int.reduceLT, Int.reduceLE, Int.reduceEq, Int.reduceToNat, Int.reduceAdd, Int.reduceSub, Int.reduceMul, reduceCtorEq, ↓reduceIte]
  refine callK_of (ct_days (by omega) (by omega) (by omega)) (fun v n3 g3 l3 k3 hC => ?_) (by omega)
  subst hC
  have c3 : g3 nx = _ := (k3 nx (by omega)).trans ((k2 nx (by omega)).trans c1)
  have o3 : ∀ i, i < nx → g3 i = gt i := fun i hi => by rw [k3 i (by omega), k2 i (by omega), o1 i hi]
  have yb := yearsR_bd (d0 - 1950).toNat
  have mb := monthsR_bd d0 (d1 - 1).toNat (by omega)
  have db : 0 ≤ dayR d0 d1 d2 ∧ dayR d0 d1 d2 ≤ 100000 := by rw [dayR]; omega
  have hc := dayC_eq (d := d2) ⟨a0, a1⟩ ⟨a2, a3⟩
  rw [dayR_1970]
  simp (disch := omega) only [↓gaW, ↓gaC, ↓gaN, gaP, Nat.reduceEqDiff, Nat.reduceLeDiff, Nat.reduceAdd, Nat.reduceSub, Nat.reduceMul, Int.reduceLT, Int.reduceLE, Int.reduceEq, Int.reduceToNat, Int.reduceAdd, Int.reduceSub, Int.reduceMul, reduceCtorEq, ↓reduceIte, gaE, c3, List.getD_cons_zero, List.getD_cons_succ, i64_w]
  repeat refine And.intro (by omega) ?_
  rw [SecV, if_pos hf, secI, hc]
end Go.Ga

namespace Go.Ga
open Go Go.Proofs
set_option linter.unusedSimpArgs false
set_option linter.unusedVariables false
set_option maxRecDepth 100000

/-! ### The date of a day, in whole numbers from the first of March of the year 0 -/
def yearN (r : Nat) : Nat := (r - r / 1460 + r / 36524 - r / 146096) / 365
def restN (r : Nat) : Nat := r - (yearN r * 365 + yearN r / 4 - yearN r / 100)
def monN (r : Nat) : Nat := (5 * restN r + 2) / 153
def dN (r : Nat) : Nat := restN r - (153 * monN r + 2) / 5 + 1
def lastN (y m : Nat) : Nat := if m = 2 ∧ (y % 4 = 0 ∧ y % 100 ≠ 0 ∨ y % 400 = 0) then 29 else [31, 28, 31, 30, 31, 30, 31, 31, 30, 31, 30, 31].getD (m - 1) 0
def yN (n : Nat) : Nat := if 9 < monN (n % 146097) then n / 146097 * 400 + yearN (n % 146097) + 1 else n / 146097 * 400 + yearN (n % 146097)
def mN (n : Nat) : Nat := if 9 < monN (n % 146097) then monN (n % 146097) - 9 else monN (n % 146097) + 3
def dayN (y m d : Nat) : Nat := if m < 3 then (y - 1) / 400 * 146097 + (y - 1) % 400 * 365 + (y - 1) % 400 / 4 - (y - 1) % 400 / 100 + (153 * (m + 9) + 2) / 5 + d - 1 else y / 400 * 146097 + y % 400 * 365 + y % 400 / 4 - y % 400 / 100 + (153 * (m - 3) + 2) / 5 + d - 1
def checkN (n : Nat) : Bool :=
  let r := n % 146097
  Nat.ble (yearN r / 4) (yearN r * 365 + yearN r / 4) && Nat.ble (yearN r * 365 + yearN r / 4 - yearN r / 100) r && Nat.ble ((153 * monN r + 2) / 5) (restN r) &&
  Nat.ble 1950 (yN n) && Nat.ble (yN n) 2199 && Nat.ble 1 (mN n) && Nat.ble (mN n) 12 && Nat.ble 1 (dN r) && Nat.ble (dN r) (lastN (yN n) (mN n)) && Nat.beq (dayN (yN n) (mN n) (dN r)) n
def checkAll : Nat → Nat → Bool
  | 0, _ => true
  | k + 1, n => checkN n && checkAll k (n + 1)
theorem checkAll_get : ∀ k n, checkAll k n = true → ∀ i, i < k → checkN (n + i) = true := by
  intro k
  induction k with
  | zero => intro n _ i hi; omega
  | succ k ih =>
    intro n h i hi
    simp only [checkAll, Bool.and_eq_true] at h
    rcases i with _ | i
    · exact h.1
    · have := ih (n + 1) h.2 i (by omega)
      rwa [show n + 1 + i = n + (i + 1) by omega] at this
def checkM : Nat → Nat → Bool
  | 0, _ => true
  | a + 1, n => checkAll 1000 n && checkM a (n + 1000)
theorem checkM_get : ∀ k n, checkM k n = true → ∀ i, i < 1000 * k → checkN (n + i) = true := by
  intro k
  induction k with
  | zero => intro n _ i h; omega
  | succ k ih =>
    intro n h i hi
    simp only [checkM, Bool.and_eq_true] at h
    by_cases e : i < 1000
    · exact checkAll_get 1000 n h.1 i e
    · have := ih (n + 1000) h.2 (i - 1000) (by omega)
      rwa [show n + 1000 + (i - 1000) = n + i by omega] at this
theorem check_0 : checkM 10 712163 = true := by decide +kernel
theorem check_1 : checkM 10 722163 = true := by decide +kernel
theorem check_2 : checkM 10 732163 = true := by decide +kernel
theorem check_3 : checkM 10 742163 = true := by decide +kernel
theorem check_4 : checkM 10 752163 = true := by decide +kernel
theorem check_5 : checkM 10 762163 = true := by decide +kernel
theorem check_6 : checkM 10 772163 = true := by decide +kernel
theorem check_7 : checkM 10 782163 = true := by decide +kernel
theorem check_8 : checkM 10 792163 = true := by decide +kernel
theorem check_9 : checkM 1 802163 = true := by decide +kernel
theorem check_r : checkAll 311 803163 = true := by decide +kernel
theorem check_get {n : Nat} (h1 : 712163 ≤ n) (h2 : n < 803474) : checkN n = true := by
  obtain ⟨i, rfl⟩ : ∃ i, n = 712163 + i := ⟨n - 712163, by omega⟩
  by_cases h10 : i < 10000
  · have := checkM_get 10 712163 check_0 (i - 0) (by omega)
    rwa [show 712163 + (i - 0) = 712163 + i by omega] at this
  by_cases h11 : i < 20000
  · have := checkM_get 10 722163 check_1 (i - 10000) (by omega)
    rwa [show 722163 + (i - 10000) = 712163 + i by omega] at this
  by_cases h12 : i < 30000
  · have := checkM_get 10 732163 check_2 (i - 20000) (by omega)
    rwa [show 732163 + (i - 20000) = 712163 + i by omega] at this
  by_cases h13 : i < 40000
  · have := checkM_get 10 742163 check_3 (i - 30000) (by omega)
    rwa [show 742163 + (i - 30000) = 712163 + i by omega] at this
  by_cases h14 : i < 50000
  · have := checkM_get 10 752163 check_4 (i - 40000) (by omega)
    rwa [show 752163 + (i - 40000) = 712163 + i by omega] at this
  by_cases h15 : i < 60000
  · have := checkM_get 10 762163 check_5 (i - 50000) (by omega)
    rwa [show 762163 + (i - 50000) = 712163 + i by omega] at this
  by_cases h16 : i < 70000
  · have := checkM_get 10 772163 check_6 (i - 60000) (by omega)
    rwa [show 772163 + (i - 60000) = 712163 + i by omega] at this
  by_cases h17 : i < 80000
  · have := checkM_get 10 782163 check_7 (i - 70000) (by omega)
    rwa [show 782163 + (i - 70000) = 712163 + i by omega] at this
  by_cases h18 : i < 90000
  · have := checkM_get 10 792163 check_8 (i - 80000) (by omega)
    rwa [show 792163 + (i - 80000) = 712163 + i by omega] at this
  by_cases h19 : i < 91000
  · have := checkM_get 1 802163 check_9 (i - 90000) (by omega)
    rwa [show 802163 + (i - 90000) = 712163 + i by omega] at this
  · have := checkAll_get 311 _ check_r (i - 91000) (by omega)
    rwa [show 803163 + (i - 91000) = 712163 + i by omega] at this
end Go.Ga

namespace Go.Ga
open Go Go.Proofs
set_option linter.unusedSimpArgs false
set_option linter.unusedVariables false
set_option maxRecDepth 100000

theorem res_cN {f : Regs} {x b : Nat} {g : Nat → Option Blk} {i n q : Nat} {c : List Value} {ro : Bool} {l : List RVar} (h : f i = .pointer (some ⟨q, 0, none⟩)) (hg : g q = some (.cells c ro)) (hn : n ≤ c.length) :
    resVals f ⟨x, b, g⟩ (.cN i n :: l) = (resVals f ⟨x, b, g⟩ l).map (.agg (c.take n).toArray :: ·) := by
  simp [resVals, h, hg, hn]

theorem end_cNt {f : Regs} {x b' b nx : Nat} {g gt : Nat → Option Blk} {i n j q : Nat} {C} (c : List Value) {ro : Bool} (h : f i = .pointer (some ⟨q, 0, none⟩)) (hg : g q = some (.cells c ro)) (hn : n ≤ c.length)
    (h2 : b' = b ∧ nx ≤ x ∧ (∀ i, i < nx → g i = gt i) ∧ C (.tuple #[.agg (c.take n).toArray, f j]) x g) : endK [.cN i n, .t j] b nx gt C .ret f ⟨x, b', g⟩ := by
  rw [end_r, res_cN h hg hn]
  exact h2

/-- What 'Date' answers. -/
def DateV (s : Int) (v : Value) : Prop :=
  if -631152000 ≤ s ∧ s ≤ 7258118399 then ∃ d0 d1 d2 d3 d4 d5, okD d0 d1 d2 d3 d4 d5 = true ∧ secI d0 d1 d2 d3 d4 d5 = s ∧ v = .tuple #[.agg #[.int .i64 d0, .int .i64 d1, .int .i64 d2, .int .i64 d3, .int .i64 d4, .int .i64 d5], .bool true]
  else v = .tuple #[.agg #[.int .i64 0, .int .i64 0, .int .i64 0, .int .i64 0, .int .i64 0, .int .i64 0], .bool false]

theorem yearsR_mono (k : Nat) : yearsR k + 365 ≤ yearsR (k + 1) := by
  simp only [yearsR]; split <;> omega
theorem dayR_11 (k : Nat) : dayR (1950 + (k : Nat)) 1 1 = yearsR k := by
  have e : (1950 + (k : Int) - 1950).toNat = k := by omega
  simp only [dayR, e]
  show 1 - 1 + yearsR k + monthsR _ 0 = _
  simp only [monthsR]; omega
theorem yearsR_250 : yearsR 250 = 91311 := by decide +kernel
theorem months_year (k : Nat) : monthsR (1950 + (k : Nat)) 12 = yearsR (k + 1) - yearsR k := by
  have h : ∀ L : Bool, leapB (1950 + (k : Nat)) = L → monthsR (1950 + (k : Nat)) 12 = 365 + (if leapB (1950 + (k : Nat)) then 1 else 0) := by
    intro L hL
    cases L <;> simp [monthsR, lastI, hL, mtab]
  rw [h _ rfl, yearsR]; omega

theorem ct_rDate {nx : Nat} {gt : Nat → Option Blk} {s : Int} (hs : -9223372036854775808 ≤ s ∧ s ≤ 9223372036854775807) :
    Ct Try.prog 30 [.int .i64 s] nx gt fun v _ _ => DateV s v := by
  refine Ct.of hmx r_lanyardref03_Date (by simp [c_lanyardref03_Date]) fun b hb => ?_
  simp only [c_lanyardref03_Date, ↓gaW, ↓gaC, ↓gaN, gaP, Nat.reduceEqDiff, Nat.reduceLeDiff, Nat.reduceAdd, Nat.reduceSub, Nat.reduceMul, Int.reduceLT, Int.reduceLE, Int.reduceEq, Int.reduceToNat, Int.reduceAdd, Int.reduceSub, Int.reduceMul, reduceCtorEq, ↓reduceIte]
  refine callK_of (ct_days (by omega) (by omega) (by omega)) (fun v n1 g1 l1 k1 hC => ?_) (by omega)
  rw [dayR_1970] at hC
  subst hC
  have c1 : g1 nx = some (.cells [.int .i64 0, .int .i64 0, .int .i64 0, .int .i64 0, .int .i64 0, .int .i64 0] false) := by rw [k1 nx (by omega)]; simp only [upd_e, if_true]
  have o1 : ∀ i, i < nx → g1 i = gt i := fun i hi => by rw [k1 i (by omega)]; simp only [upd_e]; rw [if_neg (by omega)]
  have all6 : ∀ a b c d e g : Int, ∀ v ∈ [Value.int .i64 a, .int .i64 b, .int .i64 c, .int .i64 d, .int .i64 e, .int .i64 g], cellVal v = true := by
    intro a b c d e g v hv
    simp only [List.mem_cons, List.not_mem_nil, or_false] at hv
    rcases hv with rfl | rfl | rfl | rfl | rfl | rfl <;> rfl
  have spl : ∀ l l' : List Value, l.length = 6 → l'.length = 6 → splice l 0 l' = l' := by
    intro l l' h h'
    simp [splice, h']; omega
  by_cases a0 : s < -631152000
  · simp only [↓gaW, ↓gaC, ↓gaN, gaP, Nat.reduceEqDiff, Nat.reduceLeDiff, Nat.reduceAdd, Nat.reduceSub, Nat.reduceMul, Int.reduceLT, Int.reduceLE, Int.reduceEq, Int.reduceToNat, Int.reduceAdd, Int.reduceSub, Int.reduceMul, reduceCtorEq, ↓reduceIte, fillL, splice, List.take_zero, List.drop_zero, List.drop_succ_cons, List.take_succ_cons, List.drop_nil, List.take_nil, i64_w (-7305) (by omega), i64_w (-631152000) (by omega), a0, decide_true, c1]
    refine ⟨by omega, all6 _ _ _ _ _ _, ?_⟩
    refine end_cNt (ro := false) [.int .i64 0, .int .i64 0, .int .i64 0, .int .i64 0, .int .i64 0, .int .i64 0] rfl (by simp only [upd_e, if_true]) (by simp) ⟨rfl, by omega, fun i hi => by simp only [upd_e]; rw [if_neg (by omega), o1 i hi], ?_⟩
    rw [DateV, if_neg (by omega)]; rfl
  by_cases a1 : 7258118399 < s
  · simp only [↓gaW, ↓gaC, ↓gaN, gaP, Nat.reduceEqDiff, Nat.reduceLeDiff, Nat.reduceAdd, Nat.reduceSub, Nat.reduceMul, Int.reduceLT, Int.reduceLE, Int.reduceEq, Int.reduceToNat, Int.reduceAdd, Int.reduceSub, Int.reduceMul, reduceCtorEq, ↓reduceIte, fillL, splice, List.take_zero, List.drop_zero, List.drop_succ_cons, List.take_succ_cons, List.drop_nil, List.take_nil, i64_w (-7305) (by omega), i64_w (-631152000) (by omega), a0, a1, decide_true, decide_false, c1]
    refine ⟨by omega, all6 _ _ _ _ _ _, ?_⟩
    refine end_cNt (ro := false) [.int .i64 0, .int .i64 0, .int .i64 0, .int .i64 0, .int .i64 0, .int .i64 0] rfl (by simp only [upd_e, if_true]) (by simp) ⟨rfl, by omega, fun i hi => by simp only [upd_e]; rw [if_neg (by omega), o1 i hi], ?_⟩
    rw [DateV, if_neg (by omega)]; rfl
  have q0 : s - -631152000 = s + 631152000 := by omega
  have q1 : (s + 631152000).tdiv 86400 = (s + 631152000) / 86400 := Int.tdiv_eq_ediv_of_nonneg (by omega)
  have q2 : (s + 631152000).tmod 86400 = (s + 631152000) % 86400 := Int.tmod_eq_emod_of_nonneg (by omega)
  obtain ⟨N, hN⟩ : ∃ N, (s + 631152000) / 86400 = N := ⟨_, rfl⟩
  obtain ⟨R, hR⟩ : ∃ R, (s + 631152000) % 86400 = R := ⟨_, rfl⟩
  have hNR : 0 ≤ N ∧ N ≤ 91310 ∧ 0 ≤ R ∧ R < 86400 ∧ s = 86400 * N + R - 631152000 := by omega
  simp only [↓gaW, ↓gaC, ↓gaN, gaP, Nat.reduceEqDiff, Nat.reduceLeDiff, Nat.reduceAdd, Nat.reduceSub, Nat.reduceMul, Int.reduceLT, Int.reduceLE, Int.reduceEq, Int.reduceToNat, Int.reduceAdd, Int.reduceSub, Int.reduceMul, reduceCtorEq, ↓reduceIte, i64_w (-7305) (by omega), i64_w (-631152000) (by omega), a0, a1, decide_false, q0, i64_w (s + 631152000) (by omega), q1, q2, hN, hR, i64_w N (by omega)]
  refine loop_of (fun j f m => ∃ (k x : Nat) (g : Nat → Option Blk), j = 250 - k ∧ k ≤ 249 ∧ yearsR k ≤ N ∧ f 2 = .pointer (some ⟨nx, 0, none⟩) ∧ f 5 = .int .i64 (N - yearsR k) ∧ f 6 = .int .i64 R ∧ f 7 = .int .i64 (1950 + (k : Nat)) ∧ m = ⟨x, b, g⟩ ∧ nx + 1 ≤ x ∧ (∀ i, i < nx → g i = gt i) ∧
      g nx = some (.cells [.int .i64 0, .int .i64 0, .int .i64 0, .int .i64 0, .int .i64 0, .int .i64 0] false)) 250
    ⟨0, n1, g1, by omega, by omega, by simp [yearsR]; omega, rfl, by simp [putR, yearsR], rfl, rfl, rfl, by omega, o1, c1⟩ ?_
  rintro j f m ⟨k, x, g, rfl, hk, hyk, h2, h5, h6, h7, rfl, hx, hg, hgn⟩
  have yb := yearsR_bd k
  have yb1 := yearsR_bd (k + 1)
  have ym := yearsR_mono k
  have e1 : 1950 + (k : Int) + 1 = 1950 + ((k + 1 : Nat) : Int) := by omega
  simp only [↓gaW, ↓gaC, ↓gaN, gaP, Nat.reduceEqDiff, Nat.reduceLeDiff, Nat.reduceAdd, Nat.reduceSub, Nat.reduceMul, Int.reduceLT, Int.reduceLE, Int.reduceEq, Int.reduceToNat, Int.reduceAdd, Int.reduceSub, Int.reduceMul, reduceCtorEq, ↓reduceIte, h5, h7, e1, i64_w (1950 + ((k + 1 : Nat) : Int)) (by omega)]
  refine callK_of (ct_days (by omega) (by omega) (by omega)) (fun v n2 g2 l2 k2 hC => ?_) (by omega)
  rw [dayR_11 (k + 1)] at hC
  subst hC
  simp only [↓gaW, ↓gaC, ↓gaN, gaP, Nat.reduceEqDiff, Nat.reduceLeDiff, Nat.reduceAdd, Nat.reduceSub, Nat.reduceMul, Int.reduceLT, Int.reduceLE, Int.reduceEq, Int.reduceToNat, Int.reduceAdd, Int.reduceSub, Int.reduceMul, reduceCtorEq, ↓reduceIte, h5, h7]
  refine callK_of (ct_days (by omega) (by omega) (by omega)) (fun v n3 g3 l3 k3 hC => ?_) (by omega)
  rw [dayR_11] at hC
  subst hC
  simp only [↓gaW, ↓gaC, ↓gaN, gaP, Nat.reduceEqDiff, Nat.reduceLeDiff, Nat.reduceAdd, Nat.reduceSub, Nat.reduceMul, Int.reduceLT, Int.reduceLE, Int.reduceEq, Int.reduceToNat, Int.reduceAdd, Int.reduceSub, Int.reduceMul, reduceCtorEq, ↓reduceIte, h5, h7, i64_w (yearsR (k + 1) - yearsR k) (by omega)]
  have k23 : ∀ i, i < x → g3 i = g i := fun i hi => by rw [k3 i (by omega), k2 i hi]
  refine condK_dec (fun hge => ?_) fun hlt => ?_
  · have hk1 : k + 1 ≤ 249 := by
      rcases Nat.lt_or_ge k 249 with h | h
      · omega
      · have : k = 249 := by omega
        subst this
        rw [show 249 + 1 = 250 from rfl, yearsR_250] at hge
        omega
    simp only [↓gaW, ↓gaC, ↓gaN, gaP, Nat.reduceEqDiff, Nat.reduceLeDiff, Nat.reduceAdd, Nat.reduceSub, Nat.reduceMul, Int.reduceLT, Int.reduceLE, Int.reduceEq, Int.reduceToNat, Int.reduceAdd, Int.reduceSub, Int.reduceMul, reduceCtorEq, ↓reduceIte, h5, h7, e1, i64_w (1950 + ((k + 1 : Nat) : Int)) (by omega)]
    refine callK_of (ct_days (by omega) (by omega) (by omega)) (fun v n4 g4 l4 k4 hC => ?_) (by omega)
    rw [dayR_11] at hC
    subst hC
    simp only [↓gaW, ↓gaC, ↓gaN, gaP, Nat.reduceEqDiff, Nat.reduceLeDiff, Nat.reduceAdd, Nat.reduceSub, Nat.reduceMul, Int.reduceLT, Int.reduceLE, Int.reduceEq, Int.reduceToNat, Int.reduceAdd, Int.reduceSub, Int.reduceMul, reduceCtorEq, ↓reduceIte, h5, h7]
    refine callK_of (ct_days (by omega) (by omega) (by omega)) (fun v n5 g5 l5 k5 hC => ?_) (by omega)
    rw [dayR_11] at hC
    subst hC
    have e2 : N - yearsR k - (yearsR (k + 1) - yearsR k) = N - yearsR (k + 1) := by omega
    simp only [↓gaW, ↓gaC, ↓gaN, gaP, Nat.reduceEqDiff, Nat.reduceLeDiff, Nat.reduceAdd, Nat.reduceSub, Nat.reduceMul, Int.reduceLT, Int.reduceLE, Int.reduceEq, Int.reduceToNat, Int.reduceAdd, Int.reduceSub, Int.reduceMul, reduceCtorEq, ↓reduceIte, h5, h7, i64_w (yearsR (k + 1) - yearsR k) (by omega), e2, i64_w (N - yearsR (k + 1)) (by omega), e1, i64_w (1950 + ((k + 1 : Nat) : Int)) (by omega)]
    have k45 : ∀ i, i < x → g5 i = g i := fun i hi => by rw [k5 i (by omega), k4 i (by omega), k23 i hi]
    exact ⟨250 - (k + 1), by omega, k + 1, n5, g5, rfl, hk1, by omega, h2, rfl, h6, rfl, rfl, by omega, fun i hi => by rw [k45 i (by omega), hg i hi], by rw [k45 nx (by omega), hgn]⟩
  · simp only [↓gaW, ↓gaC, ↓gaN, gaP, Nat.reduceEqDiff, Nat.reduceLeDiff, Nat.reduceAdd, Nat.reduceSub, Nat.reduceMul, Int.reduceLT, Int.reduceLE, Int.reduceEq, Int.reduceToNat, Int.reduceAdd, Int.reduceSub, Int.reduceMul, reduceCtorEq, ↓reduceIte]
    refine loop_of (fun j f m => ∃ (t x : Nat) (g : Nat → Option Blk), j = 12 - t ∧ t ≤ 11 ∧ monthsR (1950 + (k : Nat)) t ≤ N - yearsR k ∧ f 2 = .pointer (some ⟨nx, 0, none⟩) ∧ f 5 = .int .i64 (N - yearsR k - monthsR (1950 + (k : Nat)) t) ∧ f 6 = .int .i64 R ∧ f 7 = .int .i64 (1950 + (k : Nat)) ∧ f 8 = .int .i64 (1 + (t : Nat)) ∧ m = ⟨x, b, g⟩ ∧ nx + 1 ≤ x ∧ (∀ i, i < nx → g i = gt i) ∧
        g nx = some (.cells [.int .i64 0, .int .i64 0, .int .i64 0, .int .i64 0, .int .i64 0, .int .i64 0] false)) 12
      ⟨0, n3, g3, by omega, by omega, by simp [monthsR]; omega, h2, by simpa [putR, monthsR] using h5, h6, h7, rfl, rfl, by omega, fun i hi => by rw [k23 i (by omega), hg i hi], by rw [k23 nx (by omega), hgn]⟩ ?_
    rintro j f m ⟨t, x, g, rfl, ht, hmt, h2, h5, h6, h7, h8, rfl, hx, hg, hgn⟩
    have lb := lastI_bd (y := 1950 + (k : Nat)) (m := 1 + (t : Nat)) (by omega) (by omega)
    have mb := monthsR_bd (1950 + (k : Nat)) t (by omega)
    have ms : monthsR (1950 + (k : Nat)) (t + 1) = monthsR (1950 + (k : Nat)) t + lastI (1950 + (k : Nat)) (1 + (t : Nat)) := by rw [monthsR, Int.add_comm (t : Int) 1]
    have m12 := months_year k
    simp only [↓gaW, ↓gaC, ↓gaN, gaP, Nat.reduceEqDiff, Nat.reduceLeDiff, Nat.reduceAdd, Nat.reduceSub, Nat.reduceMul, Int.reduceLT, Int.reduceLE, Int.reduceEq, Int.reduceToNat, Int.reduceAdd, Int.reduceSub, Int.reduceMul, reduceCtorEq, ↓reduceIte, h5, h7, h8]
    refine callK_of (ct_rlast (by omega) (by omega)) (fun v n4 g4 l4 k4 hC => ?_) (by omega)
    subst hC
    simp only [↓gaW, ↓gaC, ↓gaN, gaP, Nat.reduceEqDiff, Nat.reduceLeDiff, Nat.reduceAdd, Nat.reduceSub, Nat.reduceMul, Int.reduceLT, Int.reduceLE, Int.reduceEq, Int.reduceToNat, Int.reduceAdd, Int.reduceSub, Int.reduceMul, reduceCtorEq, ↓reduceIte, h5]
    refine condK_dec (fun hge => ?_) fun hlt' => ?_
    · have ht1 : t + 1 ≤ 11 := by
        rcases Nat.lt_or_ge t 11 with h | h
        · omega
        · have : t = 11 := by omega
          subst this
          rw [show 11 + 1 = 12 from rfl, m12] at ms
          omega
      simp only [↓gaW, ↓gaC, ↓gaN, gaP, Nat.reduceEqDiff, Nat.reduceLeDiff, Nat.reduceAdd, Nat.reduceSub, Nat.reduceMul, Int.reduceLT, Int.reduceLE, Int.reduceEq, Int.reduceToNat, Int.reduceAdd, Int.reduceSub, Int.reduceMul, reduceCtorEq, ↓reduceIte, h5, h7, h8]
      refine callK_of (ct_rlast (by omega) (by omega)) (fun v n5 g5 l5 k5 hC => ?_) (by omega)
      subst hC
      have e3 : N - yearsR k - monthsR (1950 + (k : Nat)) t - lastI (1950 + (k : Nat)) (1 + (t : Nat)) = N - yearsR k - monthsR (1950 + (k : Nat)) (t + 1) := by rw [ms]; omega
      have e4 : 1 + (t : Int) + 1 = 1 + ((t + 1 : Nat) : Int) := by omega
      have mb1 := monthsR_bd (1950 + (k : Nat)) (t + 1) (by omega)
      simp only [↓gaW, ↓gaC, ↓gaN, gaP, Nat.reduceEqDiff, Nat.reduceLeDiff, Nat.reduceAdd, Nat.reduceSub, Nat.reduceMul, Int.reduceLT, Int.reduceLE, Int.reduceEq, Int.reduceToNat, Int.reduceAdd, Int.reduceSub, Int.reduceMul, reduceCtorEq, ↓reduceIte, h8, e3, i64_w (N - yearsR k - monthsR (1950 + (k : Int)) (t + 1)) (by omega), e4, i64_w (1 + ((t + 1 : Nat) : Int)) (by omega)]
      have k45 : ∀ i, i < x → g5 i = g i := fun i hi => by rw [k5 i (by omega), k4 i hi]
      exact ⟨12 - (t + 1), by omega, t + 1, n5, g5, rfl, ht1, by rw [ms]; omega, h2, rfl, h6, h7, rfl, rfl, by omega, fun i hi => by rw [k45 i (by omega), hg i hi], by rw [k45 nx (by omega), hgn]⟩
    · have r1 : R.tdiv 3600 = R / 3600 := Int.tdiv_eq_ediv_of_nonneg (by omega)
      have r2 : R.tdiv 60 = R / 60 := Int.tdiv_eq_ediv_of_nonneg (by omega)
      have r3 : (R / 60).tmod 60 = R / 60 % 60 := Int.tmod_eq_emod_of_nonneg (by omega)
      have r4 : R.tmod 60 = R % 60 := Int.tmod_eq_emod_of_nonneg (by omega)
      have k4n : g4 nx = _ := (k4 nx (by omega)).trans hgn
      simp only [↓gaW, ↓gaC, ↓gaN, gaP, Nat.reduceEqDiff, Nat.reduceLeDiff, Nat.reduceAdd, Nat.reduceSub, Nat.reduceMul, Int.reduceLT, Int.reduceLE, Int.reduceEq, Int.reduceToNat, Int.reduceAdd, Int.reduceSub, Int.reduceMul, reduceCtorEq, ↓reduceIte, fillL, splice, List.take_zero, List.drop_zero, List.drop_succ_cons, List.take_succ_cons, List.drop_nil, List.take_nil, h2, h5, h6, h7, h8, i64_w (N - yearsR k - monthsR (1950 + (k : Int)) t + 1) (by omega), r1, r2, r3, r4, i64_w (R / 3600) (by omega), i64_w (R / 60) (by omega), k4n]
      repeat refine And.intro (by first | omega | exact all6 _ _ _ _ _ _) ?_
      refine end_cNt (ro := false) [.int .i64 (1950 + (k : Nat)), .int .i64 (1 + (t : Nat)), .int .i64 (N - yearsR k - monthsR (1950 + (k : Nat)) t + 1), .int .i64 (R / 3600), .int .i64 (R / 60 % 60), .int .i64 (R % 60)] h2 (by simp only [upd_e, if_true]) (by simp) ⟨rfl, by omega, fun i hi => by simp only [upd_e]; rw [if_neg (by omega), k4 i (by omega), hg i hi], ?_⟩
      rw [DateV, if_pos (by omega)]
      have hky : (1950 + (k : Int) - 1950).toNat = k := by omega
      have hmt' : (1 + (t : Int) - 1).toNat = t := by omega
      refine ⟨1950 + (k : Nat), 1 + (t : Nat), N - yearsR k - monthsR (1950 + (k : Nat)) t + 1, R / 3600, R / 60 % 60, R % 60, ?_, ?_, rfl⟩
      · simp only [okD, inB, Bool.and_eq_true, decide_eq_true_eq]; omega
      · rw [secI, dayC_eq (by omega) (by omega), dayR, hky, hmt']; omega
end Go.Ga

namespace Go.Ga
open Go Go.Proofs
set_option linter.unusedSimpArgs false
set_option linter.unusedVariables false
set_option maxRecDepth 100000

theorem lastI_N {y m : Nat} (h1 : 1 ≤ m) (h2 : m ≤ 12) : lastI (y : Nat) (m : Nat) = (lastN y m : Nat) := by
  have hL : leapB (y : Nat) = decide (y % 4 = 0 ∧ y % 100 ≠ 0 ∨ y % 400 = 0) := by
    have a1 : ((y : Int).tmod 4 = 0) = (y % 4 = 0) := by
      show (((y % 4 : Nat) : Int) = 0) = _
      simp only [eq_iff_iff]; omega
    have a2 : ((y : Int).tmod 100 = 0) = (y % 100 = 0) := by
      show (((y % 100 : Nat) : Int) = 0) = _
      simp only [eq_iff_iff]; omega
    have a3 : ((y : Int).tmod 400 = 0) = (y % 400 = 0) := by
      show (((y % 400 : Nat) : Int) = 0) = _
      simp only [eq_iff_iff]; omega
    simp only [leapB, a1, a2, a3]
    by_cases b1 : y % 4 = 0 <;> by_cases b2 : y % 100 = 0 <;> by_cases b3 : y % 400 = 0 <;> simp [b1, b2, b3]
  have hT : ∀ k, k < 12 → mtab.getD k 0 = (([31, 28, 31, 30, 31, 30, 31, 31, 30, 31, 30, 31] : List Nat).getD k 0 : Nat) := by decide
  have e : ((m : Int) - 1).toNat = m - 1 := by omega
  unfold lastI lastN
  rw [e, hL]
  by_cases hm : m = 2
  · subst hm
    by_cases hl : y % 4 = 0 ∧ y % 100 ≠ 0 ∨ y % 400 = 0
    · rw [if_pos ⟨rfl, decide_eq_true hl⟩, if_pos ⟨rfl, hl⟩]; rfl
    · rw [if_neg (by simp only [decide_eq_true_eq]; exact fun h => hl h.2), if_neg (fun h => hl h.2)]; rfl
  · rw [if_neg (by omega), if_neg (by omega), hT _ (by omega)]

theorem dayC_N {y m d : Nat} (hy : 1 ≤ y) (h1 : 1 ≤ m) (h2 : m ≤ 12) (hd : 1 ≤ d) : dayC (y : Nat) (m : Nat) (d : Nat) = (dayN y m d : Nat) - 719468 := by
  unfold dayC dayN dayF
  by_cases hm : m < 3
  · rw [if_pos (by omega), if_pos hm]
    have a0 : ((y : Int) - 1) = ((y - 1 : Nat) : Int) := by omega
    have a1 : (((y - 1 : Nat) : Int).tdiv 400) = (((y - 1) / 400 : Nat) : Int) := rfl
    have a2 : (((y - 1 : Nat) : Int).tmod 400) = (((y - 1) % 400 : Nat) : Int) := rfl
    have a3 : ((((y - 1) % 400 : Nat) : Int).tdiv 4) = (((y - 1) % 400 / 4 : Nat) : Int) := rfl
    have a4 : ((((y - 1) % 400 : Nat) : Int).tdiv 100) = (((y - 1) % 400 / 100 : Nat) : Int) := rfl
    have a5 : (153 * ((m : Int) - 3 + 12) + 2) = ((153 * (m + 9) + 2 : Nat) : Int) := by omega
    have a6 : (((153 * (m + 9) + 2 : Nat) : Int).tdiv 5) = (((153 * (m + 9) + 2) / 5 : Nat) : Int) := rfl
    rw [a0, a1, a2, a3, a4, a5, a6]; omega
  · rw [if_neg (by omega), if_neg hm]
    have a1 : ((y : Int).tdiv 400) = ((y / 400 : Nat) : Int) := rfl
    have a2 : ((y : Int).tmod 400) = ((y % 400 : Nat) : Int) := rfl
    have a3 : (((y % 400 : Nat) : Int).tdiv 4) = ((y % 400 / 4 : Nat) : Int) := rfl
    have a4 : (((y % 400 : Nat) : Int).tdiv 100) = ((y % 400 / 100 : Nat) : Int) := rfl
    have a5 : (153 * ((m : Int) - 3) + 2) = ((153 * (m - 3) + 2 : Nat) : Int) := by omega
    have a6 : (((153 * (m - 3) + 2 : Nat) : Int).tdiv 5) = (((153 * (m - 3) + 2) / 5 : Nat) : Int) := rfl
    rw [a1, a2, a3, a4, a5, a6]; omega
end Go.Ga

namespace Go.Ga
open Go Go.Proofs
set_option linter.unusedSimpArgs false
set_option linter.unusedVariables false
set_option maxRecDepth 100000

theorem secV_first : SecV 1950 1 1 0 0 0 = .tuple #[.int .i64 (-631152000), .bool true] := by
  rw [SecV, if_pos (by decide +kernel), show secI 1950 1 1 0 0 0 = -631152000 by decide +kernel]
theorem secV_last : SecV 2199 12 31 23 59 59 = .tuple #[.int .i64 7258118399, .bool true] := by
  rw [SecV, if_pos (by decide +kernel), show secI 2199 12 31 23 59 59 = 7258118399 by decide +kernel]

/-- Seconds to days and what is left, as the code has them. -/
theorem split_day (s : Int) : ∃ q t : Int, s.tdiv 86400 = q ∧ s.tmod 86400 = t ∧ s = 86400 * q + t ∧ -86400 < t ∧ t < 86400 ∧ (0 ≤ s → 0 ≤ t) ∧ (s ≤ 0 → t ≤ 0) := by
  refine ⟨_, _, rfl, rfl, (Int.mul_tdiv_add_tmod s 86400).symm, ?_⟩
  rcases Int.le_total 0 s with h | h
  · have := Int.tmod_eq_emod_of_nonneg (b := 86400) h
    omega
  · have h2 := Int.tmod_eq_emod_of_nonneg (a := -s) (b := 86400) (by omega)
    rw [Int.neg_tmod] at h2
    omega

set_option maxHeartbeats 2000000 in
theorem ct_Date {nx : Nat} {gt : Nat → Option Blk} {s : Int} (hs : -9223372036854775808 ≤ s ∧ s ≤ 9223372036854775807) :
    Ct Try.prog 29 [.int .i64 s] nx gt fun v _ _ => DateV s v := by
  refine Ct.of hmx r_clock_Date (by simp [c_clock_Date]) fun b hb => ?_
  simp only [c_clock_Date, ↓gaW, ↓gaC, ↓gaN, gaP, Nat.reduceEqDiff, Nat.reduceLeDiff, Nat.reduceAdd, Nat.reduceSub, Nat.reduceMul, Int.reduceLT, Int.reduceLE, Int.reduceEq, Int.reduceToNat, Int.reduceAdd, Int.reduceSub, Int.reduceMul, reduceCtorEq, ↓reduceIte, fillL, splice, List.take_zero, List.drop_zero, List.drop_succ_cons, List.take_succ_cons, List.drop_nil, List.take_nil]
  refine callK_of ct_Seconds (fun v n1 g1 l1 k1 hC => ?_) (by omega)
  rw [secV_first] at hC
  subst hC
  simp only [↓gaW, ↓gaC, ↓gaN, gaP, Nat.reduceEqDiff, Nat.reduceLeDiff, Nat.reduceAdd, Nat.reduceSub, Nat.reduceMul, Int.reduceLT, Int.reduceLE, Int.reduceEq, Int.reduceToNat, Int.reduceAdd, Int.reduceSub, Int.reduceMul, reduceCtorEq, ↓reduceIte, fillL, splice, List.take_zero, List.drop_zero, List.drop_succ_cons, List.take_succ_cons, List.drop_nil, List.take_nil]
  repeat refine And.intro (by omega) ?_
  refine callK_of ct_Seconds (fun v n2 g2 l2 k2 hC => ?_) (by omega)
  rw [secV_last] at hC
  subst hC
  have c2 : g2 nx = some (.cells [.int .i64 0, .int .i64 0, .int .i64 0, .int .i64 0, .int .i64 0, .int .i64 0] false) := by rw [k2 nx (by omega), k1 nx (by omega)]; simp only [upd_e, if_true]
  have o2 : ∀ i, i < nx → g2 i = gt i := fun i hi => by rw [k2 i (by omega), k1 i (by omega)]; simp only [upd_e]; rw [if_neg (by omega)]
  have all6 : ∀ a b c d e g : Int, ∀ v ∈ [Value.int .i64 a, .int .i64 b, .int .i64 c, .int .i64 d, .int .i64 e, .int .i64 g], cellVal v = true := by
    intro a b c d e g v hv
    simp only [List.mem_cons, List.not_mem_nil, or_false] at hv
    rcases hv with rfl | rfl | rfl | rfl | rfl | rfl <;> rfl
  by_cases a0 : s < -631152000
  · simp only [↓gaW, ↓gaC, ↓gaN, gaP, Nat.reduceEqDiff, Nat.reduceLeDiff, Nat.reduceAdd, Nat.reduceSub, Nat.reduceMul, Int.reduceLT, Int.reduceLE, Int.reduceEq, Int.reduceToNat, Int.reduceAdd, Int.reduceSub, Int.reduceMul, reduceCtorEq, ↓reduceIte, fillL, splice, List.take_zero, List.drop_zero, List.drop_succ_cons, List.take_succ_cons, List.drop_nil, List.take_nil, a0, decide_true, c2]
    repeat refine And.intro (by first | omega | exact all6 _ _ _ _ _ _) ?_
    refine end_cNt (ro := false) [.int .i64 0, .int .i64 0, .int .i64 0, .int .i64 0, .int .i64 0, .int .i64 0] rfl (by simp only [upd_e, if_true]) (by simp) ⟨rfl, by omega, fun i hi => by simp only [upd_e]; rw [if_neg (by omega), o2 i hi], ?_⟩
    rw [DateV, if_neg (by omega)]; rfl
  by_cases a1 : 7258118399 < s
  · simp only [↓gaW, ↓gaC, ↓gaN, gaP, Nat.reduceEqDiff, Nat.reduceLeDiff, Nat.reduceAdd, Nat.reduceSub, Nat.reduceMul, Int.reduceLT, Int.reduceLE, Int.reduceEq, Int.reduceToNat, Int.reduceAdd, Int.reduceSub, Int.reduceMul, reduceCtorEq, ↓reduceIte, fillL, splice, List.take_zero, List.drop_zero, List.drop_succ_cons, List.take_succ_cons, List.drop_nil, List.take_nil, a0, a1, decide_true, decide_false, c2]
    repeat refine And.intro (by first | omega | exact all6 _ _ _ _ _ _) ?_
    refine end_cNt (ro := false) [.int .i64 0, .int .i64 0, .int .i64 0, .int .i64 0, .int .i64 0, .int .i64 0] rfl (by simp only [upd_e, if_true]) (by simp) ⟨rfl, by omega, fun i hi => by simp only [upd_e]; rw [if_neg (by omega), o2 i hi], ?_⟩
    rw [DateV, if_neg (by omega)]; rfl
  obtain ⟨q, t, hq, ht, hst, ht1, ht2, ht3, ht4⟩ := split_day s
  have fin : ∀ (n : Nat) (T : Int), 712163 ≤ n → n < 803474 → 0 ≤ T → T < 86400 → s = 86400 * ((n : Nat) - 719468) + T → ∀ f : Regs, f 2 = .pointer (some ⟨nx, 0, none⟩) → f 8 = .int .i64 ((n : Nat) - 719468) → f 9 = .int .i64 T →
      RC.vc Try.prog (match c_clock_Date.code with | .seq _ (.seq _ (.seq _ (.seq _ (.seq _ (.seq _ c))))) => c | _ => .skip) f ⟨n2, b, g2⟩ (D Try.prog (.top (endK c_clock_Date.results b nx gt fun v _ _ => DateV s v))) := by
    intro n T hn1 hn2 hT1 hT2 hsn f f2 f8 f9
    have hchk := check_get hn1 hn2
    simp only [checkN, Bool.and_eq_true, Nat.ble_eq] at hchk
    obtain ⟨⟨⟨⟨⟨⟨⟨⟨⟨k1, k2⟩, k3⟩, k4⟩, k5⟩, k6⟩, k7⟩, k8⟩, k9⟩, k10⟩ := hchk
    have k10' := Nat.eq_of_beq_eq_true k10
    have e0 : ((n : Int) - 719468 + 719468) = (n : Int) := by omega
    have e1 : (n : Int).tdiv 146097 = ((n / 146097 : Nat) : Int) := rfl
    have e2 : (n : Int).tmod 146097 = ((n % 146097 : Nat) : Int) := rfl
    have hr : n % 146097 < 146097 := Nat.mod_lt _ (by decide)
    have hyd : n / 146097 ≤ 5 := by omega
    generalize hR : n % 146097 = r at *
    have e3 : (r : Int).tdiv 1460 = ((r / 1460 : Nat) : Int) := rfl
    have e4 : (r : Int).tdiv 36524 = ((r / 36524 : Nat) : Int) := rfl
    have e5 : (r : Int).tdiv 146096 = ((r / 146096 : Nat) : Int) := rfl
    have e6 : (r : Int) - ((r / 1460 : Nat) : Int) + ((r / 36524 : Nat) : Int) - ((r / 146096 : Nat) : Int) = ((r - r / 1460 + r / 36524 - r / 146096 : Nat) : Int) := by omega
    have e7 : ((r - r / 1460 + r / 36524 - r / 146096 : Nat) : Int).tdiv 365 = (yearN r : Nat) := rfl
    have hy : yearN r ≤ 400 := by unfold yearN; omega
    have e8 : ((yearN r : Nat) : Int).tdiv 4 = ((yearN r / 4 : Nat) : Int) := rfl
    have e9 : ((yearN r : Nat) : Int).tdiv 100 = ((yearN r / 100 : Nat) : Int) := rfl
    have e10 : (r : Int) - (((yearN r : Nat) : Int) * 365 + ((yearN r / 4 : Nat) : Int) - ((yearN r / 100 : Nat) : Int)) = (restN r : Nat) := by unfold restN; omega
    have hrest : restN r ≤ r := by unfold restN; omega
    have e11 : (5 * ((restN r : Nat) : Int) + 2) = ((5 * restN r + 2 : Nat) : Int) := by omega
    have e12 : ((5 * restN r + 2 : Nat) : Int).tdiv 153 = (monN r : Nat) := rfl
    have hmon : monN r ≤ 10000 := by unfold monN; omega
    have e13 : (153 * ((monN r : Nat) : Int) + 2) = ((153 * monN r + 2 : Nat) : Int) := by omega
    have e14 : ((153 * monN r + 2 : Nat) : Int).tdiv 5 = (((153 * monN r + 2) / 5 : Nat) : Int) := rfl
    have e15 : ((restN r : Nat) : Int) - (((153 * monN r + 2) / 5 : Nat) : Int) + 1 = (dN r : Nat) := by unfold dN; omega
    have r1 : T.tdiv 3600 = T / 3600 := Int.tdiv_eq_ediv_of_nonneg (by omega)
    have r2 : T.tdiv 60 = T / 60 := Int.tdiv_eq_ediv_of_nonneg (by omega)
    have r3 : (T / 60).tmod 60 = T / 60 % 60 := Int.tmod_eq_emod_of_nonneg (by omega)
    have r4 : T.tmod 60 = T % 60 := Int.tmod_eq_emod_of_nonneg (by omega)
    simp (disch := omega) only [c_clock_Date, ↓gaW, ↓gaC, ↓gaN, gaP, Nat.reduceEqDiff, Nat.reduceLeDiff, Nat.reduceAdd, Nat.reduceSub, Nat.reduceMul, Int.reduceLT, Int.reduceLE, Int.reduceEq, Int.reduceToNat, Int.reduceAdd, Int.reduceSub, Int.reduceMul, reduceCtorEq, ↓reduceIte, f2, f8, f9, i64_w, e0, e1, e2, hR, e3, e4, e5, e6, e7, e8, e9, e10, e11, e12, e13, e14, e15]
    have hyN : yN n ≤ 2199 := k5
    have res : ∀ {a b : Nat}, DateV s (.tuple #[.agg (List.take 6 [.int .i64 (yN n : Nat), .int .i64 (mN n : Nat), .int .i64 (dN r : Nat), .int .i64 (T / 3600), .int .i64 (T / 60 % 60), .int .i64 (T % 60)]).toArray, .bool true]) := by
      intro _ _
      rw [DateV, if_pos (by omega)]
      have hl := lastI_N (y := yN n) k6 k7
      have hd := dayC_N (y := yN n) (m := mN n) (d := dN r) (by omega) k6 k7 k8
      rw [k10'] at hd
      refine ⟨(yN n : Nat), (mN n : Nat), (dN r : Nat), T / 3600, T / 60 % 60, T % 60, ?_, ?_, rfl⟩
      · simp only [okD, inB, Bool.and_eq_true, decide_eq_true_eq, hl]; omega
      · rw [secI, hd]; omega
    have res := res (a := 0) (b := 0)
    refine condK_dec (fun hm => ?_) fun hm => ?_
    · have e16 : ((n / 146097 : Nat) : Int) * 400 + ((yearN r : Nat) : Int) + 1 = (yN n : Nat) := by rw [yN, hR, if_pos (by omega)]; omega
      have e17 : ((monN r : Nat) : Int) + 3 - 12 = (mN n : Nat) := by rw [mN, hR, if_pos (by omega)]; omega
      simp (disch := omega) only [↓gaW, ↓gaC, ↓gaN, gaP, Nat.reduceEqDiff, Nat.reduceLeDiff, Nat.reduceAdd, Nat.reduceSub, Nat.reduceMul, Int.reduceLT, Int.reduceLE, Int.reduceEq, Int.reduceToNat, Int.reduceAdd, Int.reduceSub, Int.reduceMul, reduceCtorEq, ↓reduceIte, fillL, splice, List.take_zero, List.drop_zero, List.drop_succ_cons, List.take_succ_cons, List.drop_nil, List.take_nil, f2, f8, f9, i64_w, e16, e17, r1, r2, r3, r4, c2]
      repeat refine And.intro (by first | omega | exact all6 _ _ _ _ _ _) ?_
      refine end_cNt (ro := false) [.int .i64 (yN n : Nat), .int .i64 (mN n : Nat), .int .i64 (dN r : Nat), .int .i64 (T / 3600), .int .i64 (T / 60 % 60), .int .i64 (T % 60)] f2 (by simp only [upd_e, if_true]) (by simp) ⟨rfl, by omega, fun i hi => by simp only [upd_e]; rw [if_neg (by omega), o2 i hi], ?_⟩
      exact res
    · have e16 : ((n / 146097 : Nat) : Int) * 400 + ((yearN r : Nat) : Int) = (yN n : Nat) := by rw [yN, hR, if_neg (by omega)]; omega
      have e17 : ((monN r : Nat) : Int) + 3 = (mN n : Nat) := by rw [mN, hR, if_neg (by omega)]; omega
      simp (disch := omega) only [↓gaW, ↓gaC, ↓gaN, gaP, Nat.reduceEqDiff, Nat.reduceLeDiff, Nat.reduceAdd, Nat.reduceSub, Nat.reduceMul, Int.reduceLT, Int.reduceLE, Int.reduceEq, Int.reduceToNat, Int.reduceAdd, Int.reduceSub, Int.reduceMul, reduceCtorEq, ↓reduceIte, fillL, splice, List.take_zero, List.drop_zero, List.drop_succ_cons, List.take_succ_cons, List.drop_nil, List.take_nil, f2, f8, f9, i64_w, e16, e17, r1, r2, r3, r4, c2]
      repeat refine And.intro (by first | omega | exact all6 _ _ _ _ _ _) ?_
      refine end_cNt (ro := false) [.int .i64 (yN n : Nat), .int .i64 (mN n : Nat), .int .i64 (dN r : Nat), .int .i64 (T / 3600), .int .i64 (T / 60 % 60), .int .i64 (T % 60)] f2 (by simp only [upd_e, if_true]) (by simp) ⟨rfl, by omega, fun i hi => by simp only [upd_e]; rw [if_neg (by omega), o2 i hi], ?_⟩
      exact res
  simp only [↓gaW, ↓gaN, gaP, Nat.reduceEqDiff, Nat.reduceLeDiff, Nat.reduceAdd, Nat.reduceSub, Nat.reduceMul, Int.reduceLT, Int.reduceLE, Int.reduceEq, Int.reduceToNat, Int.reduceAdd, Int.reduceSub, Int.reduceMul, reduceCtorEq, ↓reduceIte, a0, a1, decide_false, hq, ht, i64_w q (by omega)]
  refine And.intro (by omega) (And.intro (by omega) ?_)
  refine condK_of (fun h => by simp at h) fun _ => ?_
  simp only [↓gaW, ↓gaN, gaP, Nat.reduceEqDiff, Nat.reduceLeDiff, Nat.reduceAdd, Nat.reduceSub, Nat.reduceMul, Int.reduceLT, Int.reduceLE, Int.reduceEq, Int.reduceToNat, Int.reduceAdd, Int.reduceSub, Int.reduceMul, reduceCtorEq, ↓reduceIte, hq, ht, i64_w q (by omega)]
  repeat refine And.intro (by omega) ?_
  refine condK_dec (fun hneg => ?_) fun hpos => ?_
  · simp only [↓gaW, ↓gaC, gaP, Nat.reduceEqDiff, Nat.reduceLeDiff, Nat.reduceAdd, Nat.reduceSub, Nat.reduceMul, Int.reduceLT, Int.reduceLE, Int.reduceEq, Int.reduceToNat, Int.reduceAdd, Int.reduceSub, Int.reduceMul, reduceCtorEq, ↓reduceIte, i64_w (q - 1) (by omega), i64_w (t + 86400) (by omega)]
    rw [D_thn_n]
    refine fin (q - 1 + 719468).toNat (t + 86400) (by omega) (by omega) (by omega) (by omega) (by omega) _ rfl ?_ rfl
    simp only [↓gaW, ↓gaC, ↓gaN, gaP, Nat.reduceEqDiff, Nat.reduceLeDiff, Nat.reduceAdd, Nat.reduceSub, Nat.reduceMul, Int.reduceLT, Int.reduceLE, Int.reduceEq, Int.reduceToNat, Int.reduceAdd, Int.reduceSub, Int.reduceMul, reduceCtorEq, ↓reduceIte]; congr 1; omega
  · rw [vc_skip, D_thn_n]
    refine fin (q + 719468).toNat t (by omega) (by omega) (by omega) (by omega) (by omega) _ rfl ?_ rfl
    simp only [↓gaW, ↓gaC, ↓gaN, gaP, Nat.reduceEqDiff, Nat.reduceLeDiff, Nat.reduceAdd, Nat.reduceSub, Nat.reduceMul, Int.reduceLT, Int.reduceLE, Int.reduceEq, Int.reduceToNat, Int.reduceAdd, Int.reduceSub, Int.reduceMul, reduceCtorEq, ↓reduceIte]; congr 1; omega
end Go.Ga

namespace Go.Ga
open Go Go.Proofs
set_option linter.unusedSimpArgs false
set_option linter.unusedVariables false
set_option maxRecDepth 100000

/-! ### Moments are ordered as their seconds are -/
theorem okD_e {d0 d1 d2 d3 d4 d5 : Int} (h : okD d0 d1 d2 d3 d4 d5 = true) : 1950 ≤ d0 ∧ d0 ≤ 2199 ∧ 1 ≤ d1 ∧ d1 ≤ 12 ∧ 1 ≤ d2 ∧ d2 ≤ lastI d0 d1 ∧ 0 ≤ d3 ∧ d3 ≤ 23 ∧ 0 ≤ d4 ∧ d4 ≤ 59 ∧ 0 ≤ d5 ∧ d5 ≤ 59 := by
  simp only [okD, inB, Bool.and_eq_true, decide_eq_true_eq] at h; omega
theorem okD_i {d0 d1 d2 d3 d4 d5 : Int} (h : 1950 ≤ d0 ∧ d0 ≤ 2199 ∧ 1 ≤ d1 ∧ d1 ≤ 12 ∧ 1 ≤ d2 ∧ d2 ≤ lastI d0 d1 ∧ 0 ≤ d3 ∧ d3 ≤ 23 ∧ 0 ≤ d4 ∧ d4 ≤ 59 ∧ 0 ≤ d5 ∧ d5 ≤ 59) : okD d0 d1 d2 d3 d4 d5 = true := by
  simp only [okD, inB, Bool.and_eq_true, decide_eq_true_eq]; omega
theorem yearsR_le {k j : Nat} (h : k ≤ j) : yearsR k ≤ yearsR j := by
  induction h with
  | refl => exact Int.le_refl _
  | step h ih => exact Int.le_trans ih (by rw [yearsR]; split <;> omega)
theorem monthsR_le (y : Int) {k j : Nat} (h : k ≤ j) : j ≤ 12 → monthsR y k ≤ monthsR y j := by
  induction h with
  | refl => intro _; exact Int.le_refl _
  | @step m h ih =>
    intro hj
    have := ih (by omega)
    have := lastI_bd (y := y) (m := (m : Nat) + 1) (by omega) (by omega)
    rw [monthsR]; omega

theorem dayR_lt {y m d y' m' d' : Int} (hy : 1950 ≤ y) (hm : 1 ≤ m ∧ m ≤ 12) (hd : 1 ≤ d ∧ d ≤ lastI y m) (hm' : 1 ≤ m' ∧ m' ≤ 12) (hd' : 1 ≤ d') (h : y < y' ∨ y = y' ∧ (m < m' ∨ m = m' ∧ d < d')) : dayR y m d < dayR y' m' d' := by
  obtain ⟨k, rfl⟩ : ∃ k : Nat, y = 1950 + (k : Nat) := ⟨(y - 1950).toNat, by omega⟩
  obtain ⟨j, rfl⟩ : ∃ j : Nat, m = (j : Nat) + 1 := ⟨(m - 1).toNat, by omega⟩
  obtain ⟨k', rfl⟩ : ∃ k : Nat, y' = 1950 + (k : Nat) := ⟨(y' - 1950).toNat, by omega⟩
  obtain ⟨j', rfl⟩ : ∃ j : Nat, m' = (j : Nat) + 1 := ⟨(m' - 1).toNat, by omega⟩
  have e1 : (1950 + (k : Int) - 1950).toNat = k := by omega
  have e2 : (1950 + (k' : Int) - 1950).toNat = k' := by omega
  have e3 : ((j : Int) + 1 - 1).toNat = j := by omega
  have e4 : ((j' : Int) + 1 - 1).toNat = j' := by omega
  rw [dayR, dayR, e1, e2, e3, e4]
  have s1 : monthsR (1950 + (k : Nat)) (j + 1) = monthsR (1950 + (k : Nat)) j + lastI (1950 + (k : Nat)) ((j : Nat) + 1) := rfl
  rcases h with h | ⟨h, h2⟩
  · have a1 := monthsR_le (1950 + (k : Nat)) (k := j + 1) (j := 12) (by omega) (by omega)
    have a2 := months_year k
    have a3 := yearsR_le (k := k + 1) (j := k') (by omega)
    have a4 := (monthsR_bd (1950 + (k' : Nat)) j' (by omega)).1
    omega
  · have hk : k = k' := by omega
    subst hk
    rcases h2 with h2 | ⟨h2, h3⟩
    · have a1 := monthsR_le (1950 + (k : Nat)) (k := j + 1) (j := j') (by omega) (by omega)
      omega
    · have hj : j = j' := by omega
      subst hj
      omega

/-- The one moment is ahead of the other one. -/
def Lt6 (a0 a1 a2 a3 a4 a5 b0 b1 b2 b3 b4 b5 : Int) : Prop := a0 < b0 ∨ a0 = b0 ∧ (a1 < b1 ∨ a1 = b1 ∧ (a2 < b2 ∨ a2 = b2 ∧ (a3 < b3 ∨ a3 = b3 ∧ (a4 < b4 ∨ a4 = b4 ∧ a5 < b5))))

theorem sec_lt {a0 a1 a2 a3 a4 a5 b0 b1 b2 b3 b4 b5 : Int} (ha : okD a0 a1 a2 a3 a4 a5 = true) (hb : okD b0 b1 b2 b3 b4 b5 = true) (h : Lt6 a0 a1 a2 a3 a4 a5 b0 b1 b2 b3 b4 b5) : secI a0 a1 a2 a3 a4 a5 < secI b0 b1 b2 b3 b4 b5 := by
  have ha := okD_e ha
  have hb := okD_e hb
  rw [secI, secI, dayC_eq (by omega) (by omega), dayC_eq (by omega) (by omega)]
  by_cases hd : a0 = b0 ∧ a1 = b1 ∧ a2 = b2
  · obtain ⟨rfl, rfl, rfl⟩ := hd
    unfold Lt6 at h; omega
  · have := dayR_lt (y := a0) (m := a1) (d := a2) (y' := b0) (m' := b1) (d' := b2) (by omega) (by omega) (by omega) (by omega) (by omega) (by unfold Lt6 at h; omega)
    omega

theorem lt6_tri (a0 a1 a2 a3 a4 a5 b0 b1 b2 b3 b4 b5 : Int) : Lt6 a0 a1 a2 a3 a4 a5 b0 b1 b2 b3 b4 b5 ∨ (a0 = b0 ∧ a1 = b1 ∧ a2 = b2 ∧ a3 = b3 ∧ a4 = b4 ∧ a5 = b5) ∨ Lt6 b0 b1 b2 b3 b4 b5 a0 a1 a2 a3 a4 a5 := by
  unfold Lt6; omega

theorem sec_inj {a0 a1 a2 a3 a4 a5 b0 b1 b2 b3 b4 b5 : Int} (ha : okD a0 a1 a2 a3 a4 a5 = true) (hb : okD b0 b1 b2 b3 b4 b5 = true) (h : secI a0 a1 a2 a3 a4 a5 = secI b0 b1 b2 b3 b4 b5) : a0 = b0 ∧ a1 = b1 ∧ a2 = b2 ∧ a3 = b3 ∧ a4 = b4 ∧ a5 = b5 := by
  rcases lt6_tri a0 a1 a2 a3 a4 a5 b0 b1 b2 b3 b4 b5 with h1 | h1 | h1
  · have := sec_lt ha hb h1; omega
  · exact h1
  · have := sec_lt hb ha h1; omega

theorem sec_range {a0 a1 a2 a3 a4 a5 : Int} (ha : okD a0 a1 a2 a3 a4 a5 = true) : -631152000 ≤ secI a0 a1 a2 a3 a4 a5 ∧ secI a0 a1 a2 a3 a4 a5 ≤ 7258118399 := by
  have e1 : secI 1950 1 1 0 0 0 = -631152000 := by decide +kernel
  have e2 : secI 2199 12 31 23 59 59 = 7258118399 := by decide +kernel
  have hl := okD_e ha
  have h1 : okD 1950 1 1 0 0 0 = true := by decide +kernel
  have h2 : okD 2199 12 31 23 59 59 = true := by decide +kernel
  constructor
  · rcases lt6_tri 1950 1 1 0 0 0 a0 a1 a2 a3 a4 a5 with h | ⟨rfl, rfl, rfl, rfl, rfl, rfl⟩ | h
    · have := sec_lt h1 ha h; omega
    · omega
    · unfold Lt6 at h; omega
  · rcases lt6_tri a0 a1 a2 a3 a4 a5 2199 12 31 23 59 59 with h | ⟨rfl, rfl, rfl, rfl, rfl, rfl⟩ | h
    · have := sec_lt ha h2 h; omega
    · omega
    · have h3 := lastI_bd (y := a0) (m := a1) (by omega) (by omega)
      unfold Lt6 at h; omega

/-- Two answers of 'Date' to the same seconds are the same. -/
theorem DateV_one {s : Int} {v w : Value} (hv : DateV s v) (hw : DateV s w) : v = w := by
  unfold DateV at hv hw
  split at hv
  · rename_i hs
    rw [if_pos hs] at hw
    obtain ⟨d0, d1, d2, d3, d4, d5, h1, h2, rfl⟩ := hv
    obtain ⟨e0, e1, e2, e3, e4, e5, k1, k2, rfl⟩ := hw
    obtain ⟨rfl, rfl, rfl, rfl, rfl, rfl⟩ := sec_inj h1 k1 (h2.trans k2.symm)
    rfl
  · rename_i hs
    rw [if_neg hs] at hw
    rw [hv, hw]

/-! ### A moment's digits -/
def dg (n : Nat) : UInt8 := UInt8.ofNat (48 + n % 10)
def d2 (n : Nat) : List UInt8 := [dg (n / 10), dg n]
def tailL (d1 d2' d3 d4 d5 : Nat) : List UInt8 := d2 d1 ++ (d2 d2' ++ (d2 d3 ++ (d2 d4 ++ (d2 d5 ++ [90]))))
def shortL (d0 d1 d2' d3 d4 d5 : Nat) : List UInt8 := d2 d0 ++ tailL d1 d2' d3 d4 d5
def longL (d0 d1 d2' d3 d4 d5 : Nat) : List UInt8 := d2 (d0 / 100) ++ shortL d0 d1 d2' d3 d4 d5
theorem dg_nat (n : Nat) : (dg n).toNat = 48 + n % 10 := by
  rw [dg, UInt8.toNat_ofNat']; omega
theorem dgV (n : Nat) : u8V (dg n) = .int .u8 (48 + ((n % 10 : Nat) : Int)) := by
  rw [u8V, dg_nat]; congr 1
theorem dgV' {n : Nat} (h : n < 10) : u8V (dg n) = .int .u8 (48 + (n : Int)) := by
  rw [dgV, Nat.mod_eq_of_lt h]
end Go.Ga

namespace Go.Ga
open Go Go.Proofs
set_option maxRecDepth 100000

def d_clock_digits : List (List Nat) := [[], [], [0, 1], [], [3], [2, 2, 0, 1, 2], [4, 5, 0, 1, 2, 3, 4, 5], [6, 0, 1, 2, 3, 4, 5, 6]]
def q_clock_digits : List (Option (List Nat)) := [(some []), none, none, none, none, (some [2]), (some [4]), (some [])]
def c_clock_digits : RFn :=
  ⟨63,
  (.seq
  (.ops [] [
  ⟨(some 2), (.op (.mv (.k (.slice none 0 0)))), none⟩,
  ⟨(some 3), (.op (.mv (.k (.int .i64 0)))), none⟩,
  ⟨(some 4), (.op (.mv (.k (.bool false)))), none⟩])
  (.seq
  (.ops [] [
  ⟨(some 11), (.op (.mv (.t 0))), none⟩,
  ⟨(some 12), (.call (.k (.func (.func 29) #[] #[])) [(.t 11)]), none⟩,
  ⟨(some 10), (.op (.mv (.t 12))), none⟩,
  ⟨(some 13), (.op (.extract (.t 10) 0)), none⟩,
  ⟨(some 14), (.op (.extract (.t 10) 1)), none⟩,
  ⟨(some 5), (.op (.new [(.int .i64 0), (.int .i64 0), (.int .i64 0), (.int .i64 0), (.int .i64 0), (.int .i64 0)])), none⟩,
  ⟨none, (.op (.store 6 (.t 5) (.t 13))), none⟩,
  ⟨(some 6), (.op (.mv (.t 14))), none⟩])
  (.seq
  (.seq
  (.ops [] [
  ⟨(some 15), (.op (.mv (.t 6))), none⟩,
  ⟨(some 16), (.op (.un .not (.t 15))), none⟩])
  (.cond (.t 16)
  (.seq
  (.ops [] [
  ⟨(some 2), (.op (.mv (.k (.slice none 0 0)))), none⟩,
  ⟨(some 3), (.op (.mv (.k (.int .i64 0)))), none⟩,
  ⟨(some 4), (.op (.mv (.k (.bool false)))), none⟩])
  .ret)
  .skip))
  (.seq
  (.ops [] [
  ⟨(some 17), (.op (.ixAddrA 6 1 (.t 5) (.k (.int .i64 0)))), none⟩,
  ⟨(some 18), (.op (.load1 (.t 17))), none⟩,
  ⟨(some 19), (.op (.bin .quo (.t 18) (.k (.int .i64 1000)))), none⟩,
  ⟨(some 20), (.op (.bin .add (.k (.int .i64 48)) (.t 19))), none⟩,
  ⟨(some 21), (.op (.toInt .u8 (.t 20))), none⟩,
  ⟨(some 22), (.op (.ixAddrA 6 1 (.t 5) (.k (.int .i64 0)))), none⟩,
  ⟨(some 23), (.op (.load1 (.t 22))), none⟩,
  ⟨(some 24), (.op (.bin .quo (.t 23) (.k (.int .i64 100)))), none⟩,
  ⟨(some 25), (.op (.bin .rem (.t 24) (.k (.int .i64 10)))), none⟩,
  ⟨(some 26), (.op (.bin .add (.k (.int .i64 48)) (.t 25))), none⟩,
  ⟨(some 27), (.op (.toInt .u8 (.t 26))), none⟩,
  ⟨(some 28), (.op (.ixAddrA 6 1 (.t 5) (.k (.int .i64 0)))), none⟩,
  ⟨(some 29), (.op (.load1 (.t 28))), none⟩,
  ⟨(some 30), (.op (.bin .quo (.t 29) (.k (.int .i64 10)))), none⟩,
  ⟨(some 31), (.op (.bin .rem (.t 30) (.k (.int .i64 10)))), none⟩,
  ⟨(some 32), (.op (.bin .add (.k (.int .i64 48)) (.t 31))), none⟩,
  ⟨(some 33), (.op (.toInt .u8 (.t 32))), none⟩,
  ⟨(some 34), (.op (.ixAddrA 6 1 (.t 5) (.k (.int .i64 0)))), none⟩,
  ⟨(some 35), (.op (.load1 (.t 34))), none⟩,
  ⟨(some 36), (.op (.bin .rem (.t 35) (.k (.int .i64 10)))), none⟩,
  ⟨(some 37), (.op (.bin .add (.k (.int .i64 48)) (.t 36))), none⟩,
  ⟨(some 38), (.op (.toInt .u8 (.t 37))), none⟩,
  ⟨(some 39), (.op (.mkSl 4 [(.int .u8 0), (.int .u8 0), (.int .u8 0), (.int .u8 0)] [(0, (1, (.t 21))), (1, (1, (.t 27))), (2, (1, (.t 33))), (3, (1, (.t 38)))])), none⟩,
  ⟨(some 7), (.op (.mv (.t 39))), none⟩])
  (.seq
  (.seq
  (.ops [] [
  ⟨(some 40), (.op (.slArr 6 1 (.t 5) (some (.k (.int .i64 1))) none none)), none⟩,
  ⟨(some 41), (.op (.lenSl (.t 40))), none⟩,
  ⟨(some 42), (.op (.mv (.k (.int .i64 0)))), none⟩])
  (.block 0
  (.loop
  (.seq
  (.ops [] [
  ⟨(some 43), (.op (.bin .lss (.t 42) (.t 41))), none⟩])
  (.seq
  (.cond (.t 43)
  .skip
  (.exit 0))
  (.seq
  (.block 1
  (.seq
  (.ops [] [
  ⟨(some 44), (.op (.ixAddr 1 (.t 40) (.t 42))), none⟩,
  ⟨(some 45), (.op (.load1 (.t 44))), none⟩,
  ⟨(some 9), (.op (.mv (.t 45))), none⟩])
  (.ops [] [
  ⟨(some 46), (.op (.mv (.t 7))), none⟩,
  ⟨(some 47), (.op (.mv (.t 9))), none⟩,
  ⟨(some 48), (.op (.bin .quo (.t 47) (.k (.int .i64 10)))), none⟩,
  ⟨(some 49), (.op (.bin .add (.k (.int .i64 48)) (.t 48))), none⟩,
  ⟨(some 50), (.op (.toInt .u8 (.t 49))), none⟩,
  ⟨(some 51), (.op (.mv (.t 9))), none⟩,
  ⟨(some 52), (.op (.bin .rem (.t 51) (.k (.int .i64 10)))), none⟩,
  ⟨(some 53), (.op (.bin .add (.k (.int .i64 48)) (.t 52))), none⟩,
  ⟨(some 54), (.op (.toInt .u8 (.t 53))), none⟩,
  ⟨(some 55), (.op (.mkSl 2 [(.int .u8 0), (.int .u8 0)] [(0, (1, (.t 50))), (1, (1, (.t 54)))])), none⟩,
  ⟨(some 56), (.op (.append 1 1 (.t 46) (.t 55))), none⟩,
  ⟨(some 7), (.op (.mv (.t 56))), none⟩])))
  (.ops [] [
  ⟨(some 57), (.op (.bin .add (.t 42) (.k (.int .i64 1)))), none⟩,
  ⟨(some 42), (.op (.mv (.t 57))), none⟩])))))))
  (.seq
  (.tree [
  ⟨(some 58), (.op (.mv (.t 7))), none⟩,
  ⟨(some 59), (.op (.mkSl 1 [(.int .u8 0)] [(0, (1, (.k (.int .u8 90))))])), none⟩,
  ⟨(some 60), (.op (.append 1 1 (.t 58) (.t 59))), none⟩,
  ⟨(some 61), (.op (.ixAddrA 6 1 (.t 5) (.k (.int .i64 0)))), none⟩,
  ⟨(some 62), (.op (.load1 (.t 61))), none⟩,
  ⟨(some 2), (.op (.mv (.t 60))), none⟩,
  ⟨(some 3), (.op (.mv (.t 62))), none⟩,
  ⟨(some 4), (.op (.mv (.k (.bool true)))), none⟩] d_clock_digits q_clock_digits)
  .ret)))))),
  [(.t 2), (.t 3), (.t 4)]⟩
theorem r_clock_digits : resolveFn Try.prog 49 [10] = some c_clock_digits := by kernel_rfl

theorem t_clock_digits : nextL d_clock_digits q_clock_digits 0 = [0] ∧ nextL d_clock_digits q_clock_digits 1 = [1, 3] ∧ nextL d_clock_digits q_clock_digits 3 = [2, 3] ∧ nextL d_clock_digits q_clock_digits 7 = [5] ∧ nextL d_clock_digits q_clock_digits 9 = [1, 4] ∧ nextL d_clock_digits q_clock_digits 11 = [2, 4] ∧ nextL d_clock_digits q_clock_digits 15 = [5] ∧ nextL d_clock_digits q_clock_digits 25 = [1] ∧ nextL d_clock_digits q_clock_digits 27 = [2] ∧ nextL d_clock_digits q_clock_digits 31 = [5] ∧ nextL d_clock_digits q_clock_digits 39 = [3] ∧ nextL d_clock_digits q_clock_digits 47 = [4] ∧ nextL d_clock_digits q_clock_digits 63 = [6] ∧ nextL d_clock_digits q_clock_digits 127 = [7] ∧ nextL d_clock_digits q_clock_digits 255 = [] := by decide +kernel

def c_clock_Read : RFn :=
  ⟨105,
  (.seq
  (.ops [] [
  ⟨(some 4), (.op (.mv (.k (.int .i64 0)))), none⟩,
  ⟨(some 5), (.op (.mv (.k (.bool false)))), none⟩])
  (.seq
  (.ops [] [
  ⟨(some 6), (.op (.mv (.k (.int .i64 13)))), none⟩])
  (.seq
  (.seq
  (.ops [] [
  ⟨(some 9), (.op (.mv (.t 1))), none⟩])
  (.cond (.t 9)
  (.ops [] [
  ⟨(some 6), (.op (.mv (.k (.int .i64 15)))), none⟩])
  .skip))
  (.seq
  (.seq
  (.ops [] [
  ⟨(some 10), (.op (.mv (.t 0))), none⟩,
  ⟨(some 11), (.op (.lenStr (.t 10))), none⟩,
  ⟨(some 12), (.op (.mv (.t 6))), none⟩,
  ⟨(some 13), (.op (.bin .neq (.t 11) (.t 12))), none⟩,
  ⟨(some 14), (.op (.mv (.t 13))), none⟩,
  ⟨(some 15), (.op (.mv (.t 0))), (some (14, false))⟩,
  ⟨(some 16), (.op (.mv (.t 6))), (some (14, false))⟩,
  ⟨(some 17), (.op (.bin .sub (.t 16) (.k (.int .i64 1)))), (some (14, false))⟩,
  ⟨(some 18), (.op (.ixStr (.t 15) (.t 17))), (some (14, false))⟩,
  ⟨(some 19), (.op (.bin .neq (.t 18) (.k (.int .u8 90)))), (some (14, false))⟩,
  ⟨(some 20), (.op (.pick (.t 14) (.k (.bool true)) (.t 19))), none⟩])
  (.cond (.t 20)
  (.seq
  (.ops [] [
  ⟨(some 4), (.op (.mv (.k (.int .i64 0)))), none⟩,
  ⟨(some 5), (.op (.mv (.k (.bool false)))), none⟩])
  .ret)
  .skip))
  (.seq
  (.ops [] [
  ⟨(some 21), (.op (.mv (.t 0))), none⟩,
  ⟨(some 22), (.op (.s2b (.t 21))), none⟩,
  ⟨(some 23), (.op (.mv (.t 6))), none⟩,
  ⟨(some 24), (.op (.bin .sub (.t 23) (.k (.int .i64 1)))), none⟩,
  ⟨(some 25), (.op (.mv (.t 6))), none⟩,
  ⟨(some 26), (.op (.bin .sub (.t 25) (.k (.int .i64 1)))), none⟩,
  ⟨(some 27), (.op (.sl 1 (.t 22) none (some (.t 24)) (some (.t 26)))), none⟩,
  ⟨(some 7), (.op (.mv (.t 27))), none⟩])
  (.seq
  (.ops [] [
  ⟨(some 8), (.op (.mv (.k (.slice none 0 0)))), none⟩])
  (.seq
  (.block 0
  (.loop
  (.seq
  (.seq
  (.ops [] [
  ⟨(some 28), (.op (.mv (.t 7))), none⟩,
  ⟨(some 29), (.op (.lenSl (.t 28))), none⟩,
  ⟨(some 30), (.op (.bin .gtr (.t 29) (.k (.int .i64 0)))), none⟩])
  (.cond (.t 30)
  .skip
  (.exit 0)))
  (.seq
  (.block 1
  (.seq
  (.seq
  (.ops [] [
  ⟨(some 33), (.op (.mv (.t 7))), none⟩,
  ⟨(some 34), (.op (.ixAddr 1 (.t 33) (.k (.int .i64 0)))), none⟩,
  ⟨(some 35), (.op (.load1 (.t 34))), none⟩,
  ⟨(some 36), (.op (.bin .lss (.t 35) (.k (.int .u8 48)))), none⟩,
  ⟨(some 37), (.op (.mv (.t 36))), none⟩,
  ⟨(some 38), (.op (.mv (.t 7))), (some (37, false))⟩,
  ⟨(some 39), (.op (.ixAddr 1 (.t 38) (.k (.int .i64 0)))), (some (37, false))⟩,
  ⟨(some 40), (.op (.load1 (.t 39))), (some (37, false))⟩,
  ⟨(some 41), (.op (.bin .gtr (.t 40) (.k (.int .u8 57)))), (some (37, false))⟩,
  ⟨(some 42), (.op (.pick (.t 37) (.k (.bool true)) (.t 41))), none⟩,
  ⟨(some 43), (.op (.mv (.t 42))), none⟩,
  ⟨(some 44), (.op (.mv (.t 7))), (some (43, false))⟩,
  ⟨(some 45), (.op (.ixAddr 1 (.t 44) (.k (.int .i64 1)))), (some (43, false))⟩,
  ⟨(some 46), (.op (.load1 (.t 45))), (some (43, false))⟩,
  ⟨(some 47), (.op (.bin .lss (.t 46) (.k (.int .u8 48)))), (some (43, false))⟩,
  ⟨(some 48), (.op (.pick (.t 43) (.k (.bool true)) (.t 47))), none⟩,
  ⟨(some 49), (.op (.mv (.t 48))), none⟩,
  ⟨(some 50), (.op (.mv (.t 7))), (some (49, false))⟩,
  ⟨(some 51), (.op (.ixAddr 1 (.t 50) (.k (.int .i64 1)))), (some (49, false))⟩,
  ⟨(some 52), (.op (.load1 (.t 51))), (some (49, false))⟩,
  ⟨(some 53), (.op (.bin .gtr (.t 52) (.k (.int .u8 57)))), (some (49, false))⟩,
  ⟨(some 54), (.op (.pick (.t 49) (.k (.bool true)) (.t 53))), none⟩])
  (.cond (.t 54)
  (.seq
  (.ops [] [
  ⟨(some 4), (.op (.mv (.k (.int .i64 0)))), none⟩,
  ⟨(some 5), (.op (.mv (.k (.bool false)))), none⟩])
  .ret)
  .skip))
  (.ops [
  ⟨(some 55), (.op (.mv (.t 8))), none⟩,
  ⟨(some 56), (.op (.mv (.t 7))), none⟩,
  ⟨(some 57), (.op (.ixAddr 1 (.t 56) (.k (.int .i64 0)))), none⟩,
  ⟨(some 58), (.op (.load1 (.t 57))), none⟩,
  ⟨(some 59), (.op (.bin .sub (.t 58) (.k (.int .u8 48)))), none⟩,
  ⟨(some 60), (.op (.toInt .i64 (.t 59))), none⟩,
  ⟨(some 61), (.op (.bin .mul (.t 60) (.k (.int .i64 10)))), none⟩,
  ⟨(some 62), (.op (.mv (.t 7))), none⟩,
  ⟨(some 63), (.op (.ixAddr 1 (.t 62) (.k (.int .i64 1)))), none⟩,
  ⟨(some 64), (.op (.load1 (.t 63))), none⟩,
  ⟨(some 65), (.op (.bin .sub (.t 64) (.k (.int .u8 48)))), none⟩,
  ⟨(some 66), (.op (.toInt .i64 (.t 65))), none⟩,
  ⟨(some 67), (.op (.bin .add (.t 61) (.t 66))), none⟩,
  ⟨(some 68), (.op (.mkSl 1 [(.int .i64 0)] [(0, (1, (.t 67)))])), none⟩] [
  ⟨(some 69), (.op (.append 1 8 (.t 55) (.t 68))), none⟩,
  ⟨(some 8), (.op (.mv (.t 69))), none⟩])))
  (.ops [] [
  ⟨(some 31), (.op (.mv (.t 7))), none⟩,
  ⟨(some 32), (.op (.sl 1 (.t 31) (some (.k (.int .i64 2))) none none)), none⟩,
  ⟨(some 7), (.op (.mv (.t 32))), none⟩])))))
  (.seq
  (.block 2
  (.seq
  (.ops [] [
  ⟨(some 76), (.op (.mv (.t 1))), none⟩,
  ⟨(some 75), (.op (.mv (.t 76))), none⟩])
  (.cond (.t 75)
  (.ops [
  ⟨(some 77), (.op (.mv (.t 8))), none⟩,
  ⟨(some 78), (.op (.ixAddr 1 (.t 77) (.k (.int .i64 0)))), none⟩,
  ⟨(some 79), (.op (.load1 (.t 78))), none⟩,
  ⟨(some 80), (.op (.bin .mul (.t 79) (.k (.int .i64 100)))), none⟩,
  ⟨(some 81), (.op (.mv (.t 8))), none⟩,
  ⟨(some 82), (.op (.ixAddr 1 (.t 81) (.k (.int .i64 1)))), none⟩,
  ⟨(some 83), (.op (.load1 (.t 82))), none⟩,
  ⟨(some 84), (.op (.bin .add (.t 80) (.t 83))), none⟩,
  ⟨(some 85), (.op (.mkSl 1 [(.int .i64 0)] [(0, (1, (.t 84)))])), none⟩,
  ⟨(some 86), (.op (.mv (.t 8))), none⟩,
  ⟨(some 87), (.op (.sl 1 (.t 86) (some (.k (.int .i64 2))) none none)), none⟩] [
  ⟨(some 88), (.op (.append 1 8 (.t 85) (.t 87))), none⟩,
  ⟨(some 8), (.op (.mv (.t 88))), none⟩])
  (.seq
  (.ops [] [
  ⟨(some 90), (.op (.mv (.t 8))), none⟩,
  ⟨(some 91), (.op (.ixAddr 1 (.t 90) (.k (.int .i64 0)))), none⟩,
  ⟨(some 92), (.op (.load1 (.t 91))), none⟩,
  ⟨(some 93), (.op (.bin .lss (.t 92) (.k (.int .i64 50)))), none⟩,
  ⟨(some 89), (.op (.mv (.t 93))), none⟩])
  (.cond (.t 89)
  (.ops [] [
  ⟨(some 94), (.op (.mv (.t 8))), none⟩,
  ⟨(some 95), (.op (.ixAddr 1 (.t 94) (.k (.int .i64 0)))), none⟩,
  ⟨(some 96), (.op (.load1 (.t 95))), none⟩,
  ⟨(some 97), (.op (.bin .add (.t 96) (.k (.int .i64 2000)))), none⟩,
  ⟨(some 98), (.op (.ixAddr 1 (.t 94) (.k (.int .i64 0)))), none⟩,
  ⟨none, (.op (.store 1 (.t 98) (.t 97))), none⟩])
  (.ops [] [
  ⟨(some 70), (.op (.mv (.t 8))), none⟩,
  ⟨(some 71), (.op (.ixAddr 1 (.t 70) (.k (.int .i64 0)))), none⟩,
  ⟨(some 72), (.op (.load1 (.t 71))), none⟩,
  ⟨(some 73), (.op (.bin .add (.t 72) (.k (.int .i64 1900)))), none⟩,
  ⟨(some 74), (.op (.ixAddr 1 (.t 70) (.k (.int .i64 0)))), none⟩,
  ⟨none, (.op (.store 1 (.t 74) (.t 73))), none⟩]))))))
  (.seq
  (.ops [] [
  ⟨(some 99), (.op (.mv (.t 8))), none⟩,
  ⟨(some 100), (.xop (.s2a 6 (.t 99))), none⟩,
  ⟨(some 101), (.op (.loadN 6 (.t 100))), none⟩,
  ⟨(some 102), (.call (.k (.func (.func 27) #[] #[])) [(.t 101)]), none⟩,
  ⟨(some 103), (.op (.extract (.t 102) 0)), none⟩,
  ⟨(some 104), (.op (.extract (.t 102) 1)), none⟩,
  ⟨(some 4), (.op (.mv (.t 103))), none⟩,
  ⟨(some 5), (.op (.mv (.t 104))), none⟩])
  .ret))))))))),
  [(.t 4), (.t 5)]⟩
theorem r_clock_Read : resolveFn Try.prog 37 = some c_clock_Read := by kernel_rfl

end Go.Ga

/- A slice that is only appended to, from whatever it began as. -/
namespace Go.Ga
open Go

/-- A slice of one's own, or one that has no room behind it. -/
def Grow (nx b x : Nat) (g : Nat → Option Blk) (e : Nat) (A : Option Addr) (n : Nat) (l : List Value) : Prop :=
  Own nx b x g e A n l ∨ (l.length = n * e ∧ Row x g e A (n * e) l ∧ ∃ a, A = some a ∧ a.spot = none)

theorem Grow.nil {nx b x g e} : Grow nx b x g e none 0 [] := .inl .nil
theorem Grow.keep {nx b x g e A n l x' g'} (h : Grow nx b x g e A n l) (h1 : x ≤ x') (h2 : ∀ i, i < x → g' i = g i) : Grow nx b x' g' e A n l := by
  rcases h with h | ⟨h, h3, h4⟩
  · exact .inl (h.keep h1 h2)
  · exact .inr ⟨h, h3.keep h1 h2, h4⟩
theorem Grow.row {nx b x g e A n l} (h : Grow nx b x g e A n l) : Row x g e A (n * e) l := by
  rcases h with h | ⟨_, h, _⟩
  · exact h.row
  · exact h
theorem Grow.len {nx b x g e A n l} (h : Grow nx b x g e A n l) : l.length = n * e := by
  rcases h with h | ⟨h, _⟩
  · exact h.1
  · exact h

theorem grow_append {nx b x n k e bytes : Nat} {g : Nat → Option Blk} {A : Option Addr} {l news : List Value} {K : Value → Mem → Prop} (h : Grow nx b x g e A n l) (he : 0 < e) (hx : nx ≤ x) (hb : b ≤ x) (hk : 0 < k) (hl : news.length = k * e)
    (hv : ∀ v ∈ news, cellVal v = true) (hs : (n + k) * bytes ≤ 140737488355328) (hs' : n + k ≤ 9223372036854775807)
    (hK : ∀ g', (∀ i, i < nx → g' i = g i) → Own nx b (x + 1) g' e (some ⟨x, 0, some e⟩) (n + k) (l ++ news) → K (.slice (some ⟨x, 0, some e⟩) (n + k) (n + k)) ⟨x + 1, b, g'⟩) :
    appendK e bytes ⟨x, b, g⟩ A n n k news K := by
  rcases h with h | ⟨h1, h2, a, rfl, h3⟩
  · exact own_append h he hx hb hk hl hv hs hs' hK
  · have hr : rowOf ⟨x, b, g⟩ (some a) (n * e) = some l := h2.rowOf
    unfold appendK
    refine ⟨hl, he, hv, ?_⟩
    rw [if_neg (by omega)]
    refine ⟨hs, hs', ?_⟩
    rw [hr]
    simp only [h3]
    exact hK (upd g x (some (.cells (l ++ news) false))) (fun i hi => by simp only [upd_e]; rw [if_neg (by omega)])
      ⟨by simp [h1, hl, Nat.add_mul], .inr ⟨x, rfl, hx, by omega, hb, by simp only [upd_e, if_true]⟩⟩

theorem grow_app {nx b x n k e bytes : Nat} {g : Nat → Option Blk} {A : Option Addr} {l news : List Value} {K : Value → Mem → Prop} (h : Grow nx b x g e A n l) (he : 0 < e) (hx : nx ≤ x) (hb : b ≤ x) (hl : news.length = k * e)
    (hv : ∀ v ∈ news, cellVal v = true) (hs : (n + k) * bytes ≤ 140737488355328) (hs' : n + k ≤ 9223372036854775807)
    (hK : ∀ A' x' g', x ≤ x' → (∀ i, i < nx → g' i = g i) → Grow nx b x' g' e A' (n + k) (l ++ news) → K (.slice A' (n + k) (n + k)) ⟨x', b, g'⟩) :
    appendK e bytes ⟨x, b, g⟩ A n n k news K := by
  by_cases hk : k = 0
  · subst hk
    have hn : news = [] := List.eq_nil_of_length_eq_zero (by simpa using hl)
    subst hn
    have := hK A x g (Nat.le_refl _) (fun _ _ => rfl) (by simpa using h)
    unfold appendK
    refine ⟨by simp, he, by simp, ?_⟩
    rw [if_pos (by omega)]
    cases A with
    | none => exact this
    | some a => simpa using this
  · exact grow_append h he hx hb (by omega) hl hv hs hs' fun g' h1 h2 => hK _ _ _ (Nat.le_succ _) h1 (.inl h2)

/-- What a literal's slice begins as. -/
theorem Grow.lit {nx b x q n e : Nat} {g : Nat → Option Blk} {l : List Value} {ro : Bool} (hq : q < x) (hg : g q = some (.cells l ro)) (hl : l.length = n * e) : Grow nx b x g e (some ⟨q, 0, none⟩) n l :=
  .inr ⟨hl, ⟨fun a h => by injection h with h; subst h; exact .inl rfl, hl, fun _ => ⟨_, l, ro, rfl, hq, hg, by simp only; omega, fun i _ => by simp⟩⟩, _, rfl, rfl⟩

theorem Grow.byte {nx b x g A n} {l : List UInt8} (h : Grow nx b x g 1 A n (l.map u8V)) : BySl x g (.slice A n n) l :=
  ⟨A, n, n, rfl, Nat.le_refl _, by simpa using h.len, by simpa using h.row⟩
end Go.Ga

/- Further rules of the walk. -/
namespace Go.Ga
open Go
set_option linter.defProp false
section
variable {k : IntKind} {a b : Int} {x y : ByteArray} {K : Value → Prop}
theorem u_xor : unK .xor (.int k a) K = K (.int k (bitsV .xor k (if k.signed then -1 else k.max) a)) := (rfl)
theorem b_andNot : binK .andNot (.int k a) (.int k b) K = K (.int k (bitsV .andNot k a b)) := by simp [binK, binI]
theorem b_lsss : binK .lss (.string x) (.string y) K = K (.bool (Op.bytesLess x.toList y.toList)) := (rfl)
end
def gaV := And.intro @u_xor (And.intro @b_andNot @b_lsss)
/-- A contract, some regions gone through in every order. -/
theorem Ct.ofT {P : Program} (hmx : P.follows .mixedOrders = true) {g : Nat} {rf : RFn} {T : List Nat} (h : resolveFn P g T = some rf) {args : List Value} (hn : args.length ≤ rf.n) {nx : Nat} {gt : Nat → Option Blk} {C : Value → Nat → (Nat → Option Blk) → Prop}
    (hv : ∀ b, b ≤ nx → rf.code.vc P (fun i => args.getD i undef) ⟨nx, b, gt⟩ (D P (.top (endK rf.results b nx gt C)))) : Ct P g args nx gt C := by
  intro b hb
  refine fn_sound hmx h hn ?_
  have e : D P (.top (endK rf.results b nx gt C)) = retK rf.results fun res m' => ∃ v, res = .ret v ∧ m'.bar = b ∧ nx ≤ m'.next ∧ (∀ n, n < nx → m'.get n = gt n) ∧ C v m'.next m'.get := by
    funext x f m'
    cases x <;> simp [D, endK, retK, asO] <;> (cases resVals f m' rf.results <;> simp)
  rw [← e]
  exact hv b hb

end Go.Ga

namespace Go.Ga
open Go Go.Proofs
set_option linter.unusedSimpArgs false
set_option linter.unusedVariables false
set_option maxRecDepth 100000

/-- What 'digits' answers. -/
def DigV (nx : Nat) (gt : Nat → Option Blk) (s : Int) (v : Value) : Prop :=
  if -631152000 ≤ s ∧ s ≤ 7258118399 then ∃ d0 d1 d2 d3 d4 d5 : Nat, okD d0 d1 d2 d3 d4 d5 = true ∧ secI d0 d1 d2 d3 d4 d5 = s ∧ ∃ sl, v = .tuple #[sl, .int .i64 d0, .bool true] ∧ BySl nx gt sl (longL d0 d1 d2 d3 d4 d5)
  else v = .tuple #[.slice none 0 0, .int .i64 0, .bool false]

theorem dq (n k : Nat) : ((n : Nat) : Int).tdiv (k : Nat) = ((n / k : Nat) : Int) := rfl
theorem dr (n k : Nat) : ((n : Nat) : Int).tmod (k : Nat) = ((n % k : Nat) : Int) := rfl
theorem dgW (n : Nat) : IntKind.u8.wrap (IntKind.i64.wrap (48 + ((n % 10 : Nat) : Int))) = 48 + ((n % 10 : Nat) : Int) := by
  rw [i64_w _ (by omega), u8_i _ (by omega)]
theorem dgW' {n : Nat} (h : n < 10) : IntKind.u8.wrap (IntKind.i64.wrap (48 + (n : Int))) = 48 + (n : Int) := by
  rw [i64_w _ (by omega), u8_i _ (by omega)]

def dsL (d0 d1 d2' d3 d4 d5 i : Nat) : List UInt8 := d2 (d0 / 100) ++ (d2 d0 ++ ([d1, d2', d3, d4, d5].take i).flatMap d2)

set_option maxHeartbeats 1000000 in
theorem ct_digits {nx : Nat} {gt : Nat → Option Blk} {s : Int} (hs : -9223372036854775808 ≤ s ∧ s ≤ 9223372036854775807) :
    Ct Try.prog 49 [.int .i64 s] nx gt fun v nx' gt' => DigV nx' gt' s v := by
  refine Ct.ofT hmx r_clock_digits (by simp [c_clock_digits]) fun b hb => ?_
  simp only [c_clock_digits, ↓gaW, ↓gaV, ↓gaC, ↓gaN, gaP, Nat.reduceEqDiff, Nat.reduceLeDiff, Nat.reduceAdd, Nat.reduceSub, Nat.reduceMul, Int.reduceLT, Int.reduceLE, Int.reduceEq, Int.reduceToNat, Int.reduceAdd, Int.reduceSub, Int.reduceMul, reduceCtorEq, ↓reduceIte, List.getD_cons_zero, List.getD_cons_succ, fillL, splice, List.take_zero, List.drop_zero, List.drop_succ_cons, List.take_succ_cons, List.drop_nil, List.take_nil]
  refine callK_of (ct_Date hs) (fun v n1 g1 l1 k1 hC => ?_) hb
  by_cases hr : -631152000 ≤ s ∧ s ≤ 7258118399
  · rw [DateV, if_pos hr] at hC
    obtain ⟨e0, e1, e2, e3, e4, e5, ho, hsec, rfl⟩ := hC
    have hb6 := okD_e ho
    have hlb := lastI_bd (y := e0) (m := e1) (by omega) (by omega)
    obtain ⟨d0, rfl⟩ : ∃ n : Nat, e0 = n := ⟨e0.toNat, by omega⟩
    obtain ⟨d1, rfl⟩ : ∃ n : Nat, e1 = n := ⟨e1.toNat, by omega⟩
    obtain ⟨d2', rfl⟩ : ∃ n : Nat, e2 = n := ⟨e2.toNat, by omega⟩
    obtain ⟨d3, rfl⟩ : ∃ n : Nat, e3 = n := ⟨e3.toNat, by omega⟩
    obtain ⟨d4, rfl⟩ : ∃ n : Nat, e4 = n := ⟨e4.toNat, by omega⟩
    obtain ⟨d5, rfl⟩ : ∃ n : Nat, e5 = n := ⟨e5.toNat, by omega⟩
    have q1 : ((d0 : Nat) : Int).tdiv 1000 = ((d0 / 100 / 10 % 10 : Nat) : Int) := by rw [Nat.mod_eq_of_lt (by omega), Nat.div_div_eq_div_mul]; rfl
    have q2 : ((d0 : Nat) : Int).tdiv 100 = ((d0 / 100 : Nat) : Int) := rfl
    have q3 : ((d0 : Nat) : Int).tdiv 10 = ((d0 / 10 : Nat) : Int) := rfl
    have q4 : ((d0 : Nat) : Int).tmod 10 = ((d0 % 10 : Nat) : Int) := rfl
    have q5 : ((d0 / 100 : Nat) : Int).tmod 10 = ((d0 / 100 % 10 : Nat) : Int) := rfl
    have q6 : ((d0 / 10 : Nat) : Int).tmod 10 = ((d0 / 10 % 10 : Nat) : Int) := rfl
    simp only [↓gaW, ↓gaV, ↓gaC, ↓gaN, gaP, Nat.reduceEqDiff, Nat.reduceLeDiff, Nat.reduceAdd, Nat.reduceSub, Nat.reduceMul, Int.reduceLT, Int.reduceLE, Int.reduceEq, Int.reduceToNat, Int.reduceAdd, Int.reduceSub, Int.reduceMul, reduceCtorEq, ↓reduceIte, List.getD_cons_zero, List.getD_cons_succ, fillL, splice, List.take_zero, List.drop_zero, List.drop_succ_cons, List.take_succ_cons, List.drop_nil, List.take_nil, q1, q2, q3, q4, q5, q6, i64_w ((d0 / 100 : Nat) : Int) (by omega), i64_w ((d0 / 10 : Nat) : Int) (by omega), i64_w ((d0 / 100 / 10 % 10 : Nat) : Int) (by omega), dgW, ← dgV]
    have all6 : ∀ v ∈ [Value.int .i64 (d0 : Nat), .int .i64 (d1 : Nat), .int .i64 (d2' : Nat), .int .i64 (d3 : Nat), .int .i64 (d4 : Nat), .int .i64 (d5 : Nat)], cellVal v = true := by
      intro v hv
      simp only [List.mem_cons, List.not_mem_nil, or_false] at hv
      rcases hv with rfl | rfl | rfl | rfl | rfl | rfl <;> rfl
    repeat refine And.intro (by first | omega | exact all6) ?_
    have fp : ∀ i, i < 5 → dsL d0 d1 d2' d3 d4 d5 (i + 1) = dsL d0 d1 d2' d3 d4 d5 i ++ d2 ([d1, d2', d3, d4, d5].getD i 0) := by
      intro i hi
      rcases i with _ | _ | _ | _ | _ | i <;> first | rfl | omega
    have hcell : ∀ i, i < 5 → ([Value.int .i64 (d0 : Nat), .int .i64 (d1 : Nat), .int .i64 (d2' : Nat), .int .i64 (d3 : Nat), .int .i64 (d4 : Nat), .int .i64 (d5 : Nat)] : List Value).getD (1 + i) undef = .int .i64 (([d1, d2', d3, d4, d5].getD i 0 : Nat) : Int) := by
      intro i hi
      rcases i with _ | _ | _ | _ | _ | i <;> first | rfl | omega
    have hbd : ∀ i, i < 5 → [d1, d2', d3, d4, d5].getD i 0 < 100 := by
      intro i hi
      rcases i with _ | _ | _ | _ | _ | i <;> simp only [List.getD_cons_zero, List.getD_cons_succ] <;> omega
    have hlen : ∀ i, i ≤ 5 → (dsL d0 d1 d2' d3 d4 d5 i).length = 4 + 2 * i := by
      intro i hi
      rcases i with _ | _ | _ | _ | _ | _ | i <;> first | rfl | omega
    refine loop_of (fun j f m => ∃ (i x : Nat) (g : Nat → Option Blk) (A : Option Addr), j = 5 - i ∧ i ≤ 5 ∧ f 5 = .pointer (some ⟨n1, 0, none⟩) ∧ f 40 = .slice (some ⟨n1, 1, none⟩) 5 5 ∧ f 41 = .int .i64 5 ∧ f 42 = .int .i64 (i : Nat) ∧ f 7 = .slice A (4 + 2 * i) (4 + 2 * i) ∧ m = ⟨x, b, g⟩ ∧ n1 + 1 ≤ x ∧ (∀ i, i < nx → g i = gt i) ∧
      g n1 = some (.cells [.int .i64 (d0 : Nat), .int .i64 (d1 : Nat), .int .i64 (d2' : Nat), .int .i64 (d3 : Nat), .int .i64 (d4 : Nat), .int .i64 (d5 : Nat)] false) ∧ Grow (n1 + 1) b x g 1 A (4 + 2 * i) ((dsL d0 d1 d2' d3 d4 d5 i).map u8V) ∧ (0 < i → Own (n1 + 1) b x g 1 A (4 + 2 * i) ((dsL d0 d1 d2' d3 d4 d5 i).map u8V))) 5
      ⟨0, n1 + 2, _, some ⟨n1 + 1, 0, none⟩, rfl, by omega, rfl, rfl, rfl, rfl, rfl, rfl, by omega, fun i hi => by simp only [upd_e]; rw [if_neg (by omega), if_neg (by omega), if_neg (by omega), k1 i hi], by simp [upd_e], Grow.lit (ro := false) (by omega) (by simp only [upd_e, if_true]; rfl) rfl, fun h => absurd h (Nat.lt_irrefl 0)⟩ ?_
    rintro j f m ⟨i, x, g, A, rfl, hi, h5, h40, h41, h42, h7, rfl, hx, hg, hgn, hgr, hown⟩
    simp only [↓gaW, ↓gaV, ↓gaC, ↓gaN, gaP, Nat.reduceEqDiff, Nat.reduceLeDiff, Nat.reduceAdd, Nat.reduceSub, Nat.reduceMul, Int.reduceLT, Int.reduceLE, Int.reduceEq, Int.reduceToNat, Int.reduceAdd, Int.reduceSub, Int.reduceMul, reduceCtorEq, ↓reduceIte, h41, h42]
    refine condK_dec (fun hlt => ?_) fun hge => ?_
    · have hi5 : i < 5 := by omega
      have hd := hbd i hi5
      obtain ⟨n, hn⟩ : ∃ n, [d1, d2', d3, d4, d5].getD i 0 = n := ⟨_, rfl⟩
      have hc := hcell i hi5
      have hf := fp i hi5
      rw [hn] at hd hc hf
      have e1 : ((n : Nat) : Int).tdiv 10 = ((n / 10 % 10 : Nat) : Int) := by rw [Nat.mod_eq_of_lt (by omega)]; rfl
      have e2 : ((n : Nat) : Int).tmod 10 = ((n % 10 : Nat) : Int) := rfl
      simp only [↓gaW, ↓gaV, ↓gaC, ↓gaN, gaP, Nat.reduceEqDiff, Nat.reduceLeDiff, Nat.reduceAdd, Nat.reduceSub, Nat.reduceMul, Int.reduceLT, Int.reduceLE, Int.reduceEq, Int.reduceToNat, Int.reduceAdd, Int.reduceSub, Int.reduceMul, reduceCtorEq, ↓reduceIte, List.getD_cons_zero, List.getD_cons_succ, fillL, splice, List.take_zero, List.drop_zero, List.drop_succ_cons, List.take_succ_cons, List.drop_nil, List.take_nil, h5, h40, h41, h42, h7, hgn, Nat.mul_one, hc, e1, e2, i64_w ((n / 10 % 10 : Nat) : Int) (by omega), dgW, ← dgV]
      repeat refine And.intro (by omega) ?_
      rw [row_new (by simp)]
      simp only [↓gaW, ↓gaV, ↓gaC, ↓gaN, gaP, Nat.reduceEqDiff, Nat.reduceLeDiff, Nat.reduceAdd, Nat.reduceSub, Nat.reduceMul, Int.reduceLT, Int.reduceLE, Int.reduceEq, Int.reduceToNat, Int.reduceAdd, Int.reduceSub, Int.reduceMul, reduceCtorEq, ↓reduceIte, List.getD_cons_zero, List.getD_cons_succ, fillL, splice, List.take_zero, List.drop_zero, List.drop_succ_cons, List.take_succ_cons, List.drop_nil, List.take_nil]
      refine grow_append (nx := n1 + 1) (hgr.keep (by omega) (fun k hk => by simp only [upd_e]; rw [if_neg (by omega)])) (by omega) (by omega) (by omega) (by omega) (by simp) (by simp [cellVal, u8V, Value.oneCell']) (by omega) (by omega) fun g' hg' how => ?_
      have e3 : (i : Int) + 1 = ((i + 1 : Nat) : Int) := by omega
      have e4 : 4 + 2 * i + 2 = 4 + 2 * (i + 1) := by omega
      have e5 : (dsL d0 d1 d2' d3 d4 d5 i).map u8V ++ [u8V (dg (n / 10)), u8V (dg n)] = (dsL d0 d1 d2' d3 d4 d5 (i + 1)).map u8V := by rw [hf, List.map_append]; rfl
      rw [e4, e5] at how
      simp only [↓gaW, ↓gaV, ↓gaC, ↓gaN, gaP, Nat.reduceEqDiff, Nat.reduceLeDiff, Nat.reduceAdd, Nat.reduceSub, Nat.reduceMul, Int.reduceLT, Int.reduceLE, Int.reduceEq, Int.reduceToNat, Int.reduceAdd, Int.reduceSub, Int.reduceMul, reduceCtorEq, ↓reduceIte, h42, e3, i64_w ((i + 1 : Nat) : Int) (by omega), e4, loopK_n]
      exact ⟨5 - (i + 1), by omega, i + 1, x + 1 + 1, g', some ⟨x + 1, 0, some 1⟩, rfl, by omega, h5, h40, h41, rfl, rfl, rfl, by omega, fun k hk => by rw [hg' k (by omega)]; simp only [upd_e]; rw [if_neg (by omega), hg k hk], by rw [hg' n1 (by omega)]; simp only [upd_e]; rw [if_neg (by omega), hgn], .inl how, fun _ => how⟩
    · have hi5 : i = 5 := by omega
      subst hi5
      simp only [↓gaW, ↓gaV, ↓gaC, ↓gaN, gaP, Nat.reduceEqDiff, Nat.reduceLeDiff, Nat.reduceAdd, Nat.reduceSub, Nat.reduceMul, Int.reduceLT, Int.reduceLE, Int.reduceEq, Int.reduceToNat, Int.reduceAdd, Int.reduceSub, Int.reduceMul, reduceCtorEq, ↓reduceIte, List.getD_cons_zero, List.getD_cons_succ, fillL, splice, List.take_zero, List.drop_zero, List.drop_succ_cons, List.take_succ_cons, List.drop_nil, List.take_nil, h5, h40, h41, h42, h7, vc_tree]
      obtain ⟨hl, ⟨_, h0⟩ | ⟨q, rfl, q1, q2, q3, q4⟩⟩ := hown (by omega)
      · omega
      have hln := hlen 5 (Nat.le_refl 5)
      obtain ⟨G, hG⟩ : ∃ G, G = upd (upd (upd g x (some (.cells [.int .u8 90] false))) q none) (x + 1) (some (.cells ((dsL d0 d1 d2' d3 d4 d5 5).map u8V ++ [.int .u8 90]) false)) := ⟨_, rfl⟩
      have hap : ∀ K, appendK 1 1 ⟨x + 1, b, upd g x (some (.cells [.int .u8 90] false))⟩ (some ⟨q, 0, some 1⟩) 14 14 1 [.int .u8 90] K =
          K (.slice (some ⟨x + 1, 0, some 1⟩) 15 15) ⟨x + 1 + 1, b, G⟩ := by
        intro K
        subst hG
        have hqx : q ≠ x := by omega
        have hr1 : rowOf ⟨x + 1, b, upd g x (some (.cells [.int .u8 90] false))⟩ (some ⟨q, 0, some 1⟩) 14 = some ((dsL d0 d1 d2' d3 d4 d5 5).map u8V) := by
          simp [rowOf, upd, hqx, q4, hln]
          exact List.take_of_length_le (by simp [hln])
        simp [appendK, hr1, upd, hqx, q4, q3, cellVal, Value.oneCell', Mem.kill, Mem.add, Mem.set]
        exact Iff.rfl
      refine ⟨fun k => if k = 2 then .slice (some ⟨x + 1, 0, some 1⟩) 15 15 else if k = 3 then .int .i64 (d0 : Nat) else if k = 4 then .bool true else botV, ⟨x + 1 + 1, b, G⟩, ?_, ?_, ?_⟩
      rotate_left 2
      · have hnx : ¬ n1 = x := by omega
        have hr1x : rowOf ⟨x + 1, b, upd g x (some (.cells [.int .u8 90] false))⟩ (some ⟨x, 0, none⟩) 1 = some [.int .u8 90] := by simp [rowOf, upd]
        have hGn : G n1 = some (.cells [.int .i64 (d0 : Nat), .int .i64 (d1 : Nat), .int .i64 (d2' : Nat), .int .i64 (d3 : Nat), .int .i64 (d4 : Nat), .int .i64 (d5 : Nat)] false) := by
          subst hG
          have h1 : ¬ n1 = x + 1 := by omega
          have h2 : ¬ n1 = q := by omega
          simp [upd, hnx, h1, h2, hgn]
        simp only [tree_s, allP_cons, allP_nil, List.getElem?_cons_zero, List.getElem?_cons_succ, Nat.reducePow, Nat.reduceOr, Option.map, t_clock_digits, ↓gaW, ↓gaV, ↓gaC, ↓gaN, gaP, Nat.reduceEqDiff, Nat.reduceLeDiff, Nat.reduceAdd, Nat.reduceSub, Nat.reduceMul, Int.reduceLT, Int.reduceLE, Int.reduceEq, Int.reduceToNat, Int.reduceAdd, Int.reduceSub, Int.reduceMul, reduceCtorEq, ↓reduceIte, List.getD_cons_zero, List.getD_cons_succ, fillL, splice, List.take_zero, List.drop_zero, List.drop_succ_cons, List.take_succ_cons, List.drop_nil, List.take_nil, h5, h7, hgn, hap, hr1x, hGn, hnx]
        repeat' refine And.intro ?_ ?_
        all_goals first
          | omega
          | rfl
          | (intro i
             rcases (show i = 2 ∨ i = 3 ∨ i = 4 ∨ (i ≠ 2 ∧ i ≠ 3 ∧ i ≠ 4) by omega) with rfl | rfl | rfl | ⟨a1, a2, a3⟩
             · exact .inl rfl
             · exact .inl rfl
             · exact .inl rfl
             · right; simp only [if_neg a1, if_neg a2, if_neg a3])
      · simp only [gaE, implies_true, Nat.le_refl, ↓gaW, ↓gaV, ↓gaC, ↓gaN, gaP, Nat.reduceEqDiff, Nat.reduceLeDiff, Nat.reduceAdd, Nat.reduceSub, Nat.reduceMul, Int.reduceLT, Int.reduceLE, Int.reduceEq, Int.reduceToNat, Int.reduceAdd, Int.reduceSub, Int.reduceMul, reduceCtorEq, ↓reduceIte, Nat.reduceEqDiff]
        have e90 : (dsL d0 d1 d2' d3 d4 d5 5).map u8V ++ [.int .u8 90] = (longL d0 d1 d2' d3 d4 d5).map u8V := rfl
        rw [e90] at hG
        have hll : (longL d0 d1 d2' d3 d4 d5).length = 15 := rfl
        have hGx : G (x + 1) = some (.cells ((longL d0 d1 d2' d3 d4 d5).map u8V) false) := by subst hG; simp only [upd_e, if_true]
        refine ⟨by omega, fun k hk => by subst hG; simp only [upd_e]; rw [if_neg (by omega), if_neg (by omega), if_neg (by omega), hg k hk], ?_⟩
        rw [DigV, if_pos hr]
        exact ⟨d0, d1, d2', d3, d4, d5, ho, hsec, _, rfl, (Grow.byte (nx := 0) (b := 0) (.inl ⟨by simp [hll], .inr ⟨x + 1, rfl, by omega, by omega, by omega, hGx⟩⟩))⟩
      · exact ⟨rfl, by show x ≤ x + 1 + 1; omega, fun k hk => by
          have hk' : k < b := hk
          subst hG; show upd _ _ _ k = g k; simp only [upd_e]; rw [if_neg (by omega), if_neg (by omega), if_neg (by omega)]⟩
  · rw [DateV, if_neg hr] at hC
    subst hC
    simp only [↓gaW, ↓gaV, ↓gaC, ↓gaN, gaP, Nat.reduceEqDiff, Nat.reduceLeDiff, Nat.reduceAdd, Nat.reduceSub, Nat.reduceMul, Int.reduceLT, Int.reduceLE, Int.reduceEq, Int.reduceToNat, Int.reduceAdd, Int.reduceSub, Int.reduceMul, reduceCtorEq, ↓reduceIte, gaE, implies_true, Nat.le_refl, List.getD_cons_zero, List.getD_cons_succ, fillL, splice, List.take_zero, List.drop_zero, List.drop_succ_cons, List.take_succ_cons, List.drop_nil, List.take_nil]
    repeat refine And.intro (by first | omega | simp [cellVal, Value.oneCell']) ?_
    refine ⟨fun k hk => by rw [if_neg (by omega), if_neg (by omega), k1 k hk], ?_⟩
    rw [DigV, if_neg hr]
end Go.Ga

namespace Go.Ga
open Go Go.Proofs
set_option linter.unusedSimpArgs false
set_option linter.unusedVariables false
set_option maxRecDepth 100000

/-- A moment. -/
structure D6 where
  a : Nat
  b : Nat
  c : Nat
  d : Nat
  e : Nat
  f : Nat
def D6.ok (x : D6) : Prop := okD x.a x.b x.c x.d x.e x.f = true
def D6.sec (x : D6) : Int := secI x.a x.b x.c x.d x.e x.f
def D6.long (x : D6) : List UInt8 := longL x.a x.b x.c x.d x.e x.f
def D6.short (x : D6) : List UInt8 := shortL x.a x.b x.c x.d x.e x.f
def D6.cells (x : D6) : List Value := [.int .i64 x.a, .int .i64 x.b, .int .i64 x.c, .int .i64 x.d, .int .i64 x.e, .int .i64 x.f]
def inS (s : Int) : Prop := -631152000 ≤ s ∧ s ≤ 7258118399
/-- The moment of seconds. -/
def DateO (s : Int) : Option D6 → Prop
  | some x => x.ok ∧ x.sec = s
  | none => ¬ inS s

theorem date_ex {s : Int} (hs : -9223372036854775808 ≤ s ∧ s ≤ 9223372036854775807) : ∃ o, DateO s o := by
  by_cases hr : inS s
  · obtain ⟨res, m', _, v, _, _, _, _, hC⟩ := ct_Date (nx := 0) (gt := fun _ => none) hs 0 (Nat.le_refl 0) (Nat.le_refl 0)
    have hr' : -631152000 ≤ s ∧ s ≤ 7258118399 := hr
    rw [DateV, if_pos hr'] at hC
    obtain ⟨e0, e1, e2, e3, e4, e5, ho, hsec, _⟩ := hC
    have hb := okD_e ho
    have h0 : ∀ {n : Int}, 0 ≤ n → ((n.toNat : Nat) : Int) = n := fun h => Int.toNat_of_nonneg h
    refine ⟨some ⟨e0.toNat, e1.toNat, e2.toNat, e3.toNat, e4.toNat, e5.toNat⟩, ?_, ?_⟩
    · simp only [D6.ok]; rw [h0 (by omega), h0 (by omega), h0 (by omega), h0 (by omega), h0 (by omega), h0 (by omega)]; exact ho
    · simp only [D6.sec]; rw [h0 (by omega), h0 (by omega), h0 (by omega), h0 (by omega), h0 (by omega), h0 (by omega)]; exact hsec
  · exact ⟨none, hr⟩

theorem D6.in_of {x : D6} (h : x.ok) : inS x.sec := sec_range h
theorem D6.one {x y : D6} (hx : x.ok) (hy : y.ok) (h : x.sec = y.sec) : x = y := by
  obtain ⟨h1, h2, h3, h4, h5, h6⟩ := sec_inj hx hy h
  cases x; cases y
  simp only [D6.mk.injEq]
  simp only at h1 h2 h3 h4 h5 h6
  omega

def dateT : Option D6 → Value
  | some x => .tuple #[.agg x.cells.toArray, .bool true]
  | none => .tuple #[.agg #[.int .i64 0, .int .i64 0, .int .i64 0, .int .i64 0, .int .i64 0, .int .i64 0], .bool false]
theorem dateT_of {s : Int} {o : Option D6} {v : Value} (h : DateO s o) (hv : DateV s v) : v = dateT o := by
  cases o with
  | none =>
    have h' : ¬ (-631152000 ≤ s ∧ s ≤ 7258118399) := h
    rw [DateV, if_neg h'] at hv; exact hv
  | some x =>
    have hs : -631152000 ≤ s ∧ s ≤ 7258118399 := by rw [← h.2]; exact D6.in_of h.1
    refine DateV_one hv ?_
    rw [DateV, if_pos hs]
    exact ⟨x.a, x.b, x.c, x.d, x.e, x.f, h.1, h.2, rfl⟩

section
variable {nx : Nat} {gt : Nat → Option Blk} {s : Int} {o : Option D6}
theorem ct_DateO (hs : -9223372036854775808 ≤ s ∧ s ≤ 9223372036854775807) (h : DateO s o) : Ct Try.prog 29 [.int .i64 s] nx gt fun v _ _ => v = dateT o := fun b hb =>
  (ct_Date hs b hb).mono fun _ _ _ ⟨v, h1, h2, h3, h4, h5⟩ => ⟨v, h1, h2, h3, h4, dateT_of h h5⟩
theorem ct_rDateO (hs : -9223372036854775808 ≤ s ∧ s ≤ 9223372036854775807) (h : DateO s o) : Ct Try.prog 30 [.int .i64 s] nx gt fun v _ _ => v = dateT o := fun b hb =>
  (ct_rDate hs b hb).mono fun _ _ _ ⟨v, h1, h2, h3, h4, h5⟩ => ⟨v, h1, h2, h3, h4, dateT_of h h5⟩
def digO (nx : Nat) (gt : Nat → Option Blk) (o : Option D6) (v : Value) : Prop := match o with
  | some x => ∃ sl, v = .tuple #[sl, .int .i64 x.a, .bool true] ∧ BySl nx gt sl x.long
  | none => v = .tuple #[.slice none 0 0, .int .i64 0, .bool false]
theorem ct_digO (hs : -9223372036854775808 ≤ s ∧ s ≤ 9223372036854775807) (h : DateO s o) : Ct Try.prog 49 [.int .i64 s] nx gt fun v nx' gt' => digO nx' gt' o v := fun b hb =>
  (ct_digits hs b hb).mono fun _ m' _ ⟨v, h1, h2, h3, h4, h5⟩ => ⟨v, h1, h2, h3, h4, by
    cases o with
    | none =>
      have h' : ¬ (-631152000 ≤ s ∧ s ≤ 7258118399) := h
      have h5 : DigV _ _ s v := h5
      rw [DigV, if_neg h'] at h5; exact h5
    | some x =>
      have hs : -631152000 ≤ s ∧ s ≤ 7258118399 := by rw [← h.2]; exact D6.in_of h.1
      have h5 : DigV _ _ s v := h5
      rw [DigV, if_pos hs] at h5
      obtain ⟨d0, d1, d2, d3, d4, d5, k1, k2, sl, rfl, k3⟩ := h5
      have := D6.one (x := ⟨d0, d1, d2, d3, d4, d5⟩) k1 h.1 (k2.trans h.2.symm)
      subst this
      exact ⟨sl, rfl, k3⟩⟩

def strT (l : List UInt8) : Value := .tuple #[.string ⟨l.toArray⟩, .bool true]
def noT : Value := .tuple #[.string ⟨#[]⟩, .bool false]
def longO : Option D6 → Value
  | some x => strT x.long
  | none => noT
def shortO : Option D6 → Value
  | some x => if x.a < 2050 then strT x.short else noT
  | none => noT
def textO : Option D6 → Value
  | some x => if x.a < 2050 then strT x.short else strT x.long
  | none => noT

theorem ct_Long (hs : -9223372036854775808 ≤ s ∧ s ≤ 9223372036854775807) (h : DateO s o) : Ct Try.prog 31 [.int .i64 s] nx gt fun v _ _ => v = longO o := by
  refine Ct.of hmx r_clock_Long (by simp [c_clock_Long]) fun b hb => ?_
  simp only [c_clock_Long, ↓gaW, ↓gaV, ↓gaC, ↓gaN, gaP, Nat.reduceEqDiff, Nat.reduceLeDiff, Nat.reduceAdd, Nat.reduceSub, Nat.reduceMul, Int.reduceLT, Int.reduceLE, Int.reduceEq, Int.reduceToNat, Int.reduceAdd, Int.reduceSub, Int.reduceMul, reduceCtorEq, ↓reduceIte]
  refine callK_of (ct_digO hs h) (fun v n1 g1 l1 k1 hC => ?_) hb
  cases o with
  | none =>
    subst hC
    have hr0 : rowOf ⟨n1, b, g1⟩ none 0 = some [] := by simp [rowOf]
    simp only [↓gaW, ↓gaV, ↓gaC, ↓gaN, gaP, Nat.reduceEqDiff, Nat.reduceLeDiff, Nat.reduceAdd, Nat.reduceSub, Nat.reduceMul, Int.reduceLT, Int.reduceLE, Int.reduceEq, Int.reduceToNat, Int.reduceAdd, Int.reduceSub, Int.reduceMul, reduceCtorEq, ↓reduceIte, gaE, implies_true, Nat.le_refl, longO, noT, hr0, bytesOf]
    exact ⟨by omega, by omega, by omega, by omega, k1⟩
  | some x =>
    obtain ⟨sl, rfl, A, n, c, rfl, h1, h2, h3⟩ := hC
    simp only [↓gaW, ↓gaV, ↓gaC, ↓gaN, gaP, Nat.reduceEqDiff, Nat.reduceLeDiff, Nat.reduceAdd, Nat.reduceSub, Nat.reduceMul, Int.reduceLT, Int.reduceLE, Int.reduceEq, Int.reduceToNat, Int.reduceAdd, Int.reduceSub, Int.reduceMul, reduceCtorEq, ↓reduceIte, gaE, implies_true, Nat.le_refl, longO, strT, h3.rowOf, bytesOf_map]
    exact ⟨by omega, by omega, by omega, by omega, k1⟩

theorem ct_Short (hs : -9223372036854775808 ≤ s ∧ s ≤ 9223372036854775807) (h : DateO s o) : Ct Try.prog 32 [.int .i64 s] nx gt fun v _ _ => v = shortO o := by
  refine Ct.of hmx r_clock_Short (by simp [c_clock_Short]) fun b hb => ?_
  simp only [c_clock_Short, ↓gaW, ↓gaV, ↓gaC, ↓gaN, gaP, Nat.reduceEqDiff, Nat.reduceLeDiff, Nat.reduceAdd, Nat.reduceSub, Nat.reduceMul, Int.reduceLT, Int.reduceLE, Int.reduceEq, Int.reduceToNat, Int.reduceAdd, Int.reduceSub, Int.reduceMul, reduceCtorEq, ↓reduceIte]
  refine callK_of (ct_digO hs h) (fun v n1 g1 l1 k1 hC => ?_) hb
  cases o with
  | none =>
    subst hC
    simp only [↓gaW, ↓gaV, ↓gaC, ↓gaN, gaP, Nat.reduceEqDiff, Nat.reduceLeDiff, Nat.reduceAdd, Nat.reduceSub, Nat.reduceMul, Int.reduceLT, Int.reduceLE, Int.reduceEq, Int.reduceToNat, Int.reduceAdd, Int.reduceSub, Int.reduceMul, reduceCtorEq, ↓reduceIte, gaE, implies_true, Nat.le_refl, shortO, noT]
    exact ⟨by omega, by omega, by omega, by omega, k1⟩
  | some x =>
    obtain ⟨sl, rfl, A, n, c, rfl, h1, h2, h3⟩ := hC
    have hn : n = 15 := by rw [← h2]; rfl
    subst hn
    obtain ⟨a, ce, ro, rfl, e2, e3, e4, e5⟩ := h3.cells (by omega)
    have hp := (h3.part (lo := 2) (hi := 15) (by omega) (by omega) rfl).rowOf (b := b)
    have hsp := h3.spot a rfl
    by_cases hy : (2050 : Int) ≤ (x.a : Int)
    · simp only [↓gaW, ↓gaV, ↓gaC, ↓gaN, gaP, Nat.reduceEqDiff, Nat.reduceLeDiff, Nat.reduceAdd, Nat.reduceSub, Nat.reduceMul, Int.reduceLT, Int.reduceLE, Int.reduceEq, Int.reduceToNat, Int.reduceAdd, Int.reduceSub, Int.reduceMul, reduceCtorEq, ↓reduceIte, gaE, implies_true, Nat.le_refl, shortO, hy, decide_true]
      exact ⟨by omega, by omega, by omega, by omega, k1, by rw [if_neg (by omega)]; rfl⟩
    · have hl : ((x.long.map u8V).drop 2).take (15 - 2) = x.short.map u8V := rfl
      rw [hl] at hp
      simp only [↓gaW, ↓gaV, ↓gaC, ↓gaN, gaP, Nat.reduceEqDiff, Nat.reduceLeDiff, Nat.reduceAdd, Nat.reduceSub, Nat.reduceMul, Int.reduceLT, Int.reduceLE, Int.reduceEq, Int.reduceToNat, Int.reduceAdd, Int.reduceSub, Int.reduceMul, reduceCtorEq, ↓reduceIte, gaE, implies_true, Nat.le_refl, shortO, hy, decide_false, hp, bytesOf_map]
      exact ⟨by omega, by omega, by omega, by omega, by omega, by rcases hsp with h | h <;> simp [h], by omega, k1, by rw [if_pos (by omega)]; rfl⟩

theorem ct_Text (hs : -9223372036854775808 ≤ s ∧ s ≤ 9223372036854775807) (h : DateO s o) : Ct Try.prog 35 [.int .i64 s] nx gt fun v _ _ => v = textO o := by
  refine Ct.of hmx r_clock_Text (by simp [c_clock_Text]) fun b hb => ?_
  simp only [c_clock_Text, ↓gaW, ↓gaV, ↓gaC, ↓gaN, gaP, Nat.reduceEqDiff, Nat.reduceLeDiff, Nat.reduceAdd, Nat.reduceSub, Nat.reduceMul, Int.reduceLT, Int.reduceLE, Int.reduceEq, Int.reduceToNat, Int.reduceAdd, Int.reduceSub, Int.reduceMul, reduceCtorEq, ↓reduceIte]
  refine callK_of (ct_Short hs h) (fun v n1 g1 l1 k1 hC => ?_) hb
  have long : shortO o = noT → textO o = longO o := by
    intro h
    cases o with
    | none => rfl
    | some x =>
      simp only [shortO, textO, longO] at h ⊢
      split at h
      · simp [strT, noT] at h
      · rename_i h2; rw [if_neg h2]
  by_cases hsh : shortO o = noT
  · rw [hsh, noT] at hC
    subst hC
    simp only [↓gaW, ↓gaV, ↓gaC, ↓gaN, gaP, Nat.reduceEqDiff, Nat.reduceLeDiff, Nat.reduceAdd, Nat.reduceSub, Nat.reduceMul, Int.reduceLT, Int.reduceLE, Int.reduceEq, Int.reduceToNat, Int.reduceAdd, Int.reduceSub, Int.reduceMul, reduceCtorEq, ↓reduceIte]
    repeat refine And.intro (by omega) ?_
    refine callK_of (ct_Long hs h) (fun v n2 g2 l2 k2 hC => ?_) (by omega)
    rw [← long hsh] at hC
    cases o with
    | none =>
      subst hC
      simp only [↓gaW, ↓gaV, ↓gaC, ↓gaN, gaP, Nat.reduceEqDiff, Nat.reduceLeDiff, Nat.reduceAdd, Nat.reduceSub, Nat.reduceMul, Int.reduceLT, Int.reduceLE, Int.reduceEq, Int.reduceToNat, Int.reduceAdd, Int.reduceSub, Int.reduceMul, reduceCtorEq, ↓reduceIte, gaE, implies_true, Nat.le_refl, textO, noT]
      exact ⟨by omega, by omega, by omega, fun k hk => by rw [k2 k (by omega), k1 k hk]⟩
    | some x =>
      have ht : textO (some x) = strT x.long := by
        simp only [textO]
        rw [if_neg]
        intro hlt
        simp [shortO, hlt, strT, noT] at hsh
      rw [ht, strT] at hC
      subst hC
      simp only [↓gaW, ↓gaV, ↓gaC, ↓gaN, gaP, Nat.reduceEqDiff, Nat.reduceLeDiff, Nat.reduceAdd, Nat.reduceSub, Nat.reduceMul, Int.reduceLT, Int.reduceLE, Int.reduceEq, Int.reduceToNat, Int.reduceAdd, Int.reduceSub, Int.reduceMul, reduceCtorEq, ↓reduceIte, gaE, implies_true, Nat.le_refl, ht, strT]
      exact ⟨by omega, by omega, by omega, fun k hk => by rw [k2 k (by omega), k1 k hk]⟩
  · obtain ⟨x, rfl, hx⟩ : ∃ x : D6, o = some x ∧ x.a < 2050 := by
      cases o with
      | none => exact absurd rfl hsh
      | some x =>
        refine ⟨x, rfl, ?_⟩
        rcases Nat.lt_or_ge x.a 2050 with h | h
        · exact h
        · simp [shortO, Nat.not_lt.2 h] at hsh
    have e1 : shortO (some x) = strT x.short := by simp [shortO, hx]
    have e2 : textO (some x) = strT x.short := by simp [textO, hx]
    rw [e1, strT] at hC
    subst hC
    simp only [↓gaW, ↓gaV, ↓gaC, ↓gaN, gaP, Nat.reduceEqDiff, Nat.reduceLeDiff, Nat.reduceAdd, Nat.reduceSub, Nat.reduceMul, Int.reduceLT, Int.reduceLE, Int.reduceEq, Int.reduceToNat, Int.reduceAdd, Int.reduceSub, Int.reduceMul, reduceCtorEq, ↓reduceIte, gaE, implies_true, Nat.le_refl, e2, strT]
    exact ⟨by omega, by omega, by omega, k1⟩
end
end Go.Ga

namespace Go.Ga
open Go Go.Proofs
set_option linter.unusedSimpArgs false
set_option linter.unusedVariables false
set_option maxRecDepth 100000

theorem ba_app (a b : List UInt8) : (⟨a.toArray⟩ : ByteArray) ++ ⟨b.toArray⟩ = ⟨(a ++ b).toArray⟩ := by
  apply ByteArray.ext; simp
theorem ba_size (a : List UInt8) : (⟨a.toArray⟩ : ByteArray).size = a.length := rfl

section
variable {nx : Nat} {gt : Nat → Option Blk} {s : Int} {o : Option D6}

theorem ct_two {n : Nat} (hn : n < 10000) : Ct Try.prog 50 [.int .i64 (n : Nat)] nx gt fun v _ _ => v = .string ⟨(d2 n).toArray⟩ := by
  refine Ct.of hmx r_lanyardref03_two (by simp [c_lanyardref03_two]) fun b hb => ?_
  have q1 : (n : Int).tdiv 10 = ((n / 10 : Nat) : Int) := rfl
  have q2 : ((n / 10 : Nat) : Int).tmod 10 = ((n / 10 % 10 : Nat) : Int) := rfl
  have q3 : (n : Int).tmod 10 = ((n % 10 : Nat) : Int) := rfl
  have q4 : bytesOf [Value.int .u8 (48 + ((n / 10 % 10 : Nat) : Int)), Value.int .u8 (48 + ((n % 10 : Nat) : Int))] = some (d2 n) := by
    rw [← dgV, ← dgV]; exact bytesOf_map (d2 n)
  simp only [c_lanyardref03_two, ↓gaW, ↓gaV, ↓gaC, ↓gaN, gaP, Nat.reduceEqDiff, Nat.reduceLeDiff, Nat.reduceAdd, Nat.reduceSub, Nat.reduceMul, Int.reduceLT, Int.reduceLE, Int.reduceEq, Int.reduceToNat, Int.reduceAdd, Int.reduceSub, Int.reduceMul, reduceCtorEq, ↓reduceIte, List.getD_cons_zero, List.getD_cons_succ, fillL, splice, List.take_zero, List.drop_zero, List.drop_succ_cons, List.take_succ_cons, List.drop_nil, List.take_nil, q1, q2, q3, i64_w ((n / 10 : Nat) : Int) (by omega), i64_w (48 + ((n / 10 % 10 : Nat) : Int)) (by omega), i64_w (48 + ((n % 10 : Nat) : Int)) (by omega), u8_i (48 + ((n / 10 % 10 : Nat) : Int)) (by omega), u8_i (48 + ((n % 10 : Nat) : Int)) (by omega)]
  simp only [row_new (show 2 ≤ [Value.int .u8 (48 + ((n / 10 % 10 : Nat) : Int)), Value.int .u8 (48 + ((n % 10 : Nat) : Int))].length from Nat.le_refl 2), ↓gaW, ↓gaV, ↓gaC, ↓gaN, gaP, Nat.reduceEqDiff, Nat.reduceLeDiff, Nat.reduceAdd, Nat.reduceSub, Nat.reduceMul, Int.reduceLT, Int.reduceLE, Int.reduceEq, Int.reduceToNat, Int.reduceAdd, Int.reduceSub, Int.reduceMul, reduceCtorEq, ↓reduceIte, gaE, implies_true, Nat.le_refl, Int.sub_zero, Nat.sub_zero, Int.le_refl, true_or, or_true, List.getD_cons_zero, List.getD_cons_succ, fillL, splice, List.take_zero, List.drop_zero, List.drop_succ_cons, List.take_succ_cons, List.drop_nil, List.take_nil, q4]
  exact ⟨by omega, fun k hk => by rw [if_neg (by omega)]⟩

theorem ct_behind {x : D6} (hx : x.a < 10000) (h1 : x.b < 100) (h2 : x.c < 100) (h3 : x.d < 100) (h4 : x.e < 100) (h5 : x.f < 100) :
    Ct Try.prog 51 [.agg x.cells.toArray] nx gt fun v _ _ => v = .string ⟨(tailL x.b x.c x.d x.e x.f).toArray⟩ := by
  refine Ct.of hmx r_lanyardref03_behind (by simp [c_lanyardref03_behind]) fun b hb => ?_
  have hF : ∀ q, q < nx → gt q = gt q := fun _ _ => rfl
  simp only [c_lanyardref03_behind, ↓gaW, ↓gaV, ↓gaC, ↓gaN, gaP, Nat.reduceEqDiff, Nat.reduceLeDiff, Nat.reduceAdd, Nat.reduceSub, Nat.reduceMul, Int.reduceLT, Int.reduceLE, Int.reduceEq, Int.reduceToNat, Int.reduceAdd, Int.reduceSub, Int.reduceMul, reduceCtorEq, ↓reduceIte, List.getD_cons_zero, List.getD_cons_succ, fillL, splice, List.take_zero, List.drop_zero, List.drop_succ_cons, List.take_succ_cons, List.drop_nil, List.take_nil, D6.cells]
  have c0 : upd gt nx (some (.cells [.int .i64 x.a, .int .i64 x.b, .int .i64 x.c, .int .i64 x.d, .int .i64 x.e, .int .i64 x.f] false)) nx = some (.cells [.int .i64 x.a, .int .i64 x.b, .int .i64 x.c, .int .i64 x.d, .int .i64 x.e, .int .i64 x.f] false) := by simp only [upd_e, if_true]
  refine And.intro (by omega) ?_
  refine callQ_of (ct_two (by omega)) (fun v n1 g1 l1 k1 hC => ?_)
  subst hC
  have c1 := (k1 nx (by omega)).trans c0
  simp only [↓gaW, ↓gaV, ↓gaC, ↓gaN, gaP, Nat.reduceEqDiff, Nat.reduceLeDiff, Nat.reduceAdd, Nat.reduceSub, Nat.reduceMul, Int.reduceLT, Int.reduceLE, Int.reduceEq, Int.reduceToNat, Int.reduceAdd, Int.reduceSub, Int.reduceMul, reduceCtorEq, ↓reduceIte, List.getD_cons_zero, List.getD_cons_succ, fillL, splice, List.take_zero, List.drop_zero, List.drop_succ_cons, List.take_succ_cons, List.drop_nil, List.take_nil, c1]
  repeat refine And.intro (by omega) ?_
  refine callQ_of (ct_two (by omega)) (fun v n2 g2 l2 k2 hC => ?_)
  subst hC
  have c2 := (k2 nx (by omega)).trans c1
  simp only [↓gaW, ↓gaV, ↓gaC, ↓gaN, gaP, Nat.reduceEqDiff, Nat.reduceLeDiff, Nat.reduceAdd, Nat.reduceSub, Nat.reduceMul, Int.reduceLT, Int.reduceLE, Int.reduceEq, Int.reduceToNat, Int.reduceAdd, Int.reduceSub, Int.reduceMul, reduceCtorEq, ↓reduceIte, List.getD_cons_zero, List.getD_cons_succ, fillL, splice, List.take_zero, List.drop_zero, List.drop_succ_cons, List.take_succ_cons, List.drop_nil, List.take_nil, c2, ba_app, ba_size]
  repeat refine And.intro (by first | omega | (simp [d2]; done)) ?_
  refine callQ_of (ct_two (by omega)) (fun v n3 g3 l3 k3 hC => ?_)
  subst hC
  have c3 := (k3 nx (by omega)).trans c2
  simp only [↓gaW, ↓gaV, ↓gaC, ↓gaN, gaP, Nat.reduceEqDiff, Nat.reduceLeDiff, Nat.reduceAdd, Nat.reduceSub, Nat.reduceMul, Int.reduceLT, Int.reduceLE, Int.reduceEq, Int.reduceToNat, Int.reduceAdd, Int.reduceSub, Int.reduceMul, reduceCtorEq, ↓reduceIte, List.getD_cons_zero, List.getD_cons_succ, fillL, splice, List.take_zero, List.drop_zero, List.drop_succ_cons, List.take_succ_cons, List.drop_nil, List.take_nil, c3, ba_app, ba_size]
  repeat refine And.intro (by first | omega | (simp [d2]; done)) ?_
  refine callQ_of (ct_two (by omega)) (fun v n4 g4 l4 k4 hC => ?_)
  subst hC
  have c4 := (k4 nx (by omega)).trans c3
  simp only [↓gaW, ↓gaV, ↓gaC, ↓gaN, gaP, Nat.reduceEqDiff, Nat.reduceLeDiff, Nat.reduceAdd, Nat.reduceSub, Nat.reduceMul, Int.reduceLT, Int.reduceLE, Int.reduceEq, Int.reduceToNat, Int.reduceAdd, Int.reduceSub, Int.reduceMul, reduceCtorEq, ↓reduceIte, List.getD_cons_zero, List.getD_cons_succ, fillL, splice, List.take_zero, List.drop_zero, List.drop_succ_cons, List.take_succ_cons, List.drop_nil, List.take_nil, c4, ba_app, ba_size]
  repeat refine And.intro (by first | omega | (simp [d2]; done)) ?_
  refine callQ_of (ct_two (by omega)) (fun v n5 g5 l5 k5 hC => ?_)
  subst hC
  have c5 := (k5 nx (by omega)).trans c4
  simp only [↓gaW, ↓gaV, ↓gaC, ↓gaN, gaP, Nat.reduceEqDiff, Nat.reduceLeDiff, Nat.reduceAdd, Nat.reduceSub, Nat.reduceMul, Int.reduceLT, Int.reduceLE, Int.reduceEq, Int.reduceToNat, Int.reduceAdd, Int.reduceSub, Int.reduceMul, reduceCtorEq, ↓reduceIte, gaE, implies_true, Nat.le_refl, Int.sub_zero, Nat.sub_zero, Int.le_refl, true_or, or_true, List.getD_cons_zero, List.getD_cons_succ, fillL, splice, List.take_zero, List.drop_zero, List.drop_succ_cons, List.take_succ_cons, List.drop_nil, List.take_nil, c5, ba_app, ba_size]
  refine ⟨by simp [d2], by simp [d2], by omega, fun k hk => ?_, ?_⟩
  · rw [k5 k (by omega), k4 k (by omega), k3 k (by omega), k2 k (by omega), k1 k (by omega)]; simp only [upd_e]; rw [if_neg (by omega)]
  · simp [tailL, List.append_assoc]

theorem D6.lim {x : D6} (h : x.ok) : 1950 ≤ x.a ∧ x.a ≤ 2199 ∧ x.b ≤ 12 ∧ x.c ≤ 31 ∧ x.d ≤ 23 ∧ x.e ≤ 59 ∧ x.f ≤ 59 ∧ 1 ≤ x.b ∧ 1 ≤ x.c := by
  have := okD_e h
  have := lastI_bd (y := x.a) (m := x.b) (by omega) (by omega)
  omega
theorem all6 (x : D6) : ∀ v ∈ x.cells, cellVal v = true := by
  intro v hv; simp only [D6.cells, List.mem_cons, List.not_mem_nil, or_false] at hv
  rcases hv with rfl | rfl | rfl | rfl | rfl | rfl <;> rfl

theorem ct_rLong (hs : -9223372036854775808 ≤ s ∧ s ≤ 9223372036854775807) (h : DateO s o) : Ct Try.prog 34 [.int .i64 s] nx gt fun v _ _ => v = longO o := by
  refine Ct.of hmx r_lanyardref03_Long (by simp [c_lanyardref03_Long]) fun b hb => ?_
  simp only [c_lanyardref03_Long, ↓gaW, ↓gaV, ↓gaC, ↓gaN, gaP, Nat.reduceEqDiff, Nat.reduceLeDiff, Nat.reduceAdd, Nat.reduceSub, Nat.reduceMul, Int.reduceLT, Int.reduceLE, Int.reduceEq, Int.reduceToNat, Int.reduceAdd, Int.reduceSub, Int.reduceMul, reduceCtorEq, ↓reduceIte]
  refine callK_of (ct_rDateO hs h) (fun v n1 g1 l1 k1 hC => ?_) hb
  subst hC
  cases o with
  | none =>
    simp only [↓gaW, ↓gaV, ↓gaC, ↓gaN, gaP, Nat.reduceEqDiff, Nat.reduceLeDiff, Nat.reduceAdd, Nat.reduceSub, Nat.reduceMul, Int.reduceLT, Int.reduceLE, Int.reduceEq, Int.reduceToNat, Int.reduceAdd, Int.reduceSub, Int.reduceMul, reduceCtorEq, ↓reduceIte, gaE, implies_true, Nat.le_refl, Int.sub_zero, Nat.sub_zero, Int.le_refl, true_or, or_true, List.getD_cons_zero, List.getD_cons_succ, fillL, splice, List.take_zero, List.drop_zero, List.drop_succ_cons, List.take_succ_cons, List.drop_nil, List.take_nil, longO, dateT, noT]
    refine ⟨by omega, by omega, by omega, all6 ⟨0, 0, 0, 0, 0, 0⟩, by omega, fun k hk => ?_⟩
    rw [if_neg (by omega), if_neg (by omega), k1 k hk]
  | some x =>
    have hx := D6.lim h.1
    have q1 : (x.a : Int).tdiv 100 = ((x.a / 100 : Nat) : Int) := rfl
    simp only [↓gaW, ↓gaV, ↓gaC, ↓gaN, gaP, Nat.reduceEqDiff, Nat.reduceLeDiff, Nat.reduceAdd, Nat.reduceSub, Nat.reduceMul, Int.reduceLT, Int.reduceLE, Int.reduceEq, Int.reduceToNat, Int.reduceAdd, Int.reduceSub, Int.reduceMul, reduceCtorEq, ↓reduceIte, List.getD_cons_zero, List.getD_cons_succ, fillL, splice, List.take_zero, List.drop_zero, List.drop_succ_cons, List.take_succ_cons, List.drop_nil, List.take_nil, longO, dateT, D6.cells, strT, q1, i64_w ((x.a / 100 : Nat) : Int) (by omega)]
    refine ⟨by omega, by omega, by omega, all6 x, by omega, ?_⟩
    refine callQ_of (ct_two (by omega)) (fun v n2 g2 l2 k2 hC => ?_)
    subst hC
    have c2 : g2 n1 = some (.cells x.cells false) := (k2 n1 (by omega)).trans (by simp only [upd_e, if_true, D6.cells])
    rw [D6.cells] at c2
    simp only [↓gaW, ↓gaV, ↓gaC, ↓gaN, gaP, Nat.reduceEqDiff, Nat.reduceLeDiff, Nat.reduceAdd, Nat.reduceSub, Nat.reduceMul, Int.reduceLT, Int.reduceLE, Int.reduceEq, Int.reduceToNat, Int.reduceAdd, Int.reduceSub, Int.reduceMul, reduceCtorEq, ↓reduceIte, List.getD_cons_zero, List.getD_cons_succ, fillL, splice, List.take_zero, List.drop_zero, List.drop_succ_cons, List.take_succ_cons, List.drop_nil, List.take_nil, c2]
    repeat refine And.intro (by omega) ?_
    refine callQ_of (ct_two (by omega)) (fun v n3 g3 l3 k3 hC => ?_)
    subst hC
    have c3 := (k3 n1 (by omega)).trans c2
    simp only [↓gaW, ↓gaV, ↓gaC, ↓gaN, gaP, Nat.reduceEqDiff, Nat.reduceLeDiff, Nat.reduceAdd, Nat.reduceSub, Nat.reduceMul, Int.reduceLT, Int.reduceLE, Int.reduceEq, Int.reduceToNat, Int.reduceAdd, Int.reduceSub, Int.reduceMul, reduceCtorEq, ↓reduceIte, List.getD_cons_zero, List.getD_cons_succ, fillL, splice, List.take_zero, List.drop_zero, List.drop_succ_cons, List.take_succ_cons, List.drop_nil, List.take_nil, c3, ba_app, ba_size]
    refine ⟨by simp [d2], ?_⟩
    repeat refine And.intro (by omega) ?_
    refine callQ_of (ct_behind (x := x) (by omega) (by omega) (by omega) (by omega) (by omega) (by omega)) (fun v n4 g4 l4 k4 hC => ?_)
    subst hC
    simp only [↓gaW, ↓gaV, ↓gaC, ↓gaN, gaP, Nat.reduceEqDiff, Nat.reduceLeDiff, Nat.reduceAdd, Nat.reduceSub, Nat.reduceMul, Int.reduceLT, Int.reduceLE, Int.reduceEq, Int.reduceToNat, Int.reduceAdd, Int.reduceSub, Int.reduceMul, reduceCtorEq, ↓reduceIte, gaE, implies_true, Nat.le_refl, Int.sub_zero, Nat.sub_zero, Int.le_refl, true_or, or_true, List.getD_cons_zero, List.getD_cons_succ, fillL, splice, List.take_zero, List.drop_zero, List.drop_succ_cons, List.take_succ_cons, List.drop_nil, List.take_nil, ba_app, ba_size]
    refine ⟨by simp [d2, tailL], by omega, fun k hk => ?_, ?_⟩
    · rw [k4 k (by omega), k3 k (by omega), k2 k (by omega)]; simp only [upd_e]; rw [if_neg (by omega), if_neg (by omega), k1 k hk]
    · simp [D6.long, longL, shortL, List.append_assoc]

theorem ct_rShort (hs : -9223372036854775808 ≤ s ∧ s ≤ 9223372036854775807) (h : DateO s o) : Ct Try.prog 33 [.int .i64 s] nx gt fun v _ _ => v = shortO o := by
  refine Ct.of hmx r_lanyardref03_Short (by simp [c_lanyardref03_Short]) fun b hb => ?_
  simp only [c_lanyardref03_Short, ↓gaW, ↓gaV, ↓gaC, ↓gaN, gaP, Nat.reduceEqDiff, Nat.reduceLeDiff, Nat.reduceAdd, Nat.reduceSub, Nat.reduceMul, Int.reduceLT, Int.reduceLE, Int.reduceEq, Int.reduceToNat, Int.reduceAdd, Int.reduceSub, Int.reduceMul, reduceCtorEq, ↓reduceIte]
  refine callK_of (ct_rDateO hs h) (fun v n1 g1 l1 k1 hC => ?_) hb
  subst hC
  cases o with
  | none =>
    simp only [↓gaW, ↓gaV, ↓gaC, ↓gaN, gaP, Nat.reduceEqDiff, Nat.reduceLeDiff, Nat.reduceAdd, Nat.reduceSub, Nat.reduceMul, Int.reduceLT, Int.reduceLE, Int.reduceEq, Int.reduceToNat, Int.reduceAdd, Int.reduceSub, Int.reduceMul, reduceCtorEq, ↓reduceIte, gaE, implies_true, Nat.le_refl, Int.sub_zero, Nat.sub_zero, Int.le_refl, true_or, or_true, List.getD_cons_zero, List.getD_cons_succ, fillL, splice, List.take_zero, List.drop_zero, List.drop_succ_cons, List.take_succ_cons, List.drop_nil, List.take_nil, shortO, dateT, noT]
    refine ⟨by omega, by omega, by omega, all6 ⟨0, 0, 0, 0, 0, 0⟩, by omega, fun k hk => ?_⟩
    rw [if_neg (by omega), if_neg (by omega), k1 k hk]
  | some x =>
    have hx := D6.lim h.1
    by_cases hy : (2049 : Int) < (x.a : Int)
    · simp only [↓gaW, ↓gaV, ↓gaC, ↓gaN, gaP, Nat.reduceEqDiff, Nat.reduceLeDiff, Nat.reduceAdd, Nat.reduceSub, Nat.reduceMul, Int.reduceLT, Int.reduceLE, Int.reduceEq, Int.reduceToNat, Int.reduceAdd, Int.reduceSub, Int.reduceMul, reduceCtorEq, ↓reduceIte, gaE, implies_true, Nat.le_refl, Int.sub_zero, Nat.sub_zero, Int.le_refl, true_or, or_true, List.getD_cons_zero, List.getD_cons_succ, fillL, splice, List.take_zero, List.drop_zero, List.drop_succ_cons, List.take_succ_cons, List.drop_nil, List.take_nil, shortO, dateT, D6.cells, noT, hy, decide_true]
      refine ⟨by omega, by omega, by omega, all6 x, by omega, by omega, fun k hk => ?_, by rw [if_neg (by omega)]⟩
      rw [if_neg (by omega), if_neg (by omega), k1 k hk]
    · simp only [↓gaW, ↓gaV, ↓gaC, ↓gaN, gaP, Nat.reduceEqDiff, Nat.reduceLeDiff, Nat.reduceAdd, Nat.reduceSub, Nat.reduceMul, Int.reduceLT, Int.reduceLE, Int.reduceEq, Int.reduceToNat, Int.reduceAdd, Int.reduceSub, Int.reduceMul, reduceCtorEq, ↓reduceIte, List.getD_cons_zero, List.getD_cons_succ, fillL, splice, List.take_zero, List.drop_zero, List.drop_succ_cons, List.take_succ_cons, List.drop_nil, List.take_nil, shortO, dateT, D6.cells, strT, hy, decide_false]
      refine ⟨by omega, by omega, by omega, all6 x, by omega, by omega, ?_⟩
      refine callQ_of (ct_two (by omega)) (fun v n2 g2 l2 k2 hC => ?_)
      subst hC
      have c2 : g2 n1 = some (.cells x.cells false) := (k2 n1 (by omega)).trans (by simp only [upd_e, if_true, D6.cells])
      rw [D6.cells] at c2
      simp only [↓gaW, ↓gaV, ↓gaC, ↓gaN, gaP, Nat.reduceEqDiff, Nat.reduceLeDiff, Nat.reduceAdd, Nat.reduceSub, Nat.reduceMul, Int.reduceLT, Int.reduceLE, Int.reduceEq, Int.reduceToNat, Int.reduceAdd, Int.reduceSub, Int.reduceMul, reduceCtorEq, ↓reduceIte, List.getD_cons_zero, List.getD_cons_succ, fillL, splice, List.take_zero, List.drop_zero, List.drop_succ_cons, List.take_succ_cons, List.drop_nil, List.take_nil, c2]
      repeat refine And.intro (by omega) ?_
      refine callK_of (ct_behind (x := x) (by omega) (by omega) (by omega) (by omega) (by omega) (by omega)) (fun v n4 g4 l4 k4 hC => ?_) (by omega)
      subst hC
      simp only [↓gaW, ↓gaV, ↓gaC, ↓gaN, gaP, Nat.reduceEqDiff, Nat.reduceLeDiff, Nat.reduceAdd, Nat.reduceSub, Nat.reduceMul, Int.reduceLT, Int.reduceLE, Int.reduceEq, Int.reduceToNat, Int.reduceAdd, Int.reduceSub, Int.reduceMul, reduceCtorEq, ↓reduceIte, gaE, implies_true, Nat.le_refl, Int.sub_zero, Nat.sub_zero, Int.le_refl, true_or, or_true, List.getD_cons_zero, List.getD_cons_succ, fillL, splice, List.take_zero, List.drop_zero, List.drop_succ_cons, List.take_succ_cons, List.drop_nil, List.take_nil, ba_app, ba_size]
      refine ⟨by simp [d2, tailL], by omega, fun k hk => ?_, ?_⟩
      · rw [k4 k (by omega), k2 k (by omega)]; simp only [upd_e]; rw [if_neg (by omega), if_neg (by omega), k1 k hk]
      · rw [if_pos (by omega)]; simp [D6.short, shortL]

theorem ct_rText (hs : -9223372036854775808 ≤ s ∧ s ≤ 9223372036854775807) (h : DateO s o) : Ct Try.prog 36 [.int .i64 s] nx gt fun v _ _ => v = textO o := by
  refine Ct.of hmx r_lanyardref03_Text (by simp [c_lanyardref03_Text]) fun b hb => ?_
  simp only [c_lanyardref03_Text, ↓gaW, ↓gaV, ↓gaC, ↓gaN, gaP, Nat.reduceEqDiff, Nat.reduceLeDiff, Nat.reduceAdd, Nat.reduceSub, Nat.reduceMul, Int.reduceLT, Int.reduceLE, Int.reduceEq, Int.reduceToNat, Int.reduceAdd, Int.reduceSub, Int.reduceMul, reduceCtorEq, ↓reduceIte]
  refine callK_of (ct_rShort hs h) (fun v n1 g1 l1 k1 hC => ?_) hb
  subst hC
  cases o with
  | none =>
    simp only [↓gaW, ↓gaV, ↓gaC, ↓gaN, gaP, Nat.reduceEqDiff, Nat.reduceLeDiff, Nat.reduceAdd, Nat.reduceSub, Nat.reduceMul, Int.reduceLT, Int.reduceLE, Int.reduceEq, Int.reduceToNat, Int.reduceAdd, Int.reduceSub, Int.reduceMul, reduceCtorEq, ↓reduceIte, shortO, noT]
    repeat refine And.intro (by omega) ?_
    refine callK_of (ct_rLong hs h) (fun v n2 g2 l2 k2 hC => ?_) (by omega)
    subst hC
    simp only [↓gaW, ↓gaV, ↓gaC, ↓gaN, gaP, Nat.reduceEqDiff, Nat.reduceLeDiff, Nat.reduceAdd, Nat.reduceSub, Nat.reduceMul, Int.reduceLT, Int.reduceLE, Int.reduceEq, Int.reduceToNat, Int.reduceAdd, Int.reduceSub, Int.reduceMul, reduceCtorEq, ↓reduceIte, gaE, implies_true, Nat.le_refl, Int.sub_zero, Nat.sub_zero, Int.le_refl, true_or, or_true, textO, longO, noT]
    exact ⟨by omega, by omega, by omega, fun k hk => by rw [k2 k (by omega), k1 k hk]⟩
  | some x =>
    by_cases hy : x.a < 2050
    · simp only [↓gaW, ↓gaV, ↓gaC, ↓gaN, gaP, Nat.reduceEqDiff, Nat.reduceLeDiff, Nat.reduceAdd, Nat.reduceSub, Nat.reduceMul, Int.reduceLT, Int.reduceLE, Int.reduceEq, Int.reduceToNat, Int.reduceAdd, Int.reduceSub, Int.reduceMul, reduceCtorEq, ↓reduceIte, gaE, implies_true, Nat.le_refl, Int.sub_zero, Nat.sub_zero, Int.le_refl, true_or, or_true, shortO, textO, hy, if_true, strT]
      exact ⟨by omega, by omega, by omega, k1⟩
    · simp only [↓gaW, ↓gaV, ↓gaC, ↓gaN, gaP, Nat.reduceEqDiff, Nat.reduceLeDiff, Nat.reduceAdd, Nat.reduceSub, Nat.reduceMul, Int.reduceLT, Int.reduceLE, Int.reduceEq, Int.reduceToNat, Int.reduceAdd, Int.reduceSub, Int.reduceMul, reduceCtorEq, ↓reduceIte, shortO, textO, hy, if_false, noT]
      repeat refine And.intro (by omega) ?_
      refine callK_of (ct_rLong hs h) (fun v n2 g2 l2 k2 hC => ?_) (by omega)
      subst hC
      simp only [↓gaW, ↓gaV, ↓gaC, ↓gaN, gaP, Nat.reduceEqDiff, Nat.reduceLeDiff, Nat.reduceAdd, Nat.reduceSub, Nat.reduceMul, Int.reduceLT, Int.reduceLE, Int.reduceEq, Int.reduceToNat, Int.reduceAdd, Int.reduceSub, Int.reduceMul, reduceCtorEq, ↓reduceIte, gaE, implies_true, Nat.le_refl, Int.sub_zero, Nat.sub_zero, Int.le_refl, true_or, or_true, textO, longO, strT]
      exact ⟨by omega, by omega, by omega, fun k hk => by rw [k2 k (by omega), k1 k hk]⟩
end
end Go.Ga

/- Bits of 32-bit words. -/
namespace Go.Ga
open Go

theorem xor_u32 {x y : Nat} (hx : x < 4294967296) (hy : y < 4294967296) : bitsV .xor .u32 (x : Int) (y : Int) = ((x ^^^ y : Nat) : Int) := by
  have h : x ^^^ y < 2 ^ 32 := Nat.xor_lt_two_pow hx hy
  show IntKind.u32.wrap ((BitVec.ofInt 32 (x : Int) ^^^ BitVec.ofInt 32 (y : Int)).toNat : Int) = _
  simp only [BitVec.ofInt_natCast, BitVec.toNat_xor, BitVec.toNat_ofNat]
  rw [Nat.mod_eq_of_lt (by omega), Nat.mod_eq_of_lt (by omega), u32_w]
  omega
theorem or_u32 {x y : Nat} (hx : x < 4294967296) (hy : y < 4294967296) : bitsV .or .u32 (x : Int) (y : Int) = ((x ||| y : Nat) : Int) := by
  have h : x ||| y < 2 ^ 32 := Nat.or_lt_two_pow hx hy
  show IntKind.u32.wrap ((BitVec.ofInt 32 (x : Int) ||| BitVec.ofInt 32 (y : Int)).toNat : Int) = _
  simp only [BitVec.ofInt_natCast, BitVec.toNat_or, BitVec.toNat_ofNat]
  rw [Nat.mod_eq_of_lt (by omega), Nat.mod_eq_of_lt (by omega), u32_w]
  omega
theorem and_u32 {x y : Nat} (hx : x < 4294967296) (hy : y < 4294967296) : bitsV .and .u32 (x : Int) (y : Int) = ((x &&& y : Nat) : Int) := by
  have h : x &&& y < 2 ^ 32 := Nat.and_lt_two_pow _ hy
  show IntKind.u32.wrap ((BitVec.ofInt 32 (x : Int) &&& BitVec.ofInt 32 (y : Int)).toNat : Int) = _
  simp only [BitVec.ofInt_natCast, BitVec.toNat_and, BitVec.toNat_ofNat]
  rw [Nat.mod_eq_of_lt (by omega), Nat.mod_eq_of_lt (by omega), u32_w]
  omega
theorem max_u32 : (if IntKind.u32.signed then -1 else IntKind.u32.max) = ((4294967295 : Nat) : Int) := by decide
theorem not_u32 {x : Nat} (hx : x < 4294967296) : bitsV .xor .u32 (if IntKind.u32.signed then -1 else IntKind.u32.max) (x : Int) = ((4294967295 ^^^ x : Nat) : Int) := by
  rw [max_u32, xor_u32 (by decide) hx]
theorem u32_m (n : Nat) : IntKind.u32.wrap (n : Int) = ((n % 4294967296 : Nat) : Int) := by
  rw [u32_w]; rfl

/-- The highest bit of a word. -/
theorem top32 {n : Nat} (h : n < 4294967296) : n / 2147483648 = (n.testBit 31).toNat := by
  rw [Nat.testBit_eq_decide_div_mod_eq]
  have e : (2 : Nat) ^ 31 = 2147483648 := by decide
  rw [e]
  by_cases h1 : n / 2147483648 % 2 = 1
  · rw [decide_eq_true h1]; show _ = 1; omega
  · rw [decide_eq_false h1]; show _ = 0; omega
theorem bit31 {n : Nat} (h : n < 4294967296) : n.testBit 31 = decide (2147483648 ≤ n) := by
  rw [Nat.testBit_eq_decide_div_mod_eq]
  have e : (2 : Nat) ^ 31 = 2147483648 := by decide
  rw [e]
  congr 1
  exact propext ⟨fun h => by omega, fun h => by omega⟩

theorem borrow32 {x y c : Nat} (hx : x < 4294967296) (hy : y < 4294967296) (hc : c < 2) :
    ((4294967295 ^^^ x) &&& y ||| (4294967295 ^^^ (x ^^^ y)) &&& ((x + 4294967296 - y - c) % 4294967296)) / 2147483648 = if x < y + c then 1 else 0 := by
  have h1 : (4294967295 ^^^ x) < 2 ^ 32 := Nat.xor_lt_two_pow (by decide) hx
  have h2 : x ^^^ y < 2 ^ 32 := Nat.xor_lt_two_pow hx hy
  have h3 : (4294967295 ^^^ (x ^^^ y)) < 2 ^ 32 := Nat.xor_lt_two_pow (by decide) h2
  have h4 : ((4294967295 ^^^ x) &&& y ||| (4294967295 ^^^ (x ^^^ y)) &&& ((x + 4294967296 - y - c) % 4294967296)) < 2 ^ 32 := Nat.or_lt_two_pow (Nat.and_lt_two_pow _ hy) (Nat.and_lt_two_pow _ (Nat.mod_lt _ (by decide)))
  rw [top32 h4]
  simp only [Nat.testBit_or, Nat.testBit_and, Nat.testBit_xor]
  have e0 : Nat.testBit 4294967295 31 = true := by decide
  rw [e0, bit31 hx, bit31 hy, bit31 (Nat.mod_lt _ (by decide))]
  by_cases a : 2147483648 ≤ x <;> by_cases b : 2147483648 ≤ y <;> by_cases d : 2147483648 ≤ (x + 4294967296 - y - c) % 4294967296 <;> simp only [a, b, d, decide_true, decide_false] <;> (split <;> first | rfl | (exfalso; omega))
end Go.Ga

/- Equality of arrays of whole numbers. -/
namespace Go.Ga
open Go

theorem pr_bind {P : Program} {α β : Type} (s : Sem α) (f : α → Sem β) : pureRun P (s >>= f) = (pureRun P s).bind fun a => pureRun P (f a) := by
  show pureRun P (Sem.bind s f) = _
  induction s with
  | pure a => rfl
  | program k ih => simp only [Sem.bind, pureRun]; exact ih P
  | mark m k ih => simp only [Sem.bind, pureRun]; exact ih
  | _ => rfl
theorem pr_pure {P : Program} {α : Type} (a : α) : pureRun P (pure a : Sem α) = some a := rfl
theorem pr_prog {P : Program} : pureRun P program = some P := rfl
theorem pr_under {P : Program} {t : TypeId} {d : TypeDesc} (h : P.underlying t = some d) : pureRun P (underlying t) = some d := by
  simp only [underlying, pr_bind, pr_prog, Option.bind_some, h]; rfl
theorem pr_size {P : Program} {t : TypeId} {i : TypeInfo} (h : P.info? t = some i) : pureRun P (sizeOf t) = some i.size := by
  simp only [sizeOf, typeInfo, pr_bind, pr_prog, Option.bind_some, h]; rfl

def eqK (P : Program) (op : BinOp) (t : TypeId) (xs ys : Array Value) (K : Bool → Prop) : Prop :=
  xs.toList.all plain = true ∧ ys.toList.all plain = true ∧
  match pureRun P (do eqGuard op t (.tmp 0) (.tmp 0) (.agg xs) (.agg ys); binOp op t (.agg xs) (.agg ys)) with
  | some (.bool b) => K b
  | _ => False
theorem o_eqA {P : Program} {f : Regs} {m : Mem} {K : Value → Mem → Prop} (op : BinOp) (t : TypeId) (x y : Rv) : ROp.vc P f m K (.eqA op t x y) = asA (x.ev f) fun xs => asA (y.ev f) fun ys => eqK P op t xs ys fun b => K (.bool b) m := by
  dsimp only [ROp.vc, asA, eqK]
  cases x.ev f <;> first | rfl | (cases y.ev f <;> rfl)

theorem eq_ints {P : Program} {t e : TypeId} {len : Nat} {k k' : IntKind} {i : TypeInfo} (ht : P.underlying t = some (.array len e)) (he : P.underlying e = some (.int k')) (hi : P.info? e = some i) (hs : i.size = 1)
    (xs ys : List Int) (hx : xs.length = len) (hy : ys.length = len) (d : Nat) :
    pureRun P (Op.equalIn (d + 2) t (.agg (xs.map (Value.int k)).toArray) (.agg (ys.map (Value.int k)).toArray)) = some (decide (xs = ys)) := by
  have hpart : ∀ (l : List Int) j, j < l.length → pureRun P (part e (l.map (Value.int k)).toArray (j * 1)) = some (.int k (l.getD j 0)) := by
    intro l j hj
    simp only [part, isAgg, pr_bind, pr_under he, Option.bind_some, pr_pure, Nat.mul_one]
    simp [hj, List.getD_eq_getElem?_getD, pr_pure]
  have hel : ∀ a b : Int, pureRun P (Op.equalIn (d + 1) e (.int k a) (.int k b)) = some (a == b) := by
    intro a b
    rw [Op.equalIn]
    simp only [pr_bind, pr_under he, Option.bind_some, if_true]
    rfl
  have hdrop : ∀ (l : List Int) j, j < l.length → l.drop j = l.getD j 0 :: l.drop (j + 1) := fun l j hj => by
    rw [List.drop_eq_getElem_cons hj, List.getD_eq_getElem?_getD, List.getElem?_eq_getElem hj]; rfl
  have key : ∀ n s, s + n = len → pureRun P (forIn (List.range' s n) ((none, ()) : Option Bool × Unit) fun i __s => do
      let __do_lift ← part e (List.map (Value.int k) xs).toArray (i * 1)
      let __do_lift_1 ← part e (List.map (Value.int k) ys).toArray (i * 1)
      let __do_lift ← Op.equalIn (d + 1) e __do_lift __do_lift_1
      if (!__do_lift) = true then pure (ForInStep.done (some false, ())) else pure (ForInStep.yield (none, ()))) = some (if xs.drop s = ys.drop s then (none, ()) else (some false, ())) := by
    intro n
    induction n with
    | zero =>
      intro s hs
      rw [List.drop_eq_nil_of_le (by omega), List.drop_eq_nil_of_le (by omega)]
      rfl
    | succ n ih =>
      intro s hs
      rw [List.range'_succ, List.forIn_cons]
      simp only [pr_bind, hpart xs s (by omega), hpart ys s (by omega), Option.bind_some, hel]
      rw [hdrop xs s (by omega), hdrop ys s (by omega)]
      by_cases hab : xs.getD s 0 = ys.getD s 0
      · rw [hab]
        simp only [beq_self_eq_true, Bool.not_true, Bool.false_eq_true, if_false, pr_pure, Option.bind_some, List.cons.injEq, true_and]
        exact ih (s + 1) (by omega)
      · have : (xs.getD s 0 == ys.getD s 0) = false := by simpa using hab
        rw [this, if_neg (fun h => hab (List.cons.inj h).1)]
        simp only [Bool.not_false, if_true, pr_pure, Option.bind_some]
  rw [Op.equalIn]
  simp only [pr_bind, pr_under ht, Option.bind_some, pr_size hi, hs]
  simp only [Std.Legacy.Range.forIn_eq_forIn_range', Std.Legacy.Range.size]
  rw [show (len - 0 + 1 - 1) / 1 = len by omega, key len 0 (by omega), Option.bind_some]
  simp only [List.drop_zero]
  by_cases h : xs = ys <;> simp [h, pr_pure]

theorem plain_ints {k : IntKind} (xs : List Int) : (xs.map (Value.int k)).toArray.toList.all plain = true := by
  simp [plain]

theorem eqK_ints {P : Program} {t e : TypeId} {len : Nat} {k k' : IntKind} {i : TypeInfo} (ht : P.underlying t = some (.array len e)) (he : P.underlying e = some (.int k')) (hi : P.info? e = some i) (hs : i.size = 1) (hg : P.eqGuardType P.depth t = false)
    (xs ys : List Int) (hx : xs.length = len) (hy : ys.length = len) (K : Bool → Prop) :
    eqK P .eql t (xs.map (Value.int k)).toArray (ys.map (Value.int k)).toArray K = K (decide (xs = ys)) := by
  have h1 : pureRun P (do eqGuard .eql t (.tmp 0) (.tmp 0) (.agg (xs.map (Value.int k)).toArray) (.agg (ys.map (Value.int k)).toArray); binOp .eql t (.agg (xs.map (Value.int k)).toArray) (.agg (ys.map (Value.int k)).toArray)) = some (.bool (decide (xs = ys))) := by
    have e1 : pureRun P (eqGuard .eql t (.tmp 0) (.tmp 0) (.agg (xs.map (Value.int k)).toArray) (.agg (ys.map (Value.int k)).toArray)) = some () := by
      simp [eqGuard, pr_bind, pr_prog, hg, pr_pure]
    rw [pr_bind, e1, Option.bind_some]
    have := eq_ints (k := k) ht he hi hs xs ys hx hy 9998
    simp only [binOp, Op.equal, Op.maxDepth, pr_bind, this, Option.bind_some]
    rfl
  unfold eqK
  rw [h1]
  simp [plain]
theorem eqK_intsN {P : Program} {t e : TypeId} {len : Nat} {k k' : IntKind} {i : TypeInfo} (ht : P.underlying t = some (.array len e)) (he : P.underlying e = some (.int k')) (hi : P.info? e = some i) (hs : i.size = 1) (hg : P.eqGuardType P.depth t = false)
    (xs ys : List Int) (hx : xs.length = len) (hy : ys.length = len) (K : Bool → Prop) :
    eqK P .neq t (xs.map (Value.int k)).toArray (ys.map (Value.int k)).toArray K = K (!decide (xs = ys)) := by
  have h1 : pureRun P (do eqGuard .neq t (.tmp 0) (.tmp 0) (.agg (xs.map (Value.int k)).toArray) (.agg (ys.map (Value.int k)).toArray); binOp .neq t (.agg (xs.map (Value.int k)).toArray) (.agg (ys.map (Value.int k)).toArray)) = some (.bool (!decide (xs = ys))) := by
    have e1 : pureRun P (eqGuard .neq t (.tmp 0) (.tmp 0) (.agg (xs.map (Value.int k)).toArray) (.agg (ys.map (Value.int k)).toArray)) = some () := by
      simp [eqGuard, pr_bind, pr_prog, hg, pr_pure]
    rw [pr_bind, e1, Option.bind_some]
    have := eq_ints (k := k) ht he hi hs xs ys hx hy 9998
    simp only [binOp, Op.equal, Op.maxDepth, pr_bind, this, Option.bind_some]
    rfl
  unfold eqK
  rw [h1]
  simp [plain]
end Go.Ga

namespace Go.Ga
open Go Go.Proofs
set_option linter.unusedSimpArgs false
set_option linter.unusedVariables false
set_option maxRecDepth 100000

section
variable {nx : Nat} {gt : Nat → Option Blk}
theorem date_awake : DateO 951868800 (some ⟨2000, 3, 1, 0, 0, 0⟩) := ⟨by show okD _ _ _ _ _ _ = true; decide +kernel, by show secI _ _ _ _ _ _ = _; decide +kernel⟩
theorem secV_awake : SecV 2000 3 1 0 0 0 = .tuple #[.int .i64 951868800, .bool true] := by
  rw [SecV, if_pos (by decide +kernel), show secI 2000 3 1 0 0 0 = 951868800 by decide +kernel]
theorem text_awake : textO (some ⟨2000, 3, 1, 0, 0, 0⟩) = .tuple #[.string ⟨#[48, 48, 48, 51, 48, 49, 48, 48, 48, 48, 48, 48, 90]⟩, .bool true] := by
  have h : D6.short ⟨2000, 3, 1, 0, 0, 0⟩ = [48, 48, 48, 51, 48, 49, 48, 48, 48, 48, 48, 48, 90] := by decide +kernel
  simp only [textO, strT, h]; rfl

theorem ct_awake03 : Ct Try.prog 26 [] nx gt fun v _ _ => v = .bool true := by
  refine Ct.of hmx r_lanyardlaw03_awake (by simp [c_lanyardlaw03_awake]) fun b hb => ?_
  simp only [c_lanyardlaw03_awake, ↓gaW, ↓gaV, ↓gaC, ↓gaN, gaP, Nat.reduceEqDiff, Nat.reduceLeDiff, Nat.reduceAdd, Nat.reduceSub, Nat.reduceMul, Int.reduceLT, Int.reduceLE, Int.reduceEq, Int.reduceToNat, Int.reduceAdd, Int.reduceSub, Int.reduceMul, reduceCtorEq, ↓reduceIte, List.getD_cons_zero, List.getD_cons_succ, fillL, splice, List.take_zero, List.drop_zero, List.drop_succ_cons, List.take_succ_cons, List.drop_nil, List.take_nil]
  refine callK_of ct_Seconds (fun v n1 g1 l1 k1 hC => ?_) hb
  rw [secV_awake] at hC
  subst hC
  simp only [↓gaW, ↓gaV, ↓gaC, ↓gaN, gaP, Nat.reduceEqDiff, Nat.reduceLeDiff, Nat.reduceAdd, Nat.reduceSub, Nat.reduceMul, Int.reduceLT, Int.reduceLE, Int.reduceEq, Int.reduceToNat, Int.reduceAdd, Int.reduceSub, Int.reduceMul, reduceCtorEq, ↓reduceIte]
  repeat refine And.intro (by omega) ?_
  refine callK_of (ct_Text (by omega) date_awake) (fun v n2 g2 l2 k2 hC => ?_) (by omega)
  rw [text_awake] at hC
  subst hC
  simp only [↓gaW, ↓gaV, ↓gaC, ↓gaN, gaP, Nat.reduceEqDiff, Nat.reduceLeDiff, Nat.reduceAdd, Nat.reduceSub, Nat.reduceMul, Int.reduceLT, Int.reduceLE, Int.reduceEq, Int.reduceToNat, Int.reduceAdd, Int.reduceSub, Int.reduceMul, reduceCtorEq, ↓reduceIte, gaE, implies_true, Nat.le_refl, Int.sub_zero, Nat.sub_zero, Int.le_refl, true_or, or_true]
  exact ⟨by omega, by omega, by omega, fun k hk => by rw [k2 k (by omega), k1 k hk]⟩

theorem eq6 {xs ys : List Int} (hx : xs.length = 6) (hy : ys.length = 6) (K : Bool → Prop) : eqK Try.prog .eql 38 (xs.map (Value.int .i64)).toArray (ys.map (Value.int .i64)).toArray K = K (decide (xs = ys)) :=
  eqK_ints (P := Try.prog) (t := 38) (e := 3) (len := 6) (k' := .i64) (i := ((Try.prog).info? 3).get (by kernel_rfl)) (by kernel_rfl) (by kernel_rfl) (Option.some_get _).symm (by kernel_rfl) (by kernel_rfl) xs ys hx hy K
theorem eq6L (a0 a1 a2 a3 a4 a5 b0 b1 b2 b3 b4 b5 : Int) (K : Bool → Prop) : eqK Try.prog .eql 38 #[.int .i64 a0, .int .i64 a1, .int .i64 a2, .int .i64 a3, .int .i64 a4, .int .i64 a5] #[.int .i64 b0, .int .i64 b1, .int .i64 b2, .int .i64 b3, .int .i64 b4, .int .i64 b5] K = K (decide (a0 = b0 ∧ a1 = b1 ∧ a2 = b2 ∧ a3 = b3 ∧ a4 = b4 ∧ a5 = b5)) := by
  have := eq6 (xs := [a0, a1, a2, a3, a4, a5]) (ys := [b0, b1, b2, b3, b4, b5]) rfl rfl K
  simp only [List.cons.injEq, and_true] at this
  exact this
theorem SecV_shape (d0 d1 d2 d3 d4 d5 : Int) : ∃ a t, SecV d0 d1 d2 d3 d4 d5 = .tuple #[.int .i64 a, .bool t] := by
  unfold SecV; split <;> exact ⟨_, _, rfl⟩

/-- A date's array. -/
def arrO : Option D6 → List Int
  | some x => [x.a, x.b, x.c, x.d, x.e, x.f]
  | none => [0, 0, 0, 0, 0, 0]
theorem dateT_eq (o : Option D6) : dateT o = .tuple #[.agg ((arrO o).map (Value.int .i64)).toArray, .bool o.isSome] := by cases o <;> rfl
theorem arrO_len (o : Option D6) : (arrO o).length = 6 := by cases o <;> rfl

theorem fn_Moments {d0 d1 d2 d3 d4 d5 s : Int} (hs : -9223372036854775808 ≤ s ∧ s ≤ 9223372036854775807) :
    Ct Try.prog 8 [.agg #[.int .i64 d0, .int .i64 d1, .int .i64 d2, .int .i64 d3, .int .i64 d4, .int .i64 d5], .int .i64 s] nx gt fun v _ _ => v = .bool true := by
  obtain ⟨o, ho⟩ := date_ex hs
  refine Ct.of hmx r_lanyardlaw03_ClockMoments (by simp [c_lanyardlaw03_ClockMoments]) fun b hb => ?_
  simp only [c_lanyardlaw03_ClockMoments, ↓gaW, ↓gaV, ↓gaC, ↓gaN, gaP, Nat.reduceEqDiff, Nat.reduceLeDiff, Nat.reduceAdd, Nat.reduceSub, Nat.reduceMul, Int.reduceLT, Int.reduceLE, Int.reduceEq, Int.reduceToNat, Int.reduceAdd, Int.reduceSub, Int.reduceMul, reduceCtorEq, ↓reduceIte, List.getD_cons_zero, List.getD_cons_succ, fillL, splice, List.take_zero, List.drop_zero, List.drop_succ_cons, List.take_succ_cons, List.drop_nil, List.take_nil]
  refine callK_of ct_awake03 (fun v n1 g1 l1 k1 hC => ?_) (by omega)
  subst hC
  have c1 : g1 nx = some (.cells [.int .i64 d0, .int .i64 d1, .int .i64 d2, .int .i64 d3, .int .i64 d4, .int .i64 d5] false) := by rw [k1 nx (by omega)]; simp only [upd_e, if_true]
  simp only [↓gaW, ↓gaV, ↓gaC, ↓gaN, gaP, Nat.reduceEqDiff, Nat.reduceLeDiff, Nat.reduceAdd, Nat.reduceSub, Nat.reduceMul, Int.reduceLT, Int.reduceLE, Int.reduceEq, Int.reduceToNat, Int.reduceAdd, Int.reduceSub, Int.reduceMul, reduceCtorEq, ↓reduceIte, List.getD_cons_zero, List.getD_cons_succ, fillL, splice, List.take_zero, List.drop_zero, List.drop_succ_cons, List.take_succ_cons, List.drop_nil, List.take_nil, c1]
  repeat refine And.intro (by omega) ?_
  obtain ⟨A, T, hsec⟩ := SecV_shape d0 d1 d2 d3 d4 d5
  refine callK_of ct_Seconds (fun v n2 g2 l2 k2 hC => ?_) (by omega)
  rw [hsec] at hC
  subst hC
  have c2 : g2 nx = some (.cells [.int .i64 d0, .int .i64 d1, .int .i64 d2, .int .i64 d3, .int .i64 d4, .int .i64 d5] false) := by rw [k2 nx (by omega), c1]
  simp only [↓gaW, ↓gaV, ↓gaC, ↓gaN, gaP, Nat.reduceEqDiff, Nat.reduceLeDiff, Nat.reduceAdd, Nat.reduceSub, Nat.reduceMul, Int.reduceLT, Int.reduceLE, Int.reduceEq, Int.reduceToNat, Int.reduceAdd, Int.reduceSub, Int.reduceMul, reduceCtorEq, ↓reduceIte, List.getD_cons_zero, List.getD_cons_succ, fillL, splice, List.take_zero, List.drop_zero, List.drop_succ_cons, List.take_succ_cons, List.drop_nil, List.take_nil, c2]
  repeat refine And.intro (by omega) ?_
  refine callK_of ct_rSeconds (fun v n3 g3 l3 k3 hC => ?_) (by omega)
  rw [hsec] at hC
  subst hC
  simp only [↓gaW, ↓gaV, ↓gaC, ↓gaN, gaP, Nat.reduceEqDiff, Nat.reduceLeDiff, Nat.reduceAdd, Nat.reduceSub, Nat.reduceMul, Int.reduceLT, Int.reduceLE, Int.reduceEq, Int.reduceToNat, Int.reduceAdd, Int.reduceSub, Int.reduceMul, reduceCtorEq, ↓reduceIte, List.getD_cons_zero, List.getD_cons_succ, fillL, splice, List.take_zero, List.drop_zero, List.drop_succ_cons, List.take_succ_cons, List.drop_nil, List.take_nil]
  repeat refine And.intro (by omega) ?_
  refine callK_of (ct_DateO hs ho) (fun v n4 g4 l4 k4 hC => ?_) (by omega)
  have all6 : ∀ a b c d e g : Int, ∀ v ∈ [Value.int .i64 a, .int .i64 b, .int .i64 c, .int .i64 d, .int .i64 e, .int .i64 g], cellVal v = true := by
    intro a b c d e g v hv
    simp only [List.mem_cons, List.not_mem_nil, or_false] at hv
    rcases hv with rfl | rfl | rfl | rfl | rfl | rfl <;> rfl
  obtain ⟨y0, y1, y2, y3, y4, y5, u, hT⟩ : ∃ y0 y1 y2 y3 y4 y5 : Int, ∃ u, dateT o = .tuple #[.agg #[.int .i64 y0, .int .i64 y1, .int .i64 y2, .int .i64 y3, .int .i64 y4, .int .i64 y5], .bool u] := by
    cases o with
    | none => exact ⟨0, 0, 0, 0, 0, 0, false, rfl⟩
    | some x => exact ⟨x.a, x.b, x.c, x.d, x.e, x.f, true, rfl⟩
  rw [hT] at hC
  subst hC
  simp only [↓gaW, ↓gaV, ↓gaC, ↓gaN, gaP, Nat.reduceEqDiff, Nat.reduceLeDiff, Nat.reduceAdd, Nat.reduceSub, Nat.reduceMul, Int.reduceLT, Int.reduceLE, Int.reduceEq, Int.reduceToNat, Int.reduceAdd, Int.reduceSub, Int.reduceMul, reduceCtorEq, ↓reduceIte, List.getD_cons_zero, List.getD_cons_succ, fillL, splice, List.take_zero, List.drop_zero, List.drop_succ_cons, List.take_succ_cons, List.drop_nil, List.take_nil]
  repeat refine And.intro (by first | omega | exact all6 _ _ _ _ _ _) ?_
  refine callK_of (ct_rDateO hs ho) (fun v n5 g5 l5 k5 hC => ?_) (by omega)
  rw [hT] at hC
  subst hC
  have c5 : g5 n4 = some (.cells [.int .i64 y0, .int .i64 y1, .int .i64 y2, .int .i64 y3, .int .i64 y4, .int .i64 y5] false) := by rw [k5 n4 (by omega)]; simp only [upd_e, if_true]
  have hne : ¬ n4 = n5 := by omega
  simp only [↓gaW, ↓gaV, ↓gaC, ↓gaN, gaP, Nat.reduceEqDiff, Nat.reduceLeDiff, Nat.reduceAdd, Nat.reduceSub, Nat.reduceMul, Int.reduceLT, Int.reduceLE, Int.reduceEq, Int.reduceToNat, Int.reduceAdd, Int.reduceSub, Int.reduceMul, reduceCtorEq, ↓reduceIte, gaE, implies_true, Nat.le_refl, Int.sub_zero, Nat.sub_zero, Int.le_refl, true_or, or_true, List.getD_cons_zero, List.getD_cons_succ, fillL, splice, List.take_zero, List.drop_zero, List.drop_succ_cons, List.take_succ_cons, List.drop_nil, List.take_nil, o_eqA, c5, hne, eq6L, and_self]
  repeat refine And.intro (by first | omega | exact all6 _ _ _ _ _ _) ?_
  intro i hi
  rw [if_neg (by omega), if_neg (by omega), k5 i (by omega)]
  repeat first | rw [if_neg (by omega)] | simp only [upd_e]
  rw [k4 i (by omega), k3 i (by omega), k2 i (by omega), k1 i (by omega)]
  repeat first | rw [if_neg (by omega)] | simp only [upd_e]
end
end Go.Ga

namespace Go.Ga
open Go Go.Proofs
set_option linter.unusedSimpArgs false
set_option linter.unusedVariables false
set_option maxRecDepth 100000

/-- The number of two digits at a place; 999: they are none. -/
def pairI (L : List UInt8) (i : Nat) : Int :=
  if 48 ≤ (L.getD i 0).toNat ∧ (L.getD i 0).toNat ≤ 57 ∧ 48 ≤ (L.getD (i + 1) 0).toNat ∧ (L.getD (i + 1) 0).toNat ≤ 57 then (((L.getD i 0).toNat - 48) * 10 + ((L.getD (i + 1) 0).toNat - 48) : Nat) else 999
theorem pairI_in (L : List UInt8) (i : Nat) : 0 ≤ pairI L i ∧ (pairI L i ≤ 99 ∨ pairI L i = 999) := by
  unfold pairI; split <;> omega
def noR : Value := .tuple #[.int .i64 0, .bool false]
def yearI (L : List UInt8) : Int := if pairI L 0 < 50 then pairI L 0 + 2000 else pairI L 0 + 1900
/-- What is read of a text. -/
def readL (L : List UInt8) : Value := if L.length = 15 ∧ (L.getD 14 0).toNat = 90 then (if pairI L 0 = 999 ∨ pairI L 2 = 999 then noR else SecV (pairI L 0 * 100 + pairI L 2) (pairI L 4) (pairI L 6) (pairI L 8) (pairI L 10) (pairI L 12)) else noR
def readS (L : List UInt8) : Value := if L.length = 13 ∧ (L.getD 12 0).toNat = 90 then SecV (yearI L) (pairI L 2) (pairI L 4) (pairI L 6) (pairI L 8) (pairI L 10) else noR

section
variable {nx : Nat} {gt : Nat → Option Blk}

theorem ct_part {s : ByteArray} {i : Nat} (hi : i + 1 < s.size) (hs : s.size < 1000) : Ct Try.prog 52 [.string s, .int .i64 (i : Nat)] nx gt fun v _ _ => v = .int .i64 (pairI s.data.toList i) := by
  refine Ct.of hmx r_lanyardref03_part (by simp [c_lanyardref03_part]) fun b hb => ?_
  generalize hL : s.data.toList = L
  have e0 : u8V (L.getD i 0) = .int .u8 (((L.getD i 0).toNat : Nat) : Int) := rfl
  have e1 : u8V (L.getD (i + 1) 0) = .int .u8 (((L.getD (i + 1) 0).toNat : Nat) : Int) := rfl
  have q1 : (i : Int) + 1 = ((i + 1 : Nat) : Int) := by omega
  have hx : (L.getD i 0).toNat < 256 := (L.getD i 0).toNat_lt
  have hy : (L.getD (i + 1) 0).toNat < 256 := (L.getD (i + 1) 0).toNat_lt
  simp only [pairI]
  generalize (L.getD i 0).toNat = x at e0 hx ⊢
  generalize (L.getD (i + 1) 0).toNat = y at e1 hy ⊢
  have f1 := i64_w ((i + 1 : Nat) : Int) (by omega)
  by_cases c1 : (x : Int) < 48
  · simp only [c_lanyardref03_part, ↓gaW, ↓gaV, ↓gaC, ↓gaN, gaP, Nat.reduceEqDiff, Nat.reduceLeDiff, Nat.reduceAdd, Nat.reduceSub, Nat.reduceMul, Int.reduceLT, Int.reduceLE, Int.reduceEq, Int.reduceToNat, Int.reduceAdd, Int.reduceSub, Int.reduceMul, reduceCtorEq, ↓reduceIte, gaE, implies_true, Nat.le_refl, Int.sub_zero, Nat.sub_zero, Int.le_refl, true_or, or_true, hL, Int.toNat_natCast, q1, f1, e0, e1, c1, decide_true]
    repeat refine And.intro (by omega) ?_
    rw [if_neg (by omega)]
  by_cases c2 : 57 < (x : Int)
  · simp only [c_lanyardref03_part, ↓gaW, ↓gaV, ↓gaC, ↓gaN, gaP, Nat.reduceEqDiff, Nat.reduceLeDiff, Nat.reduceAdd, Nat.reduceSub, Nat.reduceMul, Int.reduceLT, Int.reduceLE, Int.reduceEq, Int.reduceToNat, Int.reduceAdd, Int.reduceSub, Int.reduceMul, reduceCtorEq, ↓reduceIte, gaE, implies_true, Nat.le_refl, Int.sub_zero, Nat.sub_zero, Int.le_refl, true_or, or_true, hL, Int.toNat_natCast, q1, f1, e0, e1, c1, c2, decide_true, decide_false]
    repeat refine And.intro (by omega) ?_
    rw [if_neg (by omega)]
  by_cases c3 : (y : Int) < 48
  · simp only [c_lanyardref03_part, ↓gaW, ↓gaV, ↓gaC, ↓gaN, gaP, Nat.reduceEqDiff, Nat.reduceLeDiff, Nat.reduceAdd, Nat.reduceSub, Nat.reduceMul, Int.reduceLT, Int.reduceLE, Int.reduceEq, Int.reduceToNat, Int.reduceAdd, Int.reduceSub, Int.reduceMul, reduceCtorEq, ↓reduceIte, gaE, implies_true, Nat.le_refl, Int.sub_zero, Nat.sub_zero, Int.le_refl, true_or, or_true, hL, Int.toNat_natCast, q1, f1, e0, e1, c1, c2, c3, decide_true, decide_false]
    repeat refine And.intro (by omega) ?_
    rw [if_neg (by omega)]
  by_cases c4 : 57 < (y : Int)
  · simp only [c_lanyardref03_part, ↓gaW, ↓gaV, ↓gaC, ↓gaN, gaP, Nat.reduceEqDiff, Nat.reduceLeDiff, Nat.reduceAdd, Nat.reduceSub, Nat.reduceMul, Int.reduceLT, Int.reduceLE, Int.reduceEq, Int.reduceToNat, Int.reduceAdd, Int.reduceSub, Int.reduceMul, reduceCtorEq, ↓reduceIte, gaE, implies_true, Nat.le_refl, Int.sub_zero, Nat.sub_zero, Int.le_refl, true_or, or_true, hL, Int.toNat_natCast, q1, f1, e0, e1, c1, c2, c3, c4, decide_true, decide_false]
    repeat refine And.intro (by omega) ?_
    rw [if_neg (by omega)]
  have g1 := u8_i ((x : Int) - 48) (by omega)
  have g2 := u8_i ((y : Int) - 48) (by omega)
  simp only [c_lanyardref03_part, ↓gaW, ↓gaV, ↓gaC, ↓gaN, gaP, Nat.reduceEqDiff, Nat.reduceLeDiff, Nat.reduceAdd, Nat.reduceSub, Nat.reduceMul, Int.reduceLT, Int.reduceLE, Int.reduceEq, Int.reduceToNat, Int.reduceAdd, Int.reduceSub, Int.reduceMul, reduceCtorEq, ↓reduceIte, gaE, implies_true, Nat.le_refl, Int.sub_zero, Nat.sub_zero, Int.le_refl, true_or, or_true, hL, Int.toNat_natCast, q1, f1, e0, e1, c1, c2, c3, c4, decide_false, g1, g2, i64_w ((x : Int) - 48) (by omega), i64_w ((y : Int) - 48) (by omega), i64_w (((x : Int) - 48) * 10) (by omega), i64_w (((x : Int) - 48) * 10 + ((y : Int) - 48)) (by omega)]
  repeat refine And.intro (by omega) ?_
  rw [if_pos (by omega)]
  congr 1
  omega

theorem secV_no {d0 d1 d2 d3 d4 d5 : Int} (h : 2199 < d0 ∨ d1 = 999 ∨ d2 = 999 ∨ d3 = 999 ∨ d4 = 999 ∨ d5 = 999) : SecV d0 d1 d2 d3 d4 d5 = noR := by
  rw [SecV, if_neg, noR]
  intro hh
  have := okD_e hh
  have h31 := lastI_bd (y := d0) (m := d1) (by omega) (by omega)
  omega

theorem ct_rRead {s : ByteArray} {l : Bool} (hs : s.size < 1000) : Ct Try.prog 38 [.string s, .bool l] nx gt fun v _ _ => v = if l = true then readL s.data.toList else readS s.data.toList := by
  refine Ct.of hmx r_lanyardref03_Read (by simp [c_lanyardref03_Read]) fun b hb => ?_
  have hlen : s.data.toList.length = s.size := by simp
  have hp := fun i (hi : i + 1 < s.size) {nx gt} => ct_part (nx := nx) (gt := gt) hi hs
  obtain ⟨L, hL⟩ : ∃ L, s.data.toList = L := ⟨_, rfl⟩
  simp only [hL] at hp hlen ⊢
  have hF : ∀ q, q < nx → gt q = gt q := fun _ _ => rfl
  have w14 := i64_w 14 (by omega)
  have w12 := i64_w 12 (by omega)
  have w10 := i64_w 10 (by omega)
  have w8 := i64_w 8 (by omega)
  have w6 := i64_w 6 (by omega)
  have w4 := i64_w 4 (by omega)
  have i0 := pairI_in L 0
  have i2 := pairI_in L 2
  cases l with
  | true =>
    simp only [if_true]
    by_cases c1 : (s.size : Int) = 15
    · have n15 : s.size = 15 := by omega
      have e14 : u8V (L.getD 14 0) = .int .u8 (((L.getD 14 0).toNat : Nat) : Int) := rfl
      by_cases c2 : ((L.getD 14 0).toNat : Int) = 90
      · have hR : readL L = if pairI L 0 = 999 ∨ pairI L 2 = 999 then noR else SecV (pairI L 0 * 100 + pairI L 2) (pairI L 4) (pairI L 6) (pairI L 8) (pairI L 10) (pairI L 12) := by rw [readL, if_pos (by omega)]
        simp only [c_lanyardref03_Read, ↓gaW, ↓gaV, ↓gaC, ↓gaN, gaP, Nat.reduceEqDiff, Nat.reduceLeDiff, Nat.reduceAdd, Nat.reduceSub, Nat.reduceMul, Int.reduceLT, Int.reduceLE, Int.reduceEq, Int.reduceToNat, Int.reduceAdd, Int.reduceSub, Int.reduceMul, reduceCtorEq, ↓reduceIte, hL, c1, e14, c2, w14, decide_true, decide_false]
        repeat refine And.intro (by omega) ?_
        refine callK_of (hp 0 (by omega)) (fun v n1 g1 l1 k1 hC => ?_) (by omega)
        subst hC
        have hF : ∀ q, q < nx → g1 q = gt q := fun q hq => (k1 q (by omega)).trans (hF q hq)
        by_cases d0 : pairI L 0 = 999
        · simp only [↓gaW, ↓gaV, ↓gaC, ↓gaN, gaP, Nat.reduceEqDiff, Nat.reduceLeDiff, Nat.reduceAdd, Nat.reduceSub, Nat.reduceMul, Int.reduceLT, Int.reduceLE, Int.reduceEq, Int.reduceToNat, Int.reduceAdd, Int.reduceSub, Int.reduceMul, reduceCtorEq, ↓reduceIte, gaE, implies_true, Nat.le_refl, Int.sub_zero, Nat.sub_zero, Int.le_refl, true_or, or_true, d0, decide_true]
          exact ⟨by omega, hF, by rw [hR, if_pos (.inl d0)]; rfl⟩
        simp only [↓gaW, ↓gaV, ↓gaC, ↓gaN, gaP, Nat.reduceEqDiff, Nat.reduceLeDiff, Nat.reduceAdd, Nat.reduceSub, Nat.reduceMul, Int.reduceLT, Int.reduceLE, Int.reduceEq, Int.reduceToNat, Int.reduceAdd, Int.reduceSub, Int.reduceMul, reduceCtorEq, ↓reduceIte, d0, decide_false]
        refine callK_of (hp 2 (by omega)) (fun v n2 g2 l2 k2 hC => ?_) (by omega)
        subst hC
        have hF : ∀ q, q < nx → g2 q = gt q := fun q hq => (k2 q (by omega)).trans (hF q hq)
        by_cases d2 : pairI L 2 = 999
        · simp only [↓gaW, ↓gaV, ↓gaC, ↓gaN, gaP, Nat.reduceEqDiff, Nat.reduceLeDiff, Nat.reduceAdd, Nat.reduceSub, Nat.reduceMul, Int.reduceLT, Int.reduceLE, Int.reduceEq, Int.reduceToNat, Int.reduceAdd, Int.reduceSub, Int.reduceMul, reduceCtorEq, ↓reduceIte, gaE, implies_true, Nat.le_refl, Int.sub_zero, Nat.sub_zero, Int.le_refl, true_or, or_true, d2, decide_true]
          exact ⟨by omega, hF, by rw [hR, if_pos (.inr d2)]; rfl⟩
        rw [if_neg (show ¬ (pairI L 0 = 999 ∨ pairI L 2 = 999) by omega)] at hR
        simp only [↓gaW, ↓gaV, ↓gaC, ↓gaN, gaP, Nat.reduceEqDiff, Nat.reduceLeDiff, Nat.reduceAdd, Nat.reduceSub, Nat.reduceMul, Int.reduceLT, Int.reduceLE, Int.reduceEq, Int.reduceToNat, Int.reduceAdd, Int.reduceSub, Int.reduceMul, reduceCtorEq, ↓reduceIte, d2, decide_false, i64_w (pairI L 0 * 100) (by omega)]
        refine callK_of (hp 2 (by omega)) (fun v n3 g3 l3 k3 hC => ?_) (by omega)
        subst hC
        have hF : ∀ q, q < nx → g3 q = gt q := fun q hq => (k3 q (by omega)).trans (hF q hq)
        simp only [↓gaW, ↓gaV, ↓gaC, ↓gaN, gaP, Nat.reduceEqDiff, Nat.reduceLeDiff, Nat.reduceAdd, Nat.reduceSub, Nat.reduceMul, Int.reduceLT, Int.reduceLE, Int.reduceEq, Int.reduceToNat, Int.reduceAdd, Int.reduceSub, Int.reduceMul, reduceCtorEq, ↓reduceIte, i64_w (pairI L 0 * 100 + pairI L 2) (by omega)]
        refine callK_of (hp 4 (by omega)) (fun v n4 g4 l4 k4 hC => ?_) (by omega)
        subst hC
        have hF : ∀ q, q < nx → g4 q = gt q := fun q hq => (k4 q (by omega)).trans (hF q hq)
        simp only [↓gaW, ↓gaV, ↓gaC, ↓gaN, gaP, Nat.reduceEqDiff, Nat.reduceLeDiff, Nat.reduceAdd, Nat.reduceSub, Nat.reduceMul, Int.reduceLT, Int.reduceLE, Int.reduceEq, Int.reduceToNat, Int.reduceAdd, Int.reduceSub, Int.reduceMul, reduceCtorEq, ↓reduceIte]
        simp only [w6]
        refine callK_of (hp 6 (by omega)) (fun v n5 g5 l5 k5 hC => ?_) (by omega)
        subst hC
        have hF : ∀ q, q < nx → g5 q = gt q := fun q hq => (k5 q (by omega)).trans (hF q hq)
        simp only [↓gaW, ↓gaV, ↓gaC, ↓gaN, gaP, Nat.reduceEqDiff, Nat.reduceLeDiff, Nat.reduceAdd, Nat.reduceSub, Nat.reduceMul, Int.reduceLT, Int.reduceLE, Int.reduceEq, Int.reduceToNat, Int.reduceAdd, Int.reduceSub, Int.reduceMul, reduceCtorEq, ↓reduceIte]
        simp only [w8]
        refine callK_of (hp 8 (by omega)) (fun v n6 g6 l6 k6 hC => ?_) (by omega)
        subst hC
        have hF : ∀ q, q < nx → g6 q = gt q := fun q hq => (k6 q (by omega)).trans (hF q hq)
        simp only [↓gaW, ↓gaV, ↓gaC, ↓gaN, gaP, Nat.reduceEqDiff, Nat.reduceLeDiff, Nat.reduceAdd, Nat.reduceSub, Nat.reduceMul, Int.reduceLT, Int.reduceLE, Int.reduceEq, Int.reduceToNat, Int.reduceAdd, Int.reduceSub, Int.reduceMul, reduceCtorEq, ↓reduceIte]
        simp only [w10]
        refine callK_of (hp 10 (by omega)) (fun v n7 g7 l7 k7 hC => ?_) (by omega)
        subst hC
        have hF : ∀ q, q < nx → g7 q = gt q := fun q hq => (k7 q (by omega)).trans (hF q hq)
        simp only [↓gaW, ↓gaV, ↓gaC, ↓gaN, gaP, Nat.reduceEqDiff, Nat.reduceLeDiff, Nat.reduceAdd, Nat.reduceSub, Nat.reduceMul, Int.reduceLT, Int.reduceLE, Int.reduceEq, Int.reduceToNat, Int.reduceAdd, Int.reduceSub, Int.reduceMul, reduceCtorEq, ↓reduceIte]
        simp only [w12]
        refine callK_of (hp 12 (by omega)) (fun v n8 g8 l8 k8 hC => ?_) (by omega)
        subst hC
        have hF : ∀ q, q < nx → g8 q = gt q := fun q hq => (k8 q (by omega)).trans (hF q hq)
        simp only [↓gaW, ↓gaV, ↓gaC, ↓gaN, gaP, Nat.reduceEqDiff, Nat.reduceLeDiff, Nat.reduceAdd, Nat.reduceSub, Nat.reduceMul, Int.reduceLT, Int.reduceLE, Int.reduceEq, Int.reduceToNat, Int.reduceAdd, Int.reduceSub, Int.reduceMul, reduceCtorEq, ↓reduceIte, List.getD_cons_zero, List.getD_cons_succ, fillL, splice, List.take_zero, List.drop_zero, List.drop_succ_cons, List.take_succ_cons, List.drop_nil, List.take_nil]
        refine callK_of ct_rSeconds (fun v n9 g9 l9 k9 hC => ?_) (by omega)
        obtain ⟨SA, ST, hsec⟩ := SecV_shape (pairI L 0 * 100 + pairI L 2) (pairI L 4) (pairI L 6) (pairI L 8) (pairI L 10) (pairI L 12)
        rw [hsec] at hC hR
        subst hC
        simp only [↓gaW, ↓gaV, ↓gaC, ↓gaN, gaP, Nat.reduceEqDiff, Nat.reduceLeDiff, Nat.reduceAdd, Nat.reduceSub, Nat.reduceMul, Int.reduceLT, Int.reduceLE, Int.reduceEq, Int.reduceToNat, Int.reduceAdd, Int.reduceSub, Int.reduceMul, reduceCtorEq, ↓reduceIte, gaE, implies_true, Nat.le_refl, Int.sub_zero, Nat.sub_zero, Int.le_refl, true_or, or_true]
        exact ⟨by omega, by omega, by omega, fun k hk => by rw [k9 k (by omega), hF k hk], by rw [hR]⟩
      · simp only [c_lanyardref03_Read, ↓gaW, ↓gaV, ↓gaC, ↓gaN, gaP, Nat.reduceEqDiff, Nat.reduceLeDiff, Nat.reduceAdd, Nat.reduceSub, Nat.reduceMul, Int.reduceLT, Int.reduceLE, Int.reduceEq, Int.reduceToNat, Int.reduceAdd, Int.reduceSub, Int.reduceMul, reduceCtorEq, ↓reduceIte, gaE, implies_true, Nat.le_refl, Int.sub_zero, Nat.sub_zero, Int.le_refl, true_or, or_true, hL, c1, e14, c2, w14, decide_true, decide_false]
        repeat refine And.intro (by omega) ?_
        rw [readL, if_neg (by omega)]; rfl
    · simp only [c_lanyardref03_Read, ↓gaW, ↓gaV, ↓gaC, ↓gaN, gaP, Nat.reduceEqDiff, Nat.reduceLeDiff, Nat.reduceAdd, Nat.reduceSub, Nat.reduceMul, Int.reduceLT, Int.reduceLE, Int.reduceEq, Int.reduceToNat, Int.reduceAdd, Int.reduceSub, Int.reduceMul, reduceCtorEq, ↓reduceIte, gaE, implies_true, Nat.le_refl, Int.sub_zero, Nat.sub_zero, Int.le_refl, true_or, or_true, c1, decide_false]
      repeat refine And.intro (by omega) ?_
      rw [readL, if_neg (by omega)]; rfl
  | false =>
    simp only [if_neg (show ¬ (false = true) by decide)]
    have i0 := pairI_in L 0
    by_cases c1 : (s.size : Int) = 13
    · have n13 : s.size = 13 := by omega
      have e12 : u8V (L.getD 12 0) = .int .u8 (((L.getD 12 0).toNat : Nat) : Int) := rfl
      by_cases c2 : ((L.getD 12 0).toNat : Int) = 90
      · have hR : readS L = SecV (yearI L) (pairI L 2) (pairI L 4) (pairI L 6) (pairI L 8) (pairI L 10) := by rw [readS, if_pos (by omega)]
        rw [yearI] at hR
        simp only [c_lanyardref03_Read, ↓gaW, ↓gaV, ↓gaC, ↓gaN, gaP, Nat.reduceEqDiff, Nat.reduceLeDiff, Nat.reduceAdd, Nat.reduceSub, Nat.reduceMul, Int.reduceLT, Int.reduceLE, Int.reduceEq, Int.reduceToNat, Int.reduceAdd, Int.reduceSub, Int.reduceMul, reduceCtorEq, ↓reduceIte, hL, c1, e12, c2, w12, decide_true, decide_false]
        repeat refine And.intro (by omega) ?_
        refine callK_of (hp 0 (by omega)) (fun v n1 g1 l1 k1 hC => ?_) (by omega)
        subst hC
        have hF : ∀ q, q < nx → g1 q = gt q := fun q hq => (k1 q (by omega)).trans (hF q hq)
        by_cases d0 : pairI L 0 < 50
        · rw [if_pos d0] at hR
          simp only [↓gaW, ↓gaV, ↓gaC, ↓gaN, gaP, Nat.reduceEqDiff, Nat.reduceLeDiff, Nat.reduceAdd, Nat.reduceSub, Nat.reduceMul, Int.reduceLT, Int.reduceLE, Int.reduceEq, Int.reduceToNat, Int.reduceAdd, Int.reduceSub, Int.reduceMul, reduceCtorEq, ↓reduceIte, d0, decide_true, i64_w (pairI L 0 + 2000) (by omega)]
          refine callK_of (hp 2 (by omega)) (fun v n4 g4 l4 k4 hC => ?_) (by omega)
          subst hC
          have hF : ∀ q, q < nx → g4 q = gt q := fun q hq => (k4 q (by omega)).trans (hF q hq)
          simp only [↓gaW, ↓gaV, ↓gaC, ↓gaN, gaP, Nat.reduceEqDiff, Nat.reduceLeDiff, Nat.reduceAdd, Nat.reduceSub, Nat.reduceMul, Int.reduceLT, Int.reduceLE, Int.reduceEq, Int.reduceToNat, Int.reduceAdd, Int.reduceSub, Int.reduceMul, reduceCtorEq, ↓reduceIte]
          simp only [w4]
          refine callK_of (hp 4 (by omega)) (fun v n5 g5 l5 k5 hC => ?_) (by omega)
          subst hC
          have hF : ∀ q, q < nx → g5 q = gt q := fun q hq => (k5 q (by omega)).trans (hF q hq)
          simp only [↓gaW, ↓gaV, ↓gaC, ↓gaN, gaP, Nat.reduceEqDiff, Nat.reduceLeDiff, Nat.reduceAdd, Nat.reduceSub, Nat.reduceMul, Int.reduceLT, Int.reduceLE, Int.reduceEq, Int.reduceToNat, Int.reduceAdd, Int.reduceSub, Int.reduceMul, reduceCtorEq, ↓reduceIte]
          simp only [w6]
          refine callK_of (hp 6 (by omega)) (fun v n6 g6 l6 k6 hC => ?_) (by omega)
          subst hC
          have hF : ∀ q, q < nx → g6 q = gt q := fun q hq => (k6 q (by omega)).trans (hF q hq)
          simp only [↓gaW, ↓gaV, ↓gaC, ↓gaN, gaP, Nat.reduceEqDiff, Nat.reduceLeDiff, Nat.reduceAdd, Nat.reduceSub, Nat.reduceMul, Int.reduceLT, Int.reduceLE, Int.reduceEq, Int.reduceToNat, Int.reduceAdd, Int.reduceSub, Int.reduceMul, reduceCtorEq, ↓reduceIte]
          simp only [w8]
          refine callK_of (hp 8 (by omega)) (fun v n7 g7 l7 k7 hC => ?_) (by omega)
          subst hC
          have hF : ∀ q, q < nx → g7 q = gt q := fun q hq => (k7 q (by omega)).trans (hF q hq)
          simp only [↓gaW, ↓gaV, ↓gaC, ↓gaN, gaP, Nat.reduceEqDiff, Nat.reduceLeDiff, Nat.reduceAdd, Nat.reduceSub, Nat.reduceMul, Int.reduceLT, Int.reduceLE, Int.reduceEq, Int.reduceToNat, Int.reduceAdd, Int.reduceSub, Int.reduceMul, reduceCtorEq, ↓reduceIte]
          simp only [w10]
          refine callK_of (hp 10 (by omega)) (fun v n8 g8 l8 k8 hC => ?_) (by omega)
          subst hC
          have hF : ∀ q, q < nx → g8 q = gt q := fun q hq => (k8 q (by omega)).trans (hF q hq)
          simp only [↓gaW, ↓gaV, ↓gaC, ↓gaN, gaP, Nat.reduceEqDiff, Nat.reduceLeDiff, Nat.reduceAdd, Nat.reduceSub, Nat.reduceMul, Int.reduceLT, Int.reduceLE, Int.reduceEq, Int.reduceToNat, Int.reduceAdd, Int.reduceSub, Int.reduceMul, reduceCtorEq, ↓reduceIte, List.getD_cons_zero, List.getD_cons_succ, fillL, splice, List.take_zero, List.drop_zero, List.drop_succ_cons, List.take_succ_cons, List.drop_nil, List.take_nil]
          refine callK_of ct_rSeconds (fun v n9 g9 l9 k9 hC => ?_) (by omega)
          obtain ⟨SA, ST, hsec⟩ := SecV_shape _ (pairI L 2) (pairI L 4) (pairI L 6) (pairI L 8) (pairI L 10)
          rw [hsec] at hC hR
          subst hC
          simp only [↓gaW, ↓gaV, ↓gaC, ↓gaN, gaP, Nat.reduceEqDiff, Nat.reduceLeDiff, Nat.reduceAdd, Nat.reduceSub, Nat.reduceMul, Int.reduceLT, Int.reduceLE, Int.reduceEq, Int.reduceToNat, Int.reduceAdd, Int.reduceSub, Int.reduceMul, reduceCtorEq, ↓reduceIte, gaE, implies_true, Nat.le_refl, Int.sub_zero, Nat.sub_zero, Int.le_refl, true_or, or_true]
          exact ⟨by omega, by omega, by omega, fun k hk => by rw [k9 k (by omega), hF k hk], by rw [hR]⟩
        · rw [if_neg d0] at hR
          simp only [↓gaW, ↓gaV, ↓gaC, ↓gaN, gaP, Nat.reduceEqDiff, Nat.reduceLeDiff, Nat.reduceAdd, Nat.reduceSub, Nat.reduceMul, Int.reduceLT, Int.reduceLE, Int.reduceEq, Int.reduceToNat, Int.reduceAdd, Int.reduceSub, Int.reduceMul, reduceCtorEq, ↓reduceIte, d0, decide_false, i64_w (pairI L 0 + 1900) (by omega)]
          refine callK_of (hp 2 (by omega)) (fun v n4 g4 l4 k4 hC => ?_) (by omega)
          subst hC
          have hF : ∀ q, q < nx → g4 q = gt q := fun q hq => (k4 q (by omega)).trans (hF q hq)
          simp only [↓gaW, ↓gaV, ↓gaC, ↓gaN, gaP, Nat.reduceEqDiff, Nat.reduceLeDiff, Nat.reduceAdd, Nat.reduceSub, Nat.reduceMul, Int.reduceLT, Int.reduceLE, Int.reduceEq, Int.reduceToNat, Int.reduceAdd, Int.reduceSub, Int.reduceMul, reduceCtorEq, ↓reduceIte]
          simp only [w4]
          refine callK_of (hp 4 (by omega)) (fun v n5 g5 l5 k5 hC => ?_) (by omega)
          subst hC
          have hF : ∀ q, q < nx → g5 q = gt q := fun q hq => (k5 q (by omega)).trans (hF q hq)
          simp only [↓gaW, ↓gaV, ↓gaC, ↓gaN, gaP, Nat.reduceEqDiff, Nat.reduceLeDiff, Nat.reduceAdd, Nat.reduceSub, Nat.reduceMul, Int.reduceLT, Int.reduceLE, Int.reduceEq, Int.reduceToNat, Int.reduceAdd, Int.reduceSub, Int.reduceMul, reduceCtorEq, ↓reduceIte]
          simp only [w6]
          refine callK_of (hp 6 (by omega)) (fun v n6 g6 l6 k6 hC => ?_) (by omega)
          subst hC
          have hF : ∀ q, q < nx → g6 q = gt q := fun q hq => (k6 q (by omega)).trans (hF q hq)
          simp only [↓gaW, ↓gaV, ↓gaC, ↓gaN, gaP, Nat.reduceEqDiff, Nat.reduceLeDiff, Nat.reduceAdd, Nat.reduceSub, Nat.reduceMul, Int.reduceLT, Int.reduceLE, Int.reduceEq, Int.reduceToNat, Int.reduceAdd, Int.reduceSub, Int.reduceMul, reduceCtorEq, ↓reduceIte]
          simp only [w8]
          refine callK_of (hp 8 (by omega)) (fun v n7 g7 l7 k7 hC => ?_) (by omega)
          subst hC
          have hF : ∀ q, q < nx → g7 q = gt q := fun q hq => (k7 q (by omega)).trans (hF q hq)
          simp only [↓gaW, ↓gaV, ↓gaC, ↓gaN, gaP, Nat.reduceEqDiff, Nat.reduceLeDiff, Nat.reduceAdd, Nat.reduceSub, Nat.reduceMul, Int.reduceLT, Int.reduceLE, Int.reduceEq, Int.reduceToNat, Int.reduceAdd, Int.reduceSub, Int.reduceMul, reduceCtorEq, ↓reduceIte]
          simp only [w10]
          refine callK_of (hp 10 (by omega)) (fun v n8 g8 l8 k8 hC => ?_) (by omega)
          subst hC
          have hF : ∀ q, q < nx → g8 q = gt q := fun q hq => (k8 q (by omega)).trans (hF q hq)
          simp only [↓gaW, ↓gaV, ↓gaC, ↓gaN, gaP, Nat.reduceEqDiff, Nat.reduceLeDiff, Nat.reduceAdd, Nat.reduceSub, Nat.reduceMul, Int.reduceLT, Int.reduceLE, Int.reduceEq, Int.reduceToNat, Int.reduceAdd, Int.reduceSub, Int.reduceMul, reduceCtorEq, ↓reduceIte, List.getD_cons_zero, List.getD_cons_succ, fillL, splice, List.take_zero, List.drop_zero, List.drop_succ_cons, List.take_succ_cons, List.drop_nil, List.take_nil]
          refine callK_of ct_rSeconds (fun v n9 g9 l9 k9 hC => ?_) (by omega)
          obtain ⟨SA, ST, hsec⟩ := SecV_shape _ (pairI L 2) (pairI L 4) (pairI L 6) (pairI L 8) (pairI L 10)
          rw [hsec] at hC hR
          subst hC
          simp only [↓gaW, ↓gaV, ↓gaC, ↓gaN, gaP, Nat.reduceEqDiff, Nat.reduceLeDiff, Nat.reduceAdd, Nat.reduceSub, Nat.reduceMul, Int.reduceLT, Int.reduceLE, Int.reduceEq, Int.reduceToNat, Int.reduceAdd, Int.reduceSub, Int.reduceMul, reduceCtorEq, ↓reduceIte, gaE, implies_true, Nat.le_refl, Int.sub_zero, Nat.sub_zero, Int.le_refl, true_or, or_true]
          exact ⟨by omega, by omega, by omega, fun k hk => by rw [k9 k (by omega), hF k hk], by rw [hR]⟩
      · simp only [c_lanyardref03_Read, ↓gaW, ↓gaV, ↓gaC, ↓gaN, gaP, Nat.reduceEqDiff, Nat.reduceLeDiff, Nat.reduceAdd, Nat.reduceSub, Nat.reduceMul, Int.reduceLT, Int.reduceLE, Int.reduceEq, Int.reduceToNat, Int.reduceAdd, Int.reduceSub, Int.reduceMul, reduceCtorEq, ↓reduceIte, gaE, implies_true, Nat.le_refl, Int.sub_zero, Nat.sub_zero, Int.le_refl, true_or, or_true, hL, c1, e12, c2, w12, decide_true, decide_false]
        repeat refine And.intro (by omega) ?_
        rw [readS, if_neg (by omega)]; rfl
    · simp only [c_lanyardref03_Read, ↓gaW, ↓gaV, ↓gaC, ↓gaN, gaP, Nat.reduceEqDiff, Nat.reduceLeDiff, Nat.reduceAdd, Nat.reduceSub, Nat.reduceMul, Int.reduceLT, Int.reduceLE, Int.reduceEq, Int.reduceToNat, Int.reduceAdd, Int.reduceSub, Int.reduceMul, reduceCtorEq, ↓reduceIte, gaE, implies_true, Nat.le_refl, Int.sub_zero, Nat.sub_zero, Int.le_refl, true_or, or_true, c1, decide_false]
      repeat refine And.intro (by omega) ?_
      rw [readS, if_neg (by omega)]; rfl
end
end Go.Ga

namespace Go.Ga
open Go Go.Proofs
set_option linter.unusedSimpArgs false
set_option linter.unusedVariables false
set_option maxRecDepth 100000
attribute [local irreducible] appendK

theorem readL_no {L : List UInt8} {i : Nat} (hi : i < 7) (h : pairI L (2 * i) = 999) : readL L = noR := by
  rw [readL]
  split
  · split
    · rfl
    · have : i = 0 ∨ i = 1 ∨ i = 2 ∨ i = 3 ∨ i = 4 ∨ i = 5 ∨ i = 6 := by omega
      rcases this with rfl | rfl | rfl | rfl | rfl | rfl | rfl <;> simp only [Nat.reduceMul] at h <;> first | (exact secV_no (by omega)) | omega
  · rfl
theorem readS_no {L : List UInt8} {i : Nat} (hi : i < 6) (h : pairI L (2 * i) = 999) : readS L = noR := by
  rw [readS]
  split
  · have : i = 0 ∨ i = 1 ∨ i = 2 ∨ i = 3 ∨ i = 4 ∨ i = 5 := by omega
    rcases this with rfl | rfl | rfl | rfl | rfl | rfl <;> simp only [Nat.reduceMul] at h <;> refine secV_no ?_
    · rw [yearI, if_neg (by omega)]; omega
    all_goals omega
  · rfl
theorem pairI_bad {L : List UInt8} {i : Nat} (h : (L.getD i 0).toNat < 48 ∨ 57 < (L.getD i 0).toNat ∨ (L.getD (i + 1) 0).toNat < 48 ∨ 57 < (L.getD (i + 1) 0).toNat) : pairI L i = 999 := by
  rw [pairI, if_neg (by omega)]
theorem pairI_ok {L : List UInt8} {i x y : Nat} (hx : (L.getD i 0).toNat = x) (hy : (L.getD (i + 1) 0).toNat = y) (h : 48 ≤ x ∧ x ≤ 57 ∧ 48 ≤ y ∧ y ≤ 57) : pairI L i = ((x : Int) - 48) * 10 + ((y : Int) - 48) := by
  rw [pairI, hx, hy, if_pos h]; omega
def pairsV (L : List UInt8) (n : Nat) : List Value := (List.range n).map fun j => .int .i64 (pairI L (2 * j))
theorem pairsV_succ (L : List UInt8) (n : Nat) : pairsV L (n + 1) = pairsV L n ++ [.int .i64 (pairI L (2 * n))] := by simp [pairsV, List.range_succ]

theorem go_x {P : Program} {d : Option Nat} {n i : Nat} {l : List RO} {f : Regs} {m : Mem} {Q : AEx → Regs → Mem → Prop} : goOps P (⟨d, .xop (.s2a n (.t i)), none⟩ :: l) f m Q = asS (f i) fun A k c => asO A fun a => n ≤ k ∧ 0 < c ∧ goOps P l (putR f d (.pointer (some ⟨a.block, a.off, none⟩))) m Q := by
  have h : goOps P (⟨d, .xop (.s2a n (.t i)), none⟩ :: l) f m Q = XOp.vc f m (fun v m' => goOps P l (putR f d v) m' Q) (.s2a n (.t i)) := rfl
  rw [h]
  simp only [XOp.vc, Rv.ev, asS, asO]
  cases f i with
  | slice a k c => cases a <;> rfl
  | _ => rfl

section
variable {nx : Nat} {gt : Nat → Option Blk}

theorem ct_Read {s : ByteArray} {l : Bool} (hs : s.size < 1000) : Ct Try.prog 37 [.string s, .bool l] nx gt fun v _ _ => v = if l = true then readL s.data.toList else readS s.data.toList := by
  refine Ct.of hmx r_clock_Read (by simp [c_clock_Read]) fun b hb => ?_
  have hlen : s.data.toList.length = s.size := by simp
  obtain ⟨L, hL⟩ : ∃ L, s.data.toList = L := ⟨_, rfl⟩
  rw [hL] at hlen ⊢
  cases l with
  | true =>
    simp only [if_true]
    have wz := i64_w 14 (by omega)
    by_cases c1 : (s.size : Int) = 15
    · have nz : s.size = 15 := by omega
      have hLm : (L.map u8V).length = 15 := by simp only [List.length_map, hlen, nz]
      have ez : u8V (L.getD 14 0) = .int .u8 (((L.getD 14 0).toNat : Nat) : Int) := rfl
      by_cases c2 : ((L.getD 14 0).toNat : Int) = 90
      · simp only [c_clock_Read, ↓gaW, ↓gaV, ↓gaC, ↓gaN, gaP, Nat.reduceEqDiff, Nat.reduceLeDiff, Nat.reduceAdd, Nat.reduceSub, Nat.reduceMul, Int.reduceLT, Int.reduceLE, Int.reduceEq, Int.reduceToNat, Int.reduceAdd, Int.reduceSub, Int.reduceMul, reduceCtorEq, ↓reduceIte, hL, c1, ez, c2, wz, decide_true, decide_false, nz]
        refine ⟨.inl trivial, ?_⟩
        refine loop_of (fun j f mm => ∃ (i x : Nat) (g : Nat → Option Blk) (Q : Option Addr), j = 7 - i ∧ i ≤ 7 ∧ f 1 = .bool true ∧ f 7 = .slice (some ⟨nx, 2 * i, none⟩) (14 - 2 * i) (14 - 2 * i) ∧ f 8 = .slice Q i i ∧ mm = ⟨x, b, g⟩ ∧ nx + 1 ≤ x ∧
            (∀ q, q < nx → g q = gt q) ∧ g nx = some (.cells (L.map u8V) false) ∧ Own (nx + 1) b x g 1 Q i (pairsV L i) ∧ ∀ j, j < i → pairI L (2 * j) ≠ 999) 7
          ⟨0, nx + 1, _, none, by omega, by omega, rfl, rfl, rfl, rfl, by omega, fun q hq => by simp only [upd_e]; rw [if_neg (by omega)], by simp only [upd_e, if_true], .nil, fun j hj => absurd hj (Nat.not_lt_zero j)⟩ ?_
        rintro j f mm ⟨i, x, g, Q, rfl, hi, h1, h7, h8, rfl, hx, hg, hgn, how, hne⟩
        by_cases hlt : (0 : Int) < ((14 - 2 * i : Nat) : Int)
        · have ea : (L.map u8V).getD (2 * i) undef = .int .u8 (((L.getD (2 * i) 0).toNat : Nat) : Int) := getD_u8 (by omega)
          have eb : (L.map u8V).getD (2 * i + 1) undef = .int .u8 (((L.getD (2 * i + 1) 0).toNat : Nat) : Int) := getD_u8 (by omega)
          have hxb : (L.getD (2 * i) 0).toNat < 256 := (L.getD (2 * i) 0).toNat_lt
          have hyb : (L.getD (2 * i + 1) 0).toNat < 256 := (L.getD (2 * i + 1) 0).toNat_lt
          obtain ⟨X, hX⟩ : ∃ X, (L.getD (2 * i) 0).toNat = X := ⟨_, rfl⟩
          obtain ⟨Y, hY⟩ : ∃ Y, (L.getD (2 * i + 1) 0).toNat = Y := ⟨_, rfl⟩
          rw [hX] at ea hxb
          rw [hY] at eb hyb
          have hbad : (X < 48 ∨ 57 < X ∨ Y < 48 ∨ 57 < Y) → readL L = noR := fun h => readL_no (show i < 7 by omega) (pairI_bad (by rw [hX, hY]; exact h))
          by_cases d1 : (X : Int) < 48
          · simp only [↓gaW, ↓gaV, ↓gaC, ↓gaN, gaP, Nat.reduceEqDiff, Nat.reduceLeDiff, Nat.reduceAdd, Nat.reduceSub, Nat.reduceMul, Int.reduceLT, Int.reduceLE, Int.reduceEq, Int.reduceToNat, Int.reduceAdd, Int.reduceSub, Int.reduceMul, reduceCtorEq, ↓reduceIte, gaE, implies_true, Nat.le_refl, Int.sub_zero, Nat.sub_zero, Int.le_refl, true_or, or_true, h1, h7, h8, hlt, hgn, ea, eb, d1, decide_true]
            repeat refine And.intro (by omega) ?_
            first | exact ⟨hg, by rw [hbad (by omega)]; rfl⟩ | (rw [hbad (by omega)]; rfl)
          by_cases d2 : 57 < (X : Int)
          · simp only [↓gaW, ↓gaV, ↓gaC, ↓gaN, gaP, Nat.reduceEqDiff, Nat.reduceLeDiff, Nat.reduceAdd, Nat.reduceSub, Nat.reduceMul, Int.reduceLT, Int.reduceLE, Int.reduceEq, Int.reduceToNat, Int.reduceAdd, Int.reduceSub, Int.reduceMul, reduceCtorEq, ↓reduceIte, gaE, implies_true, Nat.le_refl, Int.sub_zero, Nat.sub_zero, Int.le_refl, true_or, or_true, h1, h7, h8, hlt, hgn, ea, eb, d1, d2, decide_true, decide_false]
            repeat refine And.intro (by omega) ?_
            first | exact ⟨hg, by rw [hbad (by omega)]; rfl⟩ | (rw [hbad (by omega)]; rfl)
          by_cases d3 : (Y : Int) < 48
          · simp only [↓gaW, ↓gaV, ↓gaC, ↓gaN, gaP, Nat.reduceEqDiff, Nat.reduceLeDiff, Nat.reduceAdd, Nat.reduceSub, Nat.reduceMul, Int.reduceLT, Int.reduceLE, Int.reduceEq, Int.reduceToNat, Int.reduceAdd, Int.reduceSub, Int.reduceMul, reduceCtorEq, ↓reduceIte, gaE, implies_true, Nat.le_refl, Int.sub_zero, Nat.sub_zero, Int.le_refl, true_or, or_true, h1, h7, h8, hlt, hgn, ea, eb, d1, d2, d3, decide_true, decide_false]
            repeat refine And.intro (by omega) ?_
            first | exact ⟨hg, by rw [hbad (by omega)]; rfl⟩ | (rw [hbad (by omega)]; rfl)
          by_cases d4 : 57 < (Y : Int)
          · simp only [↓gaW, ↓gaV, ↓gaC, ↓gaN, gaP, Nat.reduceEqDiff, Nat.reduceLeDiff, Nat.reduceAdd, Nat.reduceSub, Nat.reduceMul, Int.reduceLT, Int.reduceLE, Int.reduceEq, Int.reduceToNat, Int.reduceAdd, Int.reduceSub, Int.reduceMul, reduceCtorEq, ↓reduceIte, gaE, implies_true, Nat.le_refl, Int.sub_zero, Nat.sub_zero, Int.le_refl, true_or, or_true, h1, h7, h8, hlt, hgn, ea, eb, d1, d2, d3, d4, decide_true, decide_false]
            repeat refine And.intro (by omega) ?_
            first | exact ⟨hg, by rw [hbad (by omega)]; rfl⟩ | (rw [hbad (by omega)]; rfl)
          have hpr := pairI_ok hX hY (by omega)
          have g1 := u8_i ((X : Int) - 48) (by omega)
          have g2 := u8_i ((Y : Int) - 48) (by omega)
          simp only [↓gaW, ↓gaV, ↓gaC, ↓gaN, gaP, Nat.reduceEqDiff, Nat.reduceLeDiff, Nat.reduceAdd, Nat.reduceSub, Nat.reduceMul, Int.reduceLT, Int.reduceLE, Int.reduceEq, Int.reduceToNat, Int.reduceAdd, Int.reduceSub, Int.reduceMul, reduceCtorEq, ↓reduceIte, h1, h7, h8, hlt, hgn, ea, eb, d1, d2, d3, d4, decide_true, decide_false, g1, g2, i64_w ((X : Int) - 48) (by omega), i64_w ((Y : Int) - 48) (by omega), i64_w (((X : Int) - 48) * 10) (by omega), i64_w (((X : Int) - 48) * 10 + ((Y : Int) - 48)) (by omega)]
          repeat refine And.intro (by omega) ?_
          have w1 : ∀ z : Int, Value.int .i64 z = Value.int .i64 z := fun _ => rfl
          simp only [List.getD_cons_zero, List.getD_cons_succ, fillL, splice, List.take_zero, List.drop_zero, List.drop_succ_cons, List.take_succ_cons, List.drop_nil, List.take_nil, ↓gaW, ↓gaV, ↓gaC, ↓gaN, gaP, Nat.reduceEqDiff, Nat.reduceLeDiff, Nat.reduceAdd, Nat.reduceSub, Nat.reduceMul, Int.reduceLT, Int.reduceLE, Int.reduceEq, Int.reduceToNat, Int.reduceAdd, Int.reduceSub, Int.reduceMul, reduceCtorEq, ↓reduceIte, row_new (show 1 ≤ [Value.int .i64 (((X : Int) - 48) * 10 + ((Y : Int) - 48))].length from Nat.le_refl 1)]
          refine own_append (nx := nx + 1) (how.keep (Nat.le_succ _) (fun p hp => by simp only [upd_e]; rw [if_neg (by omega)])) (by omega) (by omega) (by omega) (by omega) (by simp) (all1 rfl) (by omega) (by omega) fun g' hg' how' => ?_
          simp only [↓gaW, ↓gaV, ↓gaC, ↓gaN, gaP, Nat.reduceEqDiff, Nat.reduceLeDiff, Nat.reduceAdd, Nat.reduceSub, Nat.reduceMul, Int.reduceLT, Int.reduceLE, Int.reduceEq, Int.reduceToNat, Int.reduceAdd, Int.reduceSub, Int.reduceMul, reduceCtorEq, ↓reduceIte, h7, loopK_n]
          refine ⟨by omega, by omega, by omega, by simp, 7 - (i + 1), by omega, i + 1, x + 1 + 1, g', some ⟨x + 1, 0, some 1⟩, rfl, by omega, h1, ?_, rfl, rfl, by omega, ?_, ?_, ?_, ?_⟩
          · rw [show 2 * i + 2 = 2 * (i + 1) by omega, show (((14 - 2 * i : Nat) : Int) - 2).toNat = 14 - 2 * (i + 1) by omega]
          · intro p hp; rw [hg' p (by omega)]; simp only [upd_e]; rw [if_neg (by omega), hg p hp]
          · rw [hg' nx (by omega)]; simp only [upd_e]; rw [if_neg (by omega), hgn]
          · rw [pairsV_succ, hpr]; exact how'
          · intro j hj
            rcases Nat.lt_or_ge j i with h | h
            · exact hne j h
            · have : j = i := by omega
              subst this
              rw [hpr]; omega
        · have hin : i = 7 := by omega
          subst hin
          obtain ⟨q, rfl, hq1, hq2, hq3, hq4⟩ : ∃ q, Q = some ⟨q, 0, some 1⟩ ∧ nx + 1 ≤ q ∧ q < x ∧ b ≤ q ∧ g q = some (.cells (pairsV L 7) false) := by
            rcases how.2 with ⟨_, h⟩ | h
            · omega
            · exact h
          have hrow := how.row
          rw [show pairsV L 7 = [.int .i64 (pairI L 0), .int .i64 (pairI L 2), .int .i64 (pairI L 4), .int .i64 (pairI L 6), .int .i64 (pairI L 8), .int .i64 (pairI L 10), .int .i64 (pairI L 12)] from rfl] at hq4 hrow
          have i0 := pairI_in L 0
          have i2 := pairI_in L 2
          have ne0 : pairI L 0 ≠ 999 := hne 0 (by omega)
          have ne1 : pairI L 2 ≠ 999 := hne 1 (by omega)
          simp only [↓gaW, ↓gaV, ↓gaC, ↓gaN, gaP, Nat.reduceEqDiff, Nat.reduceLeDiff, Nat.reduceAdd, Nat.reduceSub, Nat.reduceMul, Int.reduceLT, Int.reduceLE, Int.reduceEq, Int.reduceToNat, Int.reduceAdd, Int.reduceSub, Int.reduceMul, reduceCtorEq, ↓reduceIte, List.getD_cons_zero, List.getD_cons_succ, fillL, splice, List.take_zero, List.drop_zero, List.drop_succ_cons, List.take_succ_cons, List.drop_nil, List.take_nil, h1, h7, h8, hlt, decide_false, loopK_e, hq4, i64_w (pairI L 0 * 100) (by omega), i64_w (pairI L 0 * 100 + pairI L 2) (by omega)]
          repeat refine And.intro (by first | omega | simp) ?_
          obtain ⟨gm, hgm⟩ : ∃ gm, upd g x (some (.cells [.int .i64 (pairI L 0 * 100 + pairI L 2)] false)) = gm := ⟨_, rfl⟩
          have hkm : ∀ p, p < x → gm p = g p := fun p hp => by rw [← hgm]; simp only [upd_e]; rw [if_neg (by omega)]
          have hgx : gm x = some (.cells [.int .i64 (pairI L 0 * 100 + pairI L 2)] false) := by rw [← hgm]; simp only [upd_e, if_true]
          rw [hgm]
          have hsrc : rowOf ⟨x + 1, x + 1, gm⟩ (some ⟨q, 2, some 1⟩) 5 = some [.int .i64 (pairI L 4), .int .i64 (pairI L 6), .int .i64 (pairI L 8), .int .i64 (pairI L 10), .int .i64 (pairI L 12)] :=
            ((Row.part (A := some ⟨q, 0, some 1⟩) (N := 7) hrow (lo := 2) (hi := 7) (by omega) (by omega) rfl).keep (Nat.le_succ _) hkm).rowOf (b := x + 1)
          have hsrcb : rowOf ⟨x + 1, b, gm⟩ (some ⟨q, 2, some 1⟩) 5 = some [.int .i64 (pairI L 4), .int .i64 (pairI L 6), .int .i64 (pairI L 8), .int .i64 (pairI L 10), .int .i64 (pairI L 12)] :=
            ((Row.part (A := some ⟨q, 0, some 1⟩) (N := 7) hrow (lo := 2) (hi := 7) (by omega) (by omega) rfl).keep (Nat.le_succ _) hkm).rowOf (b := b)
          simp only [hsrc, hsrcb, asO_e]
          refine grow_append (nx := x) (Grow.lit (l := [.int .i64 (pairI L 0 * 100 + pairI L 2)]) (Nat.lt_succ_self x) hgx rfl) (by omega) (by omega) (by omega) (by omega) rfl (fun v hv => by simp only [List.mem_cons, List.not_mem_nil, or_false] at hv; rcases hv with rfl | rfl | rfl | rfl | rfl <;> rfl) (by omega) (by omega) fun g' hg' how' => ?_
          obtain ⟨_, ⟨h, _⟩ | ⟨q', e, _, _, _, hc'⟩⟩ := how'
          · cases h
          injection e with e
          injection e with e
          subst e
          simp only [List.cons_append, List.nil_append] at hc'
          simp only [↓gaW, ↓gaV, ↓gaC, ↓gaN, gaP, Nat.reduceEqDiff, Nat.reduceLeDiff, Nat.reduceAdd, Nat.reduceSub, Nat.reduceMul, Int.reduceLT, Int.reduceLE, Int.reduceEq, Int.reduceToNat, Int.reduceAdd, Int.reduceSub, Int.reduceMul, reduceCtorEq, ↓reduceIte, List.getD_cons_zero, List.getD_cons_succ, fillL, splice, List.take_zero, List.drop_zero, List.drop_succ_cons, List.take_succ_cons, List.drop_nil, List.take_nil, go_x, hc']
          repeat refine And.intro (by first | omega | simp) ?_
          refine callK_of ct_Seconds (fun v n9 g9 l9 k9 hC => ?_) (by omega)
          have hR : readL L = SecV (pairI L 0 * 100 + pairI L 2) (pairI L 4) (pairI L 6) (pairI L 8) (pairI L 10) (pairI L 12) := by rw [readL, if_pos (by omega), if_neg (by omega)]
          obtain ⟨SA, ST, hsec⟩ := SecV_shape (pairI L 0 * 100 + pairI L 2) (pairI L 4) (pairI L 6) (pairI L 8) (pairI L 10) (pairI L 12)
          rw [hsec] at hC hR
          subst hC
          simp only [↓gaW, ↓gaV, ↓gaC, ↓gaN, gaP, Nat.reduceEqDiff, Nat.reduceLeDiff, Nat.reduceAdd, Nat.reduceSub, Nat.reduceMul, Int.reduceLT, Int.reduceLE, Int.reduceEq, Int.reduceToNat, Int.reduceAdd, Int.reduceSub, Int.reduceMul, reduceCtorEq, ↓reduceIte, gaE, implies_true, Nat.le_refl, Int.sub_zero, Nat.sub_zero, Int.le_refl, true_or, or_true]
          exact ⟨by omega, by omega, by omega, fun p hp => by rw [k9 p (by omega), hg' p (by omega), hkm p (by omega), hg p hp], by rw [hR]⟩
      · simp only [c_clock_Read, ↓gaW, ↓gaV, ↓gaC, ↓gaN, gaP, Nat.reduceEqDiff, Nat.reduceLeDiff, Nat.reduceAdd, Nat.reduceSub, Nat.reduceMul, Int.reduceLT, Int.reduceLE, Int.reduceEq, Int.reduceToNat, Int.reduceAdd, Int.reduceSub, Int.reduceMul, reduceCtorEq, ↓reduceIte, gaE, implies_true, Nat.le_refl, Int.sub_zero, Nat.sub_zero, Int.le_refl, true_or, or_true, hL, c1, ez, c2, wz, decide_true, decide_false, nz]
        repeat refine And.intro (by omega) ?_
        rw [readL, if_neg (by omega)]; rfl
    · simp only [c_clock_Read, ↓gaW, ↓gaV, ↓gaC, ↓gaN, gaP, Nat.reduceEqDiff, Nat.reduceLeDiff, Nat.reduceAdd, Nat.reduceSub, Nat.reduceMul, Int.reduceLT, Int.reduceLE, Int.reduceEq, Int.reduceToNat, Int.reduceAdd, Int.reduceSub, Int.reduceMul, reduceCtorEq, ↓reduceIte, gaE, implies_true, Nat.le_refl, Int.sub_zero, Nat.sub_zero, Int.le_refl, true_or, or_true, hL, c1, decide_false, decide_true]
      repeat refine And.intro (by omega) ?_
      rw [readL, if_neg (by omega)]; rfl
  | false =>
    simp only [if_neg (show ¬ (false = true) by decide)]
    have wz := i64_w 12 (by omega)
    by_cases c1 : (s.size : Int) = 13
    · have nz : s.size = 13 := by omega
      have hLm : (L.map u8V).length = 13 := by simp only [List.length_map, hlen, nz]
      have ez : u8V (L.getD 12 0) = .int .u8 (((L.getD 12 0).toNat : Nat) : Int) := rfl
      by_cases c2 : ((L.getD 12 0).toNat : Int) = 90
      · simp only [c_clock_Read, ↓gaW, ↓gaV, ↓gaC, ↓gaN, gaP, Nat.reduceEqDiff, Nat.reduceLeDiff, Nat.reduceAdd, Nat.reduceSub, Nat.reduceMul, Int.reduceLT, Int.reduceLE, Int.reduceEq, Int.reduceToNat, Int.reduceAdd, Int.reduceSub, Int.reduceMul, reduceCtorEq, ↓reduceIte, hL, c1, ez, c2, wz, decide_true, decide_false, nz]
        refine ⟨.inl trivial, ?_⟩
        refine loop_of (fun j f mm => ∃ (i x : Nat) (g : Nat → Option Blk) (Q : Option Addr), j = 6 - i ∧ i ≤ 6 ∧ f 1 = .bool false ∧ f 7 = .slice (some ⟨nx, 2 * i, none⟩) (12 - 2 * i) (12 - 2 * i) ∧ f 8 = .slice Q i i ∧ mm = ⟨x, b, g⟩ ∧ nx + 1 ≤ x ∧
            (∀ q, q < nx → g q = gt q) ∧ g nx = some (.cells (L.map u8V) false) ∧ Own (nx + 1) b x g 1 Q i (pairsV L i) ∧ ∀ j, j < i → pairI L (2 * j) ≠ 999) 6
          ⟨0, nx + 1, _, none, by omega, by omega, rfl, rfl, rfl, rfl, by omega, fun q hq => by simp only [upd_e]; rw [if_neg (by omega)], by simp only [upd_e, if_true], .nil, fun j hj => absurd hj (Nat.not_lt_zero j)⟩ ?_
        rintro j f mm ⟨i, x, g, Q, rfl, hi, h1, h7, h8, rfl, hx, hg, hgn, how, hne⟩
        by_cases hlt : (0 : Int) < ((12 - 2 * i : Nat) : Int)
        · have ea : (L.map u8V).getD (2 * i) undef = .int .u8 (((L.getD (2 * i) 0).toNat : Nat) : Int) := getD_u8 (by omega)
          have eb : (L.map u8V).getD (2 * i + 1) undef = .int .u8 (((L.getD (2 * i + 1) 0).toNat : Nat) : Int) := getD_u8 (by omega)
          have hxb : (L.getD (2 * i) 0).toNat < 256 := (L.getD (2 * i) 0).toNat_lt
          have hyb : (L.getD (2 * i + 1) 0).toNat < 256 := (L.getD (2 * i + 1) 0).toNat_lt
          obtain ⟨X, hX⟩ : ∃ X, (L.getD (2 * i) 0).toNat = X := ⟨_, rfl⟩
          obtain ⟨Y, hY⟩ : ∃ Y, (L.getD (2 * i + 1) 0).toNat = Y := ⟨_, rfl⟩
          rw [hX] at ea hxb
          rw [hY] at eb hyb
          have hbad : (X < 48 ∨ 57 < X ∨ Y < 48 ∨ 57 < Y) → readS L = noR := fun h => readS_no (show i < 6 by omega) (pairI_bad (by rw [hX, hY]; exact h))
          by_cases d1 : (X : Int) < 48
          · simp only [↓gaW, ↓gaV, ↓gaC, ↓gaN, gaP, Nat.reduceEqDiff, Nat.reduceLeDiff, Nat.reduceAdd, Nat.reduceSub, Nat.reduceMul, Int.reduceLT, Int.reduceLE, Int.reduceEq, Int.reduceToNat, Int.reduceAdd, Int.reduceSub, Int.reduceMul, reduceCtorEq, ↓reduceIte, gaE, implies_true, Nat.le_refl, Int.sub_zero, Nat.sub_zero, Int.le_refl, true_or, or_true, h1, h7, h8, hlt, hgn, ea, eb, d1, decide_true]
            repeat refine And.intro (by omega) ?_
            first | exact ⟨hg, by rw [hbad (by omega)]; rfl⟩ | (rw [hbad (by omega)]; rfl)
          by_cases d2 : 57 < (X : Int)
          · simp only [↓gaW, ↓gaV, ↓gaC, ↓gaN, gaP, Nat.reduceEqDiff, Nat.reduceLeDiff, Nat.reduceAdd, Nat.reduceSub, Nat.reduceMul, Int.reduceLT, Int.reduceLE, Int.reduceEq, Int.reduceToNat, Int.reduceAdd, Int.reduceSub, Int.reduceMul, reduceCtorEq, ↓reduceIte, gaE, implies_true, Nat.le_refl, Int.sub_zero, Nat.sub_zero, Int.le_refl, true_or, or_true, h1, h7, h8, hlt, hgn, ea, eb, d1, d2, decide_true, decide_false]
            repeat refine And.intro (by omega) ?_
            first | exact ⟨hg, by rw [hbad (by omega)]; rfl⟩ | (rw [hbad (by omega)]; rfl)
          by_cases d3 : (Y : Int) < 48
          · simp only [↓gaW, ↓gaV, ↓gaC, ↓gaN, gaP, Nat.reduceEqDiff, Nat.reduceLeDiff, Nat.reduceAdd, Nat.reduceSub, Nat.reduceMul, Int.reduceLT, Int.reduceLE, Int.reduceEq, Int.reduceToNat, Int.reduceAdd, Int.reduceSub, Int.reduceMul, reduceCtorEq, ↓reduceIte, gaE, implies_true, Nat.le_refl, Int.sub_zero, Nat.sub_zero, Int.le_refl, true_or, or_true, h1, h7, h8, hlt, hgn, ea, eb, d1, d2, d3, decide_true, decide_false]
            repeat refine And.intro (by omega) ?_
            first | exact ⟨hg, by rw [hbad (by omega)]; rfl⟩ | (rw [hbad (by omega)]; rfl)
          by_cases d4 : 57 < (Y : Int)
          · simp only [↓gaW, ↓gaV, ↓gaC, ↓gaN, gaP, Nat.reduceEqDiff, Nat.reduceLeDiff, Nat.reduceAdd, Nat.reduceSub, Nat.reduceMul, Int.reduceLT, Int.reduceLE, Int.reduceEq, Int.reduceToNat, Int.reduceAdd, Int.reduceSub, Int.reduceMul, reduceCtorEq, ↓reduceIte, gaE, implies_true, Nat.le_refl, Int.sub_zero, Nat.sub_zero, Int.le_refl, true_or, or_true, h1, h7, h8, hlt, hgn, ea, eb, d1, d2, d3, d4, decide_true, decide_false]
            repeat refine And.intro (by omega) ?_
            first | exact ⟨hg, by rw [hbad (by omega)]; rfl⟩ | (rw [hbad (by omega)]; rfl)
          have hpr := pairI_ok hX hY (by omega)
          have g1 := u8_i ((X : Int) - 48) (by omega)
          have g2 := u8_i ((Y : Int) - 48) (by omega)
          simp only [↓gaW, ↓gaV, ↓gaC, ↓gaN, gaP, Nat.reduceEqDiff, Nat.reduceLeDiff, Nat.reduceAdd, Nat.reduceSub, Nat.reduceMul, Int.reduceLT, Int.reduceLE, Int.reduceEq, Int.reduceToNat, Int.reduceAdd, Int.reduceSub, Int.reduceMul, reduceCtorEq, ↓reduceIte, h1, h7, h8, hlt, hgn, ea, eb, d1, d2, d3, d4, decide_true, decide_false, g1, g2, i64_w ((X : Int) - 48) (by omega), i64_w ((Y : Int) - 48) (by omega), i64_w (((X : Int) - 48) * 10) (by omega), i64_w (((X : Int) - 48) * 10 + ((Y : Int) - 48)) (by omega)]
          repeat refine And.intro (by omega) ?_
          have w1 : ∀ z : Int, Value.int .i64 z = Value.int .i64 z := fun _ => rfl
          simp only [List.getD_cons_zero, List.getD_cons_succ, fillL, splice, List.take_zero, List.drop_zero, List.drop_succ_cons, List.take_succ_cons, List.drop_nil, List.take_nil, ↓gaW, ↓gaV, ↓gaC, ↓gaN, gaP, Nat.reduceEqDiff, Nat.reduceLeDiff, Nat.reduceAdd, Nat.reduceSub, Nat.reduceMul, Int.reduceLT, Int.reduceLE, Int.reduceEq, Int.reduceToNat, Int.reduceAdd, Int.reduceSub, Int.reduceMul, reduceCtorEq, ↓reduceIte, row_new (show 1 ≤ [Value.int .i64 (((X : Int) - 48) * 10 + ((Y : Int) - 48))].length from Nat.le_refl 1)]
          refine own_append (nx := nx + 1) (how.keep (Nat.le_succ _) (fun p hp => by simp only [upd_e]; rw [if_neg (by omega)])) (by omega) (by omega) (by omega) (by omega) (by simp) (all1 rfl) (by omega) (by omega) fun g' hg' how' => ?_
          simp only [↓gaW, ↓gaV, ↓gaC, ↓gaN, gaP, Nat.reduceEqDiff, Nat.reduceLeDiff, Nat.reduceAdd, Nat.reduceSub, Nat.reduceMul, Int.reduceLT, Int.reduceLE, Int.reduceEq, Int.reduceToNat, Int.reduceAdd, Int.reduceSub, Int.reduceMul, reduceCtorEq, ↓reduceIte, h7, loopK_n]
          refine ⟨by omega, by omega, by omega, by simp, 6 - (i + 1), by omega, i + 1, x + 1 + 1, g', some ⟨x + 1, 0, some 1⟩, rfl, by omega, h1, ?_, rfl, rfl, by omega, ?_, ?_, ?_, ?_⟩
          · rw [show 2 * i + 2 = 2 * (i + 1) by omega, show (((12 - 2 * i : Nat) : Int) - 2).toNat = 12 - 2 * (i + 1) by omega]
          · intro p hp; rw [hg' p (by omega)]; simp only [upd_e]; rw [if_neg (by omega), hg p hp]
          · rw [hg' nx (by omega)]; simp only [upd_e]; rw [if_neg (by omega), hgn]
          · rw [pairsV_succ, hpr]; exact how'
          · intro j hj
            rcases Nat.lt_or_ge j i with h | h
            · exact hne j h
            · have : j = i := by omega
              subst this
              rw [hpr]; omega
        · have hin : i = 6 := by omega
          subst hin
          obtain ⟨q, rfl, hq1, hq2, hq3, hq4⟩ : ∃ q, Q = some ⟨q, 0, some 1⟩ ∧ nx + 1 ≤ q ∧ q < x ∧ b ≤ q ∧ g q = some (.cells (pairsV L 6) false) := by
            rcases how.2 with ⟨_, h⟩ | h
            · omega
            · exact h
          have hrow := how.row
          rw [show pairsV L 6 = [.int .i64 (pairI L 0), .int .i64 (pairI L 2), .int .i64 (pairI L 4), .int .i64 (pairI L 6), .int .i64 (pairI L 8), .int .i64 (pairI L 10)] from rfl] at hq4 hrow
          have i0 := pairI_in L 0
          have hR : readS L = SecV (yearI L) (pairI L 2) (pairI L 4) (pairI L 6) (pairI L 8) (pairI L 10) := by rw [readS, if_pos (by omega)]
          rw [yearI] at hR
          by_cases d0 : pairI L 0 < 50
          · rw [if_pos d0] at hR
            simp only [↓gaW, ↓gaV, ↓gaC, ↓gaN, gaP, Nat.reduceEqDiff, Nat.reduceLeDiff, Nat.reduceAdd, Nat.reduceSub, Nat.reduceMul, Int.reduceLT, Int.reduceLE, Int.reduceEq, Int.reduceToNat, Int.reduceAdd, Int.reduceSub, Int.reduceMul, reduceCtorEq, ↓reduceIte, List.getD_cons_zero, List.getD_cons_succ, fillL, splice, List.take_zero, List.drop_zero, List.drop_succ_cons, List.take_succ_cons, List.drop_nil, List.take_nil, go_x, h1, h7, h8, hlt, decide_false, loopK_e, hq4, d0, decide_true, i64_w (pairI L 0 + 2000) (by omega)]
            repeat refine And.intro (by first | omega | exact all1 rfl) ?_
            refine callK_of ct_Seconds (fun v n9 g9 l9 k9 hC => ?_) (by omega)
            obtain ⟨SA, ST, hsec⟩ := SecV_shape (pairI L 0 + 2000) (pairI L 2) (pairI L 4) (pairI L 6) (pairI L 8) (pairI L 10)
            rw [hsec] at hC hR
            subst hC
            simp only [↓gaW, ↓gaV, ↓gaC, ↓gaN, gaP, Nat.reduceEqDiff, Nat.reduceLeDiff, Nat.reduceAdd, Nat.reduceSub, Nat.reduceMul, Int.reduceLT, Int.reduceLE, Int.reduceEq, Int.reduceToNat, Int.reduceAdd, Int.reduceSub, Int.reduceMul, reduceCtorEq, ↓reduceIte, gaE, implies_true, Nat.le_refl, Int.sub_zero, Nat.sub_zero, Int.le_refl, true_or, or_true]
            exact ⟨by omega, by omega, by omega, fun p hp => by rw [k9 p (by omega)]; simp only [upd_e]; rw [if_neg (by omega), hg p hp], by rw [hR]⟩
          · rw [if_neg d0] at hR
            simp only [↓gaW, ↓gaV, ↓gaC, ↓gaN, gaP, Nat.reduceEqDiff, Nat.reduceLeDiff, Nat.reduceAdd, Nat.reduceSub, Nat.reduceMul, Int.reduceLT, Int.reduceLE, Int.reduceEq, Int.reduceToNat, Int.reduceAdd, Int.reduceSub, Int.reduceMul, reduceCtorEq, ↓reduceIte, List.getD_cons_zero, List.getD_cons_succ, fillL, splice, List.take_zero, List.drop_zero, List.drop_succ_cons, List.take_succ_cons, List.drop_nil, List.take_nil, go_x, h1, h7, h8, hlt, decide_false, loopK_e, hq4, d0, i64_w (pairI L 0 + 1900) (by omega)]
            repeat refine And.intro (by first | omega | exact all1 rfl) ?_
            refine callK_of ct_Seconds (fun v n9 g9 l9 k9 hC => ?_) (by omega)
            obtain ⟨SA, ST, hsec⟩ := SecV_shape (pairI L 0 + 1900) (pairI L 2) (pairI L 4) (pairI L 6) (pairI L 8) (pairI L 10)
            rw [hsec] at hC hR
            subst hC
            simp only [↓gaW, ↓gaV, ↓gaC, ↓gaN, gaP, Nat.reduceEqDiff, Nat.reduceLeDiff, Nat.reduceAdd, Nat.reduceSub, Nat.reduceMul, Int.reduceLT, Int.reduceLE, Int.reduceEq, Int.reduceToNat, Int.reduceAdd, Int.reduceSub, Int.reduceMul, reduceCtorEq, ↓reduceIte, gaE, implies_true, Nat.le_refl, Int.sub_zero, Nat.sub_zero, Int.le_refl, true_or, or_true]
            exact ⟨by omega, by omega, by omega, fun p hp => by rw [k9 p (by omega)]; simp only [upd_e]; rw [if_neg (by omega), hg p hp], by rw [hR]⟩
      · simp only [c_clock_Read, ↓gaW, ↓gaV, ↓gaC, ↓gaN, gaP, Nat.reduceEqDiff, Nat.reduceLeDiff, Nat.reduceAdd, Nat.reduceSub, Nat.reduceMul, Int.reduceLT, Int.reduceLE, Int.reduceEq, Int.reduceToNat, Int.reduceAdd, Int.reduceSub, Int.reduceMul, reduceCtorEq, ↓reduceIte, gaE, implies_true, Nat.le_refl, Int.sub_zero, Nat.sub_zero, Int.le_refl, true_or, or_true, hL, c1, ez, c2, wz, decide_true, decide_false, nz]
        repeat refine And.intro (by omega) ?_
        rw [readS, if_neg (by omega)]; rfl
    · simp only [c_clock_Read, ↓gaW, ↓gaV, ↓gaC, ↓gaN, gaP, Nat.reduceEqDiff, Nat.reduceLeDiff, Nat.reduceAdd, Nat.reduceSub, Nat.reduceMul, Int.reduceLT, Int.reduceLE, Int.reduceEq, Int.reduceToNat, Int.reduceAdd, Int.reduceSub, Int.reduceMul, reduceCtorEq, ↓reduceIte, gaE, implies_true, Nat.le_refl, Int.sub_zero, Nat.sub_zero, Int.le_refl, true_or, or_true, hL, c1, decide_false, decide_true]
      repeat refine And.intro (by omega) ?_
      rw [readS, if_neg (by omega)]; rfl
end
end Go.Ga

namespace Go.Ga
open Go Go.Proofs
set_option linter.unusedSimpArgs false
set_option linter.unusedVariables false
set_option maxRecDepth 100000

section
variable {nx : Nat} {gt : Nat → Option Blk}
theorem shortO_shape (o : Option D6) : ∃ a t, shortO o = .tuple #[.string a, .bool t] := by
  cases o with
  | none => exact ⟨_, _, rfl⟩
  | some x => simp only [shortO]; split <;> exact ⟨_, _, rfl⟩
theorem longO_shape (o : Option D6) : ∃ a t, longO o = .tuple #[.string a, .bool t] := by
  cases o <;> exact ⟨_, _, rfl⟩
theorem textO_shape (o : Option D6) : ∃ a t, textO o = .tuple #[.string a, .bool t] := by
  cases o with
  | none => exact ⟨_, _, rfl⟩
  | some x => simp only [textO]; split <;> exact ⟨_, _, rfl⟩
def readO (l : Bool) (L : List UInt8) : Value := if l = true then readL L else readS L
theorem readO_shape (l : Bool) (L : List UInt8) : ∃ a t, readO l L = .tuple #[.int .i64 a, .bool t] := by
  unfold readO readL readS
  split <;> split <;> (try split) <;> first | exact SecV_shape _ _ _ _ _ _ | exact ⟨_, _, rfl⟩

theorem fn_Texts {s : Int} {t : ByteArray} {l : Bool} (hs : -9223372036854775808 ≤ s ∧ s ≤ 9223372036854775807) (ht : t.size ≤ 140737488351232) :
    Ct Try.prog 11 [.int .i64 s, .string t, .bool l] nx gt fun v _ _ => v = .bool true := by
  obtain ⟨o, ho⟩ := date_ex hs
  refine Ct.of hmx r_lanyardlaw03_ClockTexts (by simp [c_lanyardlaw03_ClockTexts]) fun b hb => ?_
  have hF : ∀ q, q < nx → gt q = gt q := fun _ _ => rfl
  obtain ⟨A1, T1, e1⟩ := shortO_shape o
  obtain ⟨A2, T2, e2⟩ := longO_shape o
  obtain ⟨A3, T3, e3⟩ := textO_shape o
  obtain ⟨A4, T4, e4⟩ := readO_shape l t.data.toList
  simp only [c_lanyardlaw03_ClockTexts, ↓gaW, ↓gaV, ↓gaC, ↓gaN, gaP, Nat.reduceEqDiff, Nat.reduceLeDiff, Nat.reduceAdd, Nat.reduceSub, Nat.reduceMul, Int.reduceLT, Int.reduceLE, Int.reduceEq, Int.reduceToNat, Int.reduceAdd, Int.reduceSub, Int.reduceMul, reduceCtorEq, ↓reduceIte]
  refine callK_of ct_awake03 (fun v n1 g1 l1 k1 hC => ?_) (by omega)
  subst hC
  have hF : ∀ q, q < nx → g1 q = gt q := fun q hq => (k1 q (by omega)).trans (hF q hq)
  simp only [↓gaW, ↓gaV, ↓gaC, ↓gaN, gaP, Nat.reduceEqDiff, Nat.reduceLeDiff, Nat.reduceAdd, Nat.reduceSub, Nat.reduceMul, Int.reduceLT, Int.reduceLE, Int.reduceEq, Int.reduceToNat, Int.reduceAdd, Int.reduceSub, Int.reduceMul, reduceCtorEq, ↓reduceIte]
  by_cases g1 : (100 : Int) < (t.size : Int)
  · simp only [↓gaW, ↓gaV, ↓gaC, ↓gaN, gaP, Nat.reduceEqDiff, Nat.reduceLeDiff, Nat.reduceAdd, Nat.reduceSub, Nat.reduceMul, Int.reduceLT, Int.reduceLE, Int.reduceEq, Int.reduceToNat, Int.reduceAdd, Int.reduceSub, Int.reduceMul, reduceCtorEq, ↓reduceIte, gaE, implies_true, Nat.le_refl, Int.sub_zero, Nat.sub_zero, Int.le_refl, true_or, or_true, g1, decide_true]
    exact ⟨by omega, hF⟩
  simp only [↓gaW, ↓gaV, ↓gaC, ↓gaN, gaP, Nat.reduceEqDiff, Nat.reduceLeDiff, Nat.reduceAdd, Nat.reduceSub, Nat.reduceMul, Int.reduceLT, Int.reduceLE, Int.reduceEq, Int.reduceToNat, Int.reduceAdd, Int.reduceSub, Int.reduceMul, reduceCtorEq, ↓reduceIte, g1, decide_false]
  refine callK_of (ct_Short hs ho) (fun v n2 g2 l2 k2 hC => ?_) (by omega)
  rw [e1] at hC
  subst hC
  have hF : ∀ q, q < nx → g2 q = gt q := fun q hq => (k2 q (by omega)).trans (hF q hq)
  simp only [↓gaW, ↓gaV, ↓gaC, ↓gaN, gaP, Nat.reduceEqDiff, Nat.reduceLeDiff, Nat.reduceAdd, Nat.reduceSub, Nat.reduceMul, Int.reduceLT, Int.reduceLE, Int.reduceEq, Int.reduceToNat, Int.reduceAdd, Int.reduceSub, Int.reduceMul, reduceCtorEq, ↓reduceIte]
  repeat refine And.intro (by omega) ?_
  refine callK_of (ct_rShort hs ho) (fun v n3 g3 l3 k3 hC => ?_) (by omega)
  rw [e1] at hC
  subst hC
  have hF : ∀ q, q < nx → g3 q = gt q := fun q hq => (k3 q (by omega)).trans (hF q hq)
  simp only [↓gaW, ↓gaV, ↓gaC, ↓gaN, gaP, Nat.reduceEqDiff, Nat.reduceLeDiff, Nat.reduceAdd, Nat.reduceSub, Nat.reduceMul, Int.reduceLT, Int.reduceLE, Int.reduceEq, Int.reduceToNat, Int.reduceAdd, Int.reduceSub, Int.reduceMul, reduceCtorEq, ↓reduceIte]
  repeat refine And.intro (by omega) ?_
  refine callK_of (ct_Long hs ho) (fun v n4 g4 l4 k4 hC => ?_) (by omega)
  rw [e2] at hC
  subst hC
  have hF : ∀ q, q < nx → g4 q = gt q := fun q hq => (k4 q (by omega)).trans (hF q hq)
  simp only [↓gaW, ↓gaV, ↓gaC, ↓gaN, gaP, Nat.reduceEqDiff, Nat.reduceLeDiff, Nat.reduceAdd, Nat.reduceSub, Nat.reduceMul, Int.reduceLT, Int.reduceLE, Int.reduceEq, Int.reduceToNat, Int.reduceAdd, Int.reduceSub, Int.reduceMul, reduceCtorEq, ↓reduceIte]
  repeat refine And.intro (by omega) ?_
  refine callK_of (ct_rLong hs ho) (fun v n5 g5 l5 k5 hC => ?_) (by omega)
  rw [e2] at hC
  subst hC
  have hF : ∀ q, q < nx → g5 q = gt q := fun q hq => (k5 q (by omega)).trans (hF q hq)
  simp only [↓gaW, ↓gaV, ↓gaC, ↓gaN, gaP, Nat.reduceEqDiff, Nat.reduceLeDiff, Nat.reduceAdd, Nat.reduceSub, Nat.reduceMul, Int.reduceLT, Int.reduceLE, Int.reduceEq, Int.reduceToNat, Int.reduceAdd, Int.reduceSub, Int.reduceMul, reduceCtorEq, ↓reduceIte]
  repeat refine And.intro (by omega) ?_
  refine callK_of (ct_Text hs ho) (fun v n6 g6 l6 k6 hC => ?_) (by omega)
  rw [e3] at hC
  subst hC
  have hF : ∀ q, q < nx → g6 q = gt q := fun q hq => (k6 q (by omega)).trans (hF q hq)
  simp only [↓gaW, ↓gaV, ↓gaC, ↓gaN, gaP, Nat.reduceEqDiff, Nat.reduceLeDiff, Nat.reduceAdd, Nat.reduceSub, Nat.reduceMul, Int.reduceLT, Int.reduceLE, Int.reduceEq, Int.reduceToNat, Int.reduceAdd, Int.reduceSub, Int.reduceMul, reduceCtorEq, ↓reduceIte]
  repeat refine And.intro (by omega) ?_
  refine callK_of (ct_rText hs ho) (fun v n7 g7 l7 k7 hC => ?_) (by omega)
  rw [e3] at hC
  subst hC
  have hF : ∀ q, q < nx → g7 q = gt q := fun q hq => (k7 q (by omega)).trans (hF q hq)
  simp only [↓gaW, ↓gaV, ↓gaC, ↓gaN, gaP, Nat.reduceEqDiff, Nat.reduceLeDiff, Nat.reduceAdd, Nat.reduceSub, Nat.reduceMul, Int.reduceLT, Int.reduceLE, Int.reduceEq, Int.reduceToNat, Int.reduceAdd, Int.reduceSub, Int.reduceMul, reduceCtorEq, ↓reduceIte]
  repeat refine And.intro (by omega) ?_
  refine callK_of (ct_Read (show t.size < 1000 by omega)) (fun v n8 g8 l8 k8 hC => ?_) (by omega)
  rw [← readO, e4] at hC
  subst hC
  have hF : ∀ q, q < nx → g8 q = gt q := fun q hq => (k8 q (by omega)).trans (hF q hq)
  simp only [↓gaW, ↓gaV, ↓gaC, ↓gaN, gaP, Nat.reduceEqDiff, Nat.reduceLeDiff, Nat.reduceAdd, Nat.reduceSub, Nat.reduceMul, Int.reduceLT, Int.reduceLE, Int.reduceEq, Int.reduceToNat, Int.reduceAdd, Int.reduceSub, Int.reduceMul, reduceCtorEq, ↓reduceIte]
  repeat refine And.intro (by omega) ?_
  refine callK_of (ct_rRead (show t.size < 1000 by omega)) (fun v n9 g9 l9 k9 hC => ?_) (by omega)
  rw [← readO, e4] at hC
  subst hC
  have hF : ∀ q, q < nx → g9 q = gt q := fun q hq => (k9 q (by omega)).trans (hF q hq)
  simp only [↓gaW, ↓gaV, ↓gaC, ↓gaN, gaP, Nat.reduceEqDiff, Nat.reduceLeDiff, Nat.reduceAdd, Nat.reduceSub, Nat.reduceMul, Int.reduceLT, Int.reduceLE, Int.reduceEq, Int.reduceToNat, Int.reduceAdd, Int.reduceSub, Int.reduceMul, reduceCtorEq, ↓reduceIte, gaE, implies_true, Nat.le_refl, Int.sub_zero, Nat.sub_zero, Int.le_refl, true_or, or_true, beq_self_eq_true]
  repeat refine And.intro (by omega) ?_
  exact hF
end
end Go.Ga

namespace Go.Ga
open Go Go.Proofs
set_option linter.unusedSimpArgs false
set_option linter.unusedVariables false
set_option maxRecDepth 100000

theorem dg_congr {n m : Nat} (h : n % 10 = m % 10) : dg n = dg m := by rw [dg, dg, h]
theorem pair_dg {L : List UInt8} {i n : Nat} (h : pairI L i = (n : Int)) (hn : n ≤ 99) : L.getD i 0 = dg (n / 10) ∧ L.getD (i + 1) 0 = dg n := by
  unfold pairI at h
  split at h
  · rename_i hc
    constructor
    · apply UInt8.toNat_inj.1; rw [dg_nat]; omega
    · apply UInt8.toNat_inj.1; rw [dg_nat]; omega
  · omega
theorem dg_pair {L : List UInt8} {i n m : Nat} (h0 : L.getD i 0 = dg m) (h1 : L.getD (i + 1) 0 = dg n) (hm : m % 10 = n / 10 % 10) : pairI L i = ((n % 100 : Nat) : Int) := by
  unfold pairI
  rw [h0, h1, dg_nat, dg_nat, if_pos (by omega)]
  omega
theorem list15 {L : List UInt8} (h : L.length = 15) : L = [L.getD 0 0, L.getD 1 0, L.getD 2 0, L.getD 3 0, L.getD 4 0, L.getD 5 0, L.getD 6 0, L.getD 7 0, L.getD 8 0, L.getD 9 0, L.getD 10 0, L.getD 11 0, L.getD 12 0, L.getD 13 0, L.getD 14 0] := by
  match L, h with
  | [a, b, c, d, e, f, g, h, i, j, k, l, m, n, o], _ => rfl
theorem list13 {L : List UInt8} (h : L.length = 13) : L = [L.getD 0 0, L.getD 1 0, L.getD 2 0, L.getD 3 0, L.getD 4 0, L.getD 5 0, L.getD 6 0, L.getD 7 0, L.getD 8 0, L.getD 9 0, L.getD 10 0, L.getD 11 0, L.getD 12 0] := by
  match L, h with
  | [a, b, c, d, e, f, g, h, i, j, k, l, m], _ => rfl
theorem secV_true {d0 d1 d2 d3 d4 d5 v : Int} (h : SecV d0 d1 d2 d3 d4 d5 = .tuple #[.int .i64 v, .bool true]) : okD d0 d1 d2 d3 d4 d5 = true ∧ secI d0 d1 d2 d3 d4 d5 = v := by
  rw [SecV] at h
  split at h
  · rename_i ho
    refine ⟨ho, ?_⟩
    injection h with h
    injection h with h
    injection h with h
    injection h with h1 h2
  · injection h with h
    injection h with h
    injection h with h h2
    injection h2 with h2
    injection h2 with h2
    cases h2
theorem noR_true {v : Int} (h : noR = .tuple #[.int .i64 v, .bool true]) : False := by
  rw [noR] at h
  injection h with h
  injection h with h
  injection h with h h2
  injection h2 with h2
  injection h2 with h2
  cases h2
theorem zero_of {v : Int} (h : noR = .tuple #[.int .i64 v, .bool false]) : v = 0 := by
  rw [noR] at h
  injection h with h
  injection h with h
  injection h with h
  injection h with h1 h2
  exact h2.symm
theorem secV_false {d0 d1 d2 d3 d4 d5 v : Int} (h : SecV d0 d1 d2 d3 d4 d5 = .tuple #[.int .i64 v, .bool false]) : v = 0 := by
  rw [SecV] at h
  split at h
  · injection h with h
    injection h with h
    injection h with h h2
    injection h2 with h2
    injection h2 with h2
    cases h2
  · exact zero_of h
theorem read_no {l : Bool} {L : List UInt8} {v : Int} (h : readO l L = .tuple #[.int .i64 v, .bool false]) : v = 0 := by
  unfold readO readL readS at h
  split at h <;> split at h <;> (try split at h) <;> first | exact secV_false h | exact zero_of h

theorem readL_long {x : D6} (h : x.ok) : readL x.long = .tuple #[.int .i64 x.sec, .bool true] := by
  have hx := D6.lim h
  have p0 : pairI x.long 0 = ((x.a / 100 % 100 : Nat) : Int) := dg_pair (L := x.long) (i := 0) (n := x.a / 100) (m := x.a / 100 / 10) rfl rfl rfl
  have p2 : pairI x.long 2 = ((x.a % 100 : Nat) : Int) := dg_pair (L := x.long) (i := 2) (n := x.a) (m := x.a / 10) rfl rfl rfl
  have p4 : pairI x.long 4 = ((x.b % 100 : Nat) : Int) := dg_pair (L := x.long) (i := 4) (n := x.b) (m := x.b / 10) rfl rfl rfl
  have p6 : pairI x.long 6 = ((x.c % 100 : Nat) : Int) := dg_pair (L := x.long) (i := 6) (n := x.c) (m := x.c / 10) rfl rfl rfl
  have p8 : pairI x.long 8 = ((x.d % 100 : Nat) : Int) := dg_pair (L := x.long) (i := 8) (n := x.d) (m := x.d / 10) rfl rfl rfl
  have p10 : pairI x.long 10 = ((x.e % 100 : Nat) : Int) := dg_pair (L := x.long) (i := 10) (n := x.e) (m := x.e / 10) rfl rfl rfl
  have p12 : pairI x.long 12 = ((x.f % 100 : Nat) : Int) := dg_pair (L := x.long) (i := 12) (n := x.f) (m := x.f / 10) rfl rfl rfl
  rw [readL, if_pos ⟨rfl, rfl⟩, if_neg (by omega), p0, p2, p4, p6, p8, p10, p12]
  rw [show ((x.a / 100 % 100 : Nat) : Int) * 100 + ((x.a % 100 : Nat) : Int) = (x.a : Int) by omega, show x.b % 100 = x.b by omega, show x.c % 100 = x.c by omega, show x.d % 100 = x.d by omega, show x.e % 100 = x.e by omega, show x.f % 100 = x.f by omega]
  have h' : okD x.a x.b x.c x.d x.e x.f = true := h
  rw [SecV, if_pos h']; rfl

theorem readL_back {L : List UInt8} {v : Int} (h : readL L = .tuple #[.int .i64 v, .bool true]) : ∃ x : D6, DateO v (some x) ∧ L = x.long := by
  rw [readL] at h
  split at h
  · rename_i hc
    split at h
    · exact (noR_true h).elim
    · rename_i hn
      obtain ⟨ho, hv⟩ := secV_true h
      have hb := okD_e ho
      have hl := lastI_bd (y := pairI L 0 * 100 + pairI L 2) (m := pairI L 4) (by omega) (by omega)
      have i0 := pairI_in L 0
      have i2 := pairI_in L 2
      obtain ⟨n0, e0⟩ : ∃ n : Nat, pairI L 0 = n := ⟨(pairI L 0).toNat, by omega⟩
      obtain ⟨n2, e2⟩ : ∃ n : Nat, pairI L 2 = n := ⟨(pairI L 2).toNat, by omega⟩
      obtain ⟨n4, e4⟩ : ∃ n : Nat, pairI L 4 = n := ⟨(pairI L 4).toNat, by omega⟩
      obtain ⟨n6, e6⟩ : ∃ n : Nat, pairI L 6 = n := ⟨(pairI L 6).toNat, by omega⟩
      obtain ⟨n8, e8⟩ : ∃ n : Nat, pairI L 8 = n := ⟨(pairI L 8).toNat, by omega⟩
      obtain ⟨n10, e10⟩ : ∃ n : Nat, pairI L 10 = n := ⟨(pairI L 10).toNat, by omega⟩
      obtain ⟨n12, e12⟩ : ∃ n : Nat, pairI L 12 = n := ⟨(pairI L 12).toNat, by omega⟩
      obtain ⟨a0, b0⟩ := pair_dg e0 (by omega)
      obtain ⟨a2, b2⟩ := pair_dg e2 (by omega)
      obtain ⟨a4, b4⟩ := pair_dg e4 (by omega)
      obtain ⟨a6, b6⟩ := pair_dg e6 (by omega)
      obtain ⟨a8, b8⟩ := pair_dg e8 (by omega)
      obtain ⟨a10, b10⟩ := pair_dg e10 (by omega)
      obtain ⟨a12, b12⟩ := pair_dg e12 (by omega)
      have z14 : L.getD 14 0 = 90 := by apply UInt8.toNat_inj.1; exact hc.2
      rw [e0, e2, e4, e6, e8, e10, e12, show (n0 : Int) * 100 + (n2 : Int) = ((n0 * 100 + n2 : Nat) : Int) by omega] at ho hv
      refine ⟨⟨n0 * 100 + n2, n4, n6, n8, n10, n12⟩, ⟨ho, hv⟩, ?_⟩
      rw [list15 hc.1, a0, b0, a2, b2, a4, b4, a6, b6, a8, b8, a10, b10, a12, b12, z14]
      show _ = [dg ((n0 * 100 + n2) / 100 / 10), dg ((n0 * 100 + n2) / 100), dg ((n0 * 100 + n2) / 10), dg (n0 * 100 + n2), _, _, _, _, _, _, _, _, _, _, _]
      rw [dg_congr (n := (n0 * 100 + n2) / 100 / 10) (m := n0 / 10) (by omega), dg_congr (n := (n0 * 100 + n2) / 100) (m := n0) (by omega), dg_congr (n := (n0 * 100 + n2) / 10) (m := n2 / 10) (by omega), dg_congr (n := n0 * 100 + n2) (m := n2) (by omega)]
  · exact (noR_true h).elim

theorem readS_back {L : List UInt8} {v : Int} (h : readS L = .tuple #[.int .i64 v, .bool true]) : ∃ x : D6, DateO v (some x) ∧ x.a < 2050 ∧ L = x.short := by
  rw [readS] at h
  split at h
  · rename_i hc
    obtain ⟨ho, hv⟩ := secV_true h
    have hb := okD_e ho
    have hl := lastI_bd (y := yearI L) (m := pairI L 2) (by omega) (by omega)
    have i0 := pairI_in L 0
    obtain ⟨n0, e0⟩ : ∃ n : Nat, pairI L 0 = n := ⟨(pairI L 0).toNat, by omega⟩
    obtain ⟨n2, e2⟩ : ∃ n : Nat, pairI L 2 = n := ⟨(pairI L 2).toNat, by omega⟩
    obtain ⟨n4, e4⟩ : ∃ n : Nat, pairI L 4 = n := ⟨(pairI L 4).toNat, by omega⟩
    obtain ⟨n6, e6⟩ : ∃ n : Nat, pairI L 6 = n := ⟨(pairI L 6).toNat, by omega⟩
    obtain ⟨n8, e8⟩ : ∃ n : Nat, pairI L 8 = n := ⟨(pairI L 8).toNat, by omega⟩
    obtain ⟨n10, e10⟩ : ∃ n : Nat, pairI L 10 = n := ⟨(pairI L 10).toNat, by omega⟩
    obtain ⟨Y, eY⟩ : ∃ n : Nat, yearI L = n := ⟨(yearI L).toNat, by omega⟩
    have hY : n0 ≤ 99 ∧ (Y = n0 + 2000 ∧ n0 < 50 ∨ Y = n0 + 1900) := by
      have := eY
      unfold yearI at this
      split at this <;> omega
    obtain ⟨a0, b0⟩ := pair_dg e0 (by omega)
    obtain ⟨a2, b2⟩ := pair_dg e2 (by omega)
    obtain ⟨a4, b4⟩ := pair_dg e4 (by omega)
    obtain ⟨a6, b6⟩ := pair_dg e6 (by omega)
    obtain ⟨a8, b8⟩ := pair_dg e8 (by omega)
    obtain ⟨a10, b10⟩ := pair_dg e10 (by omega)
    have z12 : L.getD 12 0 = 90 := by apply UInt8.toNat_inj.1; exact hc.2
    rw [eY, e2, e4, e6, e8, e10] at ho hv
    refine ⟨⟨Y, n2, n4, n6, n8, n10⟩, ⟨ho, hv⟩, by show Y < 2050; omega, ?_⟩
    rw [list13 hc.1, a0, b0, a2, b2, a4, b4, a6, b6, a8, b8, a10, b10, z12]
    show _ = [dg (Y / 10), dg Y, _, _, _, _, _, _, _, _, _, _, _]
    rw [dg_congr (n := Y / 10) (m := n0 / 10) (by omega), dg_congr (n := Y) (m := n0) (by omega)]
  · exact (noR_true h).elim
end Go.Ga

namespace Go.Ga
open Go Go.Proofs
set_option linter.unusedSimpArgs false
set_option linter.unusedVariables false
set_option maxRecDepth 100000

section
variable {nx : Nat} {gt : Nat → Option Blk}
theorem fn_Back03 {s : Int} {t : ByteArray} {l : Bool} (hs : -9223372036854775808 ≤ s ∧ s ≤ 9223372036854775807) (ht : t.size ≤ 140737488351232) :
    Ct Try.prog 12 [.int .i64 s, .string t, .bool l] nx gt fun v _ _ => v = .bool true := by
  obtain ⟨o, ho⟩ := date_ex hs
  refine Ct.of hmx r_lanyardlaw03_ClockBack (by simp [c_lanyardlaw03_ClockBack]) fun b hb => ?_
  have hF : ∀ q, q < nx → gt q = gt q := fun _ _ => rfl
  simp only [c_lanyardlaw03_ClockBack, ↓gaW, ↓gaV, ↓gaC, ↓gaN, gaP, Nat.reduceEqDiff, Nat.reduceLeDiff, Nat.reduceAdd, Nat.reduceSub, Nat.reduceMul, Int.reduceLT, Int.reduceLE, Int.reduceEq, Int.reduceToNat, Int.reduceAdd, Int.reduceSub, Int.reduceMul, reduceCtorEq, ↓reduceIte]
  refine callK_of ct_awake03 (fun v n1 g1 l1 k1 hC => ?_) (by omega)
  subst hC
  have hF : ∀ q, q < nx → g1 q = gt q := fun q hq => (k1 q (by omega)).trans (hF q hq)
  simp only [↓gaW, ↓gaV, ↓gaC, ↓gaN, gaP, Nat.reduceEqDiff, Nat.reduceLeDiff, Nat.reduceAdd, Nat.reduceSub, Nat.reduceMul, Int.reduceLT, Int.reduceLE, Int.reduceEq, Int.reduceToNat, Int.reduceAdd, Int.reduceSub, Int.reduceMul, reduceCtorEq, ↓reduceIte]
  by_cases g1 : (100 : Int) < (t.size : Int)
  · simp only [↓gaW, ↓gaV, ↓gaC, ↓gaN, gaP, Nat.reduceEqDiff, Nat.reduceLeDiff, Nat.reduceAdd, Nat.reduceSub, Nat.reduceMul, Int.reduceLT, Int.reduceLE, Int.reduceEq, Int.reduceToNat, Int.reduceAdd, Int.reduceSub, Int.reduceMul, reduceCtorEq, ↓reduceIte, gaE, implies_true, Nat.le_refl, Int.sub_zero, Nat.sub_zero, Int.le_refl, true_or, or_true, g1, decide_true]
    exact ⟨by omega, hF⟩
  simp only [↓gaW, ↓gaV, ↓gaC, ↓gaN, gaP, Nat.reduceEqDiff, Nat.reduceLeDiff, Nat.reduceAdd, Nat.reduceSub, Nat.reduceMul, Int.reduceLT, Int.reduceLE, Int.reduceEq, Int.reduceToNat, Int.reduceAdd, Int.reduceSub, Int.reduceMul, reduceCtorEq, ↓reduceIte, g1, decide_false]
  refine callK_of (ct_DateO hs ho) (fun v n2 g2 l2 k2 hC => ?_) (by omega)
  subst hC
  have hF : ∀ q, q < nx → g2 q = gt q := fun q hq => (k2 q (by omega)).trans (hF q hq)
  cases o with
  | none =>
    simp only [↓gaW, ↓gaV, ↓gaC, ↓gaN, gaP, Nat.reduceEqDiff, Nat.reduceLeDiff, Nat.reduceAdd, Nat.reduceSub, Nat.reduceMul, Int.reduceLT, Int.reduceLE, Int.reduceEq, Int.reduceToNat, Int.reduceAdd, Int.reduceSub, Int.reduceMul, reduceCtorEq, ↓reduceIte, List.getD_cons_zero, List.getD_cons_succ, fillL, splice, List.take_zero, List.drop_zero, List.drop_succ_cons, List.take_succ_cons, List.drop_nil, List.take_nil, dateT]
    repeat refine And.intro (by first | omega | exact all6 ⟨0, 0, 0, 0, 0, 0⟩) ?_
    have hF : ∀ q, q < nx → (upd (upd g2 n2 (some (.cells [.int .i64 0, .int .i64 0, .int .i64 0, .int .i64 0, .int .i64 0, .int .i64 0] false))) n2 (some (.cells [.int .i64 0, .int .i64 0, .int .i64 0, .int .i64 0, .int .i64 0, .int .i64 0] false))) q = gt q := fun q hq => by
      simp only [upd_e]; rw [if_neg (by omega), if_neg (by omega), hF q hq]
    refine callK_of (ct_Read (show t.size < 1000 by omega)) (fun v n7 g7 l7 k7 hC => ?_) (by omega)
    rw [← readO] at hC
    have hF : ∀ q, q < nx → g7 q = gt q := fun q hq => (k7 q (by omega)).trans (hF q hq)
    obtain ⟨V, T, eV⟩ := readO_shape l t.data.toList
    rw [eV] at hC
    subst hC
    cases T with
    | false =>
      have v0 := read_no eV
      subst v0
      simp only [↓gaW, ↓gaV, ↓gaC, ↓gaN, gaP, Nat.reduceEqDiff, Nat.reduceLeDiff, Nat.reduceAdd, Nat.reduceSub, Nat.reduceMul, Int.reduceLT, Int.reduceLE, Int.reduceEq, Int.reduceToNat, Int.reduceAdd, Int.reduceSub, Int.reduceMul, reduceCtorEq, ↓reduceIte, gaE, implies_true, Nat.le_refl, Int.sub_zero, Nat.sub_zero, Int.le_refl, true_or, or_true, decide_true]
      repeat refine And.intro (by omega) ?_
      exact hF
    | true =>
      obtain ⟨y, hy, hyt⟩ : ∃ y : D6, DateO V (some y) ∧ if l = true then t.data.toList = y.long else y.a < 2050 ∧ t.data.toList = y.short := by
        unfold readO at eV
        split at eV
        · obtain ⟨y, h1, h2⟩ := readL_back eV
          exact ⟨y, h1, by rw [if_pos (by assumption)]; exact h2⟩
        · obtain ⟨y, h1, h2⟩ := readS_back eV
          exact ⟨y, h1, by rw [if_neg (by assumption)]; exact h2⟩
      have hin := D6.in_of hy.1
      rw [hy.2] at hin
      have hin' : -631152000 ≤ V ∧ V ≤ 7258118399 := hin
      simp only [↓gaW, ↓gaV, ↓gaC, ↓gaN, gaP, Nat.reduceEqDiff, Nat.reduceLeDiff, Nat.reduceAdd, Nat.reduceSub, Nat.reduceMul, Int.reduceLT, Int.reduceLE, Int.reduceEq, Int.reduceToNat, Int.reduceAdd, Int.reduceSub, Int.reduceMul, reduceCtorEq, ↓reduceIte]
      repeat refine And.intro (by omega) ?_
      refine callK_of (ct_Long (by omega) hy) (fun v n8 g8 l8 k8 hC => ?_) (by omega)
      subst hC
      have hF : ∀ q, q < nx → g8 q = gt q := fun q hq => (k8 q (by omega)).trans (hF q hq)
      simp only [↓gaW, ↓gaV, ↓gaC, ↓gaN, gaP, Nat.reduceEqDiff, Nat.reduceLeDiff, Nat.reduceAdd, Nat.reduceSub, Nat.reduceMul, Int.reduceLT, Int.reduceLE, Int.reduceEq, Int.reduceToNat, Int.reduceAdd, Int.reduceSub, Int.reduceMul, reduceCtorEq, ↓reduceIte, longO, strT]
      repeat refine And.intro (by omega) ?_
      refine callK_of (ct_Short (by omega) hy) (fun v n9 g9 l9 k9 hC => ?_) (by omega)
      have hF : ∀ q, q < nx → g9 q = gt q := fun q hq => (k9 q (by omega)).trans (hF q hq)
      obtain ⟨SA, ST, eS⟩ := shortO_shape (some y)
      cases l with
      | true =>
        rw [if_pos rfl] at hyt
        have ht2 : t = ⟨y.long.toArray⟩ := by apply ByteArray.ext; rw [← hyt]
        rw [eS] at hC
        subst hC
        subst ht2
        simp only [↓gaW, ↓gaV, ↓gaC, ↓gaN, gaP, Nat.reduceEqDiff, Nat.reduceLeDiff, Nat.reduceAdd, Nat.reduceSub, Nat.reduceMul, Int.reduceLT, Int.reduceLE, Int.reduceEq, Int.reduceToNat, Int.reduceAdd, Int.reduceSub, Int.reduceMul, reduceCtorEq, ↓reduceIte, gaE, implies_true, Nat.le_refl, Int.sub_zero, Nat.sub_zero, Int.le_refl, true_or, or_true, beq_self_eq_true]
        repeat refine And.intro (by omega) ?_
        exact hF
      | false =>
        rw [if_neg (by decide)] at hyt
        have ht2 : t = ⟨y.short.toArray⟩ := by apply ByteArray.ext; rw [← hyt.2]
        have hsh : shortO (some y) = strT y.short := by simp only [shortO]; rw [if_pos hyt.1]
        rw [hsh, strT] at hC
        subst hC
        subst ht2
        simp only [↓gaW, ↓gaV, ↓gaC, ↓gaN, gaP, Nat.reduceEqDiff, Nat.reduceLeDiff, Nat.reduceAdd, Nat.reduceSub, Nat.reduceMul, Int.reduceLT, Int.reduceLE, Int.reduceEq, Int.reduceToNat, Int.reduceAdd, Int.reduceSub, Int.reduceMul, reduceCtorEq, ↓reduceIte, gaE, implies_true, Nat.le_refl, Int.sub_zero, Nat.sub_zero, Int.le_refl, true_or, or_true, beq_self_eq_true]
        repeat refine And.intro (by omega) ?_
        exact hF
  | some x =>
    simp only [↓gaW, ↓gaV, ↓gaC, ↓gaN, gaP, Nat.reduceEqDiff, Nat.reduceLeDiff, Nat.reduceAdd, Nat.reduceSub, Nat.reduceMul, Int.reduceLT, Int.reduceLE, Int.reduceEq, Int.reduceToNat, Int.reduceAdd, Int.reduceSub, Int.reduceMul, reduceCtorEq, ↓reduceIte, List.getD_cons_zero, List.getD_cons_succ, fillL, splice, List.take_zero, List.drop_zero, List.drop_succ_cons, List.take_succ_cons, List.drop_nil, List.take_nil, dateT, D6.cells]
    repeat refine And.intro (by first | omega | exact all6 x) ?_
    have hsv : SecV x.a x.b x.c x.d x.e x.f = .tuple #[.int .i64 s, .bool true] := by
      have h' : okD x.a x.b x.c x.d x.e x.f = true := ho.1
      have h2 : secI x.a x.b x.c x.d x.e x.f = s := ho.2
      rw [SecV, if_pos h', h2]
    have hrd : readL x.long = .tuple #[.int .i64 s, .bool true] := by rw [readL_long ho.1, ho.2]
    have hF : ∀ q, q < nx → (upd (upd g2 n2 (some (.cells [.int .i64 0, .int .i64 0, .int .i64 0, .int .i64 0, .int .i64 0, .int .i64 0] false))) n2 (some (.cells x.cells false))) q = gt q := fun q hq => by
      simp only [upd_e]; rw [if_neg (by omega), if_neg (by omega), hF q hq]
    rw [D6.cells] at hF
    refine callK_of ct_Seconds (fun v n3 g3 l3 k3 hC => ?_) (by omega)
    rw [hsv] at hC
    subst hC
    have hF : ∀ q, q < nx → g3 q = gt q := fun q hq => (k3 q (by omega)).trans (hF q hq)
    simp only [↓gaW, ↓gaV, ↓gaC, ↓gaN, gaP, Nat.reduceEqDiff, Nat.reduceLeDiff, Nat.reduceAdd, Nat.reduceSub, Nat.reduceMul, Int.reduceLT, Int.reduceLE, Int.reduceEq, Int.reduceToNat, Int.reduceAdd, Int.reduceSub, Int.reduceMul, reduceCtorEq, ↓reduceIte]
    repeat refine And.intro (by omega) ?_
    refine callK_of (ct_Long hs ho) (fun v n4 g4 l4 k4 hC => ?_) (by omega)
    subst hC
    have hF : ∀ q, q < nx → g4 q = gt q := fun q hq => (k4 q (by omega)).trans (hF q hq)
    simp only [↓gaW, ↓gaV, ↓gaC, ↓gaN, gaP, Nat.reduceEqDiff, Nat.reduceLeDiff, Nat.reduceAdd, Nat.reduceSub, Nat.reduceMul, Int.reduceLT, Int.reduceLE, Int.reduceEq, Int.reduceToNat, Int.reduceAdd, Int.reduceSub, Int.reduceMul, reduceCtorEq, ↓reduceIte, longO, strT]
    repeat refine And.intro (by omega) ?_
    have hsz : (⟨x.long.toArray⟩ : ByteArray).size = 15 := rfl
    refine callK_of (ct_Read (by rw [hsz]; omega)) (fun v n5 g5 l5 k5 hC => ?_) (by omega)
    rw [if_pos rfl, show (⟨x.long.toArray⟩ : ByteArray).data.toList = x.long from rfl, hrd] at hC
    subst hC
    have hF : ∀ q, q < nx → g5 q = gt q := fun q hq => (k5 q (by omega)).trans (hF q hq)
    simp only [↓gaW, ↓gaV, ↓gaC, ↓gaN, gaP, Nat.reduceEqDiff, Nat.reduceLeDiff, Nat.reduceAdd, Nat.reduceSub, Nat.reduceMul, Int.reduceLT, Int.reduceLE, Int.reduceEq, Int.reduceToNat, Int.reduceAdd, Int.reduceSub, Int.reduceMul, reduceCtorEq, ↓reduceIte, hsz, decide_true, decide_false, not_true]
    repeat refine And.intro (by omega) ?_
    refine callK_of (ct_Read (show t.size < 1000 by omega)) (fun v n7 g7 l7 k7 hC => ?_) (by omega)
    rw [← readO] at hC
    have hF : ∀ q, q < nx → g7 q = gt q := fun q hq => (k7 q (by omega)).trans (hF q hq)
    obtain ⟨V, T, eV⟩ := readO_shape l t.data.toList
    rw [eV] at hC
    subst hC
    cases T with
    | false =>
      have v0 := read_no eV
      subst v0
      simp only [↓gaW, ↓gaV, ↓gaC, ↓gaN, gaP, Nat.reduceEqDiff, Nat.reduceLeDiff, Nat.reduceAdd, Nat.reduceSub, Nat.reduceMul, Int.reduceLT, Int.reduceLE, Int.reduceEq, Int.reduceToNat, Int.reduceAdd, Int.reduceSub, Int.reduceMul, reduceCtorEq, ↓reduceIte, gaE, implies_true, Nat.le_refl, Int.sub_zero, Nat.sub_zero, Int.le_refl, true_or, or_true, decide_true]
      repeat refine And.intro (by omega) ?_
      exact hF
    | true =>
      obtain ⟨y, hy, hyt⟩ : ∃ y : D6, DateO V (some y) ∧ if l = true then t.data.toList = y.long else y.a < 2050 ∧ t.data.toList = y.short := by
        unfold readO at eV
        split at eV
        · obtain ⟨y, h1, h2⟩ := readL_back eV
          exact ⟨y, h1, by rw [if_pos (by assumption)]; exact h2⟩
        · obtain ⟨y, h1, h2⟩ := readS_back eV
          exact ⟨y, h1, by rw [if_neg (by assumption)]; exact h2⟩
      have hin := D6.in_of hy.1
      rw [hy.2] at hin
      have hin' : -631152000 ≤ V ∧ V ≤ 7258118399 := hin
      simp only [↓gaW, ↓gaV, ↓gaC, ↓gaN, gaP, Nat.reduceEqDiff, Nat.reduceLeDiff, Nat.reduceAdd, Nat.reduceSub, Nat.reduceMul, Int.reduceLT, Int.reduceLE, Int.reduceEq, Int.reduceToNat, Int.reduceAdd, Int.reduceSub, Int.reduceMul, reduceCtorEq, ↓reduceIte]
      repeat refine And.intro (by omega) ?_
      refine callK_of (ct_Long (by omega) hy) (fun v n8 g8 l8 k8 hC => ?_) (by omega)
      subst hC
      have hF : ∀ q, q < nx → g8 q = gt q := fun q hq => (k8 q (by omega)).trans (hF q hq)
      simp only [↓gaW, ↓gaV, ↓gaC, ↓gaN, gaP, Nat.reduceEqDiff, Nat.reduceLeDiff, Nat.reduceAdd, Nat.reduceSub, Nat.reduceMul, Int.reduceLT, Int.reduceLE, Int.reduceEq, Int.reduceToNat, Int.reduceAdd, Int.reduceSub, Int.reduceMul, reduceCtorEq, ↓reduceIte, longO, strT]
      repeat refine And.intro (by omega) ?_
      refine callK_of (ct_Short (by omega) hy) (fun v n9 g9 l9 k9 hC => ?_) (by omega)
      have hF : ∀ q, q < nx → g9 q = gt q := fun q hq => (k9 q (by omega)).trans (hF q hq)
      obtain ⟨SA, ST, eS⟩ := shortO_shape (some y)
      cases l with
      | true =>
        rw [if_pos rfl] at hyt
        have ht2 : t = ⟨y.long.toArray⟩ := by apply ByteArray.ext; rw [← hyt]
        rw [eS] at hC
        subst hC
        subst ht2
        simp only [↓gaW, ↓gaV, ↓gaC, ↓gaN, gaP, Nat.reduceEqDiff, Nat.reduceLeDiff, Nat.reduceAdd, Nat.reduceSub, Nat.reduceMul, Int.reduceLT, Int.reduceLE, Int.reduceEq, Int.reduceToNat, Int.reduceAdd, Int.reduceSub, Int.reduceMul, reduceCtorEq, ↓reduceIte, gaE, implies_true, Nat.le_refl, Int.sub_zero, Nat.sub_zero, Int.le_refl, true_or, or_true, beq_self_eq_true]
        repeat refine And.intro (by omega) ?_
        exact hF
      | false =>
        rw [if_neg (by decide)] at hyt
        have ht2 : t = ⟨y.short.toArray⟩ := by apply ByteArray.ext; rw [← hyt.2]
        have hsh : shortO (some y) = strT y.short := by simp only [shortO]; rw [if_pos hyt.1]
        rw [hsh, strT] at hC
        subst hC
        subst ht2
        simp only [↓gaW, ↓gaV, ↓gaC, ↓gaN, gaP, Nat.reduceEqDiff, Nat.reduceLeDiff, Nat.reduceAdd, Nat.reduceSub, Nat.reduceMul, Int.reduceLT, Int.reduceLE, Int.reduceEq, Int.reduceToNat, Int.reduceAdd, Int.reduceSub, Int.reduceMul, reduceCtorEq, ↓reduceIte, gaE, implies_true, Nat.le_refl, Int.sub_zero, Nat.sub_zero, Int.le_refl, true_or, or_true, beq_self_eq_true]
        repeat refine And.intro (by omega) ?_
        exact hF
end
end Go.Ga

/- What a law is given, as the walk has it. -/
namespace Go.Ga
open Go

/-- A slice of whole numbers, as a row opens it. -/
def IsRow (k : IntKind) (w : World) (a : Option Addr) (len cap : Nat) (zs : List Int) : Prop :=
  (a = none ∧ len = 0 ∧ cap = 0 ∧ zs = []) ∨
  ∃ x, a = some x ∧ len ≤ cap ∧ cap ≤ maxLen ∧ zs.length = cap ∧ (∀ i, i < zs.length → w.cell? (x.add i) = some (.int k (zs.getD i 0))) ∧ ∀ n ∈ zs, (Lit.int k n).wf = true

theorem wf_u8 {n : Int} (h : (Lit.int .u8 n).wf = true) : 0 ≤ n ∧ n ≤ 255 := by
  have := (Lit.wf_int_iff _ _).1 h
  simpa [IntKind.min, IntKind.max, IntKind.signed, IntKind.bits] using this

/-- A row's slice of bytes. -/
theorem absV_bytes {w : World} {a : Option Addr} {len cap : Nat} {zs : List Int} (h : IsRow .u8 w a len cap zs) :
    ∃ A, absV w (.slice a len cap) = .slice A len cap ∧ len ≤ cap ∧ ∃ l : List UInt8, Row w.heap.size (m0 w).get 1 A len (l.map u8V) := by
  rcases h with ⟨rfl, rfl, rfl, rfl⟩ | ⟨x, rfl, h1, h2, h3, h4, h5⟩
  · exact ⟨none, rfl, Nat.le_refl _, [], .nil⟩
  by_cases hc : cap = 0
  · subst hc
    have : len = 0 := by omega
    subst this
    exact ⟨some ⟨x.block, x.off, none⟩, by simp [absV, absC], Nat.le_refl _, [], ⟨fun a ha => by injection ha with ha; subst ha; exact .inl rfl, rfl, fun h => absurd h (Nat.lt_irrefl 0)⟩⟩
  have c0 := h4 0 (by omega)
  have hx : x.add 0 = x := by simp [Addr.add]
  rw [hx] at c0
  unfold World.cell? at c0
  split at c0
  · rename_i ce el fr hb
    have hsp : x.spot = none := by
      by_cases h : x.spot.isSome
      · rw [if_pos h] at c0; cases c0
      · simpa using h
    have hlt : x.block < w.heap.size := by
      rcases Nat.lt_or_ge x.block w.heap.size with h | h
      · exact h
      · rw [Array.getElem?_eq_none h] at hb; cases hb
    have hcell : ∀ i, i < cap → ce[x.off + i]? = some (.int .u8 (zs.getD i 0)) := by
      intro i hi
      have := h4 i (by omega)
      unfold World.cell? Addr.add at this
      by_cases h0 : i = 0
      · subst h0
        simp only [if_true, hb, hsp] at this
        simpa using this
      · simp only [if_neg h0, hb] at this
        simpa using this
    have hsz : x.off + cap ≤ ce.size := by
      have := hcell (cap - 1) (by omega)
      rcases Nat.lt_or_ge (x.off + (cap - 1)) ce.size with h | h
      · omega
      · rw [Array.getElem?_eq_none h] at this; cases this
    refine ⟨some x, ?_, h1, (zs.take len).map fun n => UInt8.ofNat n.toNat, ⟨fun a ha => by injection ha with ha; subst ha; exact .inl hsp, ?_, fun hN => ⟨x, ce.toList.map (absC w), true, rfl, hlt, ?_, ?_, fun i hi => ?_⟩⟩⟩
    · have : isCells w x.block = true := by simp [isCells, hb]
      simp [absV, absC, hc, hsp, h1, this]
    · simp; omega
    · simp [m0, hb]
    · simp; omega
    · have e1 := hcell i (by omega)
      have hz : i < zs.length := by omega
      have hw := wf_u8 (h5 (zs.getD i 0) (by rw [List.getD_eq_getElem?_getD, List.getElem?_eq_getElem hz]; exact List.getElem_mem hz))
      have e2 : ce.toList[x.off + i]? = some (.int .u8 (zs.getD i 0)) := by simpa using e1
      have e3 : (ce.toList.map (absC w)).getD (x.off + i) undef = .int .u8 (zs.getD i 0) := by
        rw [List.getD_eq_getElem?_getD, List.getElem?_map, e2]
        rfl
      rw [e3, getD_u8 (by simp; omega)]
      congr 1
      have e4 : ((zs.take len).map fun n => UInt8.ofNat n.toNat).getD i 0 = UInt8.ofNat (zs.getD i 0).toNat := by
        simp [List.getD_eq_getElem?_getD, List.getElem?_map, hi, List.getElem?_eq_getElem hz]
      rw [e4, UInt8.toNat_ofNat']
      omega
  · cases c0

theorem absV_int {w : World} {k : IntKind} {n : Int} : absV w (.int k n) = .int k n := rfl
theorem absV_str {w : World} {s : ByteArray} : absV w (.string s) = .string s := rfl
theorem absV_bool {w : World} {b : Bool} : absV w (.bool b) = .bool b := rfl
theorem wf_u64 {n : Int} (h : (Lit.int .u64 n).wf = true) : ∃ x : Nat, n = x ∧ x < 18446744073709551616 := by
  have : 0 ≤ n ∧ n ≤ 18446744073709551615 := by
    have := (Lit.wf_int_iff _ _).1 h
    simpa [IntKind.min, IntKind.max, IntKind.signed, IntKind.bits] using this
  exact ⟨n.toNat, by omega, by omega⟩
theorem wf_i64 {n : Int} (h : (Lit.int .i64 n).wf = true) : -9223372036854775808 ≤ n ∧ n ≤ 9223372036854775807 := by
  have := (Lit.wf_int_iff _ _).1 h
  simpa [IntKind.min, IntKind.max, IntKind.signed, IntKind.bits] using this

/-- A law's call, by its contract. -/
theorem Ct.law {P : Program} {g : Nat} {args : Array Value} {w : World} (h : Ct P g (args.toList.map (absV w)) w.heap.size (m0 w).get fun v _ _ => v = .bool true) :
    Calls P g args w fun e w' => e = .returned (.bool true) ∧ Go.RowKit.Below w.heap.size w w' := by
  refine law_calls (K := fun res _ => res = .ret (.bool true)) ?_ fun _ _ h => h
  have := h w.heap.size (Nat.le_refl _)
  refine this.mono fun res m' _ hh => ?_
  obtain ⟨v, rfl, _, _, _, rfl⟩ := hh
  rfl
end Go.Ga

/- An array of whole numbers that a law is given. -/
namespace Go.Ga
open Go

section
variable {P : Program} {H : Type} {enc : TypeId × Value → H} {w : World} {base : Nat} {sp : Nat → Bool} {held : Bool} {t e : TypeId} {n : Nat} {k : IntKind}

def intOf : Option Value → Int
  | some (.int _ z) => z
  | _ => 0
theorem mapM_all {α β : Type} (f : α → Option β) (g : α → β) : ∀ (L : List α), (∀ i ∈ L, f i = some (g i)) → L.mapM f = some (L.map g)
  | [], _ => rfl
  | a :: L, h => by
    rw [List.mapM_cons, h a (by simp), mapM_all f g L fun i hi => h i (by simp [hi])]
    rfl
theorem mapM_inv {α β : Type} (f : α → Option β) : ∀ (L : List α) (xs : List β), L.mapM f = some xs → ∃ g : α → Option β, (∀ i ∈ L, f i = g i ∧ (g i).isSome) ∧ xs.map some = L.map g
  | [], xs, h => by
    simp at h
    subst h
    exact ⟨fun _ => none, by simp, rfl⟩
  | a :: L, xs, h => by
    rw [List.mapM_cons] at h
    simp only [bind, Option.bind_eq_some_iff, pure, Option.some.injEq] at h
    obtain ⟨y, hy, ys, hys, rfl⟩ := h
    obtain ⟨g, h1, h2⟩ := mapM_inv f L ys hys
    refine ⟨f, fun i hi => ⟨rfl, ?_⟩, ?_⟩
    · rcases List.mem_cons.1 hi with rfl | hi
      · simp [hy]
      · rw [(h1 i hi).1]; exact (h1 i hi).2
    · simp only [List.map_cons, hy, h2, List.cons.injEq, true_and]
      exact List.map_congr_left fun i hi => (h1 i hi).1.symm

def arrD (k : IntKind) (zs : List Int) : DataW H := .agg (zs.map fun z => .lit (.int k z))

theorem shut_arrI (ht : P.underlying t = some (.array n e)) (he : P.underlying e = some (.int k)) (hc : P.cellsOf e = 1) (hct : P.cellsOf t = n) {zs : List Int} (hl : zs.length = n) (hw : ∀ z ∈ zs, (Lit.int k z).wf = true) :
    DataW.Trod enc P w base sp held t (.agg (zs.map (Value.int k)).toArray) (arrD k zs) [] := by
  refine ⟨2, ?_⟩
  have h1 : ∀ i ∈ List.range n, DataW.trod enc P w base sp held 1 e (((zs.map (Value.int k)).drop (i * 1)).take 1) = some ((.lit (.int k (zs.getD i 0)) : DataW H), []) := by
    intro i hi
    have hi : i < zs.length := by rw [hl]; exact List.mem_range.1 hi
    have e1 : ((zs.map (Value.int k)).drop (i * 1)).take 1 = [.int k (zs.getD i 0)] := by
      rw [Nat.mul_one, List.drop_eq_getElem_cons (by simpa using hi)]
      simp [List.getD_eq_getElem?_getD, hi]
    rw [e1]
    have hwi : (Lit.int k (zs.getD i 0)).wf = true := hw _ (by rw [List.getD_eq_getElem?_getD, List.getElem?_eq_getElem hi]; exact List.getElem_mem hi)
    have hwi' := hwi
    simp only [List.getD_eq_getElem?_getD] at hwi' ⊢
    simp [DataW.trod, he, hwi']
  rw [DataW.trod_step]
  unfold DataW.trodStep
  simp only [ht, Value.cells, hct, hc, List.length_map, hl, if_true]
  rw [mapM_all _ _ _ h1]
  simp only [Option.map_some, List.map_map, arrD, Option.some.injEq, Prod.mk.injEq, DataW.agg.injEq]
  refine ⟨?_, by simp⟩
  refine List.ext_getElem (by simp [hl]) fun i h1 h2 => ?_
  have hi : i < zs.length := by simpa using h2
  simp [hi]

theorem open_arrI (ht : P.underlying t = some (.array n e)) (he : P.underlying e = some (.int k)) (hc : P.cellsOf e = 1) (hct : P.cellsOf t = n) {r : Reach} {b0 : Nat} {v : Value} {d : DataW H} {ps : List MemPlace} (hval : Value.okWide P w r b0 t v) (hd : DataW.Trod enc P w base sp held t v d ps) :
    ∃ zs : List Int, v = .agg (zs.map (Value.int k)).toArray ∧ zs.length = n ∧ (∀ z ∈ zs, (Lit.int k z).wf = true) ∧ d = arrD k zs ∧ ps = [] := by
  simp only [Value.okWide, ht] at hval
  obtain ⟨cs, rfl, hcs, _⟩ := hval
  obtain ⟨fuel, hf⟩ := hd
  cases fuel with
  | zero => simp [DataW.trod] at hf
  | succ fuel =>
    rw [DataW.trod_step] at hf
    unfold DataW.trodStep at hf
    simp only [ht, Value.cells] at hf
    rw [if_pos (by simpa using hcs)] at hf
    simp only [Option.map_eq_some_iff] at hf
    obtain ⟨xs, hx, e1⟩ := hf
    obtain ⟨g, hg, hgx⟩ := mapM_inv _ _ _ hx
    have hlen : cs.toList.length = n := by simp [hcs, hct]
    have cell : ∀ i, i < n → ∃ z, cs.toList[i]? = some (.int k z) ∧ (Lit.int k z).wf = true ∧ g i = some ((.lit (.int k z) : DataW H), []) := by
      intro i hi
      obtain ⟨h1, h2⟩ := hg i (List.mem_range.2 hi)
      obtain ⟨y, hy⟩ := Option.isSome_iff_exists.1 h2
      rw [hy] at h1
      obtain ⟨z, h3, rfl, h4⟩ := DataW.trod_int he h1
      refine ⟨z, ?_, h4, hy⟩
      rw [hc, Nat.mul_one, List.drop_eq_getElem_cons (by omega)] at h3
      simp at h3
      rw [List.getElem?_eq_getElem (by omega)]
      simp [h3]
    have hzs : ∃ zs : List Int, zs.length = n ∧ ∀ i, i < n → cs.toList[i]? = some (.int k (zs.getD i 0)) ∧ (Lit.int k (zs.getD i 0)).wf = true ∧ g i = some ((.lit (.int k (zs.getD i 0)) : DataW H), []) := by
      refine ⟨(List.range n).map fun i => intOf cs.toList[i]?, by simp, fun i hi => ?_⟩
      obtain ⟨z, h1, h2, h3⟩ := cell i hi
      have : ((List.range n).map fun i => intOf cs.toList[i]?).getD i 0 = z := by
        rw [List.getD_eq_getElem?_getD, List.getElem?_map, List.getElem?_range hi]
        simp only [Option.map_some, h1, Option.getD_some, intOf]
      rw [this]
      exact ⟨h1, h2, h3⟩
    obtain ⟨zs, hl, hz⟩ := hzs
    refine ⟨zs, ?_, hl, fun z hmem => ?_, ?_, ?_⟩
    · congr 1
      apply Array.ext'
      refine List.ext_getElem? fun i => ?_
      rcases Nat.lt_or_ge i n with h | h
      · rw [(hz i h).1]
        simp [List.getElem?_map, List.getD_eq_getElem?_getD, List.getElem?_eq_getElem (show i < zs.length by omega)]
      · rw [List.getElem?_eq_none (by omega), List.getElem?_eq_none (by simp; omega)]
    · obtain ⟨i, hi, rfl⟩ := List.getElem_of_mem hmem
      have := (hz i (by omega)).2.1
      simpa [List.getD_eq_getElem?_getD, List.getElem?_eq_getElem hi] using this
    · simp only [Prod.mk.injEq] at e1
      rw [← e1.1, arrD]
      congr 1
      refine List.ext_getElem? fun i => ?_
      have hxi : (xs.map some)[i]? = ((List.range n).map g)[i]? := by rw [hgx]
      rcases Nat.lt_or_ge i n with h | h
      · rw [List.getElem?_map, List.getElem?_map, List.getElem?_range h, Option.map_some, (hz i h).2.2] at hxi
        cases hx1 : xs[i]? with
        | none => simp [hx1] at hxi
        | some y =>
          simp only [hx1, Option.map_some, Option.some.injEq] at hxi
          simp [hx1, hxi, List.getD_eq_getElem?_getD, List.getElem?_eq_getElem (show i < zs.length by omega)]
      · have : xs.length = n := by
          have := congrArg List.length hgx
          simpa using this
        rw [List.getElem?_eq_none (by simp; omega), List.getElem?_eq_none (by simp; omega)]
    · simp only [Prod.mk.injEq] at e1
      rw [← e1.2, List.flatMap_eq_nil_iff]
      intro y hy
      obtain ⟨i, hi, rfl⟩ := List.getElem_of_mem hy
      have hn : xs.length = n := by
        have := congrArg List.length hgx
        simpa using this
      have hxi : (xs.map some)[i]? = ((List.range n).map g)[i]? := by rw [hgx]
      rw [List.getElem?_map, List.getElem?_eq_getElem hi, List.getElem?_map, List.getElem?_range (by omega), Option.map_some, Option.map_some, (hz i (by omega)).2.2] at hxi
      simp only [Option.some.injEq] at hxi
      rw [hxi]
end

theorem absV_arr {w : World} {k : IntKind} {zs : List Int} : absV w (.agg (zs.map (Value.int k)).toArray) = .agg (zs.map (Value.int k)).toArray := by
  simp only [absV]
  congr 1
  apply Array.ext'
  simp [Function.comp_def, absC, goodV]
theorem list6 {zs : List Int} (h : zs.length = 6) : ∃ a b c d e f, zs = [a, b, c, d, e, f] := by
  match zs, h with
  | [a, b, c, d, e, f], _ => exact ⟨a, b, c, d, e, f, rfl⟩
end Go.Ga
