/- Words and contracts of functions for the statement's proof. No condition. -/
import Derived.Test.YtdoceobedbmkiaaA5
set_option linter.all false

namespace Go.Ga
open Go Go.Proofs
set_option linter.unusedSimpArgs false
set_option linter.unusedVariables false
set_option maxRecDepth 100000
attribute [local irreducible] appendK

def rdA : RC :=
  (.seq
  (.ops [] [
  ⟨(some 12), (.op (.mv (.k (.int .i64 0)))), none⟩])
  (.block 2
  (.loop
  (.seq
  (.seq
  (.ops [] [
  ⟨(some 42), (.op (.mv (.t 12))), none⟩,
  ⟨(some 43), (.op (.mv (.t 8))), none⟩,
  ⟨(some 44), (.op (.lenSl (.t 43))), none⟩,
  ⟨(some 45), (.op (.bin .lss (.t 42) (.t 44))), none⟩])
  (.cond (.t 45)
  .skip
  (.exit 2)))
  (.seq
  (.block 3
  (.seq
  (.ops [] [
  ⟨(some 48), (.op (.mv (.t 8))), none⟩,
  ⟨(some 49), (.op (.mv (.t 12))), none⟩,
  ⟨(some 50), (.op (.ixAddr 1 (.t 48) (.t 49))), none⟩,
  ⟨(some 51), (.op (.load1 (.t 50))), none⟩,
  ⟨(some 52), (.op (.bin .shr (.t 51) (.k (.int .u64 31)))), none⟩,
  ⟨(some 13), (.op (.mv (.t 52))), none⟩])
  (.seq
  (.ops [] [
  ⟨(some 53), (.op (.mv (.t 8))), none⟩,
  ⟨(some 54), (.op (.mv (.t 12))), none⟩,
  ⟨(some 55), (.op (.mv (.t 8))), none⟩,
  ⟨(some 56), (.op (.mv (.t 12))), none⟩,
  ⟨(some 57), (.op (.ixAddr 1 (.t 55) (.t 56))), none⟩,
  ⟨(some 58), (.op (.load1 (.t 57))), none⟩,
  ⟨(some 59), (.op (.bin .shl (.t 58) (.k (.int .u64 1)))), none⟩,
  ⟨(some 60), (.op (.mv (.t 11))), none⟩,
  ⟨(some 61), (.op (.bin .or (.t 59) (.t 60))), none⟩,
  ⟨(some 62), (.op (.ixAddr 1 (.t 53) (.t 54))), none⟩,
  ⟨none, (.op (.store 1 (.t 62) (.t 61))), none⟩])
  (.ops [] [
  ⟨(some 63), (.op (.mv (.t 13))), none⟩,
  ⟨(some 11), (.op (.mv (.t 63))), none⟩]))))
  (.ops [] [
  ⟨(some 46), (.op (.mv (.t 12))), none⟩,
  ⟨(some 47), (.op (.bin .add (.t 46) (.k (.int .i64 1)))), none⟩,
  ⟨(some 12), (.op (.mv (.t 47))), none⟩]))))))
def rdB : RC :=
  (.seq
  (.ops [] [
  ⟨(some 15), (.op (.mv (.k (.int .i64 0)))), none⟩])
  (.block 4
  (.loop
  (.seq
  (.seq
  (.ops [] [
  ⟨(some 67), (.op (.mv (.t 15))), none⟩,
  ⟨(some 68), (.op (.mv (.t 8))), none⟩,
  ⟨(some 69), (.op (.lenSl (.t 68))), none⟩,
  ⟨(some 70), (.op (.bin .lss (.t 67) (.t 69))), none⟩])
  (.cond (.t 70)
  .skip
  (.exit 4)))
  (.seq
  (.block 5
  (.seq
  (.ops [] [
  ⟨(some 73), (.op (.mv (.t 7))), none⟩,
  ⟨(some 74), (.op (.mv (.t 15))), none⟩,
  ⟨(some 75), (.op (.ixAddr 1 (.t 73) (.t 74))), none⟩,
  ⟨(some 76), (.op (.load1 (.t 75))), none⟩,
  ⟨(some 77), (.op (.toInt .u64 (.t 76))), none⟩,
  ⟨(some 78), (.op (.mv (.t 14))), none⟩,
  ⟨(some 79), (.op (.bin .add (.t 77) (.t 78))), none⟩,
  ⟨(some 16), (.op (.mv (.t 79))), none⟩])
  (.seq
  (.ops [] [
  ⟨(some 14), (.op (.mv (.k (.int .u64 0)))), none⟩])
  (.seq
  (.seq
  (.ops [] [
  ⟨(some 80), (.op (.mv (.t 8))), none⟩,
  ⟨(some 81), (.op (.mv (.t 15))), none⟩,
  ⟨(some 82), (.op (.ixAddr 1 (.t 80) (.t 81))), none⟩,
  ⟨(some 83), (.op (.load1 (.t 82))), none⟩,
  ⟨(some 84), (.op (.toInt .u64 (.t 83))), none⟩,
  ⟨(some 85), (.op (.mv (.t 16))), none⟩,
  ⟨(some 86), (.op (.bin .lss (.t 84) (.t 85))), none⟩])
  (.cond (.t 86)
  (.ops [] [
  ⟨(some 14), (.op (.mv (.k (.int .u64 1)))), none⟩])
  .skip))
  (.ops [] [
  ⟨(some 87), (.op (.mv (.t 8))), none⟩,
  ⟨(some 88), (.op (.mv (.t 15))), none⟩,
  ⟨(some 89), (.op (.mv (.t 8))), none⟩,
  ⟨(some 90), (.op (.mv (.t 15))), none⟩,
  ⟨(some 91), (.op (.ixAddr 1 (.t 89) (.t 90))), none⟩,
  ⟨(some 92), (.op (.load1 (.t 91))), none⟩,
  ⟨(some 93), (.op (.toInt .u64 (.t 92))), none⟩,
  ⟨(some 94), (.op (.mv (.t 16))), none⟩,
  ⟨(some 95), (.op (.bin .sub (.t 93) (.t 94))), none⟩,
  ⟨(some 96), (.op (.toInt .u32 (.t 95))), none⟩,
  ⟨(some 97), (.op (.ixAddr 1 (.t 87) (.t 88))), none⟩,
  ⟨none, (.op (.store 1 (.t 97) (.t 96))), none⟩])))))
  (.ops [] [
  ⟨(some 71), (.op (.mv (.t 15))), none⟩,
  ⟨(some 72), (.op (.bin .add (.t 71) (.k (.int .i64 1)))), none⟩,
  ⟨(some 15), (.op (.mv (.t 72))), none⟩]))))))
def rdC : RC :=
  (.ops [
  ⟨(some 98), (.op (.mv (.t 9))), none⟩,
  ⟨(some 99), (.op (.mv (.t 10))), none⟩,
  ⟨(some 100), (.op (.bin .quo (.t 99) (.k (.int .i64 32)))), none⟩,
  ⟨(some 101), (.op (.mv (.t 9))), none⟩,
  ⟨(some 102), (.op (.mv (.t 10))), none⟩,
  ⟨(some 103), (.op (.bin .quo (.t 102) (.k (.int .i64 32)))), none⟩,
  ⟨(some 104), (.op (.ixAddr 1 (.t 101) (.t 103))), none⟩,
  ⟨(some 105), (.op (.load1 (.t 104))), none⟩,
  ⟨(some 106), (.op (.mv (.t 10))), none⟩,
  ⟨(some 107), (.op (.bin .rem (.t 106) (.k (.int .i64 32)))), none⟩,
  ⟨(some 108), (.op (.bin .shl (.k (.int .u32 1)) (.t 107))), none⟩,
  ⟨(some 109), (.op (.bin .or (.t 105) (.t 108))), none⟩] [
  ⟨(some 110), (.op (.ixAddr 1 (.t 98) (.t 100))), none⟩,
  ⟨none, (.op (.store 1 (.t 110) (.t 109))), none⟩])

theorem dbl_step {U L P c0 c W : Nat} (h : U + P * c = 2 * L + c0) : U + P * (W * 2 % 4294967296 + c) + P * 4294967296 * (W / 2147483648) = 2 * (L + P * W) + c0 := by
  have key : W * 2 % 4294967296 + 4294967296 * (W / 2147483648) = 2 * W := by omega
  have h2 := congrArg (P * ·) key
  simp only [Nat.mul_add] at h2 ⊢
  rw [Nat.mul_assoc P 4294967296]
  have e : P * (2 * W) = 2 * (P * W) := by ac_rfl
  omega

theorem sub_step8 {U L K P o W Y D S : Nat} (hk : D + Y + o = W + 4294967296 * S) (h : U + K = L + P * o) : U + P * D + (K + P * Y) = L + P * W + P * 4294967296 * S := by
  have h2 := congrArg (P * ·) hk
  simp only [Nat.mul_add] at h2
  rw [Nat.mul_assoc P 4294967296]
  omega

theorem low_word {l : List UInt32} {k : Nat} (h : lv l % 2 ^ (k + 1) = 0) : (l.getD (k / 32) 0).toNat % 2 ^ (k % 32 + 1) = 0 := by
  have hr : k % 32 < 32 := Nat.mod_lt _ (by decide)
  have e1 : (2 : Nat) ^ (k + 1) = 4294967296 ^ (k / 32) * 2 ^ (k % 32 + 1) := by
    have e : (4294967296 : Nat) = 2 ^ 32 := by decide
    rw [e, ← Nat.pow_mul, ← Nat.pow_add]
    congr 1
    omega
  have e2 : (4294967296 : Nat) = 2 ^ (k % 32 + 1) * 2 ^ (31 - k % 32) := by
    rw [← Nat.pow_add, show k % 32 + 1 + (31 - k % 32) = 32 by omega]
  have h3 : 2 ^ (k % 32 + 1) ∣ lv l / 4294967296 ^ (k / 32) := by
    obtain ⟨x, hx⟩ := Nat.dvd_of_mod_eq_zero h
    rw [hx, e1, Nat.mul_assoc, Nat.mul_div_cancel_left _ (Nat.pow_pos (by decide))]
    exact Nat.dvd_mul_right _ _
  rw [lv_get]
  obtain ⟨x, hx⟩ := h3
  rw [hx]
  conv => lhs; rw [show 2 ^ (k % 32 + 1) * x % 4294967296 = 2 ^ (k % 32 + 1) * x % (2 ^ (k % 32 + 1) * 2 ^ (31 - k % 32)) by rw [← e2]]
  rw [Nat.mul_mod_mul_left, Nat.mul_mod_right]

theorem or_bit {w r : Nat} (h : w % 2 ^ (r + 1) = 0) : (w ||| 2 ^ r) = w + 2 ^ r := by
  obtain ⟨x, hx⟩ := Nat.dvd_of_mod_eq_zero h
  rw [hx]
  exact (Nat.two_pow_add_eq_or_of_lt (i := r + 1) (b := 2 ^ r) (Nat.pow_lt_pow_right (by decide) (by omega)) x).symm

section
variable {f : Regs} {x b q N : Nat} {g : Nat → Option Blk} {rl : List UInt32} {s : Stk}

theorem rdA_of {c0 : Nat} (hb : b ≤ q) (hq : q < x) (f8 : f 8 = .slice (some ⟨q, 0, none⟩) N N) (f11 : f 11 = .int .u32 (c0 : Nat)) (hc : c0 < 2) (gq : g q = some (.cells (rl.map u32V) false)) (hN : rl.length = N) (hNs : N < 1000000000)
    (K : ∀ (f' : Regs) (g' : Nat → Option Blk) (u : List UInt32) (c : Nat), f' 0 = f 0 → f' 7 = f 7 → f' 8 = f 8 → f' 9 = f 9 → f' 10 = f 10 → (∀ p, p ≠ q → g' p = g p) → g' q = some (.cells (u.map u32V) false) → u.length = N → lv u + 4294967296 ^ N * c = 2 * lv rl + c0 → D Try.prog s .normal f' ⟨x, b, g'⟩) :
    RC.vc Try.prog rdA f ⟨x, b, g⟩ (D Try.prog s) := by
  simp only [rdA, ↓gaW, ↓gaV, ↓gaC, ↓gaN, gaP, Nat.reduceEqDiff, Nat.reduceLeDiff, Nat.reduceAdd, Nat.reduceSub, Nat.reduceMul, Int.reduceLT, Int.reduceLE, Int.reduceEq, Int.reduceToNat, Int.reduceAdd, Int.reduceSub, Int.reduceMul, reduceCtorEq, ↓reduceIte]
  refine loop_of (fun j f' m => ∃ (i c : Nat) (g' : Nat → Option Blk) (u : List UInt32), j = N - i ∧ i ≤ N ∧ c < 2 ∧ f' 0 = f 0 ∧ f' 7 = f 7 ∧ f' 8 = .slice (some ⟨q, 0, none⟩) N N ∧ f' 9 = f 9 ∧ f' 10 = f 10 ∧ f' 11 = .int .u32 (c : Nat) ∧ f' 12 = .int .i64 (i : Nat) ∧ m = ⟨x, b, g'⟩ ∧
      (∀ p, p ≠ q → g' p = g p) ∧ g' q = some (.cells (u.map u32V) false) ∧ u.length = N ∧ (∀ j, i ≤ j → u.getD j 0 = rl.getD j 0) ∧ lv (u.take i) + 4294967296 ^ i * c = 2 * lv (rl.take i) + c0) N
    ⟨0, c0, g, rl, by omega, by omega, hc, by simp only [↓gaW, ↓gaV, ↓gaC, ↓gaN, gaP, Nat.reduceEqDiff, Nat.reduceLeDiff, Nat.reduceAdd, Nat.reduceSub, Nat.reduceMul, Int.reduceLT, Int.reduceLE, Int.reduceEq, Int.reduceToNat, Int.reduceAdd, Int.reduceSub, Int.reduceMul, reduceCtorEq, ↓reduceIte], by simp only [↓gaW, ↓gaV, ↓gaC, ↓gaN, gaP, Nat.reduceEqDiff, Nat.reduceLeDiff, Nat.reduceAdd, Nat.reduceSub, Nat.reduceMul, Int.reduceLT, Int.reduceLE, Int.reduceEq, Int.reduceToNat, Int.reduceAdd, Int.reduceSub, Int.reduceMul, reduceCtorEq, ↓reduceIte], by simp only [↓gaW, ↓gaV, ↓gaC, ↓gaN, gaP, Nat.reduceEqDiff, Nat.reduceLeDiff, Nat.reduceAdd, Nat.reduceSub, Nat.reduceMul, Int.reduceLT, Int.reduceLE, Int.reduceEq, Int.reduceToNat, Int.reduceAdd, Int.reduceSub, Int.reduceMul, reduceCtorEq, ↓reduceIte, f8], by simp only [↓gaW, ↓gaV, ↓gaC, ↓gaN, gaP, Nat.reduceEqDiff, Nat.reduceLeDiff, Nat.reduceAdd, Nat.reduceSub, Nat.reduceMul, Int.reduceLT, Int.reduceLE, Int.reduceEq, Int.reduceToNat, Int.reduceAdd, Int.reduceSub, Int.reduceMul, reduceCtorEq, ↓reduceIte], by simp only [↓gaW, ↓gaV, ↓gaC, ↓gaN, gaP, Nat.reduceEqDiff, Nat.reduceLeDiff, Nat.reduceAdd, Nat.reduceSub, Nat.reduceMul, Int.reduceLT, Int.reduceLE, Int.reduceEq, Int.reduceToNat, Int.reduceAdd, Int.reduceSub, Int.reduceMul, reduceCtorEq, ↓reduceIte], by simp only [↓gaW, ↓gaV, ↓gaC, ↓gaN, gaP, Nat.reduceEqDiff, Nat.reduceLeDiff, Nat.reduceAdd, Nat.reduceSub, Nat.reduceMul, Int.reduceLT, Int.reduceLE, Int.reduceEq, Int.reduceToNat, Int.reduceAdd, Int.reduceSub, Int.reduceMul, reduceCtorEq, ↓reduceIte, f11], by simp only [↓gaW, ↓gaV, ↓gaC, ↓gaN, gaP, Nat.reduceEqDiff, Nat.reduceLeDiff, Nat.reduceAdd, Nat.reduceSub, Nat.reduceMul, Int.reduceLT, Int.reduceLE, Int.reduceEq, Int.reduceToNat, Int.reduceAdd, Int.reduceSub, Int.reduceMul, reduceCtorEq, ↓reduceIte], rfl, fun _ _ => rfl, gq, hN, fun _ _ => rfl, by simp [lv]⟩ ?_
  rintro j f' m ⟨i, c, g', u, rfl, hi, hc2, h0, h7, h8, h9, h10, h11, h12, rfl, hg, hgq, hu, hz, he⟩
  by_cases hlt : (i : Int) < (N : Int)
  · have hw : (u.map u32V).getD i undef = .int .u32 ((u.getD i 0).toNat : Nat) := getD_u32 (by omega)
    have hW32 := lt32 (u.getD i 0)
    have hzi := hz i (Nat.le_refl i)
    obtain ⟨W, hW⟩ : ∃ W, (u.getD i 0).toNat = W := ⟨_, rfl⟩
    rw [hW] at hw hW32
    have s1 : shrV .u32 (W : Int) 31 = ((W / 2147483648 : Nat) : Int) := shr_nat (k := .u32) W 31 (by decide)
    have s2 : shlV .u32 (W : Int) 1 = ((W * 2 % 4294967296 : Nat) : Int) := shl32w (s := 1) (by decide)
    obtain ⟨o1, o2⟩ := low_or (c := c) (x := W) (s := 1) (by decide) (by omega)
    rw [Nat.pow_one] at o1 o2
    have s3 : bitsV .or .u32 ((W * 2 % 4294967296 : Nat) : Int) (c : Int) = ((W * 2 % 4294967296 + c : Nat) : Int) := by
      rw [or_u32 (Nat.mod_lt _ (by decide)) (by omega), Nat.or_comm, o1, Nat.add_comm]
    have sp : splice (u.map u32V) i [.int .u32 ((W * 2 % 4294967296 + c : Nat) : Int)] = (u.set i (UInt32.ofNat (W * 2 % 4294967296 + c))).map u32V := by
      rw [u32V_lt (by omega), splice_set (by omega)]
    have q1 : (i : Int) + 1 = ((i + 1 : Nat) : Int) := by omega
    simp only [↓gaW, ↓gaV, ↓gaC, ↓gaN, gaP, Nat.reduceEqDiff, Nat.reduceLeDiff, Nat.reduceAdd, Nat.reduceSub, Nat.reduceMul, Int.reduceLT, Int.reduceLE, Int.reduceEq, Int.reduceToNat, Int.reduceAdd, Int.reduceSub, Int.reduceMul, reduceCtorEq, ↓reduceIte, h0, h7, h8, h9, h10, h11, h12, hlt, decide_true, hgq, Nat.zero_add, Nat.mul_one, hw, s1, s2, s3, sp]
    repeat refine And.intro (by first | omega | (simp; done) | (simp; omega) | exact all1 rfl) ?_
    simp only [↓gaW, ↓gaV, ↓gaC, ↓gaN, gaP, Nat.reduceEqDiff, Nat.reduceLeDiff, Nat.reduceAdd, Nat.reduceSub, Nat.reduceMul, Int.reduceLT, Int.reduceLE, Int.reduceEq, Int.reduceToNat, Int.reduceAdd, Int.reduceSub, Int.reduceMul, reduceCtorEq, ↓reduceIte, h12, q1, i64_w ((i + 1 : Nat) : Int) (by omega), loopK_n]
    repeat refine And.intro (by first | omega | (simp; done) | (simp; omega) | exact all1 rfl) ?_
    refine ⟨N - (i + 1), by omega, i + 1, W / 2147483648, _, u.set i (UInt32.ofNat (W * 2 % 4294967296 + c)), rfl, by omega, by omega, h0, h7, h8, h9, h10, rfl, rfl, rfl, fun p hp => ?_, by simp only [upd_e, if_true], by simp [hu], fun j hj => ?_, ?_⟩
    · simp only [upd_e]; rw [if_neg hp, hg p hp]
    · rw [set_getD_ne (by omega)]; exact hz j (by omega)
    · rw [lv_set_take (by omega), ofNat32, Nat.mod_eq_of_lt (by omega), lv_take' rl, ← hzi, hW, Nat.pow_succ]
      exact dbl_step he
  · have hin : i = N := by omega
    subst hin
    rw [List.take_of_length_le (by omega), List.take_of_length_le (by omega)] at he
    simp only [↓gaW, ↓gaV, ↓gaC, ↓gaN, gaP, Nat.reduceEqDiff, Nat.reduceLeDiff, Nat.reduceAdd, Nat.reduceSub, Nat.reduceMul, Int.reduceLT, Int.reduceLE, Int.reduceEq, Int.reduceToNat, Int.reduceAdd, Int.reduceSub, Int.reduceMul, reduceCtorEq, ↓reduceIte, h8, h12, hlt, decide_false, loopK_e]
    exact K _ _ u c (by simp only [↓gaW, ↓gaV, ↓gaC, ↓gaN, gaP, Nat.reduceEqDiff, Nat.reduceLeDiff, Nat.reduceAdd, Nat.reduceSub, Nat.reduceMul, Int.reduceLT, Int.reduceLE, Int.reduceEq, Int.reduceToNat, Int.reduceAdd, Int.reduceSub, Int.reduceMul, reduceCtorEq, ↓reduceIte, h0]) (by simp only [↓gaW, ↓gaV, ↓gaC, ↓gaN, gaP, Nat.reduceEqDiff, Nat.reduceLeDiff, Nat.reduceAdd, Nat.reduceSub, Nat.reduceMul, Int.reduceLT, Int.reduceLE, Int.reduceEq, Int.reduceToNat, Int.reduceAdd, Int.reduceSub, Int.reduceMul, reduceCtorEq, ↓reduceIte, h7]) (by simp only [↓gaW, ↓gaV, ↓gaC, ↓gaN, gaP, Nat.reduceEqDiff, Nat.reduceLeDiff, Nat.reduceAdd, Nat.reduceSub, Nat.reduceMul, Int.reduceLT, Int.reduceLE, Int.reduceEq, Int.reduceToNat, Int.reduceAdd, Int.reduceSub, Int.reduceMul, reduceCtorEq, ↓reduceIte, h8, f8]) (by simp only [↓gaW, ↓gaV, ↓gaC, ↓gaN, gaP, Nat.reduceEqDiff, Nat.reduceLeDiff, Nat.reduceAdd, Nat.reduceSub, Nat.reduceMul, Int.reduceLT, Int.reduceLE, Int.reduceEq, Int.reduceToNat, Int.reduceAdd, Int.reduceSub, Int.reduceMul, reduceCtorEq, ↓reduceIte, h9]) (by simp only [↓gaW, ↓gaV, ↓gaC, ↓gaN, gaP, Nat.reduceEqDiff, Nat.reduceLeDiff, Nat.reduceAdd, Nat.reduceSub, Nat.reduceMul, Int.reduceLT, Int.reduceLE, Int.reduceEq, Int.reduceToNat, Int.reduceAdd, Int.reduceSub, Int.reduceMul, reduceCtorEq, ↓reduceIte, h10]) hg hgq hu he

theorem rdB_of {A : Option Addr} {d : Nat} {kl : List UInt32} (hb : b ≤ q) (hq : q < x) (f7 : f 7 = .slice A N d) (f8 : f 8 = .slice (some ⟨q, 0, none⟩) N N) (f14 : f 14 = .int .u64 0) (hr : Row x g 1 A N (kl.map u32V)) (hA : ∀ a, A = some a → a.block ≠ q) (gq : g q = some (.cells (rl.map u32V) false)) (hN : rl.length = N) (hNs : N < 1000000000)
    (K : ∀ (f' : Regs) (g' : Nat → Option Blk) (u : List UInt32) (c : Nat), f' 0 = f 0 → f' 7 = f 7 → f' 8 = f 8 → f' 9 = f 9 → f' 10 = f 10 → (∀ p, p ≠ q → g' p = g p) → g' q = some (.cells (u.map u32V) false) → u.length = N → lv u + lv kl = lv rl + 4294967296 ^ N * c → D Try.prog s .normal f' ⟨x, b, g'⟩) :
    RC.vc Try.prog rdB f ⟨x, b, g⟩ (D Try.prog s) := by
  have hk : kl.length = N := by simpa using hr.len
  simp only [rdB, ↓gaW, ↓gaV, ↓gaC, ↓gaN, gaP, Nat.reduceEqDiff, Nat.reduceLeDiff, Nat.reduceAdd, Nat.reduceSub, Nat.reduceMul, Int.reduceLT, Int.reduceLE, Int.reduceEq, Int.reduceToNat, Int.reduceAdd, Int.reduceSub, Int.reduceMul, reduceCtorEq, ↓reduceIte]
  refine loop_of (fun j f' m => ∃ (i c : Nat) (g' : Nat → Option Blk) (u : List UInt32), j = N - i ∧ i ≤ N ∧ c < 2 ∧ f' 0 = f 0 ∧ f' 7 = .slice A N d ∧ f' 8 = .slice (some ⟨q, 0, none⟩) N N ∧ f' 9 = f 9 ∧ f' 10 = f 10 ∧ f' 14 = .int .u64 (c : Nat) ∧ f' 15 = .int .i64 (i : Nat) ∧ m = ⟨x, b, g'⟩ ∧
      (∀ p, p ≠ q → g' p = g p) ∧ g' q = some (.cells (u.map u32V) false) ∧ u.length = N ∧ (∀ j, i ≤ j → u.getD j 0 = rl.getD j 0) ∧ lv (u.take i) + lv (kl.take i) = lv (rl.take i) + 4294967296 ^ i * c) N
    ⟨0, 0, g, rl, by omega, by omega, by omega, by simp only [↓gaW, ↓gaV, ↓gaC, ↓gaN, gaP, Nat.reduceEqDiff, Nat.reduceLeDiff, Nat.reduceAdd, Nat.reduceSub, Nat.reduceMul, Int.reduceLT, Int.reduceLE, Int.reduceEq, Int.reduceToNat, Int.reduceAdd, Int.reduceSub, Int.reduceMul, reduceCtorEq, ↓reduceIte], by simp only [↓gaW, ↓gaV, ↓gaC, ↓gaN, gaP, Nat.reduceEqDiff, Nat.reduceLeDiff, Nat.reduceAdd, Nat.reduceSub, Nat.reduceMul, Int.reduceLT, Int.reduceLE, Int.reduceEq, Int.reduceToNat, Int.reduceAdd, Int.reduceSub, Int.reduceMul, reduceCtorEq, ↓reduceIte, f7], by simp only [↓gaW, ↓gaV, ↓gaC, ↓gaN, gaP, Nat.reduceEqDiff, Nat.reduceLeDiff, Nat.reduceAdd, Nat.reduceSub, Nat.reduceMul, Int.reduceLT, Int.reduceLE, Int.reduceEq, Int.reduceToNat, Int.reduceAdd, Int.reduceSub, Int.reduceMul, reduceCtorEq, ↓reduceIte, f8], by simp only [↓gaW, ↓gaV, ↓gaC, ↓gaN, gaP, Nat.reduceEqDiff, Nat.reduceLeDiff, Nat.reduceAdd, Nat.reduceSub, Nat.reduceMul, Int.reduceLT, Int.reduceLE, Int.reduceEq, Int.reduceToNat, Int.reduceAdd, Int.reduceSub, Int.reduceMul, reduceCtorEq, ↓reduceIte], by simp only [↓gaW, ↓gaV, ↓gaC, ↓gaN, gaP, Nat.reduceEqDiff, Nat.reduceLeDiff, Nat.reduceAdd, Nat.reduceSub, Nat.reduceMul, Int.reduceLT, Int.reduceLE, Int.reduceEq, Int.reduceToNat, Int.reduceAdd, Int.reduceSub, Int.reduceMul, reduceCtorEq, ↓reduceIte], by simp only [↓gaW, ↓gaV, ↓gaC, ↓gaN, gaP, Nat.reduceEqDiff, Nat.reduceLeDiff, Nat.reduceAdd, Nat.reduceSub, Nat.reduceMul, Int.reduceLT, Int.reduceLE, Int.reduceEq, Int.reduceToNat, Int.reduceAdd, Int.reduceSub, Int.reduceMul, reduceCtorEq, ↓reduceIte, f14], by simp only [↓gaW, ↓gaV, ↓gaC, ↓gaN, gaP, Nat.reduceEqDiff, Nat.reduceLeDiff, Nat.reduceAdd, Nat.reduceSub, Nat.reduceMul, Int.reduceLT, Int.reduceLE, Int.reduceEq, Int.reduceToNat, Int.reduceAdd, Int.reduceSub, Int.reduceMul, reduceCtorEq, ↓reduceIte], rfl, fun _ _ => rfl, gq, hN, fun _ _ => rfl, by simp [lv]⟩ ?_
  rintro j f' m ⟨i, c, g', u, rfl, hi, hc2, h0, h7, h8, h9, h10, h14, h15, rfl, hg, hgq, hu, hz, he⟩
  by_cases hlt : (i : Int) < (N : Int)
  · have hw : (u.map u32V).getD i undef = .int .u32 ((u.getD i 0).toNat : Nat) := getD_u32 (by omega)
    have hW32 := lt32 (u.getD i 0)
    have hzi := hz i (Nat.le_refl i)
    obtain ⟨a, ce, ro, rfl, p1, p2, p3, p4⟩ := w32_cell hr hk (i := i) (by omega)
    have p2' : g' a.block = some (.cells ce ro) := by rw [hg _ (hA a rfl), p2]
    have hY32 := lt32 (kl.getD i 0)
    obtain ⟨W, hW⟩ : ∃ W, (u.getD i 0).toNat = W := ⟨_, rfl⟩
    obtain ⟨Y, hY⟩ : ∃ Y, (kl.getD i 0).toNat = Y := ⟨_, rfl⟩
    rw [hW] at hw hW32
    rw [hY] at p4 hY32
    have q1 : (i : Int) + 1 = ((i + 1 : Nat) : Int) := by omega
    have e1 : (Y : Int) + (c : Int) = ((Y + c : Nat) : Int) := by omega
    have hD : ∃ D S : Nat, D < 4294967296 ∧ S < 2 ∧ D + Y + c = W + 4294967296 * S ∧ IntKind.u32.wrap (IntKind.u64.wrap ((W : Int) - ((Y + c : Nat) : Int))) = (D : Int) ∧ ((W : Int) < ((Y + c : Nat) : Int) ↔ S = 1) := by
      rw [u64_w, u32_w]
      by_cases h : W < Y + c
      · exact ⟨W + 4294967296 - Y - c, 1, by omega, by omega, by omega, by omega, by omega⟩
      · exact ⟨W - Y - c, 0, by omega, by omega, by omega, by omega, by omega⟩
    obtain ⟨D, S, hD1, hS1, hkey, hD2, hS2⟩ := hD
    have sp : splice (u.map u32V) i [.int .u32 (D : Nat)] = (u.set i (UInt32.ofNat D)).map u32V := by
      rw [u32V_lt (by omega), splice_set (by omega)]
    simp only [↓gaW, ↓gaV, ↓gaC, ↓gaN, gaP, Nat.reduceEqDiff, Nat.reduceLeDiff, Nat.reduceAdd, Nat.reduceSub, Nat.reduceMul, Int.reduceLT, Int.reduceLE, Int.reduceEq, Int.reduceToNat, Int.reduceAdd, Int.reduceSub, Int.reduceMul, reduceCtorEq, ↓reduceIte, h0, h7, h8, h9, h10, h14, h15, hlt, decide_true, hgq, p2', p4, Nat.zero_add, Nat.mul_one, hw, u64_i (Y : Int) (by omega), u64_i (W : Int) (by omega), e1, u64_i ((Y + c : Nat) : Int) (by omega)]
    repeat refine And.intro (by first | omega | (simp; done) | (simp; omega) | exact all1 rfl) ?_
    have hz' : ∀ j, i + 1 ≤ j → (u.set i (UInt32.ofNat D)).getD j 0 = rl.getD j 0 := fun j hj => by
      rw [set_getD_ne (by omega)]; exact hz j (by omega)
    have he' : lv ((u.set i (UInt32.ofNat D)).take (i + 1)) + lv (kl.take (i + 1)) = lv (rl.take (i + 1)) + 4294967296 ^ (i + 1) * S := by
      rw [lv_set_take (by omega), ofNat32, Nat.mod_eq_of_lt (by omega), lv_take' rl, lv_take' kl, ← hzi, hW, hY, Nat.pow_succ]
      exact sub_step8 hkey he
    have hg' : ∀ p, p ≠ q → upd g' q (some (.cells ((u.set i (UInt32.ofNat D)).map u32V) false)) p = g p := fun p hp => by
      simp only [upd_e]; rw [if_neg hp, hg p hp]
    have hq' : upd g' q (some (.cells ((u.set i (UInt32.ofNat D)).map u32V) false)) q = some (.cells ((u.set i (UInt32.ofNat D)).map u32V) false) := by simp only [upd_e, if_true]
    by_cases hS : (W : Int) < ((Y + c : Nat) : Int)
    · have := hS2.1 hS
      subst this
      simp only [↓gaW, ↓gaV, ↓gaC, ↓gaN, gaP, Nat.reduceEqDiff, Nat.reduceLeDiff, Nat.reduceAdd, Nat.reduceSub, Nat.reduceMul, Int.reduceLT, Int.reduceLE, Int.reduceEq, Int.reduceToNat, Int.reduceAdd, Int.reduceSub, Int.reduceMul, reduceCtorEq, ↓reduceIte, h8, h15, hS, decide_true, hgq, hw, Nat.zero_add, Nat.mul_one, u64_i (W : Int) (by omega), hD2, sp]
      repeat refine And.intro (by first | omega | (simp; done) | (simp; omega) | exact all1 rfl) ?_
      simp only [↓gaW, ↓gaV, ↓gaC, ↓gaN, gaP, Nat.reduceEqDiff, Nat.reduceLeDiff, Nat.reduceAdd, Nat.reduceSub, Nat.reduceMul, Int.reduceLT, Int.reduceLE, Int.reduceEq, Int.reduceToNat, Int.reduceAdd, Int.reduceSub, Int.reduceMul, reduceCtorEq, ↓reduceIte, h15, q1, i64_w ((i + 1 : Nat) : Int) (by omega), loopK_n]
      repeat refine And.intro (by first | omega | (simp; done) | (simp; omega) | exact all1 rfl) ?_
      exact ⟨N - (i + 1), by omega, i + 1, 1, _, _, rfl, by omega, by omega, h0, h7, h8, h9, h10, rfl, rfl, rfl, hg', hq', by simp [hu], hz', he'⟩
    · have hS0 : S = 0 := by
        rcases Nat.lt_or_ge S 1 with h | h
        · omega
        · exact absurd (hS2.2 (by omega)) hS
      subst hS0
      simp only [↓gaW, ↓gaV, ↓gaC, ↓gaN, gaP, Nat.reduceEqDiff, Nat.reduceLeDiff, Nat.reduceAdd, Nat.reduceSub, Nat.reduceMul, Int.reduceLT, Int.reduceLE, Int.reduceEq, Int.reduceToNat, Int.reduceAdd, Int.reduceSub, Int.reduceMul, reduceCtorEq, ↓reduceIte, h8, h15, hS, decide_false, hgq, hw, Nat.zero_add, Nat.mul_one, u64_i (W : Int) (by omega), hD2, sp]
      repeat refine And.intro (by first | omega | (simp; done) | (simp; omega) | exact all1 rfl) ?_
      simp only [↓gaW, ↓gaV, ↓gaC, ↓gaN, gaP, Nat.reduceEqDiff, Nat.reduceLeDiff, Nat.reduceAdd, Nat.reduceSub, Nat.reduceMul, Int.reduceLT, Int.reduceLE, Int.reduceEq, Int.reduceToNat, Int.reduceAdd, Int.reduceSub, Int.reduceMul, reduceCtorEq, ↓reduceIte, h15, q1, i64_w ((i + 1 : Nat) : Int) (by omega), loopK_n]
      repeat refine And.intro (by first | omega | (simp; done) | (simp; omega) | exact all1 rfl) ?_
      exact ⟨N - (i + 1), by omega, i + 1, 0, _, _, rfl, by omega, by omega, h0, h7, h8, h9, h10, rfl, rfl, rfl, hg', hq', by simp [hu], hz', he'⟩
  · have hin : i = N := by omega
    subst hin
    rw [List.take_of_length_le (by omega), List.take_of_length_le (by omega), List.take_of_length_le (by omega)] at he
    simp only [↓gaW, ↓gaV, ↓gaC, ↓gaN, gaP, Nat.reduceEqDiff, Nat.reduceLeDiff, Nat.reduceAdd, Nat.reduceSub, Nat.reduceMul, Int.reduceLT, Int.reduceLE, Int.reduceEq, Int.reduceToNat, Int.reduceAdd, Int.reduceSub, Int.reduceMul, reduceCtorEq, ↓reduceIte, h8, h15, hlt, decide_false, loopK_e]
    exact K _ _ u c (by simp only [↓gaW, ↓gaV, ↓gaC, ↓gaN, gaP, Nat.reduceEqDiff, Nat.reduceLeDiff, Nat.reduceAdd, Nat.reduceSub, Nat.reduceMul, Int.reduceLT, Int.reduceLE, Int.reduceEq, Int.reduceToNat, Int.reduceAdd, Int.reduceSub, Int.reduceMul, reduceCtorEq, ↓reduceIte, h0]) (by simp only [↓gaW, ↓gaV, ↓gaC, ↓gaN, gaP, Nat.reduceEqDiff, Nat.reduceLeDiff, Nat.reduceAdd, Nat.reduceSub, Nat.reduceMul, Int.reduceLT, Int.reduceLE, Int.reduceEq, Int.reduceToNat, Int.reduceAdd, Int.reduceSub, Int.reduceMul, reduceCtorEq, ↓reduceIte, h7, f7]) (by simp only [↓gaW, ↓gaV, ↓gaC, ↓gaN, gaP, Nat.reduceEqDiff, Nat.reduceLeDiff, Nat.reduceAdd, Nat.reduceSub, Nat.reduceMul, Int.reduceLT, Int.reduceLE, Int.reduceEq, Int.reduceToNat, Int.reduceAdd, Int.reduceSub, Int.reduceMul, reduceCtorEq, ↓reduceIte, h8, f8]) (by simp only [↓gaW, ↓gaV, ↓gaC, ↓gaN, gaP, Nat.reduceEqDiff, Nat.reduceLeDiff, Nat.reduceAdd, Nat.reduceSub, Nat.reduceMul, Int.reduceLT, Int.reduceLE, Int.reduceEq, Int.reduceToNat, Int.reduceAdd, Int.reduceSub, Int.reduceMul, reduceCtorEq, ↓reduceIte, h9]) (by simp only [↓gaW, ↓gaV, ↓gaC, ↓gaN, gaP, Nat.reduceEqDiff, Nat.reduceLeDiff, Nat.reduceAdd, Nat.reduceSub, Nat.reduceMul, Int.reduceLT, Int.reduceLE, Int.reduceEq, Int.reduceToNat, Int.reduceAdd, Int.reduceSub, Int.reduceMul, reduceCtorEq, ↓reduceIte, h10]) hg hgq hu he

theorem rdC_of {k : Nat} {ql : List UInt32} (hb : b ≤ q) (hq : q < x) (f9 : f 9 = .slice (some ⟨q, 0, none⟩) N N) (f10 : f 10 = .int .i64 (k : Nat)) (gq : g q = some (.cells (ql.map u32V) false)) (hN : ql.length = N) (hNs : N < 1000000000) (hk : k < 32 * N) (h0 : lv ql % 2 ^ (k + 1) = 0)
    (K : ∀ (f' : Regs) (g' : Nat → Option Blk) (u : List UInt32), f' 0 = f 0 → f' 7 = f 7 → f' 8 = f 8 → f' 9 = f 9 → f' 10 = f 10 → (∀ p, p ≠ q → g' p = g p) → g' q = some (.cells (u.map u32V) false) → u.length = N → lv u = lv ql + 2 ^ k → D Try.prog s .normal f' ⟨x, b, g'⟩) :
    RC.vc Try.prog rdC f ⟨x, b, g⟩ (D Try.prog s) := by
  have d1 : (k : Int).tdiv 32 = ((k / 32 : Nat) : Int) := by rw [Int.tdiv_eq_ediv_of_nonneg (by omega)]; omega
  have d2 : (k : Int).tmod 32 = ((k % 32 : Nat) : Int) := by rw [Int.tmod_eq_emod_of_nonneg (by omega)]; omega
  have hr : k % 32 < 32 := Nat.mod_lt _ (by decide)
  have hr2 : 2 ^ (k % 32) < 4294967296 := Nat.pow_lt_pow_right (a := 2) (by decide) hr
  have s2 : shlV .u32 1 ((k % 32 : Nat) : Int) = ((2 ^ (k % 32) : Nat) : Int) := by
    have := shl32w (x := 1) (s := k % 32) (by omega)
    rw [Nat.one_mul, Nat.mod_eq_of_lt hr2] at this
    exact this
  have hw : (ql.map u32V).getD (k / 32) undef = .int .u32 ((ql.getD (k / 32) 0).toNat : Nat) := getD_u32 (by omega)
  have hW32 := lt32 (ql.getD (k / 32) 0)
  have hlw := low_word h0
  have hse := lv_set (w := ql) (i := k / 32) (x := UInt32.ofNat ((ql.getD (k / 32) 0).toNat + 2 ^ (k % 32))) (by omega)
  obtain ⟨W, hW⟩ : ∃ W, (ql.getD (k / 32) 0).toNat = W := ⟨_, rfl⟩
  rw [hW] at hw hW32 hlw hse
  have ho := or_bit hlw
  have hWb : W + 2 ^ (k % 32) < 4294967296 := by rw [← ho]; exact Nat.or_lt_two_pow (n := 32) hW32 hr2
  have s3 : bitsV .or .u32 (W : Int) ((2 ^ (k % 32) : Nat) : Int) = ((W + 2 ^ (k % 32) : Nat) : Int) := by rw [or_u32 hW32 hr2, ho]
  rw [ofNat32, Nat.mod_eq_of_lt hWb] at hse
  obtain ⟨Z, hZ⟩ : ∃ Z, 2 ^ (k % 32) = Z := ⟨_, rfl⟩
  have e1 : (2 : Nat) ^ k = 4294967296 ^ (k / 32) * Z := by
    have e : (4294967296 : Nat) = 2 ^ 32 := by decide
    rw [e, ← hZ, ← Nat.pow_mul, ← Nat.pow_add, Nat.div_add_mod]
  rw [hZ] at s2 s3 hWb hse
  have sp : splice (ql.map u32V) (k / 32) [.int .u32 ((W + Z : Nat) : Int)] = (ql.set (k / 32) (UInt32.ofNat (W + Z))).map u32V := by
    rw [u32V_lt (by omega), splice_set (by omega)]
  simp only [rdC, ↓gaW, ↓gaV, ↓gaC, ↓gaN, gaP, Nat.reduceEqDiff, Nat.reduceLeDiff, Nat.reduceAdd, Nat.reduceSub, Nat.reduceMul, Int.reduceLT, Int.reduceLE, Int.reduceEq, Int.reduceToNat, Int.reduceAdd, Int.reduceSub, Int.reduceMul, reduceCtorEq, ↓reduceIte, f9, f10, d1, d2, i64_w ((k / 32 : Nat) : Int) (by omega), Int.toNat_natCast, gq, Nat.zero_add, Nat.mul_one, hw, s2, s3, sp]
  repeat refine And.intro (by first | omega | (simp; done) | (simp; omega) | exact all1 rfl) ?_
  refine K _ _ (ql.set (k / 32) (UInt32.ofNat (W + Z))) (by simp only [↓gaW, ↓gaV, ↓gaC, ↓gaN, gaP, Nat.reduceEqDiff, Nat.reduceLeDiff, Nat.reduceAdd, Nat.reduceSub, Nat.reduceMul, Int.reduceLT, Int.reduceLE, Int.reduceEq, Int.reduceToNat, Int.reduceAdd, Int.reduceSub, Int.reduceMul, reduceCtorEq, ↓reduceIte]) (by simp only [↓gaW, ↓gaV, ↓gaC, ↓gaN, gaP, Nat.reduceEqDiff, Nat.reduceLeDiff, Nat.reduceAdd, Nat.reduceSub, Nat.reduceMul, Int.reduceLT, Int.reduceLE, Int.reduceEq, Int.reduceToNat, Int.reduceAdd, Int.reduceSub, Int.reduceMul, reduceCtorEq, ↓reduceIte]) (by simp only [↓gaW, ↓gaV, ↓gaC, ↓gaN, gaP, Nat.reduceEqDiff, Nat.reduceLeDiff, Nat.reduceAdd, Nat.reduceSub, Nat.reduceMul, Int.reduceLT, Int.reduceLE, Int.reduceEq, Int.reduceToNat, Int.reduceAdd, Int.reduceSub, Int.reduceMul, reduceCtorEq, ↓reduceIte]) (by simp only [↓gaW, ↓gaV, ↓gaC, ↓gaN, gaP, Nat.reduceEqDiff, Nat.reduceLeDiff, Nat.reduceAdd, Nat.reduceSub, Nat.reduceMul, Int.reduceLT, Int.reduceLE, Int.reduceEq, Int.reduceToNat, Int.reduceAdd, Int.reduceSub, Int.reduceMul, reduceCtorEq, ↓reduceIte, f9]) (by simp only [↓gaW, ↓gaV, ↓gaC, ↓gaN, gaP, Nat.reduceEqDiff, Nat.reduceLeDiff, Nat.reduceAdd, Nat.reduceSub, Nat.reduceMul, Int.reduceLT, Int.reduceLE, Int.reduceEq, Int.reduceToNat, Int.reduceAdd, Int.reduceSub, Int.reduceMul, reduceCtorEq, ↓reduceIte, f10]) (fun p hp => ?_) (by simp only [upd_e, if_true]) (by simp [hN]) ?_
  · simp only [upd_e]; rw [if_neg hp]
  · rw [e1]
    rw [Nat.mul_add] at hse
    omega
end
end Go.Ga

namespace Go.Ga
open Go Go.Proofs
set_option linter.unusedSimpArgs false
set_option linter.unusedVariables false
set_option maxRecDepth 100000
attribute [local irreducible] appendK

theorem div_bit0 {a m z : Nat} (h : 2 * (a / 2 ^ (z + 1) % m) + a / 2 ^ z % 2 < m) : a / 2 ^ z % m = 2 * (a / 2 ^ (z + 1) % m) + a / 2 ^ z % 2 ∧ a / 2 ^ z / m * 2 ^ z = a / 2 ^ (z + 1) / m * 2 ^ (z + 1) := by
  have e : a / 2 ^ z = 2 * (a / 2 ^ (z + 1)) + a / 2 ^ z % 2 := by rw [Nat.pow_succ, ← Nat.div_div_eq_div_mul]; omega
  have dm := Nat.div_add_mod (a / 2 ^ (z + 1)) m
  generalize a / 2 ^ (z + 1) = X at *
  generalize a / 2 ^ z % 2 = c at *
  have e2 : a / 2 ^ z = (2 * (X % m) + c) + m * (2 * (X / m)) := by
    rw [e, ← Nat.mul_assoc, Nat.mul_comm m 2, Nat.mul_assoc]
    omega
  rw [e2, Nat.add_mul_mod_self_left, Nat.mod_eq_of_lt h, Nat.add_mul_div_left _ _ (by omega), Nat.div_eq_of_lt h, Nat.zero_add, Nat.pow_succ]
  refine ⟨rfl, ?_⟩
  ac_rfl
theorem div_bit1 {a m z : Nat} (hm : 0 < m) (h : m ≤ 2 * (a / 2 ^ (z + 1) % m) + a / 2 ^ z % 2) : a / 2 ^ z % m + m = 2 * (a / 2 ^ (z + 1) % m) + a / 2 ^ z % 2 ∧ a / 2 ^ z / m * 2 ^ z = a / 2 ^ (z + 1) / m * 2 ^ (z + 1) + 2 ^ z := by
  have e : a / 2 ^ z = 2 * (a / 2 ^ (z + 1)) + a / 2 ^ z % 2 := by rw [Nat.pow_succ, ← Nat.div_div_eq_div_mul]; omega
  have dm := Nat.div_add_mod (a / 2 ^ (z + 1)) m
  have hc : a / 2 ^ z % 2 < 2 := Nat.mod_lt _ (by decide)
  generalize a / 2 ^ (z + 1) = X at *
  generalize a / 2 ^ z % 2 = c at *
  have hX := Nat.mod_lt X hm
  have e2 : a / 2 ^ z = (2 * (X % m) + c - m) + m * (2 * (X / m) + 1) := by
    rw [e, Nat.mul_add, Nat.mul_one, ← Nat.mul_assoc, Nat.mul_comm m 2, Nat.mul_assoc]
    omega
  rw [e2, Nat.add_mul_mod_self_left, Nat.mod_eq_of_lt (by omega), Nat.add_mul_div_left _ _ (by omega), Nat.div_eq_of_lt (by omega), Nat.zero_add, Nat.pow_succ, Nat.add_mul, Nat.one_mul]
  refine ⟨by omega, ?_⟩
  congr 1
  ac_rfl

section
variable {nx : Nat} {gt : Nat → Option Blk}

theorem ct_rDivMod {A B : Option Addr} {n m c d : Nat} {l k : List UInt32} (hr : Row nx gt 1 A n (l.map u32V)) (hc : n ≤ c) (hn : n < 10000000) (hs : Row nx gt 1 B m (k.map u32V)) (hd : m ≤ d) (hm : m < 10000000) :
    Ct Try.prog 75 [.slice A n c, .slice B m d] nx gt fun v nx' gt' => DivV nx' gt' (lv l) (lv k) v := by
  have hl : l.length = n := by simpa using hr.len
  have hk : k.length = m := by simpa using hs.len
  refine Ct.of hmx r_lanyardref08_DivMod (by simp [c_lanyardref08_DivMod]) fun b hb => ?_
  have lm := lb_len_le.2 (show lv k < 4294967296 ^ m by rw [← hk]; exact lv_lt k)
  have hF : ∀ q, q < nx → gt q = gt q := fun _ _ => rfl
  simp only [c_lanyardref08_DivMod, ↓gaW, ↓gaV, ↓gaC, ↓gaN, gaP, Nat.reduceEqDiff, Nat.reduceLeDiff, Nat.reduceAdd, Nat.reduceSub, Nat.reduceMul, Int.reduceLT, Int.reduceLE, Int.reduceEq, Int.reduceToNat, Int.reduceAdd, Int.reduceSub, Int.reduceMul, reduceCtorEq, ↓reduceIte]
  refine callK_of (ct_rBareG hs hd (by omega)) (fun v n1 g1 l1 k1 hC => ?_) (by omega)
  obtain ⟨A1, N0, rfl, hN0, hg1⟩ := hC
  have hr0 := hr
  have hF : ∀ q, q < nx → g1 q = gt q := fun q hq => k1 q (by omega)
  by_cases h0 : (N0 : Int) = 0
  · have k0 := lb_nil (show (lb (lv k)).length = 0 by omega)
    simp only [↓gaW, ↓gaV, ↓gaC, ↓gaN, gaP, Nat.reduceEqDiff, Nat.reduceLeDiff, Nat.reduceAdd, Nat.reduceSub, Nat.reduceMul, Int.reduceLT, Int.reduceLE, Int.reduceEq, Int.reduceToNat, Int.reduceAdd, Int.reduceSub, Int.reduceMul, reduceCtorEq, ↓reduceIte, gaE, implies_true, Nat.le_refl, Int.sub_zero, Nat.sub_zero, Int.le_refl, true_or, or_true, h0, decide_true]
    repeat refine And.intro (by first | omega | (simp; done) | (simp; omega) | exact all1 rfl) ?_
    first | exact ⟨hF, .inl ⟨k0, rfl⟩⟩ | exact .inl ⟨k0, rfl⟩
  have k0 : lv k ≠ 0 := fun h => h0 (by rw [h, lb_zero] at hN0; simp at hN0; omega)
  have hrow0 : ∀ b, rowOf ⟨n1 + 1, b, upd g1 n1 (some (.cells [.int .u32 0] false))⟩ (some ⟨n1, 0, none⟩) 1 = some (([0] : List UInt32).map u32V) := fun b =>
    (Row.w32 (ro := false) (w := [0]) (by omega) (by simp [upd]; rfl) rfl).rowOf
  simp only [↓gaW, ↓gaV, ↓gaC, ↓gaN, gaP, Nat.reduceEqDiff, Nat.reduceLeDiff, Nat.reduceAdd, Nat.reduceSub, Nat.reduceMul, Int.reduceLT, Int.reduceLE, Int.reduceEq, Int.reduceToNat, Int.reduceAdd, Int.reduceSub, Int.reduceMul, reduceCtorEq, ↓reduceIte, List.getD_cons_zero, List.getD_cons_succ, fillL, splice, List.take_zero, List.drop_zero, List.drop_succ_cons, List.take_succ_cons, List.drop_nil, List.take_nil, h0, decide_false, hrow0]
  repeat refine And.intro (by first | omega | (simp; done) | (simp; omega) | exact all1 rfl) ?_
  refine grow_append (nx := nx) (k := 1) ((hg1.low (nx' := nx) (b' := b) (by omega) (by omega)).keep (Nat.le_succ _) (fun p hp => by simp only [upd_e]; rw [if_neg (by omega)])) (by omega) (by omega) (by omega) (by omega) (by simp) (by simpa using cl_u32 _) (by omega) (by omega) fun g2 hk2 ho2 => ?_
  obtain ⟨kl, hkl⟩ : ∃ kl, lb (lv k) ++ [0] = kl := ⟨_, rfl⟩
  obtain ⟨N, hN⟩ : ∃ N, N0 + 1 = N := ⟨_, rfl⟩
  have hkv : lv kl = lv k := by rw [← hkl, lv_append, lv_lb]; simp [lv]
  have hkn : kl.length = N := by rw [← hkl, ← hN]; simp [hN0]
  have hMN : lv k < 4294967296 ^ N0 := lb_len_le.1 (Nat.le_of_eq hN0)
  have hrn := ho2.row
  rw [show (lb (lv k)).map u32V ++ [u32V 0] = kl.map u32V by rw [← hkl]; simp, Nat.mul_one, hN] at hrn
  have hF : ∀ q, q < nx → g2 q = gt q := fun q hq => by rw [hk2 q hq, upd_e, if_neg (by omega), hF q hq]
  have e32 : (32 : Int) * (n : Int) = ((32 * n : Nat) : Int) := by omega
  rw [hN]
  simp only [↓gaW, ↓gaV, ↓gaC, ↓gaN, gaP, Nat.reduceEqDiff, Nat.reduceLeDiff, Nat.reduceAdd, Nat.reduceSub, Nat.reduceMul, Int.reduceLT, Int.reduceLE, Int.reduceEq, Int.reduceToNat, Int.reduceAdd, Int.reduceSub, Int.reduceMul, reduceCtorEq, ↓reduceIte, zeros32, Int.toNat_natCast, e32, i64_w ((32 * n : Nat) : Int) (by omega), i64_w (((32 * n : Nat) : Int) - 1) (by omega)]
  repeat refine And.intro (by first | omega | (simp; done) | (simp; omega) | exact all1 rfl) ?_
  have hM0 : 0 < lv k := by omega
  have hAn : lv l < 2 ^ (32 * n) := by
    have := lv_lt l
    rwa [hl, show (4294967296 : Nat) = 2 ^ 32 by decide, ← Nat.pow_mul] at this
  refine loop_of (fun j f mm => ∃ (y : Nat) (g : Nat → Option Blk) (u qs : List UInt32), j = y ∧ y ≤ 32 * n ∧ f 0 = .slice A n c ∧ f 7 = .slice (some ⟨n1 + 1, 0, some 1⟩) N N ∧ f 8 = .slice (some ⟨n1 + 1 + 1, 0, none⟩) N N ∧ f 9 = .slice (some ⟨n1 + 1 + 1 + 1, 0, none⟩) n n ∧ f 10 = .int .i64 ((y : Int) - 1) ∧ mm = ⟨n1 + 1 + 1 + 1 + 1, b, g⟩ ∧
      (∀ p, p < n1 + 1 + 1 → g p = g2 p) ∧ g (n1 + 1 + 1) = some (.cells (u.map u32V) false) ∧ g (n1 + 1 + 1 + 1) = some (.cells (qs.map u32V) false) ∧ u.length = N ∧ qs.length = n ∧ lv u = lv l / 2 ^ y % lv k ∧ lv qs = lv l / 2 ^ y / lv k * 2 ^ y) (32 * n)
    ⟨32 * n, _, List.replicate N 0, List.replicate n 0, rfl, Nat.le_refl _, rfl, rfl, rfl, rfl, rfl, rfl, fun p hp => by simp only [upd_e]; rw [if_neg (by omega), if_neg (by omega)], by simp [upd_e], by simp only [upd_e, if_true], by simp, by simp, by rw [lv_replicate, Nat.div_eq_of_lt hAn, Nat.zero_mod], by rw [lv_replicate, Nat.div_eq_of_lt hAn, Nat.zero_div, Nat.zero_mul]⟩ ?_
  rintro j f mm ⟨y, g, u, qs, rfl, hy, f0, f7, f8, f9, f10, rfl, hg, hgu, hgq, hu, hqs, huv, hqv⟩
  have hrN := hrn.keep (nx' := n1 + 1 + 1 + 1 + 1) (gt' := g) (by omega) (fun p hp => hg p hp)
  have hrA := hr0.keep (nx' := n1 + 1 + 1 + 1 + 1) (gt' := g) (by omega) (fun p hp => by rw [hg p (by omega), hF p hp])
  rcases Nat.eq_zero_or_pos j with rfl | hj
  · rw [Nat.pow_zero, Nat.div_one] at huv
    rw [Nat.pow_zero, Nat.div_one, Nat.mul_one] at hqv
    simp only [↓gaW, ↓gaV, ↓gaC, ↓gaN, gaP, Nat.reduceEqDiff, Nat.reduceLeDiff, Nat.reduceAdd, Nat.reduceSub, Nat.reduceMul, Int.reduceLT, Int.reduceLE, Int.reduceEq, Int.reduceToNat, Int.reduceAdd, Int.reduceSub, Int.reduceMul, reduceCtorEq, ↓reduceIte, gaE, implies_true, Nat.le_refl, Int.sub_zero, Nat.sub_zero, Int.le_refl, true_or, or_true, f7, f8, f9, f10, show ((0 : Nat) : Int) - 1 = -1 from rfl, show ¬ (0 : Int) ≤ -1 by omega, decide_false, loopK_e]
    refine callK_of (ct_rBare (Row.w32 (by omega) hgq hqs) (Nat.le_refl _) (by omega)) (fun v n3 g3 l3 k3 hC => ?_) (by omega)
    rw [hqv] at hC
    simp only [↓gaW, ↓gaV, ↓gaC, ↓gaN, gaP, Nat.reduceEqDiff, Nat.reduceLeDiff, Nat.reduceAdd, Nat.reduceSub, Nat.reduceMul, Int.reduceLT, Int.reduceLE, Int.reduceEq, Int.reduceToNat, Int.reduceAdd, Int.reduceSub, Int.reduceMul, reduceCtorEq, ↓reduceIte, gaE, implies_true, Nat.le_refl, Int.sub_zero, Nat.sub_zero, Int.le_refl, true_or, or_true, f8]
    refine callK_of (ct_rBare (Row.w32 (by omega) ((k3 _ (by omega)).trans hgu) hu) (Nat.le_refl _) (by omega)) (fun v' n4 g4 l4 k4 hC' => ?_) (by omega)
    rw [huv] at hC'
    simp only [↓gaW, ↓gaV, ↓gaC, ↓gaN, gaP, Nat.reduceEqDiff, Nat.reduceLeDiff, Nat.reduceAdd, Nat.reduceSub, Nat.reduceMul, Int.reduceLT, Int.reduceLE, Int.reduceEq, Int.reduceToNat, Int.reduceAdd, Int.reduceSub, Int.reduceMul, reduceCtorEq, ↓reduceIte, gaE, implies_true, Nat.le_refl, Int.sub_zero, Nat.sub_zero, Int.le_refl, true_or, or_true]
    repeat refine And.intro (by first | omega | (simp; done) | (simp; omega) | exact all1 rfl) ?_
    exact ⟨fun p hp => by rw [k4 p (by omega), k3 p (by omega), hg p (by omega), hF p hp], .inr ⟨k0, _, _, rfl, hC.keep l4 k4, hC'⟩⟩
  obtain ⟨z, rfl⟩ : ∃ z, j = z + 1 := ⟨j - 1, by omega⟩
  rw [show ((z + 1 : Nat) : Int) - 1 = (z : Int) by omega] at f10
  simp only [↓gaW, ↓gaV, ↓gaC, ↓gaN, gaP, Nat.reduceEqDiff, Nat.reduceLeDiff, Nat.reduceAdd, Nat.reduceSub, Nat.reduceMul, Int.reduceLT, Int.reduceLE, Int.reduceEq, Int.reduceToNat, Int.reduceAdd, Int.reduceSub, Int.reduceMul, reduceCtorEq, ↓reduceIte, f0, f10, show (0 : Int) ≤ (z : Int) by omega, decide_true]
  refine callK_of (ct_rbit hrA (by omega) (by omega)) (fun v n3 g3 l3 k3 hC => ?_) (by omega)
  obtain ⟨rfl, rfl, rfl⟩ := hC
  refine (show goOps Try.prog _ _ _ (D Try.prog (.thn (.seq rdA (.seq _ (.seq _ (.seq rdB rdC)))) _)) from ?_)
  simp only [↓gaW, ↓gaV, ↓gaC, ↓gaN, gaP, Nat.reduceEqDiff, Nat.reduceLeDiff, Nat.reduceAdd, Nat.reduceSub, Nat.reduceMul, Int.reduceLT, Int.reduceLE, Int.reduceEq, Int.reduceToNat, Int.reduceAdd, Int.reduceSub, Int.reduceMul, reduceCtorEq, ↓reduceIte]
  have hc2 : lv l / 2 ^ z % 2 < 2 := Nat.mod_lt _ (by decide)
  refine rdA_of (N := N) (rl := u) (c0 := lv l / 2 ^ z % 2) (b := b) (q := n1 + 1 + 1) (by omega) (by omega) (by simp only [↓gaW, ↓gaV, ↓gaC, ↓gaN, gaP, Nat.reduceEqDiff, Nat.reduceLeDiff, Nat.reduceAdd, Nat.reduceSub, Nat.reduceMul, Int.reduceLT, Int.reduceLE, Int.reduceEq, Int.reduceToNat, Int.reduceAdd, Int.reduceSub, Int.reduceMul, reduceCtorEq, ↓reduceIte, f8]) (by simp only [↓gaW, ↓gaV, ↓gaC, ↓gaN, gaP, Nat.reduceEqDiff, Nat.reduceLeDiff, Nat.reduceAdd, Nat.reduceSub, Nat.reduceMul, Int.reduceLT, Int.reduceLE, Int.reduceEq, Int.reduceToNat, Int.reduceAdd, Int.reduceSub, Int.reduceMul, reduceCtorEq, ↓reduceIte]) hc2 hgu hu (by omega) ?_
  intro f' g' u' cc e0 e7 e8 e9 e10 ko hgu' hu' hv'
  simp only [↓gaW, ↓gaV, ↓gaC, ↓gaN, gaP, Nat.reduceEqDiff, Nat.reduceLeDiff, Nat.reduceAdd, Nat.reduceSub, Nat.reduceMul, Int.reduceLT, Int.reduceLE, Int.reduceEq, Int.reduceToNat, Int.reduceAdd, Int.reduceSub, Int.reduceMul, reduceCtorEq, ↓reduceIte] at e0 e7 e8 e9 e10
  rw [f0] at e0
  rw [f7] at e7
  rw [f8] at e8
  rw [f9] at e9
  rw [f10] at e10
  have hcc : cc = 0 := by
    rcases Nat.eq_zero_or_pos cc with h | h
    · exact h
    · exfalso
      have h1 := Nat.mod_lt (lv l / 2 ^ (z + 1)) hM0
      have h2 := Nat.le_mul_of_pos_right (4294967296 ^ N) h
      have h3 : 4294967296 ^ N = 4294967296 * 4294967296 ^ N0 := by rw [← hN, Nat.pow_succ']
      omega
  rw [hcc, Nat.mul_zero, Nat.add_zero, huv] at hv'
  have hgq' := (ko (n1 + 1 + 1 + 1) (by omega)).trans hgq
  have hrN' := hrN.keepA (nx' := n1 + 1 + 1 + 1 + 1) (gt' := g') (Nat.le_refl _) (fun _ a ha => by injection ha with ha; subst ha; exact ko _ (by simp))
  simp only [↓gaW, ↓gaV, ↓gaC, ↓gaN, gaP, Nat.reduceEqDiff, Nat.reduceLeDiff, Nat.reduceAdd, Nat.reduceSub, Nat.reduceMul, Int.reduceLT, Int.reduceLE, Int.reduceEq, Int.reduceToNat, Int.reduceAdd, Int.reduceSub, Int.reduceMul, reduceCtorEq, ↓reduceIte, e7, e8]
  refine callK_of (ct_rless (Row.w32 (by omega) hgu' hu') (by omega) hrN') (fun v n3 g3 l3 k3 hC => ?_) (by omega)
  obtain ⟨rfl, rfl, rfl⟩ := hC
  rw [hkv, hv']
  by_cases hlt : 2 * (lv l / 2 ^ (z + 1) % lv k) + lv l / 2 ^ z % 2 < lv k
  · obtain ⟨h1, h2⟩ := div_bit0 hlt
    simp only [↓gaW, ↓gaV, ↓gaC, ↓gaN, gaP, Nat.reduceEqDiff, Nat.reduceLeDiff, Nat.reduceAdd, Nat.reduceSub, Nat.reduceMul, Int.reduceLT, Int.reduceLE, Int.reduceEq, Int.reduceToNat, Int.reduceAdd, Int.reduceSub, Int.reduceMul, reduceCtorEq, ↓reduceIte, hlt, decide_true, e10, i64_w ((z : Int) - 1) (by omega), loopK_n]
    refine ⟨z, by omega, z, _, u', qs, rfl, by omega, e0, e7, e8, e9, rfl, rfl, fun p hp => ?_, hgu', hgq', hu', hqs, by rw [hv', h1], by rw [hqv, h2]⟩
    rw [ko p (by omega), hg p hp]
  · obtain ⟨h1, h2⟩ := div_bit1 hM0 (Nat.le_of_not_lt hlt)
    simp only [↓gaW, ↓gaV, ↓gaC, ↓gaN, gaP, Nat.reduceEqDiff, Nat.reduceLeDiff, Nat.reduceAdd, Nat.reduceSub, Nat.reduceMul, Int.reduceLT, Int.reduceLE, Int.reduceEq, Int.reduceToNat, Int.reduceAdd, Int.reduceSub, Int.reduceMul, reduceCtorEq, ↓reduceIte, hlt, decide_false]
    refine rdB_of (N := N) (d := N) (rl := u') (kl := kl) (q := n1 + 1 + 1) (by omega) (by omega) (by simp only [↓gaW, ↓gaV, ↓gaC, ↓gaN, gaP, Nat.reduceEqDiff, Nat.reduceLeDiff, Nat.reduceAdd, Nat.reduceSub, Nat.reduceMul, Int.reduceLT, Int.reduceLE, Int.reduceEq, Int.reduceToNat, Int.reduceAdd, Int.reduceSub, Int.reduceMul, reduceCtorEq, ↓reduceIte, e7]) (by simp only [↓gaW, ↓gaV, ↓gaC, ↓gaN, gaP, Nat.reduceEqDiff, Nat.reduceLeDiff, Nat.reduceAdd, Nat.reduceSub, Nat.reduceMul, Int.reduceLT, Int.reduceLE, Int.reduceEq, Int.reduceToNat, Int.reduceAdd, Int.reduceSub, Int.reduceMul, reduceCtorEq, ↓reduceIte, e8]) (by simp only [↓gaW, ↓gaV, ↓gaC, ↓gaN, gaP, Nat.reduceEqDiff, Nat.reduceLeDiff, Nat.reduceAdd, Nat.reduceSub, Nat.reduceMul, Int.reduceLT, Int.reduceLE, Int.reduceEq, Int.reduceToNat, Int.reduceAdd, Int.reduceSub, Int.reduceMul, reduceCtorEq, ↓reduceIte]) hrN' (fun a ha => by injection ha with ha; subst ha; simp) hgu' hu' (by omega) ?_
    intro f3 g3 u3 c3 i0 i7 i8 i9 i10 ko3 hgu3 hu3 hv3
    simp only [↓gaW, ↓gaV, ↓gaC, ↓gaN, gaP, Nat.reduceEqDiff, Nat.reduceLeDiff, Nat.reduceAdd, Nat.reduceSub, Nat.reduceMul, Int.reduceLT, Int.reduceLE, Int.reduceEq, Int.reduceToNat, Int.reduceAdd, Int.reduceSub, Int.reduceMul, reduceCtorEq, ↓reduceIte] at i0 i7 i8 i9 i10
    rw [e0] at i0
    rw [e7] at i7
    rw [e8] at i8
    rw [e9] at i9
    rw [e10] at i10
    rw [hkv, hv'] at hv3
    have hc3 : c3 = 0 := by
      rcases Nat.eq_zero_or_pos c3 with h | h
      · exact h
      · exfalso
        have h1 := lv_lt' (Nat.le_of_eq hu3)
        have h2 := Nat.le_mul_of_pos_right (4294967296 ^ N) h
        omega
    rw [hc3, Nat.mul_zero, Nat.add_zero] at hv3
    have hgq3 := (ko3 (n1 + 1 + 1 + 1) (by omega)).trans hgq'
    simp only [↓gaW, ↓gaV, ↓gaC, ↓gaN, gaP, Nat.reduceEqDiff, Nat.reduceLeDiff, Nat.reduceAdd, Nat.reduceSub, Nat.reduceMul, Int.reduceLT, Int.reduceLE, Int.reduceEq, Int.reduceToNat, Int.reduceAdd, Int.reduceSub, Int.reduceMul, reduceCtorEq, ↓reduceIte]
    refine rdC_of (N := n) (k := z) (ql := qs) (q := n1 + 1 + 1 + 1) (by omega) (by omega) i9 i10 hgq3 hqs (by omega) (by omega) (by rw [hqv, Nat.mul_mod_left]) ?_
    intro f4 g4 u4 j0 j7 j8 j9 j10 ko4 hgq4 hq4 hv4
    rw [i0] at j0
    rw [i7] at j7
    rw [i8] at j8
    rw [i9] at j9
    rw [i10] at j10
    simp only [↓gaW, ↓gaV, ↓gaC, ↓gaN, gaP, Nat.reduceEqDiff, Nat.reduceLeDiff, Nat.reduceAdd, Nat.reduceSub, Nat.reduceMul, Int.reduceLT, Int.reduceLE, Int.reduceEq, Int.reduceToNat, Int.reduceAdd, Int.reduceSub, Int.reduceMul, reduceCtorEq, ↓reduceIte, j10, i64_w ((z : Int) - 1) (by omega), loopK_n]
    refine ⟨z, by omega, z, _, u3, u4, rfl, by omega, j0, j7, j8, j9, rfl, rfl, fun p hp => ?_, (ko4 _ (by omega)).trans hgu3, hgq4, hu3, hq4, by omega, by rw [hv4, hqv, h2]⟩
    rw [ko4 p (by omega), ko3 p (by omega), ko p (by omega), hg p hp]
end
end Go.Ga

namespace Go.Ga
open Go Go.Proofs
set_option linter.unusedSimpArgs false
set_option linter.unusedVariables false
set_option maxRecDepth 100000
attribute [local irreducible] appendK

section
variable {nx : Nat} {gt : Nat → Option Blk}

theorem ct_rmMul {A B E : Option Addr} {n m h c d e : Nat} {l k t : List UInt32} (hr : Row nx gt 1 A n (l.map u32V)) (hn : n < 4000000) (hs : Row nx gt 1 B m (k.map u32V)) (hm : m < 4000000) (ht : Row nx gt 1 E h (t.map u32V)) (he : h ≤ e) (hh : h < 4000000) :
    Ct Try.prog 77 [.slice A n c, .slice B m d, .slice E h e] nx gt fun v nx' gt' => ModV nx' gt' (lv l * lv k) (lv t) v := by
  have hl : l.length = n := by simpa using hr.len
  have hk : k.length = m := by simpa using hs.len
  refine Ct.of hmx r_lanyardref08_Mul (by simp [c_lanyardref08_Mul]) fun b hb => ?_
  have hF : ∀ q, q < nx → gt q = gt q := fun _ _ => rfl
  simp only [c_lanyardref08_Mul, ↓gaW, ↓gaV, ↓gaC, ↓gaN, gaP, Nat.reduceEqDiff, Nat.reduceLeDiff, Nat.reduceAdd, Nat.reduceSub, Nat.reduceMul, Int.reduceLT, Int.reduceLE, Int.reduceEq, Int.reduceToNat, Int.reduceAdd, Int.reduceSub, Int.reduceMul, reduceCtorEq, ↓reduceIte]
  refine callK_of (ct_rMul hr (by omega) hs (by omega)) (fun v n1 g1 l1 k1 hC => ?_) (by omega)
  obtain ⟨A1, a1, c1, rfl, hc1, hl1, r1⟩ := hC
  have ht := ht.keep l1 k1
  have hF : ∀ q, q < nx → g1 q = gt q := fun q hq => (k1 q (by omega)).trans (hF q hq)
  simp only [↓gaW, ↓gaV, ↓gaC, ↓gaN, gaP, Nat.reduceEqDiff, Nat.reduceLeDiff, Nat.reduceAdd, Nat.reduceSub, Nat.reduceMul, Int.reduceLT, Int.reduceLE, Int.reduceEq, Int.reduceToNat, Int.reduceAdd, Int.reduceSub, Int.reduceMul, reduceCtorEq, ↓reduceIte]
  have hlen : (lb (lv l * lv k)).length ≤ n + m := lb_len_le.2 (lt_mul (lv_lt' (by omega)) (lv_lt' (by omega)))
  refine callK_of (ct_rDivMod r1 hc1 (by omega) ht he (by omega)) (fun v n2 g2 l2 k2 hC => ?_) (by omega)
  rw [lv_lb] at hC
  rcases hC with ⟨h0, rfl⟩ | ⟨h0, v1, v2, rfl, hq, hw⟩
  · simp only [↓gaW, ↓gaV, ↓gaC, ↓gaN, gaP, Nat.reduceEqDiff, Nat.reduceLeDiff, Nat.reduceAdd, Nat.reduceSub, Nat.reduceMul, Int.reduceLT, Int.reduceLE, Int.reduceEq, Int.reduceToNat, Int.reduceAdd, Int.reduceSub, Int.reduceMul, reduceCtorEq, ↓reduceIte, gaE, implies_true, Nat.le_refl, Int.sub_zero, Nat.sub_zero, Int.le_refl, true_or, or_true]
    repeat refine And.intro (by first | omega | (simp; done) | (simp; omega) | exact all1 rfl) ?_
    exact ⟨fun q hq => (k2 q (by omega)).trans (hF q hq), .inl ⟨h0, rfl⟩⟩
  · simp only [↓gaW, ↓gaV, ↓gaC, ↓gaN, gaP, Nat.reduceEqDiff, Nat.reduceLeDiff, Nat.reduceAdd, Nat.reduceSub, Nat.reduceMul, Int.reduceLT, Int.reduceLE, Int.reduceEq, Int.reduceToNat, Int.reduceAdd, Int.reduceSub, Int.reduceMul, reduceCtorEq, ↓reduceIte, gaE, implies_true, Nat.le_refl, Int.sub_zero, Nat.sub_zero, Int.le_refl, true_or, or_true]
    repeat refine And.intro (by first | omega | (simp; done) | (simp; omega) | exact all1 rfl) ?_
    exact ⟨fun q hq => (k2 q (by omega)).trans (hF q hq), .inr ⟨h0, _, rfl, hw⟩⟩

theorem ct_rExp {A B E : Option Addr} {n m h c d e : Nat} {l k t : List UInt32} (hr : Row nx gt 1 A n (l.map u32V)) (hc : n ≤ c) (hn : n < 4000000) (hs : Row nx gt 1 B m (k.map u32V)) (hd : m ≤ d) (hm : m < 4000000) (ht : Row nx gt 1 E h (t.map u32V)) (he : h ≤ e) (hh : h < 4000000) :
    Ct Try.prog 49 [.slice A n c, .slice B m d, .slice E h e] nx gt fun v nx' gt' => ModV nx' gt' (lv l ^ lv k) (lv t) v := by
  have hl : l.length = n := by simpa using hr.len
  have hk : k.length = m := by simpa using hs.len
  have htl : t.length = h := by simpa using ht.len
  refine Ct.of hmx r_lanyardref08_Exp (by simp [c_lanyardref08_Exp]) fun b hb => ?_
  have hF : ∀ q, q < nx → gt q = gt q := fun _ _ => rfl
  have ebl : bl (lv k) ≤ 32 * m := by
    refine bl_le.2 ?_
    have := lv_lt' (Nat.le_of_eq hk)
    rwa [show (4294967296 : Nat) = 2 ^ 32 by decide, ← Nat.pow_mul] at this
  simp only [c_lanyardref08_Exp, ↓gaW, ↓gaV, ↓gaC, ↓gaN, gaP, Nat.reduceEqDiff, Nat.reduceLeDiff, Nat.reduceAdd, Nat.reduceSub, Nat.reduceMul, Int.reduceLT, Int.reduceLE, Int.reduceEq, Int.reduceToNat, Int.reduceAdd, Int.reduceSub, Int.reduceMul, reduceCtorEq, ↓reduceIte, List.getD_cons_zero, List.getD_cons_succ, fillL, splice, List.take_zero, List.drop_zero, List.drop_succ_cons, List.take_succ_cons, List.drop_nil, List.take_nil]
  have r0 : Row (nx + 1) (upd gt nx (some (.cells [.int .u32 1] false))) 1 (some ⟨nx, 0, none⟩) 1 (([1] : List UInt32).map u32V) := Row.w32 (ro := false) (by omega) (by simp [upd]; rfl) rfl
  have kx : ∀ q, q < nx → upd gt nx (some (.cells [.int .u32 1] false)) q = gt q := fun q hq => by simp only [upd_e]; rw [if_neg (by omega)]
  have hr := hr.keep (nx' := nx + 1) (by omega) kx
  have hs := hs.keep (nx' := nx + 1) (by omega) kx
  have ht := ht.keep (nx' := nx + 1) (by omega) kx
  refine callK_of (ct_rDivMod r0 (by omega) (by omega) ht he (by omega)) (fun v n1 g1 l1 k1 hC => ?_) (by omega)
  rw [show lv [1] = 1 by decide] at hC
  have hF : ∀ q, q < nx → g1 q = gt q := fun q hq => (k1 q (by omega)).trans (kx q hq)
  have hr := hr.keep l1 k1
  have hs := hs.keep l1 k1
  have ht := ht.keep l1 k1
  rcases hC with ⟨h0, rfl⟩ | ⟨h0, v1, v2, rfl, hq, hw⟩
  · simp only [↓gaW, ↓gaV, ↓gaC, ↓gaN, gaP, Nat.reduceEqDiff, Nat.reduceLeDiff, Nat.reduceAdd, Nat.reduceSub, Nat.reduceMul, Int.reduceLT, Int.reduceLE, Int.reduceEq, Int.reduceToNat, Int.reduceAdd, Int.reduceSub, Int.reduceMul, reduceCtorEq, ↓reduceIte, gaE, implies_true, Nat.le_refl, Int.sub_zero, Nat.sub_zero, Int.le_refl, true_or, or_true]
    repeat refine And.intro (by first | omega | (simp; done) | (simp; omega) | exact all1 rfl) ?_
    first | exact ⟨hF, .inl ⟨h0, rfl⟩⟩ | exact .inl ⟨h0, rfl⟩
  simp only [↓gaW, ↓gaV, ↓gaC, ↓gaN, gaP, Nat.reduceEqDiff, Nat.reduceLeDiff, Nat.reduceAdd, Nat.reduceSub, Nat.reduceMul, Int.reduceLT, Int.reduceLE, Int.reduceEq, Int.reduceToNat, Int.reduceAdd, Int.reduceSub, Int.reduceMul, reduceCtorEq, ↓reduceIte, Bool.not_true]
  repeat refine And.intro (by first | omega | (simp; done) | (simp; omega) | exact all1 rfl) ?_
  refine callK_of (ct_rDivMod hr hc (by omega) ht he (by omega)) (fun v n3 g3 l3 k3 hC => ?_) (by omega)
  have hs := hs.keep l3 k3
  have ht := ht.keep l3 k3
  have hw := hw.keep l3 k3
  have hF : ∀ q, q < nx → g3 q = gt q := fun q hq => (k3 q (by omega)).trans (hF q hq)
  rcases hC with ⟨h0', rfl⟩ | ⟨_, v3, v4, rfl, hq3, hw3⟩
  · exact absurd h0' h0
  simp only [↓gaW, ↓gaV, ↓gaC, ↓gaN, gaP, Nat.reduceEqDiff, Nat.reduceLeDiff, Nat.reduceAdd, Nat.reduceSub, Nat.reduceMul, Int.reduceLT, Int.reduceLE, Int.reduceEq, Int.reduceToNat, Int.reduceAdd, Int.reduceSub, Int.reduceMul, reduceCtorEq, ↓reduceIte]
  repeat refine And.intro (by first | omega | (simp; done) | (simp; omega) | exact all1 rfl) ?_
  refine callK_of (ct_rLen hs hd (by omega)) (fun v n4 g4 l4 k4 hC => ?_) (by omega)
  subst hC
  have hs := hs.keep l4 k4
  have ht := ht.keep l4 k4
  have hw := hw.keep l4 k4
  have hw3 := hw3.keep l4 k4
  have hF : ∀ q, q < nx → g4 q = gt q := fun q hq => (k4 q (by omega)).trans (hF q hq)
  simp only [↓gaW, ↓gaV, ↓gaC, ↓gaN, gaP, Nat.reduceEqDiff, Nat.reduceLeDiff, Nat.reduceAdd, Nat.reduceSub, Nat.reduceMul, Int.reduceLT, Int.reduceLE, Int.reduceEq, Int.reduceToNat, Int.reduceAdd, Int.reduceSub, Int.reduceMul, reduceCtorEq, ↓reduceIte, i64_w ((bl (lv k) : Int) - 1) (by omega)]
  refine loop_of (fun j f mm => ∃ (y x : Nat) (g : Nat → Option Blk), j = y ∧ y ≤ bl (lv k) ∧ W32 x g (f 12) (lb (lv l % lv t)) ∧ f 1 = .slice B m d ∧ f 2 = .slice E h e ∧ W32 x g (f 9) (lb (lv l ^ (lv k / 2 ^ y) % lv t)) ∧ f 14 = .int .i64 ((y : Int) - 1) ∧ mm = ⟨x, b, g⟩ ∧ nx ≤ x ∧
      (∀ p, p < nx → g p = gt p) ∧ Row x g 1 B m (k.map u32V) ∧ Row x g 1 E h (t.map u32V)) (bl (lv k))
    ⟨_, n4, g4, rfl, Nat.le_refl _, by simp only [↓gaW, ↓gaV, ↓gaC, ↓gaN, gaP, Nat.reduceEqDiff, Nat.reduceLeDiff, Nat.reduceAdd, Nat.reduceSub, Nat.reduceMul, Int.reduceLT, Int.reduceLE, Int.reduceEq, Int.reduceToNat, Int.reduceAdd, Int.reduceSub, Int.reduceMul, reduceCtorEq, ↓reduceIte]; exact hw3, by simp only [↓gaW, ↓gaV, ↓gaC, ↓gaN, gaP, Nat.reduceEqDiff, Nat.reduceLeDiff, Nat.reduceAdd, Nat.reduceSub, Nat.reduceMul, Int.reduceLT, Int.reduceLE, Int.reduceEq, Int.reduceToNat, Int.reduceAdd, Int.reduceSub, Int.reduceMul, reduceCtorEq, ↓reduceIte], by simp only [↓gaW, ↓gaV, ↓gaC, ↓gaN, gaP, Nat.reduceEqDiff, Nat.reduceLeDiff, Nat.reduceAdd, Nat.reduceSub, Nat.reduceMul, Int.reduceLT, Int.reduceLE, Int.reduceEq, Int.reduceToNat, Int.reduceAdd, Int.reduceSub, Int.reduceMul, reduceCtorEq, ↓reduceIte], by simp only [↓gaW, ↓gaV, ↓gaC, ↓gaN, gaP, Nat.reduceEqDiff, Nat.reduceLeDiff, Nat.reduceAdd, Nat.reduceSub, Nat.reduceMul, Int.reduceLT, Int.reduceLE, Int.reduceEq, Int.reduceToNat, Int.reduceAdd, Int.reduceSub, Int.reduceMul, reduceCtorEq, ↓reduceIte]; rw [Nat.div_eq_of_lt (bl_lt _), Nat.pow_zero]; exact hw, by simp only [↓gaW, ↓gaV, ↓gaC, ↓gaN, gaP, Nat.reduceEqDiff, Nat.reduceLeDiff, Nat.reduceAdd, Nat.reduceSub, Nat.reduceMul, Int.reduceLT, Int.reduceLE, Int.reduceEq, Int.reduceToNat, Int.reduceAdd, Int.reduceSub, Int.reduceMul, reduceCtorEq, ↓reduceIte], rfl, by omega, hF, hs, ht⟩ ?_
  rintro j f mm ⟨y, x, g, rfl, hy, w0, h1, h2, w9, h11, rfl, hx, hF, hs, ht⟩
  rcases Nat.eq_zero_or_pos j with rfl | hj
  · simp only [↓gaW, ↓gaV, ↓gaC, ↓gaN, gaP, Nat.reduceEqDiff, Nat.reduceLeDiff, Nat.reduceAdd, Nat.reduceSub, Nat.reduceMul, Int.reduceLT, Int.reduceLE, Int.reduceEq, Int.reduceToNat, Int.reduceAdd, Int.reduceSub, Int.reduceMul, reduceCtorEq, ↓reduceIte, gaE, implies_true, Nat.le_refl, Int.sub_zero, Nat.sub_zero, Int.le_refl, true_or, or_true, h11, show ((0 : Nat) : Int) - 1 = -1 from rfl, show ¬ (0 : Int) ≤ -1 by omega, decide_false, loopK_e]
    rw [Nat.pow_zero, Nat.div_one] at w9
    repeat refine And.intro (by first | omega | (simp; done) | (simp; omega) | exact all1 rfl) ?_
    first | exact ⟨hF, .inr ⟨h0, _, rfl, w9⟩⟩ | exact .inr ⟨h0, _, rfl, w9⟩
  · obtain ⟨z, rfl⟩ : ∃ z, j = z + 1 := ⟨j - 1, by omega⟩
    rw [show ((z + 1 : Nat) : Int) - 1 = (z : Int) by omega] at h11
    obtain ⟨a0, s0, c0, e0, hc0, hl0, r0⟩ := w0
    obtain ⟨a9, s9, c9, e9, hc9, hl9, r9⟩ := w9
    have z0 := mod_len (x := lv l) h0 (Nat.le_of_eq htl)
    have z9 := mod_len (x := lv l ^ (lv k / 2 ^ (z + 1))) h0 (Nat.le_of_eq htl)
    simp only [↓gaW, ↓gaV, ↓gaC, ↓gaN, gaP, Nat.reduceEqDiff, Nat.reduceLeDiff, Nat.reduceAdd, Nat.reduceSub, Nat.reduceMul, Int.reduceLT, Int.reduceLE, Int.reduceEq, Int.reduceToNat, Int.reduceAdd, Int.reduceSub, Int.reduceMul, reduceCtorEq, ↓reduceIte, h1, h2, h11, e9, show (0 : Int) ≤ (z : Int) by omega, decide_true]
    refine callK_of (ct_rmMul r9 (by omega) r9 (by omega) ht he hh) (fun v n5 g5 l5 k5 hC => ?_) (by omega)
    rcases hC with ⟨h0', rfl⟩ | ⟨_, v5, rfl, hw5⟩
    · exact absurd h0' h0
    have hs := hs.keep l5 k5
    have ht := ht.keep l5 k5
    have r0 := r0.keep l5 k5
    have hF : ∀ q, q < nx → g5 q = gt q := fun q hq => (k5 q (by omega)).trans (hF q hq)
    rw [lv_lb] at hw5
    have hs2 := hs
    simp only [↓gaW, ↓gaV, ↓gaC, ↓gaN, gaP, Nat.reduceEqDiff, Nat.reduceLeDiff, Nat.reduceAdd, Nat.reduceSub, Nat.reduceMul, Int.reduceLT, Int.reduceLE, Int.reduceEq, Int.reduceToNat, Int.reduceAdd, Int.reduceSub, Int.reduceMul, reduceCtorEq, ↓reduceIte, h1, h11]
    repeat refine And.intro (by first | omega | (simp; done) | (simp; omega) | exact all1 rfl) ?_
    refine callK_of (ct_rbit hs (by omega) (by omega)) (fun v n7 g7 l7 k7 hC => ?_) (by omega)
    obtain ⟨rfl, rfl, rfl⟩ := hC
    simp only [↓gaW, ↓gaV, ↓gaC, ↓gaN, gaP, Nat.reduceEqDiff, Nat.reduceLeDiff, Nat.reduceAdd, Nat.reduceSub, Nat.reduceMul, Int.reduceLT, Int.reduceLE, Int.reduceEq, Int.reduceToNat, Int.reduceAdd, Int.reduceSub, Int.reduceMul, reduceCtorEq, ↓reduceIte]
    have hpb := pow_bit (lv l) (lv k) (lv t) z
    obtain ⟨a5, s5, c5, rfl, hc5, hl5, r5⟩ := hw5
    have z5 := mod_len (x := lv l ^ (lv k / 2 ^ (z + 1)) % lv t * (lv l ^ (lv k / 2 ^ (z + 1)) % lv t)) h0 (Nat.le_of_eq htl)
    by_cases hbt : lv k / 2 ^ z % 2 = 1
    · rw [if_pos hbt] at hpb
      simp only [↓gaW, ↓gaV, ↓gaC, ↓gaN, gaP, Nat.reduceEqDiff, Nat.reduceLeDiff, Nat.reduceAdd, Nat.reduceSub, Nat.reduceMul, Int.reduceLT, Int.reduceLE, Int.reduceEq, Int.reduceToNat, Int.reduceAdd, Int.reduceSub, Int.reduceMul, reduceCtorEq, ↓reduceIte, hbt, decide_true, e0, h2]
      repeat refine And.intro (by first | omega | (simp; done) | (simp; omega) | exact all1 rfl) ?_
      refine callK_of (ct_rmMul r5 (by omega) r0 (by omega) ht he hh) (fun v n6 g6 l6 k6 hC => ?_) (by omega)
      rcases hC with ⟨h0', rfl⟩ | ⟨_, v6, rfl, hw6⟩
      · exact absurd h0' h0
      have hs := hs.keep l6 k6
      have ht := ht.keep l6 k6
      have r0 := r0.keep l6 k6
      have hF : ∀ q, q < nx → g6 q = gt q := fun q hq => (k6 q (by omega)).trans (hF q hq)
      rw [lv_lb, lv_lb, ← hpb] at hw6
      simp only [↓gaW, ↓gaV, ↓gaC, ↓gaN, gaP, Nat.reduceEqDiff, Nat.reduceLeDiff, Nat.reduceAdd, Nat.reduceSub, Nat.reduceMul, Int.reduceLT, Int.reduceLE, Int.reduceEq, Int.reduceToNat, Int.reduceAdd, Int.reduceSub, Int.reduceMul, reduceCtorEq, ↓reduceIte, h11, i64_w ((z : Int) - 1) (by omega), loopK_n]
      repeat refine And.intro (by first | omega | (simp; done) | (simp; omega) | exact all1 rfl) ?_
      exact ⟨z, by omega, z, n6, g6, rfl, by omega, e0 ▸ ⟨a0, s0, c0, rfl, hc0, hl0, r0⟩, h1, h2, hw6, rfl, rfl, by omega, hF, hs, ht⟩
    · rw [if_neg hbt] at hpb
      have hbi : ¬ ((lv k / 2 ^ z % 2 : Nat) : Int) = 1 := by omega
      simp only [↓gaW, ↓gaV, ↓gaC, ↓gaN, gaP, Nat.reduceEqDiff, Nat.reduceLeDiff, Nat.reduceAdd, Nat.reduceSub, Nat.reduceMul, Int.reduceLT, Int.reduceLE, Int.reduceEq, Int.reduceToNat, Int.reduceAdd, Int.reduceSub, Int.reduceMul, reduceCtorEq, ↓reduceIte, hbi, decide_false, h11, i64_w ((z : Int) - 1) (by omega), loopK_n]
      repeat refine And.intro (by first | omega | (simp; done) | (simp; omega) | exact all1 rfl) ?_
      rw [← hpb] at hl5 r5
      exact ⟨z, by omega, z, _, _, rfl, by omega, e0 ▸ ⟨a0, s0, c0, rfl, hc0, hl0, r0⟩, h1, h2, ⟨a5, s5, c5, rfl, hc5, hl5, r5⟩, rfl, rfl, by omega, hF, hs, ht⟩
end
end Go.Ga

namespace Go.Ga
open Go Go.Proofs
set_option linter.unusedSimpArgs false
set_option linter.unusedVariables false
set_option maxRecDepth 100000
attribute [local irreducible] appendK endK endW

theorem and_m32 {x : Nat} (hx : x < 4294967296) : bitsV .and .u64 (x : Int) 4294967295 = (x : Int) := by
  have h : x &&& 4294967295 = x := by
    rw [show (4294967295 : Nat) = 2 ^ 32 - 1 by decide, Nat.and_two_pow_sub_one_eq_mod, Nat.mod_eq_of_lt (by exact hx)]
  show IntKind.u64.wrap ((BitVec.ofInt 64 (x : Int) &&& BitVec.ofInt 64 ((4294967295 : Nat) : Int)).toNat : Int) = _
  simp only [BitVec.ofInt_natCast, BitVec.toNat_and, BitVec.toNat_ofNat]
  rw [Nat.mod_eq_of_lt (by omega), Nat.mod_eq_of_lt (by omega), h, u64_w]
  omega
theorem shr_32 {x : Nat} (hx : x < 4294967296) : shrV .u64 (x : Int) 32 = 0 := by
  have h := shr_nat (k := .u64) x 32 (by decide)
  rw [Nat.div_eq_of_lt (by exact hx)] at h
  exact h

def nzK (v : Value) (m : Mem) (K : Value → Mem → Prop) : Prop := match v with
  | .int .i64 n => 0 ≤ n ∧ n ≤ 281474976710656 ∧ K (.slice (some ⟨m.next, 0, some 1⟩) n.toNat n.toNat) (m.add (.cells (List.replicate n.toNat botV) false))
  | _ => False
@[congr] theorem nzK_congr {v v' : Value} {m : Mem} {K : Value → Mem → Prop} (h : v = v') : nzK v m K = nzK v' m K := by rw [h]
theorem nzK_e (n : Int) (m : Mem) (K : Value → Mem → Prop) : nzK (.int .i64 n) m K = (0 ≤ n ∧ n ≤ 281474976710656 ∧ K (.slice (some ⟨m.next, 0, some 1⟩) n.toNat n.toNat) (m.add (.cells (List.replicate n.toNat botV) false))) := (rfl)
theorem go_nz {P : Program} {d : Option Nat} {i : Nat} {l : List RO} {f : Regs} {m : Mem} {Q : AEx → Regs → Mem → Prop} : goOps P (⟨d, .xop (.noZero (.t i)), none⟩ :: l) f m Q = nzK (f i) m fun v m' => goOps P l (putR f d v) m' Q := (rfl)

section
variable {nx : Nat} {gt : Nat → Option Blk}

theorem ct_Mul64 {n : Nat} (hn : n < 4294967296) : Ct Try.prog 83 [.int .u64 1, .int .u64 n] nx gt fun v _ _ => v = .tuple #[.int .u64 0, .int .u64 n] := by
  refine Ct.of hmx r_math_bits_Mul64 (by simp [c_math_bits_Mul64]) fun b hb => ?_
  have hF : ∀ q, q < nx → gt q = gt q := fun _ _ => rfl
  have a1 : bitsV .and .u64 1 4294967295 = 1 := and_m32 (x := 1) (by omega)
  have s0 : shrV .u64 0 32 = 0 := shr_32 (x := 0) (by omega)
  have a0 : bitsV .and .u64 0 4294967295 = 0 := and_m32 (x := 0) (by omega)
  have s1 : shrV .u64 1 32 = 0 := shr_32 (x := 1) (by omega)
  simp only [c_math_bits_Mul64, ↓gaW, ↓gaV, ↓gaC, ↓gaN, gaP, Nat.reduceEqDiff, Nat.reduceLeDiff, Nat.reduceAdd, Nat.reduceSub, Nat.reduceMul, Int.reduceLT, Int.reduceLE, Int.reduceEq, Int.reduceToNat, Int.reduceAdd, Int.reduceSub, Int.reduceMul, reduceCtorEq, ↓reduceIte, a1, s1, and_m32 hn, shr_32 hn, Int.one_mul, Int.zero_mul, Int.mul_zero, Int.add_zero, Int.zero_add, u64_i (n : Int) (by omega), u64_i 0 (by omega), s0, a0, gaE, implies_true, Nat.le_refl, Int.sub_zero, Nat.sub_zero, Int.le_refl, true_or, or_true]

theorem ct_MulB {n : Nat} (hn : n < 4294967296) : Ct Try.prog 68 [.int .u64 1, .int .u64 n] nx gt fun v _ _ => v = .tuple #[.int .u64 0, .int .u64 n] := by
  refine Ct.of hmx r_math_bits_Mul (by simp [c_math_bits_Mul]) fun b hb => ?_
  have hF : ∀ q, q < nx → gt q = gt q := fun _ _ => rfl
  simp only [c_math_bits_Mul, ↓gaW, ↓gaV, ↓gaC, ↓gaN, gaP, Nat.reduceEqDiff, Nat.reduceLeDiff, Nat.reduceAdd, Nat.reduceSub, Nat.reduceMul, Int.reduceLT, Int.reduceLE, Int.reduceEq, Int.reduceToNat, Int.reduceAdd, Int.reduceSub, Int.reduceMul, reduceCtorEq, ↓reduceIte]
  refine callK_of (ct_Mul64 hn) (fun v n1 g1 l1 k1 hC => ?_) (by omega)
  subst hC
  have hF : ∀ q, q < nx → g1 q = gt q := fun q hq => (k1 q (by omega)).trans (hF q hq)
  simp only [↓gaW, ↓gaV, ↓gaC, ↓gaN, gaP, Nat.reduceEqDiff, Nat.reduceLeDiff, Nat.reduceAdd, Nat.reduceSub, Nat.reduceMul, Int.reduceLT, Int.reduceLE, Int.reduceEq, Int.reduceToNat, Int.reduceAdd, Int.reduceSub, Int.reduceMul, reduceCtorEq, ↓reduceIte]
  simp only [↓gaW, ↓gaV, ↓gaC, ↓gaN, gaP, Nat.reduceEqDiff, Nat.reduceLeDiff, Nat.reduceAdd, Nat.reduceSub, Nat.reduceMul, Int.reduceLT, Int.reduceLE, Int.reduceEq, Int.reduceToNat, Int.reduceAdd, Int.reduceSub, Int.reduceMul, reduceCtorEq, ↓reduceIte, gaE, implies_true, Nat.le_refl, Int.sub_zero, Nat.sub_zero, Int.le_refl, true_or, or_true, u64_i, decide_true]
  exact ⟨by omega, by omega, by omega, hF⟩

def ff (n : Nat) : List Value := List.replicate n (.int .u8 255)
theorem ff_len (n : Nat) : (ff n).length = n := by simp [ff]
theorem ff_all (n : Nat) : ∀ v ∈ ff n, cellVal v = true := by
  intro v hv
  rw [ff, List.mem_replicate] at hv
  rw [hv.2]; rfl
def ffs (k n : Nat) : List Value := ff k ++ List.replicate (n - k) botV
theorem ffs_len {k n : Nat} (h : k ≤ n) : (ffs k n).length = n := by simp [ffs, ff]; omega
theorem ffs_end {n : Nat} : ffs n n = ff n := by simp [ffs]
theorem ffs_lay {k w n : Nat} (h : k + w ≤ n) : splice (ffs k n) k (ff w) = ffs (k + w) n := by
  have h1 : List.take k (ffs k n) = ff k := by rw [ffs, List.take_append_of_le_length (by simp [ff]), List.take_of_length_le (by simp [ff])]
  have h2 : List.drop (k + w) (ffs k n) = List.replicate (n - (k + w)) botV := by
    rw [ffs, List.drop_append, List.drop_of_length_le (by simp [ff]), List.nil_append, List.drop_replicate, ff_len]
    congr 1; omega
  rw [splice, h1, ff_len, h2]
  simp only [ffs, ff, List.replicate_append_replicate]
theorem ffs_row {x k w n : Nat} {g : Nat → Option Blk} {ro : Bool} {q : Nat} (hq : q < x) (h : g q = some (.cells (ffs k n) ro)) (hw : w ≤ k) (hk : k ≤ n) : Row x g 1 (some ⟨q, 0, none⟩) w (ff w) :=
  ⟨fun a ha => by injection ha with ha; subst ha; exact .inl rfl, ff_len w, fun _ => ⟨_, _, ro, rfl, hq, h, by rw [ffs_len hk]; simp only; omega, fun i hi => by
    simp only [Nat.zero_add, ffs, ff]
    rw [List.getD_eq_getElem?_getD, List.getElem?_append_left (by simp; omega), List.getElem?_replicate, if_pos (by omega), List.getD_eq_getElem?_getD, List.getElem?_replicate, if_pos hi]⟩⟩

theorem ct_Repeat {A : Option Addr} {c n : Nat} (hA : Row nx gt 1 A 1 [.int .u8 255]) (hc : 1 ≤ c) (h1 : 1 ≤ n) (h2 : n ≤ 512) :
    Ct Try.prog 41 [.slice A 1 c, .int .i64 n] nx gt fun v nx' gt' => ∃ q, v = .slice (some ⟨q, 0, none⟩) n n ∧ nx ≤ q ∧ q < nx' ∧ gt' q = some (.cells (ff n) false) := by
  refine Ct.ofT hmx r_bytes_Repeat (by simp [c_bytes_Repeat]) fun b hb => ?_
  have hF : ∀ q, q < nx → gt q = gt q := fun _ _ => rfl
  obtain ⟨a, ce, ro, rfl, p1, p2, p3, p4⟩ := hA.cells (by omega)
  have z0 : ¬ (n : Int) = 0 := by omega
  have z1 : ¬ (n : Int) < 0 := by omega
  have z2 : ¬ (9223372036854775807 : Int) < (n : Int) := by omega
  have z3 : ¬ (8192 : Int) < (n : Int) := by omega
  have u1 := u64_i (1 : Int) (by omega)
  have u2 := u64_i (n : Int) (by omega)
  have i1 := i64_w (n : Int) (by omega)
  simp only [c_bytes_Repeat, ↓gaW, ↓gaV, ↓gaC, ↓gaN, gaP, Nat.reduceEqDiff, Nat.reduceLeDiff, Nat.reduceAdd, Nat.reduceSub, Nat.reduceMul, Int.reduceLT, Int.reduceLE, Int.reduceEq, Int.reduceToNat, Int.reduceAdd, Int.reduceSub, Int.reduceMul, reduceCtorEq, ↓reduceIte, z0, z1, u1, u2, decide_false, Int.toNat_natCast, Int.natCast_one]
  refine callK_of (ct_MulB (n := n) (by omega)) (fun v n1 g1 l1 k1 hC => ?_) (by omega)
  subst hC
  have hA := hA.keep l1 k1
  have hF : ∀ q, q < nx → g1 q = gt q := fun q hq => (k1 q (by omega)).trans (hF q hq)
  simp only [↓gaW, ↓gaV, ↓gaC, ↓gaN, gaP, Nat.reduceEqDiff, Nat.reduceLeDiff, Nat.reduceAdd, Nat.reduceSub, Nat.reduceMul, Int.reduceLT, Int.reduceLE, Int.reduceEq, Int.reduceToNat, Int.reduceAdd, Int.reduceSub, Int.reduceMul, reduceCtorEq, ↓reduceIte]
  have hrow : ∀ b B, rowOf ⟨n1 + 1, b, upd g1 n1 B⟩ (some a) 1 = some (ff 1) := fun b B => (hA.keep (nx' := n1 + 1) (gt' := upd g1 n1 B) (by omega) fun q hq => by simp only [upd_e]; rw [if_neg (by omega)]).rowOf (b := b)
  have m0 : Nat.min 1 n = 1 := by show (if 1 ≤ n then 1 else n) = 1; rw [if_pos h1]
  have hl0 := ffs_lay (k := 0) (w := 1) (n := n) (by omega)
  have hz0 : List.replicate n botV = ffs 0 n := by simp [ffs, ff]
  have hlen0 := ffs_len (k := 0) (n := n) (by omega)
  simp only [↓gaW, ↓gaV, ↓gaC, ↓gaN, gaP, Nat.reduceEqDiff, Nat.reduceLeDiff, Nat.reduceAdd, Nat.reduceSub, Nat.reduceMul, Int.reduceLT, Int.reduceLE, Int.reduceEq, Int.reduceToNat, Int.reduceAdd, Int.reduceSub, Int.reduceMul, reduceCtorEq, ↓reduceIte, gaU, z2, z3, u2, i1, decide_false, go_nz, nzK_e, Int.toNat_natCast, Int.sub_zero, hrow, m0, Nat.mul_one, cpK_s (show (1 : Nat) ≠ 0 by omega), hz0, hl0, hlen0]
  repeat refine And.intro (by first | omega | (simp; done) | (simp; omega) | exact all1 rfl) ?_
  refine And.intro (by simp [ff_len, hlen0]; omega) (And.intro (ff_all 1) ?_)
  refine loop_of (fun j f m => ∃ (k : Nat) (g : Nat → Option Blk), j = n - k ∧ 1 ≤ k ∧ k ≤ n ∧ f 7 = .int .i64 n ∧ f 8 = .int .i64 n ∧ f 9 = .slice (some ⟨n1, 0, none⟩) n n ∧ f 10 = .int .i64 (k : Nat) ∧ m = ⟨n1 + 1, b, g⟩ ∧ (∀ q, q < nx → g q = gt q) ∧ g n1 = some (.cells (ffs k n) false)) (n - 1)
    ⟨1, _, rfl, by omega, by omega, by simp only [↓gaW, ↓gaV, ↓gaC, ↓gaN, gaP, Nat.reduceEqDiff, Nat.reduceLeDiff, Nat.reduceAdd, Nat.reduceSub, Nat.reduceMul, Int.reduceLT, Int.reduceLE, Int.reduceEq, Int.reduceToNat, Int.reduceAdd, Int.reduceSub, Int.reduceMul, reduceCtorEq, ↓reduceIte], by simp only [↓gaW, ↓gaV, ↓gaC, ↓gaN, gaP, Nat.reduceEqDiff, Nat.reduceLeDiff, Nat.reduceAdd, Nat.reduceSub, Nat.reduceMul, Int.reduceLT, Int.reduceLE, Int.reduceEq, Int.reduceToNat, Int.reduceAdd, Int.reduceSub, Int.reduceMul, reduceCtorEq, ↓reduceIte], by simp only [↓gaW, ↓gaV, ↓gaC, ↓gaN, gaP, Nat.reduceEqDiff, Nat.reduceLeDiff, Nat.reduceAdd, Nat.reduceSub, Nat.reduceMul, Int.reduceLT, Int.reduceLE, Int.reduceEq, Int.reduceToNat, Int.reduceAdd, Int.reduceSub, Int.reduceMul, reduceCtorEq, ↓reduceIte], by simp only [↓gaW, ↓gaV, ↓gaC, ↓gaN, gaP, Nat.reduceEqDiff, Nat.reduceLeDiff, Nat.reduceAdd, Nat.reduceSub, Nat.reduceMul, Int.reduceLT, Int.reduceLE, Int.reduceEq, Int.reduceToNat, Int.reduceAdd, Int.reduceSub, Int.reduceMul, reduceCtorEq, ↓reduceIte], rfl, fun q hq => by simp only [upd_e]; rw [if_neg (by omega), if_neg (by omega), hF q hq], by simp only [upd_e, if_true]⟩ ?_
  rintro j f m ⟨k, g, rfl, hk1, hkn, f7, f8, f9, f10, rfl, hG, hg⟩
  by_cases hlt : (k : Int) < (n : Int)
  · have hkk : ¬ (n : Int) < (k : Int) := by omega
    obtain ⟨w, hw⟩ : ∃ w, Nat.min k (n - k) = w := ⟨_, rfl⟩
    have hw0 : 0 < w := by rw [← hw, Nat.lt_min]; omega
    have hw1 : w ≤ k := by rw [← hw]; exact Nat.min_le_left _ _
    have hw2 : w ≤ n - k := by rw [← hw]; exact Nat.min_le_right _ _
    have hwne : w ≠ 0 := by omega
    have hlen := ffs_len (k := k) (n := n) hkn
    have hlay := ffs_lay (k := k) (w := w) (n := n) (by omega)
    have hrow2 : rowOf ⟨n1 + 1, b, g⟩ (some ⟨n1, 0, none⟩) w = some (ff w) := (ffs_row (by omega) hg hw1 hkn).rowOf
    have e1 : ((n : Int) - (k : Int)).toNat = n - k := by omega
    have e2 : ((k : Nat) : Int).toNat = k := by omega
    have e3 : (k : Int) + (w : Int) = ((k + w : Nat) : Int) := by omega
    simp only [↓gaW, ↓gaV, ↓gaC, ↓gaN, gaP, Nat.reduceEqDiff, Nat.reduceLeDiff, Nat.reduceAdd, Nat.reduceSub, Nat.reduceMul, Int.reduceLT, Int.reduceLE, Int.reduceEq, Int.reduceToNat, Int.reduceAdd, Int.reduceSub, Int.reduceMul, reduceCtorEq, ↓reduceIte, gaU, f7, f8, f9, f10, hlt, decide_true, mm_t, Bool.false_eq_true, if_false, if_neg hkk]
    refine vc_tree_same ?_
    refine ⟨fun t => if t = 7 then .int .i64 n else if t = 8 then .int .i64 n else if t = 9 then .slice (some ⟨n1, 0, none⟩) n n else if t = 10 then .int .i64 ((k + w : Nat) : Int) else botV, ⟨n1 + 1, b, upd g n1 (some (.cells (ffs (k + w) n) false))⟩, ?_, ?_, ?_⟩
    rotate_left 2
    · simp only [tree_s, allP_cons, allP_nil, List.getElem?_cons_zero, List.getElem?_cons_succ, Nat.reducePow, Nat.reduceOr, Option.map, t_bytes_Repeat, ↓gaW, ↓gaV, ↓gaC, ↓gaN, gaP, Nat.reduceEqDiff, Nat.reduceLeDiff, Nat.reduceAdd, Nat.reduceSub, Nat.reduceMul, Int.reduceLT, Int.reduceLE, Int.reduceEq, Int.reduceToNat, Int.reduceAdd, Int.reduceSub, Int.reduceMul, reduceCtorEq, ↓reduceIte, gaU, f7, f8, f9, f10, e1, e2, Nat.zero_add, Nat.mul_one, Int.sub_zero, hw, hrow2, cpK_s hwne, hg, hlay, hlen, e3, i64_w ((k + w : Nat) : Int) (by omega)]
      repeat' refine And.intro ?_ ?_
      all_goals first
        | omega
        | rfl
        | (simp; done)
        | exact ff_all w
        | (rw [ff_len]; omega)
        | (intro i
           rcases (show i = 7 ∨ i = 8 ∨ i = 9 ∨ i = 10 ∨ (i ≠ 7 ∧ i ≠ 8 ∧ i ≠ 9 ∧ i ≠ 10) by omega) with rfl | rfl | rfl | rfl | ⟨a1, a2, a3, a4⟩
           · exact .inl (by simp only [↓gaW, ↓gaV, ↓gaC, ↓gaN, gaP, Nat.reduceEqDiff, Nat.reduceLeDiff, Nat.reduceAdd, Nat.reduceSub, Nat.reduceMul, Int.reduceLT, Int.reduceLE, Int.reduceEq, Int.reduceToNat, Int.reduceAdd, Int.reduceSub, Int.reduceMul, reduceCtorEq, ↓reduceIte, f7])
           · exact .inl (by simp only [↓gaW, ↓gaV, ↓gaC, ↓gaN, gaP, Nat.reduceEqDiff, Nat.reduceLeDiff, Nat.reduceAdd, Nat.reduceSub, Nat.reduceMul, Int.reduceLT, Int.reduceLE, Int.reduceEq, Int.reduceToNat, Int.reduceAdd, Int.reduceSub, Int.reduceMul, reduceCtorEq, ↓reduceIte, f8])
           · exact .inl (by simp only [↓gaW, ↓gaV, ↓gaC, ↓gaN, gaP, Nat.reduceEqDiff, Nat.reduceLeDiff, Nat.reduceAdd, Nat.reduceSub, Nat.reduceMul, Int.reduceLT, Int.reduceLE, Int.reduceEq, Int.reduceToNat, Int.reduceAdd, Int.reduceSub, Int.reduceMul, reduceCtorEq, ↓reduceIte, f9])
           · exact .inl (by simp only [↓gaW, ↓gaV, ↓gaC, ↓gaN, gaP, Nat.reduceEqDiff, Nat.reduceLeDiff, Nat.reduceAdd, Nat.reduceSub, Nat.reduceMul, Int.reduceLT, Int.reduceLE, Int.reduceEq, Int.reduceToNat, Int.reduceAdd, Int.reduceSub, Int.reduceMul, reduceCtorEq, ↓reduceIte])
           · right; simp only [if_neg a1, if_neg a2, if_neg a3, if_neg a4])
    · simp only [↓gaW, ↓gaV, ↓gaC, ↓gaN, gaP, Nat.reduceEqDiff, Nat.reduceLeDiff, Nat.reduceAdd, Nat.reduceSub, Nat.reduceMul, Int.reduceLT, Int.reduceLE, Int.reduceEq, Int.reduceToNat, Int.reduceAdd, Int.reduceSub, Int.reduceMul, reduceCtorEq, ↓reduceIte, loopK_n]
      exact ⟨n - (k + w), by omega, k + w, _, rfl, by omega, by omega, rfl, rfl, fun q hq => by simp only [upd_e]; rw [if_neg (by omega), hG q hq], by simp only [upd_e, if_true]⟩
    · exact ⟨rfl, Nat.le_refl _, fun q hq => by
        have hq' : q < b := hq
        show upd _ _ _ q = g q; simp only [upd_e]; rw [if_neg (by omega)]⟩
  · have : k = n := by omega
    subst this
    rw [ffs_end] at hg
    simp only [↓gaW, ↓gaV, ↓gaC, ↓gaN, gaP, Nat.reduceEqDiff, Nat.reduceLeDiff, Nat.reduceAdd, Nat.reduceSub, Nat.reduceMul, Int.reduceLT, Int.reduceLE, Int.reduceEq, Int.reduceToNat, Int.reduceAdd, Int.reduceSub, Int.reduceMul, reduceCtorEq, ↓reduceIte, gaE, implies_true, Nat.le_refl, Int.sub_zero, Nat.sub_zero, Int.le_refl, true_or, or_true, f7, f10, f9, hlt, decide_false, loopK_e]
    exact ⟨by omega, hG, n1, rfl, by omega, by omega, hg⟩
end
end Go.Ga

namespace Go.Ga
open Go Go.Proofs
set_option linter.unusedSimpArgs false
set_option linter.unusedVariables false
set_option maxRecDepth 100000
attribute [local irreducible] appendK endK endW

def ahL : List UInt8 := [0, 48, 49, 48, 13, 6, 9, 96, 134, 72, 1, 101, 3, 4, 2, 1, 5, 0, 4, 32]
def frL (H : List UInt8) (n : Nat) : List UInt8 := [0, 1] ++ (List.replicate (n - 54) 255 ++ (ahL ++ H))
theorem spl1 (x y : Value) : splice [x] 0 [y] = [y] := rfl
theorem spl20 (x y z : Value) : splice [x, y] 0 [z] = [z, y] := rfl
theorem spl21 (x y z : Value) : splice [x, y] 1 [z] = [x, z] := rfl
theorem ff_u8 (n : Nat) : ff n = (List.replicate n (255 : UInt8)).map u8V := by
  rw [ff, List.map_replicate]; rfl

theorem rep_lay {m k : Nat} {l T : List UInt8} (hl : l.length = k) (hk : k ≤ m) : splice ((List.replicate m 255 ++ T).map u8V) (m - k) (l.map u8V) = (List.replicate (m - k) 255 ++ (l ++ T)).map u8V := by
  have h1 : List.take (m - k) (List.replicate m (255 : UInt8) ++ T) = List.replicate (m - k) 255 := by
    rw [List.take_append_of_le_length (by simp), List.take_replicate]; congr 1; omega
  have h2 : List.drop (m - k + k) (List.replicate m (255 : UInt8) ++ T) = T := by
    rw [show m - k + k = m by omega, List.drop_append_of_le_length (by simp), List.drop_of_length_le (by simp), List.nil_append]
  rw [splice, ← List.map_take, List.length_map, hl, ← List.map_drop, h1, h2]
  simp only [List.map_append, List.append_assoc]
theorem rep_top {m : Nat} {T : List UInt8} (hm : 2 ≤ m) : splice ((List.replicate m 255 ++ T).map u8V) 0 [.int .u8 0, .int .u8 1] = ([0, 1] ++ (List.replicate (m - 2) 255 ++ T)).map u8V := by
  have h2 : List.drop 2 (List.replicate m (255 : UInt8) ++ T) = List.replicate (m - 2) 255 ++ T := by
    rw [List.drop_append_of_le_length (by simpa using hm), List.drop_replicate]
  rw [splice]
  simp only [List.take_zero, List.nil_append, List.length_cons, List.length_nil, Nat.zero_add, Nat.reduceAdd]
  rw [← List.map_drop, h2]
  generalize List.replicate (m - 2) (255 : UInt8) ++ T = Z
  rfl
theorem row8c {x q n : Nat} {g : Nat → Option Blk} {w : List Value} {ro : Bool} (hq : q < x) (hg : g q = some (.cells w ro)) (hw : w.length = n) : Row x g 1 (some ⟨q, 0, none⟩) n w :=
  ⟨fun a ha => by injection ha with ha; subst ha; exact .inl rfl, hw, fun _ => ⟨_, _, ro, rfl, hq, hg, by rw [hw]; simp, fun i hi => by simp⟩⟩

section
variable {nx : Nat} {gt : Nat → Option Blk}

theorem ct_ahead : Ct Try.prog 43 [] nx gt fun v _ _ => v = .agg (ahL.map u8V).toArray := by
  refine Ct.of hmx r_rsa_ahead (by simp [c_rsa_ahead]) fun b hb => ?_
  simp only [c_rsa_ahead, ↓gaW, ↓gaV, ↓gaC, ↓gaN, gaP, Nat.reduceEqDiff, Nat.reduceLeDiff, Nat.reduceAdd, Nat.reduceSub, Nat.reduceMul, Int.reduceLT, Int.reduceLE, Int.reduceEq, Int.reduceToNat, Int.reduceAdd, Int.reduceSub, Int.reduceMul, reduceCtorEq, ↓reduceIte, List.getD_cons_zero, List.getD_cons_succ, fillL, splice, List.take_zero, List.drop_zero, List.drop_succ_cons, List.take_succ_cons, List.drop_nil, List.take_nil]
  refine And.intro (by omega) (And.intro (all_u8 ahL) ?_)
  exact end_cN (q := nx) (ahL.map u8V) (by simp only [↓gaW, ↓gaV, ↓gaC, ↓gaN, gaP, Nat.reduceEqDiff, Nat.reduceLeDiff, Nat.reduceAdd, Nat.reduceSub, Nat.reduceMul, Int.reduceLT, Int.reduceLE, Int.reduceEq, Int.reduceToNat, Int.reduceAdd, Int.reduceSub, Int.reduceMul, reduceCtorEq, ↓reduceIte]) (by simp only [upd_e, if_true]; rfl) rfl ⟨rfl, by omega, fun q hq => by simp only [upd_e]; rw [if_neg (by omega), if_neg (by omega)], rfl⟩

theorem fn_lay {b p r q n c N t : Nat} {A : Option Addr} {l : List UInt8} {L : List Value} (hA : Row nx gt 1 A n (l.map u8V)) (hne : 0 < n → ∀ a, A = some a → a.block ≠ q ∧ a.block ≠ p)
    (hp : gt p = some (.cells [.int .i64 (t : Nat)] false)) (hr : gt r = some (.cells [.slice (some ⟨q, 0, none⟩) N N] false)) (hq : gt q = some (.cells L false)) (hL : L.length = N)
    (hnt : n ≤ t) (htN : t ≤ N) (hN : N < 1000000) (hn0 : 0 < n) (hbp : b ≤ p) (hbq : b ≤ q) (hpn : p < nx) (hqn : q < nx) (h1 : p ≠ r) (h2 : p ≠ q) (h3 : q ≠ r) :
    Fn Try.prog 42 [.slice A n c, .pointer (some ⟨p, 0, none⟩), .pointer (some ⟨r, 0, none⟩)] ⟨nx, b, gt⟩ fun res m' => res = .ret (.tuple #[]) ∧ ∃ g', m' = ⟨nx, b, g'⟩ ∧
      (∀ i, i ≠ p → i ≠ q → g' i = gt i) ∧ g' p = some (.cells [.int .i64 (t - n : Nat)] false) ∧ g' q = some (.cells (splice L (t - n) (l.map u8V)) false) := by
  refine fn_sound hmx r_rsa_Frame_1 (by simp [c_rsa_Frame_1]) ?_
  show c_rsa_Frame_1.code.vc _ _ _ (D Try.prog (.top _))
  have hl : l.length = n := by simpa using hA.len
  obtain ⟨a, ce, ro, rfl, p1, p2, p3, p4⟩ := hA.cells (by omega)
  have hne := hne hn0 a rfl
  have e1 : (t : Int) - (n : Int) = ((t - n : Nat) : Int) := by omega
  have e2 : (N : Int) - ((t - n : Nat) : Int) = ((N - (t - n) : Nat) : Int) := by omega
  have e3 : Nat.min n (N - (t - n)) = n := Nat.min_eq_left (by omega)
  have hrow : ∀ b B, rowOf ⟨nx, b, upd gt p B⟩ (some a) n = some (l.map u8V) := fun b B => (hA.keepA (nx' := nx) (gt' := upd gt p B) (by omega) fun _ a' ha => by injection ha with ha; subst ha; simp only [upd_e]; rw [if_neg hne.2]).rowOf
  simp only [c_rsa_Frame_1, ↓gaW, ↓gaV, ↓gaC, ↓gaN, gaP, Nat.reduceEqDiff, Nat.reduceLeDiff, Nat.reduceAdd, Nat.reduceSub, Nat.reduceMul, Int.reduceLT, Int.reduceLE, Int.reduceEq, Int.reduceToNat, Int.reduceAdd, Int.reduceSub, Int.reduceMul, reduceCtorEq, ↓reduceIte, List.getD_cons_zero, spl1, gaU, hp, hr, hq, e1, e2, i64_w ((t - n : Nat) : Int) (by omega), if_neg h1, if_neg (Ne.symm h1), if_neg (Ne.symm h2), if_neg h2, Int.toNat_natCast, Nat.mul_one, Nat.zero_add, e3, hrow, cpK_s (show n ≠ 0 by omega)]
  repeat refine And.intro (by first | omega | (simp; done) | (rw [List.length_map]; omega) | exact all_u8 _ | exact all1 rfl) ?_
  refine ⟨rfl, _, rfl, fun i i1 i2 => by simp only [upd_e]; rw [if_neg i2, if_neg i1], ?_, by simp only [upd_e, if_true]⟩
  simp only [upd_e, if_true]; rw [if_neg h2]

/-- What a frame comes to. -/
def frameR (H : List UInt8) (s : Int) : List UInt8 × Int := if 62 ≤ s ∧ s ≤ 512 then (frL H s.toNat, 0) else ([], 1)
def FrameV (H : List UInt8) (s : Int) (v : Value) (x : Nat) (g : Nat → Option Blk) : Prop :=
  ∃ A n c, v = .tuple #[.slice A n c, .int .i64 (frameR H s).2] ∧ n ≤ c ∧ n = (frameR H s).1.length ∧ Row x g 1 A n ((frameR H s).1.map u8V)

theorem ct_Frame {H : List UInt8} {s : Int} (hH : H.length = 32) :
    Ct Try.prog 22 [.agg (H.map u8V).toArray, .int .i64 s] nx gt (FrameV H s) := by
  refine Ct.of hmx r_rsa_Frame (by simp [c_rsa_Frame]) fun b hb => ?_
  by_cases hs : 62 ≤ s ∧ s ≤ 512
  · obtain ⟨n, rfl⟩ : ∃ n : Nat, s = n := ⟨s.toNat, by omega⟩
    have d1 : ¬ (n : Int) < 62 := by omega
    have d2 : ¬ (512 : Int) < (n : Int) := by omega
    simp only [c_rsa_Frame, ↓gaW, ↓gaV, ↓gaC, ↓gaN, gaP, Nat.reduceEqDiff, Nat.reduceLeDiff, Nat.reduceAdd, Nat.reduceSub, Nat.reduceMul, Int.reduceLT, Int.reduceLE, Int.reduceEq, Int.reduceToNat, Int.reduceAdd, Int.reduceSub, Int.reduceMul, reduceCtorEq, ↓reduceIte, List.getD_cons_zero, List.getD_cons_succ, fillL, splice, List.take_zero, List.drop_zero, List.drop_succ_cons, List.take_succ_cons, List.drop_nil, List.take_nil, gaU, d1, d2, decide_false]
    refine callK_of (ct_Repeat (n := n) (row8c (by omega) (by simp only [upd_e, if_true]; rfl) rfl) (by omega) (by omega) (by omega)) (fun v x2 g2 l2 k2 hC => ?_) (by omega)
    obtain ⟨q, rfl, q1, q2, q3⟩ := hC
    have gH : g2 nx = some (.cells (H.map u8V) false) := by rw [k2 nx (by omega)]; simp only [upd_e, if_true]; rw [if_neg (by omega)]
    have gO : ∀ i, i < nx → g2 i = gt i := fun i hi => by rw [k2 i (by omega)]; simp only [upd_e]; rw [if_neg (by omega), if_neg (by omega)]
    simp only [↓gaW, ↓gaV, ↓gaC, ↓gaN, gaP, Nat.reduceEqDiff, Nat.reduceLeDiff, Nat.reduceAdd, Nat.reduceSub, Nat.reduceMul, Int.reduceLT, Int.reduceLE, Int.reduceEq, Int.reduceToNat, Int.reduceAdd, Int.reduceSub, Int.reduceMul, reduceCtorEq, ↓reduceIte, List.getD_cons_zero, List.getD_cons_succ, fillL, splice, List.take_zero, List.drop_zero, List.drop_succ_cons, List.take_succ_cons, List.drop_nil, List.take_nil, gaU]
    repeat refine And.intro (by first | omega | (simp; done) | (simp; omega) | exact all1 rfl) ?_
    have n1 : ¬ q = x2 := by omega
    have n2 : ¬ q = x2 + 1 := by omega
    refine callK_fn (fn_lay (b := b) (q := q) (p := x2 + 1) (r := x2) (N := n) (t := n) (l := H) (L := ff n) (row8 (ro := false) (by omega) (by simp only [upd_e]; rw [if_neg (by omega), if_neg (by omega), if_neg (by omega), if_neg (by omega), gH]) hH) (fun _ a ha => by injection ha with ha; subst ha; exact ⟨by show nx ≠ q; omega, by show nx ≠ x2 + 1; omega⟩)
      (by simp only [upd_e, if_true]) (by simp only [upd_e, if_true]; rw [if_neg (by omega), if_neg (by omega)]) (by simp only [upd_e]; rw [if_neg n2, if_neg n2, if_neg n1, if_neg n1, q3]) (ff_len n) (by omega) (by omega) (by omega) (by omega) (by omega) (by omega) (by omega) (by omega) (by omega) (by omega) (by omega)) fun res m' hh => ?_
    obtain ⟨rfl, g3, rfl, k3, p3, w3⟩ := hh
    refine ⟨_, rfl, ?_⟩
    have e3 := rep_lay (m := n) (k := 32) (l := H) (T := []) hH (by omega)
    rw [List.append_nil, List.append_nil, ← ff_u8] at e3
    rw [e3] at w3
    have r3 : g3 x2 = some (.cells [.slice (some ⟨q, 0, none⟩) n n] false) := by rw [k3 x2 (by omega) (by omega)]; simp only [upd_e, if_true]; rw [if_neg (by omega), if_neg (by omega)]
    have o3 : ∀ i, i < nx → g3 i = gt i := fun i hi => by rw [k3 i (by omega) (by omega)]; simp only [upd_e]; rw [if_neg (by omega), if_neg (by omega), if_neg (by omega), if_neg (by omega), gO i hi]
    clear k3 gH gO q3 k2
    simp only [↓gaW, ↓gaV, ↓gaC, ↓gaN, gaP, Nat.reduceEqDiff, Nat.reduceLeDiff, Nat.reduceAdd, Nat.reduceSub, Nat.reduceMul, Int.reduceLT, Int.reduceLE, Int.reduceEq, Int.reduceToNat, Int.reduceAdd, Int.reduceSub, Int.reduceMul, reduceCtorEq, ↓reduceIte]
    refine callK_of ct_ahead (fun v x4 g4 l4 k4 hC => ?_) (by omega)
    subst hC
    simp only [↓gaW, ↓gaV, ↓gaC, ↓gaN, gaP, Nat.reduceEqDiff, Nat.reduceLeDiff, Nat.reduceAdd, Nat.reduceSub, Nat.reduceMul, Int.reduceLT, Int.reduceLE, Int.reduceEq, Int.reduceToNat, Int.reduceAdd, Int.reduceSub, Int.reduceMul, reduceCtorEq, ↓reduceIte, gaU]
    refine And.intro rfl (And.intro (by omega) (And.intro (by decide) (And.intro (all_u8 _) ?_)))
    refine callK_fn (fn_lay (b := b) (q := q) (p := x2 + 1) (r := x2) (N := n) (t := n - 32) (l := ahL) (n := 20) (row8 (ro := false) (by omega) (by simp only [upd_e, if_true]; rfl) rfl) (fun _ a ha => by injection ha with ha; subst ha; exact ⟨by show x4 ≠ q; omega, by show x4 ≠ x2 + 1; omega⟩)
      (by simp only [upd_e]; rw [if_neg (by omega), if_neg (by omega), k4 _ (by omega), p3]) (by simp only [upd_e]; rw [if_neg (by omega), if_neg (by omega), k4 _ (by omega), r3]) (by simp only [upd_e]; rw [if_neg (by omega), if_neg (by omega), k4 _ (by omega), w3]) (by simp [hH]; omega) (by omega) (by omega) (by omega) (by omega) (by omega) (by omega) (by omega) (by omega) (by omega) (by omega) (by omega)) fun res m' hh => ?_
    obtain ⟨rfl, g5, rfl, k5, p5, w5⟩ := hh
    refine ⟨_, rfl, ?_⟩
    have e5 := rep_lay (m := n - 32) (k := 20) (l := ahL) (T := H) rfl (by omega)
    rw [e5] at w5
    have r5 : g5 x2 = some (.cells [.slice (some ⟨q, 0, none⟩) n n] false) := by rw [k5 x2 (by omega) (by omega)]; simp only [upd_e]; rw [if_neg (by omega), if_neg (by omega), k4 _ (by omega), r3]
    have o5 : ∀ i, i < nx → g5 i = gt i := fun i hi => by rw [k5 i (by omega) (by omega)]; simp only [upd_e]; rw [if_neg (by omega), if_neg (by omega), k4 _ (by omega), o3 i hi]
    have e6 := rep_top (m := n - 32 - 20) (T := ahL ++ H) (by omega)
    have m2 : Nat.min 2 n = 2 := Nat.min_eq_left (by omega)
    have x4x : ¬ x2 = x4 + 1 := by omega
    have q4x : ¬ q = x4 + 1 := by omega
    have hrow : ∀ b, rowOf ⟨x4 + 1 + 1, b, upd g5 (x4 + 1) (some (.cells [.int .u8 0, .int .u8 1] false))⟩ (some ⟨x4 + 1, 0, none⟩) 2 = some [.int .u8 0, .int .u8 1] := fun b => by simp [rowOf, upd]
    have hlen : ((List.replicate (n - 32 - 20) (255 : UInt8) ++ (ahL ++ H)).map u8V).length = n := by simp [hH, ahL]; omega
    generalize hG : (List.replicate (n - 32 - 20) (255 : UInt8) ++ (ahL ++ H)).map u8V = G at *
    have e7 : n - 32 - 20 - 2 = n - 54 := by omega
    rw [e7] at e6
    simp only [↓gaW, ↓gaV, ↓gaC, ↓gaN, gaP, Nat.reduceEqDiff, Nat.reduceLeDiff, Nat.reduceAdd, Nat.reduceSub, Nat.reduceMul, Int.reduceLT, Int.reduceLE, Int.reduceEq, Int.reduceToNat, Int.reduceAdd, Int.reduceSub, Int.reduceMul, reduceCtorEq, ↓reduceIte, List.getD_cons_zero, List.getD_cons_succ, List.length_cons, List.length_nil, fillL, spl1, spl20, spl21, gaU, r5, if_neg x4x, if_neg q4x, Nat.mul_one, Nat.zero_add, m2, hrow, cpK_s (show (2 : Nat) ≠ 0 by omega), w5, e6, if_neg n1, if_neg (Ne.symm n1)]
    repeat refine And.intro (by first | omega | (simp; done) | (simp; omega) | exact all_u8 [0, 1]) ?_
    have hf : frameR H (n : Int) = (frL H n, 0) := by rw [frameR, if_pos hs, Int.toNat_natCast]
    simp only [↓gaW, ↓gaV, ↓gaC, ↓gaN, gaP, Nat.reduceEqDiff, Nat.reduceLeDiff, Nat.reduceAdd, Nat.reduceSub, Nat.reduceMul, Int.reduceLT, Int.reduceLE, Int.reduceEq, Int.reduceToNat, Int.reduceAdd, Int.reduceSub, Int.reduceMul, reduceCtorEq, ↓reduceIte, gaE, implies_true, Nat.le_refl, Int.sub_zero, Nat.sub_zero, Int.le_refl, true_or, or_true]
    refine ⟨by omega, fun i hi => ?_, some ⟨q, 0, none⟩, n, n, by rw [hf], by omega, ?_, ?_⟩
    · rw [if_neg (by omega), if_neg (by omega), o5 i hi]
    · rw [hf]; simp [frL, ahL, hH]; omega
    · rw [hf]
      refine row8 (ro := false) (by omega) (by simp only [upd_e, if_true]; rfl) ?_
      simp [frL, ahL, hH]; omega
  · have hf : (frameR H s) = ([], 1) := if_neg hs
    have hV : ∀ x g, FrameV H s (.tuple #[.slice none 0 0, .int .i64 1]) x g := fun x g => ⟨none, 0, 0, by rw [hf], by omega, by rw [hf]; rfl, by rw [hf]; exact Row.nil⟩
    by_cases d1 : s < 62
    · simp only [c_rsa_Frame, ↓gaW, ↓gaV, ↓gaC, ↓gaN, gaP, Nat.reduceEqDiff, Nat.reduceLeDiff, Nat.reduceAdd, Nat.reduceSub, Nat.reduceMul, Int.reduceLT, Int.reduceLE, Int.reduceEq, Int.reduceToNat, Int.reduceAdd, Int.reduceSub, Int.reduceMul, reduceCtorEq, ↓reduceIte, gaE, implies_true, Nat.le_refl, Int.sub_zero, Nat.sub_zero, Int.le_refl, true_or, or_true, gaU, d1, decide_true]
      exact ⟨by omega, fun q hq => by rw [if_neg (by omega)], hV _ _⟩
    · have d2 : 512 < s := by omega
      simp only [c_rsa_Frame, ↓gaW, ↓gaV, ↓gaC, ↓gaN, gaP, Nat.reduceEqDiff, Nat.reduceLeDiff, Nat.reduceAdd, Nat.reduceSub, Nat.reduceMul, Int.reduceLT, Int.reduceLE, Int.reduceEq, Int.reduceToNat, Int.reduceAdd, Int.reduceSub, Int.reduceMul, reduceCtorEq, ↓reduceIte, gaE, implies_true, Nat.le_refl, Int.sub_zero, Nat.sub_zero, Int.le_refl, true_or, or_true, gaU, d1, d2, decide_true, decide_false]
      exact ⟨by omega, fun q hq => by rw [if_neg (by omega)], hV _ _⟩
end
end Go.Ga

namespace Go.Ga
open Go Go.Proofs
set_option linter.unusedSimpArgs false
set_option linter.unusedVariables false
set_option maxRecDepth 100000
attribute [local irreducible] appendK endK endW

def frT (t : Nat) : List Value := ([0, 1] ++ List.replicate t (255 : UInt8)).map u8V
theorem frT_succ (t : Nat) : frT (t + 1) = frT t ++ [.int .u8 255] := by
  simp only [frT]
  rw [List.replicate_succ']
  simp
  rfl
theorem frT_end (H : List UInt8) (k : Nat) : (frT k ++ ahL.map u8V) ++ H.map u8V = (frL H (k + 54)).map u8V := by
  simp [frT, frL]

section
variable {nx : Nat} {gt : Nat → Option Blk}

theorem ct_rFrame {H : List UInt8} {s : Int} (hH : H.length = 32) :
    Ct Try.prog 23 [.agg (H.map u8V).toArray, .int .i64 s] nx gt (FrameV H s) := by
  refine Ct.of hmx r_lanyardref09_Frame (by simp [c_lanyardref09_Frame]) fun b hb => ?_
  by_cases hs : 62 ≤ s ∧ s ≤ 512
  · obtain ⟨n, rfl⟩ : ∃ n : Nat, s = n := ⟨s.toNat, by omega⟩
    obtain ⟨k, rfl⟩ : ∃ k, n = k + 54 := ⟨n - 54, by omega⟩
    have ek : k + 54 - 54 = k := by omega
    have d1 : ¬ ((k + 54 : Nat) : Int) < 62 := by omega
    have d2 : ¬ (512 : Int) < ((k + 54 : Nat) : Int) := by omega
    have hf : frameR H ((k + 54 : Nat) : Int) = (frL H (k + 54), 0) := by rw [frameR, if_pos hs, Int.toNat_natCast]
    have i1 : ((k + 54 : Nat) : Int) - 52 = ((k + 2 : Nat) : Int) := by omega
    simp only [c_lanyardref09_Frame, ↓gaW, ↓gaV, ↓gaC, ↓gaN, gaP, Nat.reduceEqDiff, Nat.reduceLeDiff, Nat.reduceAdd, Nat.reduceSub, Nat.reduceMul, Int.reduceLT, Int.reduceLE, Int.reduceEq, Int.reduceToNat, Int.reduceAdd, Int.reduceSub, Int.reduceMul, reduceCtorEq, ↓reduceIte, List.getD_cons_zero, List.getD_cons_succ, fillL, splice, List.take_zero, List.drop_zero, List.drop_succ_cons, List.take_succ_cons, List.drop_nil, List.take_nil, gaU, d1, d2, decide_false]
    refine bloop_of (fun f m => ∃ (x : Nat) (g : Nat → Option Blk) (A' : Option Addr), f 2 = .pointer (some ⟨nx, 0, none⟩) ∧ f 6 = .slice A' (2 + k) (2 + k) ∧ m = ⟨x, b, g⟩ ∧ nx + 1 ≤ x ∧ (∀ p, p < nx → g p = gt p) ∧ g nx = some (.cells (H.map u8V) false) ∧ Grow (nx + 1) b x g 1 A' (2 + k) (frT k)) (fun _ _ => False)
      (fun j f m => ∃ (t x : Nat) (g : Nat → Option Blk) (A' : Option Addr), j = k - t ∧ t ≤ k ∧ f 1 = (.int .i64 ((k + 54 : Nat) : Int)) ∧ f 2 = .pointer (some ⟨nx, 0, none⟩) ∧ f 6 = .slice A' (2 + t) (2 + t) ∧ m = ⟨x, b, g⟩ ∧ nx + 1 ≤ x ∧ (∀ p, p < nx → g p = gt p) ∧ g nx = some (.cells (H.map u8V) false) ∧ Grow (nx + 1) b x g 1 A' (2 + t) (frT t)) k
      ⟨0, _, _, some ⟨nx + 1, 0, none⟩, by omega, by omega, by simp only [↓gaW, ↓gaV, ↓gaC, ↓gaN, gaP, Nat.reduceEqDiff, Nat.reduceLeDiff, Nat.reduceAdd, Nat.reduceSub, Nat.reduceMul, Int.reduceLT, Int.reduceLE, Int.reduceEq, Int.reduceToNat, Int.reduceAdd, Int.reduceSub, Int.reduceMul, reduceCtorEq, ↓reduceIte], by simp only [↓gaW, ↓gaV, ↓gaC, ↓gaN, gaP, Nat.reduceEqDiff, Nat.reduceLeDiff, Nat.reduceAdd, Nat.reduceSub, Nat.reduceMul, Int.reduceLT, Int.reduceLE, Int.reduceEq, Int.reduceToNat, Int.reduceAdd, Int.reduceSub, Int.reduceMul, reduceCtorEq, ↓reduceIte], by simp only [↓gaW, ↓gaV, ↓gaC, ↓gaN, gaP, Nat.reduceEqDiff, Nat.reduceLeDiff, Nat.reduceAdd, Nat.reduceSub, Nat.reduceMul, Int.reduceLT, Int.reduceLE, Int.reduceEq, Int.reduceToNat, Int.reduceAdd, Int.reduceSub, Int.reduceMul, reduceCtorEq, ↓reduceIte], rfl, by omega, fun p hp => by simp only [upd_e]; rw [if_neg (by omega), if_neg (by omega)], by simp only [upd_e, if_true]; rw [if_neg (by omega)], Grow.lit (q := nx + 1) (ro := false) (by omega) (by simp only [upd_e, if_true]; rfl) rfl⟩ ?_ ?_ (fun _ _ h => h.elim)
    · intro SS hJ _ j f m
      rintro ⟨t, x, g, A', rfl, ht, f1, f2, f6, rfl, hx, hF, hg, hgr⟩
      by_cases hlt : ((2 + t : Nat) : Int) < ((k + 2 : Nat) : Int)
      · have hrow2 : ∀ b, rowOf ⟨x + 1, b, upd g x (some (.cells [.int .u8 255] false))⟩ (some ⟨x, 0, none⟩) 1 = some [.int .u8 255] := fun b => by simp [rowOf, upd]
        simp only [↓gaW, ↓gaV, ↓gaC, ↓gaN, gaP, Nat.reduceEqDiff, Nat.reduceLeDiff, Nat.reduceAdd, Nat.reduceSub, Nat.reduceMul, Int.reduceLT, Int.reduceLE, Int.reduceEq, Int.reduceToNat, Int.reduceAdd, Int.reduceSub, Int.reduceMul, reduceCtorEq, ↓reduceIte, List.getD_cons_zero, fillL, spl1, f1, f2, f6, i1, i64_w ((k + 2 : Nat) : Int) (by omega), hlt, decide_true]
        repeat refine And.intro (by first | omega | (simp; done) | (simp; omega) | exact all1 rfl) ?_
        simp only [hrow2, asO_e]
        refine grow_append (nx := nx + 1) (k := 1) (hgr.keep (Nat.le_succ _) (fun p hp => by simp only [upd_e]; rw [if_neg (by omega)])) (by omega) (by omega) (by omega) (by omega) rfl (all1 rfl) (by omega) (by omega) fun g3 k3 ho3 => ?_
        simp only [↓gaW, ↓gaV, ↓gaC, ↓gaN, gaP, Nat.reduceEqDiff, Nat.reduceLeDiff, Nat.reduceAdd, Nat.reduceSub, Nat.reduceMul, Int.reduceLT, Int.reduceLE, Int.reduceEq, Int.reduceToNat, Int.reduceAdd, Int.reduceSub, Int.reduceMul, reduceCtorEq, ↓reduceIte, loopK_n]
        refine ⟨k - (t + 1), by omega, t + 1, x + 1 + 1, g3, some ⟨x + 1, 0, some 1⟩, rfl, by omega, f1, f2, rfl, rfl, by omega, fun p hp => by rw [k3 p (by omega)]; simp only [upd_e]; rw [if_neg (by omega), hF p hp], by rw [k3 nx (by omega)]; simp only [upd_e]; rw [if_neg (by omega), hg], .inl ?_⟩
        rw [frT_succ]
        exact ho3
      · have hte : t = k := by omega
        rw [hte] at f6 hgr hlt
        simp only [↓gaW, ↓gaV, ↓gaC, ↓gaN, gaP, Nat.reduceEqDiff, Nat.reduceLeDiff, Nat.reduceAdd, Nat.reduceSub, Nat.reduceMul, Int.reduceLT, Int.reduceLE, Int.reduceEq, Int.reduceToNat, Int.reduceAdd, Int.reduceSub, Int.reduceMul, reduceCtorEq, ↓reduceIte, f1, f2, f6, i1, i64_w ((k + 2 : Nat) : Int) (by omega), hlt, decide_false]
        repeat refine And.intro (by first | omega | (simp; done) | (simp; omega) | exact all1 rfl) ?_
        exact hJ _ _ ⟨x, g, A', by simp only [↓gaW, ↓gaV, ↓gaC, ↓gaN, gaP, Nat.reduceEqDiff, Nat.reduceLeDiff, Nat.reduceAdd, Nat.reduceSub, Nat.reduceMul, Int.reduceLT, Int.reduceLE, Int.reduceEq, Int.reduceToNat, Int.reduceAdd, Int.reduceSub, Int.reduceMul, reduceCtorEq, ↓reduceIte, f2], by simp only [↓gaW, ↓gaV, ↓gaC, ↓gaN, gaP, Nat.reduceEqDiff, Nat.reduceLeDiff, Nat.reduceAdd, Nat.reduceSub, Nat.reduceMul, Int.reduceLT, Int.reduceLE, Int.reduceEq, Int.reduceToNat, Int.reduceAdd, Int.reduceSub, Int.reduceMul, reduceCtorEq, ↓reduceIte, f6], rfl, hx, hF, hg, hgr⟩
    · intro f m hh
      generalize hX : D Try.prog _ AEx.normal f m = X
      obtain ⟨x, g, A', f2, f6, rfl, hx, hF, hg, hgr⟩ := hh
      have hrow : ∀ b, rowOf ⟨x + 1, b, upd g x (some (Blk.cells (ahL.map u8V) false))⟩ (some ⟨x, 0, none⟩) 20 = some (ahL.map u8V) := fun b => (row8 (ro := false) (w := ahL) (x := x + 1) (by omega) (by simp only [upd_e, if_true]) rfl).rowOf
      rw [← hX]
      clear hX
      simp only [↓gaW, ↓gaV, ↓gaC, ↓gaN, gaP, Nat.reduceEqDiff, Nat.reduceLeDiff, Nat.reduceAdd, Nat.reduceSub, Nat.reduceMul, Int.reduceLT, Int.reduceLE, Int.reduceEq, Int.reduceToNat, Int.reduceAdd, Int.reduceSub, Int.reduceMul, reduceCtorEq, ↓reduceIte, List.getD_cons_zero, List.getD_cons_succ, fillL, splice, List.take_zero, List.drop_zero, List.drop_succ_cons, List.take_succ_cons, List.drop_nil, List.take_nil, f6]
      refine (show asO (rowOf ⟨x + 1, b, upd g x (some (Blk.cells (ahL.map u8V) false))⟩ (some ⟨x, 0, none⟩) 20) _ from ?_)
      simp only [hrow, asO_e]
      refine grow_append (nx := nx + 1) (k := 20) (hgr.keep (Nat.le_succ _) (fun p hp => by simp only [upd_e]; rw [if_neg (by omega)])) (by omega) (by omega) (by omega) (by omega) rfl (all_u8 ahL) (by omega) (by omega) fun g3 k3 ho3 => ?_
      have hg3 : g3 nx = some (.cells (H.map u8V) false) := by rw [k3 nx (by omega)]; simp only [upd_e]; rw [if_neg (by omega), hg]
      have hrow2 : ∀ b, rowOf ⟨x + 1 + 1, b, g3⟩ (some ⟨nx, 0, none⟩) 32 = some (H.map u8V) := fun b => (row8 (ro := false) (x := x + 1 + 1) (by omega) hg3 hH).rowOf
      simp only [↓gaW, ↓gaV, ↓gaC, ↓gaN, gaP, Nat.reduceEqDiff, Nat.reduceLeDiff, Nat.reduceAdd, Nat.reduceSub, Nat.reduceMul, Int.reduceLT, Int.reduceLE, Int.reduceEq, Int.reduceToNat, Int.reduceAdd, Int.reduceSub, Int.reduceMul, reduceCtorEq, ↓reduceIte, f2, hrow2]
      refine grow_append (nx := nx + 1) (k := 32) (.inl ho3) (by omega) (by omega) (by omega) (by omega) (by simp [hH]) (all_u8 _) (by omega) (by omega) fun g4 k4 ho4 => ?_
      rw [frT_end] at ho4
      simp only [↓gaW, ↓gaV, ↓gaC, ↓gaN, gaP, Nat.reduceEqDiff, Nat.reduceLeDiff, Nat.reduceAdd, Nat.reduceSub, Nat.reduceMul, Int.reduceLT, Int.reduceLE, Int.reduceEq, Int.reduceToNat, Int.reduceAdd, Int.reduceSub, Int.reduceMul, reduceCtorEq, ↓reduceIte, gaE, implies_true, Nat.le_refl, Int.sub_zero, Nat.sub_zero, Int.le_refl, true_or, or_true]
      refine ⟨by omega, fun p hp => ?_, some ⟨x + 1 + 1, 0, some 1⟩, 2 + k + 20 + 32, 2 + k + 20 + 32, by rw [hf], by omega, ?_, ?_⟩
      · rw [k4 p (by omega), k3 p (by omega)]; simp only [upd_e]; rw [if_neg (by omega), hF p hp]
      · rw [hf]; simp [frL, ahL, hH]; omega
      · rw [hf]; simpa using (show Grow (nx + 1) b _ g4 1 _ _ _ from .inl ho4).row
  · have hf : (frameR H s) = ([], 1) := if_neg hs
    have hV : ∀ x g, FrameV H s (.tuple #[.slice none 0 0, .int .i64 1]) x g := fun x g => ⟨none, 0, 0, by rw [hf], by omega, by rw [hf]; rfl, by rw [hf]; exact Row.nil⟩
    by_cases d1 : s < 62
    · simp only [c_lanyardref09_Frame, ↓gaW, ↓gaV, ↓gaC, ↓gaN, gaP, Nat.reduceEqDiff, Nat.reduceLeDiff, Nat.reduceAdd, Nat.reduceSub, Nat.reduceMul, Int.reduceLT, Int.reduceLE, Int.reduceEq, Int.reduceToNat, Int.reduceAdd, Int.reduceSub, Int.reduceMul, reduceCtorEq, ↓reduceIte, gaE, implies_true, Nat.le_refl, Int.sub_zero, Nat.sub_zero, Int.le_refl, true_or, or_true, gaU, d1, decide_true]
      exact ⟨by omega, fun q hq => by rw [if_neg (by omega)], hV _ _⟩
    · have d2 : 512 < s := by omega
      simp only [c_lanyardref09_Frame, ↓gaW, ↓gaV, ↓gaC, ↓gaN, gaP, Nat.reduceEqDiff, Nat.reduceLeDiff, Nat.reduceAdd, Nat.reduceSub, Nat.reduceMul, Int.reduceLT, Int.reduceLE, Int.reduceEq, Int.reduceToNat, Int.reduceAdd, Int.reduceSub, Int.reduceMul, reduceCtorEq, ↓reduceIte, gaE, implies_true, Nat.le_refl, Int.sub_zero, Nat.sub_zero, Int.le_refl, true_or, or_true, gaU, d1, d2, decide_true, decide_false]
      exact ⟨by omega, fun q hq => by rw [if_neg (by omega)], hV _ _⟩
end
end Go.Ga

namespace Go.Ga
open Go Go.Proofs
set_option linter.unusedSimpArgs false
set_option linter.unusedVariables false
set_option maxRecDepth 100000
attribute [local irreducible] appendK endK endW

def rightB (N : List UInt8) (E : Nat) : Bool := decide (62 ≤ N.length ∧ N.length ≤ 512 ∧ (N.getD 0 0).toNat ≠ 0 ∧ (N.getD (N.length - 1) 0).toNat % 2 = 1 ∧ E % 2 = 1 ∧ 3 ≤ E)
def keyV (A : Option Addr) (n c E : Nat) : Value := .agg #[.slice A n c, .int .u32 (E : Nat)]

theorem and1_8 {x : Nat} (h : x < 256) : bitsV .and .u8 (x : Int) 1 = ((x % 2 : Nat) : Int) := by
  have := and_u8 (x := x) (y := 1) h (by omega)
  rw [Nat.and_one_is_mod] at this
  exact this
theorem and1_32 {x : Nat} (h : x < 4294967296) : bitsV .and .u32 (x : Int) 1 = ((x % 2 : Nat) : Int) := by
  have := and_u32 (x := x) (y := 1) h (by omega)
  rw [Nat.and_one_is_mod] at this
  exact this

section
variable {nx : Nat} {gt : Nat → Option Blk}

theorem ct_Right {A : Option Addr} {n c E : Nat} {N : List UInt8} (hA : Row nx gt 1 A n (N.map u8V)) (hE : E < 4294967296) (hn : n ≤ 100000) :
    Ct Try.prog 24 [keyV A n c E] nx gt fun v _ _ => v = .bool (rightB N E) := by
  have hN : N.length = n := by simpa using hA.len
  refine Ct.of hmx r_rsa_Right (by simp [c_rsa_Right]) fun b hb => ?_
  by_cases c1 : (62 : Int) ≤ (n : Int)
  · obtain ⟨a, ce, ro, rfl, p1, p2, p3, p4⟩ := hA.cells (by omega)
    have p0 := p4 0 (by omega)
    rw [getD_u8 (by omega), Nat.add_zero] at p0
    have pl := p4 (n - 1) (by omega)
    rw [getD_u8 (by omega)] at pl
    have na : ¬ a.block = nx := by omega
    obtain ⟨x0, h0⟩ : ∃ x, (N.getD 0 0).toNat = x := ⟨_, rfl⟩
    obtain ⟨xl, hl⟩ : ∃ x, (N.getD (n - 1) 0).toNat = x := ⟨_, rfl⟩
    have bl : xl < 256 := by rw [← hl]; exact UInt8.toNat_lt _
    rw [h0] at p0
    rw [hl] at pl
    have e1 : (n : Int) - 1 = ((n - 1 : Nat) : Int) := by omega
    have i1 := i64_w ((n - 1 : Nat) : Int) (by omega)
    have e2 : ((n - 1 : Nat) : Int).toNat = n - 1 := by omega
    have bx : bitsV .and .u8 (xl : Int) 1 = ((xl % 2 : Nat) : Int) := and1_8 bl
    have be : bitsV .and .u32 (E : Int) 1 = ((E % 2 : Nat) : Int) := and1_32 hE
    by_cases c2 : (n : Int) ≤ 512
    · skip
      by_cases c3 : ((x0 : Nat) : Int) = 0
      · skip
        simp only [c_rsa_Right, keyV, ↓gaW, ↓gaV, ↓gaC, ↓gaN, gaP, Nat.reduceEqDiff, Nat.reduceLeDiff, Nat.reduceAdd, Nat.reduceSub, Nat.reduceMul, Int.reduceLT, Int.reduceLE, Int.reduceEq, Int.reduceToNat, Int.reduceAdd, Int.reduceSub, Int.reduceMul, reduceCtorEq, ↓reduceIte, gaE, implies_true, Nat.le_refl, Int.sub_zero, Nat.sub_zero, Int.le_refl, true_or, or_true, List.getD_cons_zero, List.getD_cons_succ, List.length_cons, List.length_nil, gaU, c1, c2, c3, decide_true, decide_false, Bool.not_true, Bool.not_false, p2, p0, pl, if_neg na, e1, i1, e2, bx, be, Nat.mul_one]
        repeat refine And.intro (by omega) ?_
        refine ⟨fun q hq => by rw [if_neg (by omega)], ?_⟩
        rw [Eq.comm, Value.bool.injEq, rightB, hN, h0, hl]
        simp only [decide_eq_true_eq, decide_eq_false_iff_not]
        omega
      · skip
        by_cases c4 : ((xl % 2 : Nat) : Int) = 1
        · skip
          by_cases c5 : ((E % 2 : Nat) : Int) = 1
          · skip
            by_cases c6 : (3 : Int) ≤ (E : Int)
            · skip
              simp only [c_rsa_Right, keyV, ↓gaW, ↓gaV, ↓gaC, ↓gaN, gaP, Nat.reduceEqDiff, Nat.reduceLeDiff, Nat.reduceAdd, Nat.reduceSub, Nat.reduceMul, Int.reduceLT, Int.reduceLE, Int.reduceEq, Int.reduceToNat, Int.reduceAdd, Int.reduceSub, Int.reduceMul, reduceCtorEq, ↓reduceIte, gaE, implies_true, Nat.le_refl, Int.sub_zero, Nat.sub_zero, Int.le_refl, true_or, or_true, List.getD_cons_zero, List.getD_cons_succ, List.length_cons, List.length_nil, gaU, c1, c2, c3, c4, c5, c6, decide_true, decide_false, Bool.not_true, Bool.not_false, p2, p0, pl, if_neg na, e1, i1, e2, bx, be, Nat.mul_one]
              repeat refine And.intro (by omega) ?_
              refine ⟨fun q hq => by rw [if_neg (by omega)], ?_⟩
              rw [Eq.comm, Value.bool.injEq, rightB, hN, h0, hl]
              simp only [decide_eq_true_eq, decide_eq_false_iff_not]
              omega
            · skip
              simp only [c_rsa_Right, keyV, ↓gaW, ↓gaV, ↓gaC, ↓gaN, gaP, Nat.reduceEqDiff, Nat.reduceLeDiff, Nat.reduceAdd, Nat.reduceSub, Nat.reduceMul, Int.reduceLT, Int.reduceLE, Int.reduceEq, Int.reduceToNat, Int.reduceAdd, Int.reduceSub, Int.reduceMul, reduceCtorEq, ↓reduceIte, gaE, implies_true, Nat.le_refl, Int.sub_zero, Nat.sub_zero, Int.le_refl, true_or, or_true, List.getD_cons_zero, List.getD_cons_succ, List.length_cons, List.length_nil, gaU, c1, c2, c3, c4, c5, c6, decide_true, decide_false, Bool.not_true, Bool.not_false, p2, p0, pl, if_neg na, e1, i1, e2, bx, be, Nat.mul_one]
              repeat refine And.intro (by omega) ?_
              refine ⟨fun q hq => by rw [if_neg (by omega)], ?_⟩
              rw [Eq.comm, Value.bool.injEq, rightB, hN, h0, hl]
              simp only [decide_eq_true_eq, decide_eq_false_iff_not]
              omega
          · skip
            simp only [c_rsa_Right, keyV, ↓gaW, ↓gaV, ↓gaC, ↓gaN, gaP, Nat.reduceEqDiff, Nat.reduceLeDiff, Nat.reduceAdd, Nat.reduceSub, Nat.reduceMul, Int.reduceLT, Int.reduceLE, Int.reduceEq, Int.reduceToNat, Int.reduceAdd, Int.reduceSub, Int.reduceMul, reduceCtorEq, ↓reduceIte, gaE, implies_true, Nat.le_refl, Int.sub_zero, Nat.sub_zero, Int.le_refl, true_or, or_true, List.getD_cons_zero, List.getD_cons_succ, List.length_cons, List.length_nil, gaU, c1, c2, c3, c4, c5, decide_true, decide_false, Bool.not_true, Bool.not_false, p2, p0, pl, if_neg na, e1, i1, e2, bx, be, Nat.mul_one]
            repeat refine And.intro (by omega) ?_
            refine ⟨fun q hq => by rw [if_neg (by omega)], ?_⟩
            rw [Eq.comm, Value.bool.injEq, rightB, hN, h0, hl]
            simp only [decide_eq_true_eq, decide_eq_false_iff_not]
            omega
        · skip
          simp only [c_rsa_Right, keyV, ↓gaW, ↓gaV, ↓gaC, ↓gaN, gaP, Nat.reduceEqDiff, Nat.reduceLeDiff, Nat.reduceAdd, Nat.reduceSub, Nat.reduceMul, Int.reduceLT, Int.reduceLE, Int.reduceEq, Int.reduceToNat, Int.reduceAdd, Int.reduceSub, Int.reduceMul, reduceCtorEq, ↓reduceIte, gaE, implies_true, Nat.le_refl, Int.sub_zero, Nat.sub_zero, Int.le_refl, true_or, or_true, List.getD_cons_zero, List.getD_cons_succ, List.length_cons, List.length_nil, gaU, c1, c2, c3, c4, decide_true, decide_false, Bool.not_true, Bool.not_false, p2, p0, pl, if_neg na, e1, i1, e2, bx, be, Nat.mul_one]
          repeat refine And.intro (by omega) ?_
          refine ⟨fun q hq => by rw [if_neg (by omega)], ?_⟩
          rw [Eq.comm, Value.bool.injEq, rightB, hN, h0, hl]
          simp only [decide_eq_true_eq, decide_eq_false_iff_not]
          omega
    · skip
      simp only [c_rsa_Right, keyV, ↓gaW, ↓gaV, ↓gaC, ↓gaN, gaP, Nat.reduceEqDiff, Nat.reduceLeDiff, Nat.reduceAdd, Nat.reduceSub, Nat.reduceMul, Int.reduceLT, Int.reduceLE, Int.reduceEq, Int.reduceToNat, Int.reduceAdd, Int.reduceSub, Int.reduceMul, reduceCtorEq, ↓reduceIte, gaE, implies_true, Nat.le_refl, Int.sub_zero, Nat.sub_zero, Int.le_refl, true_or, or_true, List.getD_cons_zero, List.getD_cons_succ, List.length_cons, List.length_nil, gaU, c1, c2, decide_true, decide_false, Bool.not_true, Bool.not_false, p2, p0, pl, if_neg na, e1, i1, e2, bx, be, Nat.mul_one]
      repeat refine And.intro (by omega) ?_
      refine ⟨fun q hq => by rw [if_neg (by omega)], ?_⟩
      rw [Eq.comm, Value.bool.injEq, rightB, hN, h0, hl]
      simp only [decide_eq_true_eq, decide_eq_false_iff_not]
      omega
  · have c1' : ¬ 62 ≤ n := by omega
    simp only [c_rsa_Right, keyV, ↓gaW, ↓gaV, ↓gaC, ↓gaN, gaP, Nat.reduceEqDiff, Nat.reduceLeDiff, Nat.reduceAdd, Nat.reduceSub, Nat.reduceMul, Int.reduceLT, Int.reduceLE, Int.reduceEq, Int.reduceToNat, Int.reduceAdd, Int.reduceSub, Int.reduceMul, reduceCtorEq, ↓reduceIte, gaE, implies_true, Nat.le_refl, Int.sub_zero, Nat.sub_zero, Int.le_refl, true_or, or_true, List.getD_cons_zero, gaU, c1, decide_false]
    repeat refine And.intro (by omega) ?_
    refine ⟨fun q hq => by rw [if_neg (by omega)], ?_⟩
    rw [Eq.comm, Value.bool.injEq, rightB, hN]
    exact decide_eq_false fun h => c1' h.1

end
end Go.Ga

namespace Go.Ga
open Go Go.Proofs
set_option linter.unusedSimpArgs false
set_option linter.unusedVariables false
set_option maxRecDepth 100000
attribute [local irreducible] appendK endK endW

section
variable {nx : Nat} {gt : Nat → Option Blk}

def h7 : List UInt8 := [7, 0, 0, 0, 0, 0, 0, 0, 0, 0, 0, 0, 0, 0, 0, 0, 0, 0, 0, 0, 0, 0, 0, 0, 0, 0, 0, 0, 0, 0, 0, 0]

theorem ct_awake09 : Ct Try.prog 20 [] nx gt fun v _ _ => v = .bool true := by
  refine Ct.of hmx r_lanyardlaw09_awake (by simp [c_lanyardlaw09_awake]) fun b hb => ?_
  have hF : ∀ q, q < nx → gt q = gt q := fun _ _ => rfl
  simp only [c_lanyardlaw09_awake, ↓gaW, ↓gaV, ↓gaC, ↓gaN, gaP, Nat.reduceEqDiff, Nat.reduceLeDiff, Nat.reduceAdd, Nat.reduceSub, Nat.reduceMul, Int.reduceLT, Int.reduceLE, Int.reduceEq, Int.reduceToNat, Int.reduceAdd, Int.reduceSub, Int.reduceMul, reduceCtorEq, ↓reduceIte, List.getD_cons_zero, List.getD_cons_succ, fillL, splice, List.take_zero, List.drop_zero, List.drop_succ_cons, List.take_succ_cons, List.drop_nil, List.take_nil]
  refine (show callK Try.prog 22 [.agg (h7.map u8V).toArray, .int .i64 62] _ _ _ _ _ from ?_)
  refine callK_of (ct_Frame (H := h7) (s := 62) rfl) (fun v x1 g1 l1 k1 hC => ?_) (by omega)
  obtain ⟨A, n, c, rfl, hc, hn, hr⟩ := hC
  have e0 : frameR h7 62 = (frL h7 62, 0) := if_pos (by omega)
  rw [e0] at hn hr
  have hn : n = 62 := hn
  subst hn
  obtain ⟨a, ce, ro, rfl, p1, p2, p3, p4⟩ := hr.cells (by omega)
  have v1 : ce.getD (a.off + 1) undef = .int .u8 1 := p4 1 (by omega)
  have v9 : ce.getD (a.off + 9) undef = .int .u8 255 := p4 9 (by omega)
  have v10 : ce.getD (a.off + 10) undef = .int .u8 0 := p4 10 (by omega)
  have v11 : ce.getD (a.off + 11) undef = .int .u8 48 := p4 11 (by omega)
  have v30 : ce.getD (a.off + 30) undef = .int .u8 7 := p4 30 (by omega)
  simp only [↓gaW, ↓gaV, ↓gaC, ↓gaN, gaP, Nat.reduceEqDiff, Nat.reduceLeDiff, Nat.reduceAdd, Nat.reduceSub, Nat.reduceMul, Int.reduceLT, Int.reduceLE, Int.reduceEq, Int.reduceToNat, Int.reduceAdd, Int.reduceSub, Int.reduceMul, reduceCtorEq, ↓reduceIte, gaE, implies_true, Nat.le_refl, Int.sub_zero, Nat.sub_zero, Int.le_refl, true_or, or_true, e0, p2, v1, v9, v10, v11, v30, decide_true, Nat.mul_one]
  exact ⟨by omega, by omega, by omega, by omega, by omega, by omega, by omega, by omega, k1⟩

end
end Go.Ga

/- Numbers and their bytes, the highest first. -/
namespace Go.Ga
open Go

def bv : List UInt8 → Nat
  | [] => 0
  | x :: l => x.toNat * 256 ^ l.length + bv l
theorem bv_append (a b : List UInt8) : bv (a ++ b) = bv a * 256 ^ b.length + bv b := by
  induction a with
  | nil => simp [bv]
  | cons x a ih => simp only [List.cons_append, bv, ih, List.length_append, Nat.pow_add, Nat.add_mul, Nat.mul_assoc, Nat.add_assoc]
theorem lt8 (x : UInt8) : x.toNat < 256 := x.toNat_lt
theorem bv_lt (l : List UInt8) : bv l < 256 ^ l.length := by
  induction l with
  | nil => simp [bv]
  | cons x l ih =>
    simp only [bv, List.length_cons, Nat.pow_succ]
    have h1 := lt8 x
    have h2 : x.toNat * 256 ^ l.length ≤ 255 * 256 ^ l.length := Nat.mul_le_mul_right _ (by omega)
    omega
theorem take_snoc8 {l : List UInt8} {i : Nat} (h : i < l.length) : l.take (i + 1) = l.take i ++ [l.getD i 0] := by
  rw [List.take_add_one, List.getD_eq_getElem?_getD, List.getElem?_eq_getElem h]; rfl
theorem bv_take {l : List UInt8} {i : Nat} (h : i < l.length) : bv (l.take (i + 1)) = bv (l.take i) * 256 + (l.getD i 0).toNat := by
  rw [take_snoc8 h, bv_append]; simp [bv]

theorem pow_q (q r : Nat) : 256 ^ (4 * q + r) = 4294967296 ^ q * 256 ^ r := by
  rw [Nat.pow_add, Nat.pow_mul]

theorem from_step {w : List UInt32} {n i k : Nat} {l : List UInt8} (hl : l.length = n) (hi : i < n) (hk : k = n - 1 - i) (h : lv w = bv (l.take i) * 256 ^ (n - i)) (hq : k / 4 < w.length) :
    ∃ V, (w.getD (k / 4) 0).toNat = V ∧ V + (l.getD i 0).toNat * 256 ^ (k % 4) < 4294967296 ∧ (V ||| ((l.getD i 0).toNat * 256 ^ (k % 4))) = V + (l.getD i 0).toNat * 256 ^ (k % 4) ∧
      lv (w.set (k / 4) (UInt32.ofNat (V + (l.getD i 0).toNat * 256 ^ (k % 4)))) = bv (l.take (i + 1)) * 256 ^ (n - (i + 1)) := by
  obtain ⟨q, hq'⟩ : ∃ q, k / 4 = q := ⟨_, rfl⟩
  obtain ⟨r, hr'⟩ : ∃ r, k % 4 = r := ⟨_, rfl⟩
  have hk4 : k = 4 * q + r := by omega
  have hr : r < 4 := by omega
  rw [hq'] at hq ⊢
  rw [hr']
  have hc := lt8 (l.getD i 0)
  obtain ⟨c, hc'⟩ : ∃ c, (l.getD i 0).toNat = c := ⟨_, rfl⟩
  rw [hc'] at hc ⊢
  obtain ⟨X, hX⟩ : ∃ X, bv (l.take i) = X := ⟨_, rfl⟩
  rw [hX] at h
  have e1 : n - i = k + 1 := by omega
  have e2 : 256 ^ (k + 1) = 4294967296 ^ q * 256 ^ (r + 1) := by rw [hk4, Nat.add_assoc, pow_q]
  have hV0 : (w.getD q 0).toNat = X * 256 ^ (r + 1) % 4294967296 := by
    rw [lv_get, h, e1, e2, show X * (4294967296 ^ q * 256 ^ (r + 1)) = 4294967296 ^ q * (X * 256 ^ (r + 1)) by ac_rfl, Nat.mul_div_cancel_left _ (Nat.pow_pos (by decide))]
  have e3 : (4294967296 : Nat) = 256 ^ (3 - r) * 256 ^ (r + 1) := by rw [← Nat.pow_add, show 3 - r + (r + 1) = 4 by omega]
  have hV : (w.getD q 0).toNat = X % 256 ^ (3 - r) * 256 ^ (r + 1) := by rw [hV0, e3, Nat.mul_mod_mul_right]
  obtain ⟨Y, hY⟩ : ∃ Y, X % 256 ^ (3 - r) = Y := ⟨_, rfl⟩
  have hY2 : Y < 256 ^ (3 - r) := by rw [← hY]; exact Nat.mod_lt _ (Nat.pow_pos (by decide))
  rw [hY] at hV
  have hcr : c * 256 ^ r < 256 ^ (r + 1) := by rw [Nat.pow_succ, Nat.mul_comm]; exact Nat.mul_lt_mul_of_pos_left hc (Nat.pow_pos (by decide))
  have hlt : Y * 256 ^ (r + 1) + c * 256 ^ r < 4294967296 := by
    have h1 : (Y + 1) * 256 ^ (r + 1) ≤ 4294967296 := by rw [e3]; exact Nat.mul_le_mul_right _ hY2
    have h2 := hcr
    rw [Nat.add_mul] at h1
    omega
  refine ⟨_, hV, hlt, ?_, ?_⟩
  · have h2 : c * 256 ^ r < 2 ^ (8 * (r + 1)) := by
      rw [Nat.pow_mul]; exact hcr
    have := Nat.two_pow_add_eq_or_of_lt h2 Y
    rw [Nat.pow_mul] at this
    rw [Nat.mul_comm Y]
    exact this.symm
  · have hs := lv_set (x := UInt32.ofNat (Y * 256 ^ (r + 1) + c * 256 ^ r)) hq
    rw [hV, ofNat32, Nat.mod_eq_of_lt hlt, Nat.mul_add] at hs
    rw [bv_take (by omega), hX, hc', show n - (i + 1) = k by omega]
    have e4 : 4294967296 ^ q * (c * 256 ^ r) = c * 256 ^ k := by rw [hk4, pow_q]; ac_rfl
    rw [Nat.add_mul, Nat.mul_assoc, ← Nat.pow_succ', ← Nat.succ_eq_add_one, ← e4] at *
    rw [h, e1] at hs
    omega

theorem shl32 {c r : Nat} (hc : c < 256) (hr : r < 4) : shlV .u32 (c : Int) ((8 * r : Nat) : Int) = ((c * 256 ^ r : Nat) : Int) := by
  have h2 : c * 256 ^ r < 4294967296 := by
    have h1 : (256 : Nat) ^ r ≤ 256 ^ 3 := Nat.pow_le_pow_right (by decide) (by omega)
    have h3 : c * 256 ^ r ≤ 255 * 256 ^ 3 := Nat.mul_le_mul (by omega) h1
    omega
  simp only [shlV, IntKind.bits, Int.toNat_natCast]
  rw [Nat.min_eq_left (by omega)]
  have : r = 0 ∨ r = 1 ∨ r = 2 ∨ r = 3 := by omega
  rcases this with rfl | rfl | rfl | rfl <;> simp only [Nat.reduceMul, Nat.reducePow, Int.reducePow, u32_w] at h2 ⊢ <;> omega

/-- A number's bytes. -/
def cb (y : Nat) : List UInt8 := if y = 0 then [] else cb (y / 256) ++ [UInt8.ofNat y]
termination_by y
decreasing_by omega
theorem cb_zero : cb 0 = [] := by rw [cb]; rfl
theorem cb_pos {y : Nat} (h : y ≠ 0) : cb y = cb (y / 256) ++ [UInt8.ofNat y] := by rw [cb, if_neg h]
theorem ofNat8 (n : Nat) : (UInt8.ofNat n).toNat = n % 256 := by rw [UInt8.toNat_ofNat']
theorem bv_cb (y : Nat) : bv (cb y) = y := by
  induction y using Nat.strongRecOn with
  | ind y ih =>
    by_cases h : y = 0
    · subst h; rw [cb_zero]; rfl
    · rw [cb_pos h, bv_append, ih _ (by omega)]; simp [bv]; omega
def beL : Nat → Nat → List UInt8
  | 0, _ => []
  | k + 1, x => UInt8.ofNat (x / 256 ^ k) :: beL k x
theorem beL_len (k x : Nat) : (beL k x).length = k := by
  induction k with
  | zero => rfl
  | succ k ih => rw [beL, List.length_cons, ih]
theorem beL_snoc (k x : Nat) : beL (k + 1) x = beL k (x / 256) ++ [UInt8.ofNat x] := by
  induction k with
  | zero => simp [beL]
  | succ k ih => rw [beL, ih, beL, List.cons_append, Nat.pow_succ', Nat.div_div_eq_div_mul]
theorem cb_beL (y : Nat) : cb y = beL ((bl y + 7) / 8) y := by
  induction y using Nat.strongRecOn with
  | ind y ih =>
    by_cases h : y = 0
    · subst h; rw [cb_zero]; rfl
    · rw [cb_pos h, ih _ (by omega)]
      have e : (bl y + 7) / 8 = (bl (y / 256) + 7) / 8 + 1 := by
        rcases Nat.lt_or_ge y 256 with h1 | h1
        · rw [Nat.div_eq_of_lt h1, bl_zero]
          have h2 := bl_le.2 (show y < 2 ^ 8 from h1)
          have h3 : bl y ≠ 0 := fun e => by have := bl_le.1 (Nat.le_of_eq e); simp at this; exact h this
          omega
        · have := bl_div (s := 8) (show 2 ^ 8 ≤ y from h1)
          rw [show (2 : Nat) ^ 8 = 256 from rfl] at this
          omega
      rw [e, beL_snoc]
theorem cb_len (y : Nat) : (cb y).length = (bl y + 7) / 8 := by rw [cb_beL, beL_len]
theorem cb_step {x k : Nat} : cb (x / 256 ^ k) = if cb (x / 256 ^ (k + 1)) = [] ∧ x / 256 ^ k % 256 = 0 then [] else cb (x / 256 ^ (k + 1)) ++ [UInt8.ofNat (x / 256 ^ k % 256)] := by
  have e : x / 256 ^ (k + 1) = x / 256 ^ k / 256 := by rw [Nat.pow_succ, Nat.div_div_eq_div_mul]
  rw [e]
  obtain ⟨y, hy⟩ : ∃ y, x / 256 ^ k = y := ⟨_, rfl⟩
  rw [hy]
  have e8 : UInt8.ofNat (y % 256) = UInt8.ofNat y := by apply UInt8.toNat_inj.1; rw [ofNat8, ofNat8]; omega
  rw [e8]
  by_cases h : y = 0
  · subst h; simp [cb_zero]
  · rw [cb_pos h]
    have : ¬ (cb (y / 256) = [] ∧ y % 256 = 0) := fun ⟨h1, h2⟩ => by
      have := bv_cb (y / 256)
      rw [h1] at this
      simp [bv] at this
      omega
    rw [if_neg this]
theorem getByte {l : List UInt32} {i k : Nat} (hk : k < 4) : (l.getD i 0).toNat / 256 ^ k % 256 = lv l / 256 ^ (4 * i + k) % 256 := by
  rw [lv_get, pow_q, ← Nat.div_div_eq_div_mul]
  obtain ⟨z, hz⟩ : ∃ z, lv l / 4294967296 ^ i = z := ⟨_, rfl⟩
  rw [hz]
  have : k = 0 ∨ k = 1 ∨ k = 2 ∨ k = 3 := by omega
  rcases this with rfl | rfl | rfl | rfl <;> simp only [Nat.reducePow] <;> omega
theorem bv_cb_drop (l : List UInt8) : (cb (bv l)).length ≤ l.length ∧ l.drop (l.length - (cb (bv l)).length) = cb (bv l) := by
  have key : ∀ l : List UInt8, ∃ z, l = List.replicate z 0 ++ cb (bv l) := by
    intro l
    generalize hn : l.length = n
    induction n generalizing l with
    | zero => rw [List.eq_nil_of_length_eq_zero hn]; exact ⟨0, by simp [bv, cb_zero]⟩
    | succ n ih =>
      have hs : l = l.take n ++ [l.getD n 0] := by rw [← take_snoc8 (by omega), List.take_of_length_le (by omega)]
      obtain ⟨z, hz⟩ := ih (l.take n) (by simp; omega)
      have hb : bv l = bv (l.take n) * 256 + (l.getD n 0).toNat := by rw [← bv_take (by omega), List.take_of_length_le (by omega)]
      have h8 := lt8 (l.getD n 0)
      by_cases h0 : bv l = 0
      · have e1 : bv (l.take n) = 0 := by omega
        have e2 : l.getD n 0 = 0 := by apply UInt8.toNat_inj.1; show _ = 0; omega
        refine ⟨z + 1, ?_⟩
        rw [h0, cb_zero, List.append_nil]
        rw [e1, cb_zero, List.append_nil] at hz
        rw [hs, e2, hz, List.replicate_succ']
      · refine ⟨z, ?_⟩
        have e1 : bv l / 256 = bv (l.take n) := by omega
        have e2 : UInt8.ofNat (bv l) = l.getD n 0 := by apply UInt8.toNat_inj.1; rw [ofNat8]; omega
        rw [cb_pos h0, e1, e2, ← List.append_assoc, ← hz]
        exact hs
  obtain ⟨z, hz⟩ := key l
  obtain ⟨y, hy⟩ : ∃ y, bv l = y := ⟨_, rfl⟩
  rw [hy] at hz ⊢
  subst hz
  simp
end Go.Ga

namespace Go.Ga
open Go Go.Proofs
set_option linter.unusedSimpArgs false
set_option linter.unusedVariables false
set_option maxRecDepth 100000
attribute [local irreducible] appendK

section
variable {nx : Nat} {gt : Nat → Option Blk}

theorem u8_cell {A : Option Addr} {n : Nat} {l : List UInt8} (hr : Row nx gt 1 A n (l.map u8V)) (hl : l.length = n) {i : Nat} (hi : i < n) : ∃ a ce ro, A = some a ∧ a.block < nx ∧ gt a.block = some (.cells ce ro) ∧ a.off + i < ce.length ∧ ce.getD (a.off + i) undef = .int .u8 ((l.getD i 0).toNat : Nat) := by
  obtain ⟨a, ce, ro, h1, h2, h3, h4, h5⟩ := hr.cells (by omega)
  exact ⟨a, ce, ro, h1, h2, h3, by omega, by rw [h5 i hi, getD_u8 (by omega)]⟩

theorem ct_From {A : Option Addr} {n c : Nat} {l : List UInt8} (hr : Row nx gt 1 A n (l.map u8V)) (hn : n < 100000000) :
    Ct Try.prog 34 [.slice A n c] nx gt fun v nx' gt' => W32 nx' gt' v (lb (bv l)) := by
  have hl : l.length = n := by simpa using hr.len
  refine Ct.of hmx r_limb_From (by simp [c_limb_From]) fun b hb => ?_
  have e1 : (n : Int) + 4 = ((n + 4 : Nat) : Int) := by omega
  have e2 : ((n + 4 : Nat) : Int) - 1 = ((n + 3 : Nat) : Int) := by omega
  have e3 : ((n + 3 : Nat) : Int).tdiv 4 = (((n + 3) / 4 : Nat) : Int) := rfl
  obtain ⟨M, hM⟩ : ∃ M, (n + 3) / 4 = M := ⟨_, rfl⟩
  simp only [c_limb_From, ↓gaW, ↓gaV, ↓gaC, ↓gaN, gaP, Nat.reduceEqDiff, Nat.reduceLeDiff, Nat.reduceAdd, Nat.reduceSub, Nat.reduceMul, Int.reduceLT, Int.reduceLE, Int.reduceEq, Int.reduceToNat, Int.reduceAdd, Int.reduceSub, Int.reduceMul, reduceCtorEq, ↓reduceIte, e1, i64_w ((n + 4 : Nat) : Int) (by omega), e2, i64_w ((n + 3 : Nat) : Int) (by omega), e3, hM, i64_w (M : Int) (by omega), zeros32]
  repeat refine And.intro (by first | omega | simp) ?_
  refine loop_of (fun j f mm => ∃ (i : Nat) (g : Nat → Option Blk) (w : List UInt32), j = n - i ∧ i ≤ n ∧ f 0 = .slice A n c ∧ f 3 = .slice (some ⟨nx, 0, none⟩) M M ∧ f 13 = .slice A n c ∧ f 14 = .int .i64 (n : Nat) ∧ f 15 = .int .i64 (i : Nat) ∧ mm = ⟨nx + 1, b, g⟩ ∧
      (∀ q, q < nx → g q = gt q) ∧ g nx = some (.cells (w.map u32V) false) ∧ w.length = M ∧ lv w = bv (l.take i) * 256 ^ (n - i)) n
    ⟨0, _, List.replicate M 0, by omega, by omega, rfl, rfl, rfl, rfl, rfl, rfl, fun q hq => by simp only [upd_e]; rw [if_neg (by omega)], by simp only [upd_e, if_true], by simp, by simp [lv_replicate, bv]⟩ ?_
  rintro j f mm ⟨i, g, w, rfl, hi, h0, h3, h13, h14, h15, rfl, hg, hgn, hw, he⟩
  by_cases hlt : (i : Int) < (n : Int)
  · obtain ⟨a, ce, ro, rfl, a1, a2, a3, a4⟩ := u8_cell hr hl (i := i) (by omega)
    have a2' : g a.block = some (.cells ce ro) := by rw [hg _ a1, a2]
    obtain ⟨k, hk⟩ : ∃ k, k = n - 1 - i := ⟨_, rfl⟩
    obtain ⟨V, hV, v1, v2, v3⟩ := from_step hl (show i < n by omega) hk he (by omega)
    have hc := lt8 (l.getD i 0)
    obtain ⟨C, hC⟩ : ∃ C, (l.getD i 0).toNat = C := ⟨_, rfl⟩
    rw [hC] at a4 v1 v2 v3 hc
    have q1 : (i : Int) + 1 = ((i + 1 : Nat) : Int) := by omega
    have q2 : (n : Int) - 1 = ((n - 1 : Nat) : Int) := by omega
    have q3 : ((n - 1 : Nat) : Int) - (i : Int) = (k : Int) := by omega
    have q4 : (k : Int).tdiv 4 = ((k / 4 : Nat) : Int) := rfl
    have q5 : (k : Int).tmod 4 = ((k % 4 : Nat) : Int) := rfl
    have q6 : ((k % 4 : Nat) : Int) * 8 = ((8 * (k % 4) : Nat) : Int) := by omega
    have q7 : IntKind.u32.wrap (C : Int) = (C : Int) := u32_i _ (by omega)
    have q8 := shl32 hc (show k % 4 < 4 by omega)
    have q9 := or_u32 (x := V) (y := C * 256 ^ (k % 4)) (by omega) (by omega)
    have qa : (w.map u32V).getD (k / 4) undef = .int .u32 (V : Nat) := by rw [getD_u32 (by omega), hV]
    simp only [↓gaW, ↓gaV, ↓gaC, ↓gaN, gaP, Nat.reduceEqDiff, Nat.reduceLeDiff, Nat.reduceAdd, Nat.reduceSub, Nat.reduceMul, Int.reduceLT, Int.reduceLE, Int.reduceEq, Int.reduceToNat, Int.reduceAdd, Int.reduceSub, Int.reduceMul, reduceCtorEq, ↓reduceIte, h0, h3, h13, h14, h15, hlt, decide_true, a2', a4, q1, q2, q3, q4, q5, q6, q7, i64_w ((i + 1 : Nat) : Int) (by omega), i64_w ((n - 1 : Nat) : Int) (by omega), i64_w (k : Int) (by omega), i64_w ((k / 4 : Nat) : Int) (by omega), i64_w ((8 * (k % 4) : Nat) : Int) (by omega), q8, qa, q9, v2, hgn, Nat.mul_one, Nat.zero_add, u32V_lt v1, cv_u32, splice_set (show k / 4 < w.length by omega), loopK_n]
    repeat refine And.intro (by first | omega | (simp; omega) | exact all1 (cl_u32 _)) ?_
    refine ⟨n - (i + 1), by omega, i + 1, upd g nx (some (.cells ((w.set (k / 4) (UInt32.ofNat (V + C * 256 ^ (k % 4)))).map u32V) false)), w.set (k / 4) (UInt32.ofNat (V + C * 256 ^ (k % 4))), ?_⟩
    (repeat' refine And.intro ?_ ?_) <;> first | rfl | assumption | omega | (intro q hq; simp (disch := omega) only [upd_e, if_neg, hg]; done) | (simp only [upd_e, if_true]; done) | skip
    simp [hw]
  · have hin : i = n := by omega
    subst hin
    rw [List.take_of_length_le (show l.length ≤ i by omega), Nat.sub_self, Nat.pow_zero, Nat.mul_one] at he
    simp only [↓gaW, ↓gaV, ↓gaC, ↓gaN, gaP, Nat.reduceEqDiff, Nat.reduceLeDiff, Nat.reduceAdd, Nat.reduceSub, Nat.reduceMul, Int.reduceLT, Int.reduceLE, Int.reduceEq, Int.reduceToNat, Int.reduceAdd, Int.reduceSub, Int.reduceMul, reduceCtorEq, ↓reduceIte, gaE, implies_true, Nat.le_refl, Int.sub_zero, Nat.sub_zero, Int.le_refl, true_or, or_true, h0, h3, h14, h15, hlt, decide_false, loopK_e]
    refine callK_of (ct_bare (Row.w32 (by omega) hgn hw) (Nat.le_refl _) (by omega)) (fun v n1 g1 l1 k1 hC => ?_) (by omega)
    rw [he] at hC
    simp only [↓gaW, ↓gaV, ↓gaC, ↓gaN, gaP, Nat.reduceEqDiff, Nat.reduceLeDiff, Nat.reduceAdd, Nat.reduceSub, Nat.reduceMul, Int.reduceLT, Int.reduceLE, Int.reduceEq, Int.reduceToNat, Int.reduceAdd, Int.reduceSub, Int.reduceMul, reduceCtorEq, ↓reduceIte, gaE, implies_true, Nat.le_refl, Int.sub_zero, Nat.sub_zero, Int.le_refl, true_or, or_true]
    exact ⟨by omega, fun q hq => by rw [k1 q (by omega), hg q hq], hC⟩

theorem ct_rFrom {A : Option Addr} {n c : Nat} {l : List UInt8} (hr : Row nx gt 1 A n (l.map u8V)) (hn : n < 100000000) :
    Ct Try.prog 47 [.slice A n c] nx gt fun v nx' gt' => W32 nx' gt' v (lb (bv l)) := by
  have hl : l.length = n := by simpa using hr.len
  refine Ct.of hmx r_lanyardref07_From (by simp [c_lanyardref07_From]) fun b hb => ?_
  have e1 : (n : Int).tdiv 4 = ((n / 4 : Nat) : Int) := rfl
  obtain ⟨M, hM⟩ : ∃ M, n / 4 + 1 = M := ⟨_, rfl⟩
  have e2 : ((n / 4 : Nat) : Int) + 1 = (M : Int) := by omega
  simp only [c_lanyardref07_From, ↓gaW, ↓gaV, ↓gaC, ↓gaN, gaP, Nat.reduceEqDiff, Nat.reduceLeDiff, Nat.reduceAdd, Nat.reduceSub, Nat.reduceMul, Int.reduceLT, Int.reduceLE, Int.reduceEq, Int.reduceToNat, Int.reduceAdd, Int.reduceSub, Int.reduceMul, reduceCtorEq, ↓reduceIte, e1, i64_w ((n / 4 : Nat) : Int) (by omega), e2, i64_w (M : Int) (by omega), zeros32]
  repeat refine And.intro (by first | omega | simp) ?_
  refine loop_of (fun j f mm => ∃ (i : Nat) (g : Nat → Option Blk) (w : List UInt32), j = n - i ∧ i ≤ n ∧ f 0 = .slice A n c ∧ f 3 = .slice (some ⟨nx, 0, none⟩) M M ∧ f 4 = .int .i64 (i : Nat) ∧ mm = ⟨nx + 1, b, g⟩ ∧
      (∀ q, q < nx → g q = gt q) ∧ g nx = some (.cells (w.map u32V) false) ∧ w.length = M ∧ lv w = bv (l.take i) * 256 ^ (n - i)) n
    ⟨0, _, List.replicate M 0, by omega, by omega, rfl, rfl, rfl, rfl, fun q hq => by simp only [upd_e]; rw [if_neg (by omega)], by simp only [upd_e, if_true], by simp, by simp [lv_replicate, bv]⟩ ?_
  rintro j f mm ⟨i, g, w, rfl, hi, h0, h3, h4, rfl, hg, hgn, hw, he⟩
  by_cases hlt : (i : Int) < (n : Int)
  · obtain ⟨a, ce, ro, rfl, a1, a2, a3, a4⟩ := u8_cell hr hl (i := i) (by omega)
    have a2' : g a.block = some (.cells ce ro) := by rw [hg _ a1, a2]
    obtain ⟨k, hk⟩ : ∃ k, k = n - 1 - i := ⟨_, rfl⟩
    obtain ⟨V, hV, v1, v2, v3⟩ := from_step hl (show i < n by omega) hk he (by omega)
    have hc := lt8 (l.getD i 0)
    obtain ⟨C, hC⟩ : ∃ C, (l.getD i 0).toNat = C := ⟨_, rfl⟩
    rw [hC] at a4 v1 v2 v3 hc
    have q1 : (i : Int) + 1 = ((i + 1 : Nat) : Int) := by omega
    have q2 : (n : Int) - 1 = ((n - 1 : Nat) : Int) := by omega
    have q3 : ((n - 1 : Nat) : Int) - (i : Int) = (k : Int) := by omega
    have q4 : (k : Int).tdiv 4 = ((k / 4 : Nat) : Int) := rfl
    have q5 : (k : Int).tmod 4 = ((k % 4 : Nat) : Int) := rfl
    have q6 : 8 * ((k % 4 : Nat) : Int) = ((8 * (k % 4) : Nat) : Int) := by omega
    have q7 : IntKind.u32.wrap (C : Int) = (C : Int) := u32_i _ (by omega)
    have q8 := shl32 hc (show k % 4 < 4 by omega)
    have q9 : (V : Int) + ((C * 256 ^ (k % 4) : Nat) : Int) = ((V + C * 256 ^ (k % 4) : Nat) : Int) := by omega
    have qb := u32_i ((V + C * 256 ^ (k % 4) : Nat) : Int) (by omega)
    have qa : (w.map u32V).getD (k / 4) undef = .int .u32 (V : Nat) := by rw [getD_u32 (by omega), hV]
    simp only [↓gaW, ↓gaV, ↓gaC, ↓gaN, gaP, Nat.reduceEqDiff, Nat.reduceLeDiff, Nat.reduceAdd, Nat.reduceSub, Nat.reduceMul, Int.reduceLT, Int.reduceLE, Int.reduceEq, Int.reduceToNat, Int.reduceAdd, Int.reduceSub, Int.reduceMul, reduceCtorEq, ↓reduceIte, h0, h3, h4, hlt, decide_true, a2', a4, q1, q2, q3, q4, q5, q6, q7, i64_w ((i + 1 : Nat) : Int) (by omega), i64_w ((n - 1 : Nat) : Int) (by omega), i64_w (k : Int) (by omega), i64_w ((k / 4 : Nat) : Int) (by omega), i64_w ((8 * (k % 4) : Nat) : Int) (by omega), q8, qa, q9, qb, hgn, Nat.mul_one, Nat.zero_add, u32V_lt v1, cv_u32, splice_set (show k / 4 < w.length by omega), loopK_n]
    repeat refine And.intro (by first | omega | (simp; omega) | exact all1 (cl_u32 _)) ?_
    refine ⟨n - (i + 1), by omega, i + 1, upd g nx (some (.cells ((w.set (k / 4) (UInt32.ofNat (V + C * 256 ^ (k % 4)))).map u32V) false)), w.set (k / 4) (UInt32.ofNat (V + C * 256 ^ (k % 4))), ?_⟩
    (repeat' refine And.intro ?_ ?_) <;> first | rfl | assumption | omega | (intro q hq; simp (disch := omega) only [upd_e, if_neg, hg]; done) | (simp only [upd_e, if_true]; done) | skip
    simp [hw]
  · have hin : i = n := by omega
    subst hin
    rw [List.take_of_length_le (show l.length ≤ i by omega), Nat.sub_self, Nat.pow_zero, Nat.mul_one] at he
    simp only [↓gaW, ↓gaV, ↓gaC, ↓gaN, gaP, Nat.reduceEqDiff, Nat.reduceLeDiff, Nat.reduceAdd, Nat.reduceSub, Nat.reduceMul, Int.reduceLT, Int.reduceLE, Int.reduceEq, Int.reduceToNat, Int.reduceAdd, Int.reduceSub, Int.reduceMul, reduceCtorEq, ↓reduceIte, gaE, implies_true, Nat.le_refl, Int.sub_zero, Nat.sub_zero, Int.le_refl, true_or, or_true, h0, h3, h4, hlt, decide_false, loopK_e]
    refine callK_of (ct_rBare (Row.w32 (by omega) hgn hw) (Nat.le_refl _) (by omega)) (fun v n1 g1 l1 k1 hC => ?_) (by omega)
    rw [he] at hC
    simp only [↓gaW, ↓gaV, ↓gaC, ↓gaN, gaP, Nat.reduceEqDiff, Nat.reduceLeDiff, Nat.reduceAdd, Nat.reduceSub, Nat.reduceMul, Int.reduceLT, Int.reduceLE, Int.reduceEq, Int.reduceToNat, Int.reduceAdd, Int.reduceSub, Int.reduceMul, reduceCtorEq, ↓reduceIte, gaE, implies_true, Nat.le_refl, Int.sub_zero, Nat.sub_zero, Int.le_refl, true_or, or_true]
    exact ⟨by omega, fun q hq => by rw [k1 q (by omega), hg q hq], hC⟩
end
end Go.Ga

namespace Go.Ga
open Go Go.Proofs
set_option linter.unusedSimpArgs false
set_option linter.unusedVariables false
set_option maxRecDepth 100000
attribute [local irreducible] appendK

theorem splice_set8 {l : List UInt8} {i : Nat} {x : UInt8} (h : i < l.length) : splice (l.map u8V) i [u8V x] = (l.set i x).map u8V := by
  rw [List.map_set, List.set_eq_take_append_cons_drop, if_pos (by simpa using h)]
  simp [splice]
theorem zeros8 (k : Nat) : ((List.range k).map fun i => [Value.int .u8 0].getD (i % 1) undef) = (List.replicate k (0 : UInt8)).map u8V := by
  have h : (fun i : Nat => [Value.int .u8 0].getD (i % 1) undef) = fun _ => u8V 0 := by funext i; simp [Nat.mod_one]; rfl
  rw [h]
  refine List.ext_getElem (by simp) fun i h1 h2 => by simp
theorem be_set {m k x : Nat} (h : k < m) : (List.replicate (m - k) (0 : UInt8) ++ beL k x).set (m - 1 - k) (UInt8.ofNat (x / 256 ^ k)) = List.replicate (m - (k + 1)) 0 ++ beL (k + 1) x := by
  obtain ⟨z, hz⟩ : ∃ z, m - 1 - k = z := ⟨_, rfl⟩
  rw [hz, show m - k = z + 1 by omega, show m - (k + 1) = z by omega, List.replicate_succ', List.append_assoc, List.set_append_right _ _ (by simp)]
  simp [beL]
theorem u8V_of (V r y : Nat) (h : V / 256 ^ r % 256 = y % 256) : Value.int .u8 (IntKind.u8.wrap ((V / 2 ^ (8 * r) : Nat) : Int)) = u8V (UInt8.ofNat y) := by
  rw [u8V, ofNat8, u8_w, ← h, Nat.pow_mul]; rfl

section
variable {nx : Nat} {gt : Nat → Option Blk}

theorem ct_To {A : Option Addr} {n c : Nat} {l : List UInt32} (hr : Row nx gt 1 A n (l.map u32V)) (hc : n ≤ c) (hn : n < 100000000) :
    Ct Try.prog 46 [.slice A n c] nx gt fun v nx' gt' => BySl nx' gt' v (cb (lv l)) := by
  have hl : l.length = n := by simpa using hr.len
  refine Ct.of hmx r_limb_To (by simp [c_limb_To]) fun b hb => ?_
  have s1 : bl (lv l) ≤ 32 * n := by
    refine bl_le.2 ?_
    have := lv_lt l
    rw [hl] at this
    rw [Nat.pow_mul]; exact this
  obtain ⟨M, hM⟩ : ∃ M, (bl (lv l) + 7) / 8 = M := ⟨_, rfl⟩
  have e1 : ((bl (lv l) : Nat) : Int) + 7 = ((bl (lv l) + 7 : Nat) : Int) := by omega
  have e2 : ((bl (lv l) + 7 : Nat) : Int).tdiv 8 = (((bl (lv l) + 7) / 8 : Nat) : Int) := rfl
  rw [hM] at e2
  simp only [c_limb_To, ↓gaW, ↓gaV, ↓gaC, ↓gaN, gaP, Nat.reduceEqDiff, Nat.reduceLeDiff, Nat.reduceAdd, Nat.reduceSub, Nat.reduceMul, Int.reduceLT, Int.reduceLE, Int.reduceEq, Int.reduceToNat, Int.reduceAdd, Int.reduceSub, Int.reduceMul, reduceCtorEq, ↓reduceIte]
  refine callK_of (ct_Len hr hc (by omega)) (fun v n1 g1 l1 k1 hC => ?_) (by omega)
  subst hC
  have hr := hr.keep l1 k1
  simp only [↓gaW, ↓gaV, ↓gaC, ↓gaN, gaP, Nat.reduceEqDiff, Nat.reduceLeDiff, Nat.reduceAdd, Nat.reduceSub, Nat.reduceMul, Int.reduceLT, Int.reduceLE, Int.reduceEq, Int.reduceToNat, Int.reduceAdd, Int.reduceSub, Int.reduceMul, reduceCtorEq, ↓reduceIte, e1, i64_w ((bl (lv l) + 7 : Nat) : Int) (by omega), e2, i64_w (M : Int) (by omega), zeros8]
  repeat refine And.intro (by first | omega | simp) ?_
  refine loop_of (fun j f mm => ∃ (k : Nat) (g : Nat → Option Blk), j = M - k ∧ k ≤ M ∧ f 0 = .slice A n c ∧ f 3 = .int .i64 (M : Nat) ∧ f 4 = .slice (some ⟨n1, 0, none⟩) M M ∧ f 12 = .int .i64 (M : Nat) ∧ f 13 = .int .i64 (k : Nat) ∧ mm = ⟨n1 + 1, b, g⟩ ∧
      (∀ q, q < n1 → g q = g1 q) ∧ g n1 = some (.cells ((List.replicate (M - k) 0 ++ beL k (lv l)).map u8V) false)) M
    ⟨0, _, by omega, by omega, rfl, rfl, rfl, rfl, rfl, rfl, fun q hq => by simp only [upd_e]; rw [if_neg (by omega)], by simp [upd_e, beL]⟩ ?_
  rintro j f mm ⟨k, g, rfl, hi, h0, h3, h4, h12, h13, rfl, hg, hgn⟩
  by_cases hlt : (k : Int) < (M : Int)
  · obtain ⟨a, ce, ro, rfl, a1, a2, a3, a4⟩ := w32_cell hr hl (i := k / 4) (by omega)
    have a2' : g a.block = some (.cells ce ro) := by rw [hg _ a1, a2]
    have q1 : (k : Int) + 1 = ((k + 1 : Nat) : Int) := by omega
    have q2 : (M : Int) - 1 = ((M - 1 : Nat) : Int) := by omega
    have q3 : ((M - 1 : Nat) : Int) - (k : Int) = ((M - 1 - k : Nat) : Int) := by omega
    have q4 : (k : Int).tdiv 4 = ((k / 4 : Nat) : Int) := rfl
    have q5 : (k : Int).tmod 4 = ((k % 4 : Nat) : Int) := rfl
    have q6 : ((k % 4 : Nat) : Int) * 8 = ((8 * (k % 4) : Nat) : Int) := by omega
    have q8 : shrV .u32 (((l.getD (k / 4) 0).toNat : Nat) : Int) ((8 * (k % 4) : Nat) : Int) = (((l.getD (k / 4) 0).toNat / 2 ^ (8 * (k % 4)) : Nat) : Int) := shr_nat (k := .u32) _ _ (by show _ ≤ 32; omega)
    have q9 := u8V_of _ (k % 4) (lv l / 256 ^ k) (by rw [getByte (l := l) (i := k / 4) (show k % 4 < 4 by omega), show 4 * (k / 4) + k % 4 = k by omega])
    have hlen : (List.replicate (M - k) (0 : UInt8) ++ beL k (lv l)).length = M := by simp [beL_len]; omega
    simp only [↓gaW, ↓gaV, ↓gaC, ↓gaN, gaP, Nat.reduceEqDiff, Nat.reduceLeDiff, Nat.reduceAdd, Nat.reduceSub, Nat.reduceMul, Int.reduceLT, Int.reduceLE, Int.reduceEq, Int.reduceToNat, Int.reduceAdd, Int.reduceSub, Int.reduceMul, reduceCtorEq, ↓reduceIte, h0, h3, h4, h12, h13, hlt, decide_true, a2', a4, q1, q2, q3, q4, q5, q6, i64_w ((k + 1 : Nat) : Int) (by omega), i64_w ((M - 1 : Nat) : Int) (by omega), i64_w ((M - 1 - k : Nat) : Int) (by omega), i64_w ((k / 4 : Nat) : Int) (by omega), i64_w ((8 * (k % 4) : Nat) : Int) (by omega), q8, q9, hgn, Nat.mul_one, Nat.zero_add, cv_u8, splice_set8 (show M - 1 - k < (List.replicate (M - k) (0 : UInt8) ++ beL k (lv l)).length by omega), be_set (show k < M by omega), loopK_n]
    repeat refine And.intro (by first | omega | (simp [beL_len]; omega) | exact all1 rfl) ?_
    refine ⟨M - (k + 1), by omega, k + 1, upd g n1 (some (.cells ((List.replicate (M - (k + 1)) 0 ++ beL (k + 1) (lv l)).map u8V) false)), ?_⟩
    (repeat' refine And.intro ?_ ?_) <;> first | rfl | assumption | omega | (intro q hq; simp (disch := omega) only [upd_e, if_neg, hg]; done) | (simp only [upd_e, if_true]; done) | skip
  · have hin : k = M := by omega
    subst hin
    rw [Nat.sub_self, List.replicate_zero, List.nil_append, ← hM, ← cb_beL] at hgn
    simp only [↓gaW, ↓gaV, ↓gaC, ↓gaN, gaP, Nat.reduceEqDiff, Nat.reduceLeDiff, Nat.reduceAdd, Nat.reduceSub, Nat.reduceMul, Int.reduceLT, Int.reduceLE, Int.reduceEq, Int.reduceToNat, Int.reduceAdd, Int.reduceSub, Int.reduceMul, reduceCtorEq, ↓reduceIte, gaE, implies_true, Nat.le_refl, Int.sub_zero, Nat.sub_zero, Int.le_refl, true_or, or_true, h3, h4, h12, h13, hlt, decide_false, loopK_e]
    refine ⟨by omega, fun q hq => by rw [hg q (by omega), k1 q hq], ?_⟩
    refine BySl.mk (.inl rfl) (by omega) hgn (Nat.le_refl _) ?_ ?_ ?_
    · simp [cb_len, hM]
    · rw [cb_len, hM]
    · intro i hi; rw [getD_u8 (by rw [cb_len, hM]; exact hi)]; rfl

theorem ct_rTo {A : Option Addr} {n c : Nat} {l : List UInt32} (hr : Row nx gt 1 A n (l.map u32V)) (hn : n < 100000000) :
    Ct Try.prog 54 [.slice A n c] nx gt fun v nx' gt' => BySl nx' gt' v (cb (lv l)) := by
  have hl : l.length = n := by simpa using hr.len
  refine Ct.of hmx r_lanyardref07_To (by simp [c_lanyardref07_To]) fun b hb => ?_
  have hS : ∀ e, (cb (lv l / e)).length ≤ 4 * n + 1 := fun e => by
    rw [cb_len]
    have : bl (lv l / e) ≤ 32 * n := by
      refine bl_le.2 (Nat.lt_of_le_of_lt (Nat.div_le_self _ _) ?_)
      have := lv_lt l
      rw [hl] at this
      rw [Nat.pow_mul]; exact this
    omega
  simp only [c_lanyardref07_To, ↓gaW, ↓gaV, ↓gaC, ↓gaN, gaP, Nat.reduceEqDiff, Nat.reduceLeDiff, Nat.reduceAdd, Nat.reduceSub, Nat.reduceMul, Int.reduceLT, Int.reduceLE, Int.reduceEq, Int.reduceToNat, Int.reduceAdd, Int.reduceSub, Int.reduceMul, reduceCtorEq, ↓reduceIte, i64_w ((n : Int) - 1) (by omega)]
  refine loop_of (fun j f mm => ∃ (y x : Nat) (g : Nat → Option Blk) (Q : Option Addr) (s : Nat), j = y ∧ y ≤ n ∧ f 0 = .slice A n c ∧ f 3 = .slice Q s s ∧ f 4 = .int .i64 ((y : Int) - 1) ∧ mm = ⟨x, b, g⟩ ∧ nx ≤ x ∧
      (∀ q, q < nx → g q = gt q) ∧ Grow nx b x g 1 Q s ((cb (lv l / 256 ^ (4 * y))).map u8V)) n
    ⟨n, nx, gt, none, 0, rfl, by omega, rfl, rfl, rfl, rfl, by omega, fun _ _ => rfl, by
      rw [Nat.div_eq_of_lt (by have := lv_lt l; rw [hl] at this; rw [Nat.pow_mul]; exact this), cb_zero]; exact .nil⟩ ?_
  rintro j f mm ⟨y, x, g, Q, s, rfl, hy, h0, h3, h4, rfl, hx, hg, hgr⟩
  rcases Nat.eq_zero_or_pos j with rfl | hj
  · simp only [↓gaW, ↓gaV, ↓gaC, ↓gaN, gaP, Nat.reduceEqDiff, Nat.reduceLeDiff, Nat.reduceAdd, Nat.reduceSub, Nat.reduceMul, Int.reduceLT, Int.reduceLE, Int.reduceEq, Int.reduceToNat, Int.reduceAdd, Int.reduceSub, Int.reduceMul, reduceCtorEq, ↓reduceIte, gaE, implies_true, Nat.le_refl, Int.sub_zero, Nat.sub_zero, Int.le_refl, true_or, or_true, h3, h4, show ((0 : Nat) : Int) - 1 = -1 from rfl, show ¬ (0 : Int) ≤ -1 by omega, decide_false, loopK_e]
    rw [Nat.mul_zero, Nat.pow_zero, Nat.div_one] at hgr
    exact ⟨by omega, hg, hgr.byte⟩
  · obtain ⟨z, rfl⟩ : ∃ z, j = z + 1 := ⟨j - 1, by omega⟩
    rw [show ((z + 1 : Nat) : Int) - 1 = (z : Int) by omega] at h4
    obtain ⟨a, ce, ro, rfl, a1, a2, a3, a4⟩ := w32_cell hr hl (i := z) (by omega)
    simp only [↓gaW, ↓gaV, ↓gaC, ↓gaN, gaP, Nat.reduceEqDiff, Nat.reduceLeDiff, Nat.reduceAdd, Nat.reduceSub, Nat.reduceMul, Int.reduceLT, Int.reduceLE, Int.reduceEq, Int.reduceToNat, Int.reduceAdd, Int.reduceSub, Int.reduceMul, reduceCtorEq, ↓reduceIte, h4, show (0 : Int) ≤ (z : Int) by omega, decide_true]
    refine loop_of (fun j f mm => ∃ (t x : Nat) (g : Nat → Option Blk) (Q : Option Addr) (s : Nat), j = t ∧ t ≤ 4 ∧ f 0 = .slice (some a) n c ∧ f 3 = .slice Q s s ∧ f 4 = .int .i64 (z : Nat) ∧ f 5 = .int .i64 ((t : Int) - 1) ∧ mm = ⟨x, b, g⟩ ∧ nx ≤ x ∧
        (∀ q, q < nx → g q = gt q) ∧ Grow nx b x g 1 Q s ((cb (lv l / 256 ^ (4 * z + t))).map u8V)) 4
      ⟨4, x, g, Q, s, rfl, by omega, h0, h3, h4, rfl, rfl, hx, hg, hgr⟩ ?_
    clear hgr hg h3 h0 hx
    rintro j f mm ⟨t, x, g, Q, s, rfl, ht, h0, h3, h4, h5, rfl, hx, hg, hgr⟩
    rcases Nat.eq_zero_or_pos j with rfl | hj
    · simp only [↓gaW, ↓gaV, ↓gaC, ↓gaN, gaP, Nat.reduceEqDiff, Nat.reduceLeDiff, Nat.reduceAdd, Nat.reduceSub, Nat.reduceMul, Int.reduceLT, Int.reduceLE, Int.reduceEq, Int.reduceToNat, Int.reduceAdd, Int.reduceSub, Int.reduceMul, reduceCtorEq, ↓reduceIte, h3, h4, h5, show ((0 : Nat) : Int) - 1 = -1 from rfl, show ¬ (0 : Int) ≤ -1 by omega, decide_false, i64_w ((z : Int) - 1) (by omega), loopK_e, loopK_n]
      exact ⟨z, by omega, z, x, g, Q, s, rfl, by omega, h0, rfl, rfl, rfl, hx, hg, hgr⟩
    · obtain ⟨t, rfl⟩ : ∃ t, j = t + 1 := ⟨j - 1, by omega⟩
      rw [show ((t + 1 : Nat) : Int) - 1 = (t : Int) by omega] at h5
      have a2' : g a.block = some (.cells ce ro) := by rw [hg _ a1, a2]
      have hst := cb_step (x := lv l) (k := 4 * z + t)
      have q5 : 8 * (t : Int) = ((8 * t : Nat) : Int) := by omega
      have q8 : shrV .u32 (((l.getD z 0).toNat : Nat) : Int) ((8 * t : Nat) : Int) = (((l.getD z 0).toNat / 2 ^ (8 * t) : Nat) : Int) := shr_nat (k := .u32) _ _ (by show _ ≤ 32; omega)
      have q9 : IntKind.u8.wrap (((l.getD z 0).toNat / 2 ^ (8 * t) : Nat) : Int) = ((lv l / 256 ^ (4 * z + t) % 256 : Nat) : Int) := by
        rw [← getByte (l := l) (i := z) (show t < 4 by omega), u8_w, Nat.pow_mul]; rfl
      obtain ⟨D, hD⟩ : ∃ D, lv l / 256 ^ (4 * z + t) % 256 = D := ⟨_, rfl⟩
      have hD2 : D < 256 := by omega
      rw [hD] at q9 hst
      have u8D : Value.int .u8 ((D : Nat) : Int) = u8V (UInt8.ofNat D) := by rw [u8V, ofNat8, Nat.mod_eq_of_lt hD2]
      have w5 := i64_w ((t : Int) - 1) (by omega)
      have hs : s = (cb (lv l / 256 ^ (4 * z + (t + 1)))).length := by simpa using hgr.len.symm
      have hs2 := hS (256 ^ (4 * z + (t + 1)))
      rw [show 4 * z + t + 1 = 4 * z + (t + 1) from rfl] at hst
      simp only [↓gaW, ↓gaV, ↓gaC, ↓gaN, gaP, Nat.reduceEqDiff, Nat.reduceLeDiff, Nat.reduceAdd, Nat.reduceSub, Nat.reduceMul, Int.reduceLT, Int.reduceLE, Int.reduceEq, Int.reduceToNat, Int.reduceAdd, Int.reduceSub, Int.reduceMul, reduceCtorEq, ↓reduceIte, h0, h3, h4, h5, a2', a4, show (0 : Int) ≤ (t : Int) by omega, decide_true, q5, i64_w ((8 * t : Nat) : Int) (by omega), q8, q9]
      repeat refine And.intro (by omega) ?_
      by_cases c1 : (0 : Int) < (s : Int)
      · simp only [↓gaW, ↓gaV, ↓gaC, ↓gaN, gaP, Nat.reduceEqDiff, Nat.reduceLeDiff, Nat.reduceAdd, Nat.reduceSub, Nat.reduceMul, Int.reduceLT, Int.reduceLE, Int.reduceEq, Int.reduceToNat, Int.reduceAdd, Int.reduceSub, Int.reduceMul, reduceCtorEq, ↓reduceIte, h0, h3, h4, h5, c1, decide_true]
        simp only [List.getD_cons_zero, List.getD_cons_succ, fillL, splice, List.take_zero, List.drop_zero, List.drop_succ_cons, List.take_succ_cons, List.drop_nil, List.take_nil, cv_u8, u8D, ↓gaW, ↓gaV, ↓gaC, ↓gaN, gaP, Nat.reduceEqDiff, Nat.reduceLeDiff, Nat.reduceAdd, Nat.reduceSub, Nat.reduceMul, Int.reduceLT, Int.reduceLE, Int.reduceEq, Int.reduceToNat, Int.reduceAdd, Int.reduceSub, Int.reduceMul, reduceCtorEq, ↓reduceIte, row_new (show 1 ≤ [u8V (UInt8.ofNat D)].length by simp)]
        refine grow_append (nx := nx) (hgr.keep (Nat.le_succ _) (fun p hp => by simp only [upd_e]; rw [if_neg (by omega)])) (by omega) (by omega) (by omega) (by omega) (by simp) (all1 rfl) (by omega) (by omega) fun g' hg' how => ?_
        simp only [↓gaW, ↓gaV, ↓gaC, ↓gaN, gaP, Nat.reduceEqDiff, Nat.reduceLeDiff, Nat.reduceAdd, Nat.reduceSub, Nat.reduceMul, Int.reduceLT, Int.reduceLE, Int.reduceEq, Int.reduceToNat, Int.reduceAdd, Int.reduceSub, Int.reduceMul, reduceCtorEq, ↓reduceIte, h5, w5, loopK_n]
        rw [show [u8V (UInt8.ofNat D)] = ([UInt8.ofNat D] : List UInt8).map u8V from rfl, ← List.map_append] at how
        refine ⟨t, by omega, t, x + 1 + 1, g', some ⟨x + 1, 0, some 1⟩, s + 1, ?_⟩
        refine ⟨rfl, by omega, h0, rfl, h4, rfl, rfl, by omega, fun p hp => by rw [hg' p hp]; simp only [upd_e]; rw [if_neg (by omega), hg p hp], ?_⟩
        rw [hst, if_neg (by intro hh; simp_all)]
        exact .inl how
      · by_cases c2 : (0 : Int) < (D : Int)
        · simp only [↓gaW, ↓gaV, ↓gaC, ↓gaN, gaP, Nat.reduceEqDiff, Nat.reduceLeDiff, Nat.reduceAdd, Nat.reduceSub, Nat.reduceMul, Int.reduceLT, Int.reduceLE, Int.reduceEq, Int.reduceToNat, Int.reduceAdd, Int.reduceSub, Int.reduceMul, reduceCtorEq, ↓reduceIte, h0, h3, h4, h5, c1, c2, decide_true, decide_false]
          simp only [List.getD_cons_zero, List.getD_cons_succ, fillL, splice, List.take_zero, List.drop_zero, List.drop_succ_cons, List.take_succ_cons, List.drop_nil, List.take_nil, cv_u8, u8D, ↓gaW, ↓gaV, ↓gaC, ↓gaN, gaP, Nat.reduceEqDiff, Nat.reduceLeDiff, Nat.reduceAdd, Nat.reduceSub, Nat.reduceMul, Int.reduceLT, Int.reduceLE, Int.reduceEq, Int.reduceToNat, Int.reduceAdd, Int.reduceSub, Int.reduceMul, reduceCtorEq, ↓reduceIte, row_new (show 1 ≤ [u8V (UInt8.ofNat D)].length by simp)]
          refine grow_append (nx := nx) (hgr.keep (Nat.le_succ _) (fun p hp => by simp only [upd_e]; rw [if_neg (by omega)])) (by omega) (by omega) (by omega) (by omega) (by simp) (all1 rfl) (by omega) (by omega) fun g' hg' how => ?_
          simp only [↓gaW, ↓gaV, ↓gaC, ↓gaN, gaP, Nat.reduceEqDiff, Nat.reduceLeDiff, Nat.reduceAdd, Nat.reduceSub, Nat.reduceMul, Int.reduceLT, Int.reduceLE, Int.reduceEq, Int.reduceToNat, Int.reduceAdd, Int.reduceSub, Int.reduceMul, reduceCtorEq, ↓reduceIte, h5, w5, loopK_n]
          rw [show [u8V (UInt8.ofNat D)] = ([UInt8.ofNat D] : List UInt8).map u8V from rfl, ← List.map_append] at how
          refine ⟨t, by omega, t, x + 1 + 1, g', some ⟨x + 1, 0, some 1⟩, s + 1, ?_⟩
          refine ⟨rfl, by omega, h0, rfl, h4, rfl, rfl, by omega, fun p hp => by rw [hg' p hp]; simp only [upd_e]; rw [if_neg (by omega), hg p hp], ?_⟩
          rw [hst, if_neg (by intro hh; simp_all)]
          exact .inl how
        · simp only [↓gaW, ↓gaV, ↓gaC, ↓gaN, gaP, Nat.reduceEqDiff, Nat.reduceLeDiff, Nat.reduceAdd, Nat.reduceSub, Nat.reduceMul, Int.reduceLT, Int.reduceLE, Int.reduceEq, Int.reduceToNat, Int.reduceAdd, Int.reduceSub, Int.reduceMul, reduceCtorEq, ↓reduceIte, h0, h3, h4, h5, c1, c2, decide_false, w5, loopK_n]
          have hD0 : D = 0 := by omega
          refine ⟨t, by omega, t, x, g, Q, s, rfl, by omega, rfl, rfl, rfl, hx, hg, ?_⟩
          have hnil : cb (lv l / 256 ^ (4 * z + (t + 1))) = [] := List.eq_nil_of_length_eq_zero (by omega)
          rw [hst, if_pos ⟨hnil, hD0⟩]
          rw [hnil] at hgr
          exact hgr
end
end Go.Ga

namespace Go.Ga
open Go Go.Proofs
set_option linter.unusedSimpArgs false
set_option linter.unusedVariables false
set_option maxRecDepth 100000
attribute [local irreducible] appendK endK endW

/-- A number's bytes, so many. -/
def padL (s x : Nat) : List UInt8 := List.replicate (s - (cb x).length) 0 ++ cb x
def powR (N S : List UInt8) (E : Nat) : List UInt8 × Int :=
  if rightB N E = false then ([], 1) else if S.length ≠ N.length ∨ bv N ≤ bv S then ([], 6) else (padL N.length (bv S ^ E % bv N), 0)
def PowV (R : List UInt8 × Int) (v : Value) (x : Nat) (g : Nat → Option Blk) : Prop :=
  ∃ A n c, v = .tuple #[.slice A n c, .int .i64 R.2] ∧ n ≤ c ∧ R.1.length = n ∧ Row x g 1 A n (R.1.map u8V)
theorem PowV.nil {R : List UInt8 × Int} {e : Int} (h : R = ([], e)) {x : Nat} {g : Nat → Option Blk} : PowV R (.tuple #[.slice none 0 0, .int .i64 e]) x g := by
  subst h
  exact ⟨none, 0, 0, rfl, Nat.le_refl _, rfl, .nil⟩
theorem cb_le {x k : Nat} (h : x < 256 ^ k) : (cb x).length ≤ k := by
  rw [cb_len]
  have : bl x ≤ 8 * k := bl_le.2 (by rw [Nat.pow_mul]; exact h)
  omega
theorem padL_len {s x : Nat} (h : x < 256 ^ s) : (padL s x).length = s := by
  have := cb_le h
  simp [padL]; omega
theorem bv_pos {N : List UInt8} (h : (N.getD 0 0).toNat ≠ 0) : bv N ≠ 0 := by
  cases N with
  | nil => exact absurd rfl h
  | cons x l =>
    have h : x.toNat ≠ 0 := h
    have h1 : 0 < 256 ^ l.length := Nat.pow_pos (by omega)
    have h2 : 0 < x.toNat * 256 ^ l.length := Nat.mul_pos (by omega) h1
    simp only [bv]; omega
theorem rightB_pos {N : List UInt8} {E : Nat} (h : rightB N E = true) : bv N ≠ 0 ∧ 62 ≤ N.length ∧ N.length ≤ 512 := by
  rw [rightB, decide_eq_true_eq] at h
  exact ⟨bv_pos h.2.2.1, h.1, h.2.1⟩

section
variable {nx : Nat} {gt : Nat → Option Blk}

theorem pad_app {x b s k : Nat} {g : Nat → Option Blk} {B : Option Addr} {y : Nat} {K : Value → Mem → Prop} (hrb : Row x g 1 B k ((cb y).map u8V)) (hb : b ≤ x) (hs : s < 1000000) (hkm : k < 10000000)
    (hK : ∀ A' x' g', x + 1 ≤ x' → (∀ i, i < x → g' i = g i) → Row x' g' 1 A' (s - k + k) ((padL s y).map u8V) → (padL s y).length = s - k + k → K (.slice A' (s - k + k) (s - k + k)) ⟨x', b, g'⟩) :
    asO (rowOf ⟨x + 1, b, upd g x (some (.cells ((List.replicate (s - k) (0 : UInt8)).map u8V) false))⟩ B k) fun news => appendK 1 1 ⟨x + 1, b, upd g x (some (.cells ((List.replicate (s - k) (0 : UInt8)).map u8V) false))⟩ (some ⟨x, 0, none⟩) (s - k) (s - k) k news K := by
  have hkl : (cb y).length = k := by simpa using hrb.len
  have h1 : rowOf ⟨x + 1, b, upd g x (some (.cells ((List.replicate (s - k) (0 : UInt8)).map u8V) false))⟩ B k = some ((cb y).map u8V) := (hrb.keep (nx' := x + 1) (by omega) fun i hi => by simp only [upd_e]; rw [if_neg (by omega)]).rowOf
  rw [h1, asO_e]
  refine grow_app (nx := x) (Grow.lit (q := x) (ro := false) (by omega) (by simp only [upd_e, if_true]; rfl) (by simp)) (by omega) (by omega) (by omega) (by simp [hkl]) (all_u8 _) (by omega) (by omega) fun A' x' g' k1 k2 hg => ?_
  rw [← List.map_append] at hg
  have e : List.replicate (s - k) (0 : UInt8) ++ cb y = padL s y := by rw [padL, hkl]
  rw [e] at hg
  refine hK A' x' g' k1 (fun i hi => by rw [k2 i hi]; simp only [upd_e]; rw [if_neg (by omega)]) (by simpa using hg.row) ?_
  rw [← e]; simp [hkl]

theorem ct_Padded {A : Option Addr} {n c : Nat} {l : List UInt32} {s : Nat} (hr : Row nx gt 1 A n (l.map u32V)) (hn : n < 1000000) (hs : s < 1000000) :
    Ct Try.prog 50 [.slice A n c, .int .i64 s] nx gt fun v nx' gt' => BySl nx' gt' v (padL s (lv l)) := by
  refine Ct.of hmx r_lanyardref09_Padded (by simp [c_lanyardref09_Padded]) fun b hb => ?_
  have hF : ∀ q, q < nx → gt q = gt q := fun _ _ => rfl
  have hl : l.length = n := by simpa using hr.len
  have hk : (cb (lv l)).length ≤ 4 * n := cb_le (by
    have := lv_lt l
    rw [hl] at this
    rw [Nat.pow_mul]
    exact this)
  simp only [c_lanyardref09_Padded, ↓gaW, ↓gaV, ↓gaC, ↓gaN, gaP, Nat.reduceEqDiff, Nat.reduceLeDiff, Nat.reduceAdd, Nat.reduceSub, Nat.reduceMul, Int.reduceLT, Int.reduceLE, Int.reduceEq, Int.reduceToNat, Int.reduceAdd, Int.reduceSub, Int.reduceMul, reduceCtorEq, ↓reduceIte]
  refine callK_of (ct_rTo (c := c) hr (by omega)) (fun v x1 g1 l1 k1 hC => ?_) (by omega)
  obtain ⟨B, k, d, rfl, hd, hkl, hrb⟩ := hC
  have hk2 : k ≤ 4 * n := by omega
  have e1 : (if (0 : Int) > (s : Int) - (k : Int) then 0 else (s : Int) - (k : Int)) = ((s - k : Nat) : Int) := by split <;> omega
  have hz := zeros8 (s - k)
  simp only [↓gaW, ↓gaV, ↓gaC, ↓gaN, gaP, Nat.reduceEqDiff, Nat.reduceLeDiff, Nat.reduceAdd, Nat.reduceSub, Nat.reduceMul, Int.reduceLT, Int.reduceLE, Int.reduceEq, Int.reduceToNat, Int.reduceAdd, Int.reduceSub, Int.reduceMul, reduceCtorEq, ↓reduceIte, e1, i64_w ((s : Int) - (k : Int)) (by omega), Nat.mul_one, Int.toNat_natCast, List.length_cons, List.length_nil, hz]
  repeat refine And.intro (by first | omega | (simp; done) | (simp; omega) | exact all1 rfl) ?_
  refine pad_app hrb (by omega) hs (by omega) fun A' x' g' m1 m2 hr' hlen => ?_
  simp only [↓gaW, ↓gaV, ↓gaC, ↓gaN, gaP, Nat.reduceEqDiff, Nat.reduceLeDiff, Nat.reduceAdd, Nat.reduceSub, Nat.reduceMul, Int.reduceLT, Int.reduceLE, Int.reduceEq, Int.reduceToNat, Int.reduceAdd, Int.reduceSub, Int.reduceMul, reduceCtorEq, ↓reduceIte, gaE, implies_true, Nat.le_refl, Int.sub_zero, Nat.sub_zero, Int.le_refl, true_or, or_true]
  exact ⟨by omega, fun q hq => by rw [m2 q (by omega), k1 q hq], _, _, _, rfl, Nat.le_refl _, hlen, hr'⟩
end
end Go.Ga

namespace Go.Ga
open Go Go.Proofs
set_option linter.unusedSimpArgs false
set_option linter.unusedVariables false
set_option maxRecDepth 100000
attribute [local irreducible] appendK endK endW

def mdR (a m : Nat) : Nat := if m = 0 then 0 else a % m
theorem ModV.w {nx : Nat} {gt : Nat → Option Blk} {a m : Nat} {v : Value} (h : ModV nx gt a m v) (h0 : m ≠ 0) : ∃ (A : Option Addr) (n c : Nat), v = .tuple #[.slice A n c, .bool true] ∧ n ≤ c ∧ (lb (a % m)).length = n ∧ Row nx gt 1 A n ((lb (a % m)).map u32V) := by
  rcases h with ⟨h1, _⟩ | ⟨_, v1, rfl, ⟨A, n, c, rfl, h1, h2, h3⟩⟩
  · exact absurd h1 h0
  · exact ⟨A, n, c, rfl, h1, h2, h3⟩

theorem lb_bytes {x n : Nat} (h : x < 256 ^ n) : (lb x).length ≤ n + 1 := by
  refine lb_len_le.2 (Nat.lt_of_lt_of_le h ?_)
  rw [show (4294967296 : Nat) = 256 ^ 4 by decide, ← Nat.pow_mul]
  exact Nat.pow_le_pow_right (by omega) (by omega)

section
variable {nx : Nat} {gt : Nat → Option Blk}

theorem ct_Power {A B : Option Addr} {n c m d E : Nat} {N S : List UInt8} (hA : Row nx gt 1 A n (N.map u8V)) (hc : n ≤ c) (hE : E < 4294967296) (hn : n ≤ 100000) (hB : Row nx gt 1 B m (S.map u8V)) (hd : m ≤ d) (hm : m ≤ 100000) :
    Ct Try.prog 27 [keyV A n c E, .slice B m d] nx gt fun v x g => PowV (powR N S E) v x g := by
  have hN : N.length = n := by simpa using hA.len
  have hS : S.length = m := by simpa using hB.len
  refine Ct.of hmx r_rsa_Power (by simp [c_rsa_Power]) fun b hb => ?_
  have hF : ∀ q, q < nx → upd gt nx (some (.cells [.slice A n c, .int .u32 (E : Nat)] false)) q = gt q := fun q hq => by simp only [upd_e]; rw [if_neg (by omega)]
  have hb0 : upd gt nx (some (.cells [.slice A n c, .int .u32 (E : Nat)] false)) nx = some (.cells [.slice A n c, .int .u32 (E : Nat)] false) := by simp only [upd_e, if_true]
  have hA0 := hA.keep (nx' := nx + 1) (by omega) hF
  have hB0 := hB.keep (nx' := nx + 1) (by omega) hF
  simp only [c_rsa_Power, keyV, ↓gaW, ↓gaV, ↓gaC, ↓gaN, gaP, Nat.reduceEqDiff, Nat.reduceLeDiff, Nat.reduceAdd, Nat.reduceSub, Nat.reduceMul, Int.reduceLT, Int.reduceLE, Int.reduceEq, Int.reduceToNat, Int.reduceAdd, Int.reduceSub, Int.reduceMul, reduceCtorEq, ↓reduceIte, List.getD_cons_zero, List.getD_cons_succ, fillL, splice, List.take_zero, List.drop_zero, List.drop_succ_cons, List.take_succ_cons, List.drop_nil, List.take_nil, gaU]
  generalize upd gt nx (some (.cells [.slice A n c, .int .u32 (E : Nat)] false)) = g0 at *
  refine callK_of (ct_Right (E := E) (c := c) hA0 hE hn) (fun v x1 g1 l1 k1 hC => ?_) (by omega)
  subst hC
  have hb1 : g1 nx = some (.cells [.slice A n c, .int .u32 (E : Nat)] false) := by rw [k1 nx (by omega), hb0]
  have F1 : ∀ p, p < nx → g1 p = gt p := fun p hp => by rw [k1 p (by omega), hF p hp]
  have hA1 := hA0.keep l1 k1
  have hB1 := hB0.keep l1 k1
  cases hR : rightB N E with
  | false =>
    have e : powR N S E = ([], 1) := if_pos hR
    simp only [↓gaW, ↓gaV, ↓gaC, ↓gaN, gaP, Nat.reduceEqDiff, Nat.reduceLeDiff, Nat.reduceAdd, Nat.reduceSub, Nat.reduceMul, Int.reduceLT, Int.reduceLE, Int.reduceEq, Int.reduceToNat, Int.reduceAdd, Int.reduceSub, Int.reduceMul, reduceCtorEq, ↓reduceIte, gaE, implies_true, Nat.le_refl, Int.sub_zero, Nat.sub_zero, Int.le_refl, true_or, or_true, Bool.not_false]
    exact ⟨by omega, F1, PowV.nil e⟩
  | true =>
    obtain ⟨hpos, hn1, hn2⟩ := rightB_pos hR
    rw [hN] at hn1 hn2
    simp only [↓gaW, ↓gaV, ↓gaC, ↓gaN, gaP, Nat.reduceEqDiff, Nat.reduceLeDiff, Nat.reduceAdd, Nat.reduceSub, Nat.reduceMul, Int.reduceLT, Int.reduceLE, Int.reduceEq, Int.reduceToNat, Int.reduceAdd, Int.reduceSub, Int.reduceMul, reduceCtorEq, ↓reduceIte, Bool.not_true, hb1, List.getD_cons_zero, List.length_cons, List.length_nil]
    repeat refine And.intro (by omega) ?_
    refine callK_of (ct_From (c := c) hA1 (by omega)) (fun v x2 g2 l2 k2 hC => ?_) (by omega)
    obtain ⟨A2, a2, c2, rfl, hc2, hl2, r2⟩ := hC
    have hb2 : g2 nx = some (.cells [.slice A n c, .int .u32 (E : Nat)] false) := by rw [k2 nx (by omega), hb1]
    have F2 : ∀ p, p < nx → g2 p = gt p := fun p hp => by rw [k2 p (by omega), F1 p hp]
    have hB2 := hB1.keep l2 k2
    simp only [↓gaW, ↓gaV, ↓gaC, ↓gaN, gaP, Nat.reduceEqDiff, Nat.reduceLeDiff, Nat.reduceAdd, Nat.reduceSub, Nat.reduceMul, Int.reduceLT, Int.reduceLE, Int.reduceEq, Int.reduceToNat, Int.reduceAdd, Int.reduceSub, Int.reduceMul, reduceCtorEq, ↓reduceIte]
    repeat refine And.intro (by omega) ?_
    refine callK_of (ct_From (c := d) hB2 (by omega)) (fun v x3 g3 l3 k3 hC => ?_) (by omega)
    obtain ⟨A3, a3, c3, rfl, hc3, hl3, r3⟩ := hC
    have hb3 : g3 nx = some (.cells [.slice A n c, .int .u32 (E : Nat)] false) := by rw [k3 nx (by omega), hb2]
    have F3 : ∀ p, p < nx → g3 p = gt p := fun p hp => by rw [k3 p (by omega), F2 p hp]
    have r23 := r2.keep l3 k3
    have hbn : bv N < 256 ^ n := by rw [← hN]; exact bv_lt N
    have hbs : bv S < 256 ^ m := by rw [← hS]; exact bv_lt S
    have ha2 : a2 ≤ n + 1 := by rw [← hl2]; exact lb_bytes hbn
    have ha3 : a3 ≤ m + 1 := by rw [← hl3]; exact lb_bytes hbs
    by_cases hmn : (m : Int) = (n : Int)
    · have hmn' : m = n := by omega
      simp only [↓gaW, ↓gaV, ↓gaC, ↓gaN, gaP, Nat.reduceEqDiff, Nat.reduceLeDiff, Nat.reduceAdd, Nat.reduceSub, Nat.reduceMul, Int.reduceLT, Int.reduceLE, Int.reduceEq, Int.reduceToNat, Int.reduceAdd, Int.reduceSub, Int.reduceMul, reduceCtorEq, ↓reduceIte, hb3, List.getD_cons_zero, hmn, decide_true, Bool.not_true, List.length_cons, List.length_nil]
      repeat refine And.intro (by omega) ?_
      refine callK_of (ct_Cmp r3 hc3 (by omega) r23 hc2 (by omega)) (fun v x4 g4 l4 k4 hC => ?_) (by omega)
      subst hC
      rw [lv_lb, lv_lb]
      have hb4 : g4 nx = some (.cells [.slice A n c, .int .u32 (E : Nat)] false) := by rw [k4 nx (by omega), hb3]
      have F4 : ∀ p, p < nx → g4 p = gt p := fun p hp => by rw [k4 p (by omega), F3 p hp]
      have r24 := r23.keep l4 k4
      have r34 := r3.keep l4 k4
      have hneg := cmpI_neg ((bv S : Nat) : Int) ((bv N : Nat) : Int)
      by_cases hcmp : (0 : Int) ≤ cmpI ((bv S : Nat) : Int) ((bv N : Nat) : Int)
      · have e : powR N S E = ([], 6) := by
          rw [powR, if_neg (by simp [hR]), if_pos (.inr (by omega))]
        simp only [↓gaW, ↓gaV, ↓gaC, ↓gaN, gaP, Nat.reduceEqDiff, Nat.reduceLeDiff, Nat.reduceAdd, Nat.reduceSub, Nat.reduceMul, Int.reduceLT, Int.reduceLE, Int.reduceEq, Int.reduceToNat, Int.reduceAdd, Int.reduceSub, Int.reduceMul, reduceCtorEq, ↓reduceIte, gaE, implies_true, Nat.le_refl, Int.sub_zero, Nat.sub_zero, Int.le_refl, true_or, or_true, hcmp, decide_true]
        first | exact ⟨F4, PowV.nil e⟩ | exact ⟨by omega, F4, PowV.nil e⟩ | exact ⟨by omega, by omega, F4, PowV.nil e⟩ | exact ⟨by omega, by omega, by omega, F4, PowV.nil e⟩ | trace_state
      · have hlt : bv S < bv N := by omega
        have e : powR N S E = (padL n (bv S ^ E % bv N), 0) := by
          rw [powR, if_neg (by simp [hR]), if_neg (by omega), hN]
        have eE : Value.int .u32 (E : Int) = u32V (UInt32.ofNat E) := by rw [u32V, ofNat32, Nat.mod_eq_of_lt hE]
        have eL : lv [UInt32.ofNat E] = E := by simp [lv, ofNat32, Nat.mod_eq_of_lt hE]
        simp only [↓gaW, ↓gaV, ↓gaC, ↓gaN, gaP, Nat.reduceEqDiff, Nat.reduceLeDiff, Nat.reduceAdd, Nat.reduceSub, Nat.reduceMul, Int.reduceLT, Int.reduceLE, Int.reduceEq, Int.reduceToNat, Int.reduceAdd, Int.reduceSub, Int.reduceMul, reduceCtorEq, ↓reduceIte, hcmp, decide_false, hb4, List.getD_cons_zero, List.getD_cons_succ, fillL, spl1, List.length_cons, List.length_nil]
        refine And.intro (by omega) ?_
        have K4 : ∀ {B : Option Blk} i, i < x4 → upd g4 x4 B i = g4 i := fun i hi => by simp only [upd_e]; rw [if_neg (by omega)]
        have hone : Row (x4 + 1) (upd g4 x4 (some (.cells [.int .u32 (E : Int)] false))) 1 (some ⟨x4, 0, none⟩) 1 ([UInt32.ofNat E].map u32V) := row8c (ro := false) (by omega) (by simp only [upd_e, if_true, List.map_cons, List.map_nil, eE]) rfl
        refine callK_of (ct_mExp (r34.keep (by omega) K4) hc3 (by omega) hone (Nat.le_refl _) (by omega) (r24.keep (by omega) K4) hc2 (by omega)) (fun v x5 g5 l5 k5 hC => ?_) (by omega)
        rw [lv_lb, lv_lb, eL] at hC
        obtain ⟨A5, a5, c5, rfl, hc5, hl5, r5⟩ := hC.w hpos
        have F5 : ∀ p, p < nx → g5 p = gt p := fun p hp => by rw [k5 p (by omega), K4 p (by omega), F4 p hp]
        have hx : bv S ^ E % bv N < 256 ^ n := Nat.lt_trans (Nat.mod_lt _ (by omega)) hbn
        have ha5 : a5 ≤ n + 1 := by rw [← hl5]; exact lb_bytes hx
        generalize bv S ^ E % bv N = y at *
        simp only [↓gaW, ↓gaV, ↓gaC, ↓gaN, gaP, Nat.reduceEqDiff, Nat.reduceLeDiff, Nat.reduceAdd, Nat.reduceSub, Nat.reduceMul, Int.reduceLT, Int.reduceLE, Int.reduceEq, Int.reduceToNat, Int.reduceAdd, Int.reduceSub, Int.reduceMul, reduceCtorEq, ↓reduceIte]
        repeat refine And.intro (by first | omega | (simp; done) | (simp; omega) | exact all1 rfl) ?_
        refine callK_of (ct_To (c := c5) r5 hc5 (by omega)) (fun v x6 g6 l6 k6 hC => ?_) (by omega)
        rw [lv_lb] at hC
        obtain ⟨A6, k, c6, rfl, hc6, hl6, r6⟩ := hC
        have F6 : ∀ p, p < nx → g6 p = gt p := fun p hp => by rw [k6 p (by omega), F5 p hp]
        have hk : k ≤ n := by rw [← hl6]; exact cb_le hx
        have hz := zeros8 (n - k)
        have e1 : (m : Int) - (k : Int) = ((n - k : Nat) : Int) := by omega
        simp only [↓gaW, ↓gaV, ↓gaC, ↓gaN, gaP, Nat.reduceEqDiff, Nat.reduceLeDiff, Nat.reduceAdd, Nat.reduceSub, Nat.reduceMul, Int.reduceLT, Int.reduceLE, Int.reduceEq, Int.reduceToNat, Int.reduceAdd, Int.reduceSub, Int.reduceMul, reduceCtorEq, ↓reduceIte, e1, i64_w ((n - k : Nat) : Int) (by omega), Nat.mul_one, Int.toNat_natCast, List.length_cons, List.length_nil, hz]
        repeat refine And.intro (by omega) ?_
        refine pad_app r6 (by omega) (by omega) (by omega) fun A' x' g' m1 m2 hr' hlen => ?_
        simp only [↓gaW, ↓gaV, ↓gaC, ↓gaN, gaP, Nat.reduceEqDiff, Nat.reduceLeDiff, Nat.reduceAdd, Nat.reduceSub, Nat.reduceMul, Int.reduceLT, Int.reduceLE, Int.reduceEq, Int.reduceToNat, Int.reduceAdd, Int.reduceSub, Int.reduceMul, reduceCtorEq, ↓reduceIte, gaE, implies_true, Nat.le_refl, Int.sub_zero, Nat.sub_zero, Int.le_refl, true_or, or_true]
        refine ⟨by omega, fun q hq => by rw [m2 q (by omega), F6 q hq], ?_⟩
        rw [e]
        exact ⟨A', _, _, rfl, Nat.le_refl _, hlen, hr'⟩
    · have e : powR N S E = ([], 6) := by
        rw [powR, if_neg (by simp [hR]), if_pos (.inl (by omega))]
      simp only [↓gaW, ↓gaV, ↓gaC, ↓gaN, gaP, Nat.reduceEqDiff, Nat.reduceLeDiff, Nat.reduceAdd, Nat.reduceSub, Nat.reduceMul, Int.reduceLT, Int.reduceLE, Int.reduceEq, Int.reduceToNat, Int.reduceAdd, Int.reduceSub, Int.reduceMul, reduceCtorEq, ↓reduceIte, gaE, implies_true, Nat.le_refl, Int.sub_zero, Nat.sub_zero, Int.le_refl, true_or, or_true, hb3, List.getD_cons_zero, hmn, decide_false, Bool.not_false, List.length_cons, List.length_nil]
      exact ⟨by omega, by omega, F3, PowV.nil e⟩
end
end Go.Ga

namespace Go.Ga
open Go Go.Proofs
set_option linter.unusedSimpArgs false
set_option linter.unusedVariables false
set_option maxRecDepth 100000
attribute [local irreducible] appendK endK endW

section
variable {nx : Nat} {gt : Nat → Option Blk}

end
end Go.Ga

namespace Go.Ga
open Go Go.Proofs
set_option linter.unusedSimpArgs false
set_option linter.unusedVariables false
set_option maxRecDepth 100000
attribute [local irreducible] appendK endK endW sha

def verR (N S : List UInt8) (E : Nat) (T : List UInt8) : Int :=
  if (powR N S E).2 ≠ 0 then (powR N S E).2 else if ((powR N S E).1 == frL (sha T) N.length) = true then 0 else 6
theorem powR_ok {N S : List UInt8} {E : Nat} (h : (powR N S E).2 = 0) : 62 ≤ N.length ∧ N.length ≤ 512 ∧ rightB N E = true ∧ S.length = N.length ∧ bv S < bv N ∧ (powR N S E).1 = padL N.length (bv S ^ E % bv N) := by
  unfold powR at h ⊢
  split at h
  · cases h
  · rename_i hr
    split at h
    · cases h
    · rename_i h2
      rw [if_neg hr, if_neg h2]
      have hr : rightB N E = true := by simpa using hr
      obtain ⟨_, h3, h4⟩ := rightB_pos hr
      exact ⟨h3, h4, hr, by omega, by omega, rfl⟩

section
variable {nx : Nat} {gt : Nat → Option Blk}

theorem ct_EqualB {A B : Option Addr} {n c m d : Nat} {l k : List UInt8} (hA : Row nx gt 1 A n (l.map u8V)) (hB : Row nx gt 1 B m (k.map u8V)) :
    Ct Try.prog 51 [.slice A n c, .slice B m d] nx gt fun v _ _ => v = .bool (l == k) := by
  refine Ct.of hmx r_bytes_Equal (by simp [c_bytes_Equal]) fun b hb => ?_
  have ra : ∀ b, rowOf ⟨nx, b, gt⟩ A n = some _ := fun b => hA.rowOf
  have rb : ∀ b, rowOf ⟨nx, b, gt⟩ B m = some _ := fun b => hB.rowOf
  simp only [c_bytes_Equal, ↓gaW, ↓gaV, ↓gaC, ↓gaN, gaP, Nat.reduceEqDiff, Nat.reduceLeDiff, Nat.reduceAdd, Nat.reduceSub, Nat.reduceMul, Int.reduceLT, Int.reduceLE, Int.reduceEq, Int.reduceToNat, Int.reduceAdd, Int.reduceSub, Int.reduceMul, reduceCtorEq, ↓reduceIte, gaE, implies_true, Nat.le_refl, Int.sub_zero, Nat.sub_zero, Int.le_refl, true_or, or_true, ra, rb, bytesOf_map, str_eq]

theorem ct_Verify {A B C : Option Addr} {n c m d h e E : Nat} {N S T : List UInt8} (hA : Row nx gt 1 A n (N.map u8V)) (hc : n ≤ c) (hE : E < 4294967296) (hn : n ≤ 100000) (hB : Row nx gt 1 B m (S.map u8V)) (hd : m ≤ d) (hm : m ≤ 100000) (hC : Row nx gt 1 C h (T.map u8V)) (he : h ≤ e) (hh : h ≤ 100000) :
    Ct Try.prog 29 [keyV A n c E, .slice C h e, .slice B m d] nx gt fun v x g => v = .int .i64 (verR N S E T) := by
  have hN : N.length = n := by simpa using hA.len
  have hsl := sha_len T
  refine Ct.of hmx r_rsa_Verify (by simp [c_rsa_Verify]) fun b hb => ?_
  have hF : ∀ q, q < nx → upd gt nx (some (.cells [.slice A n c, .int .u32 (E : Nat)] false)) q = gt q := fun q hq => by simp only [upd_e]; rw [if_neg (by omega)]
  have hb0 : upd gt nx (some (.cells [.slice A n c, .int .u32 (E : Nat)] false)) nx = some (.cells [.slice A n c, .int .u32 (E : Nat)] false) := by simp only [upd_e, if_true]
  have hA0 := hA.keep (nx' := nx + 1) (by omega) hF
  have hB0 := hB.keep (nx' := nx + 1) (by omega) hF
  have hC0 := hC.keep (nx' := nx + 1) (by omega) hF
  simp only [c_rsa_Verify, keyV, ↓gaW, ↓gaV, ↓gaC, ↓gaN, gaP, Nat.reduceEqDiff, Nat.reduceLeDiff, Nat.reduceAdd, Nat.reduceSub, Nat.reduceMul, Int.reduceLT, Int.reduceLE, Int.reduceEq, Int.reduceToNat, Int.reduceAdd, Int.reduceSub, Int.reduceMul, reduceCtorEq, ↓reduceIte, List.getD_cons_zero, List.getD_cons_succ, fillL, splice, List.take_zero, List.drop_zero, List.drop_succ_cons, List.take_succ_cons, List.drop_nil, List.take_nil, gaU]
  generalize upd gt nx (some (.cells [.slice A n c, .int .u32 (E : Nat)] false)) = g0 at *
  refine callK_of (ct_Power (E := E) hA0 hc hE hn hB0 hd hm) (fun v x1 g1 l1 k1 hC => ?_) (by omega)
  obtain ⟨A1, a1, c1, rfl, hc1, hl1, r1⟩ := hC
  have hb1 : g1 nx = some (.cells [.slice A n c, .int .u32 (E : Nat)] false) := by rw [k1 nx (by omega), hb0]
  have F1 : ∀ p, p < nx → g1 p = gt p := fun p hp => by rw [k1 p (by omega), hF p hp]
  have hC1 := hC0.keep l1 k1
  simp only [↓gaW, ↓gaV, ↓gaC, ↓gaN, gaP, Nat.reduceEqDiff, Nat.reduceLeDiff, Nat.reduceAdd, Nat.reduceSub, Nat.reduceMul, Int.reduceLT, Int.reduceLE, Int.reduceEq, Int.reduceToNat, Int.reduceAdd, Int.reduceSub, Int.reduceMul, reduceCtorEq, ↓reduceIte]
  by_cases h0 : (powR N S E).2 = 0
  · obtain ⟨q1, q2, _⟩ := powR_ok h0
    rw [hN] at q1 q2
    have hf : frameR (sha T) (n : Int) = (frL (sha T) n, 0) := by rw [frameR, if_pos (by omega), Int.toNat_natCast]
    have hv : verR N S E T = if ((powR N S E).1 == frL (sha T) n) = true then 0 else 6 := by rw [verR, if_neg (by simpa using h0), hN]
    simp only [↓gaW, ↓gaV, ↓gaC, ↓gaN, gaP, Nat.reduceEqDiff, Nat.reduceLeDiff, Nat.reduceAdd, Nat.reduceSub, Nat.reduceMul, Int.reduceLT, Int.reduceLE, Int.reduceEq, Int.reduceToNat, Int.reduceAdd, Int.reduceSub, Int.reduceMul, reduceCtorEq, ↓reduceIte, h0, decide_true, Bool.not_true]
    repeat refine And.intro (by omega) ?_
    refine callQ_of (ct_Of hC1 he (by omega)) (fun v x2 g2 l2 k2 hC => ?_)
    subst hC
    have hb2 : g2 nx = some (.cells [.slice A n c, .int .u32 (E : Nat)] false) := by rw [k2 nx (by omega), hb1]
    have F2 : ∀ p, p < nx → g2 p = gt p := fun p hp => by rw [k2 p (by omega), F1 p hp]
    have r2 := r1.keep l2 k2
    simp only [↓gaW, ↓gaV, ↓gaC, ↓gaN, gaP, Nat.reduceEqDiff, Nat.reduceLeDiff, Nat.reduceAdd, Nat.reduceSub, Nat.reduceMul, Int.reduceLT, Int.reduceLE, Int.reduceEq, Int.reduceToNat, Int.reduceAdd, Int.reduceSub, Int.reduceMul, reduceCtorEq, ↓reduceIte, hb2, List.getD_cons_zero, List.length_cons, List.length_nil]
    repeat refine And.intro (by omega) ?_
    refine callQ_of (ct_Frame (s := (n : Int)) hsl) (fun v x3 g3 l3 k3 hC => ?_)
    obtain ⟨A3, a3, c3, rfl, hc3, hn3, r3⟩ := hC
    rw [hf] at r3 hn3
    have F3 : ∀ p, p < nx → g3 p = gt p := fun p hp => by rw [k3 p (by omega), F2 p hp]
    have r23 := r2.keep l3 k3
    simp only [↓gaW, ↓gaV, ↓gaC, ↓gaN, gaP, Nat.reduceEqDiff, Nat.reduceLeDiff, Nat.reduceAdd, Nat.reduceSub, Nat.reduceMul, Int.reduceLT, Int.reduceLE, Int.reduceEq, Int.reduceToNat, Int.reduceAdd, Int.reduceSub, Int.reduceMul, reduceCtorEq, ↓reduceIte, hf]
    repeat refine And.intro (by omega) ?_
    refine callK_of (ct_EqualB (c := c1) (d := c3) r23 r3) (fun v x4 g4 l4 k4 hC => ?_) (by omega)
    subst hC
    have F4 : ∀ p, p < nx → g4 p = gt p := fun p hp => by rw [k4 p (by omega), F3 p hp]
    cases hq : ((powR N S E).1 == frL (sha T) n) with
    | true =>
      rw [hq, if_pos rfl] at hv
      simp only [↓gaW, ↓gaV, ↓gaC, ↓gaN, gaP, Nat.reduceEqDiff, Nat.reduceLeDiff, Nat.reduceAdd, Nat.reduceSub, Nat.reduceMul, Int.reduceLT, Int.reduceLE, Int.reduceEq, Int.reduceToNat, Int.reduceAdd, Int.reduceSub, Int.reduceMul, reduceCtorEq, ↓reduceIte, gaE, implies_true, Nat.le_refl, Int.sub_zero, Nat.sub_zero, Int.le_refl, true_or, or_true, hq, hv, Bool.not_true]
      exact ⟨by omega, F4⟩
    | false =>
      rw [hq, if_neg (by decide)] at hv
      simp only [↓gaW, ↓gaV, ↓gaC, ↓gaN, gaP, Nat.reduceEqDiff, Nat.reduceLeDiff, Nat.reduceAdd, Nat.reduceSub, Nat.reduceMul, Int.reduceLT, Int.reduceLE, Int.reduceEq, Int.reduceToNat, Int.reduceAdd, Int.reduceSub, Int.reduceMul, reduceCtorEq, ↓reduceIte, gaE, implies_true, Nat.le_refl, Int.sub_zero, Nat.sub_zero, Int.le_refl, true_or, or_true, hq, hv, Bool.not_false]
      exact ⟨by omega, F4⟩
  · have hv : verR N S E T = (powR N S E).2 := by rw [verR, if_pos h0]
    simp only [↓gaW, ↓gaV, ↓gaC, ↓gaN, gaP, Nat.reduceEqDiff, Nat.reduceLeDiff, Nat.reduceAdd, Nat.reduceSub, Nat.reduceMul, Int.reduceLT, Int.reduceLE, Int.reduceEq, Int.reduceToNat, Int.reduceAdd, Int.reduceSub, Int.reduceMul, reduceCtorEq, ↓reduceIte, gaE, implies_true, Nat.le_refl, Int.sub_zero, Nat.sub_zero, Int.le_refl, true_or, or_true, h0, decide_false, Bool.not_false]
    repeat refine And.intro (by omega) ?_
    rw [hv]

end
end Go.Ga

/- Powers modulo a product of different primes. -/
namespace Go.Ga
open Go

/-- Pascal's numbers. -/
def bnm : Nat → Nat → Nat
  | _, 0 => 1
  | 0, _ + 1 => 0
  | n + 1, k + 1 => bnm n k + bnm n (k + 1)
theorem bnm_zero (n : Nat) : bnm n 0 = 1 := by cases n <;> rfl
theorem bnm_gt : ∀ (n k : Nat), n < k → bnm n k = 0
  | 0, k + 1, _ => rfl
  | n + 1, k + 1, h => by rw [bnm, bnm_gt n k (by omega), bnm_gt n (k + 1) (by omega)]
theorem bnm_self : ∀ n, bnm n n = 1
  | 0 => rfl
  | n + 1 => by rw [bnm, bnm_self n, bnm_gt n (n + 1) (by omega)]
theorem bnm_mul : ∀ (n k : Nat), (k + 1) * bnm (n + 1) (k + 1) = (n + 1) * bnm n k
  | 0, 0 => rfl
  | 0, k + 1 => by simp [bnm]
  | n + 1, 0 => by
    have h := bnm_mul n 0
    rw [bnm_zero] at h
    show (0 + 1) * (bnm (n + 1) 0 + bnm (n + 1) 1) = _
    rw [bnm_zero]
    rw [Nat.zero_add, Nat.one_mul] at h ⊢
    rw [show bnm (n + 1) 1 = (n + 1) * 1 from h]
    omega
  | n + 1, k + 1 => by
    have h1 := bnm_mul n (k + 1)
    have h2 := bnm_mul n k
    have e : bnm (n + 1) (k + 1) = bnm n k + bnm n (k + 1) := rfl
    rw [bnm, Nat.mul_add, h1]
    rw [show (k + 1 + 1) * bnm (n + 1) (k + 1) = (k + 1) * bnm (n + 1) (k + 1) + bnm (n + 1) (k + 1) by rw [Nat.add_mul, Nat.one_mul], h2, e]
    rw [Nat.add_mul (n + 1) 1, Nat.mul_add]
    omega

def sumR (f : Nat → Nat) : Nat → Nat
  | 0 => 0
  | n + 1 => sumR f n + f n
theorem sumR_congr {f g : Nat → Nat} : ∀ {n : Nat}, (∀ i, i < n → f i = g i) → sumR f n = sumR g n
  | 0, _ => rfl
  | n + 1, h => by rw [sumR, sumR, sumR_congr fun i hi => h i (by omega), h n (by omega)]
theorem sumR_add (f g : Nat → Nat) : ∀ n, sumR (fun i => f i + g i) n = sumR f n + sumR g n
  | 0 => rfl
  | n + 1 => by rw [sumR, sumR, sumR, sumR_add f g n]; omega
theorem sumR_mul (f : Nat → Nat) (c : Nat) : ∀ n, sumR (fun i => f i * c) n = sumR f n * c
  | 0 => by simp [sumR]
  | n + 1 => by rw [sumR, sumR, sumR_mul f c n, Nat.add_mul]
theorem sumR_front (f : Nat → Nat) : ∀ n, sumR f (n + 1) = f 0 + sumR (fun i => f (i + 1)) n
  | 0 => by simp [sumR]
  | n + 1 => by rw [sumR, sumR_front f n, sumR]; omega

theorem binom (a : Nat) : ∀ n, (a + 1) ^ n = sumR (fun k => bnm n k * a ^ k) (n + 1)
  | 0 => by simp [sumR, bnm]
  | n + 1 => by
    have h := binom a n
    have hR : sumR (fun k => bnm (n + 1) k * a ^ k) (n + 1 + 1) = bnm (n + 1) 0 * a ^ 0 + sumR (fun k => bnm (n + 1) (k + 1) * a ^ (k + 1)) (n + 1) := sumR_front _ _
    have hc : sumR (fun k => bnm (n + 1) (k + 1) * a ^ (k + 1)) (n + 1) = sumR (fun k => (bnm n k * a ^ k) * a + bnm n (k + 1) * a ^ (k + 1)) (n + 1) :=
      sumR_congr fun i _ => by show (bnm n i + bnm n (i + 1)) * a ^ (i + 1) = _; rw [Nat.add_mul, Nat.pow_succ, Nat.mul_assoc]
    have e : sumR (fun k => bnm n k * a ^ k) (n + 1) = 1 + sumR (fun k => bnm n (k + 1) * a ^ (k + 1)) n := by
      have := sumR_front (fun k => bnm n k * a ^ k) n
      rw [bnm_zero] at this
      simpa using this
    have e2 : sumR (fun k => bnm n (k + 1) * a ^ (k + 1)) (n + 1) = sumR (fun k => bnm n (k + 1) * a ^ (k + 1)) n := by
      rw [sumR, bnm_gt n (n + 1) (by omega)]; simp
    rw [Nat.pow_succ, h, hR, hc, sumR_add, sumR_mul (fun k => bnm n k * a ^ k), e2, Nat.mul_add, Nat.mul_one, bnm_zero, Nat.pow_zero, Nat.mul_one]
    generalize sumR (fun k => bnm n k * a ^ k) (n + 1) = A at *
    omega

/-- Nothing between one and itself shares a divisor with it. -/
def Pr (p : Nat) : Prop := 1 < p ∧ ∀ k, 0 < k → k < p → Nat.gcd k p = 1

theorem bnm_dvd {p k : Nat} (hp : Pr p) (h0 : 0 < k) (h1 : k < p) : p ∣ bnm p k := by
  obtain ⟨n, rfl⟩ : ∃ n, p = n + 1 := ⟨p - 1, by omega⟩
  obtain ⟨j, rfl⟩ : ∃ j, k = j + 1 := ⟨k - 1, by omega⟩
  have h := bnm_mul n j
  have hd : n + 1 ∣ (j + 1) * bnm (n + 1) (j + 1) := ⟨_, h⟩
  have hc : Nat.Coprime (n + 1) (j + 1) := by
    have := hp.2 (j + 1) h0 h1
    rw [Nat.gcd_comm] at this
    exact this
  exact hc.dvd_of_dvd_mul_left hd

theorem sumR_mod {f : Nat → Nat} {p : Nat} : ∀ {n : Nat}, (∀ i, i < n → p ∣ f i) → p ∣ sumR f n
  | 0, _ => Nat.dvd_zero p
  | n + 1, h => Nat.dvd_add (sumR_mod fun i hi => h i (by omega)) (h n (by omega))

/-- Fermat's. -/
theorem fermat {p : Nat} (hp : Pr p) : ∀ a, a ^ p % p = a % p
  | 0 => by rw [Nat.zero_pow (by have := hp.1; omega)]
  | a + 1 => by
    have ih := fermat hp a
    obtain ⟨n, rfl⟩ : ∃ n, p = n + 1 := ⟨p - 1, by have := hp.1; omega⟩
    rw [binom, sumR, sumR_front, bnm_zero, bnm_self]
    have hd : (n + 1) ∣ sumR (fun i => bnm (n + 1) (i + 1) * a ^ (i + 1)) n := sumR_mod fun i hi => Nat.dvd_mul_right_of_dvd (bnm_dvd hp (by omega) (by omega)) _
    obtain ⟨c, hc⟩ := hd
    rw [hc, Nat.pow_zero, Nat.one_mul, Nat.one_mul, Nat.add_assoc, Nat.add_comm 1, Nat.add_assoc, Nat.mul_add_mod, Nat.add_mod, ih, ← Nat.add_mod]

theorem fermat_t {p : Nat} (hp : Pr p) (a : Nat) : ∀ t, a ^ (1 + (p - 1) * t) % p = a % p
  | 0 => by simp
  | t + 1 => by
    have ih := fermat_t hp a t
    have h1 := hp.1
    have e : a ^ (1 + (p - 1) * (t + 1)) = a ^ (1 + (p - 1) * t) * a ^ (p - 1) := by
      rw [← Nat.pow_add, Nat.mul_add, Nat.mul_one, Nat.add_assoc]
    have e2 : a * a ^ (p - 1) = a ^ p := by
      rw [Nat.mul_comm, ← Nat.pow_succ]; congr 1; omega
    rw [e, Nat.mul_mod, ih, ← Nat.mul_mod, e2, fermat hp a]

def prB (p : Nat) : Bool := decide (1 < p) && decide (p < 20736) && (List.range 142).all fun k => decide (p % (k + 2) ≠ 0) || decide (p < (k + 2) * (k + 2))
theorem prB_Pr {p : Nat} (h : prB p = true) : Pr p := by
  simp only [prB, Bool.and_eq_true, decide_eq_true_eq, List.all_eq_true, List.mem_range, Bool.or_eq_true] at h
  obtain ⟨⟨h1, h2⟩, h3⟩ := h
  have key : ∀ m, 2 ≤ m → m * m ≤ p → p % m ≠ 0 := by
    intro m hm hmm hz
    have hlt : m < 144 := by
      rcases Nat.lt_or_ge m 144 with h | h
      · exact h
      · have := Nat.mul_le_mul h h
        omega
    have := h3 (m - 2) (by omega)
    rw [show m - 2 + 2 = m by omega] at this
    rcases this with h | h
    · exact h hz
    · omega
  refine ⟨h1, fun k h0 hk => ?_⟩
  obtain ⟨g, hg⟩ : ∃ g, Nat.gcd k p = g := ⟨_, rfl⟩
  have d1 : g ∣ k := hg ▸ Nat.gcd_dvd_left k p
  have d2 : g ∣ p := hg ▸ Nat.gcd_dvd_right k p
  have l1 := Nat.le_of_dvd h0 d1
  have g0 : 0 < g := Nat.pos_of_dvd_of_pos d1 h0
  rw [hg]
  rcases Nat.lt_or_ge g 2 with h | h
  · omega
  · exfalso
    obtain ⟨c, hc⟩ := d2
    have c2 : 2 ≤ c := by
      rcases Nat.lt_or_ge c 2 with h' | h'
      · have : c = 0 ∨ c = 1 := by omega
        rcases this with rfl | rfl <;> omega
      · exact h'
    rcases Nat.le_total g c with hgc | hgc
    · refine key g h ?_ (by rw [hc]; exact Nat.mul_mod_right g c)
      rw [hc]; exact Nat.mul_le_mul_left g hgc
    · refine key c c2 ?_ (by rw [hc]; exact Nat.mul_mod_left g c)
      rw [hc]; exact Nat.mul_le_mul_right c hgc

def prodL : List Nat → Nat
  | [] => 1
  | p :: l => p * prodL l
def copL : List Nat → Bool
  | [] => true
  | p :: l => decide (Nat.gcd p (prodL l) = 1) && copL l
theorem prodL_dvd {x : Nat} : ∀ {l : List Nat}, copL l = true → (∀ p ∈ l, p ∣ x) → prodL l ∣ x
  | [], _, _ => Nat.one_dvd x
  | p :: l, h, hd => by
    simp only [copL, Bool.and_eq_true, decide_eq_true_eq] at h
    exact Nat.Coprime.mul_dvd_of_dvd_of_dvd h.1 (hd p (by simp)) (prodL_dvd h.2 fun q hq => hd q (by simp [hq]))

theorem pow_back {l : List Nat} {m : Nat} (hc : copL l = true) (hp : ∀ p ∈ l, prB p = true ∧ m % (p - 1) = 0) (x s : Nat) : x ^ (1 + m * s) % prodL l = x % prodL l := by
  have hle : x ≤ x ^ (1 + m * s) := Nat.le_self_pow (by omega) x
  have hd : prodL l ∣ x ^ (1 + m * s) - x := by
    refine prodL_dvd hc fun p hpm => ?_
    obtain ⟨h1, h2⟩ := hp p hpm
    obtain ⟨c, hc⟩ := Nat.dvd_of_mod_eq_zero h2
    have := fermat_t (prB_Pr h1) x (c * s)
    rw [← Nat.mul_assoc, ← hc] at this
    exact Nat.dvd_of_mod_eq_zero (Nat.sub_mod_eq_zero_of_mod_eq this)
  obtain ⟨c, hc⟩ := hd
  have : x ^ (1 + m * s) = x + prodL l * c := by omega
  rw [this, Nat.add_mul_mod_self_left]

/-- Primes such that one less than each goes into 720720. -/
def prims : List Nat := [3, 5, 7, 11, 13, 17, 19, 23, 29, 31, 37, 41, 43, 53, 61, 67, 71, 73, 79, 89, 113, 127, 131, 157, 181, 199, 211, 241, 281, 313, 331, 337, 397, 421, 463, 521, 547, 617, 631, 661, 859, 881, 911, 937, 991, 1009, 1093, 1171, 1321, 1873, 2003, 2311, 2341, 2521, 2731, 2861, 3121, 3433, 3697, 4621, 6007, 6553, 8009, 8191, 9241, 16381, 18481, 20021, 20593]
theorem prims_ok : ∀ p ∈ prims, prB p = true ∧ 720720 % (p - 1) = 0 := by decide +kernel
/-- Those whose place is not i modulo 8, of the first k. -/
def takeP (i k : Nat) : List Nat := ((List.range k).filter fun j => j % 8 != i).map fun j => prims.getD j 1
theorem takeP_mem {i k p : Nat} (hk : k ≤ 69) (h : p ∈ takeP i k) : p ∈ prims := by
  simp only [takeP, List.mem_map, List.mem_filter, List.mem_range] at h
  obtain ⟨j, ⟨h1, _⟩, rfl⟩ := h
  rw [List.getD_eq_getElem?_getD, List.getElem?_eq_getElem (show j < prims.length by show j < 69; omega)]
  exact List.getElem_mem _
theorem takeP_cop : ∀ i, i < 8 → copL (takeP i 69) = true := by decide +kernel

theorem sign_back {i : Nat} (hi : i < 8) (x : Nat) {d e : Nat} (hd : d * e % 720720 = 1) : (x ^ d % prodL (takeP i 69)) ^ e % prodL (takeP i 69) = x % prodL (takeP i 69) := by
  rw [← Nat.pow_mod, ← Nat.pow_mul]
  have h : d * e = 1 + 720720 * (d * e / 720720) := by
    have := Nat.div_add_mod (d * e) 720720
    omega
  rw [h]
  exact pow_back (takeP_cop i hi) (fun p hp => prims_ok p (takeP_mem (Nat.le_refl _) hp)) x _
end Go.Ga

namespace Go.Ga
open Go Go.Proofs
set_option linter.unusedSimpArgs false
set_option linter.unusedVariables false
set_option maxRecDepth 100000
attribute [local irreducible] appendK endK endW sha

def pcells : List Value := prims.map fun p => .int .u32 ((p : Nat) : Int)

def prodK (i : Nat) : Nat → Nat
  | 0 => 1
  | k + 1 => if k % 8 = i then prodK i k else prodK i k * prims.getD k 1
theorem prodK_eq : ∀ i, i < 8 → prodK i 69 = prodL (takeP i 69) := by decide +kernel
theorem prodK_lt : ∀ i, i < 8 → ∀ k, k < 70 → prodK i k < 4294967296 ^ 125 := by decide +kernel
theorem prims_lt : ∀ k, k < 69 → prims.getD k 1 < 4294967296 := by decide +kernel
theorem prodK_len {i k : Nat} (hi : i < 8) (hk : k < 70) : (lb (prodK i k)).length ≤ 125 := lb_len_le.2 (prodK_lt i hi k hk)
theorem pcells_get {k : Nat} (hk : k < 69) : pcells.getD k undef = .int .u32 ((prims.getD k 1 : Nat) : Int) := by
  rw [pcells, List.getD_eq_getElem?_getD, List.getElem?_map, List.getD_eq_getElem?_getD, List.getElem?_eq_getElem (show k < prims.length by show k < 69; exact hk)]
  rfl
/-- The modulus of a key. -/
def keyM (i : Nat) : Nat := prodK i 69
def keyN (i : Nat) : List UInt8 := cb (keyM i)

section
variable {nx : Nat} {gt : Nat → Option Blk}

theorem ct_primes : Ct Try.prog 52 [] nx gt fun v nx' gt' => v = .slice (some ⟨nx, 0, none⟩) 69 69 ∧ nx' = nx + 1 ∧ gt' nx = some (.cells pcells false) := by
  refine Ct.of hmx r_lanyardref09_primes (by simp [c_lanyardref09_primes]) fun b hb => ?_
  simp only [c_lanyardref09_primes, ↓gaW, ↓gaV, ↓gaC, ↓gaN, gaP, Nat.reduceEqDiff, Nat.reduceLeDiff, Nat.reduceAdd, Nat.reduceSub, Nat.reduceMul, Int.reduceLT, Int.reduceLE, Int.reduceEq, Int.reduceToNat, Int.reduceAdd, Int.reduceSub, Int.reduceMul, reduceCtorEq, ↓reduceIte, gaE, implies_true, Nat.le_refl, Int.sub_zero, Nat.sub_zero, Int.le_refl, true_or, or_true, List.getD_cons_zero, List.getD_cons_succ, fillL, splice, List.take_zero, List.drop_zero, List.drop_succ_cons, List.take_succ_cons, List.drop_nil, List.take_nil]
  refine ⟨by omega, fun q hq => by rw [if_neg (by omega)], ?_⟩
  rfl

theorem ct_inverse : Ct Try.prog 55 [] nx gt fun v _ _ => ∃ d : Nat, v = .int .u32 d ∧ d < 4294967296 ∧ d * 65537 % 720720 = 1 := by
  refine Ct.of hmx r_lanyardref09_inverse (by simp [c_lanyardref09_inverse]) fun b hb => ?_
  simp only [c_lanyardref09_inverse, ↓gaW, ↓gaV, ↓gaC, ↓gaN, gaP, Nat.reduceEqDiff, Nat.reduceLeDiff, Nat.reduceAdd, Nat.reduceSub, Nat.reduceMul, Int.reduceLT, Int.reduceLE, Int.reduceEq, Int.reduceToNat, Int.reduceAdd, Int.reduceSub, Int.reduceMul, reduceCtorEq, ↓reduceIte]
  refine loop_of (fun j f m => ∃ d : Nat, j = 554993 - d ∧ 1 ≤ d ∧ d ≤ 554993 ∧ f 1 = .int .u64 (d : Nat) ∧ m = ⟨nx, b, gt⟩) 554992 ⟨1, rfl, by omega, by omega, by simp only [↓gaW, ↓gaV, ↓gaC, ↓gaN, gaP, Nat.reduceEqDiff, Nat.reduceLeDiff, Nat.reduceAdd, Nat.reduceSub, Nat.reduceMul, Int.reduceLT, Int.reduceLE, Int.reduceEq, Int.reduceToNat, Int.reduceAdd, Int.reduceSub, Int.reduceMul, reduceCtorEq, ↓reduceIte], rfl⟩ ?_
  rintro j f m ⟨d, rfl, h1, h2, f1, rfl⟩
  have e1 : (d : Int) * 65537 = ((d * 65537 : Nat) : Int) := by omega
  have e2 : ((d * 65537 : Nat) : Int).tmod 720720 = ((d * 65537 % 720720 : Nat) : Int) := by rw [Int.tmod_eq_emod_of_nonneg (by omega)]; omega
  by_cases c : ((d * 65537 % 720720 : Nat) : Int) = 1
  · have e3 : IntKind.u32.wrap (d : Int) = ((d : Nat) : Int) := by rw [u32_w]; omega
    simp only [↓gaW, ↓gaV, ↓gaC, ↓gaN, gaP, Nat.reduceEqDiff, Nat.reduceLeDiff, Nat.reduceAdd, Nat.reduceSub, Nat.reduceMul, Int.reduceLT, Int.reduceLE, Int.reduceEq, Int.reduceToNat, Int.reduceAdd, Int.reduceSub, Int.reduceMul, reduceCtorEq, ↓reduceIte, gaE, implies_true, Nat.le_refl, Int.sub_zero, Nat.sub_zero, Int.le_refl, true_or, or_true, f1, e1, u64_i ((d * 65537 : Nat) : Int) (by omega), e2, c, decide_true, Bool.not_true, e3, loopK_e]
    exact ⟨d, rfl, by omega, by omega⟩
  · simp only [↓gaW, ↓gaV, ↓gaC, ↓gaN, gaP, Nat.reduceEqDiff, Nat.reduceLeDiff, Nat.reduceAdd, Nat.reduceSub, Nat.reduceMul, Int.reduceLT, Int.reduceLE, Int.reduceEq, Int.reduceToNat, Int.reduceAdd, Int.reduceSub, Int.reduceMul, reduceCtorEq, ↓reduceIte, f1, e1, u64_i ((d * 65537 : Nat) : Int) (by omega), e2, c, decide_false, Bool.not_false, u64_i ((d : Int) + 1) (by omega), loopK_n]
    have hd : d ≠ 554993 := by
      rintro rfl
      exact c (by decide)
    exact ⟨554993 - (d + 1), by omega, d + 1, rfl, by omega, by omega, rfl⟩

theorem ct_Key {i : Nat} (hi : i < 8) : Ct Try.prog 31 [.int .i64 i] nx gt fun v x g => ∃ A n c, v = keyV A n c 65537 ∧ n ≤ c ∧ (keyN i).length = n ∧ Row x g 1 A n ((keyN i).map u8V) := by
  refine Ct.of hmx r_lanyardref09_Key (by simp [c_lanyardref09_Key]) fun b hb => ?_
  simp only [c_lanyardref09_Key, ↓gaW, ↓gaV, ↓gaC, ↓gaN, gaP, Nat.reduceEqDiff, Nat.reduceLeDiff, Nat.reduceAdd, Nat.reduceSub, Nat.reduceMul, Int.reduceLT, Int.reduceLE, Int.reduceEq, Int.reduceToNat, Int.reduceAdd, Int.reduceSub, Int.reduceMul, reduceCtorEq, ↓reduceIte, List.getD_cons_zero, List.getD_cons_succ, fillL, splice, List.take_zero, List.drop_zero, List.drop_succ_cons, List.take_succ_cons, List.drop_nil, List.take_nil, gaU]
  refine callK_of ct_primes (fun v x1 g1 l1 k1 hC => ?_) (by omega)
  obtain ⟨rfl, rfl, p1⟩ := hC
  have hb1 : g1 nx = some (.cells [.slice none 0 0, .int .u32 0] false) := by rw [k1 nx (by omega)]; simp only [upd_e, if_true]
  have F1 : ∀ q, q < nx → g1 q = gt q := fun q hq => by rw [k1 q (by omega)]; simp only [upd_e]; rw [if_neg (by omega)]
  have ei : (i : Int).tmod 8 = ((i % 8 : Nat) : Int) := by rw [Int.tmod_eq_emod_of_nonneg (by omega)]; omega
  simp only [↓gaW, ↓gaV, ↓gaC, ↓gaN, gaP, Nat.reduceEqDiff, Nat.reduceLeDiff, Nat.reduceAdd, Nat.reduceSub, Nat.reduceMul, Int.reduceLT, Int.reduceLE, Int.reduceEq, Int.reduceToNat, Int.reduceAdd, Int.reduceSub, Int.reduceMul, reduceCtorEq, ↓reduceIte, List.getD_cons_zero, List.getD_cons_succ, fillL, splice, List.take_zero, List.drop_zero, List.drop_succ_cons, List.take_succ_cons, List.drop_nil, List.take_nil, gaU]
  refine bloop_of (fun f m => ∃ (x : Nat) (g : Nat → Option Blk) (A : Option Addr) (n c : Nat), f 2 = .pointer (some ⟨nx, 0, none⟩) ∧ f 4 = .slice A n c ∧ n ≤ c ∧ m = ⟨x, b, g⟩ ∧ nx + 2 ≤ x ∧ (∀ q, q < nx → g q = gt q) ∧ g nx = some (.cells [.slice none 0 0, .int .u32 0] false) ∧ ∃ l : List UInt32, lv l = keyM i ∧ n ≤ 125 ∧ Row x g 1 A n (l.map u32V)) (fun _ _ => False)
    (fun j f m => ∃ (k x : Nat) (g : Nat → Option Blk) (A : Option Addr) (n c : Nat), j = 69 - k ∧ k ≤ 69 ∧ f 0 = .int .i64 i ∧ f 2 = .pointer (some ⟨nx, 0, none⟩) ∧ f 3 = .slice (some ⟨nx + 1, 0, none⟩) 69 69 ∧ f 4 = .slice A n c ∧ n ≤ c ∧ f 5 = .int .i64 (k : Nat) ∧ m = ⟨x, b, g⟩ ∧ nx + 2 ≤ x ∧ (∀ q, q < nx → g q = gt q) ∧ g nx = some (.cells [.slice none 0 0, .int .u32 0] false) ∧ g (nx + 1) = some (.cells pcells false) ∧ ∃ l : List UInt32, lv l = prodK i k ∧ n ≤ 125 ∧ Row x g 1 A n (l.map u32V)) 69
    ⟨0, _, _, some ⟨nx + 1 + 1, 0, none⟩, 1, 1, rfl, by omega, by simp only [↓gaW, ↓gaV, ↓gaC, ↓gaN, gaP, Nat.reduceEqDiff, Nat.reduceLeDiff, Nat.reduceAdd, Nat.reduceSub, Nat.reduceMul, Int.reduceLT, Int.reduceLE, Int.reduceEq, Int.reduceToNat, Int.reduceAdd, Int.reduceSub, Int.reduceMul, reduceCtorEq, ↓reduceIte], by simp only [↓gaW, ↓gaV, ↓gaC, ↓gaN, gaP, Nat.reduceEqDiff, Nat.reduceLeDiff, Nat.reduceAdd, Nat.reduceSub, Nat.reduceMul, Int.reduceLT, Int.reduceLE, Int.reduceEq, Int.reduceToNat, Int.reduceAdd, Int.reduceSub, Int.reduceMul, reduceCtorEq, ↓reduceIte], by simp only [↓gaW, ↓gaV, ↓gaC, ↓gaN, gaP, Nat.reduceEqDiff, Nat.reduceLeDiff, Nat.reduceAdd, Nat.reduceSub, Nat.reduceMul, Int.reduceLT, Int.reduceLE, Int.reduceEq, Int.reduceToNat, Int.reduceAdd, Int.reduceSub, Int.reduceMul, reduceCtorEq, ↓reduceIte], by simp only [↓gaW, ↓gaV, ↓gaC, ↓gaN, gaP, Nat.reduceEqDiff, Nat.reduceLeDiff, Nat.reduceAdd, Nat.reduceSub, Nat.reduceMul, Int.reduceLT, Int.reduceLE, Int.reduceEq, Int.reduceToNat, Int.reduceAdd, Int.reduceSub, Int.reduceMul, reduceCtorEq, ↓reduceIte], by omega, by simp only [↓gaW, ↓gaV, ↓gaC, ↓gaN, gaP, Nat.reduceEqDiff, Nat.reduceLeDiff, Nat.reduceAdd, Nat.reduceSub, Nat.reduceMul, Int.reduceLT, Int.reduceLE, Int.reduceEq, Int.reduceToNat, Int.reduceAdd, Int.reduceSub, Int.reduceMul, reduceCtorEq, ↓reduceIte], rfl, by omega, fun q hq => by simp only [upd_e]; rw [if_neg (by omega), F1 q hq], by simp only [upd_e]; rw [if_neg (by omega), hb1], by simp only [upd_e]; rw [if_neg (by omega), p1], [1], rfl, by omega, row8c (ro := false) (by omega) (by simp only [upd_e, if_true]; rfl) rfl⟩ ?_ ?_ (fun _ _ h => h.elim)
  · intro SS hJ _ j f m
    rintro ⟨k, x, g, A, n, c, rfl, hk, f0, f2, f3, f4, hc, f5, rfl, hx, hF, hbx, hp, l, hl, hn, hr⟩
    have ek : (k : Int).tmod 8 = ((k % 8 : Nat) : Int) := by rw [Int.tmod_eq_emod_of_nonneg (by omega)]; omega
    by_cases hlt : (k : Int) < 69
    · by_cases hq : ((k % 8 : Nat) : Int) = ((i % 8 : Nat) : Int)
      · simp only [↓gaW, ↓gaV, ↓gaC, ↓gaN, gaP, Nat.reduceEqDiff, Nat.reduceLeDiff, Nat.reduceAdd, Nat.reduceSub, Nat.reduceMul, Int.reduceLT, Int.reduceLE, Int.reduceEq, Int.reduceToNat, Int.reduceAdd, Int.reduceSub, Int.reduceMul, reduceCtorEq, ↓reduceIte, f0, f2, f3, f4, f5, ei, ek, hlt, hq, decide_true, Bool.not_true, i64_w ((k : Int) + 1) (by omega), loopK_n]
        exact ⟨69 - (k + 1), by omega, k + 1, x, g, A, n, c, rfl, by omega, rfl, hc, rfl, rfl, hx, hF, hbx, hp, l, by rw [prodK, if_pos (by omega), hl], hn, hr⟩
      · have hpk := prims_lt k (by omega)
        simp only [↓gaW, ↓gaV, ↓gaC, ↓gaN, gaP, Nat.reduceEqDiff, Nat.reduceLeDiff, Nat.reduceAdd, Nat.reduceSub, Nat.reduceMul, Int.reduceLT, Int.reduceLE, Int.reduceEq, Int.reduceToNat, Int.reduceAdd, Int.reduceSub, Int.reduceMul, reduceCtorEq, ↓reduceIte, List.getD_cons_zero, fillL, spl1, f0, f2, f3, f4, f5, ei, ek, hlt, hq, hp, pcells_get (show k < 69 by omega), decide_true, decide_false, Bool.not_false, Nat.mul_one, Nat.zero_add, Int.toNat_natCast, List.length_cons, List.length_nil]
        refine And.intro (by omega) (And.intro (by show k < 69; omega) ?_)
        generalize hp1 : prims.getD k 1 = p1 at *
        have eE : Value.int .u32 (p1 : Int) = u32V (UInt32.ofNat p1) := by rw [u32V, ofNat32, Nat.mod_eq_of_lt hpk]
        have eL : lv [UInt32.ofNat p1] = p1 := by simp [lv, ofNat32, Nat.mod_eq_of_lt hpk]
        have K : ∀ {B : Option Blk} q, q < x → upd g x B q = g q := fun q hq => by simp only [upd_e]; rw [if_neg (by omega)]
        have hone : Row (x + 1) (upd g x (some (.cells [.int .u32 (p1 : Int)] false))) 1 (some ⟨x, 0, none⟩) 1 ([UInt32.ofNat p1].map u32V) := row8c (ro := false) (by omega) (by simp only [upd_e, if_true, List.map_cons, List.map_nil, eE]) rfl
        refine callK_of (ct_rMul (c := c) (d := 1) (hr.keep (by omega) K) (by omega) hone (by omega)) (fun v x2 g2 l2 k2 hC => ?_) (by omega)
        have hq' : ¬ k % 8 = i := by omega
        have hmul : prodK i (k + 1) = prodK i k * p1 := by rw [prodK, if_neg hq', hp1]
        rw [eL, hl, ← hmul] at hC
        obtain ⟨A2, n2, c2, rfl, hc2, hl2, r2⟩ := hC
        have hn2 : n2 ≤ 125 := by rw [← hl2]; exact prodK_len hi (by omega)
        simp only [↓gaW, ↓gaV, ↓gaC, ↓gaN, gaP, Nat.reduceEqDiff, Nat.reduceLeDiff, Nat.reduceAdd, Nat.reduceSub, Nat.reduceMul, Int.reduceLT, Int.reduceLE, Int.reduceEq, Int.reduceToNat, Int.reduceAdd, Int.reduceSub, Int.reduceMul, reduceCtorEq, ↓reduceIte, f5, i64_w ((k : Int) + 1) (by omega), loopK_n]
        exact ⟨69 - (k + 1), by omega, k + 1, x2, g2, A2, n2, c2, rfl, by omega, f0, f2, f3, rfl, hc2, rfl, rfl, by omega, fun q hq => by rw [k2 q (by omega), K q (by omega), hF q hq], by rw [k2 _ (by omega), K _ (by omega), hbx], by rw [k2 _ (by omega), K _ (by omega), hp], _, lv_lb _, hn2, r2⟩
    · have hk69 : k = 69 := by omega
      subst hk69
      simp only [↓gaW, ↓gaV, ↓gaC, ↓gaN, gaP, Nat.reduceEqDiff, Nat.reduceLeDiff, Nat.reduceAdd, Nat.reduceSub, Nat.reduceMul, Int.reduceLT, Int.reduceLE, Int.reduceEq, Int.reduceToNat, Int.reduceAdd, Int.reduceSub, Int.reduceMul, reduceCtorEq, ↓reduceIte, f0, f2, f3, f4, f5, hlt, decide_false]
      exact hJ _ _ ⟨x, g, A, n, c, by simp only [↓gaW, ↓gaV, ↓gaC, ↓gaN, gaP, Nat.reduceEqDiff, Nat.reduceLeDiff, Nat.reduceAdd, Nat.reduceSub, Nat.reduceMul, Int.reduceLT, Int.reduceLE, Int.reduceEq, Int.reduceToNat, Int.reduceAdd, Int.reduceSub, Int.reduceMul, reduceCtorEq, ↓reduceIte, f2], by simp only [↓gaW, ↓gaV, ↓gaC, ↓gaN, gaP, Nat.reduceEqDiff, Nat.reduceLeDiff, Nat.reduceAdd, Nat.reduceSub, Nat.reduceMul, Int.reduceLT, Int.reduceLE, Int.reduceEq, Int.reduceToNat, Int.reduceAdd, Int.reduceSub, Int.reduceMul, reduceCtorEq, ↓reduceIte, f4], hc, rfl, hx, hF, hbx, l, hl, hn, hr⟩
  · intro f m hh
    generalize hX : D Try.prog _ AEx.normal f m = X
    obtain ⟨x, g, A, n, c, f2, f4, hc, rfl, hx, hF, hbx, l, hl, hn, hr⟩ := hh
    rw [← hX]
    clear hX
    simp only [↓gaW, ↓gaV, ↓gaC, ↓gaN, gaP, Nat.reduceEqDiff, Nat.reduceLeDiff, Nat.reduceAdd, Nat.reduceSub, Nat.reduceMul, Int.reduceLT, Int.reduceLE, Int.reduceEq, Int.reduceToNat, Int.reduceAdd, Int.reduceSub, Int.reduceMul, reduceCtorEq, ↓reduceIte, f2, f4]
    refine callK_of (ct_rTo (c := c) hr (by omega)) (fun v x2 g2 l2 k2 hC => ?_) (by omega)
    obtain ⟨B, k, d, rfl, hd, hkl, hrb⟩ := hC
    rw [hl] at hkl hrb
    have hb2 : g2 nx = some (.cells [.slice none 0 0, .int .u32 0] false) := by rw [k2 nx (by omega), hbx]
    simp only [↓gaW, ↓gaV, ↓gaC, ↓gaN, gaP, Nat.reduceEqDiff, Nat.reduceLeDiff, Nat.reduceAdd, Nat.reduceSub, Nat.reduceMul, Int.reduceLT, Int.reduceLE, Int.reduceEq, Int.reduceToNat, Int.reduceAdd, Int.reduceSub, Int.reduceMul, reduceCtorEq, ↓reduceIte, List.getD_cons_zero, List.getD_cons_succ, fillL, splice, List.take_zero, List.drop_zero, List.drop_succ_cons, List.take_succ_cons, List.drop_nil, List.take_nil, f2, hb2]
    refine And.intro (by omega) (And.intro ?_ ?_)
    · intro v hv
      simp only [List.mem_cons, List.not_mem_nil, or_false] at hv
      rcases hv with rfl | rfl <;> simp [cellVal, Value.oneCell']
    · refine end_cN (q := nx) (ro := false) [.slice B k d, .int .u32 65537] (by simp only [↓gaW, ↓gaV, ↓gaC, ↓gaN, gaP, Nat.reduceEqDiff, Nat.reduceLeDiff, Nat.reduceAdd, Nat.reduceSub, Nat.reduceMul, Int.reduceLT, Int.reduceLE, Int.reduceEq, Int.reduceToNat, Int.reduceAdd, Int.reduceSub, Int.reduceMul, reduceCtorEq, ↓reduceIte, f2]) (by simp only [upd_e, if_true]) rfl ⟨rfl, by omega, fun q hq => by simp only [upd_e]; rw [if_neg (by omega), k2 q (by omega), hF q hq], B, k, d, rfl, hd, hkl, ?_⟩
      exact hrb.keepA (Nat.le_refl _) fun h0 a ha => by
        subst ha
        obtain ⟨a', ce, ro, e1, e2, e3, e4, e5⟩ := hrb.cells h0
        injection e1 with e1
        subst e1
        simp only [upd_e]
        rw [if_neg]
        intro hab
        rw [hab, hb2] at e3
        injection e3 with e3
        injection e3 with e3 _
        subst e3
        have h5 := e5 0 h0
        rw [getD_u8 (by omega), Nat.add_zero] at h5
        have h4 : a.off + k ≤ 2 := e4
        rcases (show a.off = 0 ∨ a.off = 1 by omega) with h | h <;> rw [h] at h5 <;> cases h5
end
end Go.Ga

namespace Go.Ga
open Go Go.Proofs
set_option linter.unusedSimpArgs false
set_option linter.unusedVariables false
set_option maxRecDepth 100000
attribute [local irreducible] appendK endK endW sha

theorem keyM_size : ∀ i, i < 8 → 256 ^ 61 ≤ keyM i ∧ keyM i < 256 ^ 70 ∧ keyM i % 2 = 1 := by decide +kernel
theorem bv_zeros (k : Nat) : bv (List.replicate k 0) = 0 := by
  induction k with
  | zero => rfl
  | succ k ih => simp [List.replicate_succ, bv, ih]
theorem bv_padL (s x : Nat) : bv (padL s x) = x := by
  rw [padL, bv_append, bv_zeros, bv_cb]; omega
theorem cb_ge {x k : Nat} (h : 256 ^ k ≤ x) : k < (cb x).length := by
  rcases Nat.lt_or_ge k (cb x).length with h1 | h1
  · exact h1
  · have h2 := bv_lt (cb x)
    rw [bv_cb] at h2
    have h3 : 256 ^ (cb x).length ≤ 256 ^ k := Nat.pow_le_pow_right (by omega) h1
    omega
theorem padL_bv : ∀ l : List UInt8, padL l.length (bv l) = l
  | [] => by simp [padL, bv, cb_zero]
  | x :: l => by
    have ih := padL_bv l
    have hl := bv_lt l
    by_cases hx : x.toNat = 0
    · have e : bv (x :: l) = bv l := by rw [bv, hx]; omega
      have hx0 : x = 0 := UInt8.toNat_inj.1 (by simpa using hx)
      have hc := cb_le hl
      rw [e, padL, List.length_cons, show l.length + 1 - (cb (bv l)).length = (l.length - (cb (bv l)).length) + 1 by omega, List.replicate_succ, List.cons_append, ← padL, ih, hx0]
    · have h1 : 256 ^ l.length ≤ bv (x :: l) := by
        rw [bv]
        have : 1 * 256 ^ l.length ≤ x.toNat * 256 ^ l.length := Nat.mul_le_mul_right _ (by omega)
        omega
      have h2 := cb_ge h1
      obtain ⟨h3, h4⟩ := bv_cb_drop (x :: l)
      have h5 : (cb (bv (x :: l))).length = (x :: l).length := by rw [List.length_cons] at h3 ⊢; omega
      rw [padL, h5, Nat.sub_self, List.replicate_zero, List.nil_append, ← h4, h5, Nat.sub_self, List.drop_zero]

theorem keyN_len {i : Nat} (hi : i < 8) : 62 ≤ (keyN i).length ∧ (keyN i).length ≤ 70 := by
  obtain ⟨h1, h2, _⟩ := keyM_size i hi
  exact ⟨cb_ge h1, cb_le h2⟩
theorem keyN_bv (i : Nat) : bv (keyN i) = keyM i := bv_cb _
theorem keyN_right {i : Nat} (hi : i < 8) : rightB (keyN i) 65537 = true := by
  obtain ⟨h1, h2, h3⟩ := keyM_size i hi
  obtain ⟨l1, l2⟩ := keyN_len hi
  have hM : keyM i ≠ 0 := by
    have : 0 < 256 ^ 61 := Nat.pow_pos (by omega)
    omega
  have hlast : ((keyN i).getD ((keyN i).length - 1) 0).toNat % 2 = 1 := by
    have e : keyN i = cb (keyM i / 256) ++ [UInt8.ofNat (keyM i)] := by
      rw [keyN, cb, if_neg hM]
    rw [e, List.length_append, List.length_singleton, Nat.add_sub_cancel, List.getD_eq_getElem?_getD, List.getElem?_append_right (by omega), Nat.sub_self]
    simp only [List.getElem?_cons_zero, Option.getD_some, UInt8.toNat_ofNat']
    omega
  have hfirst : ((keyN i).getD 0 0).toNat ≠ 0 := by
    intro h0
    have hb := keyN_bv i
    cases hk : keyN i with
    | nil => rw [hk] at l1; exact absurd l1 (by decide)
    | cons x l =>
      rw [hk] at h0 hb
      have h0 : x.toNat = 0 := h0
      rw [bv, h0, Nat.zero_mul, Nat.zero_add] at hb
      have := cb_le (x := keyM i) (k := l.length) (by rw [← hb]; exact bv_lt l)
      rw [← keyN, hk, List.length_cons] at this
      omega
  rw [rightB, decide_eq_true_eq]
  exact ⟨l1, by omega, hfirst, hlast, by decide, by decide⟩

/-- The frame as a number, and the signature. -/
def frN (i : Nat) (T : List UInt8) : Nat := bv (frL (sha T) (keyN i).length)
def sgL (i d : Nat) (T : List UInt8) : List UInt8 := padL (keyN i).length (frN i T ^ d % keyM i)
theorem frL_len {H : List UInt8} {n : Nat} (hH : H.length = 32) (hn : 62 ≤ n) : (frL H n).length = n := by
  simp [frL, ahL, hH]; omega
theorem frN_lt {i : Nat} (hi : i < 8) (T : List UInt8) : frN i T < keyM i := by
  obtain ⟨l1, l2⟩ := keyN_len hi
  have hl := frL_len (sha_len T) l1
  obtain ⟨n, hn⟩ : ∃ n, (keyN i).length = n + 1 := ⟨(keyN i).length - 1, by omega⟩
  have h1 : 256 ^ n ≤ keyM i := by
    rcases Nat.lt_or_ge (keyM i) (256 ^ n) with h | h
    · have := cb_le h
      rw [← keyN] at this
      omega
    · exact h
  rw [frN]
  rw [hn] at hl ⊢
  have e : ∃ R, frL (sha T) (n + 1) = 0 :: R := ⟨_, rfl⟩
  obtain ⟨R, hR⟩ := e
  rw [hR] at hl ⊢
  have h2 := bv_lt R
  rw [show R.length = n by simpa using hl] at h2
  rw [bv, show (0 : UInt8).toNat = 0 from rfl, Nat.zero_mul, Nat.zero_add]
  omega
theorem sg_pow {i d E : Nat} (hi : i < 8) (hR : rightB (keyN i) E = true) (hd : d * E % 720720 = 1) (T : List UInt8) : powR (keyN i) (sgL i d T) E = (frL (sha T) (keyN i).length, 0) := by
  obtain ⟨l1, l2⟩ := keyN_len hi
  have hM := (keyM_size i hi).1
  have hpos : 0 < keyM i := Nat.lt_of_lt_of_le (Nat.pow_pos (by omega)) hM
  have hlt : frN i T ^ d % keyM i < keyM i := Nat.mod_lt _ hpos
  have hbv : keyM i < 256 ^ (keyN i).length := by
    have := bv_lt (keyN i)
    rwa [keyN_bv] at this
  have e1 : (sgL i d T).length = (keyN i).length := padL_len (Nat.lt_trans hlt hbv)
  have e2 : bv (sgL i d T) = frN i T ^ d % keyM i := bv_padL _ _
  rw [powR, if_neg (by simp [hR]), if_neg (by rw [e1, e2, keyN_bv]; omega), e2, keyN_bv]
  have h := sign_back hi (frN i T) hd
  rw [← prodK_eq i hi] at h
  rw [show (frN i T ^ d % keyM i) ^ E % keyM i = frN i T % keyM i from h, Nat.mod_eq_of_lt (frN_lt hi T), frN]
  have h3 := padL_bv (frL (sha T) (keyN i).length)
  rw [frL_len (sha_len T) l1] at h3
  rw [h3]
theorem sg_same {i d E : Nat} (hi : i < 8) (hR : rightB (keyN i) E = true) (hd : d * E % 720720 = 1) (T U : List UInt8) : (verR (keyN i) (sgL i d T) E U = 0) ↔ sha T = sha U := by
  rw [verR, sg_pow hi hR hd, if_neg (by simp)]
  constructor
  · intro h
    split at h
    · rename_i h1
      have h1 := beq_iff_eq.1 h1
      simp only [frL, List.append_assoc] at h1
      exact List.append_cancel_left (List.append_cancel_left (List.append_cancel_left h1))
    · cases h
  · intro h
    rw [h, if_pos (beq_self_eq_true _)]
theorem sg_bad {N S T : List UInt8} {E : Nat} : (verR N S E T = 0) ↔ ((powR N S E).2 = 0 ∧ ((powR N S E).1 == frL (sha T) N.length) = true) := by
  rw [verR]
  constructor
  · intro h
    split at h
    · rename_i h1; exact absurd h h1
    · rename_i h1
      split at h
      · rename_i h2; exact ⟨by simpa using h1, h2⟩
      · cases h
  · rintro ⟨h1, h2⟩
    rw [if_neg (by simpa using h1), if_pos h2]

section
variable {nx : Nat} {gt : Nat → Option Blk}

theorem ct_Sign {C : Option Addr} {h e i : Nat} {T : List UInt8} (hi : i < 8) (hC : Row nx gt 1 C h (T.map u8V)) (he : h ≤ e) (hh : h ≤ 100000) :
    Ct Try.prog 32 [.int .i64 i, .slice C h e] nx gt fun v x g => ∃ d, d * 65537 % 720720 = 1 ∧ BySl x g v (sgL i d T) := by
  refine Ct.of hmx r_lanyardref09_Sign (by simp [c_lanyardref09_Sign]) fun b hb => ?_
  obtain ⟨q1, q2⟩ := keyN_len hi
  have hsl := sha_len T
  simp only [c_lanyardref09_Sign, ↓gaW, ↓gaV, ↓gaC, ↓gaN, gaP, Nat.reduceEqDiff, Nat.reduceLeDiff, Nat.reduceAdd, Nat.reduceSub, Nat.reduceMul, Int.reduceLT, Int.reduceLE, Int.reduceEq, Int.reduceToNat, Int.reduceAdd, Int.reduceSub, Int.reduceMul, reduceCtorEq, ↓reduceIte, List.getD_cons_zero, List.getD_cons_succ, fillL, splice, List.take_zero, List.drop_zero, List.drop_succ_cons, List.take_succ_cons, List.drop_nil, List.take_nil, gaU]
  refine callK_of (ct_Key hi) (fun v x1 g1 l1 k1 hv => ?_) (by omega)
  obtain ⟨A, n, c, rfl, hc, hN, hA⟩ := hv
  rw [hN] at q1 q2
  have hC1 := hC.keep l1 k1
  simp only [keyV, ↓gaW, ↓gaV, ↓gaC, ↓gaN, gaP, Nat.reduceEqDiff, Nat.reduceLeDiff, Nat.reduceAdd, Nat.reduceSub, Nat.reduceMul, Int.reduceLT, Int.reduceLE, Int.reduceEq, Int.reduceToNat, Int.reduceAdd, Int.reduceSub, Int.reduceMul, reduceCtorEq, ↓reduceIte, List.getD_cons_zero, List.getD_cons_succ, fillL, splice, List.take_zero, List.drop_zero, List.drop_succ_cons, List.take_succ_cons, List.drop_nil, List.take_nil, gaU]
  refine And.intro (by omega) (And.intro ?_ ?_)
  · intro v hv
    simp only [List.mem_cons, List.not_mem_nil, or_false] at hv
    rcases hv with rfl | rfl <;> rfl
  obtain ⟨g2, hg2⟩ : ∃ g, g = upd (upd g1 x1 (some (.cells [.slice none 0 0, .int .u32 0] false))) x1 (some (.cells [.slice A n c, .int .u32 65537] false)) := ⟨_, rfl⟩
  have k2 : ∀ q, q < x1 → g2 q = g1 q := fun q hq => by subst hg2; simp only [upd_e]; rw [if_neg (by omega), if_neg (by omega)]
  have b2 : g2 x1 = some (.cells [.slice A n c, .int .u32 65537] false) := by subst hg2; simp only [upd_e, if_true]
  rw [← hg2]
  clear hg2
  have hA2 := hA.keep (nx' := x1 + 1) (by omega) k2
  have hC2 := hC1.keep (nx' := x1 + 1) (by omega) k2
  have F2 : ∀ q, q < nx → g2 q = gt q := fun q hq => by rw [k2 q (by omega), k1 q hq]
  refine callQ_of (ct_rOf hC2 he (by omega)) (fun v x3 g3 l3 k3 hv => ?_)
  subst hv
  have b3 : g3 x1 = some (.cells [.slice A n c, .int .u32 65537] false) := by rw [k3 _ (by omega), b2]
  have hA3 := hA2.keep l3 k3
  have F3 : ∀ q, q < nx → g3 q = gt q := fun q hq => by rw [k3 q (by omega), F2 q hq]
  simp only [↓gaW, ↓gaV, ↓gaC, ↓gaN, gaP, Nat.reduceEqDiff, Nat.reduceLeDiff, Nat.reduceAdd, Nat.reduceSub, Nat.reduceMul, Int.reduceLT, Int.reduceLE, Int.reduceEq, Int.reduceToNat, Int.reduceAdd, Int.reduceSub, Int.reduceMul, reduceCtorEq, ↓reduceIte, b3, List.getD_cons_zero, List.length_cons, List.length_nil]
  repeat refine And.intro (by omega) ?_
  refine callQ_of (ct_rFrame (s := (n : Int)) hsl) (fun v x4 g4 l4 k4 hv => ?_)
  obtain ⟨B, m, d, rfl, hd, hm, hB⟩ := hv
  have hf : frameR (sha T) (n : Int) = (frL (sha T) n, 0) := by rw [frameR, if_pos (by omega), Int.toNat_natCast]
  rw [hf] at hm hB ⊢
  have hm : m = n := by rw [hm]; exact frL_len hsl q1
  subst hm
  have b4 : g4 x1 = some (.cells [.slice A m c, .int .u32 65537] false) := by rw [k4 _ (by omega), b3]
  have hA4 := hA3.keep l4 k4
  have F4 : ∀ q, q < nx → g4 q = gt q := fun q hq => by rw [k4 q (by omega), F3 q hq]
  simp only [↓gaW, ↓gaV, ↓gaC, ↓gaN, gaP, Nat.reduceEqDiff, Nat.reduceLeDiff, Nat.reduceAdd, Nat.reduceSub, Nat.reduceMul, Int.reduceLT, Int.reduceLE, Int.reduceEq, Int.reduceToNat, Int.reduceAdd, Int.reduceSub, Int.reduceMul, reduceCtorEq, ↓reduceIte]
  repeat refine And.intro (by omega) ?_
  refine callQ_of (ct_rFrom (c := d) hB (by omega)) (fun v x5 g5 l5 k5 hv => ?_)
  obtain ⟨A5, n5, c5, rfl, hc5, hl5, r5⟩ := hv
  have b5 : g5 x1 = some (.cells [.slice A m c, .int .u32 65537] false) := by rw [k5 _ (by omega), b4]
  have hA5 := hA4.keep l5 k5
  have F5 : ∀ q, q < nx → g5 q = gt q := fun q hq => by rw [k5 q (by omega), F4 q hq]
  simp only [↓gaW, ↓gaV, ↓gaC, ↓gaN, gaP, Nat.reduceEqDiff, Nat.reduceLeDiff, Nat.reduceAdd, Nat.reduceSub, Nat.reduceMul, Int.reduceLT, Int.reduceLE, Int.reduceEq, Int.reduceToNat, Int.reduceAdd, Int.reduceSub, Int.reduceMul, reduceCtorEq, ↓reduceIte]
  refine callQ_of ct_inverse (fun v x6 g6 l6 k6 hv => ?_)
  obtain ⟨D, rfl, hD1, hD2⟩ := hv
  have b6 : g6 x1 = some (.cells [.slice A m c, .int .u32 65537] false) := by rw [k6 _ (by omega), b5]
  have hA6 := hA5.keep l6 k6
  have r56 := r5.keep l6 k6
  have F6 : ∀ q, q < nx → g6 q = gt q := fun q hq => by rw [k6 q (by omega), F5 q hq]
  have hx1 : ¬ x1 = x6 := by omega
  simp only [↓gaW, ↓gaV, ↓gaC, ↓gaN, gaP, Nat.reduceEqDiff, Nat.reduceLeDiff, Nat.reduceAdd, Nat.reduceSub, Nat.reduceMul, Int.reduceLT, Int.reduceLE, Int.reduceEq, Int.reduceToNat, Int.reduceAdd, Int.reduceSub, Int.reduceMul, reduceCtorEq, ↓reduceIte, fillL, spl1, b6, List.getD_cons_zero, List.length_cons, List.length_nil, if_neg hx1]
  repeat refine And.intro (by omega) ?_
  have eE : Value.int .u32 (D : Int) = u32V (UInt32.ofNat D) := by rw [u32V, ofNat32, Nat.mod_eq_of_lt hD1]
  have eL : lv [UInt32.ofNat D] = D := by simp [lv, ofNat32, Nat.mod_eq_of_lt hD1]
  have K6 : ∀ {B : Option Blk} q, q < x6 → upd g6 x6 B q = g6 q := fun q hq => by simp only [upd_e]; rw [if_neg (by omega)]
  have hone : Row (x6 + 1) (upd g6 x6 (some (.cells [.int .u32 (D : Int)] false))) 1 (some ⟨x6, 0, none⟩) 1 ([UInt32.ofNat D].map u32V) := row8c (ro := false) (by omega) (by simp only [upd_e, if_true, List.map_cons, List.map_nil, eE]) rfl
  have hF : bv (frL (sha T) m) = frN i T := by rw [frN, hN]
  rw [show bv (frL (sha T) m, (0 : Int)).1 = frN i T from hF] at hl5 r56
  refine callQ_of (ct_rFrom (c := c) (hA6.keep (by omega) K6) (by omega)) (fun v x7 g7 l7 k7 hv => ?_)
  rw [keyN_bv] at hv
  obtain ⟨A7, n7, c7, rfl, hc7, hl7, r7⟩ := hv
  have b7 : g7 x1 = some (.cells [.slice A m c, .int .u32 65537] false) := by rw [k7 _ (by omega), K6 _ (by omega), b6]
  have F7 : ∀ q, q < nx → g7 q = gt q := fun q hq => by rw [k7 q (by omega), K6 q (by omega), F6 q hq]
  have r57 := (r56.keep (nx' := x6 + 1) (by omega) K6).keep l7 k7
  have o7 := hone.keep l7 k7
  have hbM : keyM i < 256 ^ m := by
    have := bv_lt (keyN i)
    rwa [keyN_bv, hN] at this
  have hFl := frN_lt hi T
  have hn5 : n5 ≤ m + 1 := by rw [← hl5]; exact lb_bytes (Nat.lt_trans hFl hbM)
  have hn7 : n7 ≤ m + 1 := by rw [← hl7]; exact lb_bytes hbM
  simp only [↓gaW, ↓gaV, ↓gaC, ↓gaN, gaP, Nat.reduceEqDiff, Nat.reduceLeDiff, Nat.reduceAdd, Nat.reduceSub, Nat.reduceMul, Int.reduceLT, Int.reduceLE, Int.reduceEq, Int.reduceToNat, Int.reduceAdd, Int.reduceSub, Int.reduceMul, reduceCtorEq, ↓reduceIte]
  refine callQ_of (ct_rExp r57 hc5 (by omega) o7 (Nat.le_refl _) (by omega) r7 hc7 (by omega)) (fun v x8 g8 l8 k8 hv => ?_)
  rw [lv_lb, lv_lb, eL] at hv
  obtain ⟨A8, n8, c8, rfl, hc8, hl8, r8⟩ := hv.w (by omega)
  have b8 : g8 x1 = some (.cells [.slice A m c, .int .u32 65537] false) := by rw [k8 _ (by omega), b7]
  have F8 : ∀ q, q < nx → g8 q = gt q := fun q hq => by rw [k8 q (by omega), F7 q hq]
  have hy : frN i T ^ D % keyM i < 256 ^ m := Nat.lt_trans (Nat.mod_lt _ (by omega)) hbM
  have hn8 : n8 ≤ m + 1 := by rw [← hl8]; exact lb_bytes hy
  have hsg : sgL i D T = padL m (frN i T ^ D % keyM i) := by rw [sgL, hN]
  generalize frN i T ^ D % keyM i = y at *
  simp only [↓gaW, ↓gaV, ↓gaC, ↓gaN, gaP, Nat.reduceEqDiff, Nat.reduceLeDiff, Nat.reduceAdd, Nat.reduceSub, Nat.reduceMul, Int.reduceLT, Int.reduceLE, Int.reduceEq, Int.reduceToNat, Int.reduceAdd, Int.reduceSub, Int.reduceMul, reduceCtorEq, ↓reduceIte, b8, List.getD_cons_zero, List.length_cons, List.length_nil]
  repeat refine And.intro (by omega) ?_
  refine callK_of (ct_Padded (c := c8) (s := m) r8 (by omega) (by omega)) (fun v x9 g9 l9 k9 hv => ?_) (by omega)
  rw [lv_lb, ← hsg] at hv
  obtain ⟨A9, n9, c9, rfl, hc9, hl9, r9⟩ := hv
  simp only [↓gaW, ↓gaV, ↓gaC, ↓gaN, gaP, Nat.reduceEqDiff, Nat.reduceLeDiff, Nat.reduceAdd, Nat.reduceSub, Nat.reduceMul, Int.reduceLT, Int.reduceLE, Int.reduceEq, Int.reduceToNat, Int.reduceAdd, Int.reduceSub, Int.reduceMul, reduceCtorEq, ↓reduceIte, gaE, implies_true, Nat.le_refl, Int.sub_zero, Nat.sub_zero, Int.le_refl, true_or, or_true]
  exact ⟨by omega, fun q hq => by rw [k9 q (by omega), F8 q hq], D, hD2, A9, n9, c9, rfl, hc9, hl9, r9⟩
end
end Go.Ga
