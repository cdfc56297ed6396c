/- Words and contracts of functions for the statement's proof. No condition. -/
import Derived.Test.YtdoceobedbmkiaaA6
set_option linter.all false

namespace Go.Ga
open Go Go.Proofs
set_option linter.unusedSimpArgs false
set_option linter.unusedVariables false
set_option maxRecDepth 100000
attribute [local irreducible] appendK

def rdA : RC :=
  (.seq
  (.ops [] [
  ⟨(some 12), (.op (.mv (.k (.int .i64 0)))), none⟩])
  (.block 2
  (.loop
  (.seq
  (.seq
  (.ops [] [
  ⟨(some 42), (.op (.mv (.t 12))), none⟩,
  ⟨(some 43), (.op (.mv (.t 8))), none⟩,
  ⟨(some 44), (.op (.lenSl (.t 43))), none⟩,
  ⟨(some 45), (.op (.bin .lss (.t 42) (.t 44))), none⟩])
  (.cond (.t 45)
  .skip
  (.exit 2)))
  (.seq
  (.block 3
  (.seq
  (.ops [] [
  ⟨(some 48), (.op (.mv (.t 8))), none⟩,
  ⟨(some 49), (.op (.mv (.t 12))), none⟩,
  ⟨(some 50), (.op (.ixAddr 1 (.t 48) (.t 49))), none⟩,
  ⟨(some 51), (.op (.load1 (.t 50))), none⟩,
  ⟨(some 52), (.op (.bin .shr (.t 51) (.k (.int .u64 31)))), none⟩,
  ⟨(some 13), (.op (.mv (.t 52))), none⟩])
  (.seq
  (.ops [] [
  ⟨(some 53), (.op (.mv (.t 8))), none⟩,
  ⟨(some 54), (.op (.mv (.t 12))), none⟩,
  ⟨(some 55), (.op (.mv (.t 8))), none⟩,
  ⟨(some 56), (.op (.mv (.t 12))), none⟩,
  ⟨(some 57), (.op (.ixAddr 1 (.t 55) (.t 56))), none⟩,
  ⟨(some 58), (.op (.load1 (.t 57))), none⟩,
  ⟨(some 59), (.op (.bin .shl (.t 58) (.k (.int .u64 1)))), none⟩,
  ⟨(some 60), (.op (.mv (.t 11))), none⟩,
  ⟨(some 61), (.op (.bin .or (.t 59) (.t 60))), none⟩,
  ⟨(some 62), (.op (.ixAddr 1 (.t 53) (.t 54))), none⟩,
  ⟨none, (.op (.store 1 (.t 62) (.t 61))), none⟩])
  (.ops [] [
  ⟨(some 63), (.op (.mv (.t 13))), none⟩,
  ⟨(some 11), (.op (.mv (.t 63))), none⟩]))))
  (.ops [] [
  ⟨(some 46), (.op (.mv (.t 12))), none⟩,
  ⟨(some 47), (.op (.bin .add (.t 46) (.k (.int .i64 1)))), none⟩,
  ⟨(some 12), (.op (.mv (.t 47))), none⟩]))))))
def rdB : RC :=
  (.seq
  (.ops [] [
  ⟨(some 15), (.op (.mv (.k (.int .i64 0)))), none⟩])
  (.block 4
  (.loop
  (.seq
  (.seq
  (.ops [] [
  ⟨(some 67), (.op (.mv (.t 15))), none⟩,
  ⟨(some 68), (.op (.mv (.t 8))), none⟩,
  ⟨(some 69), (.op (.lenSl (.t 68))), none⟩,
  ⟨(some 70), (.op (.bin .lss (.t 67) (.t 69))), none⟩])
  (.cond (.t 70)
  .skip
  (.exit 4)))
  (.seq
  (.block 5
  (.seq
  (.ops [] [
  ⟨(some 73), (.op (.mv (.t 7))), none⟩,
  ⟨(some 74), (.op (.mv (.t 15))), none⟩,
  ⟨(some 75), (.op (.ixAddr 1 (.t 73) (.t 74))), none⟩,
  ⟨(some 76), (.op (.load1 (.t 75))), none⟩,
  ⟨(some 77), (.op (.toInt .u64 (.t 76))), none⟩,
  ⟨(some 78), (.op (.mv (.t 14))), none⟩,
  ⟨(some 79), (.op (.bin .add (.t 77) (.t 78))), none⟩,
  ⟨(some 16), (.op (.mv (.t 79))), none⟩])
  (.seq
  (.ops [] [
  ⟨(some 14), (.op (.mv (.k (.int .u64 0)))), none⟩])
  (.seq
  (.seq
  (.ops [] [
  ⟨(some 80), (.op (.mv (.t 8))), none⟩,
  ⟨(some 81), (.op (.mv (.t 15))), none⟩,
  ⟨(some 82), (.op (.ixAddr 1 (.t 80) (.t 81))), none⟩,
  ⟨(some 83), (.op (.load1 (.t 82))), none⟩,
  ⟨(some 84), (.op (.toInt .u64 (.t 83))), none⟩,
  ⟨(some 85), (.op (.mv (.t 16))), none⟩,
  ⟨(some 86), (.op (.bin .lss (.t 84) (.t 85))), none⟩])
  (.cond (.t 86)
  (.ops [] [
  ⟨(some 14), (.op (.mv (.k (.int .u64 1)))), none⟩])
  .skip))
  (.ops [] [
  ⟨(some 87), (.op (.mv (.t 8))), none⟩,
  ⟨(some 88), (.op (.mv (.t 15))), none⟩,
  ⟨(some 89), (.op (.mv (.t 8))), none⟩,
  ⟨(some 90), (.op (.mv (.t 15))), none⟩,
  ⟨(some 91), (.op (.ixAddr 1 (.t 89) (.t 90))), none⟩,
  ⟨(some 92), (.op (.load1 (.t 91))), none⟩,
  ⟨(some 93), (.op (.toInt .u64 (.t 92))), none⟩,
  ⟨(some 94), (.op (.mv (.t 16))), none⟩,
  ⟨(some 95), (.op (.bin .sub (.t 93) (.t 94))), none⟩,
  ⟨(some 96), (.op (.toInt .u32 (.t 95))), none⟩,
  ⟨(some 97), (.op (.ixAddr 1 (.t 87) (.t 88))), none⟩,
  ⟨none, (.op (.store 1 (.t 97) (.t 96))), none⟩])))))
  (.ops [] [
  ⟨(some 71), (.op (.mv (.t 15))), none⟩,
  ⟨(some 72), (.op (.bin .add (.t 71) (.k (.int .i64 1)))), none⟩,
  ⟨(some 15), (.op (.mv (.t 72))), none⟩]))))))
def rdC : RC :=
  (.ops [
  ⟨(some 98), (.op (.mv (.t 9))), none⟩,
  ⟨(some 99), (.op (.mv (.t 10))), none⟩,
  ⟨(some 100), (.op (.bin .quo (.t 99) (.k (.int .i64 32)))), none⟩,
  ⟨(some 101), (.op (.mv (.t 9))), none⟩,
  ⟨(some 102), (.op (.mv (.t 10))), none⟩,
  ⟨(some 103), (.op (.bin .quo (.t 102) (.k (.int .i64 32)))), none⟩,
  ⟨(some 104), (.op (.ixAddr 1 (.t 101) (.t 103))), none⟩,
  ⟨(some 105), (.op (.load1 (.t 104))), none⟩,
  ⟨(some 106), (.op (.mv (.t 10))), none⟩,
  ⟨(some 107), (.op (.bin .rem (.t 106) (.k (.int .i64 32)))), none⟩,
  ⟨(some 108), (.op (.bin .shl (.k (.int .u32 1)) (.t 107))), none⟩,
  ⟨(some 109), (.op (.bin .or (.t 105) (.t 108))), none⟩] [
  ⟨(some 110), (.op (.ixAddr 1 (.t 98) (.t 100))), none⟩,
  ⟨none, (.op (.store 1 (.t 110) (.t 109))), none⟩])

theorem dbl_step {U L P c0 c W : Nat} (h : U + P * c = 2 * L + c0) : U + P * (W * 2 % 4294967296 + c) + P * 4294967296 * (W / 2147483648) = 2 * (L + P * W) + c0 := by
  have key : W * 2 % 4294967296 + 4294967296 * (W / 2147483648) = 2 * W := by omega
  have h2 := congrArg (P * ·) key
  simp only [Nat.mul_add] at h2 ⊢
  rw [Nat.mul_assoc P 4294967296]
  have e : P * (2 * W) = 2 * (P * W) := by ac_rfl
  omega

theorem sub_step8 {U L K P o W Y D S : Nat} (hk : D + Y + o = W + 4294967296 * S) (h : U + K = L + P * o) : U + P * D + (K + P * Y) = L + P * W + P * 4294967296 * S := by
  have h2 := congrArg (P * ·) hk
  simp only [Nat.mul_add] at h2
  rw [Nat.mul_assoc P 4294967296]
  omega

theorem low_word {l : List UInt32} {k : Nat} (h : lv l % 2 ^ (k + 1) = 0) : (l.getD (k / 32) 0).toNat % 2 ^ (k % 32 + 1) = 0 := by
  have hr : k % 32 < 32 := Nat.mod_lt _ (by decide)
  have e1 : (2 : Nat) ^ (k + 1) = 4294967296 ^ (k / 32) * 2 ^ (k % 32 + 1) := by
    have e : (4294967296 : Nat) = 2 ^ 32 := by decide
    rw [e, ← Nat.pow_mul, ← Nat.pow_add]
    congr 1
    omega
  have e2 : (4294967296 : Nat) = 2 ^ (k % 32 + 1) * 2 ^ (31 - k % 32) := by
    rw [← Nat.pow_add, show k % 32 + 1 + (31 - k % 32) = 32 by omega]
  have h3 : 2 ^ (k % 32 + 1) ∣ lv l / 4294967296 ^ (k / 32) := by
    obtain ⟨x, hx⟩ := Nat.dvd_of_mod_eq_zero h
    rw [hx, e1, Nat.mul_assoc, Nat.mul_div_cancel_left _ (Nat.pow_pos (by decide))]
    exact Nat.dvd_mul_right _ _
  rw [lv_get]
  obtain ⟨x, hx⟩ := h3
  rw [hx]
  conv => lhs; rw [show 2 ^ (k % 32 + 1) * x % 4294967296 = 2 ^ (k % 32 + 1) * x % (2 ^ (k % 32 + 1) * 2 ^ (31 - k % 32)) by rw [← e2]]
  rw [Nat.mul_mod_mul_left, Nat.mul_mod_right]

theorem or_bit {w r : Nat} (h : w % 2 ^ (r + 1) = 0) : (w ||| 2 ^ r) = w + 2 ^ r := by
  obtain ⟨x, hx⟩ := Nat.dvd_of_mod_eq_zero h
  rw [hx]
  exact (Nat.two_pow_add_eq_or_of_lt (i := r + 1) (b := 2 ^ r) (Nat.pow_lt_pow_right (by decide) (by omega)) x).symm

section
variable {f : Regs} {x b q N : Nat} {g : Nat → Option Blk} {rl : List UInt32} {s : Stk}

theorem rdA_of {c0 : Nat} (hb : b ≤ q) (hq : q < x) (f8 : f 8 = .slice (some ⟨q, 0, none⟩) N N) (f11 : f 11 = .int .u32 (c0 : Nat)) (hc : c0 < 2) (gq : g q = some (.cells (rl.map u32V) false)) (hN : rl.length = N) (hNs : N < 1000000000)
    (K : ∀ (f' : Regs) (g' : Nat → Option Blk) (u : List UInt32) (c : Nat), f' 0 = f 0 → f' 7 = f 7 → f' 8 = f 8 → f' 9 = f 9 → f' 10 = f 10 → (∀ p, p ≠ q → g' p = g p) → g' q = some (.cells (u.map u32V) false) → u.length = N → lv u + 4294967296 ^ N * c = 2 * lv rl + c0 → D Try.prog s .normal f' ⟨x, b, g'⟩) :
    RC.vc Try.prog rdA f ⟨x, b, g⟩ (D Try.prog s) := by
  simp only [rdA, ↓gaW, ↓gaV, ↓gaC, ↓gaN, gaP, Nat.reduceEqDiff, Nat.reduceLeDiff, Nat.reduceAdd, Nat.reduceSub, Nat.reduceMul, Int.reduceLT, Int.reduceLE, Int.reduceEq, Int.reduceToNat, Int.reduceAdd, Int.reduceSub, Int.reduceMul, reduceCtorEq, ↓reduceIte]
  refine loop_of (fun j f' m => ∃ (i c : Nat) (g' : Nat → Option Blk) (u : List UInt32), j = N - i ∧ i ≤ N ∧ c < 2 ∧ f' 0 = f 0 ∧ f' 7 = f 7 ∧ f' 8 = .slice (some ⟨q, 0, none⟩) N N ∧ f' 9 = f 9 ∧ f' 10 = f 10 ∧ f' 11 = .int .u32 (c : Nat) ∧ f' 12 = .int .i64 (i : Nat) ∧ m = ⟨x, b, g'⟩ ∧
      (∀ p, p ≠ q → g' p = g p) ∧ g' q = some (.cells (u.map u32V) false) ∧ u.length = N ∧ (∀ j, i ≤ j → u.getD j 0 = rl.getD j 0) ∧ lv (u.take i) + 4294967296 ^ i * c = 2 * lv (rl.take i) + c0) N
    ⟨0, c0, g, rl, by omega, by omega, hc, by simp only [↓gaW, ↓gaV, ↓gaC, ↓gaN, gaP, Nat.reduceEqDiff, Nat.reduceLeDiff, Nat.reduceAdd, Nat.reduceSub, Nat.reduceMul, Int.reduceLT, Int.reduceLE, Int.reduceEq, Int.reduceToNat, Int.reduceAdd, Int.reduceSub, Int.reduceMul, reduceCtorEq, ↓reduceIte], by simp only [↓gaW, ↓gaV, ↓gaC, ↓gaN, gaP, Nat.reduceEqDiff, Nat.reduceLeDiff, Nat.reduceAdd, Nat.reduceSub, Nat.reduceMul, Int.reduceLT, Int.reduceLE, Int.reduceEq, Int.reduceToNat, Int.reduceAdd, Int.reduceSub, Int.reduceMul, reduceCtorEq, ↓reduceIte], by simp only [↓gaW, ↓gaV, ↓gaC, ↓gaN, gaP, Nat.reduceEqDiff, Nat.reduceLeDiff, Nat.reduceAdd, Nat.reduceSub, Nat.reduceMul, Int.reduceLT, Int.reduceLE, Int.reduceEq, Int.reduceToNat, Int.reduceAdd, Int.reduceSub, Int.reduceMul, reduceCtorEq, ↓reduceIte, f8], by simp only [↓gaW, ↓gaV, ↓gaC, ↓gaN, gaP, Nat.reduceEqDiff, Nat.reduceLeDiff, Nat.reduceAdd, Nat.reduceSub, Nat.reduceMul, Int.reduceLT, Int.reduceLE, Int.reduceEq, Int.reduceToNat, Int.reduceAdd, Int.reduceSub, Int.reduceMul, reduceCtorEq, ↓reduceIte], by simp only [↓gaW, ↓gaV, ↓gaC, ↓gaN, gaP, Nat.reduceEqDiff, Nat.reduceLeDiff, Nat.reduceAdd, Nat.reduceSub, Nat.reduceMul, Int.reduceLT, Int.reduceLE, Int.reduceEq, Int.reduceToNat, Int.reduceAdd, Int.reduceSub, Int.reduceMul, reduceCtorEq, ↓reduceIte], by simp only [↓gaW, ↓gaV, ↓gaC, ↓gaN, gaP, Nat.reduceEqDiff, Nat.reduceLeDiff, Nat.reduceAdd, Nat.reduceSub, Nat.reduceMul, Int.reduceLT, Int.reduceLE, Int.reduceEq, Int.reduceToNat, Int.reduceAdd, Int.reduceSub, Int.reduceMul, reduceCtorEq, ↓reduceIte, f11], by simp only [↓gaW, ↓gaV, ↓gaC, ↓gaN, gaP, Nat.reduceEqDiff, Nat.reduceLeDiff, Nat.reduceAdd, Nat.reduceSub, Nat.reduceMul, Int.reduceLT, Int.reduceLE, Int.reduceEq, Int.reduceToNat, Int.reduceAdd, Int.reduceSub, Int.reduceMul, reduceCtorEq, ↓reduceIte], rfl, fun _ _ => rfl, gq, hN, fun _ _ => rfl, by simp [lv]⟩ ?_
  rintro j f' m ⟨i, c, g', u, rfl, hi, hc2, h0, h7, h8, h9, h10, h11, h12, rfl, hg, hgq, hu, hz, he⟩
  by_cases hlt : (i : Int) < (N : Int)
  · have hw : (u.map u32V).getD i undef = .int .u32 ((u.getD i 0).toNat : Nat) := getD_u32 (by omega)
    have hW32 := lt32 (u.getD i 0)
    have hzi := hz i (Nat.le_refl i)
    obtain ⟨W, hW⟩ : ∃ W, (u.getD i 0).toNat = W := ⟨_, rfl⟩
    rw [hW] at hw hW32
    have s1 : shrV .u32 (W : Int) 31 = ((W / 2147483648 : Nat) : Int) := shr_nat (k := .u32) W 31 (by decide)
    have s2 : shlV .u32 (W : Int) 1 = ((W * 2 % 4294967296 : Nat) : Int) := shl32w (s := 1) (by decide)
    obtain ⟨o1, o2⟩ := low_or (c := c) (x := W) (s := 1) (by decide) (by omega)
    rw [Nat.pow_one] at o1 o2
    have s3 : bitsV .or .u32 ((W * 2 % 4294967296 : Nat) : Int) (c : Int) = ((W * 2 % 4294967296 + c : Nat) : Int) := by
      rw [or_u32 (Nat.mod_lt _ (by decide)) (by omega), Nat.or_comm, o1, Nat.add_comm]
    have sp : splice (u.map u32V) i [.int .u32 ((W * 2 % 4294967296 + c : Nat) : Int)] = (u.set i (UInt32.ofNat (W * 2 % 4294967296 + c))).map u32V := by
      rw [u32V_lt (by omega), splice_set (by omega)]
    have q1 : (i : Int) + 1 = ((i + 1 : Nat) : Int) := by omega
    simp only [↓gaW, ↓gaV, ↓gaC, ↓gaN, gaP, Nat.reduceEqDiff, Nat.reduceLeDiff, Nat.reduceAdd, Nat.reduceSub, Nat.reduceMul, Int.reduceLT, Int.reduceLE, Int.reduceEq, Int.reduceToNat, Int.reduceAdd, Int.reduceSub, Int.reduceMul, reduceCtorEq, ↓reduceIte, h0, h7, h8, h9, h10, h11, h12, hlt, decide_true, hgq, Nat.zero_add, Nat.mul_one, hw, s1, s2, s3, sp]
    repeat refine And.intro (by first | omega | (simp; done) | (simp; omega) | exact all1 rfl) ?_
    simp only [↓gaW, ↓gaV, ↓gaC, ↓gaN, gaP, Nat.reduceEqDiff, Nat.reduceLeDiff, Nat.reduceAdd, Nat.reduceSub, Nat.reduceMul, Int.reduceLT, Int.reduceLE, Int.reduceEq, Int.reduceToNat, Int.reduceAdd, Int.reduceSub, Int.reduceMul, reduceCtorEq, ↓reduceIte, h12, q1, i64_w ((i + 1 : Nat) : Int) (by omega), loopK_n]
    repeat refine And.intro (by first | omega | (simp; done) | (simp; omega) | exact all1 rfl) ?_
    refine ⟨N - (i + 1), by omega, i + 1, W / 2147483648, _, u.set i (UInt32.ofNat (W * 2 % 4294967296 + c)), rfl, by omega, by omega, h0, h7, h8, h9, h10, rfl, rfl, rfl, fun p hp => ?_, by simp only [upd_e, if_true], by simp [hu], fun j hj => ?_, ?_⟩
    · simp only [upd_e]; rw [if_neg hp, hg p hp]
    · rw [set_getD_ne (by omega)]; exact hz j (by omega)
    · rw [lv_set_take (by omega), ofNat32, Nat.mod_eq_of_lt (by omega), lv_take' rl, ← hzi, hW, Nat.pow_succ]
      exact dbl_step he
  · have hin : i = N := by omega
    subst hin
    rw [List.take_of_length_le (by omega), List.take_of_length_le (by omega)] at he
    simp only [↓gaW, ↓gaV, ↓gaC, ↓gaN, gaP, Nat.reduceEqDiff, Nat.reduceLeDiff, Nat.reduceAdd, Nat.reduceSub, Nat.reduceMul, Int.reduceLT, Int.reduceLE, Int.reduceEq, Int.reduceToNat, Int.reduceAdd, Int.reduceSub, Int.reduceMul, reduceCtorEq, ↓reduceIte, h8, h12, hlt, decide_false, loopK_e]
    exact K _ _ u c (by simp only [↓gaW, ↓gaV, ↓gaC, ↓gaN, gaP, Nat.reduceEqDiff, Nat.reduceLeDiff, Nat.reduceAdd, Nat.reduceSub, Nat.reduceMul, Int.reduceLT, Int.reduceLE, Int.reduceEq, Int.reduceToNat, Int.reduceAdd, Int.reduceSub, Int.reduceMul, reduceCtorEq, ↓reduceIte, h0]) (by simp only [↓gaW, ↓gaV, ↓gaC, ↓gaN, gaP, Nat.reduceEqDiff, Nat.reduceLeDiff, Nat.reduceAdd, Nat.reduceSub, Nat.reduceMul, Int.reduceLT, Int.reduceLE, Int.reduceEq, Int.reduceToNat, Int.reduceAdd, Int.reduceSub, Int.reduceMul, reduceCtorEq, ↓reduceIte, h7]) (by simp only [↓gaW, ↓gaV, ↓gaC, ↓gaN, gaP, Nat.reduceEqDiff, Nat.reduceLeDiff, Nat.reduceAdd, Nat.reduceSub, Nat.reduceMul, Int.reduceLT, Int.reduceLE, Int.reduceEq, Int.reduceToNat, Int.reduceAdd, Int.reduceSub, Int.reduceMul, reduceCtorEq, ↓reduceIte, h8, f8]) (by simp only [↓gaW, ↓gaV, ↓gaC, ↓gaN, gaP, Nat.reduceEqDiff, Nat.reduceLeDiff, Nat.reduceAdd, Nat.reduceSub, Nat.reduceMul, Int.reduceLT, Int.reduceLE, Int.reduceEq, Int.reduceToNat, Int.reduceAdd, Int.reduceSub, Int.reduceMul, reduceCtorEq, ↓reduceIte, h9]) (by simp only [↓gaW, ↓gaV, ↓gaC, ↓gaN, gaP, Nat.reduceEqDiff, Nat.reduceLeDiff, Nat.reduceAdd, Nat.reduceSub, Nat.reduceMul, Int.reduceLT, Int.reduceLE, Int.reduceEq, Int.reduceToNat, Int.reduceAdd, Int.reduceSub, Int.reduceMul, reduceCtorEq, ↓reduceIte, h10]) hg hgq hu he

theorem rdB_of {A : Option Addr} {d : Nat} {kl : List UInt32} (hb : b ≤ q) (hq : q < x) (f7 : f 7 = .slice A N d) (f8 : f 8 = .slice (some ⟨q, 0, none⟩) N N) (f14 : f 14 = .int .u64 0) (hr : Row x g 1 A N (kl.map u32V)) (hA : ∀ a, A = some a → a.block ≠ q) (gq : g q = some (.cells (rl.map u32V) false)) (hN : rl.length = N) (hNs : N < 1000000000)
    (K : ∀ (f' : Regs) (g' : Nat → Option Blk) (u : List UInt32) (c : Nat), f' 0 = f 0 → f' 7 = f 7 → f' 8 = f 8 → f' 9 = f 9 → f' 10 = f 10 → (∀ p, p ≠ q → g' p = g p) → g' q = some (.cells (u.map u32V) false) → u.length = N → lv u + lv kl = lv rl + 4294967296 ^ N * c → D Try.prog s .normal f' ⟨x, b, g'⟩) :
    RC.vc Try.prog rdB f ⟨x, b, g⟩ (D Try.prog s) := by
  have hk : kl.length = N := by simpa using hr.len
  simp only [rdB, ↓gaW, ↓gaV, ↓gaC, ↓gaN, gaP, Nat.reduceEqDiff, Nat.reduceLeDiff, Nat.reduceAdd, Nat.reduceSub, Nat.reduceMul, Int.reduceLT, Int.reduceLE, Int.reduceEq, Int.reduceToNat, Int.reduceAdd, Int.reduceSub, Int.reduceMul, reduceCtorEq, ↓reduceIte]
  refine loop_of (fun j f' m => ∃ (i c : Nat) (g' : Nat → Option Blk) (u : List UInt32), j = N - i ∧ i ≤ N ∧ c < 2 ∧ f' 0 = f 0 ∧ f' 7 = .slice A N d ∧ f' 8 = .slice (some ⟨q, 0, none⟩) N N ∧ f' 9 = f 9 ∧ f' 10 = f 10 ∧ f' 14 = .int .u64 (c : Nat) ∧ f' 15 = .int .i64 (i : Nat) ∧ m = ⟨x, b, g'⟩ ∧
      (∀ p, p ≠ q → g' p = g p) ∧ g' q = some (.cells (u.map u32V) false) ∧ u.length = N ∧ (∀ j, i ≤ j → u.getD j 0 = rl.getD j 0) ∧ lv (u.take i) + lv (kl.take i) = lv (rl.take i) + 4294967296 ^ i * c) N
    ⟨0, 0, g, rl, by omega, by omega, by omega, by simp only [↓gaW, ↓gaV, ↓gaC, ↓gaN, gaP, Nat.reduceEqDiff, Nat.reduceLeDiff, Nat.reduceAdd, Nat.reduceSub, Nat.reduceMul, Int.reduceLT, Int.reduceLE, Int.reduceEq, Int.reduceToNat, Int.reduceAdd, Int.reduceSub, Int.reduceMul, reduceCtorEq, ↓reduceIte], by simp only [↓gaW, ↓gaV, ↓gaC, ↓gaN, gaP, Nat.reduceEqDiff, Nat.reduceLeDiff, Nat.reduceAdd, Nat.reduceSub, Nat.reduceMul, Int.reduceLT, Int.reduceLE, Int.reduceEq, Int.reduceToNat, Int.reduceAdd, Int.reduceSub, Int.reduceMul, reduceCtorEq, ↓reduceIte, f7], by simp only [↓gaW, ↓gaV, ↓gaC, ↓gaN, gaP, Nat.reduceEqDiff, Nat.reduceLeDiff, Nat.reduceAdd, Nat.reduceSub, Nat.reduceMul, Int.reduceLT, Int.reduceLE, Int.reduceEq, Int.reduceToNat, Int.reduceAdd, Int.reduceSub, Int.reduceMul, reduceCtorEq, ↓reduceIte, f8], by simp only [↓gaW, ↓gaV, ↓gaC, ↓gaN, gaP, Nat.reduceEqDiff, Nat.reduceLeDiff, Nat.reduceAdd, Nat.reduceSub, Nat.reduceMul, Int.reduceLT, Int.reduceLE, Int.reduceEq, Int.reduceToNat, Int.reduceAdd, Int.reduceSub, Int.reduceMul, reduceCtorEq, ↓reduceIte], by simp only [↓gaW, ↓gaV, ↓gaC, ↓gaN, gaP, Nat.reduceEqDiff, Nat.reduceLeDiff, Nat.reduceAdd, Nat.reduceSub, Nat.reduceMul, Int.reduceLT, Int.reduceLE, Int.reduceEq, Int.reduceToNat, Int.reduceAdd, Int.reduceSub, Int.reduceMul, reduceCtorEq, ↓reduceIte], by simp only [↓gaW, ↓gaV, ↓gaC, ↓gaN, gaP, Nat.reduceEqDiff, Nat.reduceLeDiff, Nat.reduceAdd, Nat.reduceSub, Nat.reduceMul, Int.reduceLT, Int.reduceLE, Int.reduceEq, Int.reduceToNat, Int.reduceAdd, Int.reduceSub, Int.reduceMul, reduceCtorEq, ↓reduceIte, f14], by simp only [↓gaW, ↓gaV, ↓gaC, ↓gaN, gaP, Nat.reduceEqDiff, Nat.reduceLeDiff, Nat.reduceAdd, Nat.reduceSub, Nat.reduceMul, Int.reduceLT, Int.reduceLE, Int.reduceEq, Int.reduceToNat, Int.reduceAdd, Int.reduceSub, Int.reduceMul, reduceCtorEq, ↓reduceIte], rfl, fun _ _ => rfl, gq, hN, fun _ _ => rfl, by simp [lv]⟩ ?_
  rintro j f' m ⟨i, c, g', u, rfl, hi, hc2, h0, h7, h8, h9, h10, h14, h15, rfl, hg, hgq, hu, hz, he⟩
  by_cases hlt : (i : Int) < (N : Int)
  · have hw : (u.map u32V).getD i undef = .int .u32 ((u.getD i 0).toNat : Nat) := getD_u32 (by omega)
    have hW32 := lt32 (u.getD i 0)
    have hzi := hz i (Nat.le_refl i)
    obtain ⟨a, ce, ro, rfl, p1, p2, p3, p4⟩ := w32_cell hr hk (i := i) (by omega)
    have p2' : g' a.block = some (.cells ce ro) := by rw [hg _ (hA a rfl), p2]
    have hY32 := lt32 (kl.getD i 0)
    obtain ⟨W, hW⟩ : ∃ W, (u.getD i 0).toNat = W := ⟨_, rfl⟩
    obtain ⟨Y, hY⟩ : ∃ Y, (kl.getD i 0).toNat = Y := ⟨_, rfl⟩
    rw [hW] at hw hW32
    rw [hY] at p4 hY32
    have q1 : (i : Int) + 1 = ((i + 1 : Nat) : Int) := by omega
    have e1 : (Y : Int) + (c : Int) = ((Y + c : Nat) : Int) := by omega
    have hD : ∃ D S : Nat, D < 4294967296 ∧ S < 2 ∧ D + Y + c = W + 4294967296 * S ∧ IntKind.u32.wrap (IntKind.u64.wrap ((W : Int) - ((Y + c : Nat) : Int))) = (D : Int) ∧ ((W : Int) < ((Y + c : Nat) : Int) ↔ S = 1) := by
      rw [u64_w, u32_w]
      by_cases h : W < Y + c
      · exact ⟨W + 4294967296 - Y - c, 1, by omega, by omega, by omega, by omega, by omega⟩
      · exact ⟨W - Y - c, 0, by omega, by omega, by omega, by omega, by omega⟩
    obtain ⟨D, S, hD1, hS1, hkey, hD2, hS2⟩ := hD
    have sp : splice (u.map u32V) i [.int .u32 (D : Nat)] = (u.set i (UInt32.ofNat D)).map u32V := by
      rw [u32V_lt (by omega), splice_set (by omega)]
    simp only [↓gaW, ↓gaV, ↓gaC, ↓gaN, gaP, Nat.reduceEqDiff, Nat.reduceLeDiff, Nat.reduceAdd, Nat.reduceSub, Nat.reduceMul, Int.reduceLT, Int.reduceLE, Int.reduceEq, Int.reduceToNat, Int.reduceAdd, Int.reduceSub, Int.reduceMul, reduceCtorEq, ↓reduceIte, h0, h7, h8, h9, h10, h14, h15, hlt, decide_true, hgq, p2', p4, Nat.zero_add, Nat.mul_one, hw, u64_i (Y : Int) (by omega), u64_i (W : Int) (by omega), e1, u64_i ((Y + c : Nat) : Int) (by omega)]
    repeat refine And.intro (by first | omega | (simp; done) | (simp; omega) | exact all1 rfl) ?_
    have hz' : ∀ j, i + 1 ≤ j → (u.set i (UInt32.ofNat D)).getD j 0 = rl.getD j 0 := fun j hj => by
      rw [set_getD_ne (by omega)]; exact hz j (by omega)
    have he' : lv ((u.set i (UInt32.ofNat D)).take (i + 1)) + lv (kl.take (i + 1)) = lv (rl.take (i + 1)) + 4294967296 ^ (i + 1) * S := by
      rw [lv_set_take (by omega), ofNat32, Nat.mod_eq_of_lt (by omega), lv_take' rl, lv_take' kl, ← hzi, hW, hY, Nat.pow_succ]
      exact sub_step8 hkey he
    have hg' : ∀ p, p ≠ q → upd g' q (some (.cells ((u.set i (UInt32.ofNat D)).map u32V) false)) p = g p := fun p hp => by
      simp only [upd_e]; rw [if_neg hp, hg p hp]
    have hq' : upd g' q (some (.cells ((u.set i (UInt32.ofNat D)).map u32V) false)) q = some (.cells ((u.set i (UInt32.ofNat D)).map u32V) false) := by simp only [upd_e, if_true]
    by_cases hS : (W : Int) < ((Y + c : Nat) : Int)
    · have := hS2.1 hS
      subst this
      simp only [↓gaW, ↓gaV, ↓gaC, ↓gaN, gaP, Nat.reduceEqDiff, Nat.reduceLeDiff, Nat.reduceAdd, Nat.reduceSub, Nat.reduceMul, Int.reduceLT, Int.reduceLE, Int.reduceEq, Int.reduceToNat, Int.reduceAdd, Int.reduceSub, Int.reduceMul, reduceCtorEq, ↓reduceIte, h8, h15, hS, decide_true, hgq, hw, Nat.zero_add, Nat.mul_one, u64_i (W : Int) (by omega), hD2, sp]
      repeat refine And.intro (by first | omega | (simp; done) | (simp; omega) | exact all1 rfl) ?_
      simp only [↓gaW, ↓gaV, ↓gaC, ↓gaN, gaP, Nat.reduceEqDiff, Nat.reduceLeDiff, Nat.reduceAdd, Nat.reduceSub, Nat.reduceMul, Int.reduceLT, Int.reduceLE, Int.reduceEq, Int.reduceToNat, Int.reduceAdd, Int.reduceSub, Int.reduceMul, reduceCtorEq, ↓reduceIte, h15, q1, i64_w ((i + 1 : Nat) : Int) (by omega), loopK_n]
      repeat refine And.intro (by first | omega | (simp; done) | (simp; omega) | exact all1 rfl) ?_
      exact ⟨N - (i + 1), by omega, i + 1, 1, _, _, rfl, by omega, by omega, h0, h7, h8, h9, h10, rfl, rfl, rfl, hg', hq', by simp [hu], hz', he'⟩
    · have hS0 : S = 0 := by
        rcases Nat.lt_or_ge S 1 with h | h
        · omega
        · exact absurd (hS2.2 (by omega)) hS
      subst hS0
      simp only [↓gaW, ↓gaV, ↓gaC, ↓gaN, gaP, Nat.reduceEqDiff, Nat.reduceLeDiff, Nat.reduceAdd, Nat.reduceSub, Nat.reduceMul, Int.reduceLT, Int.reduceLE, Int.reduceEq, Int.reduceToNat, Int.reduceAdd, Int.reduceSub, Int.reduceMul, reduceCtorEq, ↓reduceIte, h8, h15, hS, decide_false, hgq, hw, Nat.zero_add, Nat.mul_one, u64_i (W : Int) (by omega), hD2, sp]
      repeat refine And.intro (by first | omega | (simp; done) | (simp; omega) | exact all1 rfl) ?_
      simp only [↓gaW, ↓gaV, ↓gaC, ↓gaN, gaP, Nat.reduceEqDiff, Nat.reduceLeDiff, Nat.reduceAdd, Nat.reduceSub, Nat.reduceMul, Int.reduceLT, Int.reduceLE, Int.reduceEq, Int.reduceToNat, Int.reduceAdd, Int.reduceSub, Int.reduceMul, reduceCtorEq, ↓reduceIte, h15, q1, i64_w ((i + 1 : Nat) : Int) (by omega), loopK_n]
      repeat refine And.intro (by first | omega | (simp; done) | (simp; omega) | exact all1 rfl) ?_
      exact ⟨N - (i + 1), by omega, i + 1, 0, _, _, rfl, by omega, by omega, h0, h7, h8, h9, h10, rfl, rfl, rfl, hg', hq', by simp [hu], hz', he'⟩
  · have hin : i = N := by omega
    subst hin
    rw [List.take_of_length_le (by omega), List.take_of_length_le (by omega), List.take_of_length_le (by omega)] at he
    simp only [↓gaW, ↓gaV, ↓gaC, ↓gaN, gaP, Nat.reduceEqDiff, Nat.reduceLeDiff, Nat.reduceAdd, Nat.reduceSub, Nat.reduceMul, Int.reduceLT, Int.reduceLE, Int.reduceEq, Int.reduceToNat, Int.reduceAdd, Int.reduceSub, Int.reduceMul, reduceCtorEq, ↓reduceIte, h8, h15, hlt, decide_false, loopK_e]
    exact K _ _ u c (by simp only [↓gaW, ↓gaV, ↓gaC, ↓gaN, gaP, Nat.reduceEqDiff, Nat.reduceLeDiff, Nat.reduceAdd, Nat.reduceSub, Nat.reduceMul, Int.reduceLT, Int.reduceLE, Int.reduceEq, Int.reduceToNat, Int.reduceAdd, Int.reduceSub, Int.reduceMul, reduceCtorEq, ↓reduceIte, h0]) (by simp only [↓gaW, ↓gaV, ↓gaC, ↓gaN, gaP, Nat.reduceEqDiff, Nat.reduceLeDiff, Nat.reduceAdd, Nat.reduceSub, Nat.reduceMul, Int.reduceLT, Int.reduceLE, Int.reduceEq, Int.reduceToNat, Int.reduceAdd, Int.reduceSub, Int.reduceMul, reduceCtorEq, ↓reduceIte, h7, f7]) (by simp only [↓gaW, ↓gaV, ↓gaC, ↓gaN, gaP, Nat.reduceEqDiff, Nat.reduceLeDiff, Nat.reduceAdd, Nat.reduceSub, Nat.reduceMul, Int.reduceLT, Int.reduceLE, Int.reduceEq, Int.reduceToNat, Int.reduceAdd, Int.reduceSub, Int.reduceMul, reduceCtorEq, ↓reduceIte, h8, f8]) (by simp only [↓gaW, ↓gaV, ↓gaC, ↓gaN, gaP, Nat.reduceEqDiff, Nat.reduceLeDiff, Nat.reduceAdd, Nat.reduceSub, Nat.reduceMul, Int.reduceLT, Int.reduceLE, Int.reduceEq, Int.reduceToNat, Int.reduceAdd, Int.reduceSub, Int.reduceMul, reduceCtorEq, ↓reduceIte, h9]) (by simp only [↓gaW, ↓gaV, ↓gaC, ↓gaN, gaP, Nat.reduceEqDiff, Nat.reduceLeDiff, Nat.reduceAdd, Nat.reduceSub, Nat.reduceMul, Int.reduceLT, Int.reduceLE, Int.reduceEq, Int.reduceToNat, Int.reduceAdd, Int.reduceSub, Int.reduceMul, reduceCtorEq, ↓reduceIte, h10]) hg hgq hu he

theorem rdC_of {k : Nat} {ql : List UInt32} (hb : b ≤ q) (hq : q < x) (f9 : f 9 = .slice (some ⟨q, 0, none⟩) N N) (f10 : f 10 = .int .i64 (k : Nat)) (gq : g q = some (.cells (ql.map u32V) false)) (hN : ql.length = N) (hNs : N < 1000000000) (hk : k < 32 * N) (h0 : lv ql % 2 ^ (k + 1) = 0)
    (K : ∀ (f' : Regs) (g' : Nat → Option Blk) (u : List UInt32), f' 0 = f 0 → f' 7 = f 7 → f' 8 = f 8 → f' 9 = f 9 → f' 10 = f 10 → (∀ p, p ≠ q → g' p = g p) → g' q = some (.cells (u.map u32V) false) → u.length = N → lv u = lv ql + 2 ^ k → D Try.prog s .normal f' ⟨x, b, g'⟩) :
    RC.vc Try.prog rdC f ⟨x, b, g⟩ (D Try.prog s) := by
  have d1 : (k : Int).tdiv 32 = ((k / 32 : Nat) : Int) := by rw [Int.tdiv_eq_ediv_of_nonneg (by omega)]; omega
  have d2 : (k : Int).tmod 32 = ((k % 32 : Nat) : Int) := by rw [Int.tmod_eq_emod_of_nonneg (by omega)]; omega
  have hr : k % 32 < 32 := Nat.mod_lt _ (by decide)
  have hr2 : 2 ^ (k % 32) < 4294967296 := Nat.pow_lt_pow_right (a := 2) (by decide) hr
  have s2 : shlV .u32 1 ((k % 32 : Nat) : Int) = ((2 ^ (k % 32) : Nat) : Int) := by
    have := shl32w (x := 1) (s := k % 32) (by omega)
    rw [Nat.one_mul, Nat.mod_eq_of_lt hr2] at this
    exact this
  have hw : (ql.map u32V).getD (k / 32) undef = .int .u32 ((ql.getD (k / 32) 0).toNat : Nat) := getD_u32 (by omega)
  have hW32 := lt32 (ql.getD (k / 32) 0)
  have hlw := low_word h0
  have hse := lv_set (w := ql) (i := k / 32) (x := UInt32.ofNat ((ql.getD (k / 32) 0).toNat + 2 ^ (k % 32))) (by omega)
  obtain ⟨W, hW⟩ : ∃ W, (ql.getD (k / 32) 0).toNat = W := ⟨_, rfl⟩
  rw [hW] at hw hW32 hlw hse
  have ho := or_bit hlw
  have hWb : W + 2 ^ (k % 32) < 4294967296 := by rw [← ho]; exact Nat.or_lt_two_pow (n := 32) hW32 hr2
  have s3 : bitsV .or .u32 (W : Int) ((2 ^ (k % 32) : Nat) : Int) = ((W + 2 ^ (k % 32) : Nat) : Int) := by rw [or_u32 hW32 hr2, ho]
  rw [ofNat32, Nat.mod_eq_of_lt hWb] at hse
  obtain ⟨Z, hZ⟩ : ∃ Z, 2 ^ (k % 32) = Z := ⟨_, rfl⟩
  have e1 : (2 : Nat) ^ k = 4294967296 ^ (k / 32) * Z := by
    have e : (4294967296 : Nat) = 2 ^ 32 := by decide
    rw [e, ← hZ, ← Nat.pow_mul, ← Nat.pow_add, Nat.div_add_mod]
  rw [hZ] at s2 s3 hWb hse
  have sp : splice (ql.map u32V) (k / 32) [.int .u32 ((W + Z : Nat) : Int)] = (ql.set (k / 32) (UInt32.ofNat (W + Z))).map u32V := by
    rw [u32V_lt (by omega), splice_set (by omega)]
  simp only [rdC, ↓gaW, ↓gaV, ↓gaC, ↓gaN, gaP, Nat.reduceEqDiff, Nat.reduceLeDiff, Nat.reduceAdd, Nat.reduceSub, Nat.reduceMul, Int.reduceLT, Int.reduceLE, Int.reduceEq, Int.reduceToNat, Int.reduceAdd, Int.reduceSub, Int.reduceMul, reduceCtorEq, ↓reduceIte, f9, f10, d1, d2, i64_w ((k / 32 : Nat) : Int) (by omega), Int.toNat_natCast, gq, Nat.zero_add, Nat.mul_one, hw, s2, s3, sp]
  repeat refine And.intro (by first | omega | (simp; done) | (simp; omega) | exact all1 rfl) ?_
  refine K _ _ (ql.set (k / 32) (UInt32.ofNat (W + Z))) (by simp only [↓gaW, ↓gaV, ↓gaC, ↓gaN, gaP, Nat.reduceEqDiff, Nat.reduceLeDiff, Nat.reduceAdd, Nat.reduceSub, Nat.reduceMul, Int.reduceLT, Int.reduceLE, Int.reduceEq, Int.reduceToNat, Int.reduceAdd, Int.reduceSub, Int.reduceMul, reduceCtorEq, ↓reduceIte]) (by simp only [↓gaW, ↓gaV, ↓gaC, ↓gaN, gaP, Nat.reduceEqDiff, Nat.reduceLeDiff, Nat.reduceAdd, Nat.reduceSub, Nat.reduceMul, Int.reduceLT, Int.reduceLE, Int.reduceEq, Int.reduceToNat, Int.reduceAdd, Int.reduceSub, Int.reduceMul, reduceCtorEq, ↓reduceIte]) (by simp only [↓gaW, ↓gaV, ↓gaC, ↓gaN, gaP, Nat.reduceEqDiff, Nat.reduceLeDiff, Nat.reduceAdd, Nat.reduceSub, Nat.reduceMul, Int.reduceLT, Int.reduceLE, Int.reduceEq, Int.reduceToNat, Int.reduceAdd, Int.reduceSub, Int.reduceMul, reduceCtorEq, ↓reduceIte]) (by simp only [↓gaW, ↓gaV, ↓gaC, ↓gaN, gaP, Nat.reduceEqDiff, Nat.reduceLeDiff, Nat.reduceAdd, Nat.reduceSub, Nat.reduceMul, Int.reduceLT, Int.reduceLE, Int.reduceEq, Int.reduceToNat, Int.reduceAdd, Int.reduceSub, Int.reduceMul, reduceCtorEq, ↓reduceIte, f9]) (by simp only [↓gaW, ↓gaV, ↓gaC, ↓gaN, gaP, Nat.reduceEqDiff, Nat.reduceLeDiff, Nat.reduceAdd, Nat.reduceSub, Nat.reduceMul, Int.reduceLT, Int.reduceLE, Int.reduceEq, Int.reduceToNat, Int.reduceAdd, Int.reduceSub, Int.reduceMul, reduceCtorEq, ↓reduceIte, f10]) (fun p hp => ?_) (by simp only [upd_e, if_true]) (by simp [hN]) ?_
  · simp only [upd_e]; rw [if_neg hp]
  · rw [e1]
    rw [Nat.mul_add] at hse
    omega
end
end Go.Ga

namespace Go.Ga
open Go Go.Proofs
set_option linter.unusedSimpArgs false
set_option linter.unusedVariables false
set_option maxRecDepth 100000
attribute [local irreducible] appendK

theorem div_bit0 {a m z : Nat} (h : 2 * (a / 2 ^ (z + 1) % m) + a / 2 ^ z % 2 < m) : a / 2 ^ z % m = 2 * (a / 2 ^ (z + 1) % m) + a / 2 ^ z % 2 ∧ a / 2 ^ z / m * 2 ^ z = a / 2 ^ (z + 1) / m * 2 ^ (z + 1) := by
  have e : a / 2 ^ z = 2 * (a / 2 ^ (z + 1)) + a / 2 ^ z % 2 := by rw [Nat.pow_succ, ← Nat.div_div_eq_div_mul]; omega
  have dm := Nat.div_add_mod (a / 2 ^ (z + 1)) m
  generalize a / 2 ^ (z + 1) = X at *
  generalize a / 2 ^ z % 2 = c at *
  have e2 : a / 2 ^ z = (2 * (X % m) + c) + m * (2 * (X / m)) := by
    rw [e, ← Nat.mul_assoc, Nat.mul_comm m 2, Nat.mul_assoc]
    omega
  rw [e2, Nat.add_mul_mod_self_left, Nat.mod_eq_of_lt h, Nat.add_mul_div_left _ _ (by omega), Nat.div_eq_of_lt h, Nat.zero_add, Nat.pow_succ]
  refine ⟨rfl, ?_⟩
  ac_rfl
theorem div_bit1 {a m z : Nat} (hm : 0 < m) (h : m ≤ 2 * (a / 2 ^ (z + 1) % m) + a / 2 ^ z % 2) : a / 2 ^ z % m + m = 2 * (a / 2 ^ (z + 1) % m) + a / 2 ^ z % 2 ∧ a / 2 ^ z / m * 2 ^ z = a / 2 ^ (z + 1) / m * 2 ^ (z + 1) + 2 ^ z := by
  have e : a / 2 ^ z = 2 * (a / 2 ^ (z + 1)) + a / 2 ^ z % 2 := by rw [Nat.pow_succ, ← Nat.div_div_eq_div_mul]; omega
  have dm := Nat.div_add_mod (a / 2 ^ (z + 1)) m
  have hc : a / 2 ^ z % 2 < 2 := Nat.mod_lt _ (by decide)
  generalize a / 2 ^ (z + 1) = X at *
  generalize a / 2 ^ z % 2 = c at *
  have hX := Nat.mod_lt X hm
  have e2 : a / 2 ^ z = (2 * (X % m) + c - m) + m * (2 * (X / m) + 1) := by
    rw [e, Nat.mul_add, Nat.mul_one, ← Nat.mul_assoc, Nat.mul_comm m 2, Nat.mul_assoc]
    omega
  rw [e2, Nat.add_mul_mod_self_left, Nat.mod_eq_of_lt (by omega), Nat.add_mul_div_left _ _ (by omega), Nat.div_eq_of_lt (by omega), Nat.zero_add, Nat.pow_succ, Nat.add_mul, Nat.one_mul]
  refine ⟨by omega, ?_⟩
  congr 1
  ac_rfl

section
variable {nx : Nat} {gt : Nat → Option Blk}

theorem ct_rDivMod {A B : Option Addr} {n m c d : Nat} {l k : List UInt32} (hr : Row nx gt 1 A n (l.map u32V)) (hc : n ≤ c) (hn : n < 10000000) (hs : Row nx gt 1 B m (k.map u32V)) (hd : m ≤ d) (hm : m < 10000000) :
    Ct Try.prog 75 [.slice A n c, .slice B m d] nx gt fun v nx' gt' => DivV nx' gt' (lv l) (lv k) v := by
  have hl : l.length = n := by simpa using hr.len
  have hk : k.length = m := by simpa using hs.len
  refine Ct.of hmx r_lanyardref08_DivMod (by simp [c_lanyardref08_DivMod]) fun b hb => ?_
  have lm := lb_len_le.2 (show lv k < 4294967296 ^ m by rw [← hk]; exact lv_lt k)
  have hF : ∀ q, q < nx → gt q = gt q := fun _ _ => rfl
  simp only [c_lanyardref08_DivMod, ↓gaW, ↓gaV, ↓gaC, ↓gaN, gaP, Nat.reduceEqDiff, Nat.reduceLeDiff, Nat.reduceAdd, Nat.reduceSub, Nat.reduceMul, Int.reduceLT, Int.reduceLE, Int.reduceEq, Int.reduceToNat, Int.reduceAdd, Int.reduceSub, Int.reduceMul, reduceCtorEq, ↓reduceIte]
  refine callK_of (ct_rBareG hs hd (by omega)) (fun v n1 g1 l1 k1 hC => ?_) (by omega)
  obtain ⟨A1, N0, rfl, hN0, hg1⟩ := hC
  have hr0 := hr
  have hF : ∀ q, q < nx → g1 q = gt q := fun q hq => k1 q (by omega)
  by_cases h0 : (N0 : Int) = 0
  · have k0 := lb_nil (show (lb (lv k)).length = 0 by omega)
    simp only [↓gaW, ↓gaV, ↓gaC, ↓gaN, gaP, Nat.reduceEqDiff, Nat.reduceLeDiff, Nat.reduceAdd, Nat.reduceSub, Nat.reduceMul, Int.reduceLT, Int.reduceLE, Int.reduceEq, Int.reduceToNat, Int.reduceAdd, Int.reduceSub, Int.reduceMul, reduceCtorEq, ↓reduceIte, gaE, implies_true, Nat.le_refl, Int.sub_zero, Nat.sub_zero, Int.le_refl, true_or, or_true, h0, decide_true]
    repeat refine And.intro (by first | omega | (simp; done) | (simp; omega) | exact all1 rfl) ?_
    first | exact ⟨hF, .inl ⟨k0, rfl⟩⟩ | exact .inl ⟨k0, rfl⟩
  have k0 : lv k ≠ 0 := fun h => h0 (by rw [h, lb_zero] at hN0; simp at hN0; omega)
  have hrow0 : ∀ b, rowOf ⟨n1 + 1, b, upd g1 n1 (some (.cells [.int .u32 0] false))⟩ (some ⟨n1, 0, none⟩) 1 = some (([0] : List UInt32).map u32V) := fun b =>
    (Row.w32 (ro := false) (w := [0]) (by omega) (by simp [upd]; rfl) rfl).rowOf
  simp only [↓gaW, ↓gaV, ↓gaC, ↓gaN, gaP, Nat.reduceEqDiff, Nat.reduceLeDiff, Nat.reduceAdd, Nat.reduceSub, Nat.reduceMul, Int.reduceLT, Int.reduceLE, Int.reduceEq, Int.reduceToNat, Int.reduceAdd, Int.reduceSub, Int.reduceMul, reduceCtorEq, ↓reduceIte, List.getD_cons_zero, List.getD_cons_succ, fillL, splice, List.take_zero, List.drop_zero, List.drop_succ_cons, List.take_succ_cons, List.drop_nil, List.take_nil, h0, decide_false, hrow0]
  repeat refine And.intro (by first | omega | (simp; done) | (simp; omega) | exact all1 rfl) ?_
  refine grow_append (nx := nx) (k := 1) ((hg1.low (nx' := nx) (b' := b) (by omega) (by omega)).keep (Nat.le_succ _) (fun p hp => by simp only [upd_e]; rw [if_neg (by omega)])) (by omega) (by omega) (by omega) (by omega) (by simp) (by simpa using cl_u32 _) (by omega) (by omega) fun g2 hk2 ho2 => ?_
  obtain ⟨kl, hkl⟩ : ∃ kl, lb (lv k) ++ [0] = kl := ⟨_, rfl⟩
  obtain ⟨N, hN⟩ : ∃ N, N0 + 1 = N := ⟨_, rfl⟩
  have hkv : lv kl = lv k := by rw [← hkl, lv_append, lv_lb]; simp [lv]
  have hkn : kl.length = N := by rw [← hkl, ← hN]; simp [hN0]
  have hMN : lv k < 4294967296 ^ N0 := lb_len_le.1 (Nat.le_of_eq hN0)
  have hrn := ho2.row
  rw [show (lb (lv k)).map u32V ++ [u32V 0] = kl.map u32V by rw [← hkl]; simp, Nat.mul_one, hN] at hrn
  have hF : ∀ q, q < nx → g2 q = gt q := fun q hq => by rw [hk2 q hq, upd_e, if_neg (by omega), hF q hq]
  have e32 : (32 : Int) * (n : Int) = ((32 * n : Nat) : Int) := by omega
  rw [hN]
  simp only [↓gaW, ↓gaV, ↓gaC, ↓gaN, gaP, Nat.reduceEqDiff, Nat.reduceLeDiff, Nat.reduceAdd, Nat.reduceSub, Nat.reduceMul, Int.reduceLT, Int.reduceLE, Int.reduceEq, Int.reduceToNat, Int.reduceAdd, Int.reduceSub, Int.reduceMul, reduceCtorEq, ↓reduceIte, zeros32, Int.toNat_natCast, e32, i64_w ((32 * n : Nat) : Int) (by omega), i64_w (((32 * n : Nat) : Int) - 1) (by omega)]
  repeat refine And.intro (by first | omega | (simp; done) | (simp; omega) | exact all1 rfl) ?_
  have hM0 : 0 < lv k := by omega
  have hAn : lv l < 2 ^ (32 * n) := by
    have := lv_lt l
    rwa [hl, show (4294967296 : Nat) = 2 ^ 32 by decide, ← Nat.pow_mul] at this
  refine loop_of (fun j f mm => ∃ (y : Nat) (g : Nat → Option Blk) (u qs : List UInt32), j = y ∧ y ≤ 32 * n ∧ f 0 = .slice A n c ∧ f 7 = .slice (some ⟨n1 + 1, 0, some 1⟩) N N ∧ f 8 = .slice (some ⟨n1 + 1 + 1, 0, none⟩) N N ∧ f 9 = .slice (some ⟨n1 + 1 + 1 + 1, 0, none⟩) n n ∧ f 10 = .int .i64 ((y : Int) - 1) ∧ mm = ⟨n1 + 1 + 1 + 1 + 1, b, g⟩ ∧
      (∀ p, p < n1 + 1 + 1 → g p = g2 p) ∧ g (n1 + 1 + 1) = some (.cells (u.map u32V) false) ∧ g (n1 + 1 + 1 + 1) = some (.cells (qs.map u32V) false) ∧ u.length = N ∧ qs.length = n ∧ lv u = lv l / 2 ^ y % lv k ∧ lv qs = lv l / 2 ^ y / lv k * 2 ^ y) (32 * n)
    ⟨32 * n, _, List.replicate N 0, List.replicate n 0, rfl, Nat.le_refl _, rfl, rfl, rfl, rfl, rfl, rfl, fun p hp => by simp only [upd_e]; rw [if_neg (by omega), if_neg (by omega)], by simp [upd_e], by simp only [upd_e, if_true], by simp, by simp, by rw [lv_replicate, Nat.div_eq_of_lt hAn, Nat.zero_mod], by rw [lv_replicate, Nat.div_eq_of_lt hAn, Nat.zero_div, Nat.zero_mul]⟩ ?_
  rintro j f mm ⟨y, g, u, qs, rfl, hy, f0, f7, f8, f9, f10, rfl, hg, hgu, hgq, hu, hqs, huv, hqv⟩
  have hrN := hrn.keep (nx' := n1 + 1 + 1 + 1 + 1) (gt' := g) (by omega) (fun p hp => hg p hp)
  have hrA := hr0.keep (nx' := n1 + 1 + 1 + 1 + 1) (gt' := g) (by omega) (fun p hp => by rw [hg p (by omega), hF p hp])
  rcases Nat.eq_zero_or_pos j with rfl | hj
  · rw [Nat.pow_zero, Nat.div_one] at huv
    rw [Nat.pow_zero, Nat.div_one, Nat.mul_one] at hqv
    simp only [↓gaW, ↓gaV, ↓gaC, ↓gaN, gaP, Nat.reduceEqDiff, Nat.reduceLeDiff, Nat.reduceAdd, Nat.reduceSub, Nat.reduceMul, Int.reduceLT, Int.reduceLE, Int.reduceEq, Int.reduceToNat, Int.reduceAdd, Int.reduceSub, Int.reduceMul, reduceCtorEq, ↓reduceIte, gaE, implies_true, Nat.le_refl, Int.sub_zero, Nat.sub_zero, Int.le_refl, true_or, or_true, f7, f8, f9, f10, show ((0 : Nat) : Int) - 1 = -1 from rfl, show ¬ (0 : Int) ≤ -1 by omega, decide_false, loopK_e]
    refine callK_of (ct_rBare (Row.w32 (by omega) hgq hqs) (Nat.le_refl _) (by omega)) (fun v n3 g3 l3 k3 hC => ?_) (by omega)
    rw [hqv] at hC
    simp only [↓gaW, ↓gaV, ↓gaC, ↓gaN, gaP, Nat.reduceEqDiff, Nat.reduceLeDiff, Nat.reduceAdd, Nat.reduceSub, Nat.reduceMul, Int.reduceLT, Int.reduceLE, Int.reduceEq, Int.reduceToNat, Int.reduceAdd, Int.reduceSub, Int.reduceMul, reduceCtorEq, ↓reduceIte, gaE, implies_true, Nat.le_refl, Int.sub_zero, Nat.sub_zero, Int.le_refl, true_or, or_true, f8]
    refine callK_of (ct_rBare (Row.w32 (by omega) ((k3 _ (by omega)).trans hgu) hu) (Nat.le_refl _) (by omega)) (fun v' n4 g4 l4 k4 hC' => ?_) (by omega)
    rw [huv] at hC'
    simp only [↓gaW, ↓gaV, ↓gaC, ↓gaN, gaP, Nat.reduceEqDiff, Nat.reduceLeDiff, Nat.reduceAdd, Nat.reduceSub, Nat.reduceMul, Int.reduceLT, Int.reduceLE, Int.reduceEq, Int.reduceToNat, Int.reduceAdd, Int.reduceSub, Int.reduceMul, reduceCtorEq, ↓reduceIte, gaE, implies_true, Nat.le_refl, Int.sub_zero, Nat.sub_zero, Int.le_refl, true_or, or_true]
    repeat refine And.intro (by first | omega | (simp; done) | (simp; omega) | exact all1 rfl) ?_
    exact ⟨fun p hp => by rw [k4 p (by omega), k3 p (by omega), hg p (by omega), hF p hp], .inr ⟨k0, _, _, rfl, hC.keep l4 k4, hC'⟩⟩
  obtain ⟨z, rfl⟩ : ∃ z, j = z + 1 := ⟨j - 1, by omega⟩
  rw [show ((z + 1 : Nat) : Int) - 1 = (z : Int) by omega] at f10
  simp only [↓gaW, ↓gaV, ↓gaC, ↓gaN, gaP, Nat.reduceEqDiff, Nat.reduceLeDiff, Nat.reduceAdd, Nat.reduceSub, Nat.reduceMul, Int.reduceLT, Int.reduceLE, Int.reduceEq, Int.reduceToNat, Int.reduceAdd, Int.reduceSub, Int.reduceMul, reduceCtorEq, ↓reduceIte, f0, f10, show (0 : Int) ≤ (z : Int) by omega, decide_true]
  refine callK_of (ct_rbit hrA (by omega) (by omega)) (fun v n3 g3 l3 k3 hC => ?_) (by omega)
  obtain ⟨rfl, rfl, rfl⟩ := hC
  refine (show goOps Try.prog _ _ _ (D Try.prog (.thn (.seq rdA (.seq _ (.seq _ (.seq rdB rdC)))) _)) from ?_)
  simp only [↓gaW, ↓gaV, ↓gaC, ↓gaN, gaP, Nat.reduceEqDiff, Nat.reduceLeDiff, Nat.reduceAdd, Nat.reduceSub, Nat.reduceMul, Int.reduceLT, Int.reduceLE, Int.reduceEq, Int.reduceToNat, Int.reduceAdd, Int.reduceSub, Int.reduceMul, reduceCtorEq, ↓reduceIte]
  have hc2 : lv l / 2 ^ z % 2 < 2 := Nat.mod_lt _ (by decide)
  refine rdA_of (N := N) (rl := u) (c0 := lv l / 2 ^ z % 2) (b := b) (q := n1 + 1 + 1) (by omega) (by omega) (by simp only [↓gaW, ↓gaV, ↓gaC, ↓gaN, gaP, Nat.reduceEqDiff, Nat.reduceLeDiff, Nat.reduceAdd, Nat.reduceSub, Nat.reduceMul, Int.reduceLT, Int.reduceLE, Int.reduceEq, Int.reduceToNat, Int.reduceAdd, Int.reduceSub, Int.reduceMul, reduceCtorEq, ↓reduceIte, f8]) (by simp only [↓gaW, ↓gaV, ↓gaC, ↓gaN, gaP, Nat.reduceEqDiff, Nat.reduceLeDiff, Nat.reduceAdd, Nat.reduceSub, Nat.reduceMul, Int.reduceLT, Int.reduceLE, Int.reduceEq, Int.reduceToNat, Int.reduceAdd, Int.reduceSub, Int.reduceMul, reduceCtorEq, ↓reduceIte]) hc2 hgu hu (by omega) ?_
  intro f' g' u' cc e0 e7 e8 e9 e10 ko hgu' hu' hv'
  simp only [↓gaW, ↓gaV, ↓gaC, ↓gaN, gaP, Nat.reduceEqDiff, Nat.reduceLeDiff, Nat.reduceAdd, Nat.reduceSub, Nat.reduceMul, Int.reduceLT, Int.reduceLE, Int.reduceEq, Int.reduceToNat, Int.reduceAdd, Int.reduceSub, Int.reduceMul, reduceCtorEq, ↓reduceIte] at e0 e7 e8 e9 e10
  rw [f0] at e0
  rw [f7] at e7
  rw [f8] at e8
  rw [f9] at e9
  rw [f10] at e10
  have hcc : cc = 0 := by
    rcases Nat.eq_zero_or_pos cc with h | h
    · exact h
    · exfalso
      have h1 := Nat.mod_lt (lv l / 2 ^ (z + 1)) hM0
      have h2 := Nat.le_mul_of_pos_right (4294967296 ^ N) h
      have h3 : 4294967296 ^ N = 4294967296 * 4294967296 ^ N0 := by rw [← hN, Nat.pow_succ']
      omega
  rw [hcc, Nat.mul_zero, Nat.add_zero, huv] at hv'
  have hgq' := (ko (n1 + 1 + 1 + 1) (by omega)).trans hgq
  have hrN' := hrN.keepA (nx' := n1 + 1 + 1 + 1 + 1) (gt' := g') (Nat.le_refl _) (fun _ a ha => by injection ha with ha; subst ha; exact ko _ (by simp))
  simp only [↓gaW, ↓gaV, ↓gaC, ↓gaN, gaP, Nat.reduceEqDiff, Nat.reduceLeDiff, Nat.reduceAdd, Nat.reduceSub, Nat.reduceMul, Int.reduceLT, Int.reduceLE, Int.reduceEq, Int.reduceToNat, Int.reduceAdd, Int.reduceSub, Int.reduceMul, reduceCtorEq, ↓reduceIte, e7, e8]
  refine callK_of (ct_rless (Row.w32 (by omega) hgu' hu') (by omega) hrN') (fun v n3 g3 l3 k3 hC => ?_) (by omega)
  obtain ⟨rfl, rfl, rfl⟩ := hC
  rw [hkv, hv']
  by_cases hlt : 2 * (lv l / 2 ^ (z + 1) % lv k) + lv l / 2 ^ z % 2 < lv k
  · obtain ⟨h1, h2⟩ := div_bit0 hlt
    simp only [↓gaW, ↓gaV, ↓gaC, ↓gaN, gaP, Nat.reduceEqDiff, Nat.reduceLeDiff, Nat.reduceAdd, Nat.reduceSub, Nat.reduceMul, Int.reduceLT, Int.reduceLE, Int.reduceEq, Int.reduceToNat, Int.reduceAdd, Int.reduceSub, Int.reduceMul, reduceCtorEq, ↓reduceIte, hlt, decide_true, e10, i64_w ((z : Int) - 1) (by omega), loopK_n]
    refine ⟨z, by omega, z, _, u', qs, rfl, by omega, e0, e7, e8, e9, rfl, rfl, fun p hp => ?_, hgu', hgq', hu', hqs, by rw [hv', h1], by rw [hqv, h2]⟩
    rw [ko p (by omega), hg p hp]
  · obtain ⟨h1, h2⟩ := div_bit1 hM0 (Nat.le_of_not_lt hlt)
    simp only [↓gaW, ↓gaV, ↓gaC, ↓gaN, gaP, Nat.reduceEqDiff, Nat.reduceLeDiff, Nat.reduceAdd, Nat.reduceSub, Nat.reduceMul, Int.reduceLT, Int.reduceLE, Int.reduceEq, Int.reduceToNat, Int.reduceAdd, Int.reduceSub, Int.reduceMul, reduceCtorEq, ↓reduceIte, hlt, decide_false]
    refine rdB_of (N := N) (d := N) (rl := u') (kl := kl) (q := n1 + 1 + 1) (by omega) (by omega) (by simp only [↓gaW, ↓gaV, ↓gaC, ↓gaN, gaP, Nat.reduceEqDiff, Nat.reduceLeDiff, Nat.reduceAdd, Nat.reduceSub, Nat.reduceMul, Int.reduceLT, Int.reduceLE, Int.reduceEq, Int.reduceToNat, Int.reduceAdd, Int.reduceSub, Int.reduceMul, reduceCtorEq, ↓reduceIte, e7]) (by simp only [↓gaW, ↓gaV, ↓gaC, ↓gaN, gaP, Nat.reduceEqDiff, Nat.reduceLeDiff, Nat.reduceAdd, Nat.reduceSub, Nat.reduceMul, Int.reduceLT, Int.reduceLE, Int.reduceEq, Int.reduceToNat, Int.reduceAdd, Int.reduceSub, Int.reduceMul, reduceCtorEq, ↓reduceIte, e8]) (by simp only [↓gaW, ↓gaV, ↓gaC, ↓gaN, gaP, Nat.reduceEqDiff, Nat.reduceLeDiff, Nat.reduceAdd, Nat.reduceSub, Nat.reduceMul, Int.reduceLT, Int.reduceLE, Int.reduceEq, Int.reduceToNat, Int.reduceAdd, Int.reduceSub, Int.reduceMul, reduceCtorEq, ↓reduceIte]) hrN' (fun a ha => by injection ha with ha; subst ha; simp) hgu' hu' (by omega) ?_
    intro f3 g3 u3 c3 i0 i7 i8 i9 i10 ko3 hgu3 hu3 hv3
    simp only [↓gaW, ↓gaV, ↓gaC, ↓gaN, gaP, Nat.reduceEqDiff, Nat.reduceLeDiff, Nat.reduceAdd, Nat.reduceSub, Nat.reduceMul, Int.reduceLT, Int.reduceLE, Int.reduceEq, Int.reduceToNat, Int.reduceAdd, Int.reduceSub, Int.reduceMul, reduceCtorEq, ↓reduceIte] at i0 i7 i8 i9 i10
    rw [e0] at i0
    rw [e7] at i7
    rw [e8] at i8
    rw [e9] at i9
    rw [e10] at i10
    rw [hkv, hv'] at hv3
    have hc3 : c3 = 0 := by
      rcases Nat.eq_zero_or_pos c3 with h | h
      · exact h
      · exfalso
        have h1 := lv_lt' (Nat.le_of_eq hu3)
        have h2 := Nat.le_mul_of_pos_right (4294967296 ^ N) h
        omega
    rw [hc3, Nat.mul_zero, Nat.add_zero] at hv3
    have hgq3 := (ko3 (n1 + 1 + 1 + 1) (by omega)).trans hgq'
    simp only [↓gaW, ↓gaV, ↓gaC, ↓gaN, gaP, Nat.reduceEqDiff, Nat.reduceLeDiff, Nat.reduceAdd, Nat.reduceSub, Nat.reduceMul, Int.reduceLT, Int.reduceLE, Int.reduceEq, Int.reduceToNat, Int.reduceAdd, Int.reduceSub, Int.reduceMul, reduceCtorEq, ↓reduceIte]
    refine rdC_of (N := n) (k := z) (ql := qs) (q := n1 + 1 + 1 + 1) (by omega) (by omega) i9 i10 hgq3 hqs (by omega) (by omega) (by rw [hqv, Nat.mul_mod_left]) ?_
    intro f4 g4 u4 j0 j7 j8 j9 j10 ko4 hgq4 hq4 hv4
    rw [i0] at j0
    rw [i7] at j7
    rw [i8] at j8
    rw [i9] at j9
    rw [i10] at j10
    simp only [↓gaW, ↓gaV, ↓gaC, ↓gaN, gaP, Nat.reduceEqDiff, Nat.reduceLeDiff, Nat.reduceAdd, Nat.reduceSub, Nat.reduceMul, Int.reduceLT, Int.reduceLE, Int.reduceEq, Int.reduceToNat, Int.reduceAdd, Int.reduceSub, Int.reduceMul, reduceCtorEq, ↓reduceIte, j10, i64_w ((z : Int) - 1) (by omega), loopK_n]
    refine ⟨z, by omega, z, _, u3, u4, rfl, by omega, j0, j7, j8, j9, rfl, rfl, fun p hp => ?_, (ko4 _ (by omega)).trans hgu3, hgq4, hu3, hq4, by omega, by rw [hv4, hqv, h2]⟩
    rw [ko4 p (by omega), ko3 p (by omega), ko p (by omega), hg p hp]
end
end Go.Ga

namespace Go.Ga
open Go Go.Proofs
set_option linter.unusedSimpArgs false
set_option linter.unusedVariables false
set_option maxRecDepth 100000
attribute [local irreducible] appendK

section
variable {nx : Nat} {gt : Nat → Option Blk}

theorem ct_rmMul {A B E : Option Addr} {n m h c d e : Nat} {l k t : List UInt32} (hr : Row nx gt 1 A n (l.map u32V)) (hn : n < 4000000) (hs : Row nx gt 1 B m (k.map u32V)) (hm : m < 4000000) (ht : Row nx gt 1 E h (t.map u32V)) (he : h ≤ e) (hh : h < 4000000) :
    Ct Try.prog 77 [.slice A n c, .slice B m d, .slice E h e] nx gt fun v nx' gt' => ModV nx' gt' (lv l * lv k) (lv t) v := by
  have hl : l.length = n := by simpa using hr.len
  have hk : k.length = m := by simpa using hs.len
  refine Ct.of hmx r_lanyardref08_Mul (by simp [c_lanyardref08_Mul]) fun b hb => ?_
  have hF : ∀ q, q < nx → gt q = gt q := fun _ _ => rfl
  simp only [c_lanyardref08_Mul, ↓gaW, ↓gaV, ↓gaC, ↓gaN, gaP, Nat.reduceEqDiff, Nat.reduceLeDiff, Nat.reduceAdd, Nat.reduceSub, Nat.reduceMul, Int.reduceLT, Int.reduceLE, Int.reduceEq, Int.reduceToNat, Int.reduceAdd, Int.reduceSub, Int.reduceMul, reduceCtorEq, ↓reduceIte]
  refine callK_of (ct_rMul hr (by omega) hs (by omega)) (fun v n1 g1 l1 k1 hC => ?_) (by omega)
  obtain ⟨A1, a1, c1, rfl, hc1, hl1, r1⟩ := hC
  have ht := ht.keep l1 k1
  have hF : ∀ q, q < nx → g1 q = gt q := fun q hq => (k1 q (by omega)).trans (hF q hq)
  simp only [↓gaW, ↓gaV, ↓gaC, ↓gaN, gaP, Nat.reduceEqDiff, Nat.reduceLeDiff, Nat.reduceAdd, Nat.reduceSub, Nat.reduceMul, Int.reduceLT, Int.reduceLE, Int.reduceEq, Int.reduceToNat, Int.reduceAdd, Int.reduceSub, Int.reduceMul, reduceCtorEq, ↓reduceIte]
  have hlen : (lb (lv l * lv k)).length ≤ n + m := lb_len_le.2 (lt_mul (lv_lt' (by omega)) (lv_lt' (by omega)))
  refine callK_of (ct_rDivMod r1 hc1 (by omega) ht he (by omega)) (fun v n2 g2 l2 k2 hC => ?_) (by omega)
  rw [lv_lb] at hC
  rcases hC with ⟨h0, rfl⟩ | ⟨h0, v1, v2, rfl, hq, hw⟩
  · simp only [↓gaW, ↓gaV, ↓gaC, ↓gaN, gaP, Nat.reduceEqDiff, Nat.reduceLeDiff, Nat.reduceAdd, Nat.reduceSub, Nat.reduceMul, Int.reduceLT, Int.reduceLE, Int.reduceEq, Int.reduceToNat, Int.reduceAdd, Int.reduceSub, Int.reduceMul, reduceCtorEq, ↓reduceIte, gaE, implies_true, Nat.le_refl, Int.sub_zero, Nat.sub_zero, Int.le_refl, true_or, or_true]
    repeat refine And.intro (by first | omega | (simp; done) | (simp; omega) | exact all1 rfl) ?_
    exact ⟨fun q hq => (k2 q (by omega)).trans (hF q hq), .inl ⟨h0, rfl⟩⟩
  · simp only [↓gaW, ↓gaV, ↓gaC, ↓gaN, gaP, Nat.reduceEqDiff, Nat.reduceLeDiff, Nat.reduceAdd, Nat.reduceSub, Nat.reduceMul, Int.reduceLT, Int.reduceLE, Int.reduceEq, Int.reduceToNat, Int.reduceAdd, Int.reduceSub, Int.reduceMul, reduceCtorEq, ↓reduceIte, gaE, implies_true, Nat.le_refl, Int.sub_zero, Nat.sub_zero, Int.le_refl, true_or, or_true]
    repeat refine And.intro (by first | omega | (simp; done) | (simp; omega) | exact all1 rfl) ?_
    exact ⟨fun q hq => (k2 q (by omega)).trans (hF q hq), .inr ⟨h0, _, rfl, hw⟩⟩

theorem ct_rExp {A B E : Option Addr} {n m h c d e : Nat} {l k t : List UInt32} (hr : Row nx gt 1 A n (l.map u32V)) (hc : n ≤ c) (hn : n < 4000000) (hs : Row nx gt 1 B m (k.map u32V)) (hd : m ≤ d) (hm : m < 4000000) (ht : Row nx gt 1 E h (t.map u32V)) (he : h ≤ e) (hh : h < 4000000) :
    Ct Try.prog 49 [.slice A n c, .slice B m d, .slice E h e] nx gt fun v nx' gt' => ModV nx' gt' (lv l ^ lv k) (lv t) v := by
  have hl : l.length = n := by simpa using hr.len
  have hk : k.length = m := by simpa using hs.len
  have htl : t.length = h := by simpa using ht.len
  refine Ct.of hmx r_lanyardref08_Exp (by simp [c_lanyardref08_Exp]) fun b hb => ?_
  have hF : ∀ q, q < nx → gt q = gt q := fun _ _ => rfl
  have ebl : bl (lv k) ≤ 32 * m := by
    refine bl_le.2 ?_
    have := lv_lt' (Nat.le_of_eq hk)
    rwa [show (4294967296 : Nat) = 2 ^ 32 by decide, ← Nat.pow_mul] at this
  simp only [c_lanyardref08_Exp, ↓gaW, ↓gaV, ↓gaC, ↓gaN, gaP, Nat.reduceEqDiff, Nat.reduceLeDiff, Nat.reduceAdd, Nat.reduceSub, Nat.reduceMul, Int.reduceLT, Int.reduceLE, Int.reduceEq, Int.reduceToNat, Int.reduceAdd, Int.reduceSub, Int.reduceMul, reduceCtorEq, ↓reduceIte, List.getD_cons_zero, List.getD_cons_succ, fillL, splice, List.take_zero, List.drop_zero, List.drop_succ_cons, List.take_succ_cons, List.drop_nil, List.take_nil]
  have r0 : Row (nx + 1) (upd gt nx (some (.cells [.int .u32 1] false))) 1 (some ⟨nx, 0, none⟩) 1 (([1] : List UInt32).map u32V) := Row.w32 (ro := false) (by omega) (by simp [upd]; rfl) rfl
  have kx : ∀ q, q < nx → upd gt nx (some (.cells [.int .u32 1] false)) q = gt q := fun q hq => by simp only [upd_e]; rw [if_neg (by omega)]
  have hr := hr.keep (nx' := nx + 1) (by omega) kx
  have hs := hs.keep (nx' := nx + 1) (by omega) kx
  have ht := ht.keep (nx' := nx + 1) (by omega) kx
  refine callK_of (ct_rDivMod r0 (by omega) (by omega) ht he (by omega)) (fun v n1 g1 l1 k1 hC => ?_) (by omega)
  rw [show lv [1] = 1 by decide] at hC
  have hF : ∀ q, q < nx → g1 q = gt q := fun q hq => (k1 q (by omega)).trans (kx q hq)
  have hr := hr.keep l1 k1
  have hs := hs.keep l1 k1
  have ht := ht.keep l1 k1
  rcases hC with ⟨h0, rfl⟩ | ⟨h0, v1, v2, rfl, hq, hw⟩
  · simp only [↓gaW, ↓gaV, ↓gaC, ↓gaN, gaP, Nat.reduceEqDiff, Nat.reduceLeDiff, Nat.reduceAdd, Nat.reduceSub, Nat.reduceMul, Int.reduceLT, Int.reduceLE, Int.reduceEq, Int.reduceToNat, Int.reduceAdd, Int.reduceSub, Int.reduceMul, reduceCtorEq, ↓reduceIte, gaE, implies_true, Nat.le_refl, Int.sub_zero, Nat.sub_zero, Int.le_refl, true_or, or_true]
    repeat refine And.intro (by first | omega | (simp; done) | (simp; omega) | exact all1 rfl) ?_
    first | exact ⟨hF, .inl ⟨h0, rfl⟩⟩ | exact .inl ⟨h0, rfl⟩
  simp only [↓gaW, ↓gaV, ↓gaC, ↓gaN, gaP, Nat.reduceEqDiff, Nat.reduceLeDiff, Nat.reduceAdd, Nat.reduceSub, Nat.reduceMul, Int.reduceLT, Int.reduceLE, Int.reduceEq, Int.reduceToNat, Int.reduceAdd, Int.reduceSub, Int.reduceMul, reduceCtorEq, ↓reduceIte, Bool.not_true]
  repeat refine And.intro (by first | omega | (simp; done) | (simp; omega) | exact all1 rfl) ?_
  refine callK_of (ct_rDivMod hr hc (by omega) ht he (by omega)) (fun v n3 g3 l3 k3 hC => ?_) (by omega)
  have hs := hs.keep l3 k3
  have ht := ht.keep l3 k3
  have hw := hw.keep l3 k3
  have hF : ∀ q, q < nx → g3 q = gt q := fun q hq => (k3 q (by omega)).trans (hF q hq)
  rcases hC with ⟨h0', rfl⟩ | ⟨_, v3, v4, rfl, hq3, hw3⟩
  · exact absurd h0' h0
  simp only [↓gaW, ↓gaV, ↓gaC, ↓gaN, gaP, Nat.reduceEqDiff, Nat.reduceLeDiff, Nat.reduceAdd, Nat.reduceSub, Nat.reduceMul, Int.reduceLT, Int.reduceLE, Int.reduceEq, Int.reduceToNat, Int.reduceAdd, Int.reduceSub, Int.reduceMul, reduceCtorEq, ↓reduceIte]
  repeat refine And.intro (by first | omega | (simp; done) | (simp; omega) | exact all1 rfl) ?_
  refine callK_of (ct_rLen hs hd (by omega)) (fun v n4 g4 l4 k4 hC => ?_) (by omega)
  subst hC
  have hs := hs.keep l4 k4
  have ht := ht.keep l4 k4
  have hw := hw.keep l4 k4
  have hw3 := hw3.keep l4 k4
  have hF : ∀ q, q < nx → g4 q = gt q := fun q hq => (k4 q (by omega)).trans (hF q hq)
  simp only [↓gaW, ↓gaV, ↓gaC, ↓gaN, gaP, Nat.reduceEqDiff, Nat.reduceLeDiff, Nat.reduceAdd, Nat.reduceSub, Nat.reduceMul, Int.reduceLT, Int.reduceLE, Int.reduceEq, Int.reduceToNat, Int.reduceAdd, Int.reduceSub, Int.reduceMul, reduceCtorEq, ↓reduceIte, i64_w ((bl (lv k) : Int) - 1) (by omega)]
  refine loop_of (fun j f mm => ∃ (y x : Nat) (g : Nat → Option Blk), j = y ∧ y ≤ bl (lv k) ∧ W32 x g (f 12) (lb (lv l % lv t)) ∧ f 1 = .slice B m d ∧ f 2 = .slice E h e ∧ W32 x g (f 9) (lb (lv l ^ (lv k / 2 ^ y) % lv t)) ∧ f 14 = .int .i64 ((y : Int) - 1) ∧ mm = ⟨x, b, g⟩ ∧ nx ≤ x ∧
      (∀ p, p < nx → g p = gt p) ∧ Row x g 1 B m (k.map u32V) ∧ Row x g 1 E h (t.map u32V)) (bl (lv k))
    ⟨_, n4, g4, rfl, Nat.le_refl _, by simp only [↓gaW, ↓gaV, ↓gaC, ↓gaN, gaP, Nat.reduceEqDiff, Nat.reduceLeDiff, Nat.reduceAdd, Nat.reduceSub, Nat.reduceMul, Int.reduceLT, Int.reduceLE, Int.reduceEq, Int.reduceToNat, Int.reduceAdd, Int.reduceSub, Int.reduceMul, reduceCtorEq, ↓reduceIte]; exact hw3, by simp only [↓gaW, ↓gaV, ↓gaC, ↓gaN, gaP, Nat.reduceEqDiff, Nat.reduceLeDiff, Nat.reduceAdd, Nat.reduceSub, Nat.reduceMul, Int.reduceLT, Int.reduceLE, Int.reduceEq, Int.reduceToNat, Int.reduceAdd, Int.reduceSub, Int.reduceMul, reduceCtorEq, ↓reduceIte], by simp only [↓gaW, ↓gaV, ↓gaC, ↓gaN, gaP, Nat.reduceEqDiff, Nat.reduceLeDiff, Nat.reduceAdd, Nat.reduceSub, Nat.reduceMul, Int.reduceLT, Int.reduceLE, Int.reduceEq, Int.reduceToNat, Int.reduceAdd, Int.reduceSub, Int.reduceMul, reduceCtorEq, ↓reduceIte], by simp only [↓gaW, ↓gaV, ↓gaC, ↓gaN, gaP, Nat.reduceEqDiff, Nat.reduceLeDiff, Nat.reduceAdd, Nat.reduceSub, Nat.reduceMul, Int.reduceLT, Int.reduceLE, Int.reduceEq, Int.reduceToNat, Int.reduceAdd, Int.reduceSub, Int.reduceMul, reduceCtorEq, ↓reduceIte]; rw [Nat.div_eq_of_lt (bl_lt _), Nat.pow_zero]; exact hw, by simp only [↓gaW, ↓gaV, ↓gaC, ↓gaN, gaP, Nat.reduceEqDiff, Nat.reduceLeDiff, Nat.reduceAdd, Nat.reduceSub, Nat.reduceMul, Int.reduceLT, Int.reduceLE, Int.reduceEq, Int.reduceToNat, Int.reduceAdd, Int.reduceSub, Int.reduceMul, reduceCtorEq, ↓reduceIte], rfl, by omega, hF, hs, ht⟩ ?_
  rintro j f mm ⟨y, x, g, rfl, hy, w0, h1, h2, w9, h11, rfl, hx, hF, hs, ht⟩
  rcases Nat.eq_zero_or_pos j with rfl | hj
  · simp only [↓gaW, ↓gaV, ↓gaC, ↓gaN, gaP, Nat.reduceEqDiff, Nat.reduceLeDiff, Nat.reduceAdd, Nat.reduceSub, Nat.reduceMul, Int.reduceLT, Int.reduceLE, Int.reduceEq, Int.reduceToNat, Int.reduceAdd, Int.reduceSub, Int.reduceMul, reduceCtorEq, ↓reduceIte, gaE, implies_true, Nat.le_refl, Int.sub_zero, Nat.sub_zero, Int.le_refl, true_or, or_true, h11, show ((0 : Nat) : Int) - 1 = -1 from rfl, show ¬ (0 : Int) ≤ -1 by omega, decide_false, loopK_e]
    rw [Nat.pow_zero, Nat.div_one] at w9
    repeat refine And.intro (by first | omega | (simp; done) | (simp; omega) | exact all1 rfl) ?_
    first | exact ⟨hF, .inr ⟨h0, _, rfl, w9⟩⟩ | exact .inr ⟨h0, _, rfl, w9⟩
  · obtain ⟨z, rfl⟩ : ∃ z, j = z + 1 := ⟨j - 1, by omega⟩
    rw [show ((z + 1 : Nat) : Int) - 1 = (z : Int) by omega] at h11
    obtain ⟨a0, s0, c0, e0, hc0, hl0, r0⟩ := w0
    obtain ⟨a9, s9, c9, e9, hc9, hl9, r9⟩ := w9
    have z0 := mod_len (x := lv l) h0 (Nat.le_of_eq htl)
    have z9 := mod_len (x := lv l ^ (lv k / 2 ^ (z + 1))) h0 (Nat.le_of_eq htl)
    simp only [↓gaW, ↓gaV, ↓gaC, ↓gaN, gaP, Nat.reduceEqDiff, Nat.reduceLeDiff, Nat.reduceAdd, Nat.reduceSub, Nat.reduceMul, Int.reduceLT, Int.reduceLE, Int.reduceEq, Int.reduceToNat, Int.reduceAdd, Int.reduceSub, Int.reduceMul, reduceCtorEq, ↓reduceIte, h1, h2, h11, e9, show (0 : Int) ≤ (z : Int) by omega, decide_true]
    refine callK_of (ct_rmMul r9 (by omega) r9 (by omega) ht he hh) (fun v n5 g5 l5 k5 hC => ?_) (by omega)
    rcases hC with ⟨h0', rfl⟩ | ⟨_, v5, rfl, hw5⟩
    · exact absurd h0' h0
    have hs := hs.keep l5 k5
    have ht := ht.keep l5 k5
    have r0 := r0.keep l5 k5
    have hF : ∀ q, q < nx → g5 q = gt q := fun q hq => (k5 q (by omega)).trans (hF q hq)
    rw [lv_lb] at hw5
    have hs2 := hs
    simp only [↓gaW, ↓gaV, ↓gaC, ↓gaN, gaP, Nat.reduceEqDiff, Nat.reduceLeDiff, Nat.reduceAdd, Nat.reduceSub, Nat.reduceMul, Int.reduceLT, Int.reduceLE, Int.reduceEq, Int.reduceToNat, Int.reduceAdd, Int.reduceSub, Int.reduceMul, reduceCtorEq, ↓reduceIte, h1, h11]
    repeat refine And.intro (by first | omega | (simp; done) | (simp; omega) | exact all1 rfl) ?_
    refine callK_of (ct_rbit hs (by omega) (by omega)) (fun v n7 g7 l7 k7 hC => ?_) (by omega)
    obtain ⟨rfl, rfl, rfl⟩ := hC
    simp only [↓gaW, ↓gaV, ↓gaC, ↓gaN, gaP, Nat.reduceEqDiff, Nat.reduceLeDiff, Nat.reduceAdd, Nat.reduceSub, Nat.reduceMul, Int.reduceLT, Int.reduceLE, Int.reduceEq, Int.reduceToNat, Int.reduceAdd, Int.reduceSub, Int.reduceMul, reduceCtorEq, ↓reduceIte]
    have hpb := pow_bit (lv l) (lv k) (lv t) z
    obtain ⟨a5, s5, c5, rfl, hc5, hl5, r5⟩ := hw5
    have z5 := mod_len (x := lv l ^ (lv k / 2 ^ (z + 1)) % lv t * (lv l ^ (lv k / 2 ^ (z + 1)) % lv t)) h0 (Nat.le_of_eq htl)
    by_cases hbt : lv k / 2 ^ z % 2 = 1
    · rw [if_pos hbt] at hpb
      simp only [↓gaW, ↓gaV, ↓gaC, ↓gaN, gaP, Nat.reduceEqDiff, Nat.reduceLeDiff, Nat.reduceAdd, Nat.reduceSub, Nat.reduceMul, Int.reduceLT, Int.reduceLE, Int.reduceEq, Int.reduceToNat, Int.reduceAdd, Int.reduceSub, Int.reduceMul, reduceCtorEq, ↓reduceIte, hbt, decide_true, e0, h2]
      repeat refine And.intro (by first | omega | (simp; done) | (simp; omega) | exact all1 rfl) ?_
      refine callK_of (ct_rmMul r5 (by omega) r0 (by omega) ht he hh) (fun v n6 g6 l6 k6 hC => ?_) (by omega)
      rcases hC with ⟨h0', rfl⟩ | ⟨_, v6, rfl, hw6⟩
      · exact absurd h0' h0
      have hs := hs.keep l6 k6
      have ht := ht.keep l6 k6
      have r0 := r0.keep l6 k6
      have hF : ∀ q, q < nx → g6 q = gt q := fun q hq => (k6 q (by omega)).trans (hF q hq)
      rw [lv_lb, lv_lb, ← hpb] at hw6
      simp only [↓gaW, ↓gaV, ↓gaC, ↓gaN, gaP, Nat.reduceEqDiff, Nat.reduceLeDiff, Nat.reduceAdd, Nat.reduceSub, Nat.reduceMul, Int.reduceLT, Int.reduceLE, Int.reduceEq, Int.reduceToNat, Int.reduceAdd, Int.reduceSub, Int.reduceMul, reduceCtorEq, ↓reduceIte, h11, i64_w ((z : Int) - 1) (by omega), loopK_n]
      repeat refine And.intro (by first | omega | (simp; done) | (simp; omega) | exact all1 rfl) ?_
      exact ⟨z, by omega, z, n6, g6, rfl, by omega, e0 ▸ ⟨a0, s0, c0, rfl, hc0, hl0, r0⟩, h1, h2, hw6, rfl, rfl, by omega, hF, hs, ht⟩
    · rw [if_neg hbt] at hpb
      have hbi : ¬ ((lv k / 2 ^ z % 2 : Nat) : Int) = 1 := by omega
      simp only [↓gaW, ↓gaV, ↓gaC, ↓gaN, gaP, Nat.reduceEqDiff, Nat.reduceLeDiff, Nat.reduceAdd, Nat.reduceSub, Nat.reduceMul, Int.reduceLT, Int.reduceLE, Int.reduceEq, Int.reduceToNat, Int.reduceAdd, Int.reduceSub, Int.reduceMul, reduceCtorEq, ↓reduceIte, hbi, decide_false, h11, i64_w ((z : Int) - 1) (by omega), loopK_n]
      repeat refine And.intro (by first | omega | (simp; done) | (simp; omega) | exact all1 rfl) ?_
      rw [← hpb] at hl5 r5
      exact ⟨z, by omega, z, _, _, rfl, by omega, e0 ▸ ⟨a0, s0, c0, rfl, hc0, hl0, r0⟩, h1, h2, ⟨a5, s5, c5, rfl, hc5, hl5, r5⟩, rfl, rfl, by omega, hF, hs, ht⟩
end
end Go.Ga

namespace Go.Ga
open Go Go.Proofs
set_option linter.unusedSimpArgs false
set_option linter.unusedVariables false
set_option maxRecDepth 100000
attribute [local irreducible] appendK endK endW

theorem and_m32 {x : Nat} (hx : x < 4294967296) : bitsV .and .u64 (x : Int) 4294967295 = (x : Int) := by
  have h : x &&& 4294967295 = x := by
    rw [show (4294967295 : Nat) = 2 ^ 32 - 1 by decide, Nat.and_two_pow_sub_one_eq_mod, Nat.mod_eq_of_lt (by exact hx)]
  show IntKind.u64.wrap ((BitVec.ofInt 64 (x : Int) &&& BitVec.ofInt 64 ((4294967295 : Nat) : Int)).toNat : Int) = _
  simp only [BitVec.ofInt_natCast, BitVec.toNat_and, BitVec.toNat_ofNat]
  rw [Nat.mod_eq_of_lt (by omega), Nat.mod_eq_of_lt (by omega), h, u64_w]
  omega
theorem shr_32 {x : Nat} (hx : x < 4294967296) : shrV .u64 (x : Int) 32 = 0 := by
  have h := shr_nat (k := .u64) x 32 (by decide)
  rw [Nat.div_eq_of_lt (by exact hx)] at h
  exact h

def nzK (v : Value) (m : Mem) (K : Value → Mem → Prop) : Prop := match v with
  | .int .i64 n => 0 ≤ n ∧ n ≤ 281474976710656 ∧ K (.slice (some ⟨m.next, 0, some 1⟩) n.toNat n.toNat) (m.add (.cells (List.replicate n.toNat botV) false))
  | _ => False
@[congr] theorem nzK_congr {v v' : Value} {m : Mem} {K : Value → Mem → Prop} (h : v = v') : nzK v m K = nzK v' m K := by rw [h]
theorem nzK_e (n : Int) (m : Mem) (K : Value → Mem → Prop) : nzK (.int .i64 n) m K = (0 ≤ n ∧ n ≤ 281474976710656 ∧ K (.slice (some ⟨m.next, 0, some 1⟩) n.toNat n.toNat) (m.add (.cells (List.replicate n.toNat botV) false))) := (rfl)
theorem go_nz {P : Program} {d : Option Nat} {i : Nat} {l : List RO} {f : Regs} {m : Mem} {Q : AEx → Regs → Mem → Prop} : goOps P (⟨d, .xop (.noZero (.t i)), none⟩ :: l) f m Q = nzK (f i) m fun v m' => goOps P l (putR f d v) m' Q := (rfl)

section
variable {nx : Nat} {gt : Nat → Option Blk}

theorem ct_Mul64 {n : Nat} (hn : n < 4294967296) : Ct Try.prog 83 [.int .u64 1, .int .u64 n] nx gt fun v _ _ => v = .tuple #[.int .u64 0, .int .u64 n] := by
  refine Ct.of hmx r_math_bits_Mul64 (by simp [c_math_bits_Mul64]) fun b hb => ?_
  have hF : ∀ q, q < nx → gt q = gt q := fun _ _ => rfl
  have a1 : bitsV .and .u64 1 4294967295 = 1 := and_m32 (x := 1) (by omega)
  have s0 : shrV .u64 0 32 = 0 := shr_32 (x := 0) (by omega)
  have a0 : bitsV .and .u64 0 4294967295 = 0 := and_m32 (x := 0) (by omega)
  have s1 : shrV .u64 1 32 = 0 := shr_32 (x := 1) (by omega)
  simp only [c_math_bits_Mul64, ↓gaW, ↓gaV, ↓gaC, ↓gaN, gaP, Nat.reduceEqDiff, Nat.reduceLeDiff, Nat.reduceAdd, Nat.reduceSub, Nat.reduceMul, Int.reduceLT, Int.reduceLE, Int.reduceEq, Int.reduceToNat, Int.reduceAdd, Int.reduceSub, Int.reduceMul, reduceCtorEq, ↓reduceIte, a1, s1, and_m32 hn, shr_32 hn, Int.one_mul, Int.zero_mul, Int.mul_zero, Int.add_zero, Int.zero_add, u64_i (n : Int) (by omega), u64_i 0 (by omega), s0, a0, gaE, implies_true, Nat.le_refl, Int.sub_zero, Nat.sub_zero, Int.le_refl, true_or, or_true]

theorem ct_MulB {n : Nat} (hn : n < 4294967296) : Ct Try.prog 68 [.int .u64 1, .int .u64 n] nx gt fun v _ _ => v = .tuple #[.int .u64 0, .int .u64 n] := by
  refine Ct.of hmx r_math_bits_Mul (by simp [c_math_bits_Mul]) fun b hb => ?_
  have hF : ∀ q, q < nx → gt q = gt q := fun _ _ => rfl
  simp only [c_math_bits_Mul, ↓gaW, ↓gaV, ↓gaC, ↓gaN, gaP, Nat.reduceEqDiff, Nat.reduceLeDiff, Nat.reduceAdd, Nat.reduceSub, Nat.reduceMul, Int.reduceLT, Int.reduceLE, Int.reduceEq, Int.reduceToNat, Int.reduceAdd, Int.reduceSub, Int.reduceMul, reduceCtorEq, ↓reduceIte]
  refine callK_of (ct_Mul64 hn) (fun v n1 g1 l1 k1 hC => ?_) (by omega)
  subst hC
  have hF : ∀ q, q < nx → g1 q = gt q := fun q hq => (k1 q (by omega)).trans (hF q hq)
  simp only [↓gaW, ↓gaV, ↓gaC, ↓gaN, gaP, Nat.reduceEqDiff, Nat.reduceLeDiff, Nat.reduceAdd, Nat.reduceSub, Nat.reduceMul, Int.reduceLT, Int.reduceLE, Int.reduceEq, Int.reduceToNat, Int.reduceAdd, Int.reduceSub, Int.reduceMul, reduceCtorEq, ↓reduceIte]
  simp only [↓gaW, ↓gaV, ↓gaC, ↓gaN, gaP, Nat.reduceEqDiff, Nat.reduceLeDiff, Nat.reduceAdd, Nat.reduceSub, Nat.reduceMul, Int.reduceLT, Int.reduceLE, Int.reduceEq, Int.reduceToNat, Int.reduceAdd, Int.reduceSub, Int.reduceMul, reduceCtorEq, ↓reduceIte, gaE, implies_true, Nat.le_refl, Int.sub_zero, Nat.sub_zero, Int.le_refl, true_or, or_true, u64_i, decide_true]
  exact ⟨by omega, by omega, by omega, hF⟩

def ff (n : Nat) : List Value := List.replicate n (.int .u8 255)
theorem ff_len (n : Nat) : (ff n).length = n := by simp [ff]
theorem ff_all (n : Nat) : ∀ v ∈ ff n, cellVal v = true := by
  intro v hv
  rw [ff, List.mem_replicate] at hv
  rw [hv.2]; rfl
def ffs (k n : Nat) : List Value := ff k ++ List.replicate (n - k) botV
theorem ffs_len {k n : Nat} (h : k ≤ n) : (ffs k n).length = n := by simp [ffs, ff]; omega
theorem ffs_end {n : Nat} : ffs n n = ff n := by simp [ffs]
theorem ffs_lay {k w n : Nat} (h : k + w ≤ n) : splice (ffs k n) k (ff w) = ffs (k + w) n := by
  have h1 : List.take k (ffs k n) = ff k := by rw [ffs, List.take_append_of_le_length (by simp [ff]), List.take_of_length_le (by simp [ff])]
  have h2 : List.drop (k + w) (ffs k n) = List.replicate (n - (k + w)) botV := by
    rw [ffs, List.drop_append, List.drop_of_length_le (by simp [ff]), List.nil_append, List.drop_replicate, ff_len]
    congr 1; omega
  rw [splice, h1, ff_len, h2]
  simp only [ffs, ff, List.replicate_append_replicate]
theorem ffs_row {x k w n : Nat} {g : Nat → Option Blk} {ro : Bool} {q : Nat} (hq : q < x) (h : g q = some (.cells (ffs k n) ro)) (hw : w ≤ k) (hk : k ≤ n) : Row x g 1 (some ⟨q, 0, none⟩) w (ff w) :=
  ⟨fun a ha => by injection ha with ha; subst ha; exact .inl rfl, ff_len w, fun _ => ⟨_, _, ro, rfl, hq, h, by rw [ffs_len hk]; simp only; omega, fun i hi => by
    simp only [Nat.zero_add, ffs, ff]
    rw [List.getD_eq_getElem?_getD, List.getElem?_append_left (by simp; omega), List.getElem?_replicate, if_pos (by omega), List.getD_eq_getElem?_getD, List.getElem?_replicate, if_pos hi]⟩⟩

theorem ct_Repeat {A : Option Addr} {c n : Nat} (hA : Row nx gt 1 A 1 [.int .u8 255]) (hc : 1 ≤ c) (h1 : 1 ≤ n) (h2 : n ≤ 512) :
    Ct Try.prog 41 [.slice A 1 c, .int .i64 n] nx gt fun v nx' gt' => ∃ q, v = .slice (some ⟨q, 0, none⟩) n n ∧ nx ≤ q ∧ q < nx' ∧ gt' q = some (.cells (ff n) false) := by
  refine Ct.ofT hmx r_bytes_Repeat (by simp [c_bytes_Repeat]) fun b hb => ?_
  have hF : ∀ q, q < nx → gt q = gt q := fun _ _ => rfl
  obtain ⟨a, ce, ro, rfl, p1, p2, p3, p4⟩ := hA.cells (by omega)
  have z0 : ¬ (n : Int) = 0 := by omega
  have z1 : ¬ (n : Int) < 0 := by omega
  have z2 : ¬ (9223372036854775807 : Int) < (n : Int) := by omega
  have z3 : ¬ (8192 : Int) < (n : Int) := by omega
  have u1 := u64_i (1 : Int) (by omega)
  have u2 := u64_i (n : Int) (by omega)
  have i1 := i64_w (n : Int) (by omega)
  simp only [c_bytes_Repeat, ↓gaW, ↓gaV, ↓gaC, ↓gaN, gaP, Nat.reduceEqDiff, Nat.reduceLeDiff, Nat.reduceAdd, Nat.reduceSub, Nat.reduceMul, Int.reduceLT, Int.reduceLE, Int.reduceEq, Int.reduceToNat, Int.reduceAdd, Int.reduceSub, Int.reduceMul, reduceCtorEq, ↓reduceIte, z0, z1, u1, u2, decide_false, Int.toNat_natCast, Int.natCast_one]
  refine callK_of (ct_MulB (n := n) (by omega)) (fun v n1 g1 l1 k1 hC => ?_) (by omega)
  subst hC
  have hA := hA.keep l1 k1
  have hF : ∀ q, q < nx → g1 q = gt q := fun q hq => (k1 q (by omega)).trans (hF q hq)
  simp only [↓gaW, ↓gaV, ↓gaC, ↓gaN, gaP, Nat.reduceEqDiff, Nat.reduceLeDiff, Nat.reduceAdd, Nat.reduceSub, Nat.reduceMul, Int.reduceLT, Int.reduceLE, Int.reduceEq, Int.reduceToNat, Int.reduceAdd, Int.reduceSub, Int.reduceMul, reduceCtorEq, ↓reduceIte]
  have hrow : ∀ b B, rowOf ⟨n1 + 1, b, upd g1 n1 B⟩ (some a) 1 = some (ff 1) := fun b B => (hA.keep (nx' := n1 + 1) (gt' := upd g1 n1 B) (by omega) fun q hq => by simp only [upd_e]; rw [if_neg (by omega)]).rowOf (b := b)
  have m0 : Nat.min 1 n = 1 := by show (if 1 ≤ n then 1 else n) = 1; rw [if_pos h1]
  have hl0 := ffs_lay (k := 0) (w := 1) (n := n) (by omega)
  have hz0 : List.replicate n botV = ffs 0 n := by simp [ffs, ff]
  have hlen0 := ffs_len (k := 0) (n := n) (by omega)
  simp only [↓gaW, ↓gaV, ↓gaC, ↓gaN, gaP, Nat.reduceEqDiff, Nat.reduceLeDiff, Nat.reduceAdd, Nat.reduceSub, Nat.reduceMul, Int.reduceLT, Int.reduceLE, Int.reduceEq, Int.reduceToNat, Int.reduceAdd, Int.reduceSub, Int.reduceMul, reduceCtorEq, ↓reduceIte, gaU, z2, z3, u2, i1, decide_false, go_nz, nzK_e, Int.toNat_natCast, Int.sub_zero, hrow, m0, Nat.mul_one, cpK_s (show (1 : Nat) ≠ 0 by omega), hz0, hl0, hlen0]
  repeat refine And.intro (by first | omega | (simp; done) | (simp; omega) | exact all1 rfl) ?_
  refine And.intro (by simp [ff_len, hlen0]; omega) (And.intro (ff_all 1) ?_)
  refine loop_of (fun j f m => ∃ (k : Nat) (g : Nat → Option Blk), j = n - k ∧ 1 ≤ k ∧ k ≤ n ∧ f 7 = .int .i64 n ∧ f 8 = .int .i64 n ∧ f 9 = .slice (some ⟨n1, 0, none⟩) n n ∧ f 10 = .int .i64 (k : Nat) ∧ m = ⟨n1 + 1, b, g⟩ ∧ (∀ q, q < nx → g q = gt q) ∧ g n1 = some (.cells (ffs k n) false)) (n - 1)
    ⟨1, _, rfl, by omega, by omega, by simp only [↓gaW, ↓gaV, ↓gaC, ↓gaN, gaP, Nat.reduceEqDiff, Nat.reduceLeDiff, Nat.reduceAdd, Nat.reduceSub, Nat.reduceMul, Int.reduceLT, Int.reduceLE, Int.reduceEq, Int.reduceToNat, Int.reduceAdd, Int.reduceSub, Int.reduceMul, reduceCtorEq, ↓reduceIte], by simp only [↓gaW, ↓gaV, ↓gaC, ↓gaN, gaP, Nat.reduceEqDiff, Nat.reduceLeDiff, Nat.reduceAdd, Nat.reduceSub, Nat.reduceMul, Int.reduceLT, Int.reduceLE, Int.reduceEq, Int.reduceToNat, Int.reduceAdd, Int.reduceSub, Int.reduceMul, reduceCtorEq, ↓reduceIte], by simp only [↓gaW, ↓gaV, ↓gaC, ↓gaN, gaP, Nat.reduceEqDiff, Nat.reduceLeDiff, Nat.reduceAdd, Nat.reduceSub, Nat.reduceMul, Int.reduceLT, Int.reduceLE, Int.reduceEq, Int.reduceToNat, Int.reduceAdd, Int.reduceSub, Int.reduceMul, reduceCtorEq, ↓reduceIte], by simp only [↓gaW, ↓gaV, ↓gaC, ↓gaN, gaP, Nat.reduceEqDiff, Nat.reduceLeDiff, Nat.reduceAdd, Nat.reduceSub, Nat.reduceMul, Int.reduceLT, Int.reduceLE, Int.reduceEq, Int.reduceToNat, Int.reduceAdd, Int.reduceSub, Int.reduceMul, reduceCtorEq, ↓reduceIte], rfl, fun q hq => by simp only [upd_e]; rw [if_neg (by omega), if_neg (by omega), hF q hq], by simp only [upd_e, if_true]⟩ ?_
  rintro j f m ⟨k, g, rfl, hk1, hkn, f7, f8, f9, f10, rfl, hG, hg⟩
  by_cases hlt : (k : Int) < (n : Int)
  · have hkk : ¬ (n : Int) < (k : Int) := by omega
    obtain ⟨w, hw⟩ : ∃ w, Nat.min k (n - k) = w := ⟨_, rfl⟩
    have hw0 : 0 < w := by rw [← hw, Nat.lt_min]; omega
    have hw1 : w ≤ k := by rw [← hw]; exact Nat.min_le_left _ _
    have hw2 : w ≤ n - k := by rw [← hw]; exact Nat.min_le_right _ _
    have hwne : w ≠ 0 := by omega
    have hlen := ffs_len (k := k) (n := n) hkn
    have hlay := ffs_lay (k := k) (w := w) (n := n) (by omega)
    have hrow2 : rowOf ⟨n1 + 1, b, g⟩ (some ⟨n1, 0, none⟩) w = some (ff w) := (ffs_row (by omega) hg hw1 hkn).rowOf
    have e1 : ((n : Int) - (k : Int)).toNat = n - k := by omega
    have e2 : ((k : Nat) : Int).toNat = k := by omega
    have e3 : (k : Int) + (w : Int) = ((k + w : Nat) : Int) := by omega
    simp only [↓gaW, ↓gaV, ↓gaC, ↓gaN, gaP, Nat.reduceEqDiff, Nat.reduceLeDiff, Nat.reduceAdd, Nat.reduceSub, Nat.reduceMul, Int.reduceLT, Int.reduceLE, Int.reduceEq, Int.reduceToNat, Int.reduceAdd, Int.reduceSub, Int.reduceMul, reduceCtorEq, ↓reduceIte, gaU, f7, f8, f9, f10, hlt, decide_true, mm_t, Bool.false_eq_true, if_false, if_neg hkk]
    refine vc_tree_same ?_
    refine ⟨fun t => if t = 7 then .int .i64 n else if t = 8 then .int .i64 n else if t = 9 then .slice (some ⟨n1, 0, none⟩) n n else if t = 10 then .int .i64 ((k + w : Nat) : Int) else botV, ⟨n1 + 1, b, upd g n1 (some (.cells (ffs (k + w) n) false))⟩, ?_, ?_, ?_⟩
    rotate_left 2
    · simp only [tree_s, allP_cons, allP_nil, List.getElem?_cons_zero, List.getElem?_cons_succ, Nat.reducePow, Nat.reduceOr, Option.map, t_bytes_Repeat, ↓gaW, ↓gaV, ↓gaC, ↓gaN, gaP, Nat.reduceEqDiff, Nat.reduceLeDiff, Nat.reduceAdd, Nat.reduceSub, Nat.reduceMul, Int.reduceLT, Int.reduceLE, Int.reduceEq, Int.reduceToNat, Int.reduceAdd, Int.reduceSub, Int.reduceMul, reduceCtorEq, ↓reduceIte, gaU, f7, f8, f9, f10, e1, e2, Nat.zero_add, Nat.mul_one, Int.sub_zero, hw, hrow2, cpK_s hwne, hg, hlay, hlen, e3, i64_w ((k + w : Nat) : Int) (by omega)]
      repeat' refine And.intro ?_ ?_
      all_goals first
        | omega
        | rfl
        | (simp; done)
        | exact ff_all w
        | (rw [ff_len]; omega)
        | (intro i
           rcases (show i = 7 ∨ i = 8 ∨ i = 9 ∨ i = 10 ∨ (i ≠ 7 ∧ i ≠ 8 ∧ i ≠ 9 ∧ i ≠ 10) by omega) with rfl | rfl | rfl | rfl | ⟨a1, a2, a3, a4⟩
           · exact .inl (by simp only [↓gaW, ↓gaV, ↓gaC, ↓gaN, gaP, Nat.reduceEqDiff, Nat.reduceLeDiff, Nat.reduceAdd, Nat.reduceSub, Nat.reduceMul, Int.reduceLT, Int.reduceLE, Int.reduceEq, Int.reduceToNat, Int.reduceAdd, Int.reduceSub, Int.reduceMul, reduceCtorEq, ↓reduceIte, f7])
           · exact .inl (by simp only [↓gaW, ↓gaV, ↓gaC, ↓gaN, gaP, Nat.reduceEqDiff, Nat.reduceLeDiff, Nat.reduceAdd, Nat.reduceSub, Nat.reduceMul, Int.reduceLT, Int.reduceLE, Int.reduceEq, Int.reduceToNat, Int.reduceAdd, Int.reduceSub, Int.reduceMul, reduceCtorEq, ↓reduceIte, f8])
           · exact .inl (by simp only [↓gaW, ↓gaV, ↓gaC, ↓gaN, gaP, Nat.reduceEqDiff, Nat.reduceLeDiff, Nat.reduceAdd, Nat.reduceSub, Nat.reduceMul, Int.reduceLT, Int.reduceLE, Int.reduceEq, Int.reduceToNat, Int.reduceAdd, Int.reduceSub, Int.reduceMul, reduceCtorEq, ↓reduceIte, f9])
           · exact .inl (by simp only [↓gaW, ↓gaV, ↓gaC, ↓gaN, gaP, Nat.reduceEqDiff, Nat.reduceLeDiff, Nat.reduceAdd, Nat.reduceSub, Nat.reduceMul, Int.reduceLT, Int.reduceLE, Int.reduceEq, Int.reduceToNat, Int.reduceAdd, Int.reduceSub, Int.reduceMul, reduceCtorEq, ↓reduceIte])
           · right; simp only [if_neg a1, if_neg a2, if_neg a3, if_neg a4])
    · simp only [↓gaW, ↓gaV, ↓gaC, ↓gaN, gaP, Nat.reduceEqDiff, Nat.reduceLeDiff, Nat.reduceAdd, Nat.reduceSub, Nat.reduceMul, Int.reduceLT, Int.reduceLE, Int.reduceEq, Int.reduceToNat, Int.reduceAdd, Int.reduceSub, Int.reduceMul, reduceCtorEq, ↓reduceIte, loopK_n]
      exact ⟨n - (k + w), by omega, k + w, _, rfl, by omega, by omega, rfl, rfl, fun q hq => by simp only [upd_e]; rw [if_neg (by omega), hG q hq], by simp only [upd_e, if_true]⟩
    · exact ⟨rfl, Nat.le_refl _, fun q hq => by
        have hq' : q < b := hq
        show upd _ _ _ q = g q; simp only [upd_e]; rw [if_neg (by omega)]⟩
  · have : k = n := by omega
    subst this
    rw [ffs_end] at hg
    simp only [↓gaW, ↓gaV, ↓gaC, ↓gaN, gaP, Nat.reduceEqDiff, Nat.reduceLeDiff, Nat.reduceAdd, Nat.reduceSub, Nat.reduceMul, Int.reduceLT, Int.reduceLE, Int.reduceEq, Int.reduceToNat, Int.reduceAdd, Int.reduceSub, Int.reduceMul, reduceCtorEq, ↓reduceIte, gaE, implies_true, Nat.le_refl, Int.sub_zero, Nat.sub_zero, Int.le_refl, true_or, or_true, f7, f10, f9, hlt, decide_false, loopK_e]
    exact ⟨by omega, hG, n1, rfl, by omega, by omega, hg⟩
end
end Go.Ga

namespace Go.Ga
open Go Go.Proofs
set_option linter.unusedSimpArgs false
set_option linter.unusedVariables false
set_option maxRecDepth 100000
attribute [local irreducible] appendK endK endW

def ahL : List UInt8 := [0, 48, 49, 48, 13, 6, 9, 96, 134, 72, 1, 101, 3, 4, 2, 1, 5, 0, 4, 32]
def frL (H : List UInt8) (n : Nat) : List UInt8 := [0, 1] ++ (List.replicate (n - 54) 255 ++ (ahL ++ H))
theorem spl1 (x y : Value) : splice [x] 0 [y] = [y] := rfl
theorem spl20 (x y z : Value) : splice [x, y] 0 [z] = [z, y] := rfl
theorem spl21 (x y z : Value) : splice [x, y] 1 [z] = [x, z] := rfl
theorem ff_u8 (n : Nat) : ff n = (List.replicate n (255 : UInt8)).map u8V := by
  rw [ff, List.map_replicate]; rfl

theorem rep_lay {m k : Nat} {l T : List UInt8} (hl : l.length = k) (hk : k ≤ m) : splice ((List.replicate m 255 ++ T).map u8V) (m - k) (l.map u8V) = (List.replicate (m - k) 255 ++ (l ++ T)).map u8V := by
  have h1 : List.take (m - k) (List.replicate m (255 : UInt8) ++ T) = List.replicate (m - k) 255 := by
    rw [List.take_append_of_le_length (by simp), List.take_replicate]; congr 1; omega
  have h2 : List.drop (m - k + k) (List.replicate m (255 : UInt8) ++ T) = T := by
    rw [show m - k + k = m by omega, List.drop_append_of_le_length (by simp), List.drop_of_length_le (by simp), List.nil_append]
  rw [splice, ← List.map_take, List.length_map, hl, ← List.map_drop, h1, h2]
  simp only [List.map_append, List.append_assoc]
theorem rep_top {m : Nat} {T : List UInt8} (hm : 2 ≤ m) : splice ((List.replicate m 255 ++ T).map u8V) 0 [.int .u8 0, .int .u8 1] = ([0, 1] ++ (List.replicate (m - 2) 255 ++ T)).map u8V := by
  have h2 : List.drop 2 (List.replicate m (255 : UInt8) ++ T) = List.replicate (m - 2) 255 ++ T := by
    rw [List.drop_append_of_le_length (by simpa using hm), List.drop_replicate]
  rw [splice]
  simp only [List.take_zero, List.nil_append, List.length_cons, List.length_nil, Nat.zero_add, Nat.reduceAdd]
  rw [← List.map_drop, h2]
  generalize List.replicate (m - 2) (255 : UInt8) ++ T = Z
  rfl
theorem row8c {x q n : Nat} {g : Nat → Option Blk} {w : List Value} {ro : Bool} (hq : q < x) (hg : g q = some (.cells w ro)) (hw : w.length = n) : Row x g 1 (some ⟨q, 0, none⟩) n w :=
  ⟨fun a ha => by injection ha with ha; subst ha; exact .inl rfl, hw, fun _ => ⟨_, _, ro, rfl, hq, hg, by rw [hw]; simp, fun i hi => by simp⟩⟩

section
variable {nx : Nat} {gt : Nat → Option Blk}

theorem ct_ahead : Ct Try.prog 43 [] nx gt fun v _ _ => v = .agg (ahL.map u8V).toArray := by
  refine Ct.of hmx r_rsa_ahead (by simp [c_rsa_ahead]) fun b hb => ?_
  simp only [c_rsa_ahead, ↓gaW, ↓gaV, ↓gaC, ↓gaN, gaP, Nat.reduceEqDiff, Nat.reduceLeDiff, Nat.reduceAdd, Nat.reduceSub, Nat.reduceMul, Int.reduceLT, Int.reduceLE, Int.reduceEq, Int.reduceToNat, Int.reduceAdd, Int.reduceSub, Int.reduceMul, reduceCtorEq, ↓reduceIte, List.getD_cons_zero, List.getD_cons_succ, fillL, splice, List.take_zero, List.drop_zero, List.drop_succ_cons, List.take_succ_cons, List.drop_nil, List.take_nil]
  refine And.intro (by omega) (And.intro (all_u8 ahL) ?_)
  exact end_cN (q := nx) (ahL.map u8V) (by simp only [↓gaW, ↓gaV, ↓gaC, ↓gaN, gaP, Nat.reduceEqDiff, Nat.reduceLeDiff, Nat.reduceAdd, Nat.reduceSub, Nat.reduceMul, Int.reduceLT, Int.reduceLE, Int.reduceEq, Int.reduceToNat, Int.reduceAdd, Int.reduceSub, Int.reduceMul, reduceCtorEq, ↓reduceIte]) (by simp only [upd_e, if_true]; rfl) rfl ⟨rfl, by omega, fun q hq => by simp only [upd_e]; rw [if_neg (by omega), if_neg (by omega)], rfl⟩

theorem fn_lay {b p r q n c N t : Nat} {A : Option Addr} {l : List UInt8} {L : List Value} (hA : Row nx gt 1 A n (l.map u8V)) (hne : 0 < n → ∀ a, A = some a → a.block ≠ q ∧ a.block ≠ p)
    (hp : gt p = some (.cells [.int .i64 (t : Nat)] false)) (hr : gt r = some (.cells [.slice (some ⟨q, 0, none⟩) N N] false)) (hq : gt q = some (.cells L false)) (hL : L.length = N)
    (hnt : n ≤ t) (htN : t ≤ N) (hN : N < 1000000) (hn0 : 0 < n) (hbp : b ≤ p) (hbq : b ≤ q) (hpn : p < nx) (hqn : q < nx) (h1 : p ≠ r) (h2 : p ≠ q) (h3 : q ≠ r) :
    Fn Try.prog 42 [.slice A n c, .pointer (some ⟨p, 0, none⟩), .pointer (some ⟨r, 0, none⟩)] ⟨nx, b, gt⟩ fun res m' => res = .ret (.tuple #[]) ∧ ∃ g', m' = ⟨nx, b, g'⟩ ∧
      (∀ i, i ≠ p → i ≠ q → g' i = gt i) ∧ g' p = some (.cells [.int .i64 (t - n : Nat)] false) ∧ g' q = some (.cells (splice L (t - n) (l.map u8V)) false) := by
  refine fn_sound hmx r_rsa_Frame_1 (by simp [c_rsa_Frame_1]) ?_
  show c_rsa_Frame_1.code.vc _ _ _ (D Try.prog (.top _))
  have hl : l.length = n := by simpa using hA.len
  obtain ⟨a, ce, ro, rfl, p1, p2, p3, p4⟩ := hA.cells (by omega)
  have hne := hne hn0 a rfl
  have e1 : (t : Int) - (n : Int) = ((t - n : Nat) : Int) := by omega
  have e2 : (N : Int) - ((t - n : Nat) : Int) = ((N - (t - n) : Nat) : Int) := by omega
  have e3 : Nat.min n (N - (t - n)) = n := Nat.min_eq_left (by omega)
  have hrow : ∀ b B, rowOf ⟨nx, b, upd gt p B⟩ (some a) n = some (l.map u8V) := fun b B => (hA.keepA (nx' := nx) (gt' := upd gt p B) (by omega) fun _ a' ha => by injection ha with ha; subst ha; simp only [upd_e]; rw [if_neg hne.2]).rowOf
  simp only [c_rsa_Frame_1, ↓gaW, ↓gaV, ↓gaC, ↓gaN, gaP, Nat.reduceEqDiff, Nat.reduceLeDiff, Nat.reduceAdd, Nat.reduceSub, Nat.reduceMul, Int.reduceLT, Int.reduceLE, Int.reduceEq, Int.reduceToNat, Int.reduceAdd, Int.reduceSub, Int.reduceMul, reduceCtorEq, ↓reduceIte, List.getD_cons_zero, spl1, gaU, hp, hr, hq, e1, e2, i64_w ((t - n : Nat) : Int) (by omega), if_neg h1, if_neg (Ne.symm h1), if_neg (Ne.symm h2), if_neg h2, Int.toNat_natCast, Nat.mul_one, Nat.zero_add, e3, hrow, cpK_s (show n ≠ 0 by omega)]
  repeat refine And.intro (by first | omega | (simp; done) | (rw [List.length_map]; omega) | exact all_u8 _ | exact all1 rfl) ?_
  refine ⟨rfl, _, rfl, fun i i1 i2 => by simp only [upd_e]; rw [if_neg i2, if_neg i1], ?_, by simp only [upd_e, if_true]⟩
  simp only [upd_e, if_true]; rw [if_neg h2]

/-- What a frame comes to. -/
def frameR (H : List UInt8) (s : Int) : List UInt8 × Int := if 62 ≤ s ∧ s ≤ 512 then (frL H s.toNat, 0) else ([], 1)
def FrameV (H : List UInt8) (s : Int) (v : Value) (x : Nat) (g : Nat → Option Blk) : Prop :=
  ∃ A n c, v = .tuple #[.slice A n c, .int .i64 (frameR H s).2] ∧ n ≤ c ∧ n = (frameR H s).1.length ∧ Row x g 1 A n ((frameR H s).1.map u8V)

theorem ct_Frame {H : List UInt8} {s : Int} (hH : H.length = 32) :
    Ct Try.prog 22 [.agg (H.map u8V).toArray, .int .i64 s] nx gt (FrameV H s) := by
  refine Ct.of hmx r_rsa_Frame (by simp [c_rsa_Frame]) fun b hb => ?_
  by_cases hs : 62 ≤ s ∧ s ≤ 512
  · obtain ⟨n, rfl⟩ : ∃ n : Nat, s = n := ⟨s.toNat, by omega⟩
    have d1 : ¬ (n : Int) < 62 := by omega
    have d2 : ¬ (512 : Int) < (n : Int) := by omega
    simp only [c_rsa_Frame, ↓gaW, ↓gaV, ↓gaC, ↓gaN, gaP, Nat.reduceEqDiff, Nat.reduceLeDiff, Nat.reduceAdd, Nat.reduceSub, Nat.reduceMul, Int.reduceLT, Int.reduceLE, Int.reduceEq, Int.reduceToNat, Int.reduceAdd, Int.reduceSub, Int.reduceMul, reduceCtorEq, ↓reduceIte, List.getD_cons_zero, List.getD_cons_succ, fillL, splice, List.take_zero, List.drop_zero, List.drop_succ_cons, List.take_succ_cons, List.drop_nil, List.take_nil, gaU, d1, d2, decide_false]
    refine callK_of (ct_Repeat (n := n) (row8c (by omega) (by simp only [upd_e, if_true]; rfl) rfl) (by omega) (by omega) (by omega)) (fun v x2 g2 l2 k2 hC => ?_) (by omega)
    obtain ⟨q, rfl, q1, q2, q3⟩ := hC
    have gH : g2 nx = some (.cells (H.map u8V) false) := by rw [k2 nx (by omega)]; simp only [upd_e, if_true]; rw [if_neg (by omega)]
    have gO : ∀ i, i < nx → g2 i = gt i := fun i hi => by rw [k2 i (by omega)]; simp only [upd_e]; rw [if_neg (by omega), if_neg (by omega)]
    simp only [↓gaW, ↓gaV, ↓gaC, ↓gaN, gaP, Nat.reduceEqDiff, Nat.reduceLeDiff, Nat.reduceAdd, Nat.reduceSub, Nat.reduceMul, Int.reduceLT, Int.reduceLE, Int.reduceEq, Int.reduceToNat, Int.reduceAdd, Int.reduceSub, Int.reduceMul, reduceCtorEq, ↓reduceIte, List.getD_cons_zero, List.getD_cons_succ, fillL, splice, List.take_zero, List.drop_zero, List.drop_succ_cons, List.take_succ_cons, List.drop_nil, List.take_nil, gaU]
    repeat refine And.intro (by first | omega | (simp; done) | (simp; omega) | exact all1 rfl) ?_
    have n1 : ¬ q = x2 := by omega
    have n2 : ¬ q = x2 + 1 := by omega
    refine callK_fn (fn_lay (b := b) (q := q) (p := x2 + 1) (r := x2) (N := n) (t := n) (l := H) (L := ff n) (row8 (ro := false) (by omega) (by simp only [upd_e]; rw [if_neg (by omega), if_neg (by omega), if_neg (by omega), if_neg (by omega), gH]) hH) (fun _ a ha => by injection ha with ha; subst ha; exact ⟨by show nx ≠ q; omega, by show nx ≠ x2 + 1; omega⟩)
      (by simp only [upd_e, if_true]) (by simp only [upd_e, if_true]; rw [if_neg (by omega), if_neg (by omega)]) (by simp only [upd_e]; rw [if_neg n2, if_neg n2, if_neg n1, if_neg n1, q3]) (ff_len n) (by omega) (by omega) (by omega) (by omega) (by omega) (by omega) (by omega) (by omega) (by omega) (by omega) (by omega)) fun res m' hh => ?_
    obtain ⟨rfl, g3, rfl, k3, p3, w3⟩ := hh
    refine ⟨_, rfl, ?_⟩
    have e3 := rep_lay (m := n) (k := 32) (l := H) (T := []) hH (by omega)
    rw [List.append_nil, List.append_nil, ← ff_u8] at e3
    rw [e3] at w3
    have r3 : g3 x2 = some (.cells [.slice (some ⟨q, 0, none⟩) n n] false) := by rw [k3 x2 (by omega) (by omega)]; simp only [upd_e, if_true]; rw [if_neg (by omega), if_neg (by omega)]
    have o3 : ∀ i, i < nx → g3 i = gt i := fun i hi => by rw [k3 i (by omega) (by omega)]; simp only [upd_e]; rw [if_neg (by omega), if_neg (by omega), if_neg (by omega), if_neg (by omega), gO i hi]
    clear k3 gH gO q3 k2
    simp only [↓gaW, ↓gaV, ↓gaC, ↓gaN, gaP, Nat.reduceEqDiff, Nat.reduceLeDiff, Nat.reduceAdd, Nat.reduceSub, Nat.reduceMul, Int.reduceLT, Int.reduceLE, Int.reduceEq, Int.reduceToNat, Int.reduceAdd, Int.reduceSub, Int.reduceMul, reduceCtorEq, ↓reduceIte]
    refine callK_of ct_ahead (fun v x4 g4 l4 k4 hC => ?_) (by omega)
    subst hC
    simp only [↓gaW, ↓gaV, ↓gaC, ↓gaN, gaP, Nat.reduceEqDiff, Nat.reduceLeDiff, Nat.reduceAdd, Nat.reduceSub, Nat.reduceMul, Int.reduceLT, Int.reduceLE, Int.reduceEq, Int.reduceToNat, Int.reduceAdd, Int.reduceSub, Int.reduceMul, reduceCtorEq, ↓reduceIte, gaU]
    refine And.intro rfl (And.intro (by omega) (And.intro (by decide) (And.intro (all_u8 _) ?_)))
    refine callK_fn (fn_lay (b := b) (q := q) (p := x2 + 1) (r := x2) (N := n) (t := n - 32) (l := ahL) (n := 20) (row8 (ro := false) (by omega) (by simp only [upd_e, if_true]; rfl) rfl) (fun _ a ha => by injection ha with ha; subst ha; exact ⟨by show x4 ≠ q; omega, by show x4 ≠ x2 + 1; omega⟩)
      (by simp only [upd_e]; rw [if_neg (by omega), if_neg (by omega), k4 _ (by omega), p3]) (by simp only [upd_e]; rw [if_neg (by omega), if_neg (by omega), k4 _ (by omega), r3]) (by simp only [upd_e]; rw [if_neg (by omega), if_neg (by omega), k4 _ (by omega), w3]) (by simp [hH]; omega) (by omega) (by omega) (by omega) (by omega) (by omega) (by omega) (by omega) (by omega) (by omega) (by omega) (by omega)) fun res m' hh => ?_
    obtain ⟨rfl, g5, rfl, k5, p5, w5⟩ := hh
    refine ⟨_, rfl, ?_⟩
    have e5 := rep_lay (m := n - 32) (k := 20) (l := ahL) (T := H) rfl (by omega)
    rw [e5] at w5
    have r5 : g5 x2 = some (.cells [.slice (some ⟨q, 0, none⟩) n n] false) := by rw [k5 x2 (by omega) (by omega)]; simp only [upd_e]; rw [if_neg (by omega), if_neg (by omega), k4 _ (by omega), r3]
    have o5 : ∀ i, i < nx → g5 i = gt i := fun i hi => by rw [k5 i (by omega) (by omega)]; simp only [upd_e]; rw [if_neg (by omega), if_neg (by omega), k4 _ (by omega), o3 i hi]
    have e6 := rep_top (m := n - 32 - 20) (T := ahL ++ H) (by omega)
    have m2 : Nat.min 2 n = 2 := Nat.min_eq_left (by omega)
    have x4x : ¬ x2 = x4 + 1 := by omega
    have q4x : ¬ q = x4 + 1 := by omega
    have hrow : ∀ b, rowOf ⟨x4 + 1 + 1, b, upd g5 (x4 + 1) (some (.cells [.int .u8 0, .int .u8 1] false))⟩ (some ⟨x4 + 1, 0, none⟩) 2 = some [.int .u8 0, .int .u8 1] := fun b => by simp [rowOf, upd]
    have hlen : ((List.replicate (n - 32 - 20) (255 : UInt8) ++ (ahL ++ H)).map u8V).length = n := by simp [hH, ahL]; omega
    generalize hG : (List.replicate (n - 32 - 20) (255 : UInt8) ++ (ahL ++ H)).map u8V = G at *
    have e7 : n - 32 - 20 - 2 = n - 54 := by omega
    rw [e7] at e6
    simp only [↓gaW, ↓gaV, ↓gaC, ↓gaN, gaP, Nat.reduceEqDiff, Nat.reduceLeDiff, Nat.reduceAdd, Nat.reduceSub, Nat.reduceMul, Int.reduceLT, Int.reduceLE, Int.reduceEq, Int.reduceToNat, Int.reduceAdd, Int.reduceSub, Int.reduceMul, reduceCtorEq, ↓reduceIte, List.getD_cons_zero, List.getD_cons_succ, List.length_cons, List.length_nil, fillL, spl1, spl20, spl21, gaU, r5, if_neg x4x, if_neg q4x, Nat.mul_one, Nat.zero_add, m2, hrow, cpK_s (show (2 : Nat) ≠ 0 by omega), w5, e6, if_neg n1, if_neg (Ne.symm n1)]
    repeat refine And.intro (by first | omega | (simp; done) | (simp; omega) | exact all_u8 [0, 1]) ?_
    have hf : frameR H (n : Int) = (frL H n, 0) := by rw [frameR, if_pos hs, Int.toNat_natCast]
    simp only [↓gaW, ↓gaV, ↓gaC, ↓gaN, gaP, Nat.reduceEqDiff, Nat.reduceLeDiff, Nat.reduceAdd, Nat.reduceSub, Nat.reduceMul, Int.reduceLT, Int.reduceLE, Int.reduceEq, Int.reduceToNat, Int.reduceAdd, Int.reduceSub, Int.reduceMul, reduceCtorEq, ↓reduceIte, gaE, implies_true, Nat.le_refl, Int.sub_zero, Nat.sub_zero, Int.le_refl, true_or, or_true]
    refine ⟨by omega, fun i hi => ?_, some ⟨q, 0, none⟩, n, n, by rw [hf], by omega, ?_, ?_⟩
    · rw [if_neg (by omega), if_neg (by omega), o5 i hi]
    · rw [hf]; simp [frL, ahL, hH]; omega
    · rw [hf]
      refine row8 (ro := false) (by omega) (by simp only [upd_e, if_true]; rfl) ?_
      simp [frL, ahL, hH]; omega
  · have hf : (frameR H s) = ([], 1) := if_neg hs
    have hV : ∀ x g, FrameV H s (.tuple #[.slice none 0 0, .int .i64 1]) x g := fun x g => ⟨none, 0, 0, by rw [hf], by omega, by rw [hf]; rfl, by rw [hf]; exact Row.nil⟩
    by_cases d1 : s < 62
    · simp only [c_rsa_Frame, ↓gaW, ↓gaV, ↓gaC, ↓gaN, gaP, Nat.reduceEqDiff, Nat.reduceLeDiff, Nat.reduceAdd, Nat.reduceSub, Nat.reduceMul, Int.reduceLT, Int.reduceLE, Int.reduceEq, Int.reduceToNat, Int.reduceAdd, Int.reduceSub, Int.reduceMul, reduceCtorEq, ↓reduceIte, gaE, implies_true, Nat.le_refl, Int.sub_zero, Nat.sub_zero, Int.le_refl, true_or, or_true, gaU, d1, decide_true]
      exact ⟨by omega, fun q hq => by rw [if_neg (by omega)], hV _ _⟩
    · have d2 : 512 < s := by omega
      simp only [c_rsa_Frame, ↓gaW, ↓gaV, ↓gaC, ↓gaN, gaP, Nat.reduceEqDiff, Nat.reduceLeDiff, Nat.reduceAdd, Nat.reduceSub, Nat.reduceMul, Int.reduceLT, Int.reduceLE, Int.reduceEq, Int.reduceToNat, Int.reduceAdd, Int.reduceSub, Int.reduceMul, reduceCtorEq, ↓reduceIte, gaE, implies_true, Nat.le_refl, Int.sub_zero, Nat.sub_zero, Int.le_refl, true_or, or_true, gaU, d1, d2, decide_true, decide_false]
      exact ⟨by omega, fun q hq => by rw [if_neg (by omega)], hV _ _⟩
end
end Go.Ga

namespace Go.Ga
open Go Go.Proofs
set_option linter.unusedSimpArgs false
set_option linter.unusedVariables false
set_option maxRecDepth 100000
attribute [local irreducible] appendK endK endW

def frT (t : Nat) : List Value := ([0, 1] ++ List.replicate t (255 : UInt8)).map u8V
theorem frT_succ (t : Nat) : frT (t + 1) = frT t ++ [.int .u8 255] := by
  simp only [frT]
  rw [List.replicate_succ']
  simp
  rfl
theorem frT_end (H : List UInt8) (k : Nat) : (frT k ++ ahL.map u8V) ++ H.map u8V = (frL H (k + 54)).map u8V := by
  simp [frT, frL]

section
variable {nx : Nat} {gt : Nat → Option Blk}

theorem ct_rFrame {H : List UInt8} {s : Int} (hH : H.length = 32) :
    Ct Try.prog 23 [.agg (H.map u8V).toArray, .int .i64 s] nx gt (FrameV H s) := by
  refine Ct.of hmx r_lanyardref09_Frame (by simp [c_lanyardref09_Frame]) fun b hb => ?_
  by_cases hs : 62 ≤ s ∧ s ≤ 512
  · obtain ⟨n, rfl⟩ : ∃ n : Nat, s = n := ⟨s.toNat, by omega⟩
    obtain ⟨k, rfl⟩ : ∃ k, n = k + 54 := ⟨n - 54, by omega⟩
    have ek : k + 54 - 54 = k := by omega
    have d1 : ¬ ((k + 54 : Nat) : Int) < 62 := by omega
    have d2 : ¬ (512 : Int) < ((k + 54 : Nat) : Int) := by omega
    have hf : frameR H ((k + 54 : Nat) : Int) = (frL H (k + 54), 0) := by rw [frameR, if_pos hs, Int.toNat_natCast]
    have i1 : ((k + 54 : Nat) : Int) - 52 = ((k + 2 : Nat) : Int) := by omega
    simp only [c_lanyardref09_Frame, ↓gaW, ↓gaV, ↓gaC, ↓gaN, gaP, Nat.reduceEqDiff, Nat.reduceLeDiff, Nat.reduceAdd, Nat.reduceSub, Nat.reduceMul, Int.reduceLT, Int.reduceLE, Int.reduceEq, Int.reduceToNat, Int.reduceAdd, Int.reduceSub, Int.reduceMul, reduceCtorEq, ↓reduceIte, List.getD_cons_zero, List.getD_cons_succ, fillL, splice, List.take_zero, List.drop_zero, List.drop_succ_cons, List.take_succ_cons, List.drop_nil, List.take_nil, gaU, d1, d2, decide_false]
    refine bloop_of (fun f m => ∃ (x : Nat) (g : Nat → Option Blk) (A' : Option Addr), f 2 = .pointer (some ⟨nx, 0, none⟩) ∧ f 6 = .slice A' (2 + k) (2 + k) ∧ m = ⟨x, b, g⟩ ∧ nx + 1 ≤ x ∧ (∀ p, p < nx → g p = gt p) ∧ g nx = some (.cells (H.map u8V) false) ∧ Grow (nx + 1) b x g 1 A' (2 + k) (frT k)) (fun _ _ => False)
      (fun j f m => ∃ (t x : Nat) (g : Nat → Option Blk) (A' : Option Addr), j = k - t ∧ t ≤ k ∧ f 1 = (.int .i64 ((k + 54 : Nat) : Int)) ∧ f 2 = .pointer (some ⟨nx, 0, none⟩) ∧ f 6 = .slice A' (2 + t) (2 + t) ∧ m = ⟨x, b, g⟩ ∧ nx + 1 ≤ x ∧ (∀ p, p < nx → g p = gt p) ∧ g nx = some (.cells (H.map u8V) false) ∧ Grow (nx + 1) b x g 1 A' (2 + t) (frT t)) k
      ⟨0, _, _, some ⟨nx + 1, 0, none⟩, by omega, by omega, by simp only [↓gaW, ↓gaV, ↓gaC, ↓gaN, gaP, Nat.reduceEqDiff, Nat.reduceLeDiff, Nat.reduceAdd, Nat.reduceSub, Nat.reduceMul, Int.reduceLT, Int.reduceLE, Int.reduceEq, Int.reduceToNat, Int.reduceAdd, Int.reduceSub, Int.reduceMul, reduceCtorEq, ↓reduceIte], by simp only [↓gaW, ↓gaV, ↓gaC, ↓gaN, gaP, Nat.reduceEqDiff, Nat.reduceLeDiff, Nat.reduceAdd, Nat.reduceSub, Nat.reduceMul, Int.reduceLT, Int.reduceLE, Int.reduceEq, Int.reduceToNat, Int.reduceAdd, Int.reduceSub, Int.reduceMul, reduceCtorEq, ↓reduceIte], by simp only [↓gaW, ↓gaV, ↓gaC, ↓gaN, gaP, Nat.reduceEqDiff, Nat.reduceLeDiff, Nat.reduceAdd, Nat.reduceSub, Nat.reduceMul, Int.reduceLT, Int.reduceLE, Int.reduceEq, Int.reduceToNat, Int.reduceAdd, Int.reduceSub, Int.reduceMul, reduceCtorEq, ↓reduceIte], rfl, by omega, fun p hp => by simp only [upd_e]; rw [if_neg (by omega), if_neg (by omega)], by simp only [upd_e, if_true]; rw [if_neg (by omega)], Grow.lit (q := nx + 1) (ro := false) (by omega) (by simp only [upd_e, if_true]; rfl) rfl⟩ ?_ ?_ (fun _ _ h => h.elim)
    · intro SS hJ _ j f m
      rintro ⟨t, x, g, A', rfl, ht, f1, f2, f6, rfl, hx, hF, hg, hgr⟩
      by_cases hlt : ((2 + t : Nat) : Int) < ((k + 2 : Nat) : Int)
      · have hrow2 : ∀ b, rowOf ⟨x + 1, b, upd g x (some (.cells [.int .u8 255] false))⟩ (some ⟨x, 0, none⟩) 1 = some [.int .u8 255] := fun b => by simp [rowOf, upd]
        simp only [↓gaW, ↓gaV, ↓gaC, ↓gaN, gaP, Nat.reduceEqDiff, Nat.reduceLeDiff, Nat.reduceAdd, Nat.reduceSub, Nat.reduceMul, Int.reduceLT, Int.reduceLE, Int.reduceEq, Int.reduceToNat, Int.reduceAdd, Int.reduceSub, Int.reduceMul, reduceCtorEq, ↓reduceIte, List.getD_cons_zero, fillL, spl1, f1, f2, f6, i1, i64_w ((k + 2 : Nat) : Int) (by omega), hlt, decide_true]
        repeat refine And.intro (by first | omega | (simp; done) | (simp; omega) | exact all1 rfl) ?_
        simp only [hrow2, asO_e]
        refine grow_append (nx := nx + 1) (k := 1) (hgr.keep (Nat.le_succ _) (fun p hp => by simp only [upd_e]; rw [if_neg (by omega)])) (by omega) (by omega) (by omega) (by omega) rfl (all1 rfl) (by omega) (by omega) fun g3 k3 ho3 => ?_
        simp only [↓gaW, ↓gaV, ↓gaC, ↓gaN, gaP, Nat.reduceEqDiff, Nat.reduceLeDiff, Nat.reduceAdd, Nat.reduceSub, Nat.reduceMul, Int.reduceLT, Int.reduceLE, Int.reduceEq, Int.reduceToNat, Int.reduceAdd, Int.reduceSub, Int.reduceMul, reduceCtorEq, ↓reduceIte, loopK_n]
        refine ⟨k - (t + 1), by omega, t + 1, x + 1 + 1, g3, some ⟨x + 1, 0, some 1⟩, rfl, by omega, f1, f2, rfl, rfl, by omega, fun p hp => by rw [k3 p (by omega)]; simp only [upd_e]; rw [if_neg (by omega), hF p hp], by rw [k3 nx (by omega)]; simp only [upd_e]; rw [if_neg (by omega), hg], .inl ?_⟩
        rw [frT_succ]
        exact ho3
      · have hte : t = k := by omega
        rw [hte] at f6 hgr hlt
        simp only [↓gaW, ↓gaV, ↓gaC, ↓gaN, gaP, Nat.reduceEqDiff, Nat.reduceLeDiff, Nat.reduceAdd, Nat.reduceSub, Nat.reduceMul, Int.reduceLT, Int.reduceLE, Int.reduceEq, Int.reduceToNat, Int.reduceAdd, Int.reduceSub, Int.reduceMul, reduceCtorEq, ↓reduceIte, f1, f2, f6, i1, i64_w ((k + 2 : Nat) : Int) (by omega), hlt, decide_false]
        repeat refine And.intro (by first | omega | (simp; done) | (simp; omega) | exact all1 rfl) ?_
        exact hJ _ _ ⟨x, g, A', by simp only [↓gaW, ↓gaV, ↓gaC, ↓gaN, gaP, Nat.reduceEqDiff, Nat.reduceLeDiff, Nat.reduceAdd, Nat.reduceSub, Nat.reduceMul, Int.reduceLT, Int.reduceLE, Int.reduceEq, Int.reduceToNat, Int.reduceAdd, Int.reduceSub, Int.reduceMul, reduceCtorEq, ↓reduceIte, f2], by simp only [↓gaW, ↓gaV, ↓gaC, ↓gaN, gaP, Nat.reduceEqDiff, Nat.reduceLeDiff, Nat.reduceAdd, Nat.reduceSub, Nat.reduceMul, Int.reduceLT, Int.reduceLE, Int.reduceEq, Int.reduceToNat, Int.reduceAdd, Int.reduceSub, Int.reduceMul, reduceCtorEq, ↓reduceIte, f6], rfl, hx, hF, hg, hgr⟩
    · intro f m hh
      generalize hX : D Try.prog _ AEx.normal f m = X
      obtain ⟨x, g, A', f2, f6, rfl, hx, hF, hg, hgr⟩ := hh
      have hrow : ∀ b, rowOf ⟨x + 1, b, upd g x (some (Blk.cells (ahL.map u8V) false))⟩ (some ⟨x, 0, none⟩) 20 = some (ahL.map u8V) := fun b => (row8 (ro := false) (w := ahL) (x := x + 1) (by omega) (by simp only [upd_e, if_true]) rfl).rowOf
      rw [← hX]
      clear hX
      simp only [↓gaW, ↓gaV, ↓gaC, ↓gaN, gaP, Nat.reduceEqDiff, Nat.reduceLeDiff, Nat.reduceAdd, Nat.reduceSub, Nat.reduceMul, Int.reduceLT, Int.reduceLE, Int.reduceEq, Int.reduceToNat, Int.reduceAdd, Int.reduceSub, Int.reduceMul, reduceCtorEq, ↓reduceIte, List.getD_cons_zero, List.getD_cons_succ, fillL, splice, List.take_zero, List.drop_zero, List.drop_succ_cons, List.take_succ_cons, List.drop_nil, List.take_nil, f6]
      refine (show asO (rowOf ⟨x + 1, b, upd g x (some (Blk.cells (ahL.map u8V) false))⟩ (some ⟨x, 0, none⟩) 20) _ from ?_)
      simp only [hrow, asO_e]
      refine grow_append (nx := nx + 1) (k := 20) (hgr.keep (Nat.le_succ _) (fun p hp => by simp only [upd_e]; rw [if_neg (by omega)])) (by omega) (by omega) (by omega) (by omega) rfl (all_u8 ahL) (by omega) (by omega) fun g3 k3 ho3 => ?_
      have hg3 : g3 nx = some (.cells (H.map u8V) false) := by rw [k3 nx (by omega)]; simp only [upd_e]; rw [if_neg (by omega), hg]
      have hrow2 : ∀ b, rowOf ⟨x + 1 + 1, b, g3⟩ (some ⟨nx, 0, none⟩) 32 = some (H.map u8V) := fun b => (row8 (ro := false) (x := x + 1 + 1) (by omega) hg3 hH).rowOf
      simp only [↓gaW, ↓gaV, ↓gaC, ↓gaN, gaP, Nat.reduceEqDiff, Nat.reduceLeDiff, Nat.reduceAdd, Nat.reduceSub, Nat.reduceMul, Int.reduceLT, Int.reduceLE, Int.reduceEq, Int.reduceToNat, Int.reduceAdd, Int.reduceSub, Int.reduceMul, reduceCtorEq, ↓reduceIte, f2, hrow2]
      refine grow_append (nx := nx + 1) (k := 32) (.inl ho3) (by omega) (by omega) (by omega) (by omega) (by simp [hH]) (all_u8 _) (by omega) (by omega) fun g4 k4 ho4 => ?_
      rw [frT_end] at ho4
      simp only [↓gaW, ↓gaV, ↓gaC, ↓gaN, gaP, Nat.reduceEqDiff, Nat.reduceLeDiff, Nat.reduceAdd, Nat.reduceSub, Nat.reduceMul, Int.reduceLT, Int.reduceLE, Int.reduceEq, Int.reduceToNat, Int.reduceAdd, Int.reduceSub, Int.reduceMul, reduceCtorEq, ↓reduceIte, gaE, implies_true, Nat.le_refl, Int.sub_zero, Nat.sub_zero, Int.le_refl, true_or, or_true]
      refine ⟨by omega, fun p hp => ?_, some ⟨x + 1 + 1, 0, some 1⟩, 2 + k + 20 + 32, 2 + k + 20 + 32, by rw [hf], by omega, ?_, ?_⟩
      · rw [k4 p (by omega), k3 p (by omega)]; simp only [upd_e]; rw [if_neg (by omega), hF p hp]
      · rw [hf]; simp [frL, ahL, hH]; omega
      · rw [hf]; simpa using (show Grow (nx + 1) b _ g4 1 _ _ _ from .inl ho4).row
  · have hf : (frameR H s) = ([], 1) := if_neg hs
    have hV : ∀ x g, FrameV H s (.tuple #[.slice none 0 0, .int .i64 1]) x g := fun x g => ⟨none, 0, 0, by rw [hf], by omega, by rw [hf]; rfl, by rw [hf]; exact Row.nil⟩
    by_cases d1 : s < 62
    · simp only [c_lanyardref09_Frame, ↓gaW, ↓gaV, ↓gaC, ↓gaN, gaP, Nat.reduceEqDiff, Nat.reduceLeDiff, Nat.reduceAdd, Nat.reduceSub, Nat.reduceMul, Int.reduceLT, Int.reduceLE, Int.reduceEq, Int.reduceToNat, Int.reduceAdd, Int.reduceSub, Int.reduceMul, reduceCtorEq, ↓reduceIte, gaE, implies_true, Nat.le_refl, Int.sub_zero, Nat.sub_zero, Int.le_refl, true_or, or_true, gaU, d1, decide_true]
      exact ⟨by omega, fun q hq => by rw [if_neg (by omega)], hV _ _⟩
    · have d2 : 512 < s := by omega
      simp only [c_lanyardref09_Frame, ↓gaW, ↓gaV, ↓gaC, ↓gaN, gaP, Nat.reduceEqDiff, Nat.reduceLeDiff, Nat.reduceAdd, Nat.reduceSub, Nat.reduceMul, Int.reduceLT, Int.reduceLE, Int.reduceEq, Int.reduceToNat, Int.reduceAdd, Int.reduceSub, Int.reduceMul, reduceCtorEq, ↓reduceIte, gaE, implies_true, Nat.le_refl, Int.sub_zero, Nat.sub_zero, Int.le_refl, true_or, or_true, gaU, d1, d2, decide_true, decide_false]
      exact ⟨by omega, fun q hq => by rw [if_neg (by omega)], hV _ _⟩
end
end Go.Ga

namespace Go.Ga
open Go Go.Proofs
set_option linter.unusedSimpArgs false
set_option linter.unusedVariables false
set_option maxRecDepth 100000
attribute [local irreducible] appendK endK endW

def rightB (N : List UInt8) (E : Nat) : Bool := decide (62 ≤ N.length ∧ N.length ≤ 512 ∧ (N.getD 0 0).toNat ≠ 0 ∧ (N.getD (N.length - 1) 0).toNat % 2 = 1 ∧ E % 2 = 1 ∧ 3 ≤ E)
def keyV (A : Option Addr) (n c E : Nat) : Value := .agg #[.slice A n c, .int .u32 (E : Nat)]

theorem and1_8 {x : Nat} (h : x < 256) : bitsV .and .u8 (x : Int) 1 = ((x % 2 : Nat) : Int) := by
  have := and_u8 (x := x) (y := 1) h (by omega)
  rw [Nat.and_one_is_mod] at this
  exact this
theorem and1_32 {x : Nat} (h : x < 4294967296) : bitsV .and .u32 (x : Int) 1 = ((x % 2 : Nat) : Int) := by
  have := and_u32 (x := x) (y := 1) h (by omega)
  rw [Nat.and_one_is_mod] at this
  exact this

section
variable {nx : Nat} {gt : Nat → Option Blk}

theorem ct_Right {A : Option Addr} {n c E : Nat} {N : List UInt8} (hA : Row nx gt 1 A n (N.map u8V)) (hE : E < 4294967296) (hn : n ≤ 100000) :
    Ct Try.prog 24 [keyV A n c E] nx gt fun v _ _ => v = .bool (rightB N E) := by
  have hN : N.length = n := by simpa using hA.len
  refine Ct.of hmx r_rsa_Right (by simp [c_rsa_Right]) fun b hb => ?_
  by_cases c1 : (62 : Int) ≤ (n : Int)
  · obtain ⟨a, ce, ro, rfl, p1, p2, p3, p4⟩ := hA.cells (by omega)
    have p0 := p4 0 (by omega)
    rw [getD_u8 (by omega), Nat.add_zero] at p0
    have pl := p4 (n - 1) (by omega)
    rw [getD_u8 (by omega)] at pl
    have na : ¬ a.block = nx := by omega
    obtain ⟨x0, h0⟩ : ∃ x, (N.getD 0 0).toNat = x := ⟨_, rfl⟩
    obtain ⟨xl, hl⟩ : ∃ x, (N.getD (n - 1) 0).toNat = x := ⟨_, rfl⟩
    have bl : xl < 256 := by rw [← hl]; exact UInt8.toNat_lt _
    rw [h0] at p0
    rw [hl] at pl
    have e1 : (n : Int) - 1 = ((n - 1 : Nat) : Int) := by omega
    have i1 := i64_w ((n - 1 : Nat) : Int) (by omega)
    have e2 : ((n - 1 : Nat) : Int).toNat = n - 1 := by omega
    have bx : bitsV .and .u8 (xl : Int) 1 = ((xl % 2 : Nat) : Int) := and1_8 bl
    have be : bitsV .and .u32 (E : Int) 1 = ((E % 2 : Nat) : Int) := and1_32 hE
    by_cases c2 : (n : Int) ≤ 512
    · skip
      by_cases c3 : ((x0 : Nat) : Int) = 0
      · skip
        simp only [c_rsa_Right, keyV, ↓gaW, ↓gaV, ↓gaC, ↓gaN, gaP, Nat.reduceEqDiff, Nat.reduceLeDiff, Nat.reduceAdd, Nat.reduceSub, Nat.reduceMul, Int.reduceLT, Int.reduceLE, Int.reduceEq, Int.reduceToNat, Int.reduceAdd, Int.reduceSub, Int.reduceMul, reduceCtorEq, ↓reduceIte, gaE, implies_true, Nat.le_refl, Int.sub_zero, Nat.sub_zero, Int.le_refl, true_or, or_true, List.getD_cons_zero, List.getD_cons_succ, List.length_cons, List.length_nil, gaU, c1, c2, c3, decide_true, decide_false, Bool.not_true, Bool.not_false, p2, p0, pl, if_neg na, e1, i1, e2, bx, be, Nat.mul_one]
        repeat refine And.intro (by omega) ?_
        refine ⟨fun q hq => by rw [if_neg (by omega)], ?_⟩
        rw [Eq.comm, Value.bool.injEq, rightB, hN, h0, hl]
        simp only [decide_eq_true_eq, decide_eq_false_iff_not]
        omega
      · skip
        by_cases c4 : ((xl % 2 : Nat) : Int) = 1
        · skip
          by_cases c5 : ((E % 2 : Nat) : Int) = 1
          · skip
            by_cases c6 : (3 : Int) ≤ (E : Int)
            · skip
              simp only [c_rsa_Right, keyV, ↓gaW, ↓gaV, ↓gaC, ↓gaN, gaP, Nat.reduceEqDiff, Nat.reduceLeDiff, Nat.reduceAdd, Nat.reduceSub, Nat.reduceMul, Int.reduceLT, Int.reduceLE, Int.reduceEq, Int.reduceToNat, Int.reduceAdd, Int.reduceSub, Int.reduceMul, reduceCtorEq, ↓reduceIte, gaE, implies_true, Nat.le_refl, Int.sub_zero, Nat.sub_zero, Int.le_refl, true_or, or_true, List.getD_cons_zero, List.getD_cons_succ, List.length_cons, List.length_nil, gaU, c1, c2, c3, c4, c5, c6, decide_true, decide_false, Bool.not_true, Bool.not_false, p2, p0, pl, if_neg na, e1, i1, e2, bx, be, Nat.mul_one]
              repeat refine And.intro (by omega) ?_
              refine ⟨fun q hq => by rw [if_neg (by omega)], ?_⟩
              rw [Eq.comm, Value.bool.injEq, rightB, hN, h0, hl]
              simp only [decide_eq_true_eq, decide_eq_false_iff_not]
              omega
            · skip
              simp only [c_rsa_Right, keyV, ↓gaW, ↓gaV, ↓gaC, ↓gaN, gaP, Nat.reduceEqDiff, Nat.reduceLeDiff, Nat.reduceAdd, Nat.reduceSub, Nat.reduceMul, Int.reduceLT, Int.reduceLE, Int.reduceEq, Int.reduceToNat, Int.reduceAdd, Int.reduceSub, Int.reduceMul, reduceCtorEq, ↓reduceIte, gaE, implies_true, Nat.le_refl, Int.sub_zero, Nat.sub_zero, Int.le_refl, true_or, or_true, List.getD_cons_zero, List.getD_cons_succ, List.length_cons, List.length_nil, gaU, c1, c2, c3, c4, c5, c6, decide_true, decide_false, Bool.not_true, Bool.not_false, p2, p0, pl, if_neg na, e1, i1, e2, bx, be, Nat.mul_one]
              repeat refine And.intro (by omega) ?_
              refine ⟨fun q hq => by rw [if_neg (by omega)], ?_⟩
              rw [Eq.comm, Value.bool.injEq, rightB, hN, h0, hl]
              simp only [decide_eq_true_eq, decide_eq_false_iff_not]
              omega
          · skip
            simp only [c_rsa_Right, keyV, ↓gaW, ↓gaV, ↓gaC, ↓gaN, gaP, Nat.reduceEqDiff, Nat.reduceLeDiff, Nat.reduceAdd, Nat.reduceSub, Nat.reduceMul, Int.reduceLT, Int.reduceLE, Int.reduceEq, Int.reduceToNat, Int.reduceAdd, Int.reduceSub, Int.reduceMul, reduceCtorEq, ↓reduceIte, gaE, implies_true, Nat.le_refl, Int.sub_zero, Nat.sub_zero, Int.le_refl, true_or, or_true, List.getD_cons_zero, List.getD_cons_succ, List.length_cons, List.length_nil, gaU, c1, c2, c3, c4, c5, decide_true, decide_false, Bool.not_true, Bool.not_false, p2, p0, pl, if_neg na, e1, i1, e2, bx, be, Nat.mul_one]
            repeat refine And.intro (by omega) ?_
            refine ⟨fun q hq => by rw [if_neg (by omega)], ?_⟩
            rw [Eq.comm, Value.bool.injEq, rightB, hN, h0, hl]
            simp only [decide_eq_true_eq, decide_eq_false_iff_not]
            omega
        · skip
          simp only [c_rsa_Right, keyV, ↓gaW, ↓gaV, ↓gaC, ↓gaN, gaP, Nat.reduceEqDiff, Nat.reduceLeDiff, Nat.reduceAdd, Nat.reduceSub, Nat.reduceMul, Int.reduceLT, Int.reduceLE, Int.reduceEq, Int.reduceToNat, Int.reduceAdd, Int.reduceSub, Int.reduceMul, reduceCtorEq, ↓reduceIte, gaE, implies_true, Nat.le_refl, Int.sub_zero, Nat.sub_zero, Int.le_refl, true_or, or_true, List.getD_cons_zero, List.getD_cons_succ, List.length_cons, List.length_nil, gaU, c1, c2, c3, c4, decide_true, decide_false, Bool.not_true, Bool.not_false, p2, p0, pl, if_neg na, e1, i1, e2, bx, be, Nat.mul_one]
          repeat refine And.intro (by omega) ?_
          refine ⟨fun q hq => by rw [if_neg (by omega)], ?_⟩
          rw [Eq.comm, Value.bool.injEq, rightB, hN, h0, hl]
          simp only [decide_eq_true_eq, decide_eq_false_iff_not]
          omega
    · skip
      simp only [c_rsa_Right, keyV, ↓gaW, ↓gaV, ↓gaC, ↓gaN, gaP, Nat.reduceEqDiff, Nat.reduceLeDiff, Nat.reduceAdd, Nat.reduceSub, Nat.reduceMul, Int.reduceLT, Int.reduceLE, Int.reduceEq, Int.reduceToNat, Int.reduceAdd, Int.reduceSub, Int.reduceMul, reduceCtorEq, ↓reduceIte, gaE, implies_true, Nat.le_refl, Int.sub_zero, Nat.sub_zero, Int.le_refl, true_or, or_true, List.getD_cons_zero, List.getD_cons_succ, List.length_cons, List.length_nil, gaU, c1, c2, decide_true, decide_false, Bool.not_true, Bool.not_false, p2, p0, pl, if_neg na, e1, i1, e2, bx, be, Nat.mul_one]
      repeat refine And.intro (by omega) ?_
      refine ⟨fun q hq => by rw [if_neg (by omega)], ?_⟩
      rw [Eq.comm, Value.bool.injEq, rightB, hN, h0, hl]
      simp only [decide_eq_true_eq, decide_eq_false_iff_not]
      omega
  · have c1' : ¬ 62 ≤ n := by omega
    simp only [c_rsa_Right, keyV, ↓gaW, ↓gaV, ↓gaC, ↓gaN, gaP, Nat.reduceEqDiff, Nat.reduceLeDiff, Nat.reduceAdd, Nat.reduceSub, Nat.reduceMul, Int.reduceLT, Int.reduceLE, Int.reduceEq, Int.reduceToNat, Int.reduceAdd, Int.reduceSub, Int.reduceMul, reduceCtorEq, ↓reduceIte, gaE, implies_true, Nat.le_refl, Int.sub_zero, Nat.sub_zero, Int.le_refl, true_or, or_true, List.getD_cons_zero, gaU, c1, decide_false]
    repeat refine And.intro (by omega) ?_
    refine ⟨fun q hq => by rw [if_neg (by omega)], ?_⟩
    rw [Eq.comm, Value.bool.injEq, rightB, hN]
    exact decide_eq_false fun h => c1' h.1

theorem ct_rRight {A : Option Addr} {n c E : Nat} {N : List UInt8} (hA : Row nx gt 1 A n (N.map u8V)) (hE : E < 4294967296) (hn : n ≤ 100000) :
    Ct Try.prog 25 [keyV A n c E] nx gt fun v _ _ => v = .bool (rightB N E) := by
  have hN : N.length = n := by simpa using hA.len
  refine Ct.of hmx r_lanyardref09_Right (by simp [c_lanyardref09_Right]) fun b hb => ?_
  by_cases c1 : (62 : Int) ≤ (n : Int)
  · obtain ⟨a, ce, ro, rfl, p1, p2, p3, p4⟩ := hA.cells (by omega)
    have p0 := p4 0 (by omega)
    rw [getD_u8 (by omega), Nat.add_zero] at p0
    have pl := p4 (n - 1) (by omega)
    rw [getD_u8 (by omega)] at pl
    have na : ¬ a.block = nx := by omega
    obtain ⟨x0, h0⟩ : ∃ x, (N.getD 0 0).toNat = x := ⟨_, rfl⟩
    obtain ⟨xl, hl⟩ : ∃ x, (N.getD (n - 1) 0).toNat = x := ⟨_, rfl⟩
    have bl : xl < 256 := by rw [← hl]; exact UInt8.toNat_lt _
    rw [h0] at p0
    rw [hl] at pl
    have e1 : (n : Int) - 1 = ((n - 1 : Nat) : Int) := by omega
    have i1 := i64_w ((n - 1 : Nat) : Int) (by omega)
    have e2 : ((n - 1 : Nat) : Int).toNat = n - 1 := by omega
    have bx : ((xl : Nat) : Int).tmod 2 = ((xl % 2 : Nat) : Int) := by rw [Int.tmod_eq_emod_of_nonneg (by omega)]; omega
    have be : ((E : Nat) : Int).tmod 2 = ((E % 2 : Nat) : Int) := by rw [Int.tmod_eq_emod_of_nonneg (by omega)]; omega
    by_cases c2 : (n : Int) ≤ 512
    · skip
      by_cases c3 : ((x0 : Nat) : Int) = 0
      · skip
        simp only [c_lanyardref09_Right, keyV, ↓gaW, ↓gaV, ↓gaC, ↓gaN, gaP, Nat.reduceEqDiff, Nat.reduceLeDiff, Nat.reduceAdd, Nat.reduceSub, Nat.reduceMul, Int.reduceLT, Int.reduceLE, Int.reduceEq, Int.reduceToNat, Int.reduceAdd, Int.reduceSub, Int.reduceMul, reduceCtorEq, ↓reduceIte, gaE, implies_true, Nat.le_refl, Int.sub_zero, Nat.sub_zero, Int.le_refl, true_or, or_true, List.getD_cons_zero, List.getD_cons_succ, List.length_cons, List.length_nil, gaU, c1, c2, c3, decide_true, decide_false, Bool.not_true, Bool.not_false, p2, p0, pl, if_neg na, e1, i1, e2, bx, be, Nat.mul_one]
        repeat refine And.intro (by omega) ?_
        refine ⟨fun q hq => by rw [if_neg (by omega)], ?_⟩
        rw [Eq.comm, Value.bool.injEq, rightB, hN, h0, hl]
        simp only [decide_eq_true_eq, decide_eq_false_iff_not]
        omega
      · skip
        by_cases c4 : ((xl % 2 : Nat) : Int) = 1
        · skip
          by_cases c5 : ((E % 2 : Nat) : Int) = 1
          · skip
            by_cases c6 : (3 : Int) ≤ (E : Int)
            · skip
              simp only [c_lanyardref09_Right, keyV, ↓gaW, ↓gaV, ↓gaC, ↓gaN, gaP, Nat.reduceEqDiff, Nat.reduceLeDiff, Nat.reduceAdd, Nat.reduceSub, Nat.reduceMul, Int.reduceLT, Int.reduceLE, Int.reduceEq, Int.reduceToNat, Int.reduceAdd, Int.reduceSub, Int.reduceMul, reduceCtorEq, ↓reduceIte, gaE, implies_true, Nat.le_refl, Int.sub_zero, Nat.sub_zero, Int.le_refl, true_or, or_true, List.getD_cons_zero, List.getD_cons_succ, List.length_cons, List.length_nil, gaU, c1, c2, c3, c4, c5, c6, decide_true, decide_false, Bool.not_true, Bool.not_false, p2, p0, pl, if_neg na, e1, i1, e2, bx, be, Nat.mul_one]
              repeat refine And.intro (by omega) ?_
              refine ⟨fun q hq => by rw [if_neg (by omega)], ?_⟩
              rw [Eq.comm, Value.bool.injEq, rightB, hN, h0, hl]
              simp only [decide_eq_true_eq, decide_eq_false_iff_not]
              omega
            · skip
              simp only [c_lanyardref09_Right, keyV, ↓gaW, ↓gaV, ↓gaC, ↓gaN, gaP, Nat.reduceEqDiff, Nat.reduceLeDiff, Nat.reduceAdd, Nat.reduceSub, Nat.reduceMul, Int.reduceLT, Int.reduceLE, Int.reduceEq, Int.reduceToNat, Int.reduceAdd, Int.reduceSub, Int.reduceMul, reduceCtorEq, ↓reduceIte, gaE, implies_true, Nat.le_refl, Int.sub_zero, Nat.sub_zero, Int.le_refl, true_or, or_true, List.getD_cons_zero, List.getD_cons_succ, List.length_cons, List.length_nil, gaU, c1, c2, c3, c4, c5, c6, decide_true, decide_false, Bool.not_true, Bool.not_false, p2, p0, pl, if_neg na, e1, i1, e2, bx, be, Nat.mul_one]
              repeat refine And.intro (by omega) ?_
              refine ⟨fun q hq => by rw [if_neg (by omega)], ?_⟩
              rw [Eq.comm, Value.bool.injEq, rightB, hN, h0, hl]
              simp only [decide_eq_true_eq, decide_eq_false_iff_not]
              omega
          · skip
            simp only [c_lanyardref09_Right, keyV, ↓gaW, ↓gaV, ↓gaC, ↓gaN, gaP, Nat.reduceEqDiff, Nat.reduceLeDiff, Nat.reduceAdd, Nat.reduceSub, Nat.reduceMul, Int.reduceLT, Int.reduceLE, Int.reduceEq, Int.reduceToNat, Int.reduceAdd, Int.reduceSub, Int.reduceMul, reduceCtorEq, ↓reduceIte, gaE, implies_true, Nat.le_refl, Int.sub_zero, Nat.sub_zero, Int.le_refl, true_or, or_true, List.getD_cons_zero, List.getD_cons_succ, List.length_cons, List.length_nil, gaU, c1, c2, c3, c4, c5, decide_true, decide_false, Bool.not_true, Bool.not_false, p2, p0, pl, if_neg na, e1, i1, e2, bx, be, Nat.mul_one]
            repeat refine And.intro (by omega) ?_
            refine ⟨fun q hq => by rw [if_neg (by omega)], ?_⟩
            rw [Eq.comm, Value.bool.injEq, rightB, hN, h0, hl]
            simp only [decide_eq_true_eq, decide_eq_false_iff_not]
            omega
        · skip
          simp only [c_lanyardref09_Right, keyV, ↓gaW, ↓gaV, ↓gaC, ↓gaN, gaP, Nat.reduceEqDiff, Nat.reduceLeDiff, Nat.reduceAdd, Nat.reduceSub, Nat.reduceMul, Int.reduceLT, Int.reduceLE, Int.reduceEq, Int.reduceToNat, Int.reduceAdd, Int.reduceSub, Int.reduceMul, reduceCtorEq, ↓reduceIte, gaE, implies_true, Nat.le_refl, Int.sub_zero, Nat.sub_zero, Int.le_refl, true_or, or_true, List.getD_cons_zero, List.getD_cons_succ, List.length_cons, List.length_nil, gaU, c1, c2, c3, c4, decide_true, decide_false, Bool.not_true, Bool.not_false, p2, p0, pl, if_neg na, e1, i1, e2, bx, be, Nat.mul_one]
          repeat refine And.intro (by omega) ?_
          refine ⟨fun q hq => by rw [if_neg (by omega)], ?_⟩
          rw [Eq.comm, Value.bool.injEq, rightB, hN, h0, hl]
          simp only [decide_eq_true_eq, decide_eq_false_iff_not]
          omega
    · skip
      simp only [c_lanyardref09_Right, keyV, ↓gaW, ↓gaV, ↓gaC, ↓gaN, gaP, Nat.reduceEqDiff, Nat.reduceLeDiff, Nat.reduceAdd, Nat.reduceSub, Nat.reduceMul, Int.reduceLT, Int.reduceLE, Int.reduceEq, Int.reduceToNat, Int.reduceAdd, Int.reduceSub, Int.reduceMul, reduceCtorEq, ↓reduceIte, gaE, implies_true, Nat.le_refl, Int.sub_zero, Nat.sub_zero, Int.le_refl, true_or, or_true, List.getD_cons_zero, List.getD_cons_succ, List.length_cons, List.length_nil, gaU, c1, c2, decide_true, decide_false, Bool.not_true, Bool.not_false, p2, p0, pl, if_neg na, e1, i1, e2, bx, be, Nat.mul_one]
      repeat refine And.intro (by omega) ?_
      refine ⟨fun q hq => by rw [if_neg (by omega)], ?_⟩
      rw [Eq.comm, Value.bool.injEq, rightB, hN, h0, hl]
      simp only [decide_eq_true_eq, decide_eq_false_iff_not]
      omega
  · have c1' : ¬ 62 ≤ n := by omega
    simp only [c_lanyardref09_Right, keyV, ↓gaW, ↓gaV, ↓gaC, ↓gaN, gaP, Nat.reduceEqDiff, Nat.reduceLeDiff, Nat.reduceAdd, Nat.reduceSub, Nat.reduceMul, Int.reduceLT, Int.reduceLE, Int.reduceEq, Int.reduceToNat, Int.reduceAdd, Int.reduceSub, Int.reduceMul, reduceCtorEq, ↓reduceIte, gaE, implies_true, Nat.le_refl, Int.sub_zero, Nat.sub_zero, Int.le_refl, true_or, or_true, List.getD_cons_zero, gaU, c1, decide_false]
    repeat refine And.intro (by omega) ?_
    refine ⟨fun q hq => by rw [if_neg (by omega)], ?_⟩
    rw [Eq.comm, Value.bool.injEq, rightB, hN]
    exact decide_eq_false fun h => c1' h.1
end
end Go.Ga

namespace Go.Ga
open Go Go.Proofs
set_option linter.unusedSimpArgs false
set_option linter.unusedVariables false
set_option maxRecDepth 100000
attribute [local irreducible] appendK endK endW

section
variable {nx : Nat} {gt : Nat → Option Blk}

theorem ct_Light {A : Option Addr} {n c E : Nat} : Ct Try.prog 21 [keyV A n c E] nx gt fun v _ _ => v = .bool (decide ((n : Int) ≤ 140)) := by
  refine Ct.of hmx r_lanyardref09_LightKey (by simp [c_lanyardref09_LightKey]) fun b hb => ?_
  simp only [c_lanyardref09_LightKey, keyV, ↓gaW, ↓gaV, ↓gaC, ↓gaN, gaP, Nat.reduceEqDiff, Nat.reduceLeDiff, Nat.reduceAdd, Nat.reduceSub, Nat.reduceMul, Int.reduceLT, Int.reduceLE, Int.reduceEq, Int.reduceToNat, Int.reduceAdd, Int.reduceSub, Int.reduceMul, reduceCtorEq, ↓reduceIte, gaE, implies_true, Nat.le_refl, Int.sub_zero, Nat.sub_zero, Int.le_refl, true_or, or_true, List.getD_cons_zero, gaU]
  repeat refine And.intro (by omega) ?_
  exact fun q hq => by rw [if_neg (by omega)]

def h7 : List UInt8 := [7, 0, 0, 0, 0, 0, 0, 0, 0, 0, 0, 0, 0, 0, 0, 0, 0, 0, 0, 0, 0, 0, 0, 0, 0, 0, 0, 0, 0, 0, 0, 0]

theorem ct_awake09 : Ct Try.prog 20 [] nx gt fun v _ _ => v = .bool true := by
  refine Ct.of hmx r_lanyardlaw09_awake (by simp [c_lanyardlaw09_awake]) fun b hb => ?_
  have hF : ∀ q, q < nx → gt q = gt q := fun _ _ => rfl
  simp only [c_lanyardlaw09_awake, ↓gaW, ↓gaV, ↓gaC, ↓gaN, gaP, Nat.reduceEqDiff, Nat.reduceLeDiff, Nat.reduceAdd, Nat.reduceSub, Nat.reduceMul, Int.reduceLT, Int.reduceLE, Int.reduceEq, Int.reduceToNat, Int.reduceAdd, Int.reduceSub, Int.reduceMul, reduceCtorEq, ↓reduceIte, List.getD_cons_zero, List.getD_cons_succ, fillL, splice, List.take_zero, List.drop_zero, List.drop_succ_cons, List.take_succ_cons, List.drop_nil, List.take_nil]
  refine (show callK Try.prog 22 [.agg (h7.map u8V).toArray, .int .i64 62] _ _ _ _ _ from ?_)
  refine callK_of (ct_Frame (H := h7) (s := 62) rfl) (fun v x1 g1 l1 k1 hC => ?_) (by omega)
  obtain ⟨A, n, c, rfl, hc, hn, hr⟩ := hC
  have e0 : frameR h7 62 = (frL h7 62, 0) := if_pos (by omega)
  rw [e0] at hn hr
  have hn : n = 62 := hn
  subst hn
  obtain ⟨a, ce, ro, rfl, p1, p2, p3, p4⟩ := hr.cells (by omega)
  have v1 : ce.getD (a.off + 1) undef = .int .u8 1 := p4 1 (by omega)
  have v9 : ce.getD (a.off + 9) undef = .int .u8 255 := p4 9 (by omega)
  have v10 : ce.getD (a.off + 10) undef = .int .u8 0 := p4 10 (by omega)
  have v11 : ce.getD (a.off + 11) undef = .int .u8 48 := p4 11 (by omega)
  have v30 : ce.getD (a.off + 30) undef = .int .u8 7 := p4 30 (by omega)
  simp only [↓gaW, ↓gaV, ↓gaC, ↓gaN, gaP, Nat.reduceEqDiff, Nat.reduceLeDiff, Nat.reduceAdd, Nat.reduceSub, Nat.reduceMul, Int.reduceLT, Int.reduceLE, Int.reduceEq, Int.reduceToNat, Int.reduceAdd, Int.reduceSub, Int.reduceMul, reduceCtorEq, ↓reduceIte, gaE, implies_true, Nat.le_refl, Int.sub_zero, Nat.sub_zero, Int.le_refl, true_or, or_true, e0, p2, v1, v9, v10, v11, v30, decide_true, Nat.mul_one]
  exact ⟨by omega, by omega, by omega, by omega, by omega, by omega, by omega, by omega, k1⟩

theorem fn_Frames {A : Option Addr} {n c E : Nat} {H N : List UInt8} {s : Int} (hH : H.length = 32) (hs : -9223372036854775808 ≤ s ∧ s ≤ 9223372036854775807) (hA : Row nx gt 1 A n (N.map u8V)) (hc : n ≤ c) (hE : E < 4294967296) :
    Ct Try.prog 6 [.agg (H.map u8V).toArray, .int .i64 s, keyV A n c E] nx gt fun v _ _ => v = .bool true := by
  refine Ct.of hmx r_lanyardlaw09_RsaFrames (by simp [c_lanyardlaw09_RsaFrames]) fun b hb => ?_
  have hF : ∀ q, q < nx → gt q = gt q := fun _ _ => rfl
  simp only [c_lanyardlaw09_RsaFrames, keyV, ↓gaW, ↓gaV, ↓gaC, ↓gaN, gaP, Nat.reduceEqDiff, Nat.reduceLeDiff, Nat.reduceAdd, Nat.reduceSub, Nat.reduceMul, Int.reduceLT, Int.reduceLE, Int.reduceEq, Int.reduceToNat, Int.reduceAdd, Int.reduceSub, Int.reduceMul, reduceCtorEq, ↓reduceIte]
  have hHl : (H.map u8V).length = 32 := by simp [hH]
  have htk : List.take 32 (H.map u8V) = H.map u8V := List.take_of_length_le (by omega)
  refine callK_of ct_awake09 (fun v x1 g1 l1 k1 hC => ?_) (by omega)
  subst hC
  have a1 : g1 nx = some (.cells (H.map u8V) false) := by rw [k1 nx (by omega)]; simp only [upd_e, if_true]; rw [if_neg (by omega)]
  have b1 : g1 (nx + 1) = some (.cells [.slice A n c, .int .u32 (E : Nat)] false) := by rw [k1 _ (by omega)]; simp only [upd_e, if_true]
  have F1 : ∀ p, p < nx → g1 p = gt p := fun p hp => by rw [k1 p (by omega)]; simp only [upd_e]; rw [if_neg (by omega), if_neg (by omega)]
  have hA1 : Row x1 g1 1 A n (N.map u8V) := hA.keep (by omega) F1
  clear k1
  simp only [↓gaW, ↓gaV, ↓gaC, ↓gaN, gaP, Nat.reduceEqDiff, Nat.reduceLeDiff, Nat.reduceAdd, Nat.reduceSub, Nat.reduceMul, Int.reduceLT, Int.reduceLE, Int.reduceEq, Int.reduceToNat, Int.reduceAdd, Int.reduceSub, Int.reduceMul, reduceCtorEq, ↓reduceIte, gaU, b1, List.drop_zero, List.take_succ_cons, List.take_zero, List.length_cons, List.length_nil]
  refine callK_of (ct_Light (A := A) (n := n) (c := c) (E := E)) (fun v x2 g2 l2 k2 hC => ?_) (by omega)
  subst hC
  by_cases hn : (n : Int) ≤ 140
  · have a2 : g2 nx = some (.cells (H.map u8V) false) := by rw [k2 nx (by omega), a1]
    have b2 : g2 (nx + 1) = some (.cells [.slice A n c, .int .u32 (E : Nat)] false) := by rw [k2 _ (by omega), b1]
    have F2 : ∀ p, p < nx → g2 p = gt p := fun p hp => by rw [k2 p (by omega), F1 p hp]
    have hA2 : Row x2 g2 1 A n (N.map u8V) := hA1.keep (by omega) k2
    simp only [↓gaW, ↓gaV, ↓gaC, ↓gaN, gaP, Nat.reduceEqDiff, Nat.reduceLeDiff, Nat.reduceAdd, Nat.reduceSub, Nat.reduceMul, Int.reduceLT, Int.reduceLE, Int.reduceEq, Int.reduceToNat, Int.reduceAdd, Int.reduceSub, Int.reduceMul, reduceCtorEq, ↓reduceIte, gaU, hn, decide_true, Bool.not_true, a2, hHl, htk, List.drop_zero]
    refine callK_of (ct_Frame (s := s) hH) (fun v x3 g3 l3 k3 hC => ?_) (by omega)
    obtain ⟨B, nb, cb, rfl, hcb, hnb, hrb⟩ := hC
    have a3 : g3 nx = some (.cells (H.map u8V) false) := by rw [k3 nx (by omega), a2]
    have b3 : g3 (nx + 1) = some (.cells [.slice A n c, .int .u32 (E : Nat)] false) := by rw [k3 _ (by omega), b2]
    have F3 : ∀ p, p < nx → g3 p = gt p := fun p hp => by rw [k3 p (by omega), F2 p hp]
    have hA3 : Row x3 g3 1 A n (N.map u8V) := hA2.keep (by omega) k3
    simp only [↓gaW, ↓gaV, ↓gaC, ↓gaN, gaP, Nat.reduceEqDiff, Nat.reduceLeDiff, Nat.reduceAdd, Nat.reduceSub, Nat.reduceMul, Int.reduceLT, Int.reduceLE, Int.reduceEq, Int.reduceToNat, Int.reduceAdd, Int.reduceSub, Int.reduceMul, reduceCtorEq, ↓reduceIte, gaU, a3, hHl, htk, List.drop_zero]
    refine And.intro (by omega) (And.intro (by omega) ?_)
    refine callK_of (ct_rFrame (s := s) hH) (fun v x4 g4 l4 k4 hC => ?_) (by omega)
    obtain ⟨D4, nd, cd, rfl, hcd, hnd, hrd⟩ := hC
    have b4 : g4 (nx + 1) = some (.cells [.slice A n c, .int .u32 (E : Nat)] false) := by rw [k4 _ (by omega), b3]
    have F4 : ∀ p, p < nx → g4 p = gt p := fun p hp => by rw [k4 p (by omega), F3 p hp]
    have hA4 : Row x4 g4 1 A n (N.map u8V) := hA3.keep (by omega) k4
    have hrb4 := hrb.keep (by omega) k4
    have rb : ∀ b, rowOf ⟨x4, b, g4⟩ B nb = some _ := fun b => hrb4.rowOf
    have rd : ∀ b, rowOf ⟨x4, b, g4⟩ D4 nd = some _ := fun b => hrd.rowOf
    simp only [↓gaW, ↓gaV, ↓gaC, ↓gaN, gaP, Nat.reduceEqDiff, Nat.reduceLeDiff, Nat.reduceAdd, Nat.reduceSub, Nat.reduceMul, Int.reduceLT, Int.reduceLE, Int.reduceEq, Int.reduceToNat, Int.reduceAdd, Int.reduceSub, Int.reduceMul, reduceCtorEq, ↓reduceIte, gaU, rb, rd, b4, List.drop_zero, List.take_succ_cons, List.take_zero, List.length_cons, List.length_nil, beq_self_eq_true, bytesOf_map, decide_true]
    refine And.intro (by omega) (And.intro (by omega) ?_)
    refine callQ_of (ct_Right (E := E) (c := c) hA4 hE (by omega)) (fun v x5 g5 l5 k5 hC => ?_)
    subst hC
    have b5 : g5 (nx + 1) = some (.cells [.slice A n c, .int .u32 (E : Nat)] false) := by rw [k5 _ (by omega), b4]
    have F5 : ∀ p, p < nx → g5 p = gt p := fun p hp => by rw [k5 p (by omega), F4 p hp]
    have hA5 : Row x5 g5 1 A n (N.map u8V) := hA4.keep (by omega) k5
    simp only [↓gaW, ↓gaV, ↓gaC, ↓gaN, gaP, Nat.reduceEqDiff, Nat.reduceLeDiff, Nat.reduceAdd, Nat.reduceSub, Nat.reduceMul, Int.reduceLT, Int.reduceLE, Int.reduceEq, Int.reduceToNat, Int.reduceAdd, Int.reduceSub, Int.reduceMul, reduceCtorEq, ↓reduceIte, gaU, b5, List.drop_zero, List.take_succ_cons, List.take_zero, List.length_cons, List.length_nil, beq_self_eq_true, bytesOf_map]
    refine callK_of (ct_rRight (E := E) (c := c) hA5 hE (by omega)) (fun v x6 g6 l6 k6 hC => ?_) (by omega)
    subst hC
    simp only [↓gaW, ↓gaV, ↓gaC, ↓gaN, gaP, Nat.reduceEqDiff, Nat.reduceLeDiff, Nat.reduceAdd, Nat.reduceSub, Nat.reduceMul, Int.reduceLT, Int.reduceLE, Int.reduceEq, Int.reduceToNat, Int.reduceAdd, Int.reduceSub, Int.reduceMul, reduceCtorEq, ↓reduceIte, gaE, implies_true, Nat.le_refl, Int.sub_zero, Nat.sub_zero, Int.le_refl, true_or, or_true, beq_self_eq_true]
    exact ⟨by omega, fun q hq => by rw [k6 q (by omega), F5 q hq]⟩
  · simp only [↓gaW, ↓gaV, ↓gaC, ↓gaN, gaP, Nat.reduceEqDiff, Nat.reduceLeDiff, Nat.reduceAdd, Nat.reduceSub, Nat.reduceMul, Int.reduceLT, Int.reduceLE, Int.reduceEq, Int.reduceToNat, Int.reduceAdd, Int.reduceSub, Int.reduceMul, reduceCtorEq, ↓reduceIte, gaE, implies_true, Nat.le_refl, Int.sub_zero, Nat.sub_zero, Int.le_refl, true_or, or_true, hn, decide_false, Bool.not_false]
    exact ⟨by omega, fun q hq => by rw [k2 q (by omega), F1 q hq]⟩
end
end Go.Ga

/- A key and a hash that a law is given. -/
namespace Go.Ga
open Go

section
variable {H : Type} {enc : TypeId × Value → H} {P : Program} {w : World} {held : Bool} {t : TypeId}

theorem open_hash {m : Nat} {e : TypeId} (ht : P.underlying t = some (.array m e)) (he : P.underlying e = some (.int .u8)) (hc : P.cellsOf e = 1) (hct : P.cellsOf t = m) {r : Reach} {b0 : Nat} {v : Value} {d : DataW H} {ps : List MemPlace} (hval : Value.okWide P w r b0 t v) (hd : DataW.Trod enc P w 0 (fun _ => true) held t v d ps) :
    ∃ l : List UInt8, absV w v = .agg (l.map u8V).toArray ∧ l.length = m := by
  obtain ⟨zs, rfl, hl, hw, _, _⟩ := open_arrI (k := .u8) ht he hc hct hval hd
  refine ⟨zs.map fun z => UInt8.ofNat z.toNat, ?_, by simp [hl]⟩
  rw [absV_arr, List.map_map]
  congr 2
  refine List.map_congr_left fun z hz => ?_
  obtain ⟨b1, b2⟩ := wf_u8 (hw z hz)
  simp only [Function.comp, u8V]
  rw [UInt8.toNat_ofNat']
  congr 1
  omega

/-- A structure of bytes and a word. -/
theorem open_key {fs : Array Field} {t0 t1 e : TypeId} (ht : P.underlying t = some (.struct fs)) (ht0 : P.underlying t0 = some (.slice e)) (he : P.underlying e = some (.int .u8)) (ht1 : P.underlying t1 = some (.int .u32)) (h0 : (fs[0]?).map (fun f => (f.type, f.offset)) = some (t0, 0)) (h1 : (fs[1]?).map (fun f => (f.type, f.offset)) = some (t1, 1))
    (hc : P.cellsOf e = 1) (hc0 : P.cellsOf t0 = 1) (hc1 : P.cellsOf t1 = 1) (hct : P.cellsOf t = 2)
    {r : Reach} {b0 : Nat} {v : Value} {d : DataW H} {ps : List MemPlace} (hval : Value.okWide P w r b0 t v) (hd : DataW.Trod enc P w 0 (fun _ => true) held t v d ps) :
    ∃ (A : Option Addr) (n c : Nat) (l : List UInt8) (E : Nat), absV w v = .agg #[.slice A n c, .int .u32 (E : Nat)] ∧ Row w.heap.size (m0 w).get 1 A n (l.map u8V) ∧ n ≤ c ∧ E < 4294967296 := by
  simp only [Value.okWide, ht] at hval
  obtain ⟨cs, rfl, hcs, _⟩ := hval
  obtain ⟨fuel, hf⟩ := hd
  obtain ⟨n, rfl, hl, h⟩ := Shp.struct ht ⟨_, hf⟩
  simp only [Option.map_eq_some_iff] at h0 h1
  obtain ⟨f0, e0, e0'⟩ := h0
  obtain ⟨f1, e1, e1'⟩ := h1
  injection e0' with a0 b0
  injection e1' with a1 b1
  have g0 := h 0 f0 e0
  have g1 := h 1 f1 e1
  simp only [Value.cells] at hl g0 g1
  rw [hct] at hl
  rw [a0, b0, hc0, take_one (by omega)] at g0
  rw [a1, b1, hc1, take_one (by omega)] at g1
  obtain ⟨_, A, n, c, l, q0, q1, q2, q3⟩ := g0.bytes ht0 he hc
  obtain ⟨z, z1, z2⟩ := g1.int ht1
  obtain ⟨b1, b2⟩ := wf_u32 z2
  injection q0 with q0
  injection z1 with z1
  refine ⟨A, n, c, l, z.toNat, ?_, q3, q2, by omega⟩
  have hcs2 : cs = #[cs.toList[0], cs.toList[1]] := by
    apply Array.ext'
    exact list_two hl (take_one (by omega)) (take_one (by omega))
  have hz : (z.toNat : Int) = z := by omega
  have i1 : absC w (.int .u32 z) = .int .u32 z := by simp [absC, goodV]
  rw [q0, z1] at hcs2
  rw [hcs2]
  simp [absV, q1, i1, hz]
end
end Go.Ga
