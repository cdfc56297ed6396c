/- Whole numbers of the walk: what the bit operations come to. -/
import Derived.Test.YtndikkpmlofebaaGaStep
import Derived.IntWalk
import Derived.Laws.Bits64
namespace Go.Ga
open Go

theorem u64_w (n : Int) : IntKind.u64.wrap n = n % 18446744073709551616 := IntKind.wrap_u64 n
theorem u32_w (n : Int) : IntKind.u32.wrap n = n % 4294967296 := IntKind.wrap_u32 n
theorem u8_w (n : Int) : IntKind.u8.wrap n = n % 256 := IntKind.wrap_u8 n
theorem i64_w (n : Int) (h : -9223372036854775808 ≤ n ∧ n ≤ 9223372036854775807) : IntKind.i64.wrap n = n := Go.IntWalk.i64_in n h
theorem u64_i (n : Int) (h : 0 ≤ n ∧ n ≤ 18446744073709551615) : IntKind.u64.wrap n = n := by rw [u64_w]; omega
theorem u8_i (n : Int) (h : 0 ≤ n ∧ n ≤ 255) : IntKind.u8.wrap n = n := by rw [u8_w]; omega
theorem u32_i (n : Int) (h : 0 ≤ n ∧ n ≤ 4294967295) : IntKind.u32.wrap n = n := by rw [u32_w]; omega

theorem or_u64 {x y : Nat} (hx : x < 18446744073709551616) (hy : y < 18446744073709551616) : bitsV .or .u64 (x : Int) (y : Int) = ((x ||| y : Nat) : Int) := by
  have h : x ||| y < 2 ^ 64 := Nat.or_lt_two_pow hx hy
  show IntKind.u64.wrap ((BitVec.ofInt 64 (x : Int) ||| BitVec.ofInt 64 (y : Int)).toNat : Int) = _
  simp only [BitVec.ofInt_natCast, BitVec.toNat_or, BitVec.toNat_ofNat]
  rw [Nat.mod_eq_of_lt (by omega), Nat.mod_eq_of_lt (by omega), u64_w]
  omega
theorem and_u64 {x y : Nat} (hx : x < 18446744073709551616) (hy : y < 18446744073709551616) : bitsV .and .u64 (x : Int) (y : Int) = ((x &&& y : Nat) : Int) := by
  have h : x &&& y < 2 ^ 64 := Nat.and_lt_two_pow _ hy
  show IntKind.u64.wrap ((BitVec.ofInt 64 (x : Int) &&& BitVec.ofInt 64 (y : Int)).toNat : Int) = _
  simp only [BitVec.ofInt_natCast, BitVec.toNat_and, BitVec.toNat_ofNat]
  rw [Nat.mod_eq_of_lt (by omega), Nat.mod_eq_of_lt (by omega), u64_w]
  omega
theorem and_u8 {x y : Nat} (hx : x < 256) (hy : y < 256) : bitsV .and .u8 (x : Int) (y : Int) = ((x &&& y : Nat) : Int) := by
  have h : x &&& y < 2 ^ 8 := Nat.and_lt_two_pow _ hy
  show IntKind.u8.wrap ((BitVec.ofInt 8 (x : Int) &&& BitVec.ofInt 8 (y : Int)).toNat : Int) = _
  simp only [BitVec.ofInt_natCast, BitVec.toNat_and, BitVec.toNat_ofNat]
  rw [Nat.mod_eq_of_lt (by omega), Nat.mod_eq_of_lt (by omega), u8_w]
  omega
theorem or_i64 {x y : Nat} (hx : x < 9223372036854775808) (hy : y < 9223372036854775808) : bitsV .or .i64 (x : Int) (y : Int) = ((x ||| y : Nat) : Int) := by
  have h : x ||| y < 2 ^ 63 := Nat.or_lt_two_pow hx hy
  show IntKind.i64.wrap ((BitVec.ofInt 64 (x : Int) ||| BitVec.ofInt 64 (y : Int)).toNat : Int) = _
  simp only [BitVec.ofInt_natCast, BitVec.toNat_or, BitVec.toNat_ofNat]
  rw [Nat.mod_eq_of_lt (by omega), Nat.mod_eq_of_lt (by omega), i64_w]
  omega
/-- A number shifted up, and what fills the low bits. -/
theorem or_low8 {x y : Nat} (hy : y < 256) : (x * 256 ||| y) = x * 256 + y := by
  have := Nat.two_pow_add_eq_or_of_lt (i := 8) (b := y) (by omega) x
  rw [Nat.mul_comm x 256]
  exact this.symm
theorem or_low4 {x y : Nat} (hy : y < 16) : (x * 16 ||| y) = x * 16 + y := by
  have := Nat.two_pow_add_eq_or_of_lt (i := 4) (b := y) (by omega) x
  rw [Nat.mul_comm x 16]
  exact this.symm
theorem and_15 (x : Nat) : x &&& 15 = x % 16 := Nat.and_two_pow_sub_one_eq_mod x 4
theorem shl_u64_8 (x : Nat) (h : x < 72057594037927936) : shlV .u64 (x : Int) 8 = ((x * 256 : Nat) : Int) := by
  simp only [shlV, IntKind.bits]
  have : (2 : Int) ^ min (Int.toNat 8) 64 = 256 := by decide
  rw [this, u64_w]; omega
theorem shr_nat {k : IntKind} (x s : Nat) (h : s ≤ k.bits) : shrV k (x : Int) (s : Int) = ((x / 2 ^ s : Nat) : Int) := by
  simp only [shrV, Int.toNat_natCast, Nat.min_eq_left h]
  rw [Int.fdiv_eq_ediv_of_nonneg _ (by exact Int.le_of_lt (Int.pow_pos (by decide)))]
  simp
end Go.Ga
