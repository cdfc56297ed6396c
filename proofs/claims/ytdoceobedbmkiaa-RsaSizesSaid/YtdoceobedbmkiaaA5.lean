/- Words and contracts of functions for the statement's proof. No condition. -/
import Derived.Test.YtdoceobedbmkiaaA4
import Derived.Test.YtdoceobedbmkiaaProg
import Derived.KernelRfl
set_option linter.all false

namespace Go.Ga
open Go Go.Proofs
set_option maxRecDepth 100000

def c_math_bits_Add32 : RFn :=
  ⟨22,
  (.seq
  (.ops [] [
  ⟨(some 6), (.op (.mv (.k (.int .u32 0)))), none⟩,
  ⟨(some 7), (.op (.mv (.k (.int .u32 0)))), none⟩])
  (.seq
  (.ops [] [
  ⟨(some 9), (.op (.mv (.t 0))), none⟩,
  ⟨(some 10), (.op (.toInt .u64 (.t 9))), none⟩,
  ⟨(some 11), (.op (.mv (.t 1))), none⟩,
  ⟨(some 12), (.op (.toInt .u64 (.t 11))), none⟩,
  ⟨(some 13), (.op (.bin .add (.t 10) (.t 12))), none⟩,
  ⟨(some 14), (.op (.mv (.t 2))), none⟩,
  ⟨(some 15), (.op (.toInt .u64 (.t 14))), none⟩,
  ⟨(some 16), (.op (.bin .add (.t 13) (.t 15))), none⟩,
  ⟨(some 8), (.op (.mv (.t 16))), none⟩])
  (.seq
  (.ops [] [
  ⟨(some 17), (.op (.mv (.t 8))), none⟩,
  ⟨(some 18), (.op (.toInt .u32 (.t 17))), none⟩,
  ⟨(some 6), (.op (.mv (.t 18))), none⟩])
  (.seq
  (.ops [] [
  ⟨(some 19), (.op (.mv (.t 8))), none⟩,
  ⟨(some 20), (.op (.bin .shr (.t 19) (.k (.int .u64 32)))), none⟩,
  ⟨(some 21), (.op (.toInt .u32 (.t 20))), none⟩,
  ⟨(some 7), (.op (.mv (.t 21))), none⟩])
  .ret)))),
  [(.t 6), (.t 7)]⟩
theorem r_math_bits_Add32 : resolveFn Try.prog 98 = some c_math_bits_Add32 := by kernel_rfl

def c_math_bits_Sub32 : RFn :=
  ⟨25,
  (.seq
  (.ops [] [
  ⟨(some 6), (.op (.mv (.k (.int .u32 0)))), none⟩,
  ⟨(some 7), (.op (.mv (.k (.int .u32 0)))), none⟩])
  (.seq
  (.ops [] [
  ⟨(some 8), (.op (.mv (.t 0))), none⟩,
  ⟨(some 9), (.op (.mv (.t 1))), none⟩,
  ⟨(some 10), (.op (.bin .sub (.t 8) (.t 9))), none⟩,
  ⟨(some 11), (.op (.mv (.t 2))), none⟩,
  ⟨(some 12), (.op (.bin .sub (.t 10) (.t 11))), none⟩,
  ⟨(some 6), (.op (.mv (.t 12))), none⟩])
  (.seq
  (.ops [] [
  ⟨(some 13), (.op (.mv (.t 0))), none⟩,
  ⟨(some 14), (.op (.un .xor (.t 13))), none⟩,
  ⟨(some 15), (.op (.mv (.t 1))), none⟩,
  ⟨(some 16), (.op (.bin .and (.t 14) (.t 15))), none⟩,
  ⟨(some 17), (.op (.mv (.t 0))), none⟩,
  ⟨(some 18), (.op (.mv (.t 1))), none⟩,
  ⟨(some 19), (.op (.bin .xor (.t 17) (.t 18))), none⟩,
  ⟨(some 20), (.op (.un .xor (.t 19))), none⟩,
  ⟨(some 21), (.op (.mv (.t 6))), none⟩,
  ⟨(some 22), (.op (.bin .and (.t 20) (.t 21))), none⟩,
  ⟨(some 23), (.op (.bin .or (.t 16) (.t 22))), none⟩,
  ⟨(some 24), (.op (.bin .shr (.t 23) (.k (.int .u64 31)))), none⟩,
  ⟨(some 7), (.op (.mv (.t 24))), none⟩])
  .ret))),
  [(.t 6), (.t 7)]⟩
theorem r_math_bits_Sub32 : resolveFn Try.prog 97 = some c_math_bits_Sub32 := by kernel_rfl

def c_math_bits_Len32 : RFn :=
  ⟨19,
  (.seq
  (.ops [] [
  ⟨(some 2), (.op (.mv (.k (.int .i64 0)))), none⟩])
  (.seq
  (.seq
  (.ops [] [
  ⟨(some 3), (.op (.mv (.t 0))), none⟩,
  ⟨(some 4), (.op (.bin .geq (.t 3) (.k (.int .u32 65536)))), none⟩])
  (.cond (.t 4)
  (.seq
  (.ops [] [
  ⟨(some 5), (.op (.mv (.t 0))), none⟩,
  ⟨(some 6), (.op (.bin .shr (.t 5) (.k (.int .u64 16)))), none⟩,
  ⟨(some 0), (.op (.mv (.t 6))), none⟩])
  (.ops [] [
  ⟨(some 2), (.op (.mv (.k (.int .i64 16)))), none⟩]))
  .skip))
  (.seq
  (.seq
  (.ops [] [
  ⟨(some 7), (.op (.mv (.t 0))), none⟩,
  ⟨(some 8), (.op (.bin .geq (.t 7) (.k (.int .u32 256)))), none⟩])
  (.cond (.t 8)
  (.seq
  (.ops [] [
  ⟨(some 9), (.op (.mv (.t 0))), none⟩,
  ⟨(some 10), (.op (.bin .shr (.t 9) (.k (.int .u64 8)))), none⟩,
  ⟨(some 0), (.op (.mv (.t 10))), none⟩])
  (.ops [] [
  ⟨(some 11), (.op (.mv (.t 2))), none⟩,
  ⟨(some 12), (.op (.bin .add (.t 11) (.k (.int .i64 8)))), none⟩,
  ⟨(some 2), (.op (.mv (.t 12))), none⟩]))
  .skip))
  (.seq
  (.ops [] [
  ⟨(some 13), (.op (.mv (.t 2))), none⟩,
  ⟨(some 14), (.op (.mv (.t 0))), none⟩,
  ⟨(some 15), (.op (.toInt .u8 (.t 14))), none⟩,
  ⟨(some 16), (.op (.ixStr (.k (.string ⟨#[0, 1, 2, 2, 3, 3, 3, 3, 4, 4, 4, 4, 4, 4, 4, 4, 5, 5, 5, 5, 5, 5, 5, 5, 5, 5, 5, 5, 5, 5, 5, 5, 6, 6, 6, 6, 6, 6, 6, 6, 6, 6, 6, 6, 6, 6, 6, 6, 6, 6, 6, 6, 6, 6, 6, 6, 6, 6, 6, 6, 6, 6, 6, 6, 7, 7, 7, 7, 7, 7, 7, 7, 7, 7, 7, 7, 7, 7, 7, 7, 7, 7, 7, 7, 7, 7, 7, 7, 7, 7, 7, 7, 7, 7, 7, 7, 7, 7, 7, 7, 7, 7, 7, 7, 7, 7, 7, 7, 7, 7, 7, 7, 7, 7, 7, 7, 7, 7, 7, 7, 7, 7, 7, 7, 7, 7, 7, 7, 8, 8, 8, 8, 8, 8, 8, 8, 8, 8, 8, 8, 8, 8, 8, 8, 8, 8, 8, 8, 8, 8, 8, 8, 8, 8, 8, 8, 8, 8, 8, 8, 8, 8, 8, 8, 8, 8, 8, 8, 8, 8, 8, 8, 8, 8, 8, 8, 8, 8, 8, 8, 8, 8, 8, 8, 8, 8, 8, 8, 8, 8, 8, 8, 8, 8, 8, 8, 8, 8, 8, 8, 8, 8, 8, 8, 8, 8, 8, 8, 8, 8, 8, 8, 8, 8, 8, 8, 8, 8, 8, 8, 8, 8, 8, 8, 8, 8, 8, 8, 8, 8, 8, 8, 8, 8, 8, 8, 8, 8, 8, 8, 8, 8, 8, 8, 8, 8, 8, 8, 8, 8, 8, 8, 8, 8, 8, 8]⟩)) (.t 15))), none⟩,
  ⟨(some 17), (.op (.toInt .i64 (.t 16))), none⟩,
  ⟨(some 18), (.op (.bin .add (.t 13) (.t 17))), none⟩,
  ⟨(some 2), (.op (.mv (.t 18))), none⟩])
  .ret)))),
  [(.t 2)]⟩
theorem r_math_bits_Len32 : resolveFn Try.prog 92 = some c_math_bits_Len32 := by kernel_rfl

def c_limb_bare : RFn :=
  ⟨22,
  (.seq
  (.ops [] [
  ⟨(some 2), (.op (.mv (.k (.slice none 0 0)))), none⟩])
  (.seq
  (.ops [] [
  ⟨(some 4), (.op (.mv (.t 0))), none⟩,
  ⟨(some 5), (.op (.lenSl (.t 4))), none⟩,
  ⟨(some 3), (.op (.mv (.t 5))), none⟩])
  (.seq
  (.block 0
  (.loop
  (.seq
  (.seq
  (.ops [] [
  ⟨(some 6), (.op (.mv (.t 3))), none⟩,
  ⟨(some 7), (.op (.bin .gtr (.t 6) (.k (.int .i64 0)))), none⟩,
  ⟨(some 8), (.op (.mv (.t 7))), none⟩,
  ⟨(some 9), (.op (.mv (.t 0))), (some (8, true))⟩,
  ⟨(some 10), (.op (.mv (.t 3))), (some (8, true))⟩,
  ⟨(some 11), (.op (.bin .sub (.t 10) (.k (.int .i64 1)))), (some (8, true))⟩,
  ⟨(some 12), (.op (.ixAddr 1 (.t 9) (.t 11))), (some (8, true))⟩,
  ⟨(some 13), (.op (.load1 (.t 12))), (some (8, true))⟩,
  ⟨(some 14), (.op (.bin .eql (.t 13) (.k (.int .u32 0)))), (some (8, true))⟩,
  ⟨(some 15), (.op (.pick (.t 8) (.t 14) (.k (.bool false)))), none⟩])
  (.cond (.t 15)
  .skip
  (.exit 0)))
  (.block 1
  (.ops [] [
  ⟨(some 16), (.op (.mv (.t 3))), none⟩,
  ⟨(some 17), (.op (.bin .sub (.t 16) (.k (.int .i64 1)))), none⟩,
  ⟨(some 3), (.op (.mv (.t 17))), none⟩])))))
  (.seq
  (.ops [] [
  ⟨(some 18), (.op (.mv (.t 0))), none⟩,
  ⟨(some 19), (.op (.mv (.t 3))), none⟩,
  ⟨(some 20), (.op (.mv (.t 3))), none⟩,
  ⟨(some 21), (.op (.sl 1 (.t 18) none (some (.t 19)) (some (.t 20)))), none⟩,
  ⟨(some 2), (.op (.mv (.t 21))), none⟩])
  .ret)))),
  [(.t 2)]⟩
theorem r_limb_bare : resolveFn Try.prog 56 = some c_limb_bare := by kernel_rfl

def c_cmp_Compare_int_ : RFn :=
  ⟨20,
  (.seq
  (.ops [] [
  ⟨(some 4), (.op (.mv (.k (.int .i64 0)))), none⟩])
  (.seq
  (.ops [] [
  ⟨(some 7), (.op (.mv (.t 0))), none⟩,
  ⟨(some 8), (.call (.k (.func (.func 79) #[] #[])) [(.t 7)]), none⟩,
  ⟨(some 5), (.op (.mv (.t 8))), none⟩])
  (.seq
  (.ops [] [
  ⟨(some 9), (.op (.mv (.t 1))), none⟩,
  ⟨(some 10), (.call (.k (.func (.func 79) #[] #[])) [(.t 9)]), none⟩,
  ⟨(some 6), (.op (.mv (.t 10))), none⟩])
  (.seq
  (.seq
  (.ops [] [
  ⟨(some 11), (.op (.mv (.t 5))), none⟩])
  (.cond (.t 11)
  (.seq
  (.seq
  (.ops [] [
  ⟨(some 12), (.op (.mv (.t 6))), none⟩])
  (.cond (.t 12)
  (.seq
  (.ops [] [
  ⟨(some 4), (.op (.mv (.k (.int .i64 0)))), none⟩])
  .ret)
  .skip))
  (.seq
  (.ops [] [
  ⟨(some 4), (.op (.mv (.k (.int .i64 (-1))))), none⟩])
  .ret))
  .skip))
  (.seq
  (.seq
  (.ops [] [
  ⟨(some 13), (.op (.mv (.t 6))), none⟩])
  (.cond (.t 13)
  (.seq
  (.ops [] [
  ⟨(some 4), (.op (.mv (.k (.int .i64 1)))), none⟩])
  .ret)
  .skip))
  (.seq
  (.seq
  (.ops [] [
  ⟨(some 14), (.op (.mv (.t 0))), none⟩,
  ⟨(some 15), (.op (.mv (.t 1))), none⟩,
  ⟨(some 16), (.op (.bin .lss (.t 14) (.t 15))), none⟩])
  (.cond (.t 16)
  (.seq
  (.ops [] [
  ⟨(some 4), (.op (.mv (.k (.int .i64 (-1))))), none⟩])
  .ret)
  .skip))
  (.seq
  (.seq
  (.ops [] [
  ⟨(some 17), (.op (.mv (.t 0))), none⟩,
  ⟨(some 18), (.op (.mv (.t 1))), none⟩,
  ⟨(some 19), (.op (.bin .gtr (.t 17) (.t 18))), none⟩])
  (.cond (.t 19)
  (.seq
  (.ops [] [
  ⟨(some 4), (.op (.mv (.k (.int .i64 1)))), none⟩])
  .ret)
  .skip))
  (.seq
  (.ops [] [
  ⟨(some 4), (.op (.mv (.k (.int .i64 0)))), none⟩])
  .ret)))))))),
  [(.t 4)]⟩
theorem r_cmp_Compare_int_ : resolveFn Try.prog 57 = some c_cmp_Compare_int_ := by kernel_rfl

def c_cmp_Compare_uint32_ : RFn :=
  ⟨20,
  (.seq
  (.ops [] [
  ⟨(some 4), (.op (.mv (.k (.int .i64 0)))), none⟩])
  (.seq
  (.ops [] [
  ⟨(some 7), (.op (.mv (.t 0))), none⟩,
  ⟨(some 8), (.call (.k (.func (.func 80) #[] #[])) [(.t 7)]), none⟩,
  ⟨(some 5), (.op (.mv (.t 8))), none⟩])
  (.seq
  (.ops [] [
  ⟨(some 9), (.op (.mv (.t 1))), none⟩,
  ⟨(some 10), (.call (.k (.func (.func 80) #[] #[])) [(.t 9)]), none⟩,
  ⟨(some 6), (.op (.mv (.t 10))), none⟩])
  (.seq
  (.seq
  (.ops [] [
  ⟨(some 11), (.op (.mv (.t 5))), none⟩])
  (.cond (.t 11)
  (.seq
  (.seq
  (.ops [] [
  ⟨(some 12), (.op (.mv (.t 6))), none⟩])
  (.cond (.t 12)
  (.seq
  (.ops [] [
  ⟨(some 4), (.op (.mv (.k (.int .i64 0)))), none⟩])
  .ret)
  .skip))
  (.seq
  (.ops [] [
  ⟨(some 4), (.op (.mv (.k (.int .i64 (-1))))), none⟩])
  .ret))
  .skip))
  (.seq
  (.seq
  (.ops [] [
  ⟨(some 13), (.op (.mv (.t 6))), none⟩])
  (.cond (.t 13)
  (.seq
  (.ops [] [
  ⟨(some 4), (.op (.mv (.k (.int .i64 1)))), none⟩])
  .ret)
  .skip))
  (.seq
  (.seq
  (.ops [] [
  ⟨(some 14), (.op (.mv (.t 0))), none⟩,
  ⟨(some 15), (.op (.mv (.t 1))), none⟩,
  ⟨(some 16), (.op (.bin .lss (.t 14) (.t 15))), none⟩])
  (.cond (.t 16)
  (.seq
  (.ops [] [
  ⟨(some 4), (.op (.mv (.k (.int .i64 (-1))))), none⟩])
  .ret)
  .skip))
  (.seq
  (.seq
  (.ops [] [
  ⟨(some 17), (.op (.mv (.t 0))), none⟩,
  ⟨(some 18), (.op (.mv (.t 1))), none⟩,
  ⟨(some 19), (.op (.bin .gtr (.t 17) (.t 18))), none⟩])
  (.cond (.t 19)
  (.seq
  (.ops [] [
  ⟨(some 4), (.op (.mv (.k (.int .i64 1)))), none⟩])
  .ret)
  .skip))
  (.seq
  (.ops [] [
  ⟨(some 4), (.op (.mv (.k (.int .i64 0)))), none⟩])
  .ret)))))))),
  [(.t 4)]⟩
theorem r_cmp_Compare_uint32_ : resolveFn Try.prog 58 = some c_cmp_Compare_uint32_ := by kernel_rfl

def c_cmp_isNaN_int_ : RFn :=
  ⟨6,
  (.seq
  (.ops [] [
  ⟨(some 2), (.op (.mv (.k (.bool false)))), none⟩])
  (.seq
  (.ops [] [
  ⟨(some 3), (.op (.mv (.t 0))), none⟩,
  ⟨(some 4), (.op (.mv (.t 0))), none⟩,
  ⟨(some 5), (.op (.bin .neq (.t 3) (.t 4))), none⟩,
  ⟨(some 2), (.op (.mv (.t 5))), none⟩])
  .ret)),
  [(.t 2)]⟩
theorem r_cmp_isNaN_int_ : resolveFn Try.prog 79 = some c_cmp_isNaN_int_ := by kernel_rfl

def c_cmp_isNaN_uint32_ : RFn :=
  ⟨6,
  (.seq
  (.ops [] [
  ⟨(some 2), (.op (.mv (.k (.bool false)))), none⟩])
  (.seq
  (.ops [] [
  ⟨(some 3), (.op (.mv (.t 0))), none⟩,
  ⟨(some 4), (.op (.mv (.t 0))), none⟩,
  ⟨(some 5), (.op (.bin .neq (.t 3) (.t 4))), none⟩,
  ⟨(some 2), (.op (.mv (.t 5))), none⟩])
  .ret)),
  [(.t 2)]⟩
theorem r_cmp_isNaN_uint32_ : resolveFn Try.prog 80 = some c_cmp_isNaN_uint32_ := by kernel_rfl

def c_limb_Cmp : RFn :=
  ⟨45,
  (.seq
  (.ops [] [
  ⟨(some 4), (.op (.mv (.k (.int .i64 0)))), none⟩])
  (.seq
  (.ops [] [
  ⟨(some 6), (.op (.mv (.t 0))), none⟩,
  ⟨(some 7), (.call (.k (.func (.func 56) #[] #[])) [(.t 6)]), none⟩,
  ⟨(some 8), (.op (.mv (.t 1))), none⟩,
  ⟨(some 9), (.call (.k (.func (.func 56) #[] #[])) [(.t 8)]), none⟩,
  ⟨(some 0), (.op (.mv (.t 7))), none⟩,
  ⟨(some 1), (.op (.mv (.t 9))), none⟩])
  (.seq
  (.seq
  (.ops [] [
  ⟨(some 10), (.op (.mv (.t 0))), none⟩,
  ⟨(some 11), (.op (.lenSl (.t 10))), none⟩,
  ⟨(some 12), (.op (.mv (.t 1))), none⟩,
  ⟨(some 13), (.op (.lenSl (.t 12))), none⟩,
  ⟨(some 14), (.op (.bin .neq (.t 11) (.t 13))), none⟩])
  (.cond (.t 14)
  (.seq
  (.ops [] [
  ⟨(some 15), (.op (.mv (.t 0))), none⟩,
  ⟨(some 16), (.op (.lenSl (.t 15))), none⟩,
  ⟨(some 17), (.op (.mv (.t 1))), none⟩,
  ⟨(some 18), (.op (.lenSl (.t 17))), none⟩,
  ⟨(some 19), (.call (.k (.func (.func 57) #[] #[])) [(.t 16), (.t 18)]), none⟩,
  ⟨(some 4), (.op (.mv (.t 19))), none⟩])
  .ret)
  .skip))
  (.seq
  (.seq
  (.ops [] [
  ⟨(some 20), (.op (.mv (.t 0))), none⟩,
  ⟨(some 21), (.op (.lenSl (.t 20))), none⟩,
  ⟨(some 22), (.op (.bin .sub (.t 21) (.k (.int .i64 1)))), none⟩,
  ⟨(some 5), (.op (.mv (.t 22))), none⟩])
  (.block 0
  (.loop
  (.seq
  (.seq
  (.ops [] [
  ⟨(some 23), (.op (.mv (.t 5))), none⟩,
  ⟨(some 24), (.op (.bin .geq (.t 23) (.k (.int .i64 0)))), none⟩])
  (.cond (.t 24)
  .skip
  (.exit 0)))
  (.seq
  (.block 1
  (.seq
  (.ops [
  ⟨(some 27), (.op (.mv (.t 0))), none⟩,
  ⟨(some 28), (.op (.mv (.t 5))), none⟩,
  ⟨(some 29), (.op (.ixAddr 1 (.t 27) (.t 28))), none⟩,
  ⟨(some 30), (.op (.load1 (.t 29))), none⟩,
  ⟨(some 31), (.op (.mv (.t 1))), none⟩,
  ⟨(some 32), (.op (.mv (.t 5))), none⟩,
  ⟨(some 33), (.op (.ixAddr 1 (.t 31) (.t 32))), none⟩,
  ⟨(some 34), (.op (.load1 (.t 33))), none⟩] [
  ⟨(some 35), (.op (.bin .neq (.t 30) (.t 34))), none⟩])
  (.cond (.t 35)
  (.seq
  (.ops [
  ⟨(some 36), (.op (.mv (.t 0))), none⟩,
  ⟨(some 37), (.op (.mv (.t 5))), none⟩,
  ⟨(some 38), (.op (.ixAddr 1 (.t 36) (.t 37))), none⟩,
  ⟨(some 39), (.op (.load1 (.t 38))), none⟩,
  ⟨(some 40), (.op (.mv (.t 1))), none⟩,
  ⟨(some 41), (.op (.mv (.t 5))), none⟩,
  ⟨(some 42), (.op (.ixAddr 1 (.t 40) (.t 41))), none⟩,
  ⟨(some 43), (.op (.load1 (.t 42))), none⟩] [
  ⟨(some 44), (.call (.k (.func (.func 58) #[] #[])) [(.t 39), (.t 43)]), none⟩,
  ⟨(some 4), (.op (.mv (.t 44))), none⟩])
  .ret)
  .skip)))
  (.ops [] [
  ⟨(some 25), (.op (.mv (.t 5))), none⟩,
  ⟨(some 26), (.op (.bin .sub (.t 25) (.k (.int .i64 1)))), none⟩,
  ⟨(some 5), (.op (.mv (.t 26))), none⟩]))))))
  (.seq
  (.ops [] [
  ⟨(some 4), (.op (.mv (.k (.int .i64 0)))), none⟩])
  .ret))))),
  [(.t 4)]⟩
theorem r_limb_Cmp : resolveFn Try.prog 33 = some c_limb_Cmp := by kernel_rfl

def c_lanyardref07_Bare : RFn :=
  ⟨23,
  (.seq
  (.ops [] [
  ⟨(some 2), (.op (.mv (.k (.slice none 0 0)))), none⟩])
  (.seq
  (.ops [] [
  ⟨(some 4), (.op (.mv (.t 0))), none⟩,
  ⟨(some 5), (.op (.lenSl (.t 4))), none⟩,
  ⟨(some 3), (.op (.mv (.t 5))), none⟩])
  (.seq
  (.block 0
  (.loop
  (.seq
  (.seq
  (.ops [] [
  ⟨(some 6), (.op (.mv (.t 3))), none⟩,
  ⟨(some 7), (.op (.bin .gtr (.t 6) (.k (.int .i64 0)))), none⟩,
  ⟨(some 8), (.op (.mv (.t 7))), none⟩,
  ⟨(some 9), (.op (.mv (.t 0))), (some (8, true))⟩,
  ⟨(some 10), (.op (.mv (.t 3))), (some (8, true))⟩,
  ⟨(some 11), (.op (.bin .sub (.t 10) (.k (.int .i64 1)))), (some (8, true))⟩,
  ⟨(some 12), (.op (.ixAddr 1 (.t 9) (.t 11))), (some (8, true))⟩,
  ⟨(some 13), (.op (.load1 (.t 12))), (some (8, true))⟩,
  ⟨(some 14), (.op (.bin .eql (.t 13) (.k (.int .u32 0)))), (some (8, true))⟩,
  ⟨(some 15), (.op (.pick (.t 8) (.t 14) (.k (.bool false)))), none⟩])
  (.cond (.t 15)
  .skip
  (.exit 0)))
  (.block 1
  (.ops [] [
  ⟨(some 16), (.op (.mv (.t 3))), none⟩,
  ⟨(some 17), (.op (.bin .sub (.t 16) (.k (.int .i64 1)))), none⟩,
  ⟨(some 3), (.op (.mv (.t 17))), none⟩])))))
  (.seq
  (.ops [] [
  ⟨(some 18), (.op (.mkSl 0 [] [])), none⟩,
  ⟨(some 19), (.op (.mv (.t 0))), none⟩,
  ⟨(some 20), (.op (.mv (.t 3))), none⟩,
  ⟨(some 21), (.op (.sl 1 (.t 19) none (some (.t 20)) none)), none⟩,
  ⟨(some 22), (.op (.append 1 4 (.t 18) (.t 21))), none⟩,
  ⟨(some 2), (.op (.mv (.t 22))), none⟩])
  .ret)))),
  [(.t 2)]⟩
theorem r_lanyardref07_Bare : resolveFn Try.prog 73 = some c_lanyardref07_Bare := by kernel_rfl

def c_limb_Bare : RFn :=
  ⟨6,
  (.seq
  (.ops [] [
  ⟨(some 2), (.op (.mv (.k (.slice none 0 0)))), none⟩])
  (.seq
  (.ops [] [
  ⟨(some 3), (.op (.mv (.t 0))), none⟩,
  ⟨(some 4), (.call (.k (.func (.func 56) #[] #[])) [(.t 3)]), none⟩,
  ⟨(some 5), (.call (.k (.func (.func 95) #[] #[])) [(.t 4)]), none⟩,
  ⟨(some 2), (.op (.mv (.t 5))), none⟩])
  .ret)),
  [(.t 2)]⟩
theorem r_limb_Bare : resolveFn Try.prog 84 = some c_limb_Bare := by kernel_rfl

def c_slices_Clone___uint32_uint32_ : RFn :=
  ⟨8,
  (.seq
  (.ops [] [
  ⟨(some 2), (.op (.mv (.k (.slice none 0 0)))), none⟩])
  (.seq
  (.seq
  (.ops [] [
  ⟨(some 3), (.op (.mv (.t 0))), none⟩,
  ⟨(some 4), (.op (.eqN .sl false (.t 3))), none⟩])
  (.cond (.t 4)
  (.seq
  (.ops [] [
  ⟨(some 2), (.op (.mv (.k (.slice none 0 0)))), none⟩])
  .ret)
  .skip))
  (.seq
  (.ops [] [
  ⟨(some 5), (.op (.mkSl 0 [] [])), none⟩,
  ⟨(some 6), (.op (.mv (.t 0))), none⟩,
  ⟨(some 7), (.op (.append 1 4 (.t 5) (.t 6))), none⟩,
  ⟨(some 2), (.op (.mv (.t 7))), none⟩])
  .ret))),
  [(.t 2)]⟩
theorem r_slices_Clone___uint32_uint32_ : resolveFn Try.prog 95 = some c_slices_Clone___uint32_uint32_ := by kernel_rfl

def c_lanyardref07_Cmp : RFn :=
  ⟨30,
  (.seq
  (.ops [] [
  ⟨(some 4), (.op (.mv (.k (.int .i64 0)))), none⟩])
  (.seq
  (.seq
  (.ops [] [
  ⟨(some 8), (.op (.mv (.t 0))), none⟩,
  ⟨(some 9), (.op (.lenSl (.t 8))), none⟩,
  ⟨(some 10), (.op (.mv (.t 1))), none⟩,
  ⟨(some 11), (.op (.lenSl (.t 10))), none⟩,
  ⟨(some 12), (.op (.mm true (.t 9) [(.t 11)])), none⟩,
  ⟨(some 13), (.op (.bin .sub (.t 12) (.k (.int .i64 1)))), none⟩,
  ⟨(some 5), (.op (.mv (.t 13))), none⟩])
  (.block 0
  (.loop
  (.seq
  (.seq
  (.ops [] [
  ⟨(some 14), (.op (.mv (.t 5))), none⟩,
  ⟨(some 15), (.op (.bin .geq (.t 14) (.k (.int .i64 0)))), none⟩])
  (.cond (.t 15)
  .skip
  (.exit 0)))
  (.seq
  (.block 1
  (.seq
  (.ops [] [
  ⟨(some 18), (.op (.mv (.t 0))), none⟩,
  ⟨(some 19), (.op (.mv (.t 5))), none⟩,
  ⟨(some 20), (.call (.k (.func (.func 74) #[] #[])) [(.t 18), (.t 19)]), none⟩,
  ⟨(some 6), (.op (.mv (.t 20))), none⟩])
  (.seq
  (.ops [] [
  ⟨(some 21), (.op (.mv (.t 1))), none⟩,
  ⟨(some 22), (.op (.mv (.t 5))), none⟩,
  ⟨(some 23), (.call (.k (.func (.func 74) #[] #[])) [(.t 21), (.t 22)]), none⟩,
  ⟨(some 7), (.op (.mv (.t 23))), none⟩])
  (.seq
  (.seq
  (.ops [] [
  ⟨(some 24), (.op (.mv (.t 6))), none⟩,
  ⟨(some 25), (.op (.mv (.t 7))), none⟩,
  ⟨(some 26), (.op (.bin .lss (.t 24) (.t 25))), none⟩])
  (.cond (.t 26)
  (.seq
  (.ops [] [
  ⟨(some 4), (.op (.mv (.k (.int .i64 (-1))))), none⟩])
  .ret)
  .skip))
  (.seq
  (.ops [] [
  ⟨(some 27), (.op (.mv (.t 6))), none⟩,
  ⟨(some 28), (.op (.mv (.t 7))), none⟩,
  ⟨(some 29), (.op (.bin .gtr (.t 27) (.t 28))), none⟩])
  (.cond (.t 29)
  (.seq
  (.ops [] [
  ⟨(some 4), (.op (.mv (.k (.int .i64 1)))), none⟩])
  .ret)
  .skip))))))
  (.ops [] [
  ⟨(some 16), (.op (.mv (.t 5))), none⟩,
  ⟨(some 17), (.op (.bin .sub (.t 16) (.k (.int .i64 1)))), none⟩,
  ⟨(some 5), (.op (.mv (.t 17))), none⟩]))))))
  (.seq
  (.ops [] [
  ⟨(some 4), (.op (.mv (.k (.int .i64 0)))), none⟩])
  .ret))),
  [(.t 4)]⟩
theorem r_lanyardref07_Cmp : resolveFn Try.prog 48 = some c_lanyardref07_Cmp := by kernel_rfl

def c_lanyardref07_Len : RFn :=
  ⟨28,
  (.seq
  (.ops [] [
  ⟨(some 2), (.op (.mv (.k (.int .i64 0)))), none⟩])
  (.seq
  (.ops [] [
  ⟨(some 6), (.op (.mv (.t 0))), none⟩,
  ⟨(some 7), (.call (.k (.func (.func 73) #[] #[])) [(.t 6)]), none⟩,
  ⟨(some 3), (.op (.mv (.t 7))), none⟩])
  (.seq
  (.seq
  (.ops [] [
  ⟨(some 8), (.op (.mv (.t 3))), none⟩,
  ⟨(some 9), (.op (.lenSl (.t 8))), none⟩,
  ⟨(some 10), (.op (.bin .eql (.t 9) (.k (.int .i64 0)))), none⟩])
  (.cond (.t 10)
  (.seq
  (.ops [] [
  ⟨(some 2), (.op (.mv (.k (.int .i64 0)))), none⟩])
  .ret)
  .skip))
  (.seq
  (.ops [] [
  ⟨(some 11), (.op (.mv (.t 3))), none⟩,
  ⟨(some 12), (.op (.lenSl (.t 11))), none⟩,
  ⟨(some 13), (.op (.bin .mul (.k (.int .i64 32)) (.t 12))), none⟩,
  ⟨(some 14), (.op (.bin .sub (.t 13) (.k (.int .i64 32)))), none⟩,
  ⟨(some 4), (.op (.mv (.t 14))), none⟩])
  (.seq
  (.seq
  (.ops [] [
  ⟨(some 15), (.op (.mv (.t 3))), none⟩,
  ⟨(some 16), (.op (.mv (.t 3))), none⟩,
  ⟨(some 17), (.op (.lenSl (.t 16))), none⟩,
  ⟨(some 18), (.op (.bin .sub (.t 17) (.k (.int .i64 1)))), none⟩,
  ⟨(some 19), (.op (.ixAddr 1 (.t 15) (.t 18))), none⟩,
  ⟨(some 20), (.op (.load1 (.t 19))), none⟩,
  ⟨(some 5), (.op (.mv (.t 20))), none⟩])
  (.block 0
  (.loop
  (.seq
  (.seq
  (.ops [] [
  ⟨(some 21), (.op (.mv (.t 5))), none⟩,
  ⟨(some 22), (.op (.bin .gtr (.t 21) (.k (.int .u32 0)))), none⟩])
  (.cond (.t 22)
  .skip
  (.exit 0)))
  (.seq
  (.block 1
  (.ops [] [
  ⟨(some 25), (.op (.mv (.t 4))), none⟩,
  ⟨(some 26), (.op (.bin .add (.t 25) (.k (.int .i64 1)))), none⟩,
  ⟨(some 4), (.op (.mv (.t 26))), none⟩]))
  (.ops [] [
  ⟨(some 23), (.op (.mv (.t 5))), none⟩,
  ⟨(some 24), (.op (.bin .quo (.t 23) (.k (.int .u32 2)))), none⟩,
  ⟨(some 5), (.op (.mv (.t 24))), none⟩]))))))
  (.seq
  (.ops [] [
  ⟨(some 27), (.op (.mv (.t 4))), none⟩,
  ⟨(some 2), (.op (.mv (.t 27))), none⟩])
  .ret)))))),
  [(.t 2)]⟩
theorem r_lanyardref07_Len : resolveFn Try.prog 76 = some c_lanyardref07_Len := by kernel_rfl

def c_lanyardref07_part : RFn :=
  ⟨14,
  (.seq
  (.ops [] [
  ⟨(some 4), (.op (.mv (.k (.int .u64 0)))), none⟩])
  (.seq
  (.seq
  (.ops [] [
  ⟨(some 5), (.op (.mv (.t 1))), none⟩,
  ⟨(some 6), (.op (.mv (.t 0))), none⟩,
  ⟨(some 7), (.op (.lenSl (.t 6))), none⟩,
  ⟨(some 8), (.op (.bin .geq (.t 5) (.t 7))), none⟩])
  (.cond (.t 8)
  (.seq
  (.ops [] [
  ⟨(some 4), (.op (.mv (.k (.int .u64 0)))), none⟩])
  .ret)
  .skip))
  (.seq
  (.ops [] [
  ⟨(some 9), (.op (.mv (.t 0))), none⟩,
  ⟨(some 10), (.op (.mv (.t 1))), none⟩,
  ⟨(some 11), (.op (.ixAddr 1 (.t 9) (.t 10))), none⟩,
  ⟨(some 12), (.op (.load1 (.t 11))), none⟩,
  ⟨(some 13), (.op (.toInt .u64 (.t 12))), none⟩,
  ⟨(some 4), (.op (.mv (.t 13))), none⟩])
  .ret))),
  [(.t 4)]⟩
theorem r_lanyardref07_part : resolveFn Try.prog 74 = some c_lanyardref07_part := by kernel_rfl

def c_limb_Len : RFn :=
  ⟨20,
  (.seq
  (.ops [] [
  ⟨(some 2), (.op (.mv (.k (.int .i64 0)))), none⟩])
  (.seq
  (.ops [] [
  ⟨(some 3), (.op (.mv (.t 0))), none⟩,
  ⟨(some 4), (.call (.k (.func (.func 56) #[] #[])) [(.t 3)]), none⟩,
  ⟨(some 0), (.op (.mv (.t 4))), none⟩])
  (.seq
  (.seq
  (.ops [] [
  ⟨(some 5), (.op (.mv (.t 0))), none⟩,
  ⟨(some 6), (.op (.lenSl (.t 5))), none⟩,
  ⟨(some 7), (.op (.bin .eql (.t 6) (.k (.int .i64 0)))), none⟩])
  (.cond (.t 7)
  (.seq
  (.ops [] [
  ⟨(some 2), (.op (.mv (.k (.int .i64 0)))), none⟩])
  .ret)
  .skip))
  (.seq
  (.ops [] [
  ⟨(some 8), (.op (.mv (.t 0))), none⟩,
  ⟨(some 9), (.op (.lenSl (.t 8))), none⟩,
  ⟨(some 10), (.op (.bin .sub (.t 9) (.k (.int .i64 1)))), none⟩,
  ⟨(some 11), (.op (.bin .mul (.k (.int .i64 32)) (.t 10))), none⟩,
  ⟨(some 12), (.op (.mv (.t 0))), none⟩,
  ⟨(some 13), (.op (.mv (.t 0))), none⟩,
  ⟨(some 14), (.op (.lenSl (.t 13))), none⟩,
  ⟨(some 15), (.op (.bin .sub (.t 14) (.k (.int .i64 1)))), none⟩,
  ⟨(some 16), (.op (.ixAddr 1 (.t 12) (.t 15))), none⟩,
  ⟨(some 17), (.op (.load1 (.t 16))), none⟩,
  ⟨(some 18), (.call (.k (.func (.func 92) #[] #[])) [(.t 17)]), none⟩,
  ⟨(some 19), (.op (.bin .add (.t 11) (.t 18))), none⟩,
  ⟨(some 2), (.op (.mv (.t 19))), none⟩])
  .ret)))),
  [(.t 2)]⟩
theorem r_limb_Len : resolveFn Try.prog 71 = some c_limb_Len := by kernel_rfl

def c_limb_Mul : RFn :=
  ⟨69,
  (.seq
  (.ops [] [
  ⟨(some 4), (.op (.mv (.k (.slice none 0 0)))), none⟩])
  (.scope (.seq
  (.ops [] [
  ⟨(some 11), (.op (.mv (.t 0))), none⟩,
  ⟨(some 12), (.op (.lenSl (.t 11))), none⟩,
  ⟨(some 13), (.op (.mv (.t 1))), none⟩,
  ⟨(some 14), (.op (.lenSl (.t 13))), none⟩,
  ⟨(some 15), (.op (.bin .add (.t 12) (.t 14))), none⟩,
  ⟨(some 16), (.op (.make 1 4 [(.int .u32 0)] (.t 15) (.t 15))), none⟩,
  ⟨(some 5), (.op (.mv (.t 16))), none⟩])
  (.seq
  (.label 0)
  (.seq
  (.seq
  (.ops [] [
  ⟨(some 17), (.op (.mv (.t 0))), none⟩,
  ⟨(some 18), (.op (.lenSl (.t 17))), none⟩,
  ⟨(some 19), (.op (.mv (.k (.int .i64 0)))), none⟩])
  (.block 0
  (.loop
  (.seq
  (.ops [] [
  ⟨(some 20), (.op (.bin .lss (.t 19) (.t 18))), none⟩])
  (.seq
  (.cond (.t 20)
  .skip
  (.exit 0))
  (.seq
  (.block 1
  (.seq
  (.ops [] [
  ⟨(some 21), (.op (.mv (.t 19))), none⟩,
  ⟨(some 22), (.op (.ixAddr 1 (.t 17) (.t 19))), none⟩,
  ⟨(some 23), (.op (.load1 (.t 22))), none⟩,
  ⟨(some 6), (.op (.mv (.t 21))), none⟩,
  ⟨(some 7), (.op (.mv (.t 23))), none⟩])
  (.seq
  (.seq
  (.ops [] [
  ⟨(some 24), (.op (.mv (.t 7))), none⟩,
  ⟨(some 25), (.op (.bin .eql (.t 24) (.k (.int .u32 0)))), none⟩])
  (.cond (.t 25)
  (.exit 1)
  .skip))
  (.seq
  (.ops [] [
  ⟨(some 8), (.op (.mv (.k (.int .u64 0)))), none⟩])
  (.seq
  (.seq
  (.ops [] [
  ⟨(some 26), (.op (.mv (.t 1))), none⟩,
  ⟨(some 27), (.op (.lenSl (.t 26))), none⟩,
  ⟨(some 28), (.op (.mv (.k (.int .i64 0)))), none⟩])
  (.block 2
  (.loop
  (.seq
  (.ops [] [
  ⟨(some 29), (.op (.bin .lss (.t 28) (.t 27))), none⟩])
  (.seq
  (.cond (.t 29)
  .skip
  (.exit 2))
  (.seq
  (.block 3
  (.seq
  (.ops [] [
  ⟨(some 30), (.op (.mv (.t 28))), none⟩,
  ⟨(some 31), (.op (.ixAddr 1 (.t 26) (.t 28))), none⟩,
  ⟨(some 32), (.op (.load1 (.t 31))), none⟩,
  ⟨(some 9), (.op (.mv (.t 30))), none⟩,
  ⟨(some 10), (.op (.mv (.t 32))), none⟩])
  (.seq
  (.ops [] [
  ⟨(some 33), (.op (.mv (.t 8))), none⟩,
  ⟨(some 34), (.op (.mv (.t 5))), none⟩,
  ⟨(some 35), (.op (.mv (.t 6))), none⟩,
  ⟨(some 36), (.op (.mv (.t 9))), none⟩,
  ⟨(some 37), (.op (.bin .add (.t 35) (.t 36))), none⟩,
  ⟨(some 38), (.op (.ixAddr 1 (.t 34) (.t 37))), none⟩,
  ⟨(some 39), (.op (.load1 (.t 38))), none⟩,
  ⟨(some 40), (.op (.toInt .u64 (.t 39))), none⟩,
  ⟨(some 41), (.op (.mv (.t 7))), none⟩,
  ⟨(some 42), (.op (.toInt .u64 (.t 41))), none⟩,
  ⟨(some 43), (.op (.mv (.t 10))), none⟩,
  ⟨(some 44), (.op (.toInt .u64 (.t 43))), none⟩,
  ⟨(some 45), (.op (.bin .mul (.t 42) (.t 44))), none⟩,
  ⟨(some 46), (.op (.bin .add (.t 40) (.t 45))), none⟩,
  ⟨(some 47), (.op (.bin .add (.t 33) (.t 46))), none⟩,
  ⟨(some 8), (.op (.mv (.t 47))), none⟩])
  (.seq
  (.ops [] [
  ⟨(some 48), (.op (.mv (.t 5))), none⟩,
  ⟨(some 49), (.op (.mv (.t 6))), none⟩,
  ⟨(some 50), (.op (.mv (.t 9))), none⟩,
  ⟨(some 51), (.op (.bin .add (.t 49) (.t 50))), none⟩,
  ⟨(some 52), (.op (.mv (.t 8))), none⟩,
  ⟨(some 53), (.op (.toInt .u32 (.t 52))), none⟩,
  ⟨(some 54), (.op (.ixAddr 1 (.t 48) (.t 51))), none⟩,
  ⟨none, (.op (.store 1 (.t 54) (.t 53))), none⟩])
  (.ops [] [
  ⟨(some 55), (.op (.mv (.t 8))), none⟩,
  ⟨(some 56), (.op (.bin .shr (.t 55) (.k (.int .u64 32)))), none⟩,
  ⟨(some 8), (.op (.mv (.t 56))), none⟩])))))
  (.ops [] [
  ⟨(some 57), (.op (.bin .add (.t 28) (.k (.int .i64 1)))), none⟩,
  ⟨(some 28), (.op (.mv (.t 57))), none⟩])))))))
  (.ops [] [
  ⟨(some 58), (.op (.mv (.t 5))), none⟩,
  ⟨(some 59), (.op (.mv (.t 6))), none⟩,
  ⟨(some 60), (.op (.mv (.t 1))), none⟩,
  ⟨(some 61), (.op (.lenSl (.t 60))), none⟩,
  ⟨(some 62), (.op (.bin .add (.t 59) (.t 61))), none⟩,
  ⟨(some 63), (.op (.mv (.t 8))), none⟩,
  ⟨(some 64), (.op (.toInt .u32 (.t 63))), none⟩,
  ⟨(some 65), (.op (.ixAddr 1 (.t 58) (.t 62))), none⟩,
  ⟨none, (.op (.store 1 (.t 65) (.t 64))), none⟩]))))))
  (.ops [] [
  ⟨(some 66), (.op (.bin .add (.t 19) (.k (.int .i64 1)))), none⟩,
  ⟨(some 19), (.op (.mv (.t 66))), none⟩])))))))
  (.seq
  (.ops [] [
  ⟨(some 67), (.op (.mv (.t 5))), none⟩,
  ⟨(some 68), (.call (.k (.func (.func 56) #[] #[])) [(.t 67)]), none⟩,
  ⟨(some 4), (.op (.mv (.t 68))), none⟩])
  .ret)))) 0 (.seq
  .skip
  (.seq
  (.seq
  (.ops [] [
  ⟨(some 17), (.op (.mv (.t 0))), none⟩,
  ⟨(some 18), (.op (.lenSl (.t 17))), none⟩,
  ⟨(some 19), (.op (.mv (.k (.int .i64 0)))), none⟩])
  (.block 0
  (.loop
  (.seq
  (.ops [] [
  ⟨(some 20), (.op (.bin .lss (.t 19) (.t 18))), none⟩])
  (.seq
  (.cond (.t 20)
  .skip
  (.exit 0))
  (.seq
  (.block 1
  (.seq
  (.ops [] [
  ⟨(some 21), (.op (.mv (.t 19))), none⟩,
  ⟨(some 22), (.op (.ixAddr 1 (.t 17) (.t 19))), none⟩,
  ⟨(some 23), (.op (.load1 (.t 22))), none⟩,
  ⟨(some 6), (.op (.mv (.t 21))), none⟩,
  ⟨(some 7), (.op (.mv (.t 23))), none⟩])
  (.seq
  (.seq
  (.ops [] [
  ⟨(some 24), (.op (.mv (.t 7))), none⟩,
  ⟨(some 25), (.op (.bin .eql (.t 24) (.k (.int .u32 0)))), none⟩])
  (.cond (.t 25)
  (.exit 1)
  .skip))
  (.seq
  (.ops [] [
  ⟨(some 8), (.op (.mv (.k (.int .u64 0)))), none⟩])
  (.seq
  (.seq
  (.ops [] [
  ⟨(some 26), (.op (.mv (.t 1))), none⟩,
  ⟨(some 27), (.op (.lenSl (.t 26))), none⟩,
  ⟨(some 28), (.op (.mv (.k (.int .i64 0)))), none⟩])
  (.block 2
  (.loop
  (.seq
  (.ops [] [
  ⟨(some 29), (.op (.bin .lss (.t 28) (.t 27))), none⟩])
  (.seq
  (.cond (.t 29)
  .skip
  (.exit 2))
  (.seq
  (.block 3
  (.seq
  (.ops [] [
  ⟨(some 30), (.op (.mv (.t 28))), none⟩,
  ⟨(some 31), (.op (.ixAddr 1 (.t 26) (.t 28))), none⟩,
  ⟨(some 32), (.op (.load1 (.t 31))), none⟩,
  ⟨(some 9), (.op (.mv (.t 30))), none⟩,
  ⟨(some 10), (.op (.mv (.t 32))), none⟩])
  (.seq
  (.ops [] [
  ⟨(some 33), (.op (.mv (.t 8))), none⟩,
  ⟨(some 34), (.op (.mv (.t 5))), none⟩,
  ⟨(some 35), (.op (.mv (.t 6))), none⟩,
  ⟨(some 36), (.op (.mv (.t 9))), none⟩,
  ⟨(some 37), (.op (.bin .add (.t 35) (.t 36))), none⟩,
  ⟨(some 38), (.op (.ixAddr 1 (.t 34) (.t 37))), none⟩,
  ⟨(some 39), (.op (.load1 (.t 38))), none⟩,
  ⟨(some 40), (.op (.toInt .u64 (.t 39))), none⟩,
  ⟨(some 41), (.op (.mv (.t 7))), none⟩,
  ⟨(some 42), (.op (.toInt .u64 (.t 41))), none⟩,
  ⟨(some 43), (.op (.mv (.t 10))), none⟩,
  ⟨(some 44), (.op (.toInt .u64 (.t 43))), none⟩,
  ⟨(some 45), (.op (.bin .mul (.t 42) (.t 44))), none⟩,
  ⟨(some 46), (.op (.bin .add (.t 40) (.t 45))), none⟩,
  ⟨(some 47), (.op (.bin .add (.t 33) (.t 46))), none⟩,
  ⟨(some 8), (.op (.mv (.t 47))), none⟩])
  (.seq
  (.ops [] [
  ⟨(some 48), (.op (.mv (.t 5))), none⟩,
  ⟨(some 49), (.op (.mv (.t 6))), none⟩,
  ⟨(some 50), (.op (.mv (.t 9))), none⟩,
  ⟨(some 51), (.op (.bin .add (.t 49) (.t 50))), none⟩,
  ⟨(some 52), (.op (.mv (.t 8))), none⟩,
  ⟨(some 53), (.op (.toInt .u32 (.t 52))), none⟩,
  ⟨(some 54), (.op (.ixAddr 1 (.t 48) (.t 51))), none⟩,
  ⟨none, (.op (.store 1 (.t 54) (.t 53))), none⟩])
  (.ops [] [
  ⟨(some 55), (.op (.mv (.t 8))), none⟩,
  ⟨(some 56), (.op (.bin .shr (.t 55) (.k (.int .u64 32)))), none⟩,
  ⟨(some 8), (.op (.mv (.t 56))), none⟩])))))
  (.ops [] [
  ⟨(some 57), (.op (.bin .add (.t 28) (.k (.int .i64 1)))), none⟩,
  ⟨(some 28), (.op (.mv (.t 57))), none⟩])))))))
  (.ops [] [
  ⟨(some 58), (.op (.mv (.t 5))), none⟩,
  ⟨(some 59), (.op (.mv (.t 6))), none⟩,
  ⟨(some 60), (.op (.mv (.t 1))), none⟩,
  ⟨(some 61), (.op (.lenSl (.t 60))), none⟩,
  ⟨(some 62), (.op (.bin .add (.t 59) (.t 61))), none⟩,
  ⟨(some 63), (.op (.mv (.t 8))), none⟩,
  ⟨(some 64), (.op (.toInt .u32 (.t 63))), none⟩,
  ⟨(some 65), (.op (.ixAddr 1 (.t 58) (.t 62))), none⟩,
  ⟨none, (.op (.store 1 (.t 65) (.t 64))), none⟩]))))))
  (.ops [] [
  ⟨(some 66), (.op (.bin .add (.t 19) (.k (.int .i64 1)))), none⟩,
  ⟨(some 19), (.op (.mv (.t 66))), none⟩])))))))
  (.seq
  (.ops [] [
  ⟨(some 67), (.op (.mv (.t 5))), none⟩,
  ⟨(some 68), (.call (.k (.func (.func 56) #[] #[])) [(.t 67)]), none⟩,
  ⟨(some 4), (.op (.mv (.t 68))), none⟩])
  .ret))))),
  [(.t 4)]⟩
theorem r_limb_Mul : resolveFn Try.prog 93 = some c_limb_Mul := by kernel_rfl

def c_lanyardref07_Mul : RFn :=
  ⟨60,
  (.seq
  (.ops [] [
  ⟨(some 4), (.op (.mv (.k (.slice none 0 0)))), none⟩])
  (.seq
  (.ops [] [
  ⟨(some 9), (.op (.mv (.t 0))), none⟩,
  ⟨(some 10), (.op (.lenSl (.t 9))), none⟩,
  ⟨(some 11), (.op (.mv (.t 1))), none⟩,
  ⟨(some 12), (.op (.lenSl (.t 11))), none⟩,
  ⟨(some 13), (.op (.bin .add (.t 10) (.t 12))), none⟩,
  ⟨(some 14), (.op (.bin .add (.t 13) (.k (.int .i64 1)))), none⟩,
  ⟨(some 15), (.op (.make 1 4 [(.int .u32 0)] (.t 14) (.t 14))), none⟩,
  ⟨(some 5), (.op (.mv (.t 15))), none⟩])
  (.seq
  (.seq
  (.ops [] [
  ⟨(some 6), (.op (.mv (.k (.int .i64 0)))), none⟩])
  (.block 0
  (.loop
  (.seq
  (.seq
  (.ops [] [
  ⟨(some 16), (.op (.mv (.t 6))), none⟩,
  ⟨(some 17), (.op (.mv (.t 0))), none⟩,
  ⟨(some 18), (.op (.lenSl (.t 17))), none⟩,
  ⟨(some 19), (.op (.bin .lss (.t 16) (.t 18))), none⟩])
  (.cond (.t 19)
  .skip
  (.exit 0)))
  (.seq
  (.block 1
  (.seq
  (.ops [] [
  ⟨(some 7), (.op (.mv (.k (.int .u64 0)))), none⟩])
  (.seq
  (.ops [] [
  ⟨(some 8), (.op (.mv (.k (.int .i64 0)))), none⟩])
  (.block 2
  (.loop
  (.seq
  (.seq
  (.ops [] [
  ⟨(some 22), (.op (.mv (.t 8))), none⟩,
  ⟨(some 23), (.op (.mv (.t 1))), none⟩,
  ⟨(some 24), (.op (.lenSl (.t 23))), none⟩,
  ⟨(some 25), (.op (.bin .lss (.t 22) (.t 24))), none⟩,
  ⟨(some 26), (.op (.mv (.t 25))), none⟩,
  ⟨(some 27), (.op (.mv (.t 7))), (some (26, false))⟩,
  ⟨(some 28), (.op (.bin .gtr (.t 27) (.k (.int .u64 0)))), (some (26, false))⟩,
  ⟨(some 29), (.op (.pick (.t 26) (.k (.bool true)) (.t 28))), none⟩])
  (.cond (.t 29)
  .skip
  (.exit 2)))
  (.seq
  (.block 3
  (.seq
  (.ops [
  ⟨(some 32), (.op (.mv (.t 7))), none⟩,
  ⟨(some 33), (.op (.mv (.t 5))), none⟩,
  ⟨(some 34), (.op (.mv (.t 6))), none⟩,
  ⟨(some 35), (.op (.mv (.t 8))), none⟩,
  ⟨(some 36), (.op (.bin .add (.t 34) (.t 35))), none⟩,
  ⟨(some 37), (.op (.ixAddr 1 (.t 33) (.t 36))), none⟩,
  ⟨(some 38), (.op (.load1 (.t 37))), none⟩,
  ⟨(some 39), (.op (.toInt .u64 (.t 38))), none⟩,
  ⟨(some 40), (.op (.bin .add (.t 32) (.t 39))), none⟩,
  ⟨(some 41), (.op (.mv (.t 0))), none⟩,
  ⟨(some 42), (.op (.mv (.t 6))), none⟩,
  ⟨(some 43), (.call (.k (.func (.func 74) #[] #[])) [(.t 41), (.t 42)]), none⟩,
  ⟨(some 44), (.op (.mv (.t 1))), none⟩,
  ⟨(some 45), (.op (.mv (.t 8))), none⟩,
  ⟨(some 46), (.call (.k (.func (.func 74) #[] #[])) [(.t 44), (.t 45)]), none⟩,
  ⟨(some 47), (.op (.bin .mul (.t 43) (.t 46))), none⟩] [
  ⟨(some 48), (.op (.bin .add (.t 40) (.t 47))), none⟩,
  ⟨(some 7), (.op (.mv (.t 48))), none⟩])
  (.seq
  (.ops [] [
  ⟨(some 49), (.op (.mv (.t 5))), none⟩,
  ⟨(some 50), (.op (.mv (.t 6))), none⟩,
  ⟨(some 51), (.op (.mv (.t 8))), none⟩,
  ⟨(some 52), (.op (.bin .add (.t 50) (.t 51))), none⟩,
  ⟨(some 53), (.op (.mv (.t 7))), none⟩,
  ⟨(some 54), (.op (.toInt .u32 (.t 53))), none⟩,
  ⟨(some 55), (.op (.ixAddr 1 (.t 49) (.t 52))), none⟩,
  ⟨none, (.op (.store 1 (.t 55) (.t 54))), none⟩])
  (.ops [] [
  ⟨(some 56), (.op (.mv (.t 7))), none⟩,
  ⟨(some 57), (.op (.bin .shr (.t 56) (.k (.int .u64 32)))), none⟩,
  ⟨(some 7), (.op (.mv (.t 57))), none⟩]))))
  (.ops [] [
  ⟨(some 30), (.op (.mv (.t 8))), none⟩,
  ⟨(some 31), (.op (.bin .add (.t 30) (.k (.int .i64 1)))), none⟩,
  ⟨(some 8), (.op (.mv (.t 31))), none⟩]))))))))
  (.ops [] [
  ⟨(some 20), (.op (.mv (.t 6))), none⟩,
  ⟨(some 21), (.op (.bin .add (.t 20) (.k (.int .i64 1)))), none⟩,
  ⟨(some 6), (.op (.mv (.t 21))), none⟩]))))))
  (.seq
  (.ops [] [
  ⟨(some 58), (.op (.mv (.t 5))), none⟩,
  ⟨(some 59), (.call (.k (.func (.func 73) #[] #[])) [(.t 58)]), none⟩,
  ⟨(some 4), (.op (.mv (.t 59))), none⟩])
  .ret)))),
  [(.t 4)]⟩
theorem r_lanyardref07_Mul : resolveFn Try.prog 53 = some c_lanyardref07_Mul := by kernel_rfl

def c_lanyardref07_From : RFn :=
  ⟨43,
  (.seq
  (.ops [] [
  ⟨(some 2), (.op (.mv (.k (.slice none 0 0)))), none⟩])
  (.seq
  (.ops [] [
  ⟨(some 6), (.op (.mv (.t 0))), none⟩,
  ⟨(some 7), (.op (.lenSl (.t 6))), none⟩,
  ⟨(some 8), (.op (.bin .quo (.t 7) (.k (.int .i64 4)))), none⟩,
  ⟨(some 9), (.op (.bin .add (.t 8) (.k (.int .i64 1)))), none⟩,
  ⟨(some 10), (.op (.make 1 4 [(.int .u32 0)] (.t 9) (.t 9))), none⟩,
  ⟨(some 3), (.op (.mv (.t 10))), none⟩])
  (.seq
  (.seq
  (.ops [] [
  ⟨(some 4), (.op (.mv (.k (.int .i64 0)))), none⟩])
  (.block 0
  (.loop
  (.seq
  (.seq
  (.ops [] [
  ⟨(some 11), (.op (.mv (.t 4))), none⟩,
  ⟨(some 12), (.op (.mv (.t 0))), none⟩,
  ⟨(some 13), (.op (.lenSl (.t 12))), none⟩,
  ⟨(some 14), (.op (.bin .lss (.t 11) (.t 13))), none⟩])
  (.cond (.t 14)
  .skip
  (.exit 0)))
  (.seq
  (.block 1
  (.seq
  (.ops [] [
  ⟨(some 17), (.op (.mv (.t 0))), none⟩,
  ⟨(some 18), (.op (.lenSl (.t 17))), none⟩,
  ⟨(some 19), (.op (.bin .sub (.t 18) (.k (.int .i64 1)))), none⟩,
  ⟨(some 20), (.op (.mv (.t 4))), none⟩,
  ⟨(some 21), (.op (.bin .sub (.t 19) (.t 20))), none⟩,
  ⟨(some 5), (.op (.mv (.t 21))), none⟩])
  (.ops [
  ⟨(some 22), (.op (.mv (.t 3))), none⟩,
  ⟨(some 23), (.op (.mv (.t 5))), none⟩,
  ⟨(some 24), (.op (.bin .quo (.t 23) (.k (.int .i64 4)))), none⟩,
  ⟨(some 25), (.op (.mv (.t 3))), none⟩,
  ⟨(some 26), (.op (.mv (.t 5))), none⟩,
  ⟨(some 27), (.op (.bin .quo (.t 26) (.k (.int .i64 4)))), none⟩,
  ⟨(some 28), (.op (.ixAddr 1 (.t 25) (.t 27))), none⟩,
  ⟨(some 29), (.op (.load1 (.t 28))), none⟩,
  ⟨(some 30), (.op (.mv (.t 0))), none⟩,
  ⟨(some 31), (.op (.mv (.t 4))), none⟩,
  ⟨(some 32), (.op (.ixAddr 1 (.t 30) (.t 31))), none⟩,
  ⟨(some 33), (.op (.load1 (.t 32))), none⟩,
  ⟨(some 34), (.op (.toInt .u32 (.t 33))), none⟩,
  ⟨(some 35), (.op (.mv (.t 5))), none⟩,
  ⟨(some 36), (.op (.bin .rem (.t 35) (.k (.int .i64 4)))), none⟩,
  ⟨(some 37), (.op (.bin .mul (.k (.int .i64 8)) (.t 36))), none⟩,
  ⟨(some 38), (.op (.bin .shl (.t 34) (.t 37))), none⟩,
  ⟨(some 39), (.op (.bin .add (.t 29) (.t 38))), none⟩] [
  ⟨(some 40), (.op (.ixAddr 1 (.t 22) (.t 24))), none⟩,
  ⟨none, (.op (.store 1 (.t 40) (.t 39))), none⟩])))
  (.ops [] [
  ⟨(some 15), (.op (.mv (.t 4))), none⟩,
  ⟨(some 16), (.op (.bin .add (.t 15) (.k (.int .i64 1)))), none⟩,
  ⟨(some 4), (.op (.mv (.t 16))), none⟩]))))))
  (.seq
  (.ops [] [
  ⟨(some 41), (.op (.mv (.t 3))), none⟩,
  ⟨(some 42), (.call (.k (.func (.func 73) #[] #[])) [(.t 41)]), none⟩,
  ⟨(some 2), (.op (.mv (.t 42))), none⟩])
  .ret)))),
  [(.t 2)]⟩
theorem r_lanyardref07_From : resolveFn Try.prog 47 = some c_lanyardref07_From := by kernel_rfl

def c_limb_From : RFn :=
  ⟨41,
  (.seq
  (.ops [] [
  ⟨(some 2), (.op (.mv (.k (.slice none 0 0)))), none⟩])
  (.seq
  (.ops [] [
  ⟨(some 7), (.op (.mv (.t 0))), none⟩,
  ⟨(some 8), (.op (.lenSl (.t 7))), none⟩,
  ⟨(some 9), (.op (.bin .add (.t 8) (.k (.int .i64 4)))), none⟩,
  ⟨(some 10), (.op (.bin .sub (.t 9) (.k (.int .i64 1)))), none⟩,
  ⟨(some 11), (.op (.bin .quo (.t 10) (.k (.int .i64 4)))), none⟩,
  ⟨(some 12), (.op (.make 1 4 [(.int .u32 0)] (.t 11) (.t 11))), none⟩,
  ⟨(some 3), (.op (.mv (.t 12))), none⟩])
  (.seq
  (.seq
  (.ops [] [
  ⟨(some 13), (.op (.mv (.t 0))), none⟩,
  ⟨(some 14), (.op (.lenSl (.t 13))), none⟩,
  ⟨(some 15), (.op (.mv (.k (.int .i64 0)))), none⟩])
  (.block 0
  (.loop
  (.seq
  (.ops [] [
  ⟨(some 16), (.op (.bin .lss (.t 15) (.t 14))), none⟩])
  (.seq
  (.cond (.t 16)
  .skip
  (.exit 0))
  (.seq
  (.block 1
  (.seq
  (.ops [] [
  ⟨(some 17), (.op (.mv (.t 15))), none⟩,
  ⟨(some 18), (.op (.ixAddr 1 (.t 13) (.t 15))), none⟩,
  ⟨(some 19), (.op (.load1 (.t 18))), none⟩,
  ⟨(some 4), (.op (.mv (.t 17))), none⟩,
  ⟨(some 5), (.op (.mv (.t 19))), none⟩])
  (.seq
  (.ops [] [
  ⟨(some 20), (.op (.mv (.t 0))), none⟩,
  ⟨(some 21), (.op (.lenSl (.t 20))), none⟩,
  ⟨(some 22), (.op (.bin .sub (.t 21) (.k (.int .i64 1)))), none⟩,
  ⟨(some 23), (.op (.mv (.t 4))), none⟩,
  ⟨(some 24), (.op (.bin .sub (.t 22) (.t 23))), none⟩,
  ⟨(some 6), (.op (.mv (.t 24))), none⟩])
  (.ops [
  ⟨(some 25), (.op (.mv (.t 3))), none⟩,
  ⟨(some 26), (.op (.mv (.t 6))), none⟩,
  ⟨(some 27), (.op (.bin .quo (.t 26) (.k (.int .i64 4)))), none⟩,
  ⟨(some 28), (.op (.ixAddr 1 (.t 25) (.t 27))), none⟩,
  ⟨(some 29), (.op (.load1 (.t 28))), none⟩,
  ⟨(some 30), (.op (.mv (.t 5))), none⟩,
  ⟨(some 31), (.op (.toInt .u32 (.t 30))), none⟩,
  ⟨(some 32), (.op (.mv (.t 6))), none⟩,
  ⟨(some 33), (.op (.bin .rem (.t 32) (.k (.int .i64 4)))), none⟩,
  ⟨(some 34), (.op (.bin .mul (.t 33) (.k (.int .i64 8)))), none⟩,
  ⟨(some 35), (.op (.bin .shl (.t 31) (.t 34))), none⟩] [
  ⟨(some 36), (.op (.bin .or (.t 29) (.t 35))), none⟩,
  ⟨(some 37), (.op (.ixAddr 1 (.t 25) (.t 27))), none⟩,
  ⟨none, (.op (.store 1 (.t 37) (.t 36))), none⟩]))))
  (.ops [] [
  ⟨(some 38), (.op (.bin .add (.t 15) (.k (.int .i64 1)))), none⟩,
  ⟨(some 15), (.op (.mv (.t 38))), none⟩])))))))
  (.seq
  (.ops [] [
  ⟨(some 39), (.op (.mv (.t 3))), none⟩,
  ⟨(some 40), (.call (.k (.func (.func 56) #[] #[])) [(.t 39)]), none⟩,
  ⟨(some 2), (.op (.mv (.t 40))), none⟩])
  .ret)))),
  [(.t 2)]⟩
theorem r_limb_From : resolveFn Try.prog 34 = some c_limb_From := by kernel_rfl

def c_lanyardref07_To : RFn :=
  ⟨38,
  (.seq
  (.ops [] [
  ⟨(some 2), (.op (.mv (.k (.slice none 0 0)))), none⟩])
  (.seq
  (.ops [] [
  ⟨(some 3), (.op (.mv (.k (.slice none 0 0)))), none⟩])
  (.seq
  (.seq
  (.ops [] [
  ⟨(some 7), (.op (.mv (.t 0))), none⟩,
  ⟨(some 8), (.op (.lenSl (.t 7))), none⟩,
  ⟨(some 9), (.op (.bin .sub (.t 8) (.k (.int .i64 1)))), none⟩,
  ⟨(some 4), (.op (.mv (.t 9))), none⟩])
  (.block 0
  (.loop
  (.seq
  (.seq
  (.ops [] [
  ⟨(some 10), (.op (.mv (.t 4))), none⟩,
  ⟨(some 11), (.op (.bin .geq (.t 10) (.k (.int .i64 0)))), none⟩])
  (.cond (.t 11)
  .skip
  (.exit 0)))
  (.seq
  (.block 1
  (.seq
  (.ops [] [
  ⟨(some 5), (.op (.mv (.k (.int .i64 3)))), none⟩])
  (.block 2
  (.loop
  (.seq
  (.seq
  (.ops [] [
  ⟨(some 14), (.op (.mv (.t 5))), none⟩,
  ⟨(some 15), (.op (.bin .geq (.t 14) (.k (.int .i64 0)))), none⟩])
  (.cond (.t 15)
  .skip
  (.exit 2)))
  (.seq
  (.block 3
  (.seq
  (.ops [] [
  ⟨(some 18), (.op (.mv (.t 0))), none⟩,
  ⟨(some 19), (.op (.mv (.t 4))), none⟩,
  ⟨(some 20), (.op (.ixAddr 1 (.t 18) (.t 19))), none⟩,
  ⟨(some 21), (.op (.load1 (.t 20))), none⟩,
  ⟨(some 22), (.op (.mv (.t 5))), none⟩,
  ⟨(some 23), (.op (.bin .mul (.k (.int .i64 8)) (.t 22))), none⟩,
  ⟨(some 24), (.op (.bin .shr (.t 21) (.t 23))), none⟩,
  ⟨(some 25), (.op (.toInt .u8 (.t 24))), none⟩,
  ⟨(some 6), (.op (.mv (.t 25))), none⟩])
  (.seq
  (.ops [] [
  ⟨(some 26), (.op (.mv (.t 3))), none⟩,
  ⟨(some 27), (.op (.lenSl (.t 26))), none⟩,
  ⟨(some 28), (.op (.bin .gtr (.t 27) (.k (.int .i64 0)))), none⟩,
  ⟨(some 29), (.op (.mv (.t 28))), none⟩,
  ⟨(some 30), (.op (.mv (.t 6))), (some (29, false))⟩,
  ⟨(some 31), (.op (.bin .gtr (.t 30) (.k (.int .u8 0)))), (some (29, false))⟩,
  ⟨(some 32), (.op (.pick (.t 29) (.k (.bool true)) (.t 31))), none⟩])
  (.cond (.t 32)
  (.ops [] [
  ⟨(some 33), (.op (.mv (.t 3))), none⟩,
  ⟨(some 34), (.op (.mv (.t 6))), none⟩,
  ⟨(some 35), (.op (.mkSl 1 [(.int .u8 0)] [(0, (1, (.t 34)))])), none⟩,
  ⟨(some 36), (.op (.append 1 1 (.t 33) (.t 35))), none⟩,
  ⟨(some 3), (.op (.mv (.t 36))), none⟩])
  .skip))))
  (.ops [] [
  ⟨(some 16), (.op (.mv (.t 5))), none⟩,
  ⟨(some 17), (.op (.bin .sub (.t 16) (.k (.int .i64 1)))), none⟩,
  ⟨(some 5), (.op (.mv (.t 17))), none⟩])))))))
  (.ops [] [
  ⟨(some 12), (.op (.mv (.t 4))), none⟩,
  ⟨(some 13), (.op (.bin .sub (.t 12) (.k (.int .i64 1)))), none⟩,
  ⟨(some 4), (.op (.mv (.t 13))), none⟩]))))))
  (.seq
  (.ops [] [
  ⟨(some 37), (.op (.mv (.t 3))), none⟩,
  ⟨(some 2), (.op (.mv (.t 37))), none⟩])
  .ret)))),
  [(.t 2)]⟩
theorem r_lanyardref07_To : resolveFn Try.prog 54 = some c_lanyardref07_To := by kernel_rfl

def c_limb_To : RFn :=
  ⟨34,
  (.seq
  (.ops [] [
  ⟨(some 2), (.op (.mv (.k (.slice none 0 0)))), none⟩])
  (.seq
  (.ops [] [
  ⟨(some 6), (.op (.mv (.t 0))), none⟩,
  ⟨(some 7), (.call (.k (.func (.func 71) #[] #[])) [(.t 6)]), none⟩,
  ⟨(some 8), (.op (.bin .add (.t 7) (.k (.int .i64 7)))), none⟩,
  ⟨(some 9), (.op (.bin .quo (.t 8) (.k (.int .i64 8)))), none⟩,
  ⟨(some 3), (.op (.mv (.t 9))), none⟩])
  (.seq
  (.ops [] [
  ⟨(some 10), (.op (.mv (.t 3))), none⟩,
  ⟨(some 11), (.op (.make 1 1 [(.int .u8 0)] (.t 10) (.t 10))), none⟩,
  ⟨(some 4), (.op (.mv (.t 11))), none⟩])
  (.seq
  (.seq
  (.ops [] [
  ⟨(some 12), (.op (.mv (.t 3))), none⟩,
  ⟨(some 13), (.op (.mv (.k (.int .i64 0)))), none⟩])
  (.block 0
  (.loop
  (.seq
  (.ops [] [
  ⟨(some 14), (.op (.bin .lss (.t 13) (.t 12))), none⟩])
  (.seq
  (.cond (.t 14)
  .skip
  (.exit 0))
  (.seq
  (.block 1
  (.seq
  (.ops [] [
  ⟨(some 15), (.op (.mv (.t 13))), none⟩,
  ⟨(some 5), (.op (.mv (.t 15))), none⟩])
  (.ops [] [
  ⟨(some 16), (.op (.mv (.t 4))), none⟩,
  ⟨(some 17), (.op (.mv (.t 3))), none⟩,
  ⟨(some 18), (.op (.bin .sub (.t 17) (.k (.int .i64 1)))), none⟩,
  ⟨(some 19), (.op (.mv (.t 5))), none⟩,
  ⟨(some 20), (.op (.bin .sub (.t 18) (.t 19))), none⟩,
  ⟨(some 21), (.op (.mv (.t 0))), none⟩,
  ⟨(some 22), (.op (.mv (.t 5))), none⟩,
  ⟨(some 23), (.op (.bin .quo (.t 22) (.k (.int .i64 4)))), none⟩,
  ⟨(some 24), (.op (.ixAddr 1 (.t 21) (.t 23))), none⟩,
  ⟨(some 25), (.op (.load1 (.t 24))), none⟩,
  ⟨(some 26), (.op (.mv (.t 5))), none⟩,
  ⟨(some 27), (.op (.bin .rem (.t 26) (.k (.int .i64 4)))), none⟩,
  ⟨(some 28), (.op (.bin .mul (.t 27) (.k (.int .i64 8)))), none⟩,
  ⟨(some 29), (.op (.bin .shr (.t 25) (.t 28))), none⟩,
  ⟨(some 30), (.op (.toInt .u8 (.t 29))), none⟩,
  ⟨(some 31), (.op (.ixAddr 1 (.t 16) (.t 20))), none⟩,
  ⟨none, (.op (.store 1 (.t 31) (.t 30))), none⟩])))
  (.ops [] [
  ⟨(some 32), (.op (.bin .add (.t 13) (.k (.int .i64 1)))), none⟩,
  ⟨(some 13), (.op (.mv (.t 32))), none⟩])))))))
  (.seq
  (.ops [] [
  ⟨(some 33), (.op (.mv (.t 4))), none⟩,
  ⟨(some 2), (.op (.mv (.t 33))), none⟩])
  .ret))))),
  [(.t 2)]⟩
theorem r_limb_To : resolveFn Try.prog 46 = some c_limb_To := by kernel_rfl

def c_math_bits_Div32 : RFn :=
  ⟨33,
  (.seq
  (.ops [] [
  ⟨(some 6), (.op (.mv (.k (.int .u32 0)))), none⟩,
  ⟨(some 7), (.op (.mv (.k (.int .u32 0)))), none⟩])
  (.seq
  (.seq
  (.ops [] [
  ⟨(some 9), (.op (.mv (.t 2))), none⟩,
  ⟨(some 10), (.op (.bin .neq (.t 9) (.k (.int .u32 0)))), none⟩,
  ⟨(some 11), (.op (.mv (.t 10))), none⟩,
  ⟨(some 12), (.op (.mv (.t 2))), (some (11, true))⟩,
  ⟨(some 13), (.op (.mv (.t 0))), (some (11, true))⟩,
  ⟨(some 14), (.op (.bin .leq (.t 12) (.t 13))), (some (11, true))⟩,
  ⟨(some 15), (.op (.pick (.t 11) (.t 14) (.k (.bool false)))), none⟩])
  (.cond (.t 15)
  (.ops [] [
  ⟨(some 16), (.xop .bad), none⟩,
  ⟨none, (.pan (.t 16)), none⟩])
  .skip))
  (.seq
  (.ops [] [
  ⟨(some 17), (.op (.mv (.t 0))), none⟩,
  ⟨(some 18), (.op (.toInt .u64 (.t 17))), none⟩,
  ⟨(some 19), (.op (.bin .shl (.t 18) (.k (.int .u64 32)))), none⟩,
  ⟨(some 20), (.op (.mv (.t 1))), none⟩,
  ⟨(some 21), (.op (.toInt .u64 (.t 20))), none⟩,
  ⟨(some 22), (.op (.bin .or (.t 19) (.t 21))), none⟩,
  ⟨(some 8), (.op (.mv (.t 22))), none⟩])
  (.seq
  (.ops [
  ⟨(some 23), (.op (.mv (.t 8))), none⟩,
  ⟨(some 24), (.op (.mv (.t 2))), none⟩,
  ⟨(some 25), (.op (.toInt .u64 (.t 24))), none⟩,
  ⟨(some 26), (.op (.bin .quo (.t 23) (.t 25))), none⟩,
  ⟨(some 27), (.op (.toInt .u32 (.t 26))), none⟩,
  ⟨(some 28), (.op (.mv (.t 8))), none⟩,
  ⟨(some 29), (.op (.mv (.t 2))), none⟩,
  ⟨(some 30), (.op (.toInt .u64 (.t 29))), none⟩,
  ⟨(some 31), (.op (.bin .rem (.t 28) (.t 30))), none⟩,
  ⟨(some 32), (.op (.toInt .u32 (.t 31))), none⟩,
  ⟨(some 6), (.op (.mv (.t 27))), none⟩] [
  ⟨(some 7), (.op (.mv (.t 32))), none⟩])
  .ret)))),
  [(.t 6), (.t 7)]⟩
theorem r_math_bits_Div32 : resolveFn Try.prog 96 = some c_math_bits_Div32 := by kernel_rfl

def c_math_bits_LeadingZeros32 : RFn :=
  ⟨6,
  (.seq
  (.ops [] [
  ⟨(some 2), (.op (.mv (.k (.int .i64 0)))), none⟩])
  (.seq
  (.ops [] [
  ⟨(some 3), (.op (.mv (.t 0))), none⟩,
  ⟨(some 4), (.call (.k (.func (.func 92) #[] #[])) [(.t 3)]), none⟩,
  ⟨(some 5), (.op (.bin .sub (.k (.int .i64 32)) (.t 4))), none⟩,
  ⟨(some 2), (.op (.mv (.t 5))), none⟩])
  .ret)),
  [(.t 2)]⟩
theorem r_math_bits_LeadingZeros32 : resolveFn Try.prog 86 = some c_math_bits_LeadingZeros32 := by kernel_rfl

def c_modulo_small : RFn :=
  ⟨37,
  (.seq
  (.ops [] [
  ⟨(some 4), (.op (.mv (.k (.slice none 0 0)))), none⟩,
  ⟨(some 5), (.op (.mv (.k (.slice none 0 0)))), none⟩])
  (.seq
  (.ops [] [
  ⟨(some 9), (.op (.mv (.t 0))), none⟩,
  ⟨(some 10), (.op (.lenSl (.t 9))), none⟩,
  ⟨(some 11), (.op (.make 1 4 [(.int .u32 0)] (.t 10) (.t 10))), none⟩,
  ⟨(some 6), (.op (.mv (.t 11))), none⟩])
  (.seq
  (.ops [] [
  ⟨(some 7), (.op (.mv (.k (.int .u32 0)))), none⟩])
  (.seq
  (.seq
  (.ops [] [
  ⟨(some 12), (.op (.mv (.t 0))), none⟩,
  ⟨(some 13), (.op (.lenSl (.t 12))), none⟩,
  ⟨(some 14), (.op (.bin .sub (.t 13) (.k (.int .i64 1)))), none⟩,
  ⟨(some 8), (.op (.mv (.t 14))), none⟩])
  (.block 0
  (.loop
  (.seq
  (.seq
  (.ops [] [
  ⟨(some 15), (.op (.mv (.t 8))), none⟩,
  ⟨(some 16), (.op (.bin .geq (.t 15) (.k (.int .i64 0)))), none⟩])
  (.cond (.t 16)
  .skip
  (.exit 0)))
  (.seq
  (.block 1
  (.ops [] [
  ⟨(some 20), (.op (.mv (.t 6))), none⟩,
  ⟨(some 21), (.op (.mv (.t 8))), none⟩,
  ⟨(some 22), (.op (.mv (.t 7))), none⟩,
  ⟨(some 23), (.op (.mv (.t 0))), none⟩,
  ⟨(some 24), (.op (.mv (.t 8))), none⟩,
  ⟨(some 25), (.op (.ixAddr 1 (.t 23) (.t 24))), none⟩,
  ⟨(some 26), (.op (.load1 (.t 25))), none⟩,
  ⟨(some 27), (.op (.mv (.t 1))), none⟩,
  ⟨(some 28), (.call (.k (.func (.func 96) #[] #[])) [(.t 22), (.t 26), (.t 27)]), none⟩,
  ⟨(some 19), (.op (.mv (.t 28))), none⟩,
  ⟨(some 29), (.op (.extract (.t 19) 0)), none⟩,
  ⟨(some 30), (.op (.extract (.t 19) 1)), none⟩,
  ⟨(some 31), (.op (.ixAddr 1 (.t 20) (.t 21))), none⟩,
  ⟨none, (.op (.store 1 (.t 31) (.t 29))), none⟩,
  ⟨(some 7), (.op (.mv (.t 30))), none⟩]))
  (.ops [] [
  ⟨(some 17), (.op (.mv (.t 8))), none⟩,
  ⟨(some 18), (.op (.bin .sub (.t 17) (.k (.int .i64 1)))), none⟩,
  ⟨(some 8), (.op (.mv (.t 18))), none⟩]))))))
  (.seq
  (.ops [] [
  ⟨(some 32), (.op (.mv (.t 6))), none⟩,
  ⟨(some 33), (.call (.k (.func (.func 84) #[] #[])) [(.t 32)]), none⟩,
  ⟨(some 34), (.op (.mv (.t 7))), none⟩,
  ⟨(some 35), (.op (.mkSl 1 [(.int .u32 0)] [(0, (1, (.t 34)))])), none⟩,
  ⟨(some 36), (.call (.k (.func (.func 84) #[] #[])) [(.t 35)]), none⟩,
  ⟨(some 4), (.op (.mv (.t 33))), none⟩,
  ⟨(some 5), (.op (.mv (.t 36))), none⟩])
  .ret))))),
  [(.t 4), (.t 5)]⟩
theorem r_modulo_small : resolveFn Try.prog 85 = some c_modulo_small := by kernel_rfl

def c_modulo_shifted : RFn :=
  ⟨40,
  (.seq
  (.ops [] [
  ⟨(some 4), (.op (.mv (.k (.slice none 0 0)))), none⟩])
  (.seq
  (.ops [] [
  ⟨(some 8), (.op (.mv (.t 0))), none⟩,
  ⟨(some 9), (.op (.lenSl (.t 8))), none⟩,
  ⟨(some 10), (.op (.bin .add (.t 9) (.k (.int .i64 1)))), none⟩,
  ⟨(some 11), (.op (.make 1 4 [(.int .u32 0)] (.t 10) (.t 10))), none⟩,
  ⟨(some 5), (.op (.mv (.t 11))), none⟩])
  (.seq
  (.seq
  (.ops [] [
  ⟨(some 12), (.op (.mv (.t 0))), none⟩,
  ⟨(some 13), (.op (.lenSl (.t 12))), none⟩,
  ⟨(some 14), (.op (.mv (.k (.int .i64 0)))), none⟩])
  (.block 0
  (.loop
  (.seq
  (.ops [] [
  ⟨(some 15), (.op (.bin .lss (.t 14) (.t 13))), none⟩])
  (.seq
  (.cond (.t 15)
  .skip
  (.exit 0))
  (.seq
  (.block 1
  (.seq
  (.ops [] [
  ⟨(some 16), (.op (.mv (.t 14))), none⟩,
  ⟨(some 17), (.op (.ixAddr 1 (.t 12) (.t 14))), none⟩,
  ⟨(some 18), (.op (.load1 (.t 17))), none⟩,
  ⟨(some 6), (.op (.mv (.t 16))), none⟩,
  ⟨(some 7), (.op (.mv (.t 18))), none⟩])
  (.seq
  (.ops [
  ⟨(some 19), (.op (.mv (.t 5))), none⟩,
  ⟨(some 20), (.op (.mv (.t 6))), none⟩,
  ⟨(some 21), (.op (.ixAddr 1 (.t 19) (.t 20))), none⟩,
  ⟨(some 22), (.op (.load1 (.t 21))), none⟩,
  ⟨(some 23), (.op (.mv (.t 7))), none⟩,
  ⟨(some 24), (.op (.mv (.t 1))), none⟩,
  ⟨(some 25), (.op (.bin .shl (.t 23) (.t 24))), none⟩] [
  ⟨(some 26), (.op (.bin .or (.t 22) (.t 25))), none⟩,
  ⟨(some 27), (.op (.ixAddr 1 (.t 19) (.t 20))), none⟩,
  ⟨none, (.op (.store 1 (.t 27) (.t 26))), none⟩])
  (.seq
  (.ops [] [
  ⟨(some 28), (.op (.mv (.t 1))), none⟩,
  ⟨(some 29), (.op (.bin .gtr (.t 28) (.k (.int .i64 0)))), none⟩])
  (.cond (.t 29)
  (.ops [] [
  ⟨(some 30), (.op (.mv (.t 5))), none⟩,
  ⟨(some 31), (.op (.mv (.t 6))), none⟩,
  ⟨(some 32), (.op (.bin .add (.t 31) (.k (.int .i64 1)))), none⟩,
  ⟨(some 33), (.op (.mv (.t 7))), none⟩,
  ⟨(some 34), (.op (.mv (.t 1))), none⟩,
  ⟨(some 35), (.op (.bin .sub (.k (.int .i64 32)) (.t 34))), none⟩,
  ⟨(some 36), (.op (.bin .shr (.t 33) (.t 35))), none⟩,
  ⟨(some 37), (.op (.ixAddr 1 (.t 30) (.t 32))), none⟩,
  ⟨none, (.op (.store 1 (.t 37) (.t 36))), none⟩])
  .skip)))))
  (.ops [] [
  ⟨(some 38), (.op (.bin .add (.t 14) (.k (.int .i64 1)))), none⟩,
  ⟨(some 14), (.op (.mv (.t 38))), none⟩])))))))
  (.seq
  (.ops [] [
  ⟨(some 39), (.op (.mv (.t 5))), none⟩,
  ⟨(some 4), (.op (.mv (.t 39))), none⟩])
  .ret)))),
  [(.t 4)]⟩
theorem r_modulo_shifted : resolveFn Try.prog 87 = some c_modulo_shifted := by kernel_rfl

def c_modulo_back : RFn :=
  ⟨44,
  (.seq
  (.ops [] [
  ⟨(some 4), (.op (.mv (.k (.slice none 0 0)))), none⟩])
  (.seq
  (.seq
  (.ops [] [
  ⟨(some 6), (.op (.mv (.t 0))), none⟩,
  ⟨(some 7), (.op (.lenSl (.t 6))), none⟩,
  ⟨(some 8), (.op (.mv (.k (.int .i64 0)))), none⟩])
  (.block 0
  (.loop
  (.seq
  (.ops [] [
  ⟨(some 9), (.op (.bin .lss (.t 8) (.t 7))), none⟩])
  (.seq
  (.cond (.t 9)
  .skip
  (.exit 0))
  (.seq
  (.block 1
  (.seq
  (.ops [] [
  ⟨(some 10), (.op (.mv (.t 8))), none⟩,
  ⟨(some 5), (.op (.mv (.t 10))), none⟩])
  (.seq
  (.ops [] [
  ⟨(some 11), (.op (.mv (.t 0))), none⟩,
  ⟨(some 12), (.op (.mv (.t 5))), none⟩,
  ⟨(some 13), (.op (.ixAddr 1 (.t 11) (.t 12))), none⟩,
  ⟨(some 14), (.op (.load1 (.t 13))), none⟩,
  ⟨(some 15), (.op (.mv (.t 1))), none⟩,
  ⟨(some 16), (.op (.bin .shr (.t 14) (.t 15))), none⟩,
  ⟨(some 17), (.op (.ixAddr 1 (.t 11) (.t 12))), none⟩,
  ⟨none, (.op (.store 1 (.t 17) (.t 16))), none⟩])
  (.seq
  (.ops [] [
  ⟨(some 18), (.op (.mv (.t 1))), none⟩,
  ⟨(some 19), (.op (.bin .gtr (.t 18) (.k (.int .i64 0)))), none⟩,
  ⟨(some 20), (.op (.mv (.t 19))), none⟩,
  ⟨(some 21), (.op (.mv (.t 5))), (some (20, true))⟩,
  ⟨(some 22), (.op (.bin .add (.t 21) (.k (.int .i64 1)))), (some (20, true))⟩,
  ⟨(some 23), (.op (.mv (.t 0))), (some (20, true))⟩,
  ⟨(some 24), (.op (.lenSl (.t 23))), (some (20, true))⟩,
  ⟨(some 25), (.op (.bin .lss (.t 22) (.t 24))), (some (20, true))⟩,
  ⟨(some 26), (.op (.pick (.t 20) (.t 25) (.k (.bool false)))), none⟩])
  (.cond (.t 26)
  (.ops [
  ⟨(some 27), (.op (.mv (.t 0))), none⟩,
  ⟨(some 28), (.op (.mv (.t 5))), none⟩,
  ⟨(some 29), (.op (.ixAddr 1 (.t 27) (.t 28))), none⟩,
  ⟨(some 30), (.op (.load1 (.t 29))), none⟩,
  ⟨(some 31), (.op (.mv (.t 0))), none⟩,
  ⟨(some 32), (.op (.mv (.t 5))), none⟩,
  ⟨(some 33), (.op (.bin .add (.t 32) (.k (.int .i64 1)))), none⟩,
  ⟨(some 34), (.op (.ixAddr 1 (.t 31) (.t 33))), none⟩,
  ⟨(some 35), (.op (.load1 (.t 34))), none⟩,
  ⟨(some 36), (.op (.mv (.t 1))), none⟩,
  ⟨(some 37), (.op (.bin .sub (.k (.int .i64 32)) (.t 36))), none⟩,
  ⟨(some 38), (.op (.bin .shl (.t 35) (.t 37))), none⟩] [
  ⟨(some 39), (.op (.bin .or (.t 30) (.t 38))), none⟩,
  ⟨(some 40), (.op (.ixAddr 1 (.t 27) (.t 28))), none⟩,
  ⟨none, (.op (.store 1 (.t 40) (.t 39))), none⟩])
  .skip)))))
  (.ops [] [
  ⟨(some 41), (.op (.bin .add (.t 8) (.k (.int .i64 1)))), none⟩,
  ⟨(some 8), (.op (.mv (.t 41))), none⟩])))))))
  (.seq
  (.ops [] [
  ⟨(some 42), (.op (.mv (.t 0))), none⟩,
  ⟨(some 43), (.call (.k (.func (.func 84) #[] #[])) [(.t 42)]), none⟩,
  ⟨(some 4), (.op (.mv (.t 43))), none⟩])
  .ret))),
  [(.t 4)]⟩
theorem r_modulo_back : resolveFn Try.prog 91 = some c_modulo_back := by kernel_rfl

def c_modulo_less : RFn :=
  ⟨60,
  (.seq
  (.ops [] [
  ⟨(some 6), (.op (.mv (.k (.bool false)))), none⟩])
  (.seq
  (.ops [] [
  ⟨(some 7), (.op (.mv (.k (.int .u64 0)))), none⟩,
  ⟨(some 8), (.op (.mv (.k (.int .u32 0)))), none⟩])
  (.seq
  (.seq
  (.ops [] [
  ⟨(some 10), (.op (.mv (.t 1))), none⟩,
  ⟨(some 11), (.op (.lenSl (.t 10))), none⟩,
  ⟨(some 12), (.op (.mv (.k (.int .i64 0)))), none⟩])
  (.block 0
  (.loop
  (.seq
  (.ops [] [
  ⟨(some 13), (.op (.bin .lss (.t 12) (.t 11))), none⟩])
  (.seq
  (.cond (.t 13)
  .skip
  (.exit 0))
  (.seq
  (.block 1
  (.seq
  (.ops [] [
  ⟨(some 14), (.op (.mv (.t 12))), none⟩,
  ⟨(some 9), (.op (.mv (.t 14))), none⟩])
  (.seq
  (.ops [] [
  ⟨(some 15), (.op (.mv (.t 7))), none⟩,
  ⟨(some 16), (.op (.mv (.t 2))), none⟩,
  ⟨(some 17), (.op (.toInt .u64 (.t 16))), none⟩,
  ⟨(some 18), (.op (.mv (.t 1))), none⟩,
  ⟨(some 19), (.op (.mv (.t 9))), none⟩,
  ⟨(some 20), (.op (.ixAddr 1 (.t 18) (.t 19))), none⟩,
  ⟨(some 21), (.op (.load1 (.t 20))), none⟩,
  ⟨(some 22), (.op (.toInt .u64 (.t 21))), none⟩,
  ⟨(some 23), (.op (.bin .mul (.t 17) (.t 22))), none⟩,
  ⟨(some 24), (.op (.bin .add (.t 15) (.t 23))), none⟩,
  ⟨(some 7), (.op (.mv (.t 24))), none⟩])
  (.seq
  (.ops [] [
  ⟨(some 26), (.op (.mv (.t 0))), none⟩,
  ⟨(some 27), (.op (.mv (.t 9))), none⟩,
  ⟨(some 28), (.op (.mv (.t 0))), none⟩,
  ⟨(some 29), (.op (.mv (.t 9))), none⟩,
  ⟨(some 30), (.op (.ixAddr 1 (.t 28) (.t 29))), none⟩,
  ⟨(some 31), (.op (.load1 (.t 30))), none⟩,
  ⟨(some 32), (.op (.mv (.t 7))), none⟩,
  ⟨(some 33), (.op (.toInt .u32 (.t 32))), none⟩,
  ⟨(some 34), (.op (.mv (.t 8))), none⟩,
  ⟨(some 35), (.call (.k (.func (.func 97) #[] #[])) [(.t 31), (.t 33), (.t 34)]), none⟩,
  ⟨(some 25), (.op (.mv (.t 35))), none⟩,
  ⟨(some 36), (.op (.extract (.t 25) 0)), none⟩,
  ⟨(some 37), (.op (.extract (.t 25) 1)), none⟩,
  ⟨(some 38), (.op (.ixAddr 1 (.t 26) (.t 27))), none⟩,
  ⟨none, (.op (.store 1 (.t 38) (.t 36))), none⟩,
  ⟨(some 8), (.op (.mv (.t 37))), none⟩])
  (.ops [] [
  ⟨(some 39), (.op (.mv (.t 7))), none⟩,
  ⟨(some 40), (.op (.bin .shr (.t 39) (.k (.int .u64 32)))), none⟩,
  ⟨(some 7), (.op (.mv (.t 40))), none⟩])))))
  (.ops [] [
  ⟨(some 41), (.op (.bin .add (.t 12) (.k (.int .i64 1)))), none⟩,
  ⟨(some 12), (.op (.mv (.t 41))), none⟩])))))))
  (.seq
  (.ops [] [
  ⟨(some 43), (.op (.mv (.t 0))), none⟩,
  ⟨(some 44), (.op (.mv (.t 1))), none⟩,
  ⟨(some 45), (.op (.lenSl (.t 44))), none⟩,
  ⟨(some 46), (.op (.mv (.t 0))), none⟩,
  ⟨(some 47), (.op (.mv (.t 1))), none⟩,
  ⟨(some 48), (.op (.lenSl (.t 47))), none⟩,
  ⟨(some 49), (.op (.ixAddr 1 (.t 46) (.t 48))), none⟩,
  ⟨(some 50), (.op (.load1 (.t 49))), none⟩,
  ⟨(some 51), (.op (.mv (.t 7))), none⟩,
  ⟨(some 52), (.op (.toInt .u32 (.t 51))), none⟩,
  ⟨(some 53), (.op (.mv (.t 8))), none⟩,
  ⟨(some 54), (.call (.k (.func (.func 97) #[] #[])) [(.t 50), (.t 52), (.t 53)]), none⟩,
  ⟨(some 42), (.op (.mv (.t 54))), none⟩,
  ⟨(some 55), (.op (.extract (.t 42) 0)), none⟩,
  ⟨(some 56), (.op (.extract (.t 42) 1)), none⟩,
  ⟨(some 57), (.op (.ixAddr 1 (.t 43) (.t 45))), none⟩,
  ⟨none, (.op (.store 1 (.t 57) (.t 55))), none⟩,
  ⟨(some 8), (.op (.mv (.t 56))), none⟩])
  (.seq
  (.ops [] [
  ⟨(some 58), (.op (.mv (.t 8))), none⟩,
  ⟨(some 59), (.op (.bin .eql (.t 58) (.k (.int .u32 0)))), none⟩,
  ⟨(some 6), (.op (.mv (.t 59))), none⟩])
  .ret))))),
  [(.t 6)]⟩
theorem r_modulo_less : resolveFn Try.prog 89 = some c_modulo_less := by kernel_rfl

def d_modulo_more : List (List Nat) := [[], [], [], [], [2, 3], [4], [], [], [6, 7], [8], [], [5, 9, 10], [11], [12], [12], [0, 1, 0, 1, 2, 3, 4, 5, 6, 7, 8, 9, 10, 11, 12, 13], [15, 13, 11, 0, 1, 2, 3, 4, 5, 6, 7, 8, 9, 10, 11, 12, 13], [14, 16, 0, 1, 2, 3, 4, 5, 6, 7, 8, 9, 10, 11, 12, 13, 14, 15, 16]]
def q_modulo_more : List (Option (List Nat)) := [(some []), (some []), (some []), (some []), none, none, (some []), (some []), none, none, (some []), none, (some [11]), (some [12]), (some [12]), none, none, (some [10, 14])]
def c_modulo_more : RFn :=
  ⟨36,
  (.seq
  (.ops [] [
  ⟨(some 4), (.op (.mv (.k (.int .u32 0)))), none⟩])
  (.seq
  (.seq
  (.ops [] [
  ⟨(some 6), (.op (.mv (.t 1))), none⟩,
  ⟨(some 7), (.op (.lenSl (.t 6))), none⟩,
  ⟨(some 8), (.op (.mv (.k (.int .i64 0)))), none⟩])
  (.block 0
  (.loop
  (.seq
  (.ops [] [
  ⟨(some 9), (.op (.bin .lss (.t 8) (.t 7))), none⟩])
  (.seq
  (.cond (.t 9)
  .skip
  (.exit 0))
  (.seq
  (.block 1
  (.seq
  (.ops [] [
  ⟨(some 10), (.op (.mv (.t 8))), none⟩,
  ⟨(some 5), (.op (.mv (.t 10))), none⟩])
  (.tree [
  ⟨(some 12), (.op (.mv (.t 0))), none⟩,
  ⟨(some 13), (.op (.mv (.t 5))), none⟩,
  ⟨(some 14), (.op (.mv (.t 0))), none⟩,
  ⟨(some 15), (.op (.mv (.t 5))), none⟩,
  ⟨(some 16), (.op (.ixAddr 1 (.t 14) (.t 15))), none⟩,
  ⟨(some 17), (.op (.load1 (.t 16))), none⟩,
  ⟨(some 18), (.op (.mv (.t 1))), none⟩,
  ⟨(some 19), (.op (.mv (.t 5))), none⟩,
  ⟨(some 20), (.op (.ixAddr 1 (.t 18) (.t 19))), none⟩,
  ⟨(some 21), (.op (.load1 (.t 20))), none⟩,
  ⟨(some 22), (.op (.mv (.t 4))), none⟩,
  ⟨(some 23), (.call (.k (.func (.func 98) #[] #[])) [(.t 17), (.t 21), (.t 22)]), none⟩,
  ⟨(some 11), (.op (.mv (.t 23))), none⟩,
  ⟨(some 24), (.op (.extract (.t 11) 0)), none⟩,
  ⟨(some 25), (.op (.extract (.t 11) 1)), none⟩,
  ⟨(some 26), (.op (.ixAddr 1 (.t 12) (.t 13))), none⟩,
  ⟨none, (.op (.store 1 (.t 26) (.t 24))), none⟩,
  ⟨(some 4), (.op (.mv (.t 25))), none⟩] d_modulo_more q_modulo_more)))
  (.ops [] [
  ⟨(some 27), (.op (.bin .add (.t 8) (.k (.int .i64 1)))), none⟩,
  ⟨(some 8), (.op (.mv (.t 27))), none⟩])))))))
  (.ops [] [
  ⟨(some 28), (.op (.mv (.t 0))), none⟩,
  ⟨(some 29), (.op (.mv (.t 1))), none⟩,
  ⟨(some 30), (.op (.lenSl (.t 29))), none⟩,
  ⟨(some 31), (.op (.ixAddr 1 (.t 28) (.t 30))), none⟩,
  ⟨(some 32), (.op (.load1 (.t 31))), none⟩,
  ⟨(some 33), (.op (.mv (.t 4))), none⟩,
  ⟨(some 34), (.op (.bin .add (.t 32) (.t 33))), none⟩,
  ⟨(some 35), (.op (.ixAddr 1 (.t 28) (.t 30))), none⟩,
  ⟨none, (.op (.store 1 (.t 35) (.t 34))), none⟩]))),
  []⟩
theorem r_modulo_more : resolveFn Try.prog 90 [4] = some c_modulo_more := by kernel_rfl

theorem t_modulo_more : nextL d_modulo_more q_modulo_more 0 = [0] ∧ nextL d_modulo_more q_modulo_more 1 = [1] ∧ nextL d_modulo_more q_modulo_more 3 = [2] ∧ nextL d_modulo_more q_modulo_more 7 = [3] ∧ nextL d_modulo_more q_modulo_more 15 = [6] ∧ nextL d_modulo_more q_modulo_more 79 = [7] ∧ nextL d_modulo_more q_modulo_more 207 = [10] ∧ nextL d_modulo_more q_modulo_more 1231 = [4, 8] ∧ nextL d_modulo_more q_modulo_more 1247 = [5, 8] ∧ nextL d_modulo_more q_modulo_more 1279 = [8] ∧ nextL d_modulo_more q_modulo_more 1487 = [4, 9] ∧ nextL d_modulo_more q_modulo_more 1503 = [5, 9] ∧ nextL d_modulo_more q_modulo_more 1535 = [9] ∧ nextL d_modulo_more q_modulo_more 1999 = [4] ∧ nextL d_modulo_more q_modulo_more 2015 = [5] ∧ nextL d_modulo_more q_modulo_more 2047 = [11] ∧ nextL d_modulo_more q_modulo_more 4095 = [12] ∧ nextL d_modulo_more q_modulo_more 8191 = [13] ∧ nextL d_modulo_more q_modulo_more 16383 = [14] ∧ nextL d_modulo_more q_modulo_more 32767 = [15] ∧ nextL d_modulo_more q_modulo_more 65535 = [16] ∧ nextL d_modulo_more q_modulo_more 131071 = [17] ∧ nextL d_modulo_more q_modulo_more 262143 = [] := by decide +kernel

def c_modulo_guess : RFn :=
  ⟨60,
  (.seq
  (.ops [] [
  ⟨(some 2), (.op (.box (.t 0))), none⟩,
  ⟨(some 3), (.op (.box (.t 1))), none⟩,
  ⟨(some 4), (.op (.mv (.k (.int .u32 0)))), none⟩])
  (.scope (.seq
  (.ops [
  ⟨(some 9), (.op (.ixAddrA 3 1 (.t 2) (.k (.int .i64 1)))), none⟩,
  ⟨(some 10), (.op (.load1 (.t 9))), none⟩,
  ⟨(some 11), (.op (.toInt .u64 (.t 10))), none⟩,
  ⟨(some 12), (.op (.ixAddrA 2 1 (.t 3) (.k (.int .i64 0)))), none⟩,
  ⟨(some 13), (.op (.load1 (.t 12))), none⟩,
  ⟨(some 14), (.op (.toInt .u64 (.t 13))), none⟩,
  ⟨(some 15), (.op (.bin .add (.t 11) (.t 14))), none⟩,
  ⟨(some 5), (.op (.mv (.k (.int .u32 4294967295)))), none⟩] [
  ⟨(some 6), (.op (.mv (.t 15))), none⟩])
  (.seq
  (.seq
  (.ops [] [
  ⟨(some 16), (.op (.ixAddrA 3 1 (.t 2) (.k (.int .i64 0)))), none⟩,
  ⟨(some 17), (.op (.load1 (.t 16))), none⟩,
  ⟨(some 18), (.op (.ixAddrA 2 1 (.t 3) (.k (.int .i64 0)))), none⟩,
  ⟨(some 19), (.op (.load1 (.t 18))), none⟩,
  ⟨(some 20), (.op (.bin .lss (.t 17) (.t 19))), none⟩])
  (.cond (.t 20)
  (.seq
  (.ops [] [
  ⟨(some 22), (.op (.ixAddrA 3 1 (.t 2) (.k (.int .i64 0)))), none⟩,
  ⟨(some 23), (.op (.load1 (.t 22))), none⟩,
  ⟨(some 24), (.op (.ixAddrA 3 1 (.t 2) (.k (.int .i64 1)))), none⟩,
  ⟨(some 25), (.op (.load1 (.t 24))), none⟩,
  ⟨(some 26), (.op (.ixAddrA 2 1 (.t 3) (.k (.int .i64 0)))), none⟩,
  ⟨(some 27), (.op (.load1 (.t 26))), none⟩,
  ⟨(some 28), (.call (.k (.func (.func 96) #[] #[])) [(.t 23), (.t 25), (.t 27)]), none⟩,
  ⟨(some 21), (.op (.mv (.t 28))), none⟩,
  ⟨(some 29), (.op (.extract (.t 21) 0)), none⟩,
  ⟨(some 30), (.op (.extract (.t 21) 1)), none⟩,
  ⟨(some 7), (.op (.mv (.t 29))), none⟩,
  ⟨(some 8), (.op (.mv (.t 30))), none⟩])
  (.ops [] [
  ⟨(some 31), (.op (.mv (.t 7))), none⟩,
  ⟨(some 32), (.op (.mv (.t 8))), none⟩,
  ⟨(some 33), (.op (.toInt .u64 (.t 32))), none⟩,
  ⟨(some 5), (.op (.mv (.t 31))), none⟩,
  ⟨(some 6), (.op (.mv (.t 33))), none⟩]))
  .skip))
  (.seq
  (.label 0)
  (.seq
  (.seq
  (.ops [] [
  ⟨(some 34), (.op (.mv (.t 6))), none⟩,
  ⟨(some 35), (.op (.bin .shr (.t 34) (.k (.int .u64 32)))), none⟩,
  ⟨(some 36), (.op (.bin .eql (.t 35) (.k (.int .u64 0)))), none⟩,
  ⟨(some 37), (.op (.mv (.t 36))), none⟩,
  ⟨(some 38), (.op (.mv (.t 5))), (some (37, true))⟩,
  ⟨(some 39), (.op (.toInt .u64 (.t 38))), (some (37, true))⟩,
  ⟨(some 40), (.op (.ixAddrA 2 1 (.t 3) (.k (.int .i64 1)))), (some (37, true))⟩,
  ⟨(some 41), (.op (.load1 (.t 40))), (some (37, true))⟩,
  ⟨(some 42), (.op (.toInt .u64 (.t 41))), (some (37, true))⟩,
  ⟨(some 43), (.op (.bin .mul (.t 39) (.t 42))), (some (37, true))⟩,
  ⟨(some 44), (.op (.mv (.t 6))), (some (37, true))⟩,
  ⟨(some 45), (.op (.bin .shl (.t 44) (.k (.int .u64 32)))), (some (37, true))⟩,
  ⟨(some 46), (.op (.ixAddrA 3 1 (.t 2) (.k (.int .i64 2)))), (some (37, true))⟩,
  ⟨(some 47), (.op (.load1 (.t 46))), (some (37, true))⟩,
  ⟨(some 48), (.op (.toInt .u64 (.t 47))), (some (37, true))⟩,
  ⟨(some 49), (.op (.bin .or (.t 45) (.t 48))), (some (37, true))⟩,
  ⟨(some 50), (.op (.bin .gtr (.t 43) (.t 49))), (some (37, true))⟩,
  ⟨(some 51), (.op (.pick (.t 37) (.t 50) (.k (.bool false)))), none⟩])
  (.cond (.t 51)
  (.seq
  (.ops [] [
  ⟨(some 52), (.op (.mv (.t 5))), none⟩,
  ⟨(some 53), (.op (.bin .sub (.t 52) (.k (.int .u32 1)))), none⟩,
  ⟨(some 5), (.op (.mv (.t 53))), none⟩])
  (.seq
  (.ops [] [
  ⟨(some 54), (.op (.mv (.t 6))), none⟩,
  ⟨(some 55), (.op (.ixAddrA 2 1 (.t 3) (.k (.int .i64 0)))), none⟩,
  ⟨(some 56), (.op (.load1 (.t 55))), none⟩,
  ⟨(some 57), (.op (.toInt .u64 (.t 56))), none⟩,
  ⟨(some 58), (.op (.bin .add (.t 54) (.t 57))), none⟩,
  ⟨(some 6), (.op (.mv (.t 58))), none⟩])
  (.goto 0)))
  .skip))
  (.seq
  (.ops [] [
  ⟨(some 59), (.op (.mv (.t 5))), none⟩,
  ⟨(some 4), (.op (.mv (.t 59))), none⟩])
  .ret))))) 0 (.seq
  .skip
  (.seq
  (.seq
  (.ops [] [
  ⟨(some 34), (.op (.mv (.t 6))), none⟩,
  ⟨(some 35), (.op (.bin .shr (.t 34) (.k (.int .u64 32)))), none⟩,
  ⟨(some 36), (.op (.bin .eql (.t 35) (.k (.int .u64 0)))), none⟩,
  ⟨(some 37), (.op (.mv (.t 36))), none⟩,
  ⟨(some 38), (.op (.mv (.t 5))), (some (37, true))⟩,
  ⟨(some 39), (.op (.toInt .u64 (.t 38))), (some (37, true))⟩,
  ⟨(some 40), (.op (.ixAddrA 2 1 (.t 3) (.k (.int .i64 1)))), (some (37, true))⟩,
  ⟨(some 41), (.op (.load1 (.t 40))), (some (37, true))⟩,
  ⟨(some 42), (.op (.toInt .u64 (.t 41))), (some (37, true))⟩,
  ⟨(some 43), (.op (.bin .mul (.t 39) (.t 42))), (some (37, true))⟩,
  ⟨(some 44), (.op (.mv (.t 6))), (some (37, true))⟩,
  ⟨(some 45), (.op (.bin .shl (.t 44) (.k (.int .u64 32)))), (some (37, true))⟩,
  ⟨(some 46), (.op (.ixAddrA 3 1 (.t 2) (.k (.int .i64 2)))), (some (37, true))⟩,
  ⟨(some 47), (.op (.load1 (.t 46))), (some (37, true))⟩,
  ⟨(some 48), (.op (.toInt .u64 (.t 47))), (some (37, true))⟩,
  ⟨(some 49), (.op (.bin .or (.t 45) (.t 48))), (some (37, true))⟩,
  ⟨(some 50), (.op (.bin .gtr (.t 43) (.t 49))), (some (37, true))⟩,
  ⟨(some 51), (.op (.pick (.t 37) (.t 50) (.k (.bool false)))), none⟩])
  (.cond (.t 51)
  (.seq
  (.ops [] [
  ⟨(some 52), (.op (.mv (.t 5))), none⟩,
  ⟨(some 53), (.op (.bin .sub (.t 52) (.k (.int .u32 1)))), none⟩,
  ⟨(some 5), (.op (.mv (.t 53))), none⟩])
  (.seq
  (.ops [] [
  ⟨(some 54), (.op (.mv (.t 6))), none⟩,
  ⟨(some 55), (.op (.ixAddrA 2 1 (.t 3) (.k (.int .i64 0)))), none⟩,
  ⟨(some 56), (.op (.load1 (.t 55))), none⟩,
  ⟨(some 57), (.op (.toInt .u64 (.t 56))), none⟩,
  ⟨(some 58), (.op (.bin .add (.t 54) (.t 57))), none⟩,
  ⟨(some 6), (.op (.mv (.t 58))), none⟩])
  (.goto 0)))
  .skip))
  (.seq
  (.ops [] [
  ⟨(some 59), (.op (.mv (.t 5))), none⟩,
  ⟨(some 4), (.op (.mv (.t 59))), none⟩])
  .ret))))),
  [(.t 4)]⟩
theorem r_modulo_guess : resolveFn Try.prog 88 = some c_modulo_guess := by kernel_rfl

def c_modulo_DivMod : RFn :=
  ⟨133,
  (.seq
  (.ops [] [
  ⟨(some 4), (.op (.mv (.k (.slice none 0 0)))), none⟩,
  ⟨(some 5), (.op (.mv (.k (.slice none 0 0)))), none⟩,
  ⟨(some 6), (.op (.mv (.k (.bool false)))), none⟩])
  (.seq
  (.ops [] [
  ⟨(some 13), (.op (.mv (.t 0))), none⟩,
  ⟨(some 14), (.call (.k (.func (.func 84) #[] #[])) [(.t 13)]), none⟩,
  ⟨(some 15), (.op (.mv (.t 1))), none⟩,
  ⟨(some 16), (.call (.k (.func (.func 84) #[] #[])) [(.t 15)]), none⟩,
  ⟨(some 0), (.op (.mv (.t 14))), none⟩,
  ⟨(some 1), (.op (.mv (.t 16))), none⟩])
  (.seq
  (.block 0
  (.seq
  (.ops [] [
  ⟨(some 18), (.op (.mv (.t 1))), none⟩,
  ⟨(some 19), (.op (.lenSl (.t 18))), none⟩,
  ⟨(some 20), (.op (.bin .eql (.t 19) (.k (.int .i64 0)))), none⟩,
  ⟨(some 17), (.op (.mv (.t 20))), none⟩])
  (.cond (.t 17)
  (.seq
  (.ops [] [
  ⟨(some 4), (.op (.mv (.k (.slice none 0 0)))), none⟩,
  ⟨(some 5), (.op (.mv (.k (.slice none 0 0)))), none⟩,
  ⟨(some 6), (.op (.mv (.k (.bool false)))), none⟩])
  .ret)
  (.seq
  (.ops [] [
  ⟨(some 22), (.op (.mv (.t 0))), none⟩,
  ⟨(some 23), (.op (.mv (.t 1))), none⟩,
  ⟨(some 24), (.call (.k (.func (.func 33) #[] #[])) [(.t 22), (.t 23)]), none⟩,
  ⟨(some 25), (.op (.bin .lss (.t 24) (.k (.int .i64 0)))), none⟩,
  ⟨(some 21), (.op (.mv (.t 25))), none⟩])
  (.cond (.t 21)
  (.seq
  (.ops [] [
  ⟨(some 26), (.op (.mv (.t 0))), none⟩,
  ⟨(some 4), (.op (.mv (.k (.slice none 0 0)))), none⟩,
  ⟨(some 5), (.op (.mv (.t 26))), none⟩,
  ⟨(some 6), (.op (.mv (.k (.bool true)))), none⟩])
  .ret)
  (.seq
  (.ops [] [
  ⟨(some 28), (.op (.mv (.t 1))), none⟩,
  ⟨(some 29), (.op (.lenSl (.t 28))), none⟩,
  ⟨(some 30), (.op (.bin .eql (.t 29) (.k (.int .i64 1)))), none⟩,
  ⟨(some 27), (.op (.mv (.t 30))), none⟩])
  (.cond (.t 27)
  (.seq
  (.ops [] [
  ⟨(some 32), (.op (.mv (.t 0))), none⟩,
  ⟨(some 33), (.op (.mv (.t 1))), none⟩,
  ⟨(some 34), (.op (.ixAddr 1 (.t 33) (.k (.int .i64 0)))), none⟩,
  ⟨(some 35), (.op (.load1 (.t 34))), none⟩,
  ⟨(some 36), (.call (.k (.func (.func 85) #[] #[])) [(.t 32), (.t 35)]), none⟩,
  ⟨(some 31), (.op (.mv (.t 36))), none⟩,
  ⟨(some 37), (.op (.extract (.t 31) 0)), none⟩,
  ⟨(some 38), (.op (.extract (.t 31) 1)), none⟩,
  ⟨(some 4), (.op (.mv (.t 37))), none⟩,
  ⟨(some 5), (.op (.mv (.t 38))), none⟩])
  (.seq
  (.ops [] [
  ⟨(some 39), (.op (.mv (.t 4))), none⟩,
  ⟨(some 40), (.op (.mv (.t 5))), none⟩,
  ⟨(some 4), (.op (.mv (.t 39))), none⟩,
  ⟨(some 5), (.op (.mv (.t 40))), none⟩,
  ⟨(some 6), (.op (.mv (.k (.bool true)))), none⟩])
  .ret))
  .skip)))))))
  (.seq
  (.ops [] [
  ⟨(some 41), (.op (.mv (.t 1))), none⟩,
  ⟨(some 42), (.op (.mv (.t 1))), none⟩,
  ⟨(some 43), (.op (.lenSl (.t 42))), none⟩,
  ⟨(some 44), (.op (.bin .sub (.t 43) (.k (.int .i64 1)))), none⟩,
  ⟨(some 45), (.op (.ixAddr 1 (.t 41) (.t 44))), none⟩,
  ⟨(some 46), (.op (.load1 (.t 45))), none⟩,
  ⟨(some 47), (.call (.k (.func (.func 86) #[] #[])) [(.t 46)]), none⟩,
  ⟨(some 7), (.op (.mv (.t 47))), none⟩])
  (.seq
  (.ops [] [
  ⟨(some 48), (.op (.mv (.t 0))), none⟩,
  ⟨(some 49), (.op (.mv (.t 7))), none⟩,
  ⟨(some 50), (.call (.k (.func (.func 87) #[] #[])) [(.t 48), (.t 49)]), none⟩,
  ⟨(some 8), (.op (.mv (.t 50))), none⟩])
  (.seq
  (.ops [] [
  ⟨(some 51), (.op (.mv (.t 1))), none⟩,
  ⟨(some 52), (.op (.mv (.t 7))), none⟩,
  ⟨(some 53), (.call (.k (.func (.func 87) #[] #[])) [(.t 51), (.t 52)]), none⟩,
  ⟨(some 54), (.call (.k (.func (.func 84) #[] #[])) [(.t 53)]), none⟩,
  ⟨(some 1), (.op (.mv (.t 54))), none⟩])
  (.seq
  (.ops [] [
  ⟨(some 55), (.op (.mv (.t 1))), none⟩,
  ⟨(some 56), (.op (.lenSl (.t 55))), none⟩,
  ⟨(some 9), (.op (.mv (.t 56))), none⟩])
  (.seq
  (.ops [] [
  ⟨(some 57), (.op (.mv (.t 8))), none⟩,
  ⟨(some 58), (.op (.lenSl (.t 57))), none⟩,
  ⟨(some 59), (.op (.mv (.t 9))), none⟩,
  ⟨(some 60), (.op (.bin .sub (.t 58) (.t 59))), none⟩,
  ⟨(some 61), (.op (.make 1 4 [(.int .u32 0)] (.t 60) (.t 60))), none⟩,
  ⟨(some 4), (.op (.mv (.t 61))), none⟩])
  (.seq
  (.seq
  (.ops [] [
  ⟨(some 62), (.op (.mv (.t 8))), none⟩,
  ⟨(some 63), (.op (.lenSl (.t 62))), none⟩,
  ⟨(some 64), (.op (.mv (.t 9))), none⟩,
  ⟨(some 65), (.op (.bin .sub (.t 63) (.t 64))), none⟩,
  ⟨(some 66), (.op (.bin .sub (.t 65) (.k (.int .i64 1)))), none⟩,
  ⟨(some 10), (.op (.mv (.t 66))), none⟩])
  (.block 1
  (.loop
  (.seq
  (.seq
  (.ops [] [
  ⟨(some 67), (.op (.mv (.t 10))), none⟩,
  ⟨(some 68), (.op (.bin .geq (.t 67) (.k (.int .i64 0)))), none⟩])
  (.cond (.t 68)
  .skip
  (.exit 1)))
  (.seq
  (.block 2
  (.seq
  (.ops [
  ⟨(some 71), (.op (.mv (.t 8))), none⟩,
  ⟨(some 72), (.op (.mv (.t 10))), none⟩,
  ⟨(some 73), (.op (.mv (.t 9))), none⟩,
  ⟨(some 74), (.op (.bin .add (.t 72) (.t 73))), none⟩,
  ⟨(some 75), (.op (.ixAddr 1 (.t 71) (.t 74))), none⟩,
  ⟨(some 76), (.op (.load1 (.t 75))), none⟩,
  ⟨(some 77), (.op (.mv (.t 8))), none⟩,
  ⟨(some 78), (.op (.mv (.t 10))), none⟩,
  ⟨(some 79), (.op (.mv (.t 9))), none⟩,
  ⟨(some 80), (.op (.bin .add (.t 78) (.t 79))), none⟩,
  ⟨(some 81), (.op (.bin .sub (.t 80) (.k (.int .i64 1)))), none⟩,
  ⟨(some 82), (.op (.ixAddr 1 (.t 77) (.t 81))), none⟩,
  ⟨(some 83), (.op (.load1 (.t 82))), none⟩,
  ⟨(some 84), (.op (.mv (.t 8))), none⟩,
  ⟨(some 85), (.op (.mv (.t 10))), none⟩,
  ⟨(some 86), (.op (.mv (.t 9))), none⟩,
  ⟨(some 87), (.op (.bin .add (.t 85) (.t 86))), none⟩,
  ⟨(some 88), (.op (.bin .sub (.t 87) (.k (.int .i64 2)))), none⟩,
  ⟨(some 89), (.op (.ixAddr 1 (.t 84) (.t 88))), none⟩,
  ⟨(some 90), (.op (.load1 (.t 89))), none⟩,
  ⟨(some 91), (.op (.build [(.int .u32 0), (.int .u32 0), (.int .u32 0)] [(0, (1, (.t 76))), (1, (1, (.t 83))), (2, (1, (.t 90)))])), none⟩,
  ⟨(some 11), (.op (.new [(.int .u32 0), (.int .u32 0), (.int .u32 0)])), none⟩] [
  ⟨none, (.op (.store 3 (.t 11) (.t 91))), none⟩])
  (.seq
  (.seq
  (.ops [] [
  ⟨(some 92), (.op (.loadN 3 (.t 11))), none⟩,
  ⟨(some 93), (.op (.build [(.int .u32 0), (.int .u32 0), (.int .u32 0)] [])), none⟩,
  ⟨(some 94), (.op (.eqA .eql 109 (.t 92) (.t 93))), none⟩])
  (.cond (.t 94)
  (.exit 2)
  .skip))
  (.seq
  (.ops [
  ⟨(some 95), (.op (.loadN 3 (.t 11))), none⟩,
  ⟨(some 96), (.op (.mv (.t 1))), none⟩,
  ⟨(some 97), (.op (.mv (.t 9))), none⟩,
  ⟨(some 98), (.op (.bin .sub (.t 97) (.k (.int .i64 1)))), none⟩,
  ⟨(some 99), (.op (.ixAddr 1 (.t 96) (.t 98))), none⟩,
  ⟨(some 100), (.op (.load1 (.t 99))), none⟩,
  ⟨(some 101), (.op (.mv (.t 1))), none⟩,
  ⟨(some 102), (.op (.mv (.t 9))), none⟩,
  ⟨(some 103), (.op (.bin .sub (.t 102) (.k (.int .i64 2)))), none⟩,
  ⟨(some 104), (.op (.ixAddr 1 (.t 101) (.t 103))), none⟩,
  ⟨(some 105), (.op (.load1 (.t 104))), none⟩,
  ⟨(some 106), (.op (.build [(.int .u32 0), (.int .u32 0)] [(0, (1, (.t 100))), (1, (1, (.t 105)))])), none⟩] [
  ⟨(some 107), (.call (.k (.func (.func 88) #[] #[])) [(.t 95), (.t 106)]), none⟩,
  ⟨(some 12), (.op (.mv (.t 107))), none⟩])
  (.seq
  (.seq
  (.ops [] [
  ⟨(some 108), (.op (.mv (.t 8))), none⟩,
  ⟨(some 109), (.op (.mv (.t 10))), none⟩,
  ⟨(some 110), (.op (.sl 1 (.t 108) (some (.t 109)) none none)), none⟩,
  ⟨(some 111), (.op (.mv (.t 1))), none⟩,
  ⟨(some 112), (.op (.mv (.t 12))), none⟩,
  ⟨(some 113), (.call (.k (.func (.func 89) #[] #[])) [(.t 110), (.t 111), (.t 112)]), none⟩,
  ⟨(some 114), (.op (.un .not (.t 113))), none⟩])
  (.cond (.t 114)
  (.seq
  (.ops [] [
  ⟨(some 115), (.op (.mv (.t 8))), none⟩,
  ⟨(some 116), (.op (.mv (.t 10))), none⟩,
  ⟨(some 117), (.op (.sl 1 (.t 115) (some (.t 116)) none none)), none⟩,
  ⟨(some 118), (.op (.mv (.t 1))), none⟩,
  ⟨(some 119), (.call (.k (.func (.func 90) #[] #[])) [(.t 117), (.t 118)]), none⟩])
  (.ops [] [
  ⟨(some 120), (.op (.mv (.t 12))), none⟩,
  ⟨(some 121), (.op (.bin .sub (.t 120) (.k (.int .u32 1)))), none⟩,
  ⟨(some 12), (.op (.mv (.t 121))), none⟩]))
  .skip))
  (.ops [] [
  ⟨(some 122), (.op (.mv (.t 4))), none⟩,
  ⟨(some 123), (.op (.mv (.t 10))), none⟩,
  ⟨(some 124), (.op (.mv (.t 12))), none⟩,
  ⟨(some 125), (.op (.ixAddr 1 (.t 122) (.t 123))), none⟩,
  ⟨none, (.op (.store 1 (.t 125) (.t 124))), none⟩]))))))
  (.ops [] [
  ⟨(some 69), (.op (.mv (.t 10))), none⟩,
  ⟨(some 70), (.op (.bin .sub (.t 69) (.k (.int .i64 1)))), none⟩,
  ⟨(some 10), (.op (.mv (.t 70))), none⟩]))))))
  (.seq
  (.ops [
  ⟨(some 126), (.op (.mv (.t 4))), none⟩,
  ⟨(some 127), (.call (.k (.func (.func 84) #[] #[])) [(.t 126)]), none⟩,
  ⟨(some 128), (.op (.mv (.t 8))), none⟩,
  ⟨(some 129), (.op (.mv (.t 9))), none⟩,
  ⟨(some 130), (.op (.sl 1 (.t 128) none (some (.t 129)) none)), none⟩,
  ⟨(some 131), (.op (.mv (.t 7))), none⟩] [
  ⟨(some 132), (.call (.k (.func (.func 91) #[] #[])) [(.t 130), (.t 131)]), none⟩,
  ⟨(some 4), (.op (.mv (.t 127))), none⟩,
  ⟨(some 5), (.op (.mv (.t 132))), none⟩,
  ⟨(some 6), (.op (.mv (.k (.bool true)))), none⟩])
  .ret)))))))))),
  [(.t 4), (.t 5), (.t 6)]⟩
theorem r_modulo_DivMod : resolveFn Try.prog 70 = some c_modulo_DivMod := by kernel_rfl

def c_modulo_Exp : RFn :=
  ⟨60,
  (.seq
  (.ops [] [
  ⟨(some 6), (.op (.mv (.k (.slice none 0 0)))), none⟩,
  ⟨(some 7), (.op (.mv (.k (.bool false)))), none⟩])
  (.seq
  (.ops [] [
  ⟨(some 13), (.op (.mkSl 1 [(.int .u32 0)] [(0, (1, (.k (.int .u32 1))))])), none⟩,
  ⟨(some 14), (.op (.mv (.t 2))), none⟩,
  ⟨(some 15), (.call (.k (.func (.func 70) #[] #[])) [(.t 13), (.t 14)]), none⟩,
  ⟨(some 12), (.op (.mv (.t 15))), none⟩,
  ⟨(some 16), (.op (.extract (.t 12) 0)), none⟩,
  ⟨(some 17), (.op (.extract (.t 12) 1)), none⟩,
  ⟨(some 18), (.op (.extract (.t 12) 2)), none⟩,
  ⟨(some 8), (.op (.mv (.t 16))), none⟩,
  ⟨(some 9), (.op (.mv (.t 17))), none⟩,
  ⟨(some 10), (.op (.mv (.t 18))), none⟩])
  (.seq
  (.seq
  (.ops [] [
  ⟨(some 19), (.op (.mv (.t 10))), none⟩,
  ⟨(some 20), (.op (.un .not (.t 19))), none⟩])
  (.cond (.t 20)
  (.seq
  (.ops [] [
  ⟨(some 6), (.op (.mv (.k (.slice none 0 0)))), none⟩,
  ⟨(some 7), (.op (.mv (.k (.bool false)))), none⟩])
  .ret)
  .skip))
  (.seq
  (.ops [] [
  ⟨(some 22), (.op (.mv (.t 0))), none⟩,
  ⟨(some 23), (.op (.mv (.t 2))), none⟩,
  ⟨(some 24), (.call (.k (.func (.func 70) #[] #[])) [(.t 22), (.t 23)]), none⟩,
  ⟨(some 21), (.op (.mv (.t 24))), none⟩,
  ⟨(some 25), (.op (.extract (.t 21) 0)), none⟩,
  ⟨(some 26), (.op (.extract (.t 21) 1)), none⟩,
  ⟨(some 27), (.op (.extract (.t 21) 2)), none⟩,
  ⟨(some 0), (.op (.mv (.t 26))), none⟩])
  (.seq
  (.seq
  (.ops [] [
  ⟨(some 28), (.op (.mv (.t 1))), none⟩,
  ⟨(some 29), (.call (.k (.func (.func 71) #[] #[])) [(.t 28)]), none⟩,
  ⟨(some 30), (.op (.bin .sub (.t 29) (.k (.int .i64 1)))), none⟩,
  ⟨(some 11), (.op (.mv (.t 30))), none⟩])
  (.block 0
  (.loop
  (.seq
  (.seq
  (.ops [] [
  ⟨(some 31), (.op (.mv (.t 11))), none⟩,
  ⟨(some 32), (.op (.bin .geq (.t 31) (.k (.int .i64 0)))), none⟩])
  (.cond (.t 32)
  .skip
  (.exit 0)))
  (.seq
  (.block 1
  (.seq
  (.ops [] [
  ⟨(some 36), (.op (.mv (.t 9))), none⟩,
  ⟨(some 37), (.op (.mv (.t 9))), none⟩,
  ⟨(some 38), (.op (.mv (.t 2))), none⟩,
  ⟨(some 39), (.call (.k (.func (.func 72) #[] #[])) [(.t 36), (.t 37), (.t 38)]), none⟩,
  ⟨(some 35), (.op (.mv (.t 39))), none⟩,
  ⟨(some 40), (.op (.extract (.t 35) 0)), none⟩,
  ⟨(some 41), (.op (.extract (.t 35) 1)), none⟩,
  ⟨(some 9), (.op (.mv (.t 40))), none⟩])
  (.seq
  (.ops [] [
  ⟨(some 42), (.op (.mv (.t 1))), none⟩,
  ⟨(some 43), (.op (.mv (.t 11))), none⟩,
  ⟨(some 44), (.op (.bin .quo (.t 43) (.k (.int .i64 32)))), none⟩,
  ⟨(some 45), (.op (.ixAddr 1 (.t 42) (.t 44))), none⟩,
  ⟨(some 46), (.op (.load1 (.t 45))), none⟩,
  ⟨(some 47), (.op (.mv (.t 11))), none⟩,
  ⟨(some 48), (.op (.bin .rem (.t 47) (.k (.int .i64 32)))), none⟩,
  ⟨(some 49), (.op (.bin .shr (.t 46) (.t 48))), none⟩,
  ⟨(some 50), (.op (.bin .and (.t 49) (.k (.int .u32 1)))), none⟩,
  ⟨(some 51), (.op (.bin .eql (.t 50) (.k (.int .u32 1)))), none⟩])
  (.cond (.t 51)
  (.ops [] [
  ⟨(some 53), (.op (.mv (.t 9))), none⟩,
  ⟨(some 54), (.op (.mv (.t 0))), none⟩,
  ⟨(some 55), (.op (.mv (.t 2))), none⟩,
  ⟨(some 56), (.call (.k (.func (.func 72) #[] #[])) [(.t 53), (.t 54), (.t 55)]), none⟩,
  ⟨(some 52), (.op (.mv (.t 56))), none⟩,
  ⟨(some 57), (.op (.extract (.t 52) 0)), none⟩,
  ⟨(some 58), (.op (.extract (.t 52) 1)), none⟩,
  ⟨(some 9), (.op (.mv (.t 57))), none⟩])
  .skip))))
  (.ops [] [
  ⟨(some 33), (.op (.mv (.t 11))), none⟩,
  ⟨(some 34), (.op (.bin .sub (.t 33) (.k (.int .i64 1)))), none⟩,
  ⟨(some 11), (.op (.mv (.t 34))), none⟩]))))))
  (.seq
  (.ops [] [
  ⟨(some 59), (.op (.mv (.t 9))), none⟩,
  ⟨(some 6), (.op (.mv (.t 59))), none⟩,
  ⟨(some 7), (.op (.mv (.k (.bool true)))), none⟩])
  .ret)))))),
  [(.t 6), (.t 7)]⟩
theorem r_modulo_Exp : resolveFn Try.prog 45 = some c_modulo_Exp := by kernel_rfl

def c_modulo_Mul : RFn :=
  ⟨22,
  (.seq
  (.ops [] [
  ⟨(some 6), (.op (.mv (.k (.slice none 0 0)))), none⟩,
  ⟨(some 7), (.op (.mv (.k (.bool false)))), none⟩])
  (.seq
  (.ops [] [
  ⟨(some 12), (.op (.mv (.t 0))), none⟩,
  ⟨(some 13), (.op (.mv (.t 1))), none⟩,
  ⟨(some 14), (.call (.k (.func (.func 93) #[] #[])) [(.t 12), (.t 13)]), none⟩,
  ⟨(some 15), (.op (.mv (.t 2))), none⟩,
  ⟨(some 16), (.call (.k (.func (.func 70) #[] #[])) [(.t 14), (.t 15)]), none⟩,
  ⟨(some 11), (.op (.mv (.t 16))), none⟩,
  ⟨(some 17), (.op (.extract (.t 11) 0)), none⟩,
  ⟨(some 18), (.op (.extract (.t 11) 1)), none⟩,
  ⟨(some 19), (.op (.extract (.t 11) 2)), none⟩,
  ⟨(some 8), (.op (.mv (.t 17))), none⟩,
  ⟨(some 9), (.op (.mv (.t 18))), none⟩,
  ⟨(some 10), (.op (.mv (.t 19))), none⟩])
  (.seq
  (.ops [] [
  ⟨(some 20), (.op (.mv (.t 9))), none⟩,
  ⟨(some 21), (.op (.mv (.t 10))), none⟩,
  ⟨(some 6), (.op (.mv (.t 20))), none⟩,
  ⟨(some 7), (.op (.mv (.t 21))), none⟩])
  .ret))),
  [(.t 6), (.t 7)]⟩
theorem r_modulo_Mul : resolveFn Try.prog 72 = some c_modulo_Mul := by kernel_rfl

def c_lanyardref08_bit : RFn :=
  ⟨14,
  (.seq
  (.ops [] [
  ⟨(some 4), (.op (.mv (.k (.int .u32 0)))), none⟩])
  (.seq
  (.ops [] [
  ⟨(some 5), (.op (.mv (.t 0))), none⟩,
  ⟨(some 6), (.op (.mv (.t 1))), none⟩,
  ⟨(some 7), (.op (.bin .quo (.t 6) (.k (.int .i64 32)))), none⟩,
  ⟨(some 8), (.op (.ixAddr 1 (.t 5) (.t 7))), none⟩,
  ⟨(some 9), (.op (.load1 (.t 8))), none⟩,
  ⟨(some 10), (.op (.mv (.t 1))), none⟩,
  ⟨(some 11), (.op (.bin .rem (.t 10) (.k (.int .i64 32)))), none⟩,
  ⟨(some 12), (.op (.bin .shr (.t 9) (.t 11))), none⟩,
  ⟨(some 13), (.op (.bin .rem (.t 12) (.k (.int .u32 2)))), none⟩,
  ⟨(some 4), (.op (.mv (.t 13))), none⟩])
  .ret)),
  [(.t 4)]⟩
theorem r_lanyardref08_bit : resolveFn Try.prog 78 = some c_lanyardref08_bit := by kernel_rfl

def c_lanyardref08_less : RFn :=
  ⟨31,
  (.seq
  (.ops [] [
  ⟨(some 4), (.op (.mv (.k (.bool false)))), none⟩])
  (.seq
  (.seq
  (.ops [] [
  ⟨(some 6), (.op (.mv (.t 0))), none⟩,
  ⟨(some 7), (.op (.lenSl (.t 6))), none⟩,
  ⟨(some 8), (.op (.bin .sub (.t 7) (.k (.int .i64 1)))), none⟩,
  ⟨(some 5), (.op (.mv (.t 8))), none⟩])
  (.block 0
  (.loop
  (.seq
  (.seq
  (.ops [] [
  ⟨(some 9), (.op (.mv (.t 5))), none⟩,
  ⟨(some 10), (.op (.bin .geq (.t 9) (.k (.int .i64 0)))), none⟩])
  (.cond (.t 10)
  .skip
  (.exit 0)))
  (.seq
  (.block 1
  (.seq
  (.ops [
  ⟨(some 13), (.op (.mv (.t 0))), none⟩,
  ⟨(some 14), (.op (.mv (.t 5))), none⟩,
  ⟨(some 15), (.op (.ixAddr 1 (.t 13) (.t 14))), none⟩,
  ⟨(some 16), (.op (.load1 (.t 15))), none⟩,
  ⟨(some 17), (.op (.mv (.t 1))), none⟩,
  ⟨(some 18), (.op (.mv (.t 5))), none⟩,
  ⟨(some 19), (.op (.ixAddr 1 (.t 17) (.t 18))), none⟩,
  ⟨(some 20), (.op (.load1 (.t 19))), none⟩] [
  ⟨(some 21), (.op (.bin .neq (.t 16) (.t 20))), none⟩])
  (.cond (.t 21)
  (.seq
  (.ops [
  ⟨(some 22), (.op (.mv (.t 0))), none⟩,
  ⟨(some 23), (.op (.mv (.t 5))), none⟩,
  ⟨(some 24), (.op (.ixAddr 1 (.t 22) (.t 23))), none⟩,
  ⟨(some 25), (.op (.load1 (.t 24))), none⟩,
  ⟨(some 26), (.op (.mv (.t 1))), none⟩,
  ⟨(some 27), (.op (.mv (.t 5))), none⟩,
  ⟨(some 28), (.op (.ixAddr 1 (.t 26) (.t 27))), none⟩,
  ⟨(some 29), (.op (.load1 (.t 28))), none⟩] [
  ⟨(some 30), (.op (.bin .lss (.t 25) (.t 29))), none⟩,
  ⟨(some 4), (.op (.mv (.t 30))), none⟩])
  .ret)
  .skip)))
  (.ops [] [
  ⟨(some 11), (.op (.mv (.t 5))), none⟩,
  ⟨(some 12), (.op (.bin .sub (.t 11) (.k (.int .i64 1)))), none⟩,
  ⟨(some 5), (.op (.mv (.t 12))), none⟩]))))))
  (.seq
  (.ops [] [
  ⟨(some 4), (.op (.mv (.k (.bool false)))), none⟩])
  .ret))),
  [(.t 4)]⟩
theorem r_lanyardref08_less : resolveFn Try.prog 94 = some c_lanyardref08_less := by kernel_rfl

def c_lanyardref08_DivMod : RFn :=
  ⟨115,
  (.seq
  (.ops [] [
  ⟨(some 4), (.op (.mv (.k (.slice none 0 0)))), none⟩,
  ⟨(some 5), (.op (.mv (.k (.slice none 0 0)))), none⟩,
  ⟨(some 6), (.op (.mv (.k (.bool false)))), none⟩])
  (.seq
  (.ops [] [
  ⟨(some 17), (.op (.mv (.t 1))), none⟩,
  ⟨(some 18), (.call (.k (.func (.func 73) #[] #[])) [(.t 17)]), none⟩,
  ⟨(some 7), (.op (.mv (.t 18))), none⟩])
  (.seq
  (.seq
  (.ops [] [
  ⟨(some 19), (.op (.mv (.t 7))), none⟩,
  ⟨(some 20), (.op (.lenSl (.t 19))), none⟩,
  ⟨(some 21), (.op (.bin .eql (.t 20) (.k (.int .i64 0)))), none⟩])
  (.cond (.t 21)
  (.seq
  (.ops [] [
  ⟨(some 4), (.op (.mv (.k (.slice none 0 0)))), none⟩,
  ⟨(some 5), (.op (.mv (.k (.slice none 0 0)))), none⟩,
  ⟨(some 6), (.op (.mv (.k (.bool false)))), none⟩])
  .ret)
  .skip))
  (.seq
  (.ops [] [
  ⟨(some 22), (.op (.mv (.t 7))), none⟩,
  ⟨(some 23), (.op (.mkSl 1 [(.int .u32 0)] [(0, (1, (.k (.int .u32 0))))])), none⟩,
  ⟨(some 24), (.op (.append 1 4 (.t 22) (.t 23))), none⟩,
  ⟨(some 7), (.op (.mv (.t 24))), none⟩])
  (.seq
  (.ops [] [
  ⟨(some 25), (.op (.mv (.t 7))), none⟩,
  ⟨(some 26), (.op (.lenSl (.t 25))), none⟩,
  ⟨(some 27), (.op (.make 1 4 [(.int .u32 0)] (.t 26) (.t 26))), none⟩,
  ⟨(some 8), (.op (.mv (.t 27))), none⟩])
  (.seq
  (.ops [] [
  ⟨(some 28), (.op (.mv (.t 0))), none⟩,
  ⟨(some 29), (.op (.lenSl (.t 28))), none⟩,
  ⟨(some 30), (.op (.make 1 4 [(.int .u32 0)] (.t 29) (.t 29))), none⟩,
  ⟨(some 9), (.op (.mv (.t 30))), none⟩])
  (.seq
  (.seq
  (.ops [] [
  ⟨(some 31), (.op (.mv (.t 0))), none⟩,
  ⟨(some 32), (.op (.lenSl (.t 31))), none⟩,
  ⟨(some 33), (.op (.bin .mul (.k (.int .i64 32)) (.t 32))), none⟩,
  ⟨(some 34), (.op (.bin .sub (.t 33) (.k (.int .i64 1)))), none⟩,
  ⟨(some 10), (.op (.mv (.t 34))), none⟩])
  (.block 0
  (.loop
  (.seq
  (.seq
  (.ops [] [
  ⟨(some 35), (.op (.mv (.t 10))), none⟩,
  ⟨(some 36), (.op (.bin .geq (.t 35) (.k (.int .i64 0)))), none⟩])
  (.cond (.t 36)
  .skip
  (.exit 0)))
  (.seq
  (.block 1
  (.seq
  (.ops [] [
  ⟨(some 39), (.op (.mv (.t 0))), none⟩,
  ⟨(some 40), (.op (.mv (.t 10))), none⟩,
  ⟨(some 41), (.call (.k (.func (.func 78) #[] #[])) [(.t 39), (.t 40)]), none⟩,
  ⟨(some 11), (.op (.mv (.t 41))), none⟩])
  (.seq
  (.seq
  (.ops [] [
  ⟨(some 12), (.op (.mv (.k (.int .i64 0)))), none⟩])
  (.block 2
  (.loop
  (.seq
  (.seq
  (.ops [] [
  ⟨(some 42), (.op (.mv (.t 12))), none⟩,
  ⟨(some 43), (.op (.mv (.t 8))), none⟩,
  ⟨(some 44), (.op (.lenSl (.t 43))), none⟩,
  ⟨(some 45), (.op (.bin .lss (.t 42) (.t 44))), none⟩])
  (.cond (.t 45)
  .skip
  (.exit 2)))
  (.seq
  (.block 3
  (.seq
  (.ops [] [
  ⟨(some 48), (.op (.mv (.t 8))), none⟩,
  ⟨(some 49), (.op (.mv (.t 12))), none⟩,
  ⟨(some 50), (.op (.ixAddr 1 (.t 48) (.t 49))), none⟩,
  ⟨(some 51), (.op (.load1 (.t 50))), none⟩,
  ⟨(some 52), (.op (.bin .shr (.t 51) (.k (.int .u64 31)))), none⟩,
  ⟨(some 13), (.op (.mv (.t 52))), none⟩])
  (.seq
  (.ops [] [
  ⟨(some 53), (.op (.mv (.t 8))), none⟩,
  ⟨(some 54), (.op (.mv (.t 12))), none⟩,
  ⟨(some 55), (.op (.mv (.t 8))), none⟩,
  ⟨(some 56), (.op (.mv (.t 12))), none⟩,
  ⟨(some 57), (.op (.ixAddr 1 (.t 55) (.t 56))), none⟩,
  ⟨(some 58), (.op (.load1 (.t 57))), none⟩,
  ⟨(some 59), (.op (.bin .shl (.t 58) (.k (.int .u64 1)))), none⟩,
  ⟨(some 60), (.op (.mv (.t 11))), none⟩,
  ⟨(some 61), (.op (.bin .or (.t 59) (.t 60))), none⟩,
  ⟨(some 62), (.op (.ixAddr 1 (.t 53) (.t 54))), none⟩,
  ⟨none, (.op (.store 1 (.t 62) (.t 61))), none⟩])
  (.ops [] [
  ⟨(some 63), (.op (.mv (.t 13))), none⟩,
  ⟨(some 11), (.op (.mv (.t 63))), none⟩]))))
  (.ops [] [
  ⟨(some 46), (.op (.mv (.t 12))), none⟩,
  ⟨(some 47), (.op (.bin .add (.t 46) (.k (.int .i64 1)))), none⟩,
  ⟨(some 12), (.op (.mv (.t 47))), none⟩]))))))
  (.seq
  (.seq
  (.ops [] [
  ⟨(some 64), (.op (.mv (.t 8))), none⟩,
  ⟨(some 65), (.op (.mv (.t 7))), none⟩,
  ⟨(some 66), (.call (.k (.func (.func 94) #[] #[])) [(.t 64), (.t 65)]), none⟩])
  (.cond (.t 66)
  (.exit 1)
  .skip))
  (.seq
  (.ops [] [
  ⟨(some 14), (.op (.mv (.k (.int .u64 0)))), none⟩])
  (.seq
  (.seq
  (.ops [] [
  ⟨(some 15), (.op (.mv (.k (.int .i64 0)))), none⟩])
  (.block 4
  (.loop
  (.seq
  (.seq
  (.ops [] [
  ⟨(some 67), (.op (.mv (.t 15))), none⟩,
  ⟨(some 68), (.op (.mv (.t 8))), none⟩,
  ⟨(some 69), (.op (.lenSl (.t 68))), none⟩,
  ⟨(some 70), (.op (.bin .lss (.t 67) (.t 69))), none⟩])
  (.cond (.t 70)
  .skip
  (.exit 4)))
  (.seq
  (.block 5
  (.seq
  (.ops [] [
  ⟨(some 73), (.op (.mv (.t 7))), none⟩,
  ⟨(some 74), (.op (.mv (.t 15))), none⟩,
  ⟨(some 75), (.op (.ixAddr 1 (.t 73) (.t 74))), none⟩,
  ⟨(some 76), (.op (.load1 (.t 75))), none⟩,
  ⟨(some 77), (.op (.toInt .u64 (.t 76))), none⟩,
  ⟨(some 78), (.op (.mv (.t 14))), none⟩,
  ⟨(some 79), (.op (.bin .add (.t 77) (.t 78))), none⟩,
  ⟨(some 16), (.op (.mv (.t 79))), none⟩])
  (.seq
  (.ops [] [
  ⟨(some 14), (.op (.mv (.k (.int .u64 0)))), none⟩])
  (.seq
  (.seq
  (.ops [] [
  ⟨(some 80), (.op (.mv (.t 8))), none⟩,
  ⟨(some 81), (.op (.mv (.t 15))), none⟩,
  ⟨(some 82), (.op (.ixAddr 1 (.t 80) (.t 81))), none⟩,
  ⟨(some 83), (.op (.load1 (.t 82))), none⟩,
  ⟨(some 84), (.op (.toInt .u64 (.t 83))), none⟩,
  ⟨(some 85), (.op (.mv (.t 16))), none⟩,
  ⟨(some 86), (.op (.bin .lss (.t 84) (.t 85))), none⟩])
  (.cond (.t 86)
  (.ops [] [
  ⟨(some 14), (.op (.mv (.k (.int .u64 1)))), none⟩])
  .skip))
  (.ops [] [
  ⟨(some 87), (.op (.mv (.t 8))), none⟩,
  ⟨(some 88), (.op (.mv (.t 15))), none⟩,
  ⟨(some 89), (.op (.mv (.t 8))), none⟩,
  ⟨(some 90), (.op (.mv (.t 15))), none⟩,
  ⟨(some 91), (.op (.ixAddr 1 (.t 89) (.t 90))), none⟩,
  ⟨(some 92), (.op (.load1 (.t 91))), none⟩,
  ⟨(some 93), (.op (.toInt .u64 (.t 92))), none⟩,
  ⟨(some 94), (.op (.mv (.t 16))), none⟩,
  ⟨(some 95), (.op (.bin .sub (.t 93) (.t 94))), none⟩,
  ⟨(some 96), (.op (.toInt .u32 (.t 95))), none⟩,
  ⟨(some 97), (.op (.ixAddr 1 (.t 87) (.t 88))), none⟩,
  ⟨none, (.op (.store 1 (.t 97) (.t 96))), none⟩])))))
  (.ops [] [
  ⟨(some 71), (.op (.mv (.t 15))), none⟩,
  ⟨(some 72), (.op (.bin .add (.t 71) (.k (.int .i64 1)))), none⟩,
  ⟨(some 15), (.op (.mv (.t 72))), none⟩]))))))
  (.ops [
  ⟨(some 98), (.op (.mv (.t 9))), none⟩,
  ⟨(some 99), (.op (.mv (.t 10))), none⟩,
  ⟨(some 100), (.op (.bin .quo (.t 99) (.k (.int .i64 32)))), none⟩,
  ⟨(some 101), (.op (.mv (.t 9))), none⟩,
  ⟨(some 102), (.op (.mv (.t 10))), none⟩,
  ⟨(some 103), (.op (.bin .quo (.t 102) (.k (.int .i64 32)))), none⟩,
  ⟨(some 104), (.op (.ixAddr 1 (.t 101) (.t 103))), none⟩,
  ⟨(some 105), (.op (.load1 (.t 104))), none⟩,
  ⟨(some 106), (.op (.mv (.t 10))), none⟩,
  ⟨(some 107), (.op (.bin .rem (.t 106) (.k (.int .i64 32)))), none⟩,
  ⟨(some 108), (.op (.bin .shl (.k (.int .u32 1)) (.t 107))), none⟩,
  ⟨(some 109), (.op (.bin .or (.t 105) (.t 108))), none⟩] [
  ⟨(some 110), (.op (.ixAddr 1 (.t 98) (.t 100))), none⟩,
  ⟨none, (.op (.store 1 (.t 110) (.t 109))), none⟩])))))))
  (.ops [] [
  ⟨(some 37), (.op (.mv (.t 10))), none⟩,
  ⟨(some 38), (.op (.bin .sub (.t 37) (.k (.int .i64 1)))), none⟩,
  ⟨(some 10), (.op (.mv (.t 38))), none⟩]))))))
  (.seq
  (.ops [] [
  ⟨(some 111), (.op (.mv (.t 9))), none⟩,
  ⟨(some 112), (.call (.k (.func (.func 73) #[] #[])) [(.t 111)]), none⟩,
  ⟨(some 113), (.op (.mv (.t 8))), none⟩,
  ⟨(some 114), (.call (.k (.func (.func 73) #[] #[])) [(.t 113)]), none⟩,
  ⟨(some 4), (.op (.mv (.t 112))), none⟩,
  ⟨(some 5), (.op (.mv (.t 114))), none⟩,
  ⟨(some 6), (.op (.mv (.k (.bool true)))), none⟩])
  .ret)))))))),
  [(.t 4), (.t 5), (.t 6)]⟩
theorem r_lanyardref08_DivMod : resolveFn Try.prog 75 = some c_lanyardref08_DivMod := by kernel_rfl

def c_lanyardref08_Exp : RFn :=
  ⟨63,
  (.seq
  (.ops [] [
  ⟨(some 6), (.op (.mv (.k (.slice none 0 0)))), none⟩,
  ⟨(some 7), (.op (.mv (.k (.bool false)))), none⟩])
  (.seq
  (.ops [] [
  ⟨(some 20), (.op (.mkSl 1 [(.int .u32 0)] [(0, (1, (.k (.int .u32 1))))])), none⟩,
  ⟨(some 21), (.op (.mv (.t 2))), none⟩,
  ⟨(some 22), (.call (.k (.func (.func 75) #[] #[])) [(.t 20), (.t 21)]), none⟩,
  ⟨(some 19), (.op (.mv (.t 22))), none⟩,
  ⟨(some 23), (.op (.extract (.t 19) 0)), none⟩,
  ⟨(some 24), (.op (.extract (.t 19) 1)), none⟩,
  ⟨(some 25), (.op (.extract (.t 19) 2)), none⟩,
  ⟨(some 8), (.op (.mv (.t 23))), none⟩,
  ⟨(some 9), (.op (.mv (.t 24))), none⟩,
  ⟨(some 10), (.op (.mv (.t 25))), none⟩])
  (.seq
  (.seq
  (.ops [] [
  ⟨(some 26), (.op (.mv (.t 10))), none⟩,
  ⟨(some 27), (.op (.un .not (.t 26))), none⟩])
  (.cond (.t 27)
  (.seq
  (.ops [] [
  ⟨(some 6), (.op (.mv (.k (.slice none 0 0)))), none⟩,
  ⟨(some 7), (.op (.mv (.k (.bool false)))), none⟩])
  .ret)
  .skip))
  (.seq
  (.ops [] [
  ⟨(some 29), (.op (.mv (.t 0))), none⟩,
  ⟨(some 30), (.op (.mv (.t 2))), none⟩,
  ⟨(some 31), (.call (.k (.func (.func 75) #[] #[])) [(.t 29), (.t 30)]), none⟩,
  ⟨(some 28), (.op (.mv (.t 31))), none⟩,
  ⟨(some 32), (.op (.extract (.t 28) 0)), none⟩,
  ⟨(some 33), (.op (.extract (.t 28) 1)), none⟩,
  ⟨(some 34), (.op (.extract (.t 28) 2)), none⟩,
  ⟨(some 11), (.op (.mv (.t 32))), none⟩,
  ⟨(some 12), (.op (.mv (.t 33))), none⟩,
  ⟨(some 13), (.op (.mv (.t 34))), none⟩])
  (.seq
  (.seq
  (.ops [] [
  ⟨(some 35), (.op (.mv (.t 1))), none⟩,
  ⟨(some 36), (.call (.k (.func (.func 76) #[] #[])) [(.t 35)]), none⟩,
  ⟨(some 37), (.op (.bin .sub (.t 36) (.k (.int .i64 1)))), none⟩,
  ⟨(some 14), (.op (.mv (.t 37))), none⟩])
  (.block 0
  (.loop
  (.seq
  (.seq
  (.ops [] [
  ⟨(some 38), (.op (.mv (.t 14))), none⟩,
  ⟨(some 39), (.op (.bin .geq (.t 38) (.k (.int .i64 0)))), none⟩])
  (.cond (.t 39)
  .skip
  (.exit 0)))
  (.seq
  (.block 1
  (.seq
  (.ops [] [
  ⟨(some 43), (.op (.mv (.t 9))), none⟩,
  ⟨(some 44), (.op (.mv (.t 9))), none⟩,
  ⟨(some 45), (.op (.mv (.t 2))), none⟩,
  ⟨(some 46), (.call (.k (.func (.func 77) #[] #[])) [(.t 43), (.t 44), (.t 45)]), none⟩,
  ⟨(some 42), (.op (.mv (.t 46))), none⟩,
  ⟨(some 47), (.op (.extract (.t 42) 0)), none⟩,
  ⟨(some 48), (.op (.extract (.t 42) 1)), none⟩,
  ⟨(some 15), (.op (.mv (.t 47))), none⟩,
  ⟨(some 16), (.op (.mv (.t 48))), none⟩])
  (.seq
  (.ops [] [
  ⟨(some 49), (.op (.mv (.t 15))), none⟩,
  ⟨(some 9), (.op (.mv (.t 49))), none⟩])
  (.seq
  (.ops [] [
  ⟨(some 50), (.op (.mv (.t 1))), none⟩,
  ⟨(some 51), (.op (.mv (.t 14))), none⟩,
  ⟨(some 52), (.call (.k (.func (.func 78) #[] #[])) [(.t 50), (.t 51)]), none⟩,
  ⟨(some 53), (.op (.bin .eql (.t 52) (.k (.int .u32 1)))), none⟩])
  (.cond (.t 53)
  (.seq
  (.ops [] [
  ⟨(some 55), (.op (.mv (.t 9))), none⟩,
  ⟨(some 56), (.op (.mv (.t 12))), none⟩,
  ⟨(some 57), (.op (.mv (.t 2))), none⟩,
  ⟨(some 58), (.call (.k (.func (.func 77) #[] #[])) [(.t 55), (.t 56), (.t 57)]), none⟩,
  ⟨(some 54), (.op (.mv (.t 58))), none⟩,
  ⟨(some 59), (.op (.extract (.t 54) 0)), none⟩,
  ⟨(some 60), (.op (.extract (.t 54) 1)), none⟩,
  ⟨(some 17), (.op (.mv (.t 59))), none⟩,
  ⟨(some 18), (.op (.mv (.t 60))), none⟩])
  (.ops [] [
  ⟨(some 61), (.op (.mv (.t 17))), none⟩,
  ⟨(some 9), (.op (.mv (.t 61))), none⟩]))
  .skip)))))
  (.ops [] [
  ⟨(some 40), (.op (.mv (.t 14))), none⟩,
  ⟨(some 41), (.op (.bin .sub (.t 40) (.k (.int .i64 1)))), none⟩,
  ⟨(some 14), (.op (.mv (.t 41))), none⟩]))))))
  (.seq
  (.ops [] [
  ⟨(some 62), (.op (.mv (.t 9))), none⟩,
  ⟨(some 6), (.op (.mv (.t 62))), none⟩,
  ⟨(some 7), (.op (.mv (.k (.bool true)))), none⟩])
  .ret)))))),
  [(.t 6), (.t 7)]⟩
theorem r_lanyardref08_Exp : resolveFn Try.prog 49 = some c_lanyardref08_Exp := by kernel_rfl

def c_lanyardref08_Mul : RFn :=
  ⟨22,
  (.seq
  (.ops [] [
  ⟨(some 6), (.op (.mv (.k (.slice none 0 0)))), none⟩,
  ⟨(some 7), (.op (.mv (.k (.bool false)))), none⟩])
  (.seq
  (.ops [] [
  ⟨(some 12), (.op (.mv (.t 0))), none⟩,
  ⟨(some 13), (.op (.mv (.t 1))), none⟩,
  ⟨(some 14), (.call (.k (.func (.func 53) #[] #[])) [(.t 12), (.t 13)]), none⟩,
  ⟨(some 15), (.op (.mv (.t 2))), none⟩,
  ⟨(some 16), (.call (.k (.func (.func 75) #[] #[])) [(.t 14), (.t 15)]), none⟩,
  ⟨(some 11), (.op (.mv (.t 16))), none⟩,
  ⟨(some 17), (.op (.extract (.t 11) 0)), none⟩,
  ⟨(some 18), (.op (.extract (.t 11) 1)), none⟩,
  ⟨(some 19), (.op (.extract (.t 11) 2)), none⟩,
  ⟨(some 8), (.op (.mv (.t 17))), none⟩,
  ⟨(some 9), (.op (.mv (.t 18))), none⟩,
  ⟨(some 10), (.op (.mv (.t 19))), none⟩])
  (.seq
  (.ops [] [
  ⟨(some 20), (.op (.mv (.t 9))), none⟩,
  ⟨(some 21), (.op (.mv (.t 10))), none⟩,
  ⟨(some 6), (.op (.mv (.t 20))), none⟩,
  ⟨(some 7), (.op (.mv (.t 21))), none⟩])
  .ret))),
  [(.t 6), (.t 7)]⟩
theorem r_lanyardref08_Mul : resolveFn Try.prog 77 = some c_lanyardref08_Mul := by kernel_rfl

end Go.Ga

namespace Go.Ga
open Go Go.Proofs
set_option linter.unusedSimpArgs false
set_option linter.unusedVariables false
set_option maxRecDepth 100000

theorem ct_Add32 {nx : Nat} {gt : Nat → Option Blk} {x y c : Nat} (hx : x < 4294967296) (hy : y < 4294967296) (hc : c < 2) :
    Ct Try.prog 98 [.int .u32 (x : Nat), .int .u32 (y : Nat), .int .u32 (c : Nat)] nx gt fun v _ _ => v = .tuple #[.int .u32 ((x + y + c) % 4294967296 : Nat), .int .u32 ((x + y + c) / 4294967296 : Nat)] := by
  refine Ct.of hmx r_math_bits_Add32 (by simp [c_math_bits_Add32]) fun b hb => ?_
  have e1 : (x : Int) + (y : Int) = ((x + y : Nat) : Int) := by omega
  have e2 : ((x + y : Nat) : Int) + (c : Int) = ((x + y + c : Nat) : Int) := by omega
  have e3 : shrV .u64 ((x + y + c : Nat) : Int) 32 = (((x + y + c) / 4294967296 : Nat) : Int) := shr_nat _ 32 (by decide)
  have e4 : (x + y + c) / 4294967296 % 4294967296 = (x + y + c) / 4294967296 := by omega
  simp only [c_math_bits_Add32, ↓gaW, ↓gaV, ↓gaC, ↓gaN, gaP, Nat.reduceEqDiff, Nat.reduceLeDiff, Nat.reduceAdd, Nat.reduceSub, Nat.reduceMul, Int.reduceLT, Int.reduceLE, Int.reduceEq, Int.reduceToNat, Int.reduceAdd, Int.reduceSub, Int.reduceMul, reduceCtorEq, ↓reduceIte, gaE, implies_true, Nat.le_refl, Int.sub_zero, Nat.sub_zero, Int.le_refl, true_or, or_true, u64_i (x : Int) (by omega), u64_i (y : Int) (by omega), u64_i (c : Int) (by omega), e1, u64_i ((x + y : Nat) : Int) (by omega), e2, u64_i ((x + y + c : Nat) : Int) (by omega), e3, u32_m, e4]

theorem ct_Sub32 {nx : Nat} {gt : Nat → Option Blk} {x y c : Nat} (hx : x < 4294967296) (hy : y < 4294967296) (hc : c < 2) :
    Ct Try.prog 97 [.int .u32 (x : Nat), .int .u32 (y : Nat), .int .u32 (c : Nat)] nx gt fun v _ _ => v = .tuple #[.int .u32 ((x + 4294967296 - y - c) % 4294967296 : Nat), .int .u32 (if x < y + c then 1 else 0 : Nat)] := by
  refine Ct.of hmx r_math_bits_Sub32 (by simp [c_math_bits_Sub32]) fun b hb => ?_
  have hd : IntKind.u32.wrap (IntKind.u32.wrap ((x : Int) - (y : Int)) - (c : Int)) = (((x + 4294967296 - y - c) % 4294967296 : Nat) : Int) := by rw [u32_w, u32_w]; omega
  have h1 : (4294967295 ^^^ x) < 2 ^ 32 := Nat.xor_lt_two_pow (by decide) hx
  have h2 : x ^^^ y < 2 ^ 32 := Nat.xor_lt_two_pow hx hy
  have h3 : (4294967295 ^^^ (x ^^^ y)) < 2 ^ 32 := Nat.xor_lt_two_pow (by decide) h2
  have h4 : (4294967295 ^^^ x) &&& y < 2 ^ 32 := Nat.and_lt_two_pow _ hy
  have h5 : (x + 4294967296 - y - c) % 4294967296 < 4294967296 := Nat.mod_lt _ (by decide)
  have h6 : (4294967295 ^^^ (x ^^^ y)) &&& ((x + 4294967296 - y - c) % 4294967296) < 2 ^ 32 := Nat.and_lt_two_pow _ h5
  have h7 : shrV .u32 (((4294967295 ^^^ x) &&& y ||| (4294967295 ^^^ (x ^^^ y)) &&& ((x + 4294967296 - y - c) % 4294967296) : Nat) : Int) 31 = ((if x < y + c then 1 else 0 : Nat) : Int) := by
    rw [show (31 : Int) = ((31 : Nat) : Int) from rfl, shr_nat _ 31 (by decide), ← borrow32 hx hy hc]
  simp only [c_math_bits_Sub32, ↓gaW, ↓gaV, ↓gaC, ↓gaN, gaP, Nat.reduceEqDiff, Nat.reduceLeDiff, Nat.reduceAdd, Nat.reduceSub, Nat.reduceMul, Int.reduceLT, Int.reduceLE, Int.reduceEq, Int.reduceToNat, Int.reduceAdd, Int.reduceSub, Int.reduceMul, reduceCtorEq, ↓reduceIte, gaE, implies_true, Nat.le_refl, Int.sub_zero, Nat.sub_zero, Int.le_refl, true_or, or_true, hd, xor_u32 hx hy, not_u32 hx, not_u32 h2, and_u32 h1 hy, and_u32 h3 h5, or_u32 h4 h6, h7]
  trace_state

def len8 : List UInt8 := [0, 1, 2, 2, 3, 3, 3, 3, 4, 4, 4, 4, 4, 4, 4, 4, 5, 5, 5, 5, 5, 5, 5, 5, 5, 5, 5, 5, 5, 5, 5, 5, 6, 6, 6, 6, 6, 6, 6, 6, 6, 6, 6, 6, 6, 6, 6, 6, 6, 6, 6, 6, 6, 6, 6, 6, 6, 6, 6, 6, 6, 6, 6, 6, 7, 7, 7, 7, 7, 7, 7, 7, 7, 7, 7, 7, 7, 7, 7, 7, 7, 7, 7, 7, 7, 7, 7, 7, 7, 7, 7, 7, 7, 7, 7, 7, 7, 7, 7, 7, 7, 7, 7, 7, 7, 7, 7, 7, 7, 7, 7, 7, 7, 7, 7, 7, 7, 7, 7, 7, 7, 7, 7, 7, 7, 7, 7, 7, 8, 8, 8, 8, 8, 8, 8, 8, 8, 8, 8, 8, 8, 8, 8, 8, 8, 8, 8, 8, 8, 8, 8, 8, 8, 8, 8, 8, 8, 8, 8, 8, 8, 8, 8, 8, 8, 8, 8, 8, 8, 8, 8, 8, 8, 8, 8, 8, 8, 8, 8, 8, 8, 8, 8, 8, 8, 8, 8, 8, 8, 8, 8, 8, 8, 8, 8, 8, 8, 8, 8, 8, 8, 8, 8, 8, 8, 8, 8, 8, 8, 8, 8, 8, 8, 8, 8, 8, 8, 8, 8, 8, 8, 8, 8, 8, 8, 8, 8, 8, 8, 8, 8, 8, 8, 8, 8, 8, 8, 8, 8, 8, 8, 8, 8, 8, 8, 8, 8, 8, 8, 8, 8, 8, 8, 8, 8, 8]
theorem len8_bl : ∀ x, x < 256 → u8V (len8.getD x 0) = .int .u8 (bl x : Nat) := by
  have h : ∀ x, x < 256 → (len8.getD x 0).toNat = bl x := by decide +kernel
  intro x hx
  rw [u8V, h x hx]

theorem ct_Len32 {nx : Nat} {gt : Nat → Option Blk} {x : Nat} (hx : x < 4294967296) :
    Ct Try.prog 92 [.int .u32 (x : Nat)] nx gt fun v _ _ => v = .int .i64 (bl x : Nat) := by
  refine Ct.of hmx r_math_bits_Len32 (by simp [c_math_bits_Len32]) fun b hb => ?_
  have hT : ∀ y, y < 256 → _ := len8_bl
  unfold len8 at hT
  have hL : ∀ y, y < 256 → bl y ≤ 8 := fun y hy => bl_le.2 hy
  have s16 : shrV .u32 (x : Int) 16 = ((x / 65536 : Nat) : Int) := shr_nat _ 16 (by decide)
  have s8 : shrV .u32 (x : Int) 8 = ((x / 256 : Nat) : Int) := shr_nat _ 8 (by decide)
  have s24 : shrV .u32 ((x / 65536 : Nat) : Int) 8 = ((x / 65536 / 256 : Nat) : Int) := shr_nat _ 8 (by decide)
  by_cases h1 : (65536 : Int) ≤ x
  · by_cases h2 : (256 : Int) ≤ ((x / 65536 : Nat) : Int)
    · have e : bl x = bl (x / 65536 / 256) + 24 := by
        rw [Nat.div_div_eq_div_mul]; exact bl_div (s := 24) (by omega)
      have hy : x / 65536 / 256 < 256 := by omega
      have := hL _ hy
      simp only [c_math_bits_Len32, ↓gaW, ↓gaV, ↓gaC, ↓gaN, gaP, Nat.reduceEqDiff, Nat.reduceLeDiff, Nat.reduceAdd, Nat.reduceSub, Nat.reduceMul, Int.reduceLT, Int.reduceLE, Int.reduceEq, Int.reduceToNat, Int.reduceAdd, Int.reduceSub, Int.reduceMul, reduceCtorEq, ↓reduceIte, gaE, implies_true, Nat.le_refl, Int.sub_zero, Nat.sub_zero, Int.le_refl, true_or, or_true, h1, h2, s16, s24, decide_true, decide_false, u8_i ((x / 65536 / 256 : Nat) : Int) (by omega), i64_w 24 (by omega), hT _ hy]
      refine ⟨by omega, ?_, ?_⟩
      · show _ < ((256 : Nat) : Int); omega
      · rw [i64_w ((bl _ : Nat) : Int) (by omega), i64_w _ (by omega), e]; congr 1; omega
    · have e : bl x = bl (x / 65536) + 16 := bl_div (s := 16) (by omega)
      have hy : x / 65536 < 256 := by omega
      have := hL _ hy
      simp only [c_math_bits_Len32, ↓gaW, ↓gaV, ↓gaC, ↓gaN, gaP, Nat.reduceEqDiff, Nat.reduceLeDiff, Nat.reduceAdd, Nat.reduceSub, Nat.reduceMul, Int.reduceLT, Int.reduceLE, Int.reduceEq, Int.reduceToNat, Int.reduceAdd, Int.reduceSub, Int.reduceMul, reduceCtorEq, ↓reduceIte, gaE, implies_true, Nat.le_refl, Int.sub_zero, Nat.sub_zero, Int.le_refl, true_or, or_true, h1, h2, s16, s24, decide_true, decide_false, u8_i ((x / 65536 : Nat) : Int) (by omega), hT _ hy]
      refine ⟨by omega, ?_, ?_⟩
      · show _ < ((256 : Nat) : Int); omega
      · rw [i64_w ((bl _ : Nat) : Int) (by omega), i64_w _ (by omega), e]; congr 1; omega
  · by_cases h2 : (256 : Int) ≤ (x : Int)
    · have e : bl x = bl (x / 256) + 8 := bl_div (s := 8) (by omega)
      have hy : x / 256 < 256 := by omega
      have := hL _ hy
      simp only [c_math_bits_Len32, ↓gaW, ↓gaV, ↓gaC, ↓gaN, gaP, Nat.reduceEqDiff, Nat.reduceLeDiff, Nat.reduceAdd, Nat.reduceSub, Nat.reduceMul, Int.reduceLT, Int.reduceLE, Int.reduceEq, Int.reduceToNat, Int.reduceAdd, Int.reduceSub, Int.reduceMul, reduceCtorEq, ↓reduceIte, gaE, implies_true, Nat.le_refl, Int.sub_zero, Nat.sub_zero, Int.le_refl, true_or, or_true, h1, h2, s8, decide_true, decide_false, u8_i ((x / 256 : Nat) : Int) (by omega), i64_w 8 (by omega), hT _ hy]
      refine ⟨by omega, ?_, ?_⟩
      · show _ < ((256 : Nat) : Int); omega
      · rw [i64_w ((bl _ : Nat) : Int) (by omega), i64_w _ (by omega), e]; congr 1; omega
    · have hy : x < 256 := by omega
      have := hL _ hy
      simp only [c_math_bits_Len32, ↓gaW, ↓gaV, ↓gaC, ↓gaN, gaP, Nat.reduceEqDiff, Nat.reduceLeDiff, Nat.reduceAdd, Nat.reduceSub, Nat.reduceMul, Int.reduceLT, Int.reduceLE, Int.reduceEq, Int.reduceToNat, Int.reduceAdd, Int.reduceSub, Int.reduceMul, reduceCtorEq, ↓reduceIte, gaE, implies_true, Nat.le_refl, Int.sub_zero, Nat.sub_zero, Int.le_refl, true_or, or_true, h1, h2, decide_true, decide_false, u8_i (x : Int) (by omega), hT _ hy]
      refine ⟨by omega, ?_, ?_⟩
      · show _ < ((256 : Nat) : Int); omega
      · rw [i64_w ((bl _ : Nat) : Int) (by omega), i64_w _ (by omega)]; congr 1; omega
end Go.Ga

namespace Go.Ga
open Go Go.Proofs
set_option linter.unusedSimpArgs false
set_option linter.unusedVariables false
set_option maxRecDepth 100000

section
variable {nx : Nat} {gt : Nat → Option Blk}

/-- A cell of a row of words. -/
theorem w32_cell {A : Option Addr} {n : Nat} {l : List UInt32} (hr : Row nx gt 1 A n (l.map u32V)) (hl : l.length = n) {i : Nat} (hi : i < n) : ∃ a ce ro, A = some a ∧ a.block < nx ∧ gt a.block = some (.cells ce ro) ∧ a.off + i < ce.length ∧ ce.getD (a.off + i) undef = .int .u32 ((l.getD i 0).toNat : Nat) := by
  obtain ⟨a, ce, ro, h1, h2, h3, h4, h5⟩ := hr.cells (by omega)
  exact ⟨a, ce, ro, h1, h2, h3, by omega, by rw [h5 i hi, getD_u32 (by omega)]⟩

theorem w32_cut {A : Option Addr} {n : Nat} {l : List UInt32} (hr : Row nx gt 1 A n (l.map u32V)) (hl : l.length = n) {k : Nat} (hk : k ≤ n) {a : Addr} (ha : A = some a) : W32 nx gt (.slice (some ⟨a.block, a.off, none⟩) k k) (l.take k) := by
  have h := ((hr.part (lo := 0) (hi := k) (Nat.zero_le _) hk ha).shut (e' := 1) rfl)
  refine ⟨_, k, k, rfl, Nat.le_refl _, by simp [hl]; omega, ?_⟩
  simpa using h

theorem ct_bare {A : Option Addr} {n c : Nat} {l : List UInt32} (hr : Row nx gt 1 A n (l.map u32V)) (hc : n ≤ c) (hn : n < 1000000000) :
    Ct Try.prog 56 [.slice A n c] nx gt fun v nx' gt' => W32 nx' gt' v (lb (lv l)) := by
  have hlen : l.length = n := by simpa using hr.len
  refine Ct.of hmx r_limb_bare (by simp [c_limb_bare]) fun b hb => ?_
  simp only [c_limb_bare, ↓gaW, ↓gaV, ↓gaC, ↓gaN, gaP, Nat.reduceEqDiff, Nat.reduceLeDiff, Nat.reduceAdd, Nat.reduceSub, Nat.reduceMul, Int.reduceLT, Int.reduceLE, Int.reduceEq, Int.reduceToNat, Int.reduceAdd, Int.reduceSub, Int.reduceMul, reduceCtorEq, ↓reduceIte]
  refine loop_of (fun j f m => ∃ k : Nat, j = k ∧ k ≤ n ∧ f 0 = .slice A n c ∧ f 3 = .int .i64 (k : Nat) ∧ m = ⟨nx, b, gt⟩ ∧ ∀ i, k ≤ i → i < l.length → l.getD i 0 = 0) n ⟨n, rfl, Nat.le_refl _, rfl, rfl, rfl, fun i h1 h2 => by omega⟩ ?_
  rintro j f m ⟨k, rfl, hk, h0, h3, rfl, hz⟩
  by_cases hpos : (0 : Int) < (j : Int)
  · have e1 : ((j : Int) - 1) = ((j - 1 : Nat) : Int) := by omega
    obtain ⟨a, ce, ro, rfl, h5, h6, h7, h8⟩ := w32_cell hr hlen (i := j - 1) (by omega)
    by_cases hzero : (l.getD (j - 1) 0) = 0
    · have hv : ((l.getD (j - 1) 0).toNat : Int) = 0 := by rw [hzero]; rfl
      simp only [↓gaW, ↓gaV, ↓gaC, ↓gaN, gaP, Nat.reduceEqDiff, Nat.reduceLeDiff, Nat.reduceAdd, Nat.reduceSub, Nat.reduceMul, Int.reduceLT, Int.reduceLE, Int.reduceEq, Int.reduceToNat, Int.reduceAdd, Int.reduceSub, Int.reduceMul, reduceCtorEq, ↓reduceIte, h0, h3, hpos, decide_true, e1, i64_w ((j - 1 : Nat) : Int) (by omega), h6, h8, hv]
      refine ⟨by omega, by omega, by omega, ?_⟩
      simp only [↓gaW, ↓gaV, ↓gaC, ↓gaN, gaP, Nat.reduceEqDiff, Nat.reduceLeDiff, Nat.reduceAdd, Nat.reduceSub, Nat.reduceMul, Int.reduceLT, Int.reduceLE, Int.reduceEq, Int.reduceToNat, Int.reduceAdd, Int.reduceSub, Int.reduceMul, reduceCtorEq, ↓reduceIte, h3, e1, i64_w ((j - 1 : Nat) : Int) (by omega), loopK_n]
      refine ⟨j - 1, by omega, j - 1, rfl, by omega, h0, rfl, fun i h1 h2 => ?_⟩
      by_cases hi : i = j - 1
      · rw [hi]; exact hzero
      · exact hz i (by omega) h2
    · have hv : ¬ ((l.getD (j - 1) 0).toNat : Int) = 0 := fun h => hzero (by apply UInt32.toNat_inj.1; show _ = 0; omega)
      simp only [↓gaW, ↓gaV, ↓gaC, ↓gaN, gaP, Nat.reduceEqDiff, Nat.reduceLeDiff, Nat.reduceAdd, Nat.reduceSub, Nat.reduceMul, Int.reduceLT, Int.reduceLE, Int.reduceEq, Int.reduceToNat, Int.reduceAdd, Int.reduceSub, Int.reduceMul, reduceCtorEq, ↓reduceIte, gaE, implies_true, Nat.le_refl, Int.sub_zero, Nat.sub_zero, Int.le_refl, true_or, or_true, h0, h3, hpos, decide_true, e1, i64_w ((j - 1 : Nat) : Int) (by omega), h6, h8, hv, decide_false]
      refine ⟨by omega, by omega, by omega, by omega, by omega, ?_⟩
      rw [lb_lv_take l j (by omega) hz (.inr hzero)]
      exact w32_cut hr hlen hk rfl
  · have hj : j = 0 := by omega
    subst hj
    have hl0 : lb (lv l) = [] := by
      rw [lv_zero (fun i h => hz i (Nat.zero_le _) h), lb_zero]
    rw [hl0]
    have hneg : ¬ (0 : Int) < ((0 : Nat) : Int) := by omega
    cases A with
    | none =>
      simp only [↓gaW, ↓gaV, ↓gaC, ↓gaN, gaP, Nat.reduceEqDiff, Nat.reduceLeDiff, Nat.reduceAdd, Nat.reduceSub, Nat.reduceMul, Int.reduceLT, Int.reduceLE, Int.reduceEq, Int.reduceToNat, Int.reduceAdd, Int.reduceSub, Int.reduceMul, reduceCtorEq, ↓reduceIte, gaE, implies_true, Nat.le_refl, Int.sub_zero, Nat.sub_zero, Int.le_refl, true_or, or_true, h0, h3, hneg, decide_false]
      repeat refine And.intro (by omega) ?_
      exact W32.nil
    | some a =>
      simp only [↓gaW, ↓gaV, ↓gaC, ↓gaN, gaP, Nat.reduceEqDiff, Nat.reduceLeDiff, Nat.reduceAdd, Nat.reduceSub, Nat.reduceMul, Int.reduceLT, Int.reduceLE, Int.reduceEq, Int.reduceToNat, Int.reduceAdd, Int.reduceSub, Int.reduceMul, reduceCtorEq, ↓reduceIte, gaE, implies_true, Nat.le_refl, Int.sub_zero, Nat.sub_zero, Int.le_refl, true_or, or_true, h0, h3, hneg, decide_false]
      repeat refine And.intro (by omega) ?_
      exact w32_cut hr hlen (Nat.zero_le _) rfl
end
end Go.Ga

namespace Go.Ga
open Go Go.Proofs
set_option linter.unusedSimpArgs false
set_option linter.unusedVariables false
set_option maxRecDepth 100000

def cmpI (a b : Int) : Int := if a < b then -1 else if b < a then 1 else 0

section
variable {nx : Nat} {gt : Nat → Option Blk}

theorem ct_isNaNi {a : Int} : Ct Try.prog 79 [.int .i64 a] nx gt fun v _ _ => v = .bool false := by
  refine Ct.of hmx r_cmp_isNaN_int_ (by simp [c_cmp_isNaN_int_]) fun b hb => ?_
  simp only [c_cmp_isNaN_int_, ↓gaW, ↓gaV, ↓gaC, ↓gaN, gaP, Nat.reduceEqDiff, Nat.reduceLeDiff, Nat.reduceAdd, Nat.reduceSub, Nat.reduceMul, Int.reduceLT, Int.reduceLE, Int.reduceEq, Int.reduceToNat, Int.reduceAdd, Int.reduceSub, Int.reduceMul, reduceCtorEq, ↓reduceIte, gaE, implies_true, Nat.le_refl, Int.sub_zero, Nat.sub_zero, Int.le_refl, true_or, or_true]
theorem ct_isNaNu {a : Int} : Ct Try.prog 80 [.int .u32 a] nx gt fun v _ _ => v = .bool false := by
  refine Ct.of hmx r_cmp_isNaN_uint32_ (by simp [c_cmp_isNaN_uint32_]) fun b hb => ?_
  simp only [c_cmp_isNaN_uint32_, ↓gaW, ↓gaV, ↓gaC, ↓gaN, gaP, Nat.reduceEqDiff, Nat.reduceLeDiff, Nat.reduceAdd, Nat.reduceSub, Nat.reduceMul, Int.reduceLT, Int.reduceLE, Int.reduceEq, Int.reduceToNat, Int.reduceAdd, Int.reduceSub, Int.reduceMul, reduceCtorEq, ↓reduceIte, gaE, implies_true, Nat.le_refl, Int.sub_zero, Nat.sub_zero, Int.le_refl, true_or, or_true]

theorem ct_Cmpi {x y : Int} : Ct Try.prog 57 [.int .i64 x, .int .i64 y] nx gt fun v _ _ => v = .int .i64 (cmpI x y) := by
  refine Ct.of hmx r_cmp_Compare_int_ (by simp [c_cmp_Compare_int_]) fun b hb => ?_
  simp only [c_cmp_Compare_int_, ↓gaW, ↓gaV, ↓gaC, ↓gaN, gaP, Nat.reduceEqDiff, Nat.reduceLeDiff, Nat.reduceAdd, Nat.reduceSub, Nat.reduceMul, Int.reduceLT, Int.reduceLE, Int.reduceEq, Int.reduceToNat, Int.reduceAdd, Int.reduceSub, Int.reduceMul, reduceCtorEq, ↓reduceIte]
  refine callK_of ct_isNaNi (fun v n1 g1 l1 k1 hC => ?_) (by omega)
  subst hC
  simp only [↓gaW, ↓gaV, ↓gaC, ↓gaN, gaP, Nat.reduceEqDiff, Nat.reduceLeDiff, Nat.reduceAdd, Nat.reduceSub, Nat.reduceMul, Int.reduceLT, Int.reduceLE, Int.reduceEq, Int.reduceToNat, Int.reduceAdd, Int.reduceSub, Int.reduceMul, reduceCtorEq, ↓reduceIte]
  refine callK_of ct_isNaNi (fun v n2 g2 l2 k2 hC => ?_) (by omega)
  subst hC
  have hk : ∀ i, i < nx → g2 i = gt i := fun i hi => by rw [k2 i (by omega), k1 i hi]
  by_cases h1 : x < y
  · simp only [↓gaW, ↓gaV, ↓gaC, ↓gaN, gaP, Nat.reduceEqDiff, Nat.reduceLeDiff, Nat.reduceAdd, Nat.reduceSub, Nat.reduceMul, Int.reduceLT, Int.reduceLE, Int.reduceEq, Int.reduceToNat, Int.reduceAdd, Int.reduceSub, Int.reduceMul, reduceCtorEq, ↓reduceIte, gaE, implies_true, Nat.le_refl, Int.sub_zero, Nat.sub_zero, Int.le_refl, true_or, or_true, h1, decide_true, cmpI]
    exact ⟨by omega, hk⟩
  · by_cases h2 : y < x
    · simp only [↓gaW, ↓gaV, ↓gaC, ↓gaN, gaP, Nat.reduceEqDiff, Nat.reduceLeDiff, Nat.reduceAdd, Nat.reduceSub, Nat.reduceMul, Int.reduceLT, Int.reduceLE, Int.reduceEq, Int.reduceToNat, Int.reduceAdd, Int.reduceSub, Int.reduceMul, reduceCtorEq, ↓reduceIte, gaE, implies_true, Nat.le_refl, Int.sub_zero, Nat.sub_zero, Int.le_refl, true_or, or_true, h1, h2, decide_true, decide_false, cmpI]
      exact ⟨by omega, hk⟩
    · simp only [↓gaW, ↓gaV, ↓gaC, ↓gaN, gaP, Nat.reduceEqDiff, Nat.reduceLeDiff, Nat.reduceAdd, Nat.reduceSub, Nat.reduceMul, Int.reduceLT, Int.reduceLE, Int.reduceEq, Int.reduceToNat, Int.reduceAdd, Int.reduceSub, Int.reduceMul, reduceCtorEq, ↓reduceIte, gaE, implies_true, Nat.le_refl, Int.sub_zero, Nat.sub_zero, Int.le_refl, true_or, or_true, h1, h2, decide_false, cmpI]
      exact ⟨by omega, hk⟩
theorem ct_Cmpu {x y : Int} : Ct Try.prog 58 [.int .u32 x, .int .u32 y] nx gt fun v _ _ => v = .int .i64 (cmpI x y) := by
  refine Ct.of hmx r_cmp_Compare_uint32_ (by simp [c_cmp_Compare_uint32_]) fun b hb => ?_
  simp only [c_cmp_Compare_uint32_, ↓gaW, ↓gaV, ↓gaC, ↓gaN, gaP, Nat.reduceEqDiff, Nat.reduceLeDiff, Nat.reduceAdd, Nat.reduceSub, Nat.reduceMul, Int.reduceLT, Int.reduceLE, Int.reduceEq, Int.reduceToNat, Int.reduceAdd, Int.reduceSub, Int.reduceMul, reduceCtorEq, ↓reduceIte]
  refine callK_of ct_isNaNu (fun v n1 g1 l1 k1 hC => ?_) (by omega)
  subst hC
  simp only [↓gaW, ↓gaV, ↓gaC, ↓gaN, gaP, Nat.reduceEqDiff, Nat.reduceLeDiff, Nat.reduceAdd, Nat.reduceSub, Nat.reduceMul, Int.reduceLT, Int.reduceLE, Int.reduceEq, Int.reduceToNat, Int.reduceAdd, Int.reduceSub, Int.reduceMul, reduceCtorEq, ↓reduceIte]
  refine callK_of ct_isNaNu (fun v n2 g2 l2 k2 hC => ?_) (by omega)
  subst hC
  have hk : ∀ i, i < nx → g2 i = gt i := fun i hi => by rw [k2 i (by omega), k1 i hi]
  by_cases h1 : x < y
  · simp only [↓gaW, ↓gaV, ↓gaC, ↓gaN, gaP, Nat.reduceEqDiff, Nat.reduceLeDiff, Nat.reduceAdd, Nat.reduceSub, Nat.reduceMul, Int.reduceLT, Int.reduceLE, Int.reduceEq, Int.reduceToNat, Int.reduceAdd, Int.reduceSub, Int.reduceMul, reduceCtorEq, ↓reduceIte, gaE, implies_true, Nat.le_refl, Int.sub_zero, Nat.sub_zero, Int.le_refl, true_or, or_true, h1, decide_true, cmpI]
    exact ⟨by omega, hk⟩
  · by_cases h2 : y < x
    · simp only [↓gaW, ↓gaV, ↓gaC, ↓gaN, gaP, Nat.reduceEqDiff, Nat.reduceLeDiff, Nat.reduceAdd, Nat.reduceSub, Nat.reduceMul, Int.reduceLT, Int.reduceLE, Int.reduceEq, Int.reduceToNat, Int.reduceAdd, Int.reduceSub, Int.reduceMul, reduceCtorEq, ↓reduceIte, gaE, implies_true, Nat.le_refl, Int.sub_zero, Nat.sub_zero, Int.le_refl, true_or, or_true, h1, h2, decide_true, decide_false, cmpI]
      exact ⟨by omega, hk⟩
    · simp only [↓gaW, ↓gaV, ↓gaC, ↓gaN, gaP, Nat.reduceEqDiff, Nat.reduceLeDiff, Nat.reduceAdd, Nat.reduceSub, Nat.reduceMul, Int.reduceLT, Int.reduceLE, Int.reduceEq, Int.reduceToNat, Int.reduceAdd, Int.reduceSub, Int.reduceMul, reduceCtorEq, ↓reduceIte, gaE, implies_true, Nat.le_refl, Int.sub_zero, Nat.sub_zero, Int.le_refl, true_or, or_true, h1, h2, decide_false, cmpI]
      exact ⟨by omega, hk⟩

theorem Grow.w32 {nx b x : Nat} {g : Nat → Option Blk} {A : Option Addr} {n : Nat} {l : List UInt32} (h : Grow nx b x g 1 A n (l.map u32V)) : W32 x g (.slice A n n) l :=
  ⟨A, n, n, rfl, Nat.le_refl _, by simpa using h.len, by simpa using h.row⟩

/-! ### Orders -/
theorem cmp_digit {a b i : Nat} (h : a / 4294967296 ^ (i + 1) = b / 4294967296 ^ (i + 1)) :
    (a / 4294967296 ^ i % 4294967296 < b / 4294967296 ^ i % 4294967296 → a < b) ∧ (a / 4294967296 ^ i % 4294967296 = b / 4294967296 ^ i % 4294967296 → a / 4294967296 ^ i = b / 4294967296 ^ i) := by
  rw [Nat.pow_succ, ← Nat.div_div_eq_div_mul, ← Nat.div_div_eq_div_mul] at h
  have e1 := Nat.div_add_mod (a / 4294967296 ^ i) 4294967296
  have e2 := Nat.div_add_mod (b / 4294967296 ^ i) 4294967296
  refine ⟨fun hlt => ?_, fun he => by omega⟩
  have h2 : a / 4294967296 ^ i < b / 4294967296 ^ i := by omega
  rcases Nat.lt_or_ge a b with h3 | h3
  · exact h3
  · have := Nat.div_le_div_right (c := 4294967296 ^ i) h3; omega
theorem cmpI_lt {a b : Int} (h : a < b) : cmpI a b = -1 := by rw [cmpI, if_pos h]
theorem cmpI_gt {a b : Int} (h : b < a) : cmpI a b = 1 := by rw [cmpI, if_neg (by omega), if_pos h]
theorem cmpI_eq {a b : Int} (h : a = b) : cmpI a b = 0 := by rw [cmpI, if_neg (by omega), if_neg (by omega)]
theorem cmp_digitI {a b i : Nat} (h : a / 4294967296 ^ (i + 1) = b / 4294967296 ^ (i + 1)) (hne : a / 4294967296 ^ i % 4294967296 ≠ b / 4294967296 ^ i % 4294967296) :
    cmpI ((a / 4294967296 ^ i % 4294967296 : Nat) : Int) ((b / 4294967296 ^ i % 4294967296 : Nat) : Int) = cmpI (a : Nat) (b : Nat) := by
  rcases Nat.lt_or_gt_of_ne hne with h1 | h1
  · have := (cmp_digit h).1 h1
    rw [cmpI_lt (by omega), cmpI_lt (by omega)]
  · have := (cmp_digit h.symm).1 h1
    rw [cmpI_gt (by omega), cmpI_gt (by omega)]
theorem cmp_len {a b : Nat} (h : (lb a).length < (lb b).length) : a < b := by
  have h1 := lb_len_le.1 (Nat.le_refl (lb a).length)
  rcases Nat.lt_or_ge a b with h2 | h2
  · exact h2
  · have := lb_len_le.2 (Nat.lt_of_le_of_lt h2 h1); omega

theorem ct_Cmp {A B : Option Addr} {n m c d : Nat} {l k : List UInt32} (hr : Row nx gt 1 A n (l.map u32V)) (hc : n ≤ c) (hn : n < 1000000000) (hs : Row nx gt 1 B m (k.map u32V)) (hd : m ≤ d) (hm : m < 1000000000) :
    Ct Try.prog 33 [.slice A n c, .slice B m d] nx gt fun v _ _ => v = .int .i64 (cmpI (lv l : Nat) (lv k : Nat)) := by
  refine Ct.of hmx r_limb_Cmp (by simp [c_limb_Cmp]) fun b hb => ?_
  simp only [c_limb_Cmp, ↓gaW, ↓gaV, ↓gaC, ↓gaN, gaP, Nat.reduceEqDiff, Nat.reduceLeDiff, Nat.reduceAdd, Nat.reduceSub, Nat.reduceMul, Int.reduceLT, Int.reduceLE, Int.reduceEq, Int.reduceToNat, Int.reduceAdd, Int.reduceSub, Int.reduceMul, reduceCtorEq, ↓reduceIte]
  refine callK_of (ct_bare hr hc hn) (fun v n1 g1 l1 k1 hC => ?_) (by omega)
  obtain ⟨A1, n', c1, rfl, hc1, hl1, hr1⟩ := hC
  simp only [↓gaW, ↓gaV, ↓gaC, ↓gaN, gaP, Nat.reduceEqDiff, Nat.reduceLeDiff, Nat.reduceAdd, Nat.reduceSub, Nat.reduceMul, Int.reduceLT, Int.reduceLE, Int.reduceEq, Int.reduceToNat, Int.reduceAdd, Int.reduceSub, Int.reduceMul, reduceCtorEq, ↓reduceIte]
  refine callK_of (ct_bare (hs.keep l1 k1) hd hm) (fun v n2 g2 l2 k2 hC => ?_) (by omega)
  obtain ⟨B1, m', d1, rfl, hd1, hl2, hr2⟩ := hC
  have hr1 := hr1.keep l2 k2
  have hk : ∀ i, i < nx → g2 i = gt i := fun i hi => by rw [k2 i (by omega), k1 i hi]
  have hlen0 : l.length = n := by simpa using hr.len
  have hn' : n' < 1000000000 := by
    have := lb_len_le.2 (lv_lt l)
    omega
  generalize hX : lv l = X at *
  generalize hY : lv k = Y at *
  by_cases hlen : (n' : Int) = (m' : Int)
  · have hmn : n' = m' := by omega
    subst hmn
    simp only [↓gaW, ↓gaV, ↓gaC, ↓gaN, gaP, Nat.reduceEqDiff, Nat.reduceLeDiff, Nat.reduceAdd, Nat.reduceSub, Nat.reduceMul, Int.reduceLT, Int.reduceLE, Int.reduceEq, Int.reduceToNat, Int.reduceAdd, Int.reduceSub, Int.reduceMul, reduceCtorEq, ↓reduceIte, hlen, ne_eq, not_true_eq_false, decide_false]
    have w1 : IntKind.i64.wrap ((n' : Int) - 1) = (n' : Int) - 1 := i64_w _ (by omega)
    refine loop_of (fun j f m => ∃ i : Nat, j = i ∧ i ≤ n' ∧ f 0 = .slice A1 n' c1 ∧ f 1 = .slice B1 n' d1 ∧ f 5 = .int .i64 ((i : Nat) - 1) ∧ m = ⟨n2, b, g2⟩ ∧ X / 4294967296 ^ i = Y / 4294967296 ^ i) n' ⟨n', rfl, Nat.le_refl _, rfl, rfl, by simp only [put_e, w1]; rfl, rfl, ?_⟩ ?_
    · have h1 := lb_len_le.1 (show (lb X).length ≤ n' by omega)
      have h2 := lb_len_le.1 (show (lb Y).length ≤ n' by omega)
      rw [Nat.div_eq_of_lt h1, Nat.div_eq_of_lt h2]
    · rintro j f m ⟨i, rfl, hi, h0, h1, h5, rfl, he⟩
      by_cases hpos : (0 : Int) ≤ (j : Int) - 1
      · obtain ⟨i, rfl⟩ : ∃ i, j = i + 1 := ⟨j - 1, by omega⟩
        have e1 : (((i + 1 : Nat) : Int) - 1) = (i : Int) := by omega
        rw [e1] at h5 hpos
        obtain ⟨a, ce, ro, rfl, a1, a2, a3, a4⟩ := w32_cell hr1 hl1 (i := i) (by omega)
        obtain ⟨a', ce', ro', rfl, b1, b2, b3, b4⟩ := w32_cell hr2 hl2 (i := i) (by omega)
        rw [lb_get] at a4 b4
        by_cases hne : X / 4294967296 ^ i % 4294967296 = Y / 4294967296 ^ i % 4294967296
        · simp only [↓gaW, ↓gaV, ↓gaC, ↓gaN, gaP, Nat.reduceEqDiff, Nat.reduceLeDiff, Nat.reduceAdd, Nat.reduceSub, Nat.reduceMul, Int.reduceLT, Int.reduceLE, Int.reduceEq, Int.reduceToNat, Int.reduceAdd, Int.reduceSub, Int.reduceMul, reduceCtorEq, ↓reduceIte, h0, h1, h5, hpos, decide_true, a2, a4, b2, b4, hne, decide_false]
          repeat refine And.intro (by omega) ?_
          simp only [↓gaW, ↓gaV, ↓gaC, ↓gaN, gaP, Nat.reduceEqDiff, Nat.reduceLeDiff, Nat.reduceAdd, Nat.reduceSub, Nat.reduceMul, Int.reduceLT, Int.reduceLE, Int.reduceEq, Int.reduceToNat, Int.reduceAdd, Int.reduceSub, Int.reduceMul, reduceCtorEq, ↓reduceIte, h5, i64_w ((i : Int) - 1) (by omega), loopK_n]
          exact ⟨i, by omega, i, rfl, by omega, h0, h1, rfl, (cmp_digit he).2 hne⟩
        · have hne' : ((X / 4294967296 ^ i % 4294967296 : Nat) : Int) ≠ ((Y / 4294967296 ^ i % 4294967296 : Nat) : Int) := by omega
          simp only [↓gaW, ↓gaV, ↓gaC, ↓gaN, gaP, Nat.reduceEqDiff, Nat.reduceLeDiff, Nat.reduceAdd, Nat.reduceSub, Nat.reduceMul, Int.reduceLT, Int.reduceLE, Int.reduceEq, Int.reduceToNat, Int.reduceAdd, Int.reduceSub, Int.reduceMul, reduceCtorEq, ↓reduceIte, h0, h1, h5, hpos, decide_true, a2, a4, b2, b4, hne']
          repeat refine And.intro (by omega) ?_
          refine callK_of ct_Cmpu (fun v n3 g3 l3 k3 hC => ?_) (by omega)
          subst hC
          simp only [↓gaW, ↓gaV, ↓gaC, ↓gaN, gaP, Nat.reduceEqDiff, Nat.reduceLeDiff, Nat.reduceAdd, Nat.reduceSub, Nat.reduceMul, Int.reduceLT, Int.reduceLE, Int.reduceEq, Int.reduceToNat, Int.reduceAdd, Int.reduceSub, Int.reduceMul, reduceCtorEq, ↓reduceIte, gaE, implies_true, Nat.le_refl, Int.sub_zero, Nat.sub_zero, Int.le_refl, true_or, or_true, loopK_r]
          exact ⟨by omega, fun i hi => by rw [k3 i (by omega), hk i hi], by rw [cmp_digitI he hne]⟩
      · have hj : j = 0 := by omega
        subst hj
        simp only [↓gaW, ↓gaV, ↓gaC, ↓gaN, gaP, Nat.reduceEqDiff, Nat.reduceLeDiff, Nat.reduceAdd, Nat.reduceSub, Nat.reduceMul, Int.reduceLT, Int.reduceLE, Int.reduceEq, Int.reduceToNat, Int.reduceAdd, Int.reduceSub, Int.reduceMul, reduceCtorEq, ↓reduceIte, gaE, implies_true, Nat.le_refl, Int.sub_zero, Nat.sub_zero, Int.le_refl, true_or, or_true, h5, hpos, decide_false, loopK_e]
        simp only [Nat.pow_zero, Nat.div_one] at he
        exact ⟨by omega, hk, by rw [cmpI_eq (by omega)]⟩
  · have hlen' : ((n' : Int) ≠ (m' : Int)) := hlen
    simp only [↓gaW, ↓gaV, ↓gaC, ↓gaN, gaP, Nat.reduceEqDiff, Nat.reduceLeDiff, Nat.reduceAdd, Nat.reduceSub, Nat.reduceMul, Int.reduceLT, Int.reduceLE, Int.reduceEq, Int.reduceToNat, Int.reduceAdd, Int.reduceSub, Int.reduceMul, reduceCtorEq, ↓reduceIte, hlen', decide_true]
    refine callK_of ct_Cmpi (fun v n3 g3 l3 k3 hC => ?_) (by omega)
    subst hC
    simp only [↓gaW, ↓gaV, ↓gaC, ↓gaN, gaP, Nat.reduceEqDiff, Nat.reduceLeDiff, Nat.reduceAdd, Nat.reduceSub, Nat.reduceMul, Int.reduceLT, Int.reduceLE, Int.reduceEq, Int.reduceToNat, Int.reduceAdd, Int.reduceSub, Int.reduceMul, reduceCtorEq, ↓reduceIte, gaE, implies_true, Nat.le_refl, Int.sub_zero, Nat.sub_zero, Int.le_refl, true_or, or_true]
    refine ⟨by omega, fun i hi => by rw [k3 i (by omega), hk i hi], ?_⟩
    congr 1
    rcases Nat.lt_or_gt_of_ne (show n' ≠ m' by omega) with h | h
    · have := cmp_len (a := X) (b := Y) (by omega)
      rw [cmpI_lt (by omega), cmpI_lt (by omega)]
    · have := cmp_len (a := Y) (b := X) (by omega)
      rw [cmpI_gt (by omega), cmpI_gt (by omega)]
end
end Go.Ga

namespace Go.Ga
open Go Go.Proofs
set_option linter.unusedSimpArgs false
set_option linter.unusedVariables false
set_option maxRecDepth 100000

section
variable {nx : Nat} {gt : Nat → Option Blk}

attribute [local irreducible] appendK
theorem ct_Clone {A : Option Addr} {n c : Nat} {l : List UInt32} (hr : Row nx gt 1 A n (l.map u32V)) (hc : n ≤ c) (hn : n < 1000000000) :
    Ct Try.prog 95 [.slice A n c] nx gt fun v nx' gt' => W32 nx' gt' v l := by
  have hlen : l.length = n := by simpa using hr.len
  refine Ct.of hmx r_slices_Clone___uint32_uint32_ (by simp [c_slices_Clone___uint32_uint32_]) fun b hb => ?_
  cases A with
  | none =>
    have hn0 : n = 0 := by
      rcases Nat.eq_zero_or_pos n with h | h
      · exact h
      · obtain ⟨a, _, _, h1, _⟩ := hr.cells h; cases h1
    subst hn0
    have : l = [] := List.eq_nil_of_length_eq_zero hlen
    subst this
    have e : isNilV .sl (.slice none 0 c) = some true := rfl
    simp only [c_slices_Clone___uint32_uint32_, ↓gaW, ↓gaV, ↓gaC, ↓gaN, gaP, Nat.reduceEqDiff, Nat.reduceLeDiff, Nat.reduceAdd, Nat.reduceSub, Nat.reduceMul, Int.reduceLT, Int.reduceLE, Int.reduceEq, Int.reduceToNat, Int.reduceAdd, Int.reduceSub, Int.reduceMul, reduceCtorEq, ↓reduceIte, gaE, implies_true, Nat.le_refl, Int.sub_zero, Nat.sub_zero, Int.le_refl, true_or, or_true, e]
    exact W32.nil
  | some a =>
    have e : isNilV .sl (.slice (some a) n c) = some false := rfl
    have hrow : rowOf ⟨nx + 1, b, upd gt nx (some (.cells [] false))⟩ (some a) n = some (l.map u32V) := (hr.keep (Nat.le_succ _) (fun k hk => by simp only [upd_e]; rw [if_neg (by omega)])).rowOf
    simp only [c_slices_Clone___uint32_uint32_, ↓gaW, ↓gaV, ↓gaC, ↓gaN, gaP, Nat.reduceEqDiff, Nat.reduceLeDiff, Nat.reduceAdd, Nat.reduceSub, Nat.reduceMul, Int.reduceLT, Int.reduceLE, Int.reduceEq, Int.reduceToNat, Int.reduceAdd, Int.reduceSub, Int.reduceMul, reduceCtorEq, ↓reduceIte, gaE, implies_true, Nat.le_refl, Int.sub_zero, Nat.sub_zero, Int.le_refl, true_or, or_true, List.getD_cons_zero, List.getD_cons_succ, fillL, splice, List.take_zero, List.drop_zero, List.drop_succ_cons, List.take_succ_cons, List.drop_nil, List.take_nil, e, hrow]
    refine grow_app (nx := nx) (l := []) (Grow.lit (q := nx) (l := []) (ro := false) (by omega) (by simp [upd]) rfl) (by omega) (by omega) (by omega) (by simp [hlen]) (all_u32 l) (by omega) (by omega) fun A' x' g' h1 h2 h3 => ?_
    simp only [↓gaW, ↓gaV, ↓gaC, ↓gaN, gaP, Nat.reduceEqDiff, Nat.reduceLeDiff, Nat.reduceAdd, Nat.reduceSub, Nat.reduceMul, Int.reduceLT, Int.reduceLE, Int.reduceEq, Int.reduceToNat, Int.reduceAdd, Int.reduceSub, Int.reduceMul, reduceCtorEq, ↓reduceIte, gaE, implies_true, Nat.le_refl, Int.sub_zero, Nat.sub_zero, Int.le_refl, true_or, or_true]
    refine ⟨by omega, fun i hi => by rw [h2 i hi]; simp only [upd_e]; rw [if_neg (by omega)], ?_⟩
    rw [List.nil_append, Nat.zero_add] at h3
    exact h3.w32

theorem ct_Bare {A : Option Addr} {n c : Nat} {l : List UInt32} (hr : Row nx gt 1 A n (l.map u32V)) (hc : n ≤ c) (hn : n < 1000000000) :
    Ct Try.prog 84 [.slice A n c] nx gt fun v nx' gt' => W32 nx' gt' v (lb (lv l)) := by
  have hlen : l.length = n := by simpa using hr.len
  refine Ct.of hmx r_limb_Bare (by simp [c_limb_Bare]) fun b hb => ?_
  simp only [c_limb_Bare, ↓gaW, ↓gaV, ↓gaC, ↓gaN, gaP, Nat.reduceEqDiff, Nat.reduceLeDiff, Nat.reduceAdd, Nat.reduceSub, Nat.reduceMul, Int.reduceLT, Int.reduceLE, Int.reduceEq, Int.reduceToNat, Int.reduceAdd, Int.reduceSub, Int.reduceMul, reduceCtorEq, ↓reduceIte]
  refine callK_of (ct_bare hr hc hn) (fun v n1 g1 l1 k1 hC => ?_) (by omega)
  obtain ⟨A1, n', c1, rfl, hc1, hl1, hr1⟩ := hC
  have hn' : n' < 1000000000 := by
    have := lb_len_le.2 (lv_lt l)
    omega
  simp only [↓gaW, ↓gaV, ↓gaC, ↓gaN, gaP, Nat.reduceEqDiff, Nat.reduceLeDiff, Nat.reduceAdd, Nat.reduceSub, Nat.reduceMul, Int.reduceLT, Int.reduceLE, Int.reduceEq, Int.reduceToNat, Int.reduceAdd, Int.reduceSub, Int.reduceMul, reduceCtorEq, ↓reduceIte]
  refine callK_of (ct_Clone hr1 hc1 hn') (fun v n2 g2 l2 k2 hC => ?_) (by omega)
  simp only [↓gaW, ↓gaV, ↓gaC, ↓gaN, gaP, Nat.reduceEqDiff, Nat.reduceLeDiff, Nat.reduceAdd, Nat.reduceSub, Nat.reduceMul, Int.reduceLT, Int.reduceLE, Int.reduceEq, Int.reduceToNat, Int.reduceAdd, Int.reduceSub, Int.reduceMul, reduceCtorEq, ↓reduceIte, gaE, implies_true, Nat.le_refl, Int.sub_zero, Nat.sub_zero, Int.le_refl, true_or, or_true]
  exact ⟨by omega, fun i hi => by rw [k2 i (by omega), k1 i hi], hC⟩

theorem ct_rBare {A : Option Addr} {n c : Nat} {l : List UInt32} (hr : Row nx gt 1 A n (l.map u32V)) (hc : n ≤ c) (hn : n < 1000000000) :
    Ct Try.prog 73 [.slice A n c] nx gt fun v nx' gt' => W32 nx' gt' v (lb (lv l)) := by
  have hlen : l.length = n := by simpa using hr.len
  refine Ct.of hmx r_lanyardref07_Bare (by simp [c_lanyardref07_Bare]) fun b hb => ?_
  simp only [c_lanyardref07_Bare, ↓gaW, ↓gaV, ↓gaC, ↓gaN, gaP, Nat.reduceEqDiff, Nat.reduceLeDiff, Nat.reduceAdd, Nat.reduceSub, Nat.reduceMul, Int.reduceLT, Int.reduceLE, Int.reduceEq, Int.reduceToNat, Int.reduceAdd, Int.reduceSub, Int.reduceMul, reduceCtorEq, ↓reduceIte]
  have hcut : ∀ a k, A = some a → k ≤ n → rowOf ⟨nx + 1, b, upd gt nx (some (.cells [] false))⟩ (some ⟨a.block, a.off, a.spot⟩) k = some ((l.take k).map u32V) := by
    intro a k ha hk
    have h := ((hr.keep (nx' := nx + 1) (gt' := upd gt nx (some (.cells [] false))) (Nat.le_succ _) (fun k hk => by simp only [upd_e]; rw [if_neg (by omega)])).part (lo := 0) (hi := k) (Nat.zero_le _) hk ha).rowOf (b := b)
    simpa [List.map_take] using h
  have hnil : rowOf ⟨nx + 1, b, upd gt nx (some (.cells [] false))⟩ none 0 = some [] := by simp [rowOf]
  have app : ∀ (k : Nat) (K : Value → Mem → Prop), k ≤ n → (∀ A' x' g', nx + 1 ≤ x' → (∀ i, i < nx → g' i = gt i) → W32 x' g' (.slice A' k k) (l.take k) → K (.slice A' k k) ⟨x', b, g'⟩) →
      appendK 1 4 ⟨nx + 1, b, upd gt nx (some (.cells [] false))⟩ (some ⟨nx, 0, none⟩) 0 0 k ((l.take k).map u32V) K := by
    intro k K hk hK
    refine grow_app (nx := nx) (l := []) (Grow.lit (q := nx) (l := []) (ro := false) (by omega) (by simp [upd]) rfl) (by omega) (by omega) (by omega) (by simp [hlen]; omega) (all_u32 _) (by omega) (by omega) fun A' x' g' h1 h2 h3 => ?_
    rw [List.nil_append, Nat.zero_add] at h3
    rw [Nat.zero_add]
    exact hK A' x' g' h1 (fun i hi => by rw [h2 i hi]; simp only [upd_e]; rw [if_neg (by omega)]) h3.w32
  refine loop_of (fun j f m => ∃ k : Nat, j = k ∧ k ≤ n ∧ f 0 = .slice A n c ∧ f 3 = .int .i64 (k : Nat) ∧ m = ⟨nx, b, gt⟩ ∧ ∀ i, k ≤ i → i < l.length → l.getD i 0 = 0) n ⟨n, rfl, Nat.le_refl _, rfl, rfl, rfl, fun i h1 h2 => by omega⟩ ?_
  rintro j f m ⟨k, rfl, hk, h0, h3, rfl, hz⟩
  by_cases hpos : (0 : Int) < (j : Int)
  · have e1 : ((j : Int) - 1) = ((j - 1 : Nat) : Int) := by omega
    obtain ⟨a, ce, ro, ha, h5, h6, h7, h8⟩ := w32_cell hr hlen (i := j - 1) (by omega)
    by_cases hzero : (l.getD (j - 1) 0) = 0
    · have hv : ((l.getD (j - 1) 0).toNat : Int) = 0 := by rw [hzero]; rfl
      simp only [↓gaW, ↓gaV, ↓gaC, ↓gaN, gaP, Nat.reduceEqDiff, Nat.reduceLeDiff, Nat.reduceAdd, Nat.reduceSub, Nat.reduceMul, Int.reduceLT, Int.reduceLE, Int.reduceEq, Int.reduceToNat, Int.reduceAdd, Int.reduceSub, Int.reduceMul, reduceCtorEq, ↓reduceIte, h0, h3, hpos, decide_true, e1, i64_w ((j - 1 : Nat) : Int) (by omega), ha, h6, h8, hv]
      refine ⟨by omega, by omega, by omega, ?_⟩
      simp only [↓gaW, ↓gaV, ↓gaC, ↓gaN, gaP, Nat.reduceEqDiff, Nat.reduceLeDiff, Nat.reduceAdd, Nat.reduceSub, Nat.reduceMul, Int.reduceLT, Int.reduceLE, Int.reduceEq, Int.reduceToNat, Int.reduceAdd, Int.reduceSub, Int.reduceMul, reduceCtorEq, ↓reduceIte, h3, e1, i64_w ((j - 1 : Nat) : Int) (by omega), loopK_n]
      refine ⟨j - 1, by omega, j - 1, rfl, by omega, by rw [h0, ha], rfl, fun i h1 h2 => ?_⟩
      by_cases hi : i = j - 1
      · rw [hi]; exact hzero
      · exact hz i (by omega) h2
    · have hv : ¬ ((l.getD (j - 1) 0).toNat : Int) = 0 := fun h => hzero (by apply UInt32.toNat_inj.1; show _ = 0; omega)
      have hsp := hr.spot a ha
      simp only [↓gaW, ↓gaV, ↓gaC, ↓gaN, gaP, Nat.reduceEqDiff, Nat.reduceLeDiff, Nat.reduceAdd, Nat.reduceSub, Nat.reduceMul, Int.reduceLT, Int.reduceLE, Int.reduceEq, Int.reduceToNat, Int.reduceAdd, Int.reduceSub, Int.reduceMul, reduceCtorEq, ↓reduceIte, gaE, implies_true, Nat.le_refl, Int.sub_zero, Nat.sub_zero, Int.le_refl, true_or, or_true, List.getD_cons_zero, List.getD_cons_succ, fillL, splice, List.take_zero, List.drop_zero, List.drop_succ_cons, List.take_succ_cons, List.drop_nil, List.take_nil, h0, h3, hpos, decide_true, e1, i64_w ((j - 1 : Nat) : Int) (by omega), ha, h6, h8, hv, decide_false, hcut a j ha hk]
      repeat refine And.intro (by first | omega | (rcases hsp with h | h <;> simp [h])) ?_
      refine app j _ hk fun A' x' g' h1 h2 h3 => ?_
      simp only [↓gaW, ↓gaV, ↓gaC, ↓gaN, gaP, Nat.reduceEqDiff, Nat.reduceLeDiff, Nat.reduceAdd, Nat.reduceSub, Nat.reduceMul, Int.reduceLT, Int.reduceLE, Int.reduceEq, Int.reduceToNat, Int.reduceAdd, Int.reduceSub, Int.reduceMul, reduceCtorEq, ↓reduceIte, gaE, implies_true, Nat.le_refl, Int.sub_zero, Nat.sub_zero, Int.le_refl, true_or, or_true]
      rw [lb_lv_take l j (by omega) hz (.inr hzero)]
      exact ⟨by omega, h2, h3⟩
  · have hj : j = 0 := by omega
    subst hj
    have hneg : ¬ (0 : Int) < ((0 : Nat) : Int) := by omega
    rw [lb_lv_take l 0 (by omega) hz (.inl rfl)]
    cases A with
    | none =>
      simp only [↓gaW, ↓gaV, ↓gaC, ↓gaN, gaP, Nat.reduceEqDiff, Nat.reduceLeDiff, Nat.reduceAdd, Nat.reduceSub, Nat.reduceMul, Int.reduceLT, Int.reduceLE, Int.reduceEq, Int.reduceToNat, Int.reduceAdd, Int.reduceSub, Int.reduceMul, reduceCtorEq, ↓reduceIte, gaE, implies_true, Nat.le_refl, Int.sub_zero, Nat.sub_zero, Int.le_refl, true_or, or_true, List.getD_cons_zero, List.getD_cons_succ, fillL, splice, List.take_zero, List.drop_zero, List.drop_succ_cons, List.take_succ_cons, List.drop_nil, List.take_nil, h0, h3, hneg, decide_false, hnil]
      repeat refine And.intro (by omega) ?_
      refine app 0 _ hk fun A' x' g' h1 h2 h3 => ?_
      simp only [↓gaW, ↓gaV, ↓gaC, ↓gaN, gaP, Nat.reduceEqDiff, Nat.reduceLeDiff, Nat.reduceAdd, Nat.reduceSub, Nat.reduceMul, Int.reduceLT, Int.reduceLE, Int.reduceEq, Int.reduceToNat, Int.reduceAdd, Int.reduceSub, Int.reduceMul, reduceCtorEq, ↓reduceIte, gaE, implies_true, Nat.le_refl, Int.sub_zero, Nat.sub_zero, Int.le_refl, true_or, or_true]
      exact ⟨by omega, h2, h3⟩
    | some a =>
      have hsp := hr.spot a rfl
      simp only [↓gaW, ↓gaV, ↓gaC, ↓gaN, gaP, Nat.reduceEqDiff, Nat.reduceLeDiff, Nat.reduceAdd, Nat.reduceSub, Nat.reduceMul, Int.reduceLT, Int.reduceLE, Int.reduceEq, Int.reduceToNat, Int.reduceAdd, Int.reduceSub, Int.reduceMul, reduceCtorEq, ↓reduceIte, gaE, implies_true, Nat.le_refl, Int.sub_zero, Nat.sub_zero, Int.le_refl, true_or, or_true, List.getD_cons_zero, List.getD_cons_succ, fillL, splice, List.take_zero, List.drop_zero, List.drop_succ_cons, List.take_succ_cons, List.drop_nil, List.take_nil, h0, h3, hneg, decide_false, hcut a 0 rfl (Nat.zero_le _)]
      repeat refine And.intro (by first | omega | (rcases hsp with h | h <;> simp [h])) ?_
      refine app 0 _ hk fun A' x' g' h1 h2 h3 => ?_
      simp only [↓gaW, ↓gaV, ↓gaC, ↓gaN, gaP, Nat.reduceEqDiff, Nat.reduceLeDiff, Nat.reduceAdd, Nat.reduceSub, Nat.reduceMul, Int.reduceLT, Int.reduceLE, Int.reduceEq, Int.reduceToNat, Int.reduceAdd, Int.reduceSub, Int.reduceMul, reduceCtorEq, ↓reduceIte, gaE, implies_true, Nat.le_refl, Int.sub_zero, Nat.sub_zero, Int.le_refl, true_or, or_true]
      exact ⟨by omega, h2, h3⟩
end
end Go.Ga

namespace Go.Ga
open Go Go.Proofs
set_option linter.unusedSimpArgs false
set_option linter.unusedVariables false
set_option maxRecDepth 100000
attribute [local irreducible] appendK

theorem mm_t {f : Regs} (mx : Bool) (k : IntKind) (a : Int) (t : Nat) (ys : List Rv) (K : Int → Prop) : asO (mmV mx k a f (.t t :: ys)) K = asI (f t) fun _ b => asO (mmV mx k (if mx then (if b > a then b else a) else (if b < a then b else a)) f ys) K := by
  simp only [mmV, Rv.ev]
  cases f t <;> rfl

section
variable {nx : Nat} {gt : Nat → Option Blk}

/-- The highest part of a number, and its bits. -/
theorem bl_top {X n : Nat} (h : (lb X).length = n + 1) : bl X = 32 * n + bl (X / 4294967296 ^ n) ∧ X / 4294967296 ^ n < 4294967296 ∧ X / 4294967296 ^ n ≠ 0 := by
  have h1 := lb_len_le.1 (Nat.le_of_eq h)
  have h2 : ¬ X < 4294967296 ^ n := fun hc => by have := lb_len_le.2 hc; omega
  have e : 4294967296 ^ n = 2 ^ (32 * n) := by rw [Nat.pow_mul]
  have hp : 0 < 4294967296 ^ n := Nat.pow_pos (by decide)
  have h3 : X / 4294967296 ^ n < 4294967296 := by
    rw [Nat.div_lt_iff_lt_mul hp, Nat.mul_comm, ← Nat.pow_succ]
    exact h1
  refine ⟨?_, h3, ?_⟩
  · rw [e]
    have := bl_div (n := X) (s := 32 * n) (by rw [← e]; omega)
    omega
  · have := Nat.div_pos (Nat.not_lt.1 h2) hp
    omega

theorem ct_Len {A : Option Addr} {n c : Nat} {l : List UInt32} (hr : Row nx gt 1 A n (l.map u32V)) (hc : n ≤ c) (hn : n < 1000000000) :
    Ct Try.prog 71 [.slice A n c] nx gt fun v _ _ => v = .int .i64 (bl (lv l) : Nat) := by
  have hlen : l.length = n := by simpa using hr.len
  refine Ct.of hmx r_limb_Len (by simp [c_limb_Len]) fun b hb => ?_
  simp only [c_limb_Len, ↓gaW, ↓gaV, ↓gaC, ↓gaN, gaP, Nat.reduceEqDiff, Nat.reduceLeDiff, Nat.reduceAdd, Nat.reduceSub, Nat.reduceMul, Int.reduceLT, Int.reduceLE, Int.reduceEq, Int.reduceToNat, Int.reduceAdd, Int.reduceSub, Int.reduceMul, reduceCtorEq, ↓reduceIte]
  refine callK_of (ct_bare hr hc hn) (fun v n1 g1 l1 k1 hC => ?_) (by omega)
  obtain ⟨A1, n', c1, rfl, hc1, hl1, hr1⟩ := hC
  have hn' : n' < 1000000000 := by
    have := lb_len_le.2 (lv_lt l)
    omega
  generalize lv l = X at *
  by_cases h0 : (n' : Int) = 0
  · have : X = 0 := by
      have h1 := lb_len_le.1 (show (lb X).length ≤ 0 by omega)
      simpa using h1
    subst this
    simp only [↓gaW, ↓gaV, ↓gaC, ↓gaN, gaP, Nat.reduceEqDiff, Nat.reduceLeDiff, Nat.reduceAdd, Nat.reduceSub, Nat.reduceMul, Int.reduceLT, Int.reduceLE, Int.reduceEq, Int.reduceToNat, Int.reduceAdd, Int.reduceSub, Int.reduceMul, reduceCtorEq, ↓reduceIte, gaE, implies_true, Nat.le_refl, Int.sub_zero, Nat.sub_zero, Int.le_refl, true_or, or_true, h0, decide_true]
    exact ⟨by omega, k1, rfl⟩
  · obtain ⟨k, rfl⟩ : ∃ k, n' = k + 1 := ⟨n' - 1, by omega⟩
    obtain ⟨t1, t2, t3⟩ := bl_top hl1
    have tb := bl_le.2 (show X / 4294967296 ^ k < 2 ^ 32 from t2)
    have e1 : (((k + 1 : Nat) : Int) - 1) = (k : Int) := by omega
    have e2 : (32 * (k : Int)) = ((32 * k : Nat) : Int) := by omega
    obtain ⟨a, ce, ro, rfl, a1, a2, a3, a4⟩ := w32_cell hr1 hl1 (i := k) (by omega)
    rw [lb_get, Nat.mod_eq_of_lt t2] at a4
    simp only [↓gaW, ↓gaV, ↓gaC, ↓gaN, gaP, Nat.reduceEqDiff, Nat.reduceLeDiff, Nat.reduceAdd, Nat.reduceSub, Nat.reduceMul, Int.reduceLT, Int.reduceLE, Int.reduceEq, Int.reduceToNat, Int.reduceAdd, Int.reduceSub, Int.reduceMul, reduceCtorEq, ↓reduceIte, h0, decide_false, e1, i64_w (k : Int) (by omega), e2, i64_w ((32 * k : Nat) : Int) (by omega), a2, a4]
    repeat refine And.intro (by omega) ?_
    refine callK_of (ct_Len32 t2) (fun v n2 g2 l2 k2 hC => ?_) (by omega)
    subst hC
    simp only [↓gaW, ↓gaV, ↓gaC, ↓gaN, gaP, Nat.reduceEqDiff, Nat.reduceLeDiff, Nat.reduceAdd, Nat.reduceSub, Nat.reduceMul, Int.reduceLT, Int.reduceLE, Int.reduceEq, Int.reduceToNat, Int.reduceAdd, Int.reduceSub, Int.reduceMul, reduceCtorEq, ↓reduceIte, gaE, implies_true, Nat.le_refl, Int.sub_zero, Nat.sub_zero, Int.le_refl, true_or, or_true, i64_w (((32 * k : Nat) : Int) + (bl (X / 4294967296 ^ k) : Nat)) (by omega)]
    exact ⟨by omega, fun i hi => by rw [k2 i (by omega), k1 i hi], by rw [t1]; congr 1⟩

theorem ct_rpart {A : Option Addr} {n c i : Nat} {l : List UInt32} (hr : Row nx gt 1 A n (l.map u32V)) (hn : n < 1000000000) (hi : i < 10000000000) :
    Ct Try.prog 74 [.slice A n c, .int .i64 (i : Nat)] nx gt fun v _ _ => v = .int .u64 ((lv l / 4294967296 ^ i % 4294967296 : Nat) : Int) := by
  have hlen : l.length = n := by simpa using hr.len
  refine Ct.of hmx r_lanyardref07_part (by simp [c_lanyardref07_part]) fun b hb => ?_
  by_cases h : (n : Int) ≤ (i : Int)
  · simp only [c_lanyardref07_part, ↓gaW, ↓gaV, ↓gaC, ↓gaN, gaP, Nat.reduceEqDiff, Nat.reduceLeDiff, Nat.reduceAdd, Nat.reduceSub, Nat.reduceMul, Int.reduceLT, Int.reduceLE, Int.reduceEq, Int.reduceToNat, Int.reduceAdd, Int.reduceSub, Int.reduceMul, reduceCtorEq, ↓reduceIte, gaE, implies_true, Nat.le_refl, Int.sub_zero, Nat.sub_zero, Int.le_refl, true_or, or_true, h, decide_true]
    have h1 := lv_lt l
    have h2 : lv l < 4294967296 ^ i := Nat.lt_of_lt_of_le h1 (Nat.pow_le_pow_right (by decide) (by omega))
    rw [Nat.div_eq_of_lt h2]; rfl
  · obtain ⟨a, ce, ro, rfl, a1, a2, a3, a4⟩ := w32_cell hr hlen (i := i) (by omega)
    have := lt32 (l.getD i 0)
    simp only [c_lanyardref07_part, ↓gaW, ↓gaV, ↓gaC, ↓gaN, gaP, Nat.reduceEqDiff, Nat.reduceLeDiff, Nat.reduceAdd, Nat.reduceSub, Nat.reduceMul, Int.reduceLT, Int.reduceLE, Int.reduceEq, Int.reduceToNat, Int.reduceAdd, Int.reduceSub, Int.reduceMul, reduceCtorEq, ↓reduceIte, gaE, implies_true, Nat.le_refl, Int.sub_zero, Nat.sub_zero, Int.le_refl, true_or, or_true, h, decide_false, a2, a4, u64_i ((l.getD i 0).toNat : Int) (by omega)]
    exact ⟨by omega, by omega, by omega, by rw [lv_get]⟩

theorem ct_rCmp {A B : Option Addr} {n m c d : Nat} {l k : List UInt32} (hr : Row nx gt 1 A n (l.map u32V)) (hn : n < 1000000000) (hs : Row nx gt 1 B m (k.map u32V)) (hm : m < 1000000000) :
    Ct Try.prog 48 [.slice A n c, .slice B m d] nx gt fun v _ _ => v = .int .i64 (cmpI (lv l : Nat) (lv k : Nat)) := by
  have hl : l.length = n := by simpa using hr.len
  have hk : k.length = m := by simpa using hs.len
  refine Ct.of hmx r_lanyardref07_Cmp (by simp [c_lanyardref07_Cmp]) fun b hb => ?_
  simp only [c_lanyardref07_Cmp, ↓gaW, ↓gaV, ↓gaC, ↓gaN, gaP, Nat.reduceEqDiff, Nat.reduceLeDiff, Nat.reduceAdd, Nat.reduceSub, Nat.reduceMul, Int.reduceLT, Int.reduceLE, Int.reduceEq, Int.reduceToNat, Int.reduceAdd, Int.reduceSub, Int.reduceMul, reduceCtorEq, ↓reduceIte]
  obtain ⟨M, hM, hM1, hM2, hM3⟩ : ∃ M : Nat, (if (m : Int) > (n : Int) then (m : Int) else (n : Int)) = (M : Int) ∧ n ≤ M ∧ m ≤ M ∧ M < 1000000000 := by
    by_cases h : (m : Int) > (n : Int)
    · exact ⟨m, by rw [if_pos h], by omega, by omega, hm⟩
    · exact ⟨n, by rw [if_neg h], by omega, by omega, hn⟩
  simp only [↓gaW, ↓gaV, ↓gaC, ↓gaN, gaP, Nat.reduceEqDiff, Nat.reduceLeDiff, Nat.reduceAdd, Nat.reduceSub, Nat.reduceMul, Int.reduceLT, Int.reduceLE, Int.reduceEq, Int.reduceToNat, Int.reduceAdd, Int.reduceSub, Int.reduceMul, reduceCtorEq, ↓reduceIte, mm_t, gt_iff_lt] at hM ⊢
  simp only [↓gaW, ↓gaV, ↓gaC, ↓gaN, gaP, Nat.reduceEqDiff, Nat.reduceLeDiff, Nat.reduceAdd, Nat.reduceSub, Nat.reduceMul, Int.reduceLT, Int.reduceLE, Int.reduceEq, Int.reduceToNat, Int.reduceAdd, Int.reduceSub, Int.reduceMul, reduceCtorEq, ↓reduceIte, hM, i64_w ((M : Int) - 1) (by omega)]
  refine loop_of (fun j f mm => ∃ (i x : Nat) (g : Nat → Option Blk), j = i ∧ i ≤ M ∧ f 0 = .slice A n c ∧ f 1 = .slice B m d ∧ f 5 = .int .i64 ((i : Nat) - 1) ∧ mm = ⟨x, b, g⟩ ∧ nx ≤ x ∧ (∀ k, k < nx → g k = gt k) ∧ lv l / 4294967296 ^ i = lv k / 4294967296 ^ i) M ⟨M, nx, gt, rfl, Nat.le_refl _, rfl, rfl, rfl, rfl, Nat.le_refl _, fun _ _ => rfl, ?_⟩ ?_
  · have h1 : lv l < 4294967296 ^ M := Nat.lt_of_lt_of_le (lv_lt l) (Nat.pow_le_pow_right (by decide) (by omega))
    have h2 : lv k < 4294967296 ^ M := Nat.lt_of_lt_of_le (lv_lt k) (Nat.pow_le_pow_right (by decide) (by omega))
    rw [Nat.div_eq_of_lt h1, Nat.div_eq_of_lt h2]
  · rintro j f m ⟨i, x, g, rfl, hi, h0, h1, h5, rfl, hx, hg, he⟩
    by_cases hpos : (0 : Int) ≤ (j : Int) - 1
    · obtain ⟨i, rfl⟩ : ∃ i, j = i + 1 := ⟨j - 1, by omega⟩
      have e1 : (((i + 1 : Nat) : Int) - 1) = (i : Int) := by omega
      rw [e1] at h5 hpos
      simp only [↓gaW, ↓gaV, ↓gaC, ↓gaN, gaP, Nat.reduceEqDiff, Nat.reduceLeDiff, Nat.reduceAdd, Nat.reduceSub, Nat.reduceMul, Int.reduceLT, Int.reduceLE, Int.reduceEq, Int.reduceToNat, Int.reduceAdd, Int.reduceSub, Int.reduceMul, reduceCtorEq, ↓reduceIte, h0, h1, h5, hpos, decide_true]
      refine callK_of (ct_rpart (hr.keep hx hg) hn (by omega)) (fun v n1 g1 l1 k1 hC => ?_) (by omega)
      subst hC
      simp only [↓gaW, ↓gaV, ↓gaC, ↓gaN, gaP, Nat.reduceEqDiff, Nat.reduceLeDiff, Nat.reduceAdd, Nat.reduceSub, Nat.reduceMul, Int.reduceLT, Int.reduceLE, Int.reduceEq, Int.reduceToNat, Int.reduceAdd, Int.reduceSub, Int.reduceMul, reduceCtorEq, ↓reduceIte, h0, h1, h5]
      refine callK_of (ct_rpart (hs.keep (by omega) (fun q hq => by rw [k1 q (by omega), hg q hq])) hm (by omega)) (fun v n2 g2 l2 k2 hC => ?_) (by omega)
      subst hC
      have hk2 : ∀ q, q < nx → g2 q = gt q := fun q hq => by rw [k2 q (by omega), k1 q (by omega), hg q hq]
      by_cases h2 : ((lv l / 4294967296 ^ i % 4294967296 : Nat) : Int) < ((lv k / 4294967296 ^ i % 4294967296 : Nat) : Int)
      · simp only [↓gaW, ↓gaV, ↓gaC, ↓gaN, gaP, Nat.reduceEqDiff, Nat.reduceLeDiff, Nat.reduceAdd, Nat.reduceSub, Nat.reduceMul, Int.reduceLT, Int.reduceLE, Int.reduceEq, Int.reduceToNat, Int.reduceAdd, Int.reduceSub, Int.reduceMul, reduceCtorEq, ↓reduceIte, gaE, implies_true, Nat.le_refl, Int.sub_zero, Nat.sub_zero, Int.le_refl, true_or, or_true, h2, decide_true, loopK_r]
        have := (cmp_digit he).1 (by omega)
        exact ⟨by omega, hk2, by rw [cmpI_lt (by omega)]⟩
      · by_cases h3 : ((lv k / 4294967296 ^ i % 4294967296 : Nat) : Int) < ((lv l / 4294967296 ^ i % 4294967296 : Nat) : Int)
        · simp only [↓gaW, ↓gaV, ↓gaC, ↓gaN, gaP, Nat.reduceEqDiff, Nat.reduceLeDiff, Nat.reduceAdd, Nat.reduceSub, Nat.reduceMul, Int.reduceLT, Int.reduceLE, Int.reduceEq, Int.reduceToNat, Int.reduceAdd, Int.reduceSub, Int.reduceMul, reduceCtorEq, ↓reduceIte, gaE, implies_true, Nat.le_refl, Int.sub_zero, Nat.sub_zero, Int.le_refl, true_or, or_true, h2, h3, decide_true, decide_false, loopK_r]
          have := (cmp_digit he.symm).1 (by omega)
          exact ⟨by omega, hk2, by rw [cmpI_gt (by omega)]⟩
        · simp only [↓gaW, ↓gaV, ↓gaC, ↓gaN, gaP, Nat.reduceEqDiff, Nat.reduceLeDiff, Nat.reduceAdd, Nat.reduceSub, Nat.reduceMul, Int.reduceLT, Int.reduceLE, Int.reduceEq, Int.reduceToNat, Int.reduceAdd, Int.reduceSub, Int.reduceMul, reduceCtorEq, ↓reduceIte, h2, h3, decide_false, h5, i64_w ((i : Int) - 1) (by omega), loopK_n]
          exact ⟨i, by omega, i, n2, g2, rfl, by omega, h0, h1, rfl, rfl, by omega, hk2, (cmp_digit he).2 (by omega)⟩
    · have hj : j = 0 := by omega
      subst hj
      simp only [↓gaW, ↓gaV, ↓gaC, ↓gaN, gaP, Nat.reduceEqDiff, Nat.reduceLeDiff, Nat.reduceAdd, Nat.reduceSub, Nat.reduceMul, Int.reduceLT, Int.reduceLE, Int.reduceEq, Int.reduceToNat, Int.reduceAdd, Int.reduceSub, Int.reduceMul, reduceCtorEq, ↓reduceIte, gaE, implies_true, Nat.le_refl, Int.sub_zero, Nat.sub_zero, Int.le_refl, true_or, or_true, h5, hpos, decide_false, loopK_e]
      have he' : lv l = lv k := by simpa using he
      exact ⟨by omega, hg, by rw [he', cmpI_eq rfl]⟩

theorem bl_half {x : Nat} (h : 0 < x) : bl x = bl (x / 2) + 1 := by
  rcases Nat.lt_or_ge 1 x with h1 | h1
  · exact bl_div (s := 1) (by omega)
  · have : x = 1 := by omega
    subst this
    decide

theorem ct_rLen {A : Option Addr} {n c : Nat} {l : List UInt32} (hr : Row nx gt 1 A n (l.map u32V)) (hc : n ≤ c) (hn : n < 1000000000) :
    Ct Try.prog 76 [.slice A n c] nx gt fun v _ _ => v = .int .i64 (bl (lv l) : Nat) := by
  have hlen : l.length = n := by simpa using hr.len
  refine Ct.of hmx r_lanyardref07_Len (by simp [c_lanyardref07_Len]) fun b hb => ?_
  simp only [c_lanyardref07_Len, ↓gaW, ↓gaV, ↓gaC, ↓gaN, gaP, Nat.reduceEqDiff, Nat.reduceLeDiff, Nat.reduceAdd, Nat.reduceSub, Nat.reduceMul, Int.reduceLT, Int.reduceLE, Int.reduceEq, Int.reduceToNat, Int.reduceAdd, Int.reduceSub, Int.reduceMul, reduceCtorEq, ↓reduceIte]
  refine callK_of (ct_rBare hr hc hn) (fun v n1 g1 l1 k1 hC => ?_) (by omega)
  obtain ⟨A1, n', c1, rfl, hc1, hl1, hr1⟩ := hC
  have hn' : n' < 1000000000 := by
    have := lb_len_le.2 (lv_lt l)
    omega
  generalize lv l = X at *
  by_cases h0 : (n' : Int) = 0
  · have : X = 0 := by
      have h1 := lb_len_le.1 (show (lb X).length ≤ 0 by omega)
      simpa using h1
    subst this
    simp only [↓gaW, ↓gaV, ↓gaC, ↓gaN, gaP, Nat.reduceEqDiff, Nat.reduceLeDiff, Nat.reduceAdd, Nat.reduceSub, Nat.reduceMul, Int.reduceLT, Int.reduceLE, Int.reduceEq, Int.reduceToNat, Int.reduceAdd, Int.reduceSub, Int.reduceMul, reduceCtorEq, ↓reduceIte, gaE, implies_true, Nat.le_refl, Int.sub_zero, Nat.sub_zero, Int.le_refl, true_or, or_true, h0, decide_true]
    exact ⟨by omega, k1, rfl⟩
  · obtain ⟨k, rfl⟩ : ∃ k, n' = k + 1 := ⟨n' - 1, by omega⟩
    obtain ⟨t1, t2, t3⟩ := bl_top hl1
    have tb := bl_le.2 (show X / 4294967296 ^ k < 2 ^ 32 from t2)
    have e1 : (((k + 1 : Nat) : Int) - 1) = (k : Int) := by omega
    have e2 : (32 * ((k + 1 : Nat) : Int)) = ((32 * k + 32 : Nat) : Int) := by omega
    have e3 : ((32 * k + 32 : Nat) : Int) - 32 = ((32 * k : Nat) : Int) := by omega
    obtain ⟨a, ce, ro, rfl, a1, a2, a3, a4⟩ := w32_cell hr1 hl1 (i := k) (by omega)
    rw [lb_get, Nat.mod_eq_of_lt t2] at a4
    simp only [↓gaW, ↓gaV, ↓gaC, ↓gaN, gaP, Nat.reduceEqDiff, Nat.reduceLeDiff, Nat.reduceAdd, Nat.reduceSub, Nat.reduceMul, Int.reduceLT, Int.reduceLE, Int.reduceEq, Int.reduceToNat, Int.reduceAdd, Int.reduceSub, Int.reduceMul, reduceCtorEq, ↓reduceIte, h0, decide_false, e1, i64_w (k : Int) (by omega), e2, i64_w ((32 * k + 32 : Nat) : Int) (by omega), e3, i64_w ((32 * k : Nat) : Int) (by omega), a2, a4]
    repeat refine And.intro (by omega) ?_
    refine loop_of (fun j f m => ∃ (x s : Nat), j = x ∧ x < 4294967296 ∧ f 4 = .int .i64 (s : Nat) ∧ f 5 = .int .u32 (x : Nat) ∧ m = ⟨n1, b, g1⟩ ∧ s + bl x = bl X) (X / 4294967296 ^ k) ⟨_, 32 * k, rfl, t2, rfl, rfl, rfl, by omega⟩ ?_
    rintro j f m ⟨x, s, rfl, hx, h4, h5, rfl, he⟩
    by_cases hpos : (0 : Int) < (j : Int)
    · have hb1 := bl_half (x := j) (by omega)
      have q1 : ((j : Nat) : Int).tdiv 2 = ((j / 2 : Nat) : Int) := rfl
      have q2 : ((s : Int) + 1) = ((s + 1 : Nat) : Int) := by omega
      have hbX : bl X = 32 * k + bl (X / 4294967296 ^ k) := t1
      simp only [↓gaW, ↓gaV, ↓gaC, ↓gaN, gaP, Nat.reduceEqDiff, Nat.reduceLeDiff, Nat.reduceAdd, Nat.reduceSub, Nat.reduceMul, Int.reduceLT, Int.reduceLE, Int.reduceEq, Int.reduceToNat, Int.reduceAdd, Int.reduceSub, Int.reduceMul, reduceCtorEq, ↓reduceIte, h4, h5, hpos, decide_true, q1, q2, i64_w ((s + 1 : Nat) : Int) (by omega), u32_i ((j / 2 : Nat) : Int) (by omega), loopK_n]
      exact ⟨j / 2, by omega, j / 2, s + 1, rfl, by omega, rfl, rfl, by omega⟩
    · have hj : j = 0 := by omega
      subst hj
      rw [bl_zero] at he
      simp only [↓gaW, ↓gaV, ↓gaC, ↓gaN, gaP, Nat.reduceEqDiff, Nat.reduceLeDiff, Nat.reduceAdd, Nat.reduceSub, Nat.reduceMul, Int.reduceLT, Int.reduceLE, Int.reduceEq, Int.reduceToNat, Int.reduceAdd, Int.reduceSub, Int.reduceMul, reduceCtorEq, ↓reduceIte, gaE, implies_true, Nat.le_refl, Int.sub_zero, Nat.sub_zero, Int.le_refl, true_or, or_true, h4, h5, hpos, decide_false, loopK_e]
      exact ⟨by omega, k1, by congr 1; omega⟩

end
end Go.Ga

namespace Go.Ga
open Go Go.Proofs
set_option linter.unusedSimpArgs false
set_option linter.unusedVariables false
set_option maxRecDepth 100000
attribute [local irreducible] appendK

section
variable {nx : Nat} {gt : Nat → Option Blk}

theorem W32.of {x q n c : Nat} {g : Nat → Option Blk} {w : List UInt32} {ro : Bool} (hq : q < x) (hg : g q = some (.cells (w.map u32V) ro)) (hn : n ≤ c) (hw : w.length = n) : W32 x g (.slice (some ⟨q, 0, none⟩) n c) w :=
  ⟨_, n, c, rfl, hn, hw, fun a h => by injection h with h; subst h; exact .inl rfl, by simp [hw], fun h0 => ⟨_, _, ro, rfl, hq, hg, by simp [hw], fun i hi => by simp⟩⟩

end
end Go.Ga

namespace Go.Ga
open Go Go.Proofs
set_option linter.unusedSimpArgs false
set_option linter.unusedVariables false
set_option maxRecDepth 100000
attribute [local irreducible] appendK

section
variable {nx : Nat} {gt : Nat → Option Blk}

theorem ct_Mul {A B : Option Addr} {n m c d : Nat} {l k : List UInt32} (hr : Row nx gt 1 A n (l.map u32V)) (hn : n < 100000000) (hs : Row nx gt 1 B m (k.map u32V)) (hm : m < 100000000) :
    Ct Try.prog 93 [.slice A n c, .slice B m d] nx gt fun v nx' gt' => W32 nx' gt' v (lb (lv l * lv k)) := by
  have hl : l.length = n := by simpa using hr.len
  have hk : k.length = m := by simpa using hs.len
  refine Ct.of hmx r_limb_Mul (by simp [c_limb_Mul]) fun b hb => ?_
  have e1 : (n : Int) + (m : Int) = ((n + m : Nat) : Int) := by omega
  simp only [c_limb_Mul, ↓gaW, ↓gaV, ↓gaC, ↓gaN, gaP, Nat.reduceEqDiff, Nat.reduceLeDiff, Nat.reduceAdd, Nat.reduceSub, Nat.reduceMul, Int.reduceLT, Int.reduceLE, Int.reduceEq, Int.reduceToNat, Int.reduceAdd, Int.reduceSub, Int.reduceMul, reduceCtorEq, ↓reduceIte, e1, i64_w ((n + m : Nat) : Int) (by omega), zeros32]
  repeat refine And.intro (by first | omega | simp) ?_
  refine loop_of (fun j f mm => ∃ (i x : Nat) (g : Nat → Option Blk) (w : List UInt32), j = n - i ∧ i ≤ n ∧ f 1 = .slice B m d ∧ f 5 = .slice (some ⟨nx, 0, none⟩) (n + m) (n + m) ∧ f 17 = .slice A n c ∧ f 18 = .int .i64 (n : Nat) ∧ f 19 = .int .i64 (i : Nat) ∧ mm = ⟨x, b, g⟩ ∧ nx + 1 ≤ x ∧
      (∀ q, q < nx → g q = gt q) ∧ g nx = some (.cells (w.map u32V) false) ∧ w.length = n + m ∧ lv w = lv (l.take i) * lv k ∧ ∀ j, i + m ≤ j → w.getD j 0 = 0) n
    ⟨0, nx + 1, _, List.replicate (n + m) 0, by omega, by omega, rfl, rfl, rfl, rfl, rfl, rfl, by omega, fun q hq => by simp only [upd_e]; rw [if_neg (by omega)], by simp only [upd_e, if_true], by simp, by simp [lv, lv_replicate], fun j hj => by simp [List.getD_eq_getElem?_getD, List.getElem?_replicate]; split <;> rfl⟩ ?_
  rintro j f mm ⟨i, x, g, w, rfl, hi, h1, h5, h17, h18, h19, rfl, hx, hg, hgn, hw, he, hz⟩
  by_cases hlt : (i : Int) < (n : Int)
  · obtain ⟨a, ce, ro, rfl, a1, a2, a3, a4⟩ := w32_cell hr hl (i := i) (by omega)
    have a2' : g a.block = some (.cells ce ro) := by rw [hg _ a1, a2]
    have lx := lt32 (l.getD i 0)
    have e2 : (i : Int) + 1 = ((i + 1 : Nat) : Int) := by omega
    by_cases hx0 : ((l.getD i 0).toNat : Int) = 0
    · simp only [↓gaW, ↓gaV, ↓gaC, ↓gaN, gaP, Nat.reduceEqDiff, Nat.reduceLeDiff, Nat.reduceAdd, Nat.reduceSub, Nat.reduceMul, Int.reduceLT, Int.reduceLE, Int.reduceEq, Int.reduceToNat, Int.reduceAdd, Int.reduceSub, Int.reduceMul, reduceCtorEq, ↓reduceIte, h1, h5, h17, h18, h19, hlt, hx0, decide_true, a2', a4]
      repeat refine And.intro (by omega) ?_
      simp only [↓gaW, ↓gaV, ↓gaC, ↓gaN, gaP, Nat.reduceEqDiff, Nat.reduceLeDiff, Nat.reduceAdd, Nat.reduceSub, Nat.reduceMul, Int.reduceLT, Int.reduceLE, Int.reduceEq, Int.reduceToNat, Int.reduceAdd, Int.reduceSub, Int.reduceMul, reduceCtorEq, ↓reduceIte, h19, e2, i64_w ((i + 1 : Nat) : Int) (by omega), loopK_n]
      refine ⟨n - (i + 1), by omega, i + 1, x, g, w, ?_⟩
      (repeat' refine And.intro ?_ ?_) <;> first | rfl | assumption | omega | (intro q hq; simp (disch := omega) only [upd_e, if_neg, hg]; done) | (simp only [upd_e, if_true]; done) | skip
      · rw [lv_take', show (l.getD i 0).toNat = 0 by omega]; simpa using he
      · intro j hj; exact hz j (by omega)
    · simp only [↓gaW, ↓gaV, ↓gaC, ↓gaN, gaP, Nat.reduceEqDiff, Nat.reduceLeDiff, Nat.reduceAdd, Nat.reduceSub, Nat.reduceMul, Int.reduceLT, Int.reduceLE, Int.reduceEq, Int.reduceToNat, Int.reduceAdd, Int.reduceSub, Int.reduceMul, reduceCtorEq, ↓reduceIte, h1, h5, h17, h18, h19, hlt, hx0, decide_true, decide_false, a2', a4]
      repeat refine And.intro (by omega) ?_
      generalize hX : (l.getD i 0).toNat = X at *
      refine loop_of (fun j f mm => ∃ (y cy : Nat) (w' : List UInt32), j = m - y ∧ y ≤ m ∧ cy < 4294967296 ∧ f 1 = .slice B m d ∧ f 5 = .slice (some ⟨nx, 0, none⟩) (n + m) (n + m) ∧ f 17 = .slice (some a) n c ∧ f 18 = .int .i64 (n : Nat) ∧ f 19 = .int .i64 (i : Nat) ∧ f 6 = .int .i64 (i : Nat) ∧ f 7 = .int .u32 (X : Nat) ∧ f 8 = .int .u64 (cy : Nat) ∧ f 26 = .slice B m d ∧ f 27 = .int .i64 (m : Nat) ∧ f 28 = .int .i64 (y : Nat) ∧
          (∃ g', mm = ⟨x, b, g'⟩ ∧ (∀ q, q < nx → g' q = gt q) ∧ g' nx = some (.cells (w'.map u32V) false)) ∧ w'.length = n + m ∧ lv w' + 4294967296 ^ (i + y) * cy = lv w + 4294967296 ^ i * (X * lv (k.take y)) ∧ ∀ j, i + y ≤ j → w'.getD j 0 = w.getD j 0) m
        ⟨0, 0, w, by omega, by omega, by omega, h1, h5, h17, h18, h19, rfl, rfl, rfl, rfl, rfl, rfl, ⟨g, rfl, hg, hgn⟩, hw, by simp [lv], fun _ _ => rfl⟩ ?_
      rintro j f mm ⟨y, cy, w', rfl, hy, hcy, h1, h5, h17, h18, h19, h6, h7, h8, h26, h27, h28, ⟨g', rfl, hg', hgn'⟩, hw', he', hz'⟩
      by_cases hly : (y : Int) < (m : Int)
      · obtain ⟨a', ce', ro', rfl, b1, b2, b3, b4⟩ := w32_cell hs hk (i := y) (by omega)
        have b2' : g' a'.block = some (.cells ce' ro') := by rw [hg' _ b1, b2]
        have ly := lt32 (k.getD y 0)
        have lo := lt32 (w'.getD (i + y) 0)
        have hxy : X * (k.getD y 0).toNat ≤ 4294967295 * 4294967295 := Nat.mul_le_mul (by omega) (by omega)
        have hcell : (w'.map u32V).getD (i + y) undef = .int .u32 ((w'.getD (i + y) 0).toNat : Nat) := getD_u32 (by omega)
        have hset := lv_set (w := w') (i := i + y) (x := UInt32.ofNat (cy + ((w'.getD (i + y) 0).toNat + X * (k.getD y 0).toNat))) (by omega)
        have f1 : (X : Int) * ((k.getD y 0).toNat : Int) = ((X * (k.getD y 0).toNat : Nat) : Int) := by simp
        have htk : lv (k.take (y + 1)) = lv (k.take y) + 4294967296 ^ y * (k.getD y 0).toNat := lv_take' k y
        generalize hY : (k.getD y 0).toNat = Y at *
        generalize hO : (w'.getD (i + y) 0).toNat = O at *
        generalize hM : X * Y = M at *
        have f2 : (O : Int) + (M : Int) = ((O + M : Nat) : Int) := by omega
        have f3 : (cy : Int) + ((O + M : Nat) : Int) = ((cy + (O + M) : Nat) : Int) := by omega
        have f4 : (i : Int) + (y : Int) = ((i + y : Nat) : Int) := by omega
        have f5 : shrV .u64 ((cy + (O + M) : Nat) : Int) 32 = (((cy + (O + M)) / 4294967296 : Nat) : Int) := shr_nat _ 32 (by decide)
        have f6 : (y : Int) + 1 = ((y + 1 : Nat) : Int) := by omega
        simp only [↓gaW, ↓gaV, ↓gaC, ↓gaN, gaP, Nat.reduceEqDiff, Nat.reduceLeDiff, Nat.reduceAdd, Nat.reduceSub, Nat.reduceMul, Int.reduceLT, Int.reduceLE, Int.reduceEq, Int.reduceToNat, Int.reduceAdd, Int.reduceSub, Int.reduceMul, reduceCtorEq, ↓reduceIte, h1, h5, h17, h18, h19, h6, h7, h8, h26, h27, h28, hly, decide_true, b2', b4, hgn', f4, i64_w ((i + y : Nat) : Int) (by omega), Nat.mul_one, Nat.zero_add, hcell, u64_i (X : Int) (by omega), u64_i (Y : Int) (by omega), u64_i (O : Int) (by omega), f1, u64_i (M : Int) (by omega), f2, u64_i ((O + M : Nat) : Int) (by omega), f3, u64_i ((cy + (O + M) : Nat) : Int) (by omega), f5, f6, i64_w ((y + 1 : Nat) : Int) (by omega), u32_m, u32V_of, cv_u32, splice_set (show i + y < w'.length by omega), loopK_n]
        repeat refine And.intro (by first | omega | (simp; omega) | exact all1 (cl_u32 _)) ?_
        refine ⟨m - (y + 1), by omega, y + 1, (cy + (O + M)) / 4294967296, w'.set (i + y) (UInt32.ofNat (cy + (O + M))), ?_⟩
        (repeat' refine And.intro ?_ ?_) <;> first | rfl | assumption | omega | (intro q hq; simp (disch := omega) only [upd_e, if_neg, hg']; done) | (simp only [upd_e, if_true]; done) | skip
        · exact ⟨_, rfl, fun q hq => by simp only [upd_e]; rw [if_neg (by omega), hg' q hq], by simp only [upd_e, if_true]⟩
        · simp [hw']
        · rw [ofNat32] at hset
          have h9 := mul_step hset he'
          have h10 : 4294967296 ^ i * (X * (4294967296 ^ y * Y)) = 4294967296 ^ (i + y) * M := by rw [Nat.pow_add, ← hM]; ac_rfl
          rw [← Nat.add_assoc i y 1, Nat.pow_succ, h9, htk, Nat.mul_add X, Nat.mul_add (4294967296 ^ i), h10, Nat.add_assoc]
        · intro j hj
          rw [set_getD_ne (by omega)]
          exact hz' j (by omega)
      · have hym : y = m := by omega
        subst hym
        have f4 : (i : Int) + (y : Int) = ((i + y : Nat) : Int) := by omega
        have f7 : w'.getD (i + y) 0 = 0 := by rw [hz' _ (Nat.le_refl _)]; exact hz _ (Nat.le_refl _)
        have hset := lv_set (w := w') (i := i + y) (x := UInt32.ofNat cy) (by omega)
        rw [ofNat32, Nat.mod_eq_of_lt hcy, f7] at hset
        rw [List.take_of_length_le (show k.length ≤ y by omega)] at he'
        have f8 : lv (l.take (i + 1)) = lv (l.take i) + 4294967296 ^ i * X := by rw [lv_take', hX]
        simp only [↓gaW, ↓gaV, ↓gaC, ↓gaN, gaP, Nat.reduceEqDiff, Nat.reduceLeDiff, Nat.reduceAdd, Nat.reduceSub, Nat.reduceMul, Int.reduceLT, Int.reduceLE, Int.reduceEq, Int.reduceToNat, Int.reduceAdd, Int.reduceSub, Int.reduceMul, reduceCtorEq, ↓reduceIte, h1, h5, h17, h18, h19, h6, h7, h8, h26, h27, h28, hly, decide_false, f4, i64_w ((i + y : Nat) : Int) (by omega), hgn', Nat.mul_one, Nat.zero_add, u32_m, u32V_of, cv_u32, splice_set (show i + y < w'.length by omega), loopK_e, loopK_n, e2, i64_w ((i + 1 : Nat) : Int) (by omega)]
        repeat refine And.intro (by first | omega | (simp only [List.length_map, List.length_cons, List.length_nil]; omega) | exact all1 (cl_u32 _)) ?_

        refine ⟨n - (i + 1), by omega, i + 1, x, upd g' nx (some (.cells ((w'.set (i + y) (UInt32.ofNat cy)).map u32V) false)), w'.set (i + y) (UInt32.ofNat cy), ?_⟩
        (repeat' refine And.intro ?_ ?_) <;> first | rfl | assumption | omega | (intro q hq; simp (disch := omega) only [upd_e, if_neg, hg']; done) | (simp only [upd_e, if_true]; done) | skip
        · simp [hw']
        · rw [f8, Nat.add_mul, ← he, Nat.mul_assoc]
          have : (0 : UInt32).toNat = 0 := rfl
          rw [this] at hset
          omega
        · intro j hj
          rw [set_getD_ne (by omega), hz' j (by omega)]
          exact hz j (by omega)
  · have hin : i = n := by omega
    subst hin
    rw [List.take_of_length_le (show l.length ≤ i by omega)] at he
    simp only [↓gaW, ↓gaV, ↓gaC, ↓gaN, gaP, Nat.reduceEqDiff, Nat.reduceLeDiff, Nat.reduceAdd, Nat.reduceSub, Nat.reduceMul, Int.reduceLT, Int.reduceLE, Int.reduceEq, Int.reduceToNat, Int.reduceAdd, Int.reduceSub, Int.reduceMul, reduceCtorEq, ↓reduceIte, gaE, implies_true, Nat.le_refl, Int.sub_zero, Nat.sub_zero, Int.le_refl, true_or, or_true, h5, h18, h19, hlt, decide_false]
    have hrow : Row x g 1 (some ⟨nx, 0, none⟩) (i + m) (w.map u32V) := by
      obtain ⟨A', n', c', e, _, _, h⟩ := W32.of (c := i + m) (x := x) (q := nx) (g := g) (ro := false) (w := w) (n := i + m) (by omega) hgn (by omega) hw
      injection e with e1 e2 e3
      subst e1 e2 e3
      exact h
    refine callK_of (ct_bare hrow (by omega) (by omega)) (fun v n1 g1 l1 k1 hC => ?_) (by omega)
    rw [he] at hC
    simp only [↓gaW, ↓gaV, ↓gaC, ↓gaN, gaP, Nat.reduceEqDiff, Nat.reduceLeDiff, Nat.reduceAdd, Nat.reduceSub, Nat.reduceMul, Int.reduceLT, Int.reduceLE, Int.reduceEq, Int.reduceToNat, Int.reduceAdd, Int.reduceSub, Int.reduceMul, reduceCtorEq, ↓reduceIte, gaE, implies_true, Nat.le_refl, Int.sub_zero, Nat.sub_zero, Int.le_refl, true_or, or_true]
    exact ⟨by omega, fun q hq => by rw [k1 q (by omega), hg q hq], hC⟩
end
end Go.Ga

namespace Go.Ga
open Go Go.Proofs
set_option linter.unusedSimpArgs false
set_option linter.unusedVariables false
set_option maxRecDepth 100000
attribute [local irreducible] appendK

theorem lt_add {a b p : Nat} (ha : a < 4294967296 ^ p) (hb : b < 4294967296 ^ p) : a + b < 4294967296 ^ (p + 1) := by
  rw [Nat.pow_succ]; omega
theorem lt_mul {a b p q : Nat} (ha : a < 4294967296 ^ p) (hb : b < 4294967296 ^ q) : a * b < 4294967296 ^ (p + q) := by
  rw [Nat.pow_add]
  exact Nat.mul_lt_mul'' ha hb
theorem lt_up {a p q : Nat} (ha : a < 4294967296 ^ p) (h : p ≤ q) : a < 4294967296 ^ q := Nat.lt_of_lt_of_le ha (Nat.pow_le_pow_right (by decide) h)
theorem lv_lt' {l : List UInt32} {p : Nat} (h : l.length ≤ p) : lv l < 4294967296 ^ p := lt_up (lv_lt l) h

section
variable {nx : Nat} {gt : Nat → Option Blk}

theorem Row.w32 {x q n : Nat} {g : Nat → Option Blk} {w : List UInt32} {ro : Bool} (hq : q < x) (hg : g q = some (.cells (w.map u32V) ro)) (hw : w.length = n) : Row x g 1 (some ⟨q, 0, none⟩) n (w.map u32V) := by
  obtain ⟨A', n', c', e, _, _, h⟩ := W32.of (c := n) hq hg (Nat.le_refl n) hw
  injection e with e1 e2 e3
  subst e1 e2 e3
  exact h

theorem awake_num : lb (lv [4294967295] * lv [4294967295]) = [1, 4294967294] := by
  have h : lv [4294967295] * lv [4294967295] = lv [1, 4294967294] := by decide
  rw [h]
  exact lb_lv_take [1, 4294967294] 2 (by decide) (by intro j h1 h2; simp at h2; omega) (.inr (by decide))

end
end Go.Ga

namespace Go.Ga
open Go Go.Proofs
set_option linter.unusedSimpArgs false
set_option linter.unusedVariables false
set_option maxRecDepth 100000
attribute [local irreducible] appendK

theorem cmpI_neg (a b : Int) : (cmpI a b < 0) ↔ a < b := by
  unfold cmpI; split <;> (try split) <;> omega
theorem lv_snoc {o : List UInt32} {i : Nat} {x : UInt32} (h : o.length = i) : lv (o ++ [x]) = lv o + 4294967296 ^ i * x.toNat := by
  rw [lv_append, h]; simp [lv]

section
variable {nx : Nat} {gt : Nat → Option Blk}

/-- What 'Sub' answers. -/
def SubV (nx : Nat) (gt : Nat → Option Blk) (A B : Nat) (v : Value) : Prop := ∃ sl, v = .tuple #[sl, .bool (decide (B ≤ A))] ∧ W32 nx gt sl (lb (A - B)) 
theorem SubV.no {nx gt A B} (h : A < B) : SubV nx gt A B (.tuple #[.slice none 0 0, .bool false]) :=
  ⟨_, by rw [decide_eq_false (by omega)], by rw [Nat.sub_eq_zero_of_le (by omega), lb_zero]; exact W32.nil⟩

end
end Go.Ga

namespace Go.Ga
open Go Go.Proofs
set_option linter.unusedSimpArgs false
set_option linter.unusedVariables false
set_option maxRecDepth 100000
attribute [local irreducible] appendK

section
variable {nx : Nat} {gt : Nat → Option Blk}

theorem ct_rMul {A B : Option Addr} {n m c d : Nat} {l k : List UInt32} (hr : Row nx gt 1 A n (l.map u32V)) (hn : n < 100000000) (hs : Row nx gt 1 B m (k.map u32V)) (hm : m < 100000000) :
    Ct Try.prog 53 [.slice A n c, .slice B m d] nx gt fun v nx' gt' => W32 nx' gt' v (lb (lv l * lv k)) := by
  have hl : l.length = n := by simpa using hr.len
  have hk : k.length = m := by simpa using hs.len
  refine Ct.of hmx r_lanyardref07_Mul (by simp [c_lanyardref07_Mul]) fun b hb => ?_
  have e1 : (n : Int) + (m : Int) = ((n + m : Nat) : Int) := by omega
  have e1' : ((n + m : Nat) : Int) + 1 = ((n + m + 1 : Nat) : Int) := by omega
  simp only [c_lanyardref07_Mul, ↓gaW, ↓gaV, ↓gaC, ↓gaN, gaP, Nat.reduceEqDiff, Nat.reduceLeDiff, Nat.reduceAdd, Nat.reduceSub, Nat.reduceMul, Int.reduceLT, Int.reduceLE, Int.reduceEq, Int.reduceToNat, Int.reduceAdd, Int.reduceSub, Int.reduceMul, reduceCtorEq, ↓reduceIte, e1, i64_w ((n + m : Nat) : Int) (by omega), e1', i64_w ((n + m + 1 : Nat) : Int) (by omega), zeros32]
  repeat refine And.intro (by first | omega | simp) ?_
  refine loop_of (fun j f mm => ∃ (i x : Nat) (g : Nat → Option Blk) (w : List UInt32), j = n - i ∧ i ≤ n ∧ f 0 = .slice A n c ∧ f 1 = .slice B m d ∧ f 5 = .slice (some ⟨nx, 0, none⟩) (n + m + 1) (n + m + 1) ∧ f 6 = .int .i64 (i : Nat) ∧ mm = ⟨x, b, g⟩ ∧ nx + 1 ≤ x ∧
      (∀ q, q < nx → g q = gt q) ∧ g nx = some (.cells (w.map u32V) false) ∧ w.length = n + m + 1 ∧ lv w = lv (l.take i) * lv k ∧ ∀ j, i + m ≤ j → w.getD j 0 = 0) n
    ⟨0, nx + 1, _, List.replicate (n + m + 1) 0, by omega, by omega, rfl, rfl, rfl, rfl, rfl, by omega, fun q hq => by simp only [upd_e]; rw [if_neg (by omega)], by simp only [upd_e, if_true], by simp, by simp [lv, lv_replicate], fun j hj => by simp [List.getD_eq_getElem?_getD, List.getElem?_replicate]; split <;> rfl⟩ ?_
  rintro j f mm ⟨i, x0, g, w, rfl, hi, h0, h1, h5, h6, rfl, hx, hg, hgn, hw, he, hz⟩
  by_cases hlt : (i : Int) < (n : Int)
  · have e2 : (i : Int) + 1 = ((i + 1 : Nat) : Int) := by omega
    simp only [↓gaW, ↓gaV, ↓gaC, ↓gaN, gaP, Nat.reduceEqDiff, Nat.reduceLeDiff, Nat.reduceAdd, Nat.reduceSub, Nat.reduceMul, Int.reduceLT, Int.reduceLE, Int.reduceEq, Int.reduceToNat, Int.reduceAdd, Int.reduceSub, Int.reduceMul, reduceCtorEq, ↓reduceIte, h0, h1, h5, h6, hlt, decide_true]
    refine loop_of (fun j f mm => ∃ (y cy x : Nat) (g' : Nat → Option Blk) (w' : List UInt32), j = m + 2 - y ∧ y ≤ m + 1 ∧ (y = m + 1 → cy = 0) ∧ cy < 4294967296 ∧ f 0 = .slice A n c ∧ f 1 = .slice B m d ∧ f 5 = .slice (some ⟨nx, 0, none⟩) (n + m + 1) (n + m + 1) ∧ f 6 = .int .i64 (i : Nat) ∧ f 7 = .int .u64 (cy : Nat) ∧ f 8 = .int .i64 (y : Nat) ∧
        mm = ⟨x, b, g'⟩ ∧ nx + 1 ≤ x ∧ (∀ q, q < nx → g' q = gt q) ∧ g' nx = some (.cells (w'.map u32V) false) ∧ w'.length = n + m + 1 ∧ lv w' + 4294967296 ^ (i + y) * cy = lv w + 4294967296 ^ i * ((l.getD i 0).toNat * lv (k.take y)) ∧ ∀ j, i + y ≤ j → w'.getD j 0 = w.getD j 0) (m + 2)
      ⟨0, 0, x0, g, w, by omega, by omega, fun _ => rfl, by omega, h0, h1, h5, h6, rfl, rfl, rfl, hx, hg, hgn, hw, by simp [lv], fun _ _ => rfl⟩ ?_
    rintro j f mm ⟨y, cy, x, g', w', rfl, hy, hyz, hcy, h0, h1, h5, h6, h7, h8, rfl, hx, hg', hgn', hw', he', hz'⟩
    by_cases s1 : (y : Int) < (m : Int)
    · simp only [↓gaW, ↓gaV, ↓gaC, ↓gaN, gaP, Nat.reduceEqDiff, Nat.reduceLeDiff, Nat.reduceAdd, Nat.reduceSub, Nat.reduceMul, Int.reduceLT, Int.reduceLE, Int.reduceEq, Int.reduceToNat, Int.reduceAdd, Int.reduceSub, Int.reduceMul, reduceCtorEq, ↓reduceIte, h0, h1, h5, h6, h7, h8, s1, decide_true]
      have f4 : (i : Int) + (y : Int) = ((i + y : Nat) : Int) := by omega
      have lo := lt32 (w'.getD (i + y) 0)
      have hcell : (w'.map u32V).getD (i + y) undef = .int .u32 ((w'.getD (i + y) 0).toNat : Nat) := getD_u32 (by omega)
      have f2 : (cy : Int) + ((w'.getD (i + y) 0).toNat : Int) = ((cy + (w'.getD (i + y) 0).toNat : Nat) : Int) := by omega
      simp only [f4, i64_w ((i + y : Nat) : Int) (by omega), hgn', Nat.mul_one, Nat.zero_add, hcell, ↓gaW, ↓gaV, ↓gaC, ↓gaN, gaP, Nat.reduceEqDiff, Nat.reduceLeDiff, Nat.reduceAdd, Nat.reduceSub, Nat.reduceMul, Int.reduceLT, Int.reduceLE, Int.reduceEq, Int.reduceToNat, Int.reduceAdd, Int.reduceSub, Int.reduceMul, reduceCtorEq, ↓reduceIte, h0, h1, h5, h6, h7, h8, u64_i ((w'.getD (i + y) 0).toNat : Int) (by omega), f2, u64_i ((cy + (w'.getD (i + y) 0).toNat : Nat) : Int) (by omega)]
      repeat refine And.intro (by first | omega | (simp; omega)) ?_
      refine callQ_of (ct_rpart (hr.keep (by omega) hg') (by omega) (by omega)) (fun v n1 g1 l1 k1 hC => ?_)
      rw [← lv_get] at hC
      subst hC
      have hg1 : ∀ p, p < nx → g1 p = gt p := fun p hp => by rw [k1 p (by omega), hg' p hp]
      simp only [↓gaW, ↓gaV, ↓gaC, ↓gaN, gaP, Nat.reduceEqDiff, Nat.reduceLeDiff, Nat.reduceAdd, Nat.reduceSub, Nat.reduceMul, Int.reduceLT, Int.reduceLE, Int.reduceEq, Int.reduceToNat, Int.reduceAdd, Int.reduceSub, Int.reduceMul, reduceCtorEq, ↓reduceIte, h0, h1, h5, h6, h7, h8]
      refine callQ_of (ct_rpart (hs.keep (by omega) hg1) (by omega) (by omega)) (fun v n2 g2 l2 k2 hC => ?_)
      rw [← lv_get] at hC
      subst hC
      have hg2 : ∀ p, p < nx → g2 p = gt p := fun p hp => by rw [k2 p (by omega), hg1 p hp]
      have gn2 : g2 nx = some (.cells (w'.map u32V) false) := by rw [k2 nx (by omega), k1 nx (by omega), hgn']
      have lx := lt32 (l.getD i 0)
      have ly := lt32 (k.getD y 0)
      have hxy : (l.getD i 0).toNat * (k.getD y 0).toNat ≤ 4294967295 * 4294967295 := Nat.mul_le_mul (by omega) (by omega)
      have f1 : ((l.getD i 0).toNat : Int) * ((k.getD y 0).toNat : Int) = (((l.getD i 0).toNat * (k.getD y 0).toNat : Nat) : Int) := by simp
      have htk : lv (k.take (y + 1)) = lv (k.take y) + 4294967296 ^ y * (k.getD y 0).toNat := lv_take' k y
      have hset := lv_set (w := w') (i := i + y) (x := UInt32.ofNat (cy + ((w'.getD (i + y) 0).toNat + (l.getD i 0).toNat * (k.getD y 0).toNat))) (by omega)
      have hzy : y = m → (w'.getD (i + y) 0).toNat = 0 ∧ (k.getD y 0).toNat = 0 := fun h => ⟨by rw [hz' _ (Nat.le_refl _), hz _ (by omega)]; rfl, by rw [List.getD_eq_getElem?_getD, List.getElem?_eq_none (by omega)]; rfl⟩
      generalize hX : (l.getD i 0).toNat = X at *
      generalize hY : (k.getD y 0).toNat = Y at *
      generalize hO : (w'.getD (i + y) 0).toNat = O at *
      generalize hM : X * Y = M at *
      have f3 : ((cy + O : Nat) : Int) + (M : Int) = ((cy + (O + M) : Nat) : Int) := by omega
      have f5 : shrV .u64 ((cy + (O + M) : Nat) : Int) 32 = (((cy + (O + M)) / 4294967296 : Nat) : Int) := shr_nat _ 32 (by decide)
      have f6 : (y : Int) + 1 = ((y + 1 : Nat) : Int) := by omega
      have hlast : y + 1 = m + 1 → (cy + (O + M)) / 4294967296 = 0 := fun h => by
        have h2 := hzy (by omega)
        rw [h2.2, Nat.mul_zero] at hM
        omega
      simp only [↓gaW, ↓gaV, ↓gaC, ↓gaN, gaP, Nat.reduceEqDiff, Nat.reduceLeDiff, Nat.reduceAdd, Nat.reduceSub, Nat.reduceMul, Int.reduceLT, Int.reduceLE, Int.reduceEq, Int.reduceToNat, Int.reduceAdd, Int.reduceSub, Int.reduceMul, reduceCtorEq, ↓reduceIte, h0, h1, h5, h6, h7, h8, f1, u64_i (M : Int) (by omega), f3, u64_i ((cy + (O + M) : Nat) : Int) (by omega), f4, i64_w ((i + y : Nat) : Int) (by omega), gn2, Nat.mul_one, Nat.zero_add, f5, f6, i64_w ((y + 1 : Nat) : Int) (by omega), u32_m, u32V_of, cv_u32, splice_set (show i + y < w'.length by omega), loopK_n]
      repeat refine And.intro (by first | omega | (simp; omega) | exact all1 (cl_u32 _)) ?_
      refine ⟨m + 2 - (y + 1), by omega, y + 1, (cy + (O + M)) / 4294967296, n2, upd g2 nx (some (.cells ((w'.set (i + y) (UInt32.ofNat (cy + (O + M)))).map u32V) false)), w'.set (i + y) (UInt32.ofNat (cy + (O + M))), ?_⟩
      (repeat' refine And.intro ?_ ?_) <;> first | rfl | assumption | omega | (intro q hq; simp (disch := omega) only [upd_e, if_neg, hg2]; done) | (simp only [upd_e, if_true]; done) | skip
      · simp [hw']
      · rw [ofNat32] at hset
        have h9 := mul_step hset he'
        have h10 : 4294967296 ^ i * (X * (4294967296 ^ y * Y)) = 4294967296 ^ (i + y) * M := by rw [Nat.pow_add, ← hM]; ac_rfl
        rw [← Nat.add_assoc i y 1, Nat.pow_succ, h9, htk, Nat.mul_add X, Nat.mul_add (4294967296 ^ i), h10, Nat.add_assoc]
      · intro j hj
        rw [set_getD_ne (by omega)]
        exact hz' j (by omega)
    · by_cases s2 : (0 : Int) < (cy : Int)
      · have hym : y ≤ m := by
          rcases Nat.lt_or_ge m y with h | h
          · have := hyz (by omega); omega
          · exact h
        simp only [↓gaW, ↓gaV, ↓gaC, ↓gaN, gaP, Nat.reduceEqDiff, Nat.reduceLeDiff, Nat.reduceAdd, Nat.reduceSub, Nat.reduceMul, Int.reduceLT, Int.reduceLE, Int.reduceEq, Int.reduceToNat, Int.reduceAdd, Int.reduceSub, Int.reduceMul, reduceCtorEq, ↓reduceIte, h0, h1, h5, h6, h7, h8, s1, s2, decide_true, decide_false]
        have f4 : (i : Int) + (y : Int) = ((i + y : Nat) : Int) := by omega
        have lo := lt32 (w'.getD (i + y) 0)
        have hcell : (w'.map u32V).getD (i + y) undef = .int .u32 ((w'.getD (i + y) 0).toNat : Nat) := getD_u32 (by omega)
        have f2 : (cy : Int) + ((w'.getD (i + y) 0).toNat : Int) = ((cy + (w'.getD (i + y) 0).toNat : Nat) : Int) := by omega
        simp only [f4, i64_w ((i + y : Nat) : Int) (by omega), hgn', Nat.mul_one, Nat.zero_add, hcell, ↓gaW, ↓gaV, ↓gaC, ↓gaN, gaP, Nat.reduceEqDiff, Nat.reduceLeDiff, Nat.reduceAdd, Nat.reduceSub, Nat.reduceMul, Int.reduceLT, Int.reduceLE, Int.reduceEq, Int.reduceToNat, Int.reduceAdd, Int.reduceSub, Int.reduceMul, reduceCtorEq, ↓reduceIte, h0, h1, h5, h6, h7, h8, u64_i ((w'.getD (i + y) 0).toNat : Int) (by omega), f2, u64_i ((cy + (w'.getD (i + y) 0).toNat : Nat) : Int) (by omega)]
        repeat refine And.intro (by first | omega | (simp; omega)) ?_
        refine callQ_of (ct_rpart (hr.keep (by omega) hg') (by omega) (by omega)) (fun v n1 g1 l1 k1 hC => ?_)
        rw [← lv_get] at hC
        subst hC
        have hg1 : ∀ p, p < nx → g1 p = gt p := fun p hp => by rw [k1 p (by omega), hg' p hp]
        simp only [↓gaW, ↓gaV, ↓gaC, ↓gaN, gaP, Nat.reduceEqDiff, Nat.reduceLeDiff, Nat.reduceAdd, Nat.reduceSub, Nat.reduceMul, Int.reduceLT, Int.reduceLE, Int.reduceEq, Int.reduceToNat, Int.reduceAdd, Int.reduceSub, Int.reduceMul, reduceCtorEq, ↓reduceIte, h0, h1, h5, h6, h7, h8]
        refine callQ_of (ct_rpart (hs.keep (by omega) hg1) (by omega) (by omega)) (fun v n2 g2 l2 k2 hC => ?_)
        rw [← lv_get] at hC
        subst hC
        have hg2 : ∀ p, p < nx → g2 p = gt p := fun p hp => by rw [k2 p (by omega), hg1 p hp]
        have gn2 : g2 nx = some (.cells (w'.map u32V) false) := by rw [k2 nx (by omega), k1 nx (by omega), hgn']
        have lx := lt32 (l.getD i 0)
        have ly := lt32 (k.getD y 0)
        have hxy : (l.getD i 0).toNat * (k.getD y 0).toNat ≤ 4294967295 * 4294967295 := Nat.mul_le_mul (by omega) (by omega)
        have f1 : ((l.getD i 0).toNat : Int) * ((k.getD y 0).toNat : Int) = (((l.getD i 0).toNat * (k.getD y 0).toNat : Nat) : Int) := by simp
        have htk : lv (k.take (y + 1)) = lv (k.take y) + 4294967296 ^ y * (k.getD y 0).toNat := lv_take' k y
        have hset := lv_set (w := w') (i := i + y) (x := UInt32.ofNat (cy + ((w'.getD (i + y) 0).toNat + (l.getD i 0).toNat * (k.getD y 0).toNat))) (by omega)
        have hzy : y = m → (w'.getD (i + y) 0).toNat = 0 ∧ (k.getD y 0).toNat = 0 := fun h => ⟨by rw [hz' _ (Nat.le_refl _), hz _ (by omega)]; rfl, by rw [List.getD_eq_getElem?_getD, List.getElem?_eq_none (by omega)]; rfl⟩
        generalize hX : (l.getD i 0).toNat = X at *
        generalize hY : (k.getD y 0).toNat = Y at *
        generalize hO : (w'.getD (i + y) 0).toNat = O at *
        generalize hM : X * Y = M at *
        have f3 : ((cy + O : Nat) : Int) + (M : Int) = ((cy + (O + M) : Nat) : Int) := by omega
        have f5 : shrV .u64 ((cy + (O + M) : Nat) : Int) 32 = (((cy + (O + M)) / 4294967296 : Nat) : Int) := shr_nat _ 32 (by decide)
        have f6 : (y : Int) + 1 = ((y + 1 : Nat) : Int) := by omega
        have hlast : y + 1 = m + 1 → (cy + (O + M)) / 4294967296 = 0 := fun h => by
          have h2 := hzy (by omega)
          rw [h2.2, Nat.mul_zero] at hM
          omega
        simp only [↓gaW, ↓gaV, ↓gaC, ↓gaN, gaP, Nat.reduceEqDiff, Nat.reduceLeDiff, Nat.reduceAdd, Nat.reduceSub, Nat.reduceMul, Int.reduceLT, Int.reduceLE, Int.reduceEq, Int.reduceToNat, Int.reduceAdd, Int.reduceSub, Int.reduceMul, reduceCtorEq, ↓reduceIte, h0, h1, h5, h6, h7, h8, f1, u64_i (M : Int) (by omega), f3, u64_i ((cy + (O + M) : Nat) : Int) (by omega), f4, i64_w ((i + y : Nat) : Int) (by omega), gn2, Nat.mul_one, Nat.zero_add, f5, f6, i64_w ((y + 1 : Nat) : Int) (by omega), u32_m, u32V_of, cv_u32, splice_set (show i + y < w'.length by omega), loopK_n]
        repeat refine And.intro (by first | omega | (simp; omega) | exact all1 (cl_u32 _)) ?_
        refine ⟨m + 2 - (y + 1), by omega, y + 1, (cy + (O + M)) / 4294967296, n2, upd g2 nx (some (.cells ((w'.set (i + y) (UInt32.ofNat (cy + (O + M)))).map u32V) false)), w'.set (i + y) (UInt32.ofNat (cy + (O + M))), ?_⟩
        (repeat' refine And.intro ?_ ?_) <;> first | rfl | assumption | omega | (intro q hq; simp (disch := omega) only [upd_e, if_neg, hg2]; done) | (simp only [upd_e, if_true]; done) | skip
        · simp [hw']
        · rw [ofNat32] at hset
          have h9 := mul_step hset he'
          have h10 : 4294967296 ^ i * (X * (4294967296 ^ y * Y)) = 4294967296 ^ (i + y) * M := by rw [Nat.pow_add, ← hM]; ac_rfl
          rw [← Nat.add_assoc i y 1, Nat.pow_succ, h9, htk, Nat.mul_add X, Nat.mul_add (4294967296 ^ i), h10, Nat.add_assoc]
        · intro j hj
          rw [set_getD_ne (by omega)]
          exact hz' j (by omega)
      · have hc0 : cy = 0 := by omega
        subst hc0
        rw [List.take_of_length_le (show k.length ≤ y by omega), Nat.mul_zero, Nat.add_zero] at he'
        simp only [↓gaW, ↓gaV, ↓gaC, ↓gaN, gaP, Nat.reduceEqDiff, Nat.reduceLeDiff, Nat.reduceAdd, Nat.reduceSub, Nat.reduceMul, Int.reduceLT, Int.reduceLE, Int.reduceEq, Int.reduceToNat, Int.reduceAdd, Int.reduceSub, Int.reduceMul, reduceCtorEq, ↓reduceIte, h0, h1, h5, h6, h7, h8, s1, s2, decide_false, e2, i64_w ((i + 1 : Nat) : Int) (by omega), loopK_e, loopK_n]
        refine ⟨n - (i + 1), by omega, i + 1, x, g', w', ?_⟩
        (repeat' refine And.intro ?_ ?_) <;> first | rfl | assumption | omega | (intro q hq; simp (disch := omega) only [upd_e, if_neg, hg']; done) | (simp only [upd_e, if_true]; done) | skip
        · rw [lv_take', Nat.add_mul, ← he, Nat.mul_assoc]; exact he'
        · intro j hj
          rcases Nat.lt_or_ge j (i + y) with h | h
          · omega
          · rw [hz' j h]; exact hz j (by omega)
  · have hin : i = n := by omega
    subst hin
    rw [List.take_of_length_le (show l.length ≤ i by omega)] at he
    simp only [↓gaW, ↓gaV, ↓gaC, ↓gaN, gaP, Nat.reduceEqDiff, Nat.reduceLeDiff, Nat.reduceAdd, Nat.reduceSub, Nat.reduceMul, Int.reduceLT, Int.reduceLE, Int.reduceEq, Int.reduceToNat, Int.reduceAdd, Int.reduceSub, Int.reduceMul, reduceCtorEq, ↓reduceIte, gaE, implies_true, Nat.le_refl, Int.sub_zero, Nat.sub_zero, Int.le_refl, true_or, or_true, h0, h5, h6, hlt, decide_false, loopK_e]
    refine callK_of (ct_rBare (Row.w32 (by omega) hgn hw) (Nat.le_refl _) (by omega)) (fun v n1 g1 l1 k1 hC => ?_) (by omega)
    rw [he] at hC
    simp only [↓gaW, ↓gaV, ↓gaC, ↓gaN, gaP, Nat.reduceEqDiff, Nat.reduceLeDiff, Nat.reduceAdd, Nat.reduceSub, Nat.reduceMul, Int.reduceLT, Int.reduceLE, Int.reduceEq, Int.reduceToNat, Int.reduceAdd, Int.reduceSub, Int.reduceMul, reduceCtorEq, ↓reduceIte, gaE, implies_true, Nat.le_refl, Int.sub_zero, Nat.sub_zero, Int.le_refl, true_or, or_true]
    exact ⟨by omega, fun q hq => by rw [k1 q (by omega), hg q hq], hC⟩
end
end Go.Ga

namespace Go.Ga
open Go Go.Proofs
set_option linter.unusedSimpArgs false
set_option linter.unusedVariables false
set_option maxRecDepth 100000
attribute [local irreducible] appendK

section
variable {nx : Nat} {gt : Nat → Option Blk}

theorem shl_u64_32 (x : Nat) (h : x < 4294967296) : shlV .u64 (x : Int) 32 = ((4294967296 * x : Nat) : Int) := by
  simp only [shlV, IntKind.bits]
  show IntKind.u64.wrap ((x : Int) * 2 ^ 32) = _
  rw [show (2 : Int) ^ 32 = 4294967296 from rfl, u64_i _ (by omega)]
  omega

theorem ct_Div32 {h l y : Nat} (hy : h < y) (hY : y < 4294967296) (hl : l < 4294967296) :
    Ct Try.prog 96 [.int .u32 (h : Nat), .int .u32 (l : Nat), .int .u32 (y : Nat)] nx gt fun v _ _ => v = .tuple #[.int .u32 ((h * 4294967296 + l) / y : Nat), .int .u32 ((h * 4294967296 + l) % y : Nat)] := by
  refine Ct.of hmx r_math_bits_Div32 (by simp [c_math_bits_Div32]) fun b hb => ?_
  obtain ⟨z, hz⟩ : ∃ z, h * 4294967296 + l = z := ⟨_, rfl⟩
  have h1 : ¬ (y : Int) = 0 := by omega
  have h2 : ¬ (y : Int) ≤ (h : Int) := by omega
  have o1 : bitsV .or .u64 ((4294967296 * h : Nat) : Int) (l : Int) = (z : Int) := by
    rw [or_u64 (by omega) (by omega)]
    have := Nat.two_pow_add_eq_or_of_lt (i := 32) hl h
    rw [show (2 : Nat) ^ 32 = 4294967296 from rfl] at this
    rw [← this, ← hz, Nat.mul_comm]
  have q1 : (z : Int).tdiv (y : Int) = ((z / y : Nat) : Int) := rfl
  have q2 : (z : Int).tmod (y : Int) = ((z % y : Nat) : Int) := rfl
  have z1 : z / y < 4294967296 := by
    rw [Nat.div_lt_iff_lt_mul (by omega), ← hz]
    have : (h + 1) * 4294967296 ≤ y * 4294967296 := Nat.mul_le_mul_right _ hy
    omega
  have z2 : z % y < 4294967296 := Nat.lt_trans (Nat.mod_lt _ (by omega)) hY
  rw [hz]
  obtain ⟨D, hD⟩ : ∃ D, z / y = D := ⟨_, rfl⟩
  obtain ⟨R, hR⟩ : ∃ R, z % y = R := ⟨_, rfl⟩
  rw [hD] at q1 z1 ⊢
  rw [hR] at q2 z2 ⊢
  simp only [c_math_bits_Div32, ↓gaW, ↓gaV, ↓gaC, ↓gaN, gaP, Nat.reduceEqDiff, Nat.reduceLeDiff, Nat.reduceAdd, Nat.reduceSub, Nat.reduceMul, Int.reduceLT, Int.reduceLE, Int.reduceEq, Int.reduceToNat, Int.reduceAdd, Int.reduceSub, Int.reduceMul, reduceCtorEq, ↓reduceIte, gaE, implies_true, Nat.le_refl, Int.sub_zero, Nat.sub_zero, Int.le_refl, true_or, or_true, h1, h2, decide_true, decide_false, not_false_eq_true, u64_i (h : Int) (by omega), u64_i (l : Int) (by omega), u64_i (y : Int) (by omega), shl_u64_32 h (by omega), o1, q1, q2, u64_i (D : Int) (by omega), u32_i (D : Int) (by omega), u32_i (R : Int) (by omega), ne_eq]

theorem ct_Lead {x : Nat} (hx : x < 4294967296) : Ct Try.prog 86 [.int .u32 (x : Nat)] nx gt fun v _ _ => v = .int .i64 ((32 - bl x : Nat) : Int) := by
  refine Ct.of hmx r_math_bits_LeadingZeros32 (by simp [c_math_bits_LeadingZeros32]) fun b hb => ?_
  simp only [c_math_bits_LeadingZeros32, ↓gaW, ↓gaV, ↓gaC, ↓gaN, gaP, Nat.reduceEqDiff, Nat.reduceLeDiff, Nat.reduceAdd, Nat.reduceSub, Nat.reduceMul, Int.reduceLT, Int.reduceLE, Int.reduceEq, Int.reduceToNat, Int.reduceAdd, Int.reduceSub, Int.reduceMul, reduceCtorEq, ↓reduceIte]
  refine callK_of (ct_Len32 hx) (fun v n1 g1 l1 k1 hC => ?_) (by omega)
  subst hC
  have := bl_le.2 (show x < 2 ^ 32 from hx)
  simp only [↓gaW, ↓gaV, ↓gaC, ↓gaN, gaP, Nat.reduceEqDiff, Nat.reduceLeDiff, Nat.reduceAdd, Nat.reduceSub, Nat.reduceMul, Int.reduceLT, Int.reduceLE, Int.reduceEq, Int.reduceToNat, Int.reduceAdd, Int.reduceSub, Int.reduceMul, reduceCtorEq, ↓reduceIte, gaE, implies_true, Nat.le_refl, Int.sub_zero, Nat.sub_zero, Int.le_refl, true_or, or_true, i64_w (32 - ((bl x : Nat) : Int)) (by omega)]
  exact ⟨by omega, k1, by congr 1; omega⟩

theorem ct_small {A : Option Addr} {n c m : Nat} {l : List UInt32} (hr : Row nx gt 1 A n (l.map u32V)) (hn : n < 100000000) (hm : m < 4294967296) (h0 : 0 < m) :
    Ct Try.prog 85 [.slice A n c, .int .u32 (m : Nat)] nx gt fun v nx' gt' => ∃ v1 v2, v = .tuple #[v1, v2] ∧ W32 nx' gt' v1 (lb (lv l / m)) ∧ W32 nx' gt' v2 (lb (lv l % m)) := by
  have hl : l.length = n := by simpa using hr.len
  refine Ct.of hmx r_modulo_small (by simp [c_modulo_small]) fun b hb => ?_
  simp only [c_modulo_small, ↓gaW, ↓gaV, ↓gaC, ↓gaN, gaP, Nat.reduceEqDiff, Nat.reduceLeDiff, Nat.reduceAdd, Nat.reduceSub, Nat.reduceMul, Int.reduceLT, Int.reduceLE, Int.reduceEq, Int.reduceToNat, Int.reduceAdd, Int.reduceSub, Int.reduceMul, reduceCtorEq, ↓reduceIte, zeros32, i64_w ((n : Int) - 1) (by omega)]
  repeat refine And.intro (by first | omega | simp) ?_
  refine loop_of (fun j f mm => ∃ (y r x : Nat) (g : Nat → Option Blk) (w : List UInt32), j = y ∧ y ≤ n ∧ r < m ∧ f 0 = .slice A n c ∧ f 1 = .int .u32 (m : Nat) ∧ f 6 = .slice (some ⟨nx, 0, none⟩) n n ∧ f 7 = .int .u32 (r : Nat) ∧ f 8 = .int .i64 ((y : Int) - 1) ∧ mm = ⟨x, b, g⟩ ∧ nx + 1 ≤ x ∧
      (∀ q, q < nx → g q = gt q) ∧ g nx = some (.cells (w.map u32V) false) ∧ w.length = n ∧ lv (w.drop y) * m + r = lv (l.drop y)) n
    ⟨n, 0, nx + 1, _, List.replicate n 0, rfl, by omega, by omega, rfl, rfl, rfl, rfl, rfl, rfl, by omega, fun q hq => by simp only [upd_e]; rw [if_neg (by omega)], by simp only [upd_e, if_true], by simp, by simp [List.drop_of_length_le, hl, lv]⟩ ?_
  rintro j f mm ⟨y, r, x, g, w, rfl, hy, hrm, h0', h1, h6, h7, h8, rfl, hx, hg, hgn, hw, he⟩
  rcases Nat.eq_zero_or_pos j with rfl | hj
  · simp only [↓gaW, ↓gaV, ↓gaC, ↓gaN, gaP, Nat.reduceEqDiff, Nat.reduceLeDiff, Nat.reduceAdd, Nat.reduceSub, Nat.reduceMul, Int.reduceLT, Int.reduceLE, Int.reduceEq, Int.reduceToNat, Int.reduceAdd, Int.reduceSub, Int.reduceMul, reduceCtorEq, ↓reduceIte, h0', h1, h6, h7, h8, show ((0 : Nat) : Int) - 1 = -1 from rfl, show ¬ (0 : Int) ≤ -1 by omega, decide_false, loopK_e]
    rw [List.drop_zero, List.drop_zero] at he
    have hq : lv w = lv l / m := by
      rw [← he, Nat.add_comm, Nat.add_mul_div_right _ _ h0, Nat.div_eq_of_lt hrm, Nat.zero_add]
    have hr2 : r = lv l % m := by
      rw [← he, Nat.add_comm, Nat.add_mul_mod_self_right, Nat.mod_eq_of_lt hrm]
    refine callK_of (ct_Bare (Row.w32 (by omega) hgn hw) (Nat.le_refl _) (by omega)) (fun v n1 g1 l1 k1 hC => ?_) (by omega)
    rw [hq] at hC
    obtain ⟨A1, a1, c1, rfl, hc1, hl1, r1⟩ := hC
    simp only [↓gaW, ↓gaV, ↓gaC, ↓gaN, gaP, Nat.reduceEqDiff, Nat.reduceLeDiff, Nat.reduceAdd, Nat.reduceSub, Nat.reduceMul, Int.reduceLT, Int.reduceLE, Int.reduceEq, Int.reduceToNat, Int.reduceAdd, Int.reduceSub, Int.reduceMul, reduceCtorEq, ↓reduceIte, List.getD_cons_zero, List.getD_cons_succ, fillL, splice, List.take_zero, List.drop_zero, List.drop_succ_cons, List.take_succ_cons, List.drop_nil, List.take_nil, h7, u32V_lt (show r < 4294967296 by omega), cv_u32]
    have r2 : Row (n1 + 1) (upd g1 n1 (some (.cells [u32V (UInt32.ofNat r)] false))) 1 (some ⟨n1, 0, none⟩) 1 (([UInt32.ofNat r] : List UInt32).map u32V) := Row.w32 (ro := false) (by omega) (by simp [upd]) rfl
    refine callK_of (ct_Bare r2 (Nat.le_refl _) (by omega)) (fun v n2 g2 l2 k2 hC => ?_) (by omega)
    have hl2 : lv [UInt32.ofNat r] = lv l % m := by rw [← hr2]; simp only [lv, ofNat32]; omega
    rw [hl2] at hC
    simp only [↓gaW, ↓gaV, ↓gaC, ↓gaN, gaP, Nat.reduceEqDiff, Nat.reduceLeDiff, Nat.reduceAdd, Nat.reduceSub, Nat.reduceMul, Int.reduceLT, Int.reduceLE, Int.reduceEq, Int.reduceToNat, Int.reduceAdd, Int.reduceSub, Int.reduceMul, reduceCtorEq, ↓reduceIte, gaE, implies_true, Nat.le_refl, Int.sub_zero, Nat.sub_zero, Int.le_refl, true_or, or_true]
    have hk : ∀ p, p < n1 → g2 p = g1 p := fun p hp => by rw [k2 p (by omega)]; simp only [upd_e]; rw [if_neg (by omega)]
    refine ⟨by omega, fun p hp => by rw [hk p (by omega), k1 p (by omega), hg p hp], _, _, rfl, ⟨A1, a1, c1, rfl, hc1, hl1, r1.keep (by omega) hk⟩, hC⟩
  · obtain ⟨z, rfl⟩ : ∃ z, j = z + 1 := ⟨j - 1, by omega⟩
    rw [show ((z + 1 : Nat) : Int) - 1 = (z : Int) by omega] at h8
    obtain ⟨a, ce, ro, rfl, a1, a2, a3, a4⟩ := w32_cell hr hl (i := z) (by omega)
    have a2' : g a.block = some (.cells ce ro) := by rw [hg _ a1, a2]
    have lx := lt32 (l.getD z 0)
    have hd := lv_drop_cons (l := l) (i := z) (by omega)
    obtain ⟨X, hX⟩ : ∃ X, (l.getD z 0).toNat = X := ⟨_, rfl⟩
    rw [hX] at a4 lx hd
    simp only [↓gaW, ↓gaV, ↓gaC, ↓gaN, gaP, Nat.reduceEqDiff, Nat.reduceLeDiff, Nat.reduceAdd, Nat.reduceSub, Nat.reduceMul, Int.reduceLT, Int.reduceLE, Int.reduceEq, Int.reduceToNat, Int.reduceAdd, Int.reduceSub, Int.reduceMul, reduceCtorEq, ↓reduceIte, h0', h1, h6, h7, h8, show (0 : Int) ≤ (z : Int) by omega, decide_true, a2', a4]
    repeat refine And.intro (by omega) ?_
    refine callK_of (ct_Div32 hrm hm lx) (fun v n1 g1 l1 k1 hC => ?_) (by omega)
    obtain ⟨D, hD⟩ : ∃ D, (r * 4294967296 + X) / m = D := ⟨_, rfl⟩
    obtain ⟨R, hR⟩ : ∃ R, (r * 4294967296 + X) % m = R := ⟨_, rfl⟩
    have hDR := Nat.div_add_mod (r * 4294967296 + X) m
    have hRm : R < m := by rw [← hR]; exact Nat.mod_lt _ h0
    have hD2 : D < 4294967296 := by
      rw [← hD, Nat.div_lt_iff_lt_mul h0]
      have : (r + 1) * 4294967296 ≤ m * 4294967296 := Nat.mul_le_mul_right _ hrm
      omega
    rw [hD, hR] at hC hDR
    subst hC
    have gn := (k1 nx (by omega)).trans hgn
    simp only [↓gaW, ↓gaV, ↓gaC, ↓gaN, gaP, Nat.reduceEqDiff, Nat.reduceLeDiff, Nat.reduceAdd, Nat.reduceSub, Nat.reduceMul, Int.reduceLT, Int.reduceLE, Int.reduceEq, Int.reduceToNat, Int.reduceAdd, Int.reduceSub, Int.reduceMul, reduceCtorEq, ↓reduceIte, h8, gn, Nat.mul_one, Nat.zero_add, u32V_lt hD2, cv_u32, splice_set (show z < w.length by omega), i64_w ((z : Int) - 1) (by omega), loopK_n]
    repeat refine And.intro (by first | omega | (simp; omega) | exact all1 (cl_u32 _)) ?_
    refine ⟨z, by omega, z, R, n1, upd g1 nx (some (.cells ((w.set z (UInt32.ofNat D)).map u32V) false)), w.set z (UInt32.ofNat D), ?_⟩
    (repeat' refine And.intro ?_ ?_) <;> first | rfl | assumption | omega | (intro q hq; simp (disch := omega) only [upd_e, if_neg, k1, hg]; done) | (simp only [upd_e, if_true]; done) | skip
    · simp [hw]
    · have hwd := lv_drop_cons (l := w.set z (UInt32.ofNat D)) (i := z) (by simp; omega)
      have hg0 : (w.set z (UInt32.ofNat D)).getD z 0 = UInt32.ofNat D := by simp [List.getD_eq_getElem?_getD, List.getElem?_set, show z < w.length by omega]
      rw [hg0, ofNat32, Nat.mod_eq_of_lt hD2, List.drop_set_of_lt (show z < z + 1 by omega)] at hwd
      rw [hwd, hd, Nat.add_mul, Nat.mul_assoc, ← he, Nat.mul_add, Nat.mul_comm D m]
      omega
end
end Go.Ga

/- Numbers, moved by less than a word. -/
namespace Go.Ga
open Go

theorem shl32w {x s : Nat} (hs : s ≤ 32) : shlV .u32 (x : Int) (s : Int) = ((x * 2 ^ s % 4294967296 : Nat) : Int) := by
  simp only [shlV, IntKind.bits, Int.toNat_natCast]
  rw [Nat.min_eq_left hs, u32_w, show (x : Int) * 2 ^ s = ((x * 2 ^ s : Nat) : Int) by rw [Int.natCast_mul, Int.natCast_pow]; rfl]
  omega
theorem low_or {c x s : Nat} (hs : s ≤ 32) (hc : c < 2 ^ s) : (c ||| (x * 2 ^ s % 4294967296)) = c + x * 2 ^ s % 4294967296 ∧ c + x * 2 ^ s % 4294967296 < 4294967296 := by
  have e : (4294967296 : Nat) = 2 ^ (32 - s) * 2 ^ s := by rw [← Nat.pow_add, show 32 - s + s = 32 by omega]
  have h1 : x * 2 ^ s % 4294967296 = 2 ^ s * (x % 2 ^ (32 - s)) := by
    rw [e, Nat.mul_mod_mul_right, Nat.mul_comm]
  have h2 := Nat.two_pow_add_eq_or_of_lt hc (x % 2 ^ (32 - s))
  refine ⟨by rw [h1, Nat.or_comm, ← h2, Nat.add_comm], ?_⟩
  rw [h1]
  have h3 : x % 2 ^ (32 - s) < 2 ^ (32 - s) := Nat.mod_lt _ (Nat.pow_pos (by decide))
  have h4 : 2 ^ s * (x % 2 ^ (32 - s) + 1) ≤ 2 ^ s * 2 ^ (32 - s) := Nat.mul_le_mul_left _ h3
  rw [Nat.mul_comm (2 ^ s) (2 ^ (32 - s)), ← e, Nat.mul_add] at h4
  omega
theorem hi_part {x s : Nat} (hs : s ≤ 32) : x / 2 ^ (32 - s) = x * 2 ^ s / 4294967296 := by
  have e : (4294967296 : Nat) = 2 ^ (32 - s) * 2 ^ s := by rw [← Nat.pow_add, show 32 - s + s = 32 by omega]
  rw [e, Nat.mul_div_mul_right _ _ (Nat.pow_pos (by decide))]
theorem hi_lt {x s : Nat} (hx : x < 4294967296) : x * 2 ^ s / 4294967296 < 2 ^ s := by
  rw [Nat.div_lt_iff_lt_mul (by decide), Nat.mul_comm (2 ^ s)]
  exact Nat.mul_lt_mul_of_pos_right hx (Nat.pow_pos (by decide))

/-- What one turn of the loop upward does. -/
theorem up_step {w : List UInt32} {l : List UInt32} {i s n : Nat} (hw : w.length = n + 1) (hi : i < n) (hs : s ≤ 32) (h : lv w = lv (l.take i) * 2 ^ s) (hc : (w.getD i 0).toNat < 2 ^ s) (hz : ∀ j, i < j → w.getD j 0 = 0) :
    lv ((w.set i (UInt32.ofNat ((w.getD i 0).toNat + (l.getD i 0).toNat * 2 ^ s % 4294967296))).set (i + 1) (UInt32.ofNat ((l.getD i 0).toNat * 2 ^ s / 4294967296))) = lv (l.take (i + 1)) * 2 ^ s := by
  obtain ⟨x, hx⟩ : ∃ x, (l.getD i 0).toNat = x := ⟨_, rfl⟩
  obtain ⟨c, hc'⟩ : ∃ c, (w.getD i 0).toNat = c := ⟨_, rfl⟩
  have hx32 := lt32 (l.getD i 0)
  rw [hx] at hx32
  rw [lv_take', hx, hc']
  rw [hc'] at hc
  have h1 := lv_set (w := w) (i := i) (x := UInt32.ofNat (c + x * 2 ^ s % 4294967296)) (by omega)
  rw [hc', ofNat32, Nat.mod_eq_of_lt (low_or hs hc).2, Nat.mul_add] at h1
  obtain ⟨w1, hw1⟩ : ∃ w1, w.set i (UInt32.ofNat (c + x * 2 ^ s % 4294967296)) = w1 := ⟨_, rfl⟩
  rw [hw1] at h1 ⊢
  have hlen : w1.length = n + 1 := by rw [← hw1]; simp [hw]
  have h2 := lv_set (w := w1) (i := i + 1) (x := UInt32.ofNat (x * 2 ^ s / 4294967296)) (by omega)
  have hz1 : w1.getD (i + 1) 0 = 0 := by rw [← hw1, set_getD_ne (by omega)]; exact hz _ (by omega)
  have hhi : x * 2 ^ s / 4294967296 < 4294967296 := by
    have h3 := hi_lt (s := s) hx32
    have h4 : (2 : Nat) ^ s ≤ 2 ^ 32 := Nat.pow_le_pow_right (by decide) hs
    omega
  rw [hz1, ofNat32, Nat.mod_eq_of_lt hhi, show (0 : UInt32).toNat = 0 from rfl, Nat.mul_zero, Nat.add_zero, Nat.pow_succ] at h2
  have h5 := carry_step (4294967296 ^ i) (x * 2 ^ s)
  rw [h2, Nat.add_mul, Nat.mul_assoc (4294967296 ^ i) x, ← h, ← h5]
  omega

theorem R_low {l : List UInt32} {i : Nat} : lv (l.drop i) % 4294967296 = (l.getD i 0).toNat := by
  rcases Nat.lt_or_ge i l.length with h | h
  · rw [lv_drop_cons h, Nat.add_mul_mod_self_left, Nat.mod_eq_of_lt (lt32 _)]
  · rw [List.drop_of_length_le h, List.getD_eq_getElem?_getD, List.getElem?_eq_none h]; rfl
theorem down_num {x R s : Nat} (hs : s ≤ 32) : (x + 4294967296 * R) / 2 ^ s = (x / 2 ^ s + R % 4294967296 * 2 ^ (32 - s) % 4294967296) + 4294967296 * (R / 2 ^ s) := by
  have e : (4294967296 : Nat) = 2 ^ (32 - s) * 2 ^ s := by rw [← Nat.pow_add, show 32 - s + s = 32 by omega]
  have h1 : (x + 4294967296 * R) / 2 ^ s = x / 2 ^ s + R * 2 ^ (32 - s) := by
    rw [show x + 4294967296 * R = x + 2 ^ s * (R * 2 ^ (32 - s)) by rw [e]; ac_rfl, Nat.add_mul_div_left _ _ (Nat.pow_pos (by decide))]
  have h2 : R * 2 ^ (32 - s) / 4294967296 = R / 2 ^ s := by
    rw [e, Nat.mul_comm R, Nat.mul_div_mul_left _ _ (Nat.pow_pos (by decide))]
  have h3 : R % 4294967296 * 2 ^ (32 - s) % 4294967296 = R * 2 ^ (32 - s) % 4294967296 := by
    rw [Nat.mul_mod, Nat.mod_mod, ← Nat.mul_mod]
  have h4 := Nat.div_add_mod (R * 2 ^ (32 - s)) 4294967296
  rw [h1, h3]
  rw [h2] at h4
  omega
theorem down_step {w : List UInt32} {n i s T : Nat} (hn : n ≤ w.length) (hi : i < n) (hs : s ≤ 32) (h : lv (w.take i) + 4294967296 ^ i * (lv ((w.take n).drop i) / 2 ^ s) = T)
    (hN : (w.getD i 0).toNat / 2 ^ s + ((w.take n).getD (i + 1) 0).toNat * 2 ^ (32 - s) % 4294967296 < 4294967296) :
    lv ((w.set i (UInt32.ofNat ((w.getD i 0).toNat / 2 ^ s + ((w.take n).getD (i + 1) 0).toNat * 2 ^ (32 - s) % 4294967296))).take (i + 1)) +
      4294967296 ^ (i + 1) * (lv (((w.set i (UInt32.ofNat ((w.getD i 0).toNat / 2 ^ s + ((w.take n).getD (i + 1) 0).toNat * 2 ^ (32 - s) % 4294967296))).take n).drop (i + 1)) / 2 ^ s) = T := by
  rw [lv_set_take (by omega), ofNat32, Nat.mod_eq_of_lt hN]
  have e1 : ∀ x, ((w.set i x).take n).drop (i + 1) = (w.take n).drop (i + 1) := fun x => by
    rw [List.take_set, List.drop_set_of_lt (show i < i + 1 by omega)]
  rw [e1, ← h]
  have h2 := lv_drop_cons (l := w.take n) (i := i) (by simp; omega)
  have h3 : (w.take n).getD i 0 = w.getD i 0 := by simp [List.getD_eq_getElem?_getD, hi]
  rw [h3] at h2
  rw [h2, down_num hs, R_low, Nat.pow_succ, Nat.add_assoc, Nat.mul_assoc (4294967296 ^ i) 4294967296, ← Nat.mul_add]
end Go.Ga

namespace Go.Ga
open Go Go.Proofs
set_option linter.unusedSimpArgs false
set_option linter.unusedVariables false
set_option maxRecDepth 100000
attribute [local irreducible] appendK

section
variable {nx : Nat} {gt : Nat → Option Blk}

/-- Words in a block of one's own. -/
def Own32 (lo nx : Nat) (gt : Nat → Option Blk) (v : Value) (w : List UInt32) : Prop := ∃ q, v = .slice (some ⟨q, 0, none⟩) w.length w.length ∧ lo ≤ q ∧ q < nx ∧ gt q = some (.cells (w.map u32V) false)

theorem ct_shifted {A : Option Addr} {n c s : Nat} {l : List UInt32} (hr : Row nx gt 1 A n (l.map u32V)) (hn : n < 100000000) (hs : s < 32) :
    Ct Try.prog 87 [.slice A n c, .int .i64 (s : Nat)] nx gt fun v nx' gt' => ∃ w, Own32 nx nx' gt' v w ∧ w.length = n + 1 ∧ lv w = lv l * 2 ^ s := by
  have hl : l.length = n := by simpa using hr.len
  refine Ct.of hmx r_modulo_shifted (by simp [c_modulo_shifted]) fun b hb => ?_
  have e1 : (n : Int) + 1 = ((n + 1 : Nat) : Int) := by omega
  simp only [c_modulo_shifted, ↓gaW, ↓gaV, ↓gaC, ↓gaN, gaP, Nat.reduceEqDiff, Nat.reduceLeDiff, Nat.reduceAdd, Nat.reduceSub, Nat.reduceMul, Int.reduceLT, Int.reduceLE, Int.reduceEq, Int.reduceToNat, Int.reduceAdd, Int.reduceSub, Int.reduceMul, reduceCtorEq, ↓reduceIte, e1, i64_w ((n + 1 : Nat) : Int) (by omega), zeros32]
  repeat refine And.intro (by first | omega | simp) ?_
  refine loop_of (fun j f mm => ∃ (i : Nat) (g : Nat → Option Blk) (w : List UInt32), j = n - i ∧ i ≤ n ∧ f 1 = .int .i64 (s : Nat) ∧ f 5 = .slice (some ⟨nx, 0, none⟩) (n + 1) (n + 1) ∧ f 12 = .slice A n c ∧ f 13 = .int .i64 (n : Nat) ∧ f 14 = .int .i64 (i : Nat) ∧ mm = ⟨nx + 1, b, g⟩ ∧
      (∀ q, q < nx → g q = gt q) ∧ g nx = some (.cells (w.map u32V) false) ∧ w.length = n + 1 ∧ lv w = lv (l.take i) * 2 ^ s ∧ (w.getD i 0).toNat < 2 ^ s ∧ ∀ j, i < j → w.getD j 0 = 0) n
    ⟨0, _, List.replicate (n + 1) 0, by omega, by omega, rfl, rfl, rfl, rfl, rfl, rfl, fun q hq => by simp only [upd_e]; rw [if_neg (by omega)], by simp only [upd_e, if_true], by simp, by simp [lv_replicate, lv], by
      have : (0 : Nat) < 2 ^ s := Nat.pow_pos (by decide)
      simpa [List.getD_eq_getElem?_getD] using this, fun j hj => by simp [List.getD_eq_getElem?_getD, List.getElem?_replicate]; split <;> rfl⟩ ?_
  rintro j f mm ⟨i, g, w, rfl, hi, h1, h5, h12, h13, h14, rfl, hg, hgn, hw, he, hcb, hz⟩
  by_cases hlt : (i : Int) < (n : Int)
  · obtain ⟨a, ce, ro, rfl, a1, a2, a3, a4⟩ := w32_cell hr hl (i := i) (by omega)
    have a2' : g a.block = some (.cells ce ro) := by rw [hg _ a1, a2]
    have hup := up_step (l := l) (n := n) hw (by omega) (show s ≤ 32 by omega) he hcb hz
    have hx32 := lt32 (l.getD i 0)
    have ha5 : (w.map u32V).getD i undef = .int .u32 ((w.getD i 0).toNat : Nat) := getD_u32 (by omega)
    obtain ⟨x, hx⟩ : ∃ x, (l.getD i 0).toNat = x := ⟨_, rfl⟩
    obtain ⟨C, hC⟩ : ∃ C, (w.getD i 0).toNat = C := ⟨_, rfl⟩
    rw [hx] at hup hx32 a4
    rw [hC] at hup hcb ha5
    obtain ⟨o1, o2⟩ := low_or (x := x) (show s ≤ 32 by omega) hcb
    have o3 := or_u32 (x := C) (y := x * 2 ^ s % 4294967296) (by omega) (by omega)
    rw [o1] at o3
    have q1 : (i : Int) + 1 = ((i + 1 : Nat) : Int) := by omega
    have hhi := hi_lt (s := s) hx32
    have hhi2 : x * 2 ^ s / 4294967296 < 4294967296 := by
      have h4 : (2 : Nat) ^ s ≤ 2 ^ 32 := Nat.pow_le_pow_right (by decide) (by omega)
      omega
    by_cases hs0 : (0 : Int) < (s : Int)
    · have q2 : (32 : Int) - (s : Int) = ((32 - s : Nat) : Int) := by omega
      have q3 : shrV .u32 (x : Int) ((32 - s : Nat) : Int) = ((x * 2 ^ s / 4294967296 : Nat) : Int) := by rw [shr_nat (k := .u32) x (32 - s) (by show _ ≤ 32; omega), hi_part (by omega)]
      simp only [↓gaW, ↓gaV, ↓gaC, ↓gaN, gaP, Nat.reduceEqDiff, Nat.reduceLeDiff, Nat.reduceAdd, Nat.reduceSub, Nat.reduceMul, Int.reduceLT, Int.reduceLE, Int.reduceEq, Int.reduceToNat, Int.reduceAdd, Int.reduceSub, Int.reduceMul, reduceCtorEq, ↓reduceIte, h1, h5, h12, h13, h14, hlt, hs0, decide_true, a2', a4, hgn, ha5, shl32w (show s ≤ 32 by omega), o3, q1, q2, q3, i64_w ((i + 1 : Nat) : Int) (by omega), i64_w ((32 - s : Nat) : Int) (by omega), Nat.mul_one, Nat.zero_add, u32V_lt o2, u32V_lt hhi2, cv_u32, splice_set (show i < w.length by omega), splice_set (show i + 1 < (w.set i (UInt32.ofNat (C + x * 2 ^ s % 4294967296))).length by simp; omega), loopK_n]
      repeat refine And.intro (by first | omega | (simp; omega) | exact all1 (cl_u32 _)) ?_
      refine ⟨n - (i + 1), by omega, i + 1, upd (upd g nx (some (.cells ((w.set i (UInt32.ofNat (C + x * 2 ^ s % 4294967296))).map u32V) false))) nx (some (.cells (((w.set i (UInt32.ofNat (C + x * 2 ^ s % 4294967296))).set (i + 1) (UInt32.ofNat (x * 2 ^ s / 4294967296))).map u32V) false)), (w.set i (UInt32.ofNat (C + x * 2 ^ s % 4294967296))).set (i + 1) (UInt32.ofNat (x * 2 ^ s / 4294967296)), ?_⟩
      (repeat' refine And.intro ?_ ?_) <;> first | rfl | assumption | omega | (intro q hq; simp (disch := omega) only [upd_e, if_neg, hg]; done) | (simp only [upd_e, if_true]; done) | skip
      · simp [hw]
      · have : ((w.set i (UInt32.ofNat (C + x * 2 ^ s % 4294967296))).set (i + 1) (UInt32.ofNat (x * 2 ^ s / 4294967296))).getD (i + 1) 0 = UInt32.ofNat (x * 2 ^ s / 4294967296) := by
          simp [List.getD_eq_getElem?_getD, List.getElem?_set, show i + 1 < w.length by omega]
        rw [this, ofNat32, Nat.mod_eq_of_lt hhi2]
        exact hhi
      · intro j hj
        rw [set_getD_ne (by omega), set_getD_ne (by omega)]
        exact hz j (by omega)
    · have hs00 : s = 0 := by omega
      have hh0 : x * 2 ^ s / 4294967296 = 0 := by rw [hs00, Nat.pow_zero, Nat.mul_one]; exact Nat.div_eq_of_lt hx32
      have hlv : lv (w.set i (UInt32.ofNat (C + x * 2 ^ s % 4294967296))) = lv (l.take (i + 1)) * 2 ^ s := by
        rw [← hup, hh0]
        have h2 := lv_set (w := w.set i (UInt32.ofNat (C + x * 2 ^ s % 4294967296))) (i := i + 1) (x := UInt32.ofNat 0) (by simp; omega)
        have hz1 : (w.set i (UInt32.ofNat (C + x * 2 ^ s % 4294967296))).getD (i + 1) 0 = 0 := by rw [set_getD_ne (by omega)]; exact hz _ (by omega)
        rw [hz1] at h2
        exact (Nat.add_right_cancel h2).symm
      simp only [↓gaW, ↓gaV, ↓gaC, ↓gaN, gaP, Nat.reduceEqDiff, Nat.reduceLeDiff, Nat.reduceAdd, Nat.reduceSub, Nat.reduceMul, Int.reduceLT, Int.reduceLE, Int.reduceEq, Int.reduceToNat, Int.reduceAdd, Int.reduceSub, Int.reduceMul, reduceCtorEq, ↓reduceIte, h1, h5, h12, h13, h14, hlt, hs0, decide_true, decide_false, a2', a4, hgn, ha5, shl32w (show s ≤ 32 by omega), o3, q1, i64_w ((i + 1 : Nat) : Int) (by omega), Nat.mul_one, Nat.zero_add, u32V_lt o2, cv_u32, splice_set (show i < w.length by omega), loopK_n]
      repeat refine And.intro (by first | omega | (simp; omega) | exact all1 (cl_u32 _)) ?_
      refine ⟨n - (i + 1), by omega, i + 1, upd g nx (some (.cells ((w.set i (UInt32.ofNat (C + x * 2 ^ s % 4294967296))).map u32V) false)), w.set i (UInt32.ofNat (C + x * 2 ^ s % 4294967296)), ?_⟩
      (repeat' refine And.intro ?_ ?_) <;> first | rfl | assumption | omega | (intro q hq; simp (disch := omega) only [upd_e, if_neg, hg]; done) | (simp only [upd_e, if_true]; done) | skip
      · simp [hw]
      · rw [set_getD_ne (by omega), hz (i + 1) (by omega)]; exact Nat.pow_pos (by decide)
      · intro j hj
        rw [set_getD_ne (by omega)]
        exact hz j (by omega)
  · have hin : i = n := by omega
    subst hin
    rw [List.take_of_length_le (show l.length ≤ i by omega)] at he
    simp only [↓gaW, ↓gaV, ↓gaC, ↓gaN, gaP, Nat.reduceEqDiff, Nat.reduceLeDiff, Nat.reduceAdd, Nat.reduceSub, Nat.reduceMul, Int.reduceLT, Int.reduceLE, Int.reduceEq, Int.reduceToNat, Int.reduceAdd, Int.reduceSub, Int.reduceMul, reduceCtorEq, ↓reduceIte, gaE, implies_true, Nat.le_refl, Int.sub_zero, Nat.sub_zero, Int.le_refl, true_or, or_true, h5, h13, h14, hlt, decide_false, loopK_e]
    exact ⟨by omega, hg, w, ⟨nx, by rw [hw], by omega, by omega, hgn⟩, hw, he⟩
end
end Go.Ga

namespace Go.Ga
open Go Go.Proofs
set_option linter.unusedSimpArgs false
set_option linter.unusedVariables false
set_option maxRecDepth 100000
attribute [local irreducible] appendK

section
variable {nx : Nat} {gt : Nat → Option Blk}

theorem row_of_block {x q n : Nat} {g : Nat → Option Blk} {w : List UInt32} (hq : q < x) (hg : g q = some (.cells (w.map u32V) false)) (hn : n ≤ w.length) : Row x g 1 (some ⟨q, 0, none⟩) n ((w.take n).map u32V) :=
  ⟨fun a h => by injection h with h; subst h; exact .inl rfl, by simp; omega, fun h0 => ⟨_, _, false, rfl, hq, hg, by simp; omega, fun i hi => by
    rw [show (⟨q, 0, none⟩ : Addr).off + i = i from Nat.zero_add i, getD_u32 (by omega), getD_u32 (by simp; omega)]
    simp [List.getD_eq_getElem?_getD, hi]⟩⟩

theorem ct_back {q n c s : Nat} {w : List UInt32} (hq : q < nx) (hg0 : gt q = some (.cells (w.map u32V) false)) (hnw : n ≤ w.length) (hnc : n ≤ c) (hn : n < 100000000) (hs : s < 32) :
    Cw Try.prog 91 [.slice (some ⟨q, 0, none⟩) n c, .int .i64 (s : Nat)] q nx gt fun v nx' gt' => W32 nx' gt' v (lb (lv (w.take n) / 2 ^ s)) := by
  refine Cw.of hmx r_modulo_back (by simp [c_modulo_back]) fun b hb hbq => ?_
  simp only [c_modulo_back, ↓gaW, ↓gaV, ↓gaC, ↓gaN, gaP, Nat.reduceEqDiff, Nat.reduceLeDiff, Nat.reduceAdd, Nat.reduceSub, Nat.reduceMul, Int.reduceLT, Int.reduceLE, Int.reduceEq, Int.reduceToNat, Int.reduceAdd, Int.reduceSub, Int.reduceMul, reduceCtorEq, ↓reduceIte]
  refine loop_of (fun j f mm => ∃ (i : Nat) (g : Nat → Option Blk) (u : List UInt32), j = n - i ∧ i ≤ n ∧ f 0 = .slice (some ⟨q, 0, none⟩) n c ∧ f 1 = .int .i64 (s : Nat) ∧ f 7 = .int .i64 (n : Nat) ∧ f 8 = .int .i64 (i : Nat) ∧ mm = ⟨nx, b, g⟩ ∧
      (∀ p, p < nx → p ≠ q → g p = gt p) ∧ g q = some (.cells (u.map u32V) false) ∧ u.length = w.length ∧ lv (u.take i) + 4294967296 ^ i * (lv ((u.take n).drop i) / 2 ^ s) = lv (w.take n) / 2 ^ s) n
    ⟨0, gt, w, by omega, by omega, rfl, rfl, rfl, rfl, rfl, fun _ _ _ => rfl, hg0, rfl, by simp [lv]⟩ ?_
  rintro j f mm ⟨i, g, u, rfl, hi, h0, h1, h7, h8, rfl, hg, hgq, hu, he⟩
  by_cases hlt : (i : Int) < (n : Int)
  · have hx32 := lt32 (u.getD i 0)
    have ha : (u.map u32V).getD i undef = .int .u32 ((u.getD i 0).toNat : Nat) := getD_u32 (by omega)
    have hor := low_or (c := (u.getD i 0).toNat / 2 ^ s) (x := ((u.take n).getD (i + 1) 0).toNat) (s := 32 - s) (by omega) (by
      rw [Nat.div_lt_iff_lt_mul (Nat.pow_pos (by decide)), ← Nat.pow_add, show 32 - s + s = 32 by omega]; exact hx32)
    have hst := down_step (w := u) (n := n) (i := i) (s := s) (by omega) (by omega) (by omega) he hor.2
    obtain ⟨x, hx⟩ : ∃ x, (u.getD i 0).toNat = x := ⟨_, rfl⟩
    have q1 : (i : Int) + 1 = ((i + 1 : Nat) : Int) := by omega
    have q2 : (32 : Int) - (s : Int) = ((32 - s : Nat) : Int) := by omega
    have q3 : shrV .u32 (x : Int) (s : Int) = ((x / 2 ^ s : Nat) : Int) := shr_nat (k := .u32) x s (by show _ ≤ 32; omega)
    rw [hx] at hor hst ha hx32
    have hx2 : x / 2 ^ s < 4294967296 := Nat.lt_of_le_of_lt (Nat.div_le_self _ _) hx32
    have sp1 : splice (u.map u32V) i [.int .u32 ((x / 2 ^ s : Nat) : Int)] = (u.set i (UInt32.ofNat (x / 2 ^ s))).map u32V := by rw [u32V_lt hx2, splice_set (by omega)]
    by_cases hs0 : (0 : Int) < (s : Int)
    · by_cases hin : ((i + 1 : Nat) : Int) < (n : Int)
      · have hY : ((u.take n).getD (i + 1) 0) = u.getD (i + 1) 0 := by simp [List.getD_eq_getElem?_getD, show i + 1 < n by omega]
        rw [hY] at hor hst
        have ly := lt32 (u.getD (i + 1) 0)
        have hb1 : ((u.set i (UInt32.ofNat (x / 2 ^ s))).map u32V).getD (i + 1) undef = .int .u32 ((u.getD (i + 1) 0).toNat : Nat) := by
          rw [getD_u32 (by simp; omega), set_getD_ne (by omega)]
        have hb0 : ((u.set i (UInt32.ofNat (x / 2 ^ s))).map u32V).getD i undef = .int .u32 ((x / 2 ^ s : Nat) : Int) := by
          have e : (u.set i (UInt32.ofNat (x / 2 ^ s))).getD i 0 = UInt32.ofNat (x / 2 ^ s) := by simp [List.getD_eq_getElem?_getD, List.getElem?_set, show i < u.length by omega]
          rw [getD_u32 (by simp; omega), e, ofNat32, Nat.mod_eq_of_lt hx2]
        obtain ⟨y, hy⟩ : ∃ y, (u.getD (i + 1) 0).toNat = y := ⟨_, rfl⟩
        rw [hy] at hor hst ly hb1
        have o3 := or_u32 (x := x / 2 ^ s) (y := y * 2 ^ (32 - s) % 4294967296) (by omega) (by omega)
        rw [hor.1] at o3
        have sp2 : splice ((u.set i (UInt32.ofNat (x / 2 ^ s))).map u32V) i [.int .u32 ((x / 2 ^ s + y * 2 ^ (32 - s) % 4294967296 : Nat) : Int)] = (u.set i (UInt32.ofNat (x / 2 ^ s + y * 2 ^ (32 - s) % 4294967296))).map u32V := by
          rw [u32V_lt hor.2, splice_set (by simp; omega), List.set_set]
        simp only [↓gaW, ↓gaV, ↓gaC, ↓gaN, gaP, Nat.reduceEqDiff, Nat.reduceLeDiff, Nat.reduceAdd, Nat.reduceSub, Nat.reduceMul, Int.reduceLT, Int.reduceLE, Int.reduceEq, Int.reduceToNat, Int.reduceAdd, Int.reduceSub, Int.reduceMul, reduceCtorEq, ↓reduceIte, h0, h1, h7, h8, hlt, hs0, hin, decide_true, hgq, ha, q1, q2, q3, hb0, hb1, i64_w ((i + 1 : Nat) : Int) (by omega), i64_w ((32 - s : Nat) : Int) (by omega), shl32w (show 32 - s ≤ 32 by omega), o3, Nat.mul_one, Nat.zero_add, sp1, sp2, loopK_n]
        repeat refine And.intro (by first | omega | (simp; omega) | exact all1 rfl) ?_
        refine ⟨n - (i + 1), by omega, i + 1, upd (upd g q (some (.cells ((u.set i (UInt32.ofNat (x / 2 ^ s))).map u32V) false))) q (some (.cells ((u.set i (UInt32.ofNat (x / 2 ^ s + y * 2 ^ (32 - s) % 4294967296))).map u32V) false)), u.set i (UInt32.ofNat (x / 2 ^ s + y * 2 ^ (32 - s) % 4294967296)), ?_⟩
        refine ⟨rfl, by omega, rfl, rfl, fun p hp hpq => ?_, by simp only [upd_e, if_true], by simp [hu], hst⟩
        simp only [upd_e]
        simp only [if_neg hpq]
        exact hg p hp hpq
      · have hY : ((u.take n).getD (i + 1) 0).toNat * 2 ^ (32 - s) % 4294967296 = 0 := by
          have : (u.take n).getD (i + 1) 0 = 0 := by rw [List.getD_eq_getElem?_getD, List.getElem?_eq_none (by simp; omega)]; rfl
          rw [this]; simp
        rw [hY, Nat.add_zero] at hst
        simp only [↓gaW, ↓gaV, ↓gaC, ↓gaN, gaP, Nat.reduceEqDiff, Nat.reduceLeDiff, Nat.reduceAdd, Nat.reduceSub, Nat.reduceMul, Int.reduceLT, Int.reduceLE, Int.reduceEq, Int.reduceToNat, Int.reduceAdd, Int.reduceSub, Int.reduceMul, reduceCtorEq, ↓reduceIte, h0, h1, h7, h8, hlt, hs0, hin, decide_true, decide_false, hgq, ha, q1, q3, i64_w ((i + 1 : Nat) : Int) (by omega), Nat.mul_one, Nat.zero_add, sp1, loopK_n]
        repeat refine And.intro (by first | omega | (simp; omega) | exact all1 rfl) ?_
        refine ⟨n - (i + 1), by omega, i + 1, upd g q (some (.cells ((u.set i (UInt32.ofNat (x / 2 ^ s))).map u32V) false)), u.set i (UInt32.ofNat (x / 2 ^ s)), ?_⟩
        refine ⟨rfl, by omega, rfl, rfl, fun p hp hpq => ?_, by simp only [upd_e, if_true], by simp [hu], hst⟩
        simp only [upd_e]
        simp only [if_neg hpq]
        exact hg p hp hpq
    · have hY : ((u.take n).getD (i + 1) 0).toNat * 2 ^ (32 - s) % 4294967296 = 0 := by
        rw [show s = 0 by omega, Nat.sub_zero, show (2 : Nat) ^ 32 = 4294967296 from rfl, Nat.mul_mod_left]
      rw [hY, Nat.add_zero] at hst
      simp only [↓gaW, ↓gaV, ↓gaC, ↓gaN, gaP, Nat.reduceEqDiff, Nat.reduceLeDiff, Nat.reduceAdd, Nat.reduceSub, Nat.reduceMul, Int.reduceLT, Int.reduceLE, Int.reduceEq, Int.reduceToNat, Int.reduceAdd, Int.reduceSub, Int.reduceMul, reduceCtorEq, ↓reduceIte, h0, h1, h7, h8, hlt, hs0, decide_true, decide_false, hgq, ha, q1, q3, i64_w ((i + 1 : Nat) : Int) (by omega), Nat.mul_one, Nat.zero_add, sp1, loopK_n]
      repeat refine And.intro (by first | omega | (simp; omega) | exact all1 rfl) ?_
      refine ⟨n - (i + 1), by omega, i + 1, upd g q (some (.cells ((u.set i (UInt32.ofNat (x / 2 ^ s))).map u32V) false)), u.set i (UInt32.ofNat (x / 2 ^ s)), ?_⟩
      refine ⟨rfl, by omega, rfl, rfl, fun p hp hpq => ?_, by simp only [upd_e, if_true], by simp [hu], hst⟩
      simp only [upd_e]
      simp only [if_neg hpq]
      exact hg p hp hpq
  · have hin : i = n := by omega
    subst hin
    have hd : ((u.take i).drop i) = [] := by simp
    rw [hd, show lv [] / 2 ^ s = 0 by simp [lv], Nat.mul_zero, Nat.add_zero] at he
    simp only [↓gaW, ↓gaV, ↓gaC, ↓gaN, gaP, Nat.reduceEqDiff, Nat.reduceLeDiff, Nat.reduceAdd, Nat.reduceSub, Nat.reduceMul, Int.reduceLT, Int.reduceLE, Int.reduceEq, Int.reduceToNat, Int.reduceAdd, Int.reduceSub, Int.reduceMul, reduceCtorEq, ↓reduceIte, h0, h7, h8, hlt, decide_false, loopK_e]
    refine callK_of (ct_Bare (row_of_block hq hgq (by omega)) hnc (by omega)) (fun v n1 g1 l1 k1 hC => ?_) (by omega)
    rw [he] at hC
    simp only [↓gaW, ↓gaV, ↓gaC, ↓gaN, gaP, Nat.reduceEqDiff, Nat.reduceLeDiff, Nat.reduceAdd, Nat.reduceSub, Nat.reduceMul, Int.reduceLT, Int.reduceLE, Int.reduceEq, Int.reduceToNat, Int.reduceAdd, Int.reduceSub, Int.reduceMul, reduceCtorEq, ↓reduceIte, gaE, implies_true, Nat.le_refl, Int.sub_zero, Nat.sub_zero, Int.le_refl, true_or, or_true, endW_r, endW_n]
    exact ⟨by omega, fun p hp hpq => by rw [k1 p (by omega), hg p hp hpq], hC⟩
end
end Go.Ga

/- A number, taken off another one in place. -/
namespace Go.Ga
open Go

theorem less_step {U X W P cy o xm w S : Nat} (hw : w < 4294967296) (ho : o < 2) (hS : (if w < (cy + xm) % 4294967296 + o then 1 else 0) = S) (h : U + X = W + P * (cy + o)) :
    U + P * ((w + 4294967296 - (cy + xm) % 4294967296 - o) % 4294967296) + (X + P * xm) = (W + P * w) + P * 4294967296 * ((cy + xm) / 4294967296 + S) := by
  obtain ⟨D, hD⟩ : ∃ D, (w + 4294967296 - (cy + xm) % 4294967296 - o) % 4294967296 = D := ⟨_, rfl⟩
  obtain ⟨c, hc⟩ : ∃ c, (cy + xm) / 4294967296 = c := ⟨_, rfl⟩
  have key : D + cy + xm + o = w + 4294967296 * (c + S) := by
    split at hS <;> omega
  have h2 := congrArg (P * ·) key
  simp only [Nat.mul_add] at h2 h
  rw [hD, hc, Nat.mul_assoc, Nat.mul_add 4294967296, Nat.mul_add P (4294967296 * c)]
  omega
theorem more_step {U W M P cy w m : Nat} (h : U + P * cy = W + M) : U + P * ((w + m + cy) % 4294967296) + P * 4294967296 * ((w + m + cy) / 4294967296) = (W + P * w) + (M + P * m) := add_step h

theorem set_mid {lo win hi : List UInt32} {i k : Nat} {x : UInt32} (hk : lo.length = k) (hi' : i < win.length) : (lo ++ (win ++ hi)).set (k + i) x = lo ++ (win.set i x ++ hi) := by
  rw [List.set_append_right _ _ (by omega), hk, Nat.add_sub_cancel_left, List.set_append_left _ _ hi']
theorem getD_mid {lo win hi : List UInt32} {i k : Nat} (hk : lo.length = k) (hi' : i < win.length) : (lo ++ (win ++ hi)).getD (k + i) 0 = win.getD i 0 := by
  simp only [List.getD_eq_getElem?_getD]
  rw [List.getElem?_append_right (by omega), hk, Nat.add_sub_cancel_left, List.getElem?_append_left hi']
end Go.Ga

namespace Go.Ga
open Go Go.Proofs
set_option linter.unusedSimpArgs false
set_option linter.unusedVariables false
set_option maxRecDepth 100000
attribute [local irreducible] appendK

section
variable {nx : Nat} {gt : Nat → Option Blk}

theorem ct_less {q k n L C d X : Nat} {B : Option Addr} {lo win hi mm : List UInt32} (hq : q < nx) (hg0 : gt q = some (.cells ((lo ++ (win ++ hi)).map u32V) false)) (hk : lo.length = k) (hwin : win.length = n + 1) (hL : n + 1 ≤ L) (hLs : L < 1000000000)
    (hs : Row nx gt 1 B n (mm.map u32V)) (hne : ∀ a, B = some a → a.block ≠ q) (hX : X < 4294967296) :
    Cw Try.prog 89 [.slice (some ⟨q, k, none⟩) L C, .slice B n d, .int .u32 (X : Nat)] q nx gt fun v nx' gt' => ∃ win' owed, owed < 2 ∧ v = .bool (decide (((owed : Nat) : Int) = 0)) ∧ win'.length = n + 1 ∧ gt' q = some (.cells ((lo ++ (win' ++ hi)).map u32V) false) ∧
      lv win' + X * lv mm = lv win + 4294967296 ^ (n + 1) * owed := by
  have hmm : mm.length = n := by simpa using hs.len
  refine Cw.of hmx r_modulo_less (by simp [c_modulo_less]) fun b hb hbq => ?_
  simp only [c_modulo_less, ↓gaW, ↓gaV, ↓gaC, ↓gaN, gaP, Nat.reduceEqDiff, Nat.reduceLeDiff, Nat.reduceAdd, Nat.reduceSub, Nat.reduceMul, Int.reduceLT, Int.reduceLE, Int.reduceEq, Int.reduceToNat, Int.reduceAdd, Int.reduceSub, Int.reduceMul, reduceCtorEq, ↓reduceIte]
  refine loop_of (fun j f m => ∃ (i cy o x : Nat) (g : Nat → Option Blk) (u : List UInt32), j = n - i ∧ i ≤ n ∧ cy < 4294967296 ∧ o < 2 ∧ f 0 = .slice (some ⟨q, k, none⟩) L C ∧ f 1 = .slice B n d ∧ f 2 = .int .u32 (X : Nat) ∧ f 7 = .int .u64 (cy : Nat) ∧ f 8 = .int .u32 (o : Nat) ∧ f 11 = .int .i64 (n : Nat) ∧ f 12 = .int .i64 (i : Nat) ∧ m = ⟨x, b, g⟩ ∧ nx ≤ x ∧
      (∀ p, p < nx → p ≠ q → g p = gt p) ∧ g q = some (.cells ((lo ++ (u ++ hi)).map u32V) false) ∧ u.length = n + 1 ∧ (∀ j, i ≤ j → u.getD j 0 = win.getD j 0) ∧ lv (u.take i) + X * lv (mm.take i) = lv (win.take i) + 4294967296 ^ i * (cy + o)) n
    ⟨0, 0, 0, nx, gt, win, by omega, by omega, by omega, by omega, rfl, rfl, rfl, rfl, rfl, rfl, rfl, rfl, by omega, fun _ _ _ => rfl, hg0, hwin, fun _ _ => rfl, by simp [lv]⟩ ?_
  rintro j f m ⟨i, cy, o, x, g, u, rfl, hi', hcy, ho, h0, h1, h2, h7, h8, h11, h12, rfl, hx, hg, hgq, hu, hz, he⟩
  have hw32 := lt32 (u.getD i 0)
  have hlw : ((lo ++ (u ++ hi)).map u32V).getD (k + i) undef = .int .u32 ((u.getD i 0).toNat : Nat) := by
    rw [getD_u32 (by simp; omega), getD_mid hk (by omega)]
  have hzi := hz i (Nat.le_refl i)
  have hbound : k + i < (lo ++ (u ++ hi)).length := by simp; omega
  by_cases hlt : (i : Int) < (n : Int)
  · obtain ⟨a, ce, ro, rfl, a1, a2, a3, a4⟩ := w32_cell hs hmm (i := i) (by omega)
    have a2' : g a.block = some (.cells ce ro) := by rw [hg _ a1 (hne a rfl), a2]
    have ly := lt32 (mm.getD i 0)
    obtain ⟨W, hW⟩ : ∃ W, (u.getD i 0).toNat = W := ⟨_, rfl⟩
    obtain ⟨Y, hY⟩ : ∃ Y, (mm.getD i 0).toNat = Y := ⟨_, rfl⟩
    rw [hW] at hw32 hlw
    rw [hY] at a4 ly
    have hXY : X * Y ≤ 4294967295 * 4294967295 := Nat.mul_le_mul (by omega) (by omega)
    obtain ⟨Z, hZ⟩ : ∃ Z, X * Y = Z := ⟨_, rfl⟩
    have f1 : (X : Int) * (Y : Int) = (Z : Int) := by rw [← hZ]; exact (Int.natCast_mul X Y).symm
    have f4 : (cy : Int) + (Z : Int) = ((cy + Z : Nat) : Int) := by omega
    have f5 : shrV .u64 ((cy + Z : Nat) : Int) 32 = (((cy + Z) / 4294967296 : Nat) : Int) := shr_nat (k := .u64) _ 32 (by decide)
    obtain ⟨low, hlow⟩ : ∃ low, (cy + Z) % 4294967296 = low := ⟨_, rfl⟩
    have f6 : IntKind.u32.wrap ((cy + Z : Nat) : Int) = (low : Int) := by rw [u32_m, hlow]
    rw [hZ] at hXY
    have ly0 : low < 4294967296 := by rw [← hlow]; exact Nat.mod_lt _ (by decide)
    have hsub := ct_Sub32 (nx := x) (gt := g) hw32 ly0 ho
    obtain ⟨D, hD⟩ : ∃ D, (W + 4294967296 - low - o) % 4294967296 = D := ⟨_, rfl⟩
    obtain ⟨S, hS⟩ : ∃ S, (if W < low + o then 1 else 0) = S := ⟨_, rfl⟩
    have hD2 : D < 4294967296 := by rw [← hD]; exact Nat.mod_lt _ (by decide)
    have hS2 : S < 2 := by rw [← hS]; split <;> omega
    rw [hD, hS] at hsub
    simp only [↓gaW, ↓gaV, ↓gaC, ↓gaN, gaP, Nat.reduceEqDiff, Nat.reduceLeDiff, Nat.reduceAdd, Nat.reduceSub, Nat.reduceMul, Int.reduceLT, Int.reduceLE, Int.reduceEq, Int.reduceToNat, Int.reduceAdd, Int.reduceSub, Int.reduceMul, reduceCtorEq, ↓reduceIte, h0, h1, h2, h7, h8, h11, h12, hlt, decide_true, a2', a4, hgq, hlw, f1, f4, f6, u64_i (X : Int) (by omega), u64_i (Y : Int) (by omega), u64_i (Z : Int) (by omega), u64_i ((cy + Z : Nat) : Int) (by omega), Nat.mul_one]
    repeat refine And.intro (by first | omega | (simp; omega)) ?_
    refine callK_of hsub (fun v n1 g1 l1 k1 hC => ?_) (by omega)
    subst hC
    have gq1 := (k1 q (by omega)).trans hgq
    have q1 : (i : Int) + 1 = ((i + 1 : Nat) : Int) := by omega
    have sp : splice ((lo ++ (u ++ hi)).map u32V) (k + i) [.int .u32 (D : Nat)] = (lo ++ (u.set i (UInt32.ofNat D) ++ hi)).map u32V := by
      rw [u32V_lt hD2, splice_set hbound, set_mid hk (by omega)]
    simp only [↓gaW, ↓gaV, ↓gaC, ↓gaN, gaP, Nat.reduceEqDiff, Nat.reduceLeDiff, Nat.reduceAdd, Nat.reduceSub, Nat.reduceMul, Int.reduceLT, Int.reduceLE, Int.reduceEq, Int.reduceToNat, Int.reduceAdd, Int.reduceSub, Int.reduceMul, reduceCtorEq, ↓reduceIte, h0, h12, gq1, sp, f5, q1, i64_w ((i + 1 : Nat) : Int) (by omega), Nat.mul_one, loopK_n]
    repeat refine And.intro (by first | omega | (simp; omega) | exact all1 rfl) ?_
    refine ⟨n - (i + 1), by omega, i + 1, (cy + Z) / 4294967296, S, n1, upd g1 q (some (.cells ((lo ++ (u.set i (UInt32.ofNat D) ++ hi)).map u32V) false)), u.set i (UInt32.ofNat D), ?_⟩
    refine ⟨rfl, by omega, by omega, hS2, h1, h2, rfl, rfl, h11, rfl, rfl, by omega, fun p hp hpq => ?_, by simp only [upd_e, if_true], by simp [hu], fun j hj => ?_, ?_⟩
    · simp only [upd_e]
      rw [if_neg hpq, k1 p (by omega), hg p hp hpq]
    · rw [set_getD_ne (by omega)]; exact hz j (by omega)
    · have h9 := less_step (S := S) (xm := Z) hw32 ho (by rw [hlow]; exact hS) he
      rw [hlow, hD] at h9
      have h10 : X * (4294967296 ^ i * Y) = 4294967296 ^ i * Z := by rw [← hZ]; ac_rfl
      rw [lv_set_take (by omega), ofNat32, Nat.mod_eq_of_lt hD2, lv_take' mm, lv_take' win, ← hzi, hW, hY, Nat.mul_add X, h10, Nat.pow_succ]
      exact h9
  · have hin : i = n := by omega
    subst hin
    rw [List.take_of_length_le (show mm.length ≤ i by omega)] at he
    obtain ⟨W, hW⟩ : ∃ W, (u.getD i 0).toNat = W := ⟨_, rfl⟩
    rw [hW] at hw32 hlw
    obtain ⟨low, hlow⟩ : ∃ low, (cy + 0) % 4294967296 = low := ⟨_, rfl⟩
    have hlc : low = cy := by omega
    have f6 : IntKind.u32.wrap (cy : Int) = (low : Int) := by rw [hlc]; exact u32_i _ (by omega)
    have ly0 : low < 4294967296 := by rw [← hlow]; exact Nat.mod_lt _ (by decide)
    have hsub := ct_Sub32 (nx := x) (gt := g) hw32 ly0 ho
    obtain ⟨D, hD⟩ : ∃ D, (W + 4294967296 - low - o) % 4294967296 = D := ⟨_, rfl⟩
    obtain ⟨S, hS⟩ : ∃ S, (if W < low + o then 1 else 0) = S := ⟨_, rfl⟩
    have hD2 : D < 4294967296 := by rw [← hD]; exact Nat.mod_lt _ (by decide)
    have hS2 : S < 2 := by rw [← hS]; split <;> omega
    rw [hD, hS] at hsub
    simp only [↓gaW, ↓gaV, ↓gaC, ↓gaN, gaP, Nat.reduceEqDiff, Nat.reduceLeDiff, Nat.reduceAdd, Nat.reduceSub, Nat.reduceMul, Int.reduceLT, Int.reduceLE, Int.reduceEq, Int.reduceToNat, Int.reduceAdd, Int.reduceSub, Int.reduceMul, reduceCtorEq, ↓reduceIte, h0, h1, h7, h8, h11, h12, hlt, decide_false, loopK_e, hgq, hlw, f6, Nat.mul_one]
    repeat refine And.intro (by first | omega | (simp; omega)) ?_
    refine callK_of hsub (fun v n1 g1 l1 k1 hC => ?_) (by omega)
    subst hC
    have gq1 := (k1 q (by omega)).trans hgq
    have sp : splice ((lo ++ (u ++ hi)).map u32V) (k + i) [.int .u32 (D : Nat)] = (lo ++ (u.set i (UInt32.ofNat D) ++ hi)).map u32V := by
      rw [u32V_lt hD2, splice_set hbound, set_mid hk (by omega)]
    simp only [↓gaW, ↓gaV, ↓gaC, ↓gaN, gaP, Nat.reduceEqDiff, Nat.reduceLeDiff, Nat.reduceAdd, Nat.reduceSub, Nat.reduceMul, Int.reduceLT, Int.reduceLE, Int.reduceEq, Int.reduceToNat, Int.reduceAdd, Int.reduceSub, Int.reduceMul, reduceCtorEq, ↓reduceIte, gaE, implies_true, Nat.le_refl, Int.sub_zero, Nat.sub_zero, Int.le_refl, true_or, or_true, endW_r, endW_n, h0, gq1, sp, Nat.mul_one]
    repeat refine And.intro (by first | omega | (simp; omega) | exact all1 rfl) ?_
    refine ⟨fun p hp hpq => ?_, u.set i (UInt32.ofNat D), S, hS2, rfl, by simp [hu], by first | rfl | simp only [upd_e, if_true], ?_⟩
    · rw [if_neg hpq, k1 p (by omega), hg p hp hpq]
    · have h9 := less_step (S := S) (xm := 0) hw32 ho (by rw [hlow]; exact hS) he
      rw [hlow, hD, Nat.mul_zero, Nat.add_zero, show (cy + 0) / 4294967296 = 0 by omega, Nat.zero_add] at h9
      have e1 : lv (u.set i (UInt32.ofNat D)) = lv ((u.set i (UInt32.ofNat D)).take (i + 1)) := by rw [List.take_of_length_le (by simp; omega)]
      have e2 : lv win = lv (win.take (i + 1)) := by rw [List.take_of_length_le (by omega)]
      rw [e1, e2, lv_set_take (by omega), ofNat32, Nat.mod_eq_of_lt hD2, lv_take' win, ← hzi, hW, Nat.pow_succ]
      exact h9
end
end Go.Ga
