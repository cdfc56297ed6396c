/- Words and contracts of functions for the statement's proof. No condition. -/
import Derived.Test.YtndikkpmlofebaaA2
import Derived.Test.YtndikkpmlofebaaProg
import Derived.KernelRfl
set_option linter.all false

namespace Go.Ga
open Go Go.Proofs
set_option maxRecDepth 100000

def c_octet_Unhex : RFn :=
  ⟨48,
  (.seq
  (.ops [] [
  ⟨(some 2), (.op (.mv (.k (.slice none 0 0)))), none⟩,
  ⟨(some 3), (.op (.mv (.k (.bool false)))), none⟩])
  (.seq
  (.seq
  (.ops [] [
  ⟨(some 8), (.op (.mv (.t 0))), none⟩,
  ⟨(some 9), (.op (.lenStr (.t 8))), none⟩,
  ⟨(some 10), (.op (.bin .rem (.t 9) (.k (.int .i64 2)))), none⟩,
  ⟨(some 11), (.op (.bin .neq (.t 10) (.k (.int .i64 0)))), none⟩])
  (.cond (.t 11)
  (.seq
  (.ops [] [
  ⟨(some 2), (.op (.mv (.k (.slice none 0 0)))), none⟩,
  ⟨(some 3), (.op (.mv (.k (.bool false)))), none⟩])
  .ret)
  .skip))
  (.seq
  (.ops [] [
  ⟨(some 12), (.op (.mv (.t 0))), none⟩,
  ⟨(some 13), (.op (.lenStr (.t 12))), none⟩,
  ⟨(some 14), (.op (.bin .quo (.t 13) (.k (.int .i64 2)))), none⟩,
  ⟨(some 15), (.op (.make 1 1 [(.int .u8 0)] (.t 14) (.t 14))), none⟩,
  ⟨(some 4), (.op (.mv (.t 15))), none⟩])
  (.seq
  (.seq
  (.ops [] [
  ⟨(some 16), (.op (.mv (.t 4))), none⟩,
  ⟨(some 17), (.op (.lenSl (.t 16))), none⟩,
  ⟨(some 18), (.op (.mv (.k (.int .i64 0)))), none⟩])
  (.block 0
  (.loop
  (.seq
  (.ops [] [
  ⟨(some 19), (.op (.bin .lss (.t 18) (.t 17))), none⟩])
  (.seq
  (.cond (.t 19)
  .skip
  (.exit 0))
  (.seq
  (.block 1
  (.seq
  (.ops [] [
  ⟨(some 20), (.op (.mv (.t 18))), none⟩,
  ⟨(some 5), (.op (.mv (.t 20))), none⟩])
  (.seq
  (.ops [
  ⟨(some 21), (.op (.mv (.t 0))), none⟩,
  ⟨(some 22), (.op (.mv (.t 5))), none⟩,
  ⟨(some 23), (.op (.bin .mul (.k (.int .i64 2)) (.t 22))), none⟩,
  ⟨(some 24), (.op (.ixStr (.t 21) (.t 23))), none⟩,
  ⟨(some 25), (.call (.k (.func (.func 39) #[] #[])) [(.t 24)]), none⟩,
  ⟨(some 26), (.op (.mv (.t 0))), none⟩,
  ⟨(some 27), (.op (.mv (.t 5))), none⟩,
  ⟨(some 28), (.op (.bin .mul (.k (.int .i64 2)) (.t 27))), none⟩,
  ⟨(some 29), (.op (.bin .add (.t 28) (.k (.int .i64 1)))), none⟩,
  ⟨(some 30), (.op (.ixStr (.t 26) (.t 29))), none⟩] [
  ⟨(some 31), (.call (.k (.func (.func 39) #[] #[])) [(.t 30)]), none⟩,
  ⟨(some 6), (.op (.mv (.t 25))), none⟩,
  ⟨(some 7), (.op (.mv (.t 31))), none⟩])
  (.seq
  (.seq
  (.ops [] [
  ⟨(some 32), (.op (.mv (.t 6))), none⟩,
  ⟨(some 33), (.op (.bin .lss (.t 32) (.k (.int .i64 0)))), none⟩,
  ⟨(some 34), (.op (.mv (.t 33))), none⟩,
  ⟨(some 35), (.op (.mv (.t 7))), (some (34, false))⟩,
  ⟨(some 36), (.op (.bin .lss (.t 35) (.k (.int .i64 0)))), (some (34, false))⟩,
  ⟨(some 37), (.op (.pick (.t 34) (.k (.bool true)) (.t 36))), none⟩])
  (.cond (.t 37)
  (.seq
  (.ops [] [
  ⟨(some 2), (.op (.mv (.k (.slice none 0 0)))), none⟩,
  ⟨(some 3), (.op (.mv (.k (.bool false)))), none⟩])
  .ret)
  .skip))
  (.ops [] [
  ⟨(some 38), (.op (.mv (.t 4))), none⟩,
  ⟨(some 39), (.op (.mv (.t 5))), none⟩,
  ⟨(some 40), (.op (.mv (.t 6))), none⟩,
  ⟨(some 41), (.op (.bin .shl (.t 40) (.k (.int .u64 4)))), none⟩,
  ⟨(some 42), (.op (.mv (.t 7))), none⟩,
  ⟨(some 43), (.op (.bin .or (.t 41) (.t 42))), none⟩,
  ⟨(some 44), (.op (.toInt .u8 (.t 43))), none⟩,
  ⟨(some 45), (.op (.ixAddr 1 (.t 38) (.t 39))), none⟩,
  ⟨none, (.op (.store 1 (.t 45) (.t 44))), none⟩])))))
  (.ops [] [
  ⟨(some 46), (.op (.bin .add (.t 18) (.k (.int .i64 1)))), none⟩,
  ⟨(some 18), (.op (.mv (.t 46))), none⟩])))))))
  (.seq
  (.ops [] [
  ⟨(some 47), (.op (.mv (.t 4))), none⟩,
  ⟨(some 2), (.op (.mv (.t 47))), none⟩,
  ⟨(some 3), (.op (.mv (.k (.bool true)))), none⟩])
  .ret))))),
  [(.t 2), (.t 3)]⟩
theorem r_octet_Unhex : resolveFn Try.prog 20 = some c_octet_Unhex := by kernel_rfl

def c_lanyardref01_Unhex : RFn :=
  ⟨47,
  (.seq
  (.ops [] [
  ⟨(some 2), (.op (.mv (.k (.slice none 0 0)))), none⟩,
  ⟨(some 3), (.op (.mv (.k (.bool false)))), none⟩])
  (.seq
  (.ops [] [
  ⟨(some 4), (.op (.mv (.k (.slice none 0 0)))), none⟩])
  (.seq
  (.seq
  (.ops [] [
  ⟨(some 5), (.op (.mv (.k (.int .i64 0)))), none⟩])
  (.block 0
  (.loop
  (.seq
  (.seq
  (.ops [] [
  ⟨(some 6), (.op (.mv (.t 5))), none⟩,
  ⟨(some 7), (.op (.mv (.t 0))), none⟩,
  ⟨(some 8), (.op (.lenStr (.t 7))), none⟩,
  ⟨(some 9), (.op (.bin .lss (.t 6) (.t 8))), none⟩])
  (.cond (.t 9)
  .skip
  (.exit 0)))
  (.seq
  (.block 1
  (.seq
  (.seq
  (.ops [] [
  ⟨(some 12), (.op (.mv (.t 5))), none⟩,
  ⟨(some 13), (.op (.bin .add (.t 12) (.k (.int .i64 1)))), none⟩,
  ⟨(some 14), (.op (.mv (.t 0))), none⟩,
  ⟨(some 15), (.op (.lenStr (.t 14))), none⟩,
  ⟨(some 16), (.op (.bin .eql (.t 13) (.t 15))), none⟩,
  ⟨(some 17), (.op (.mv (.t 16))), none⟩,
  ⟨(some 18), (.op (.mv (.t 0))), (some (17, false))⟩,
  ⟨(some 19), (.op (.mv (.t 5))), (some (17, false))⟩,
  ⟨(some 20), (.op (.ixStr (.t 18) (.t 19))), (some (17, false))⟩,
  ⟨(some 21), (.call (.k (.func (.func 40) #[] #[])) [(.t 20)]), (some (17, false))⟩,
  ⟨(some 22), (.op (.bin .eql (.t 21) (.k (.int .u8 16)))), (some (17, false))⟩,
  ⟨(some 23), (.op (.pick (.t 17) (.k (.bool true)) (.t 22))), none⟩,
  ⟨(some 24), (.op (.mv (.t 23))), none⟩,
  ⟨(some 25), (.op (.mv (.t 0))), (some (24, false))⟩,
  ⟨(some 26), (.op (.mv (.t 5))), (some (24, false))⟩,
  ⟨(some 27), (.op (.bin .add (.t 26) (.k (.int .i64 1)))), (some (24, false))⟩,
  ⟨(some 28), (.op (.ixStr (.t 25) (.t 27))), (some (24, false))⟩,
  ⟨(some 29), (.call (.k (.func (.func 40) #[] #[])) [(.t 28)]), (some (24, false))⟩,
  ⟨(some 30), (.op (.bin .eql (.t 29) (.k (.int .u8 16)))), (some (24, false))⟩,
  ⟨(some 31), (.op (.pick (.t 24) (.k (.bool true)) (.t 30))), none⟩])
  (.cond (.t 31)
  (.seq
  (.ops [] [
  ⟨(some 2), (.op (.mv (.k (.slice none 0 0)))), none⟩,
  ⟨(some 3), (.op (.mv (.k (.bool false)))), none⟩])
  .ret)
  .skip))
  (.ops [
  ⟨(some 32), (.op (.mv (.t 4))), none⟩,
  ⟨(some 33), (.op (.mv (.t 0))), none⟩,
  ⟨(some 34), (.op (.mv (.t 5))), none⟩,
  ⟨(some 35), (.op (.ixStr (.t 33) (.t 34))), none⟩,
  ⟨(some 36), (.call (.k (.func (.func 40) #[] #[])) [(.t 35)]), none⟩,
  ⟨(some 37), (.op (.bin .mul (.t 36) (.k (.int .u8 16)))), none⟩,
  ⟨(some 38), (.op (.mv (.t 0))), none⟩,
  ⟨(some 39), (.op (.mv (.t 5))), none⟩,
  ⟨(some 40), (.op (.bin .add (.t 39) (.k (.int .i64 1)))), none⟩,
  ⟨(some 41), (.op (.ixStr (.t 38) (.t 40))), none⟩,
  ⟨(some 42), (.call (.k (.func (.func 40) #[] #[])) [(.t 41)]), none⟩,
  ⟨(some 43), (.op (.bin .add (.t 37) (.t 42))), none⟩,
  ⟨(some 44), (.op (.mkSl 1 [(.int .u8 0)] [(0, (1, (.t 43)))])), none⟩] [
  ⟨(some 45), (.op (.append 1 1 (.t 32) (.t 44))), none⟩,
  ⟨(some 4), (.op (.mv (.t 45))), none⟩])))
  (.ops [] [
  ⟨(some 10), (.op (.mv (.t 5))), none⟩,
  ⟨(some 11), (.op (.bin .add (.t 10) (.k (.int .i64 2)))), none⟩,
  ⟨(some 5), (.op (.mv (.t 11))), none⟩]))))))
  (.seq
  (.ops [] [
  ⟨(some 46), (.op (.mv (.t 4))), none⟩,
  ⟨(some 2), (.op (.mv (.t 46))), none⟩,
  ⟨(some 3), (.op (.mv (.k (.bool true)))), none⟩])
  .ret)))),
  [(.t 2), (.t 3)]⟩
theorem r_lanyardref01_Unhex : resolveFn Try.prog 21 = some c_lanyardref01_Unhex := by kernel_rfl

def c_octet_worth : RFn :=
  ⟨24,
  (.seq
  (.ops [] [
  ⟨(some 2), (.op (.mv (.k (.int .i64 0)))), none⟩])
  (.seq
  (.block 0
  (.seq
  (.ops [] [
  ⟨(some 4), (.op (.mv (.t 0))), none⟩,
  ⟨(some 5), (.op (.bin .geq (.t 4) (.k (.int .u8 48)))), none⟩,
  ⟨(some 6), (.op (.mv (.t 5))), none⟩,
  ⟨(some 7), (.op (.mv (.t 0))), (some (6, true))⟩,
  ⟨(some 8), (.op (.bin .leq (.t 7) (.k (.int .u8 57)))), (some (6, true))⟩,
  ⟨(some 9), (.op (.pick (.t 6) (.t 8) (.k (.bool false)))), none⟩,
  ⟨(some 3), (.op (.mv (.t 9))), none⟩])
  (.cond (.t 3)
  (.seq
  (.ops [] [
  ⟨(some 10), (.op (.mv (.t 0))), none⟩,
  ⟨(some 11), (.op (.bin .sub (.t 10) (.k (.int .u8 48)))), none⟩,
  ⟨(some 12), (.op (.toInt .i64 (.t 11))), none⟩,
  ⟨(some 2), (.op (.mv (.t 12))), none⟩])
  .ret)
  (.seq
  (.ops [] [
  ⟨(some 14), (.op (.mv (.t 0))), none⟩,
  ⟨(some 15), (.op (.bin .geq (.t 14) (.k (.int .u8 97)))), none⟩,
  ⟨(some 16), (.op (.mv (.t 15))), none⟩,
  ⟨(some 17), (.op (.mv (.t 0))), (some (16, true))⟩,
  ⟨(some 18), (.op (.bin .leq (.t 17) (.k (.int .u8 102)))), (some (16, true))⟩,
  ⟨(some 19), (.op (.pick (.t 16) (.t 18) (.k (.bool false)))), none⟩,
  ⟨(some 13), (.op (.mv (.t 19))), none⟩])
  (.cond (.t 13)
  (.seq
  (.ops [] [
  ⟨(some 20), (.op (.mv (.t 0))), none⟩,
  ⟨(some 21), (.op (.bin .sub (.t 20) (.k (.int .u8 97)))), none⟩,
  ⟨(some 22), (.op (.toInt .i64 (.t 21))), none⟩,
  ⟨(some 23), (.op (.bin .add (.t 22) (.k (.int .i64 10)))), none⟩,
  ⟨(some 2), (.op (.mv (.t 23))), none⟩])
  .ret)
  .skip)))))
  (.seq
  (.ops [] [
  ⟨(some 2), (.op (.mv (.k (.int .i64 (-1))))), none⟩])
  .ret))),
  [(.t 2)]⟩
theorem r_octet_worth : resolveFn Try.prog 39 = some c_octet_worth := by kernel_rfl

def c_lanyardref01_worth : RFn :=
  ⟨20,
  (.seq
  (.ops [] [
  ⟨(some 2), (.op (.mv (.k (.int .u8 0)))), none⟩])
  (.seq
  (.seq
  (.ops [] [
  ⟨(some 3), (.op (.mv (.t 0))), none⟩,
  ⟨(some 4), (.op (.bin .geq (.t 3) (.k (.int .u8 48)))), none⟩,
  ⟨(some 5), (.op (.mv (.t 4))), none⟩,
  ⟨(some 6), (.op (.mv (.t 0))), (some (5, true))⟩,
  ⟨(some 7), (.op (.bin .leq (.t 6) (.k (.int .u8 57)))), (some (5, true))⟩,
  ⟨(some 8), (.op (.pick (.t 5) (.t 7) (.k (.bool false)))), none⟩])
  (.cond (.t 8)
  (.seq
  (.ops [] [
  ⟨(some 9), (.op (.mv (.t 0))), none⟩,
  ⟨(some 10), (.op (.bin .sub (.t 9) (.k (.int .u8 48)))), none⟩,
  ⟨(some 2), (.op (.mv (.t 10))), none⟩])
  .ret)
  .skip))
  (.seq
  (.seq
  (.ops [] [
  ⟨(some 11), (.op (.mv (.t 0))), none⟩,
  ⟨(some 12), (.op (.bin .geq (.t 11) (.k (.int .u8 97)))), none⟩,
  ⟨(some 13), (.op (.mv (.t 12))), none⟩,
  ⟨(some 14), (.op (.mv (.t 0))), (some (13, true))⟩,
  ⟨(some 15), (.op (.bin .leq (.t 14) (.k (.int .u8 102)))), (some (13, true))⟩,
  ⟨(some 16), (.op (.pick (.t 13) (.t 15) (.k (.bool false)))), none⟩])
  (.cond (.t 16)
  (.seq
  (.ops [] [
  ⟨(some 17), (.op (.mv (.t 0))), none⟩,
  ⟨(some 18), (.op (.bin .sub (.t 17) (.k (.int .u8 97)))), none⟩,
  ⟨(some 19), (.op (.bin .add (.t 18) (.k (.int .u8 10)))), none⟩,
  ⟨(some 2), (.op (.mv (.t 19))), none⟩])
  .ret)
  .skip))
  (.seq
  (.ops [] [
  ⟨(some 2), (.op (.mv (.k (.int .u8 16)))), none⟩])
  .ret)))),
  [(.t 2)]⟩
theorem r_lanyardref01_worth : resolveFn Try.prog 40 = some c_lanyardref01_worth := by kernel_rfl

def c_lanyardref01_Hex : RFn :=
  ⟨27,
  (.seq
  (.ops [] [
  ⟨(some 2), (.op (.mv (.k (.string ⟨#[]⟩)))), none⟩])
  (.seq
  (.ops [] [
  ⟨(some 3), (.op (.mv (.k (.string ⟨#[]⟩)))), none⟩])
  (.seq
  (.seq
  (.ops [] [
  ⟨(some 4), (.op (.mv (.k (.int .i64 0)))), none⟩])
  (.block 0
  (.loop
  (.seq
  (.seq
  (.ops [] [
  ⟨(some 5), (.op (.mv (.t 4))), none⟩,
  ⟨(some 6), (.op (.mv (.t 0))), none⟩,
  ⟨(some 7), (.op (.lenSl (.t 6))), none⟩,
  ⟨(some 8), (.op (.bin .lss (.t 5) (.t 7))), none⟩])
  (.cond (.t 8)
  .skip
  (.exit 0)))
  (.seq
  (.block 1
  (.ops [
  ⟨(some 11), (.op (.mv (.t 3))), none⟩,
  ⟨(some 12), (.op (.mv (.t 0))), none⟩,
  ⟨(some 13), (.op (.mv (.t 4))), none⟩,
  ⟨(some 14), (.op (.ixAddr 1 (.t 12) (.t 13))), none⟩,
  ⟨(some 15), (.op (.load1 (.t 14))), none⟩,
  ⟨(some 16), (.op (.bin .quo (.t 15) (.k (.int .u8 16)))), none⟩,
  ⟨(some 17), (.call (.k (.func (.func 42) #[] #[])) [(.t 16)]), none⟩,
  ⟨(some 18), (.op (.bin .add (.t 11) (.t 17))), none⟩,
  ⟨(some 19), (.op (.mv (.t 0))), none⟩,
  ⟨(some 20), (.op (.mv (.t 4))), none⟩,
  ⟨(some 21), (.op (.ixAddr 1 (.t 19) (.t 20))), none⟩,
  ⟨(some 22), (.op (.load1 (.t 21))), none⟩,
  ⟨(some 23), (.op (.bin .rem (.t 22) (.k (.int .u8 16)))), none⟩,
  ⟨(some 24), (.call (.k (.func (.func 42) #[] #[])) [(.t 23)]), none⟩] [
  ⟨(some 25), (.op (.bin .add (.t 18) (.t 24))), none⟩,
  ⟨(some 3), (.op (.mv (.t 25))), none⟩]))
  (.ops [] [
  ⟨(some 9), (.op (.mv (.t 4))), none⟩,
  ⟨(some 10), (.op (.bin .add (.t 9) (.k (.int .i64 1)))), none⟩,
  ⟨(some 4), (.op (.mv (.t 10))), none⟩]))))))
  (.seq
  (.ops [] [
  ⟨(some 26), (.op (.mv (.t 3))), none⟩,
  ⟨(some 2), (.op (.mv (.t 26))), none⟩])
  .ret)))),
  [(.t 2)]⟩
theorem r_lanyardref01_Hex : resolveFn Try.prog 23 = some c_lanyardref01_Hex := by kernel_rfl

def c_lanyardref01_digit : RFn :=
  ⟨7,
  (.seq
  (.ops [] [
  ⟨(some 2), (.op (.mv (.k (.string ⟨#[]⟩)))), none⟩])
  (.seq
  (.ops [] [
  ⟨(some 3), (.op (.mv (.t 0))), none⟩,
  ⟨(some 4), (.op (.mv (.t 0))), none⟩,
  ⟨(some 5), (.op (.bin .add (.t 4) (.k (.int .u8 1)))), none⟩,
  ⟨(some 6), (.op (.slStr (.k (.string ⟨#[48, 49, 50, 51, 52, 53, 54, 55, 56, 57, 97, 98, 99, 100, 101, 102]⟩)) (some (.t 3)) (some (.t 5)))), none⟩,
  ⟨(some 2), (.op (.mv (.t 6))), none⟩])
  .ret)),
  [(.t 2)]⟩
theorem r_lanyardref01_digit : resolveFn Try.prog 42 = some c_lanyardref01_digit := by kernel_rfl

def c_lanyardlaw01_OctetDigits : RFn :=
  ⟨50,
  (.seq
  (.ops [] [
  ⟨(some 4), (.op (.mv (.k (.bool false)))), none⟩])
  (.seq
  (.ops [] [
  ⟨(some 10), (.call (.k (.func (.func 13) #[] #[])) []), none⟩,
  ⟨(some 5), (.op (.mv (.t 10))), none⟩])
  (.seq
  (.seq
  (.ops [] [
  ⟨(some 11), (.op (.mv (.t 0))), none⟩,
  ⟨(some 12), (.op (.lenSl (.t 11))), none⟩,
  ⟨(some 13), (.op (.bin .gtr (.t 12) (.k (.int .i64 1000)))), none⟩,
  ⟨(some 14), (.op (.mv (.t 13))), none⟩,
  ⟨(some 15), (.op (.mv (.t 1))), (some (14, false))⟩,
  ⟨(some 16), (.op (.lenStr (.t 15))), (some (14, false))⟩,
  ⟨(some 17), (.op (.bin .gtr (.t 16) (.k (.int .i64 2000)))), (some (14, false))⟩,
  ⟨(some 18), (.op (.pick (.t 14) (.k (.bool true)) (.t 17))), none⟩])
  (.cond (.t 18)
  (.seq
  (.ops [] [
  ⟨(some 19), (.op (.mv (.t 5))), none⟩,
  ⟨(some 4), (.op (.mv (.t 19))), none⟩])
  .ret)
  .skip))
  (.seq
  (.ops [] [
  ⟨(some 21), (.op (.mv (.t 1))), none⟩,
  ⟨(some 22), (.call (.k (.func (.func 20) #[] #[])) [(.t 21)]), none⟩,
  ⟨(some 20), (.op (.mv (.t 22))), none⟩,
  ⟨(some 23), (.op (.extract (.t 20) 0)), none⟩,
  ⟨(some 24), (.op (.extract (.t 20) 1)), none⟩,
  ⟨(some 6), (.op (.mv (.t 23))), none⟩,
  ⟨(some 7), (.op (.mv (.t 24))), none⟩])
  (.seq
  (.ops [] [
  ⟨(some 26), (.op (.mv (.t 1))), none⟩,
  ⟨(some 27), (.call (.k (.func (.func 21) #[] #[])) [(.t 26)]), none⟩,
  ⟨(some 25), (.op (.mv (.t 27))), none⟩,
  ⟨(some 28), (.op (.extract (.t 25) 0)), none⟩,
  ⟨(some 29), (.op (.extract (.t 25) 1)), none⟩,
  ⟨(some 8), (.op (.mv (.t 28))), none⟩,
  ⟨(some 9), (.op (.mv (.t 29))), none⟩])
  (.seq
  (.ops [] [
  ⟨(some 30), (.op (.mv (.t 5))), none⟩,
  ⟨(some 31), (.op (.mv (.t 30))), none⟩,
  ⟨(some 32), (.op (.mv (.t 0))), (some (31, true))⟩,
  ⟨(some 33), (.call (.k (.func (.func 22) #[] #[])) [(.t 32)]), (some (31, true))⟩,
  ⟨(some 34), (.op (.mv (.t 0))), (some (31, true))⟩,
  ⟨(some 35), (.call (.k (.func (.func 23) #[] #[])) [(.t 34)]), (some (31, true))⟩,
  ⟨(some 36), (.op (.bin .eql (.t 33) (.t 35))), (some (31, true))⟩,
  ⟨(some 37), (.op (.pick (.t 31) (.t 36) (.k (.bool false)))), none⟩,
  ⟨(some 38), (.op (.mv (.t 37))), none⟩,
  ⟨(some 39), (.op (.mv (.t 6))), (some (38, true))⟩,
  ⟨(some 40), (.op (.b2s (.t 39))), (some (38, true))⟩,
  ⟨(some 41), (.op (.mv (.t 8))), (some (38, true))⟩,
  ⟨(some 42), (.op (.b2s (.t 41))), (some (38, true))⟩,
  ⟨(some 43), (.op (.bin .eql (.t 40) (.t 42))), (some (38, true))⟩,
  ⟨(some 44), (.op (.pick (.t 38) (.t 43) (.k (.bool false)))), none⟩,
  ⟨(some 45), (.op (.mv (.t 44))), none⟩,
  ⟨(some 46), (.op (.mv (.t 7))), (some (45, true))⟩,
  ⟨(some 47), (.op (.mv (.t 9))), (some (45, true))⟩,
  ⟨(some 48), (.op (.eqB false (.t 46) (.t 47))), (some (45, true))⟩,
  ⟨(some 49), (.op (.pick (.t 45) (.t 48) (.k (.bool false)))), none⟩,
  ⟨(some 4), (.op (.mv (.t 49))), none⟩])
  .ret)))))),
  [(.t 4)]⟩
theorem r_lanyardlaw01_OctetDigits : resolveFn Try.prog 4 = some c_lanyardlaw01_OctetDigits := by kernel_rfl

def c_octet_Cmp : RFn :=
  ⟨8,
  (.seq
  (.ops [] [
  ⟨(some 4), (.op (.mv (.k (.int .i64 0)))), none⟩])
  (.seq
  (.ops [] [
  ⟨(some 5), (.op (.mv (.t 0))), none⟩,
  ⟨(some 6), (.op (.mv (.t 1))), none⟩,
  ⟨(some 7), (.call (.k (.func (.func 43) #[] #[])) [(.t 5), (.t 6)]), none⟩,
  ⟨(some 4), (.op (.mv (.t 7))), none⟩])
  .ret)),
  [(.t 4)]⟩
theorem r_octet_Cmp : resolveFn Try.prog 24 = some c_octet_Cmp := by kernel_rfl

def c_lanyardref01_Cmp : RFn :=
  ⟨46,
  (.seq
  (.ops [] [
  ⟨(some 4), (.op (.mv (.k (.int .i64 0)))), none⟩])
  (.seq
  (.seq
  (.ops [] [
  ⟨(some 5), (.op (.mv (.k (.int .i64 0)))), none⟩])
  (.block 0
  (.loop
  (.seq
  (.seq
  (.ops [] [
  ⟨(some 6), (.op (.mv (.t 5))), none⟩,
  ⟨(some 7), (.op (.mv (.t 0))), none⟩,
  ⟨(some 8), (.op (.lenSl (.t 7))), none⟩,
  ⟨(some 9), (.op (.bin .lss (.t 6) (.t 8))), none⟩,
  ⟨(some 10), (.op (.mv (.t 9))), none⟩,
  ⟨(some 11), (.op (.mv (.t 5))), (some (10, true))⟩,
  ⟨(some 12), (.op (.mv (.t 1))), (some (10, true))⟩,
  ⟨(some 13), (.op (.lenSl (.t 12))), (some (10, true))⟩,
  ⟨(some 14), (.op (.bin .lss (.t 11) (.t 13))), (some (10, true))⟩,
  ⟨(some 15), (.op (.pick (.t 10) (.t 14) (.k (.bool false)))), none⟩])
  (.cond (.t 15)
  .skip
  (.exit 0)))
  (.seq
  (.block 1
  (.seq
  (.seq
  (.ops [
  ⟨(some 18), (.op (.mv (.t 0))), none⟩,
  ⟨(some 19), (.op (.mv (.t 5))), none⟩,
  ⟨(some 20), (.op (.ixAddr 1 (.t 18) (.t 19))), none⟩,
  ⟨(some 21), (.op (.load1 (.t 20))), none⟩,
  ⟨(some 22), (.op (.mv (.t 1))), none⟩,
  ⟨(some 23), (.op (.mv (.t 5))), none⟩,
  ⟨(some 24), (.op (.ixAddr 1 (.t 22) (.t 23))), none⟩,
  ⟨(some 25), (.op (.load1 (.t 24))), none⟩] [
  ⟨(some 26), (.op (.bin .lss (.t 21) (.t 25))), none⟩])
  (.cond (.t 26)
  (.seq
  (.ops [] [
  ⟨(some 4), (.op (.mv (.k (.int .i64 (-1))))), none⟩])
  .ret)
  .skip))
  (.seq
  (.ops [
  ⟨(some 27), (.op (.mv (.t 0))), none⟩,
  ⟨(some 28), (.op (.mv (.t 5))), none⟩,
  ⟨(some 29), (.op (.ixAddr 1 (.t 27) (.t 28))), none⟩,
  ⟨(some 30), (.op (.load1 (.t 29))), none⟩,
  ⟨(some 31), (.op (.mv (.t 1))), none⟩,
  ⟨(some 32), (.op (.mv (.t 5))), none⟩,
  ⟨(some 33), (.op (.ixAddr 1 (.t 31) (.t 32))), none⟩,
  ⟨(some 34), (.op (.load1 (.t 33))), none⟩] [
  ⟨(some 35), (.op (.bin .gtr (.t 30) (.t 34))), none⟩])
  (.cond (.t 35)
  (.seq
  (.ops [] [
  ⟨(some 4), (.op (.mv (.k (.int .i64 1)))), none⟩])
  .ret)
  .skip))))
  (.ops [] [
  ⟨(some 16), (.op (.mv (.t 5))), none⟩,
  ⟨(some 17), (.op (.bin .add (.t 16) (.k (.int .i64 1)))), none⟩,
  ⟨(some 5), (.op (.mv (.t 17))), none⟩]))))))
  (.seq
  (.seq
  (.ops [] [
  ⟨(some 36), (.op (.mv (.t 0))), none⟩,
  ⟨(some 37), (.op (.lenSl (.t 36))), none⟩,
  ⟨(some 38), (.op (.mv (.t 1))), none⟩,
  ⟨(some 39), (.op (.lenSl (.t 38))), none⟩,
  ⟨(some 40), (.op (.bin .lss (.t 37) (.t 39))), none⟩])
  (.cond (.t 40)
  (.seq
  (.ops [] [
  ⟨(some 4), (.op (.mv (.k (.int .i64 (-1))))), none⟩])
  .ret)
  .skip))
  (.seq
  (.seq
  (.ops [] [
  ⟨(some 41), (.op (.mv (.t 0))), none⟩,
  ⟨(some 42), (.op (.lenSl (.t 41))), none⟩,
  ⟨(some 43), (.op (.mv (.t 1))), none⟩,
  ⟨(some 44), (.op (.lenSl (.t 43))), none⟩,
  ⟨(some 45), (.op (.bin .gtr (.t 42) (.t 44))), none⟩])
  (.cond (.t 45)
  (.seq
  (.ops [] [
  ⟨(some 4), (.op (.mv (.k (.int .i64 1)))), none⟩])
  .ret)
  .skip))
  (.seq
  (.ops [] [
  ⟨(some 4), (.op (.mv (.k (.int .i64 0)))), none⟩])
  .ret))))),
  [(.t 4)]⟩
theorem r_lanyardref01_Cmp : resolveFn Try.prog 25 = some c_lanyardref01_Cmp := by kernel_rfl

def c_slices_Compare___byte_byte_ : RFn :=
  ⟨36,
  (.seq
  (.ops [] [
  ⟨(some 4), (.op (.mv (.k (.int .i64 0)))), none⟩])
  (.seq
  (.seq
  (.ops [] [
  ⟨(some 9), (.op (.mv (.t 0))), none⟩,
  ⟨(some 10), (.op (.lenSl (.t 9))), none⟩,
  ⟨(some 11), (.op (.mv (.k (.int .i64 0)))), none⟩])
  (.block 0
  (.loop
  (.seq
  (.ops [] [
  ⟨(some 12), (.op (.bin .lss (.t 11) (.t 10))), none⟩])
  (.seq
  (.cond (.t 12)
  .skip
  (.exit 0))
  (.seq
  (.block 1
  (.seq
  (.ops [] [
  ⟨(some 13), (.op (.mv (.t 11))), none⟩,
  ⟨(some 14), (.op (.ixAddr 1 (.t 9) (.t 11))), none⟩,
  ⟨(some 15), (.op (.load1 (.t 14))), none⟩,
  ⟨(some 5), (.op (.mv (.t 13))), none⟩,
  ⟨(some 6), (.op (.mv (.t 15))), none⟩])
  (.seq
  (.seq
  (.ops [] [
  ⟨(some 16), (.op (.mv (.t 5))), none⟩,
  ⟨(some 17), (.op (.mv (.t 1))), none⟩,
  ⟨(some 18), (.op (.lenSl (.t 17))), none⟩,
  ⟨(some 19), (.op (.bin .geq (.t 16) (.t 18))), none⟩])
  (.cond (.t 19)
  (.seq
  (.ops [] [
  ⟨(some 4), (.op (.mv (.k (.int .i64 1)))), none⟩])
  .ret)
  .skip))
  (.seq
  (.ops [] [
  ⟨(some 20), (.op (.mv (.t 1))), none⟩,
  ⟨(some 21), (.op (.mv (.t 5))), none⟩,
  ⟨(some 22), (.op (.ixAddr 1 (.t 20) (.t 21))), none⟩,
  ⟨(some 23), (.op (.load1 (.t 22))), none⟩,
  ⟨(some 7), (.op (.mv (.t 23))), none⟩])
  (.seq
  (.ops [] [
  ⟨(some 24), (.op (.mv (.t 6))), none⟩,
  ⟨(some 25), (.op (.mv (.t 7))), none⟩,
  ⟨(some 26), (.call (.k (.func (.func 53) #[] #[])) [(.t 24), (.t 25)]), none⟩,
  ⟨(some 8), (.op (.mv (.t 26))), none⟩])
  (.seq
  (.ops [] [
  ⟨(some 27), (.op (.mv (.t 8))), none⟩,
  ⟨(some 28), (.op (.bin .neq (.t 27) (.k (.int .i64 0)))), none⟩])
  (.cond (.t 28)
  (.seq
  (.ops [] [
  ⟨(some 29), (.op (.mv (.t 8))), none⟩,
  ⟨(some 4), (.op (.mv (.t 29))), none⟩])
  .ret)
  .skip)))))))
  (.ops [] [
  ⟨(some 30), (.op (.bin .add (.t 11) (.k (.int .i64 1)))), none⟩,
  ⟨(some 11), (.op (.mv (.t 30))), none⟩])))))))
  (.seq
  (.seq
  (.ops [] [
  ⟨(some 31), (.op (.mv (.t 0))), none⟩,
  ⟨(some 32), (.op (.lenSl (.t 31))), none⟩,
  ⟨(some 33), (.op (.mv (.t 1))), none⟩,
  ⟨(some 34), (.op (.lenSl (.t 33))), none⟩,
  ⟨(some 35), (.op (.bin .lss (.t 32) (.t 34))), none⟩])
  (.cond (.t 35)
  (.seq
  (.ops [] [
  ⟨(some 4), (.op (.mv (.k (.int .i64 (-1))))), none⟩])
  .ret)
  .skip))
  (.seq
  (.ops [] [
  ⟨(some 4), (.op (.mv (.k (.int .i64 0)))), none⟩])
  .ret)))),
  [(.t 4)]⟩
theorem r_slices_Compare___byte_byte_ : resolveFn Try.prog 43 = some c_slices_Compare___byte_byte_ := by kernel_rfl

def c_cmp_Compare_byte_ : RFn :=
  ⟨20,
  (.seq
  (.ops [] [
  ⟨(some 4), (.op (.mv (.k (.int .i64 0)))), none⟩])
  (.seq
  (.ops [] [
  ⟨(some 7), (.op (.mv (.t 0))), none⟩,
  ⟨(some 8), (.call (.k (.func (.func 55) #[] #[])) [(.t 7)]), none⟩,
  ⟨(some 5), (.op (.mv (.t 8))), none⟩])
  (.seq
  (.ops [] [
  ⟨(some 9), (.op (.mv (.t 1))), none⟩,
  ⟨(some 10), (.call (.k (.func (.func 55) #[] #[])) [(.t 9)]), none⟩,
  ⟨(some 6), (.op (.mv (.t 10))), none⟩])
  (.seq
  (.seq
  (.ops [] [
  ⟨(some 11), (.op (.mv (.t 5))), none⟩])
  (.cond (.t 11)
  (.seq
  (.seq
  (.ops [] [
  ⟨(some 12), (.op (.mv (.t 6))), none⟩])
  (.cond (.t 12)
  (.seq
  (.ops [] [
  ⟨(some 4), (.op (.mv (.k (.int .i64 0)))), none⟩])
  .ret)
  .skip))
  (.seq
  (.ops [] [
  ⟨(some 4), (.op (.mv (.k (.int .i64 (-1))))), none⟩])
  .ret))
  .skip))
  (.seq
  (.seq
  (.ops [] [
  ⟨(some 13), (.op (.mv (.t 6))), none⟩])
  (.cond (.t 13)
  (.seq
  (.ops [] [
  ⟨(some 4), (.op (.mv (.k (.int .i64 1)))), none⟩])
  .ret)
  .skip))
  (.seq
  (.seq
  (.ops [] [
  ⟨(some 14), (.op (.mv (.t 0))), none⟩,
  ⟨(some 15), (.op (.mv (.t 1))), none⟩,
  ⟨(some 16), (.op (.bin .lss (.t 14) (.t 15))), none⟩])
  (.cond (.t 16)
  (.seq
  (.ops [] [
  ⟨(some 4), (.op (.mv (.k (.int .i64 (-1))))), none⟩])
  .ret)
  .skip))
  (.seq
  (.seq
  (.ops [] [
  ⟨(some 17), (.op (.mv (.t 0))), none⟩,
  ⟨(some 18), (.op (.mv (.t 1))), none⟩,
  ⟨(some 19), (.op (.bin .gtr (.t 17) (.t 18))), none⟩])
  (.cond (.t 19)
  (.seq
  (.ops [] [
  ⟨(some 4), (.op (.mv (.k (.int .i64 1)))), none⟩])
  .ret)
  .skip))
  (.seq
  (.ops [] [
  ⟨(some 4), (.op (.mv (.k (.int .i64 0)))), none⟩])
  .ret)))))))),
  [(.t 4)]⟩
theorem r_cmp_Compare_byte_ : resolveFn Try.prog 53 = some c_cmp_Compare_byte_ := by kernel_rfl

def c_cmp_isNaN_byte_ : RFn :=
  ⟨6,
  (.seq
  (.ops [] [
  ⟨(some 2), (.op (.mv (.k (.bool false)))), none⟩])
  (.seq
  (.ops [] [
  ⟨(some 3), (.op (.mv (.t 0))), none⟩,
  ⟨(some 4), (.op (.mv (.t 0))), none⟩,
  ⟨(some 5), (.op (.bin .neq (.t 3) (.t 4))), none⟩,
  ⟨(some 2), (.op (.mv (.t 5))), none⟩])
  .ret)),
  [(.t 2)]⟩
theorem r_cmp_isNaN_byte_ : resolveFn Try.prog 55 = some c_cmp_isNaN_byte_ := by kernel_rfl

def c_lanyardlaw01_OctetOrders : RFn :=
  ⟨26,
  (.seq
  (.ops [] [
  ⟨(some 4), (.op (.mv (.k (.bool false)))), none⟩])
  (.seq
  (.ops [] [
  ⟨(some 6), (.call (.k (.func (.func 13) #[] #[])) []), none⟩,
  ⟨(some 5), (.op (.mv (.t 6))), none⟩])
  (.seq
  (.seq
  (.ops [] [
  ⟨(some 7), (.op (.mv (.t 0))), none⟩,
  ⟨(some 8), (.op (.lenSl (.t 7))), none⟩,
  ⟨(some 9), (.op (.bin .gtr (.t 8) (.k (.int .i64 1000)))), none⟩,
  ⟨(some 10), (.op (.mv (.t 9))), none⟩,
  ⟨(some 11), (.op (.mv (.t 1))), (some (10, false))⟩,
  ⟨(some 12), (.op (.lenSl (.t 11))), (some (10, false))⟩,
  ⟨(some 13), (.op (.bin .gtr (.t 12) (.k (.int .i64 1000)))), (some (10, false))⟩,
  ⟨(some 14), (.op (.pick (.t 10) (.k (.bool true)) (.t 13))), none⟩])
  (.cond (.t 14)
  (.seq
  (.ops [] [
  ⟨(some 15), (.op (.mv (.t 5))), none⟩,
  ⟨(some 4), (.op (.mv (.t 15))), none⟩])
  .ret)
  .skip))
  (.seq
  (.ops [] [
  ⟨(some 16), (.op (.mv (.t 5))), none⟩,
  ⟨(some 17), (.op (.mv (.t 16))), none⟩,
  ⟨(some 18), (.op (.mv (.t 0))), (some (17, true))⟩,
  ⟨(some 19), (.op (.mv (.t 1))), (some (17, true))⟩,
  ⟨(some 20), (.call (.k (.func (.func 24) #[] #[])) [(.t 18), (.t 19)]), (some (17, true))⟩,
  ⟨(some 21), (.op (.mv (.t 0))), (some (17, true))⟩,
  ⟨(some 22), (.op (.mv (.t 1))), (some (17, true))⟩,
  ⟨(some 23), (.call (.k (.func (.func 25) #[] #[])) [(.t 21), (.t 22)]), (some (17, true))⟩,
  ⟨(some 24), (.op (.bin .eql (.t 20) (.t 23))), (some (17, true))⟩,
  ⟨(some 25), (.op (.pick (.t 17) (.t 24) (.k (.bool false)))), none⟩,
  ⟨(some 4), (.op (.mv (.t 25))), none⟩])
  .ret)))),
  [(.t 4)]⟩
theorem r_lanyardlaw01_OctetOrders : resolveFn Try.prog 6 = some c_lanyardlaw01_OctetOrders := by kernel_rfl

def c_lanyardlaw01_OctetBack : RFn :=
  ⟨90,
  (.seq
  (.ops [] [
  ⟨(some 6), (.op (.mv (.k (.bool false)))), none⟩])
  (.seq
  (.ops [] [
  ⟨(some 15), (.call (.k (.func (.func 13) #[] #[])) []), none⟩,
  ⟨(some 7), (.op (.mv (.t 15))), none⟩])
  (.seq
  (.seq
  (.ops [] [
  ⟨(some 16), (.op (.mv (.t 0))), none⟩,
  ⟨(some 17), (.op (.lenSl (.t 16))), none⟩,
  ⟨(some 18), (.op (.bin .gtr (.t 17) (.k (.int .i64 1000)))), none⟩,
  ⟨(some 19), (.op (.mv (.t 18))), none⟩,
  ⟨(some 20), (.op (.mv (.t 1))), (some (19, false))⟩,
  ⟨(some 21), (.op (.lenStr (.t 20))), (some (19, false))⟩,
  ⟨(some 22), (.op (.bin .gtr (.t 21) (.k (.int .i64 1000)))), (some (19, false))⟩,
  ⟨(some 23), (.op (.pick (.t 19) (.k (.bool true)) (.t 22))), none⟩])
  (.cond (.t 23)
  (.seq
  (.ops [] [
  ⟨(some 24), (.op (.mv (.t 7))), none⟩,
  ⟨(some 6), (.op (.mv (.t 24))), none⟩])
  .ret)
  .skip))
  (.seq
  (.ops [] [
  ⟨(some 26), (.op (.mv (.t 0))), none⟩,
  ⟨(some 27), (.call (.k (.func (.func 22) #[] #[])) [(.t 26)]), none⟩,
  ⟨(some 28), (.call (.k (.func (.func 20) #[] #[])) [(.t 27)]), none⟩,
  ⟨(some 25), (.op (.mv (.t 28))), none⟩,
  ⟨(some 29), (.op (.extract (.t 25) 0)), none⟩,
  ⟨(some 30), (.op (.extract (.t 25) 1)), none⟩,
  ⟨(some 8), (.op (.mv (.t 29))), none⟩,
  ⟨(some 9), (.op (.mv (.t 30))), none⟩])
  (.seq
  (.ops [] [
  ⟨(some 32), (.op (.mv (.t 1))), none⟩,
  ⟨(some 33), (.call (.k (.func (.func 20) #[] #[])) [(.t 32)]), none⟩,
  ⟨(some 31), (.op (.mv (.t 33))), none⟩,
  ⟨(some 34), (.op (.extract (.t 31) 0)), none⟩,
  ⟨(some 35), (.op (.extract (.t 31) 1)), none⟩,
  ⟨(some 10), (.op (.mv (.t 34))), none⟩,
  ⟨(some 11), (.op (.mv (.t 35))), none⟩])
  (.seq
  (.ops [] [
  ⟨(some 36), (.op (.mv (.t 2))), none⟩,
  ⟨(some 37), (.call (.k (.func (.func 18) #[] #[])) [(.t 36)]), none⟩,
  ⟨(some 12), (.op (.mv (.t 37))), none⟩])
  (.seq
  (.ops [] [
  ⟨(some 39), (.op (.mv (.t 12))), none⟩,
  ⟨(some 40), (.call (.k (.func (.func 14) #[] #[])) [(.t 39)]), none⟩,
  ⟨(some 38), (.op (.mv (.t 40))), none⟩,
  ⟨(some 41), (.op (.extract (.t 38) 0)), none⟩,
  ⟨(some 42), (.op (.extract (.t 38) 1)), none⟩,
  ⟨(some 13), (.op (.mv (.t 41))), none⟩,
  ⟨(some 14), (.op (.mv (.t 42))), none⟩])
  (.seq
  (.seq
  (.ops [] [
  ⟨(some 43), (.op (.mv (.t 11))), none⟩,
  ⟨(some 44), (.op (.mv (.t 43))), none⟩,
  ⟨(some 45), (.op (.mv (.t 10))), (some (44, true))⟩,
  ⟨(some 46), (.call (.k (.func (.func 22) #[] #[])) [(.t 45)]), (some (44, true))⟩,
  ⟨(some 47), (.op (.mv (.t 1))), (some (44, true))⟩,
  ⟨(some 48), (.op (.bin .neq (.t 46) (.t 47))), (some (44, true))⟩,
  ⟨(some 49), (.op (.pick (.t 44) (.t 48) (.k (.bool false)))), none⟩])
  (.cond (.t 49)
  (.seq
  (.ops [] [
  ⟨(some 6), (.op (.mv (.k (.bool false)))), none⟩])
  .ret)
  .skip))
  (.seq
  (.ops [] [
  ⟨(some 50), (.op (.mv (.t 7))), none⟩,
  ⟨(some 51), (.op (.mv (.t 50))), none⟩,
  ⟨(some 52), (.op (.mv (.t 9))), (some (51, true))⟩,
  ⟨(some 53), (.op (.pick (.t 51) (.t 52) (.k (.bool false)))), none⟩,
  ⟨(some 54), (.op (.mv (.t 53))), none⟩,
  ⟨(some 55), (.op (.mv (.t 8))), (some (54, true))⟩,
  ⟨(some 56), (.op (.b2s (.t 55))), (some (54, true))⟩,
  ⟨(some 57), (.op (.mv (.t 0))), (some (54, true))⟩,
  ⟨(some 58), (.op (.b2s (.t 57))), (some (54, true))⟩,
  ⟨(some 59), (.op (.bin .eql (.t 56) (.t 58))), (some (54, true))⟩,
  ⟨(some 60), (.op (.pick (.t 54) (.t 59) (.k (.bool false)))), none⟩,
  ⟨(some 61), (.op (.mv (.t 60))), none⟩,
  ⟨(some 62), (.op (.mv (.t 13))), (some (61, true))⟩,
  ⟨(some 63), (.op (.mv (.t 2))), (some (61, true))⟩,
  ⟨(some 64), (.op (.bin .eql (.t 62) (.t 63))), (some (61, true))⟩,
  ⟨(some 65), (.op (.pick (.t 61) (.t 64) (.k (.bool false)))), none⟩,
  ⟨(some 66), (.op (.mv (.t 65))), none⟩,
  ⟨(some 67), (.op (.mv (.t 14))), (some (66, true))⟩,
  ⟨(some 68), (.op (.pick (.t 66) (.t 67) (.k (.bool false)))), none⟩,
  ⟨(some 69), (.op (.mv (.t 68))), none⟩,
  ⟨(some 70), (.op (.mv (.t 12))), (some (69, true))⟩,
  ⟨(some 71), (.op (.lenSl (.t 70))), (some (69, true))⟩,
  ⟨(some 72), (.op (.bin .geq (.t 71) (.k (.int .i64 1)))), (some (69, true))⟩,
  ⟨(some 73), (.op (.pick (.t 69) (.t 72) (.k (.bool false)))), none⟩,
  ⟨(some 74), (.op (.mv (.t 73))), none⟩,
  ⟨(some 75), (.op (.mv (.t 12))), (some (74, true))⟩,
  ⟨(some 76), (.op (.lenSl (.t 75))), (some (74, true))⟩,
  ⟨(some 77), (.op (.bin .leq (.t 76) (.k (.int .i64 8)))), (some (74, true))⟩,
  ⟨(some 78), (.op (.pick (.t 74) (.t 77) (.k (.bool false)))), none⟩,
  ⟨(some 79), (.op (.mv (.t 78))), none⟩,
  ⟨(some 80), (.op (.mv (.t 12))), (some (79, true))⟩,
  ⟨(some 81), (.op (.lenSl (.t 80))), (some (79, true))⟩,
  ⟨(some 82), (.op (.bin .eql (.t 81) (.k (.int .i64 1)))), (some (79, true))⟩,
  ⟨(some 83), (.op (.mv (.t 82))), (some (79, true))⟩,
  ⟨(some 84), (.op (.mv (.t 12))), (some (83, false))⟩,
  ⟨(some 85), (.op (.ixAddr 1 (.t 84) (.k (.int .i64 0)))), (some (83, false))⟩,
  ⟨(some 86), (.op (.load1 (.t 85))), (some (83, false))⟩,
  ⟨(some 87), (.op (.bin .neq (.t 86) (.k (.int .u8 0)))), (some (83, false))⟩,
  ⟨(some 88), (.op (.pick (.t 83) (.k (.bool true)) (.t 87))), (some (79, true))⟩,
  ⟨(some 89), (.op (.pick (.t 79) (.t 88) (.k (.bool false)))), none⟩,
  ⟨(some 6), (.op (.mv (.t 89))), none⟩])
  .ret))))))))),
  [(.t 6)]⟩
theorem r_lanyardlaw01_OctetBack : resolveFn Try.prog 5 = some c_lanyardlaw01_OctetBack := by kernel_rfl

def c_lanyardlaw01_OctetSame : RFn :=
  ⟨73,
  (.seq
  (.ops [] [
  ⟨(some 6), (.op (.mv (.k (.bool false)))), none⟩])
  (.seq
  (.ops [] [
  ⟨(some 13), (.call (.k (.func (.func 13) #[] #[])) []), none⟩,
  ⟨(some 7), (.op (.mv (.t 13))), none⟩])
  (.seq
  (.ops [] [
  ⟨(some 15), (.op (.mv (.t 0))), none⟩,
  ⟨(some 16), (.op (.mv (.t 2))), none⟩,
  ⟨(some 17), (.call (.k (.func (.func 16) #[] #[])) [(.t 15), (.t 16)]), none⟩,
  ⟨(some 14), (.op (.mv (.t 17))), none⟩,
  ⟨(some 18), (.op (.extract (.t 14) 0)), none⟩,
  ⟨(some 19), (.op (.extract (.t 14) 1)), none⟩,
  ⟨(some 8), (.op (.mv (.t 18))), none⟩,
  ⟨(some 9), (.op (.mv (.t 19))), none⟩])
  (.seq
  (.ops [] [
  ⟨(some 21), (.op (.mv (.t 1))), none⟩,
  ⟨(some 22), (.op (.mv (.t 2))), none⟩,
  ⟨(some 23), (.call (.k (.func (.func 16) #[] #[])) [(.t 21), (.t 22)]), none⟩,
  ⟨(some 20), (.op (.mv (.t 23))), none⟩,
  ⟨(some 24), (.op (.extract (.t 20) 0)), none⟩,
  ⟨(some 25), (.op (.extract (.t 20) 1)), none⟩,
  ⟨(some 10), (.op (.mv (.t 24))), none⟩,
  ⟨(some 11), (.op (.mv (.t 25))), none⟩])
  (.seq
  (.seq
  (.ops [] [
  ⟨(some 26), (.op (.mv (.t 9))), none⟩,
  ⟨(some 27), (.op (.un .not (.t 26))), none⟩,
  ⟨(some 28), (.op (.mv (.t 27))), none⟩,
  ⟨(some 29), (.op (.mv (.t 11))), (some (28, false))⟩,
  ⟨(some 30), (.op (.un .not (.t 29))), (some (28, false))⟩,
  ⟨(some 31), (.op (.pick (.t 28) (.k (.bool true)) (.t 30))), none⟩])
  (.cond (.t 31)
  (.seq
  (.ops [] [
  ⟨(some 32), (.op (.mv (.t 7))), none⟩,
  ⟨(some 6), (.op (.mv (.t 32))), none⟩])
  .ret)
  .skip))
  (.seq
  (.ops [] [
  ⟨(some 33), (.op (.mv (.t 8))), none⟩,
  ⟨(some 34), (.op (.mv (.t 10))), none⟩,
  ⟨(some 35), (.call (.k (.func (.func 24) #[] #[])) [(.t 33), (.t 34)]), none⟩,
  ⟨(some 12), (.op (.mv (.t 35))), none⟩])
  (.seq
  (.ops [] [
  ⟨(some 36), (.op (.mv (.t 7))), none⟩,
  ⟨(some 37), (.op (.mv (.t 36))), none⟩,
  ⟨(some 38), (.op (.mv (.t 8))), (some (37, true))⟩,
  ⟨(some 39), (.op (.lenSl (.t 38))), (some (37, true))⟩,
  ⟨(some 40), (.op (.mv (.t 2))), (some (37, true))⟩,
  ⟨(some 41), (.op (.bin .eql (.t 39) (.t 40))), (some (37, true))⟩,
  ⟨(some 42), (.op (.pick (.t 37) (.t 41) (.k (.bool false)))), none⟩,
  ⟨(some 43), (.op (.mv (.t 42))), none⟩,
  ⟨(some 44), (.op (.mv (.t 10))), (some (43, true))⟩,
  ⟨(some 45), (.op (.lenSl (.t 44))), (some (43, true))⟩,
  ⟨(some 46), (.op (.mv (.t 2))), (some (43, true))⟩,
  ⟨(some 47), (.op (.bin .eql (.t 45) (.t 46))), (some (43, true))⟩,
  ⟨(some 48), (.op (.pick (.t 43) (.t 47) (.k (.bool false)))), none⟩,
  ⟨(some 49), (.op (.mv (.t 48))), none⟩,
  ⟨(some 50), (.op (.mv (.t 12))), (some (49, true))⟩,
  ⟨(some 51), (.op (.bin .lss (.t 50) (.k (.int .i64 0)))), (some (49, true))⟩,
  ⟨(some 52), (.op (.mv (.t 0))), (some (49, true))⟩,
  ⟨(some 53), (.op (.mv (.t 1))), (some (49, true))⟩,
  ⟨(some 54), (.op (.bin .lss (.t 52) (.t 53))), (some (49, true))⟩,
  ⟨(some 55), (.op (.eqB false (.t 51) (.t 54))), (some (49, true))⟩,
  ⟨(some 56), (.op (.pick (.t 49) (.t 55) (.k (.bool false)))), none⟩,
  ⟨(some 57), (.op (.mv (.t 56))), none⟩,
  ⟨(some 58), (.op (.mv (.t 12))), (some (57, true))⟩,
  ⟨(some 59), (.op (.bin .eql (.t 58) (.k (.int .i64 0)))), (some (57, true))⟩,
  ⟨(some 60), (.op (.mv (.t 0))), (some (57, true))⟩,
  ⟨(some 61), (.op (.mv (.t 1))), (some (57, true))⟩,
  ⟨(some 62), (.op (.bin .eql (.t 60) (.t 61))), (some (57, true))⟩,
  ⟨(some 63), (.op (.eqB false (.t 59) (.t 62))), (some (57, true))⟩,
  ⟨(some 64), (.op (.pick (.t 57) (.t 63) (.k (.bool false)))), none⟩,
  ⟨(some 65), (.op (.mv (.t 64))), none⟩,
  ⟨(some 66), (.op (.mv (.t 10))), (some (65, true))⟩,
  ⟨(some 67), (.op (.mv (.t 8))), (some (65, true))⟩,
  ⟨(some 68), (.call (.k (.func (.func 24) #[] #[])) [(.t 66), (.t 67)]), (some (65, true))⟩,
  ⟨(some 69), (.op (.mv (.t 12))), (some (65, true))⟩,
  ⟨(some 70), (.op (.un .neg (.t 69))), (some (65, true))⟩,
  ⟨(some 71), (.op (.bin .eql (.t 68) (.t 70))), (some (65, true))⟩,
  ⟨(some 72), (.op (.pick (.t 65) (.t 71) (.k (.bool false)))), none⟩,
  ⟨(some 6), (.op (.mv (.t 72))), none⟩])
  .ret))))))),
  [(.t 6)]⟩
theorem r_lanyardlaw01_OctetSame : resolveFn Try.prog 7 = some c_lanyardlaw01_OctetSame := by kernel_rfl

end Go.Ga

namespace Go.Ga
open Go Go.Proofs
set_option linter.unusedSimpArgs false
set_option linter.unusedVariables false

def cmpB (a b : Nat) : Int := if a < b then -1 else if b < a then 1 else 0
theorem cmpB_lt {a b : Nat} (h : a < b) : cmpB a b = -1 := by simp [cmpB, h]
theorem cmpB_gt {a b : Nat} (h : b < a) : cmpB a b = 1 := by simp [cmpB, h]; omega
theorem cmpB_eq {a b : Nat} (h : a = b) : cmpB a b = 0 := by simp [cmpB, h]
def cmpL : List UInt8 → List UInt8 → Int
  | [], [] => 0
  | [], _ :: _ => -1
  | _ :: _, [] => 1
  | a :: l, b :: l' => if cmpB a.toNat b.toNat ≠ 0 then cmpB a.toNat b.toNat else cmpL l l'

theorem ct_isNaN {nx : Nat} {gt : Nat → Option Blk} {a : Nat} : Ct Try.prog 55 [.int .u8 (a : Nat)] nx gt fun v _ _ => v = .bool false := by
  refine Ct.of hmx r_cmp_isNaN_byte_ (by simp [c_cmp_isNaN_byte_]) fun b hb => ?_
  simp only [c_cmp_isNaN_byte_, ↓gaW, ↓gaC, ↓gaN, gaP, Nat.reduceEqDiff, Nat.reduceLeDiff, Nat.reduceAdd, Nat.reduceSub, Nat.reduceMul, Int.reduceLT, Int.reduceLE, Int.reduceEq, Int.reduceToNat, Int.reduceAdd, Int.reduceSub, Int.reduceMul, reduceCtorEq, ↓reduceIte, gaE]
  exact ⟨by omega, fun _ _ => trivial⟩

theorem ct_cmpCompare {nx : Nat} {gt : Nat → Option Blk} {x y : Nat} : Ct Try.prog 53 [.int .u8 (x : Nat), .int .u8 (y : Nat)] nx gt fun v _ _ => v = .int .i64 (cmpB x y) := by
  refine Ct.of hmx r_cmp_Compare_byte_ (by simp [c_cmp_Compare_byte_]) fun b hb => ?_
  simp only [c_cmp_Compare_byte_, ↓gaW, ↓gaC, ↓gaN, gaP, Nat.reduceEqDiff, Nat.reduceLeDiff, Nat.reduceAdd, Nat.reduceSub, Nat.reduceMul, Int.reduceLT, Int.reduceLE, Int.reduceEq, Int.reduceToNat, Int.reduceAdd, Int.reduceSub, Int.reduceMul, reduceCtorEq, ↓reduceIte]
  refine callK_of ct_isNaN (fun v nx1 gt1 hle1 hk1 hC => ?_) (by omega)
  subst hC
  simp only [↓gaW, ↓gaC, ↓gaN, gaP, Nat.reduceEqDiff, Nat.reduceLeDiff, Nat.reduceAdd, Nat.reduceSub, Nat.reduceMul, Int.reduceLT, Int.reduceLE, Int.reduceEq, Int.reduceToNat, Int.reduceAdd, Int.reduceSub, Int.reduceMul, reduceCtorEq, ↓reduceIte]
  refine callK_of ct_isNaN (fun v nx2 gt2 hle2 hk2 hC => ?_) (by omega)
  subst hC
  simp only [↓gaW, ↓gaC, ↓gaN, gaP, Nat.reduceEqDiff, Nat.reduceLeDiff, Nat.reduceAdd, Nat.reduceSub, Nat.reduceMul, Int.reduceLT, Int.reduceLE, Int.reduceEq, Int.reduceToNat, Int.reduceAdd, Int.reduceSub, Int.reduceMul, reduceCtorEq, ↓reduceIte]
  have hk : ∀ i, i < nx → gt2 i = gt i := fun i hi => by rw [hk2 i (by omega), hk1 i hi]
  refine condK_dec (fun h => ?_) fun h => ?_
  · simp only [↓gaW, ↓gaC, ↓gaN, gaP, Nat.reduceEqDiff, Nat.reduceLeDiff, Nat.reduceAdd, Nat.reduceSub, Nat.reduceMul, Int.reduceLT, Int.reduceLE, Int.reduceEq, Int.reduceToNat, Int.reduceAdd, Int.reduceSub, Int.reduceMul, reduceCtorEq, ↓reduceIte, gaE]
    exact ⟨by omega, hk, by simp [cmpB]; omega⟩
  · simp only [↓gaW, ↓gaC, ↓gaN, gaP, Nat.reduceEqDiff, Nat.reduceLeDiff, Nat.reduceAdd, Nat.reduceSub, Nat.reduceMul, Int.reduceLT, Int.reduceLE, Int.reduceEq, Int.reduceToNat, Int.reduceAdd, Int.reduceSub, Int.reduceMul, reduceCtorEq, ↓reduceIte]
    refine condK_dec (fun h' => ?_) fun h' => ?_
    · simp only [↓gaW, ↓gaC, ↓gaN, gaP, Nat.reduceEqDiff, Nat.reduceLeDiff, Nat.reduceAdd, Nat.reduceSub, Nat.reduceMul, Int.reduceLT, Int.reduceLE, Int.reduceEq, Int.reduceToNat, Int.reduceAdd, Int.reduceSub, Int.reduceMul, reduceCtorEq, ↓reduceIte, gaE]
      exact ⟨by omega, hk, by simp [cmpB]; omega⟩
    · simp only [↓gaW, ↓gaC, ↓gaN, gaP, Nat.reduceEqDiff, Nat.reduceLeDiff, Nat.reduceAdd, Nat.reduceSub, Nat.reduceMul, Int.reduceLT, Int.reduceLE, Int.reduceEq, Int.reduceToNat, Int.reduceAdd, Int.reduceSub, Int.reduceMul, reduceCtorEq, ↓reduceIte, gaE]
      exact ⟨by omega, hk, by simp [cmpB]; omega⟩

theorem ct_slicesCompare {nx : Nat} {gt : Nat → Option Blk} {A B : Option Addr} {n c n' c' : Nat} {l l' : List UInt8} (hr : Row nx gt 1 A n (l.map u8V)) (hr' : Row nx gt 1 B n' (l'.map u8V)) (hn : n < 1000000) :
    Ct Try.prog 43 [.slice A n c, .slice B n' c'] nx gt fun v _ _ => v = .int .i64 (cmpL l l') := by
  refine Ct.of hmx r_slices_Compare___byte_byte_ (by simp [c_slices_Compare___byte_byte_]) fun b hb => ?_
  have hlen : l.length = n := by simpa using hr.len
  have hlen' : l'.length = n' := by simpa using hr'.len
  simp only [c_slices_Compare___byte_byte_, ↓gaW, ↓gaC, ↓gaN, gaP, Nat.reduceEqDiff, Nat.reduceLeDiff, Nat.reduceAdd, Nat.reduceSub, Nat.reduceMul, Int.reduceLT, Int.reduceLE, Int.reduceEq, Int.reduceToNat, Int.reduceAdd, Int.reduceSub, Int.reduceMul, reduceCtorEq, ↓reduceIte]
  refine loop_of (fun j f m => ∃ (i x : Nat) (g : Nat → Option Blk), j = n - i ∧ i ≤ n ∧ i ≤ n' ∧ f 0 = .slice A n c ∧ f 1 = .slice B n' c' ∧ f 9 = .slice A n c ∧ f 10 = .int .i64 (n : Nat) ∧ f 11 = .int .i64 (i : Nat) ∧ m = ⟨x, b, g⟩ ∧ nx ≤ x ∧ (∀ i, i < nx → g i = gt i) ∧ cmpL (l.drop i) (l'.drop i) = cmpL l l') n
    ⟨0, nx, gt, by omega, by omega, by omega, rfl, rfl, rfl, rfl, rfl, rfl, by omega, fun _ _ => rfl, rfl⟩ ?_
  rintro j f m ⟨i, x, g, rfl, hi, hi', h0, h1, h9, h10, h11, rfl, hx, hg, hv⟩
  simp only [↓gaW, ↓gaC, ↓gaN, gaP, Nat.reduceEqDiff, Nat.reduceLeDiff, Nat.reduceAdd, Nat.reduceSub, Nat.reduceMul, Int.reduceLT, Int.reduceLE, Int.reduceEq, Int.reduceToNat, Int.reduceAdd, Int.reduceSub, Int.reduceMul, reduceCtorEq, ↓reduceIte, h10, h11]
  refine condK_dec (fun hlt => ?_) fun hge => ?_
  · have hik : i < n := by omega
    obtain ⟨a, ce, ro, rfl, e2, e3, e4, e5⟩ := hr.cells (by omega)
    have e5' := e5 i hik
    rw [getD_u8 (by omega)] at e5'
    have e3' : g a.block = some (.cells ce ro) := by rw [hg _ e2, e3]
    have hd := drop_getD (l := l) (i := i) (by omega)
    simp only [↓gaW, ↓gaC, ↓gaN, gaP, Nat.reduceEqDiff, Nat.reduceLeDiff, Nat.reduceAdd, Nat.reduceSub, Nat.reduceMul, Int.reduceLT, Int.reduceLE, Int.reduceEq, Int.reduceToNat, Int.reduceAdd, Int.reduceSub, Int.reduceMul, reduceCtorEq, ↓reduceIte, h0, h1, h9, h10, h11, e3', e5']
    repeat refine And.intro (by omega) ?_
    refine condK_dec (fun hbig => ?_) fun hsm => ?_
    · simp only [↓gaW, ↓gaC, ↓gaN, gaP, Nat.reduceEqDiff, Nat.reduceLeDiff, Nat.reduceAdd, Nat.reduceSub, Nat.reduceMul, Int.reduceLT, Int.reduceLE, Int.reduceEq, Int.reduceToNat, Int.reduceAdd, Int.reduceSub, Int.reduceMul, reduceCtorEq, ↓reduceIte, gaE]
      rw [hd, List.drop_of_length_le (l := l') (by omega)] at hv
      exact ⟨by omega, hg, by rw [← hv]; rfl⟩
    · obtain ⟨a', ce', ro', rfl, k2, k3, k4, k5⟩ := hr'.cells (by omega)
      have k5' := k5 i (by omega)
      rw [getD_u8 (by omega)] at k5'
      have k3' : g a'.block = some (.cells ce' ro') := by rw [hg _ k2, k3]
      have hd' := drop_getD (l := l') (i := i) (by omega)
      rw [hd, hd', cmpL] at hv
      simp only [↓gaW, ↓gaC, ↓gaN, gaP, Nat.reduceEqDiff, Nat.reduceLeDiff, Nat.reduceAdd, Nat.reduceSub, Nat.reduceMul, Int.reduceLT, Int.reduceLE, Int.reduceEq, Int.reduceToNat, Int.reduceAdd, Int.reduceSub, Int.reduceMul, reduceCtorEq, ↓reduceIte, h0, h1, h9, h10, h11, k3', k5']
      repeat refine And.intro (by omega) ?_
      refine callK_of ct_cmpCompare (fun v nx1 gt1 hle1 hk1 hC => ?_) (by omega)
      subst hC
      simp only [↓gaW, ↓gaC, ↓gaN, gaP, Nat.reduceEqDiff, Nat.reduceLeDiff, Nat.reduceAdd, Nat.reduceSub, Nat.reduceMul, Int.reduceLT, Int.reduceLE, Int.reduceEq, Int.reduceToNat, Int.reduceAdd, Int.reduceSub, Int.reduceMul, reduceCtorEq, ↓reduceIte]
      refine condK_dec (fun hne => ?_) fun heq => ?_
      · rw [if_pos (by exact hne)] at hv
        simp only [↓gaW, ↓gaC, ↓gaN, gaP, Nat.reduceEqDiff, Nat.reduceLeDiff, Nat.reduceAdd, Nat.reduceSub, Nat.reduceMul, Int.reduceLT, Int.reduceLE, Int.reduceEq, Int.reduceToNat, Int.reduceAdd, Int.reduceSub, Int.reduceMul, reduceCtorEq, ↓reduceIte, gaE]
        exact ⟨by omega, fun i hi => by rw [hk1 i (by omega), hg i hi], by rw [hv]⟩
      · rw [if_neg (by exact heq)] at hv
        simp only [↓gaW, ↓gaC, ↓gaN, gaP, Nat.reduceEqDiff, Nat.reduceLeDiff, Nat.reduceAdd, Nat.reduceSub, Nat.reduceMul, Int.reduceLT, Int.reduceLE, Int.reduceEq, Int.reduceToNat, Int.reduceAdd, Int.reduceSub, Int.reduceMul, reduceCtorEq, ↓reduceIte, h11, i64_w ((i : Int) + 1) (by omega)]
        exact ⟨n - (i + 1), by omega, i + 1, nx1, gt1, rfl, by omega, by omega, h0, h1, h9, h10, rfl, rfl, by omega, fun i hi => by rw [hk1 i (by omega), hg i hi], hv⟩
  · have : i = n := by omega
    subst this
    rw [List.drop_of_length_le (l := l) (by omega)] at hv
    simp only [↓gaW, ↓gaC, ↓gaN, gaP, Nat.reduceEqDiff, Nat.reduceLeDiff, Nat.reduceAdd, Nat.reduceSub, Nat.reduceMul, Int.reduceLT, Int.reduceLE, Int.reduceEq, Int.reduceToNat, Int.reduceAdd, Int.reduceSub, Int.reduceMul, reduceCtorEq, ↓reduceIte, h0, h1]
    refine condK_dec (fun hlt => ?_) fun hge => ?_
    · simp only [↓gaW, ↓gaC, ↓gaN, gaP, Nat.reduceEqDiff, Nat.reduceLeDiff, Nat.reduceAdd, Nat.reduceSub, Nat.reduceMul, Int.reduceLT, Int.reduceLE, Int.reduceEq, Int.reduceToNat, Int.reduceAdd, Int.reduceSub, Int.reduceMul, reduceCtorEq, ↓reduceIte, gaE]
      rw [drop_getD (l := l') (i := i) (by omega)] at hv
      exact ⟨by omega, hg, by rw [← hv]; rfl⟩
    · simp only [↓gaW, ↓gaC, ↓gaN, gaP, Nat.reduceEqDiff, Nat.reduceLeDiff, Nat.reduceAdd, Nat.reduceSub, Nat.reduceMul, Int.reduceLT, Int.reduceLE, Int.reduceEq, Int.reduceToNat, Int.reduceAdd, Int.reduceSub, Int.reduceMul, reduceCtorEq, ↓reduceIte, gaE]
      rw [List.drop_of_length_le (l := l') (by omega)] at hv
      exact ⟨by omega, hg, by rw [← hv]; rfl⟩

theorem ct_Cmp {nx : Nat} {gt : Nat → Option Blk} {A B : Option Addr} {n c n' c' : Nat} {l l' : List UInt8} (hr : Row nx gt 1 A n (l.map u8V)) (hr' : Row nx gt 1 B n' (l'.map u8V)) (hn : n < 1000000) :
    Ct Try.prog 24 [.slice A n c, .slice B n' c'] nx gt fun v _ _ => v = .int .i64 (cmpL l l') := by
  refine Ct.of hmx r_octet_Cmp (by simp [c_octet_Cmp]) fun b hb => ?_
  simp only [c_octet_Cmp, ↓gaW, ↓gaC, ↓gaN, gaP, Nat.reduceEqDiff, Nat.reduceLeDiff, Nat.reduceAdd, Nat.reduceSub, Nat.reduceMul, Int.reduceLT, Int.reduceLE, Int.reduceEq, Int.reduceToNat, Int.reduceAdd, Int.reduceSub, Int.reduceMul, reduceCtorEq, ↓reduceIte]
  refine callK_of (ct_slicesCompare hr hr' hn) (fun v nx1 gt1 hle1 hk1 hC => ?_) (by omega)
  subst hC
  simp only [↓gaW, ↓gaC, ↓gaN, gaP, Nat.reduceEqDiff, Nat.reduceLeDiff, Nat.reduceAdd, Nat.reduceSub, Nat.reduceMul, Int.reduceLT, Int.reduceLE, Int.reduceEq, Int.reduceToNat, Int.reduceAdd, Int.reduceSub, Int.reduceMul, reduceCtorEq, ↓reduceIte, gaE]
  exact ⟨by omega, hk1⟩

theorem ct_rCmp {nx : Nat} {gt : Nat → Option Blk} {A B : Option Addr} {n c n' c' : Nat} {l l' : List UInt8} (hr : Row nx gt 1 A n (l.map u8V)) (hr' : Row nx gt 1 B n' (l'.map u8V)) (hn : n < 1000000) :
    Ct Try.prog 25 [.slice A n c, .slice B n' c'] nx gt fun v _ _ => v = .int .i64 (cmpL l l') := by
  refine Ct.of hmx r_lanyardref01_Cmp (by simp [c_lanyardref01_Cmp]) fun b hb => ?_
  have hlen : l.length = n := by simpa using hr.len
  have hlen' : l'.length = n' := by simpa using hr'.len
  simp only [c_lanyardref01_Cmp, ↓gaW, ↓gaC, ↓gaN, gaP, Nat.reduceEqDiff, Nat.reduceLeDiff, Nat.reduceAdd, Nat.reduceSub, Nat.reduceMul, Int.reduceLT, Int.reduceLE, Int.reduceEq, Int.reduceToNat, Int.reduceAdd, Int.reduceSub, Int.reduceMul, reduceCtorEq, ↓reduceIte]
  refine loop_of (fun j f m => ∃ (i : Nat), j = n - i ∧ i ≤ n ∧ i ≤ n' ∧ f 0 = .slice A n c ∧ f 1 = .slice B n' c' ∧ f 5 = .int .i64 (i : Nat) ∧ m = ⟨nx, b, gt⟩ ∧ cmpL (l.drop i) (l'.drop i) = cmpL l l') n
    ⟨0, by omega, by omega, by omega, rfl, rfl, rfl, rfl, rfl⟩ ?_
  rintro j f m ⟨i, rfl, hi, hi', h0, h1, h5, rfl, hv⟩
  have rest : (i = n ∨ i = n') → ∀ f : Regs, f 0 = .slice A n c → f 1 = .slice B n' c' →
      RC.vc Try.prog (match c_lanyardref01_Cmp.code with | .seq _ (.seq _ c) => c | _ => .skip) f ⟨nx, b, gt⟩ (D Try.prog (.top (endK c_lanyardref01_Cmp.results b nx gt fun v _ _ => v = .int .i64 (cmpL l l')))) := by
    intro hh f h0 h1
    simp only [c_lanyardref01_Cmp, ↓gaW, ↓gaC, ↓gaN, gaP, Nat.reduceEqDiff, Nat.reduceLeDiff, Nat.reduceAdd, Nat.reduceSub, Nat.reduceMul, Int.reduceLT, Int.reduceLE, Int.reduceEq, Int.reduceToNat, Int.reduceAdd, Int.reduceSub, Int.reduceMul, reduceCtorEq, ↓reduceIte, h0, h1]
    refine condK_dec (fun hlt => ?_) fun hge => ?_
    · simp only [↓gaW, ↓gaC, ↓gaN, gaP, Nat.reduceEqDiff, Nat.reduceLeDiff, Nat.reduceAdd, Nat.reduceSub, Nat.reduceMul, Int.reduceLT, Int.reduceLE, Int.reduceEq, Int.reduceToNat, Int.reduceAdd, Int.reduceSub, Int.reduceMul, reduceCtorEq, ↓reduceIte, gaE]
      rw [List.drop_of_length_le (l := l) (by omega), drop_getD (l := l') (i := i) (by omega)] at hv
      exact ⟨by omega, fun _ _ => trivial, by rw [← hv]; rfl⟩
    · simp only [↓gaW, ↓gaC, ↓gaN, gaP, Nat.reduceEqDiff, Nat.reduceLeDiff, Nat.reduceAdd, Nat.reduceSub, Nat.reduceMul, Int.reduceLT, Int.reduceLE, Int.reduceEq, Int.reduceToNat, Int.reduceAdd, Int.reduceSub, Int.reduceMul, reduceCtorEq, ↓reduceIte, h0, h1]
      refine condK_dec (fun hlt => ?_) fun hge => ?_
      · simp only [↓gaW, ↓gaC, ↓gaN, gaP, Nat.reduceEqDiff, Nat.reduceLeDiff, Nat.reduceAdd, Nat.reduceSub, Nat.reduceMul, Int.reduceLT, Int.reduceLE, Int.reduceEq, Int.reduceToNat, Int.reduceAdd, Int.reduceSub, Int.reduceMul, reduceCtorEq, ↓reduceIte, gaE]
        rw [List.drop_of_length_le (l := l') (by omega), drop_getD (l := l) (i := i) (by omega)] at hv
        exact ⟨by omega, fun _ _ => trivial, by rw [← hv]; rfl⟩
      · simp only [↓gaW, ↓gaC, ↓gaN, gaP, Nat.reduceEqDiff, Nat.reduceLeDiff, Nat.reduceAdd, Nat.reduceSub, Nat.reduceMul, Int.reduceLT, Int.reduceLE, Int.reduceEq, Int.reduceToNat, Int.reduceAdd, Int.reduceSub, Int.reduceMul, reduceCtorEq, ↓reduceIte, gaE]
        rw [List.drop_of_length_le (l := l') (by omega), List.drop_of_length_le (l := l) (by omega)] at hv
        exact ⟨by omega, fun _ _ => trivial, by rw [← hv]; rfl⟩
  by_cases hin : (i : Int) < (n : Int)
  · by_cases hin' : (i : Int) < (n' : Int)
    · obtain ⟨a, ce, ro, rfl, e2, e3, e4, e5⟩ := hr.cells (by omega)
      have e5' := e5 i (by omega)
      rw [getD_u8 (by omega)] at e5'
      obtain ⟨a', ce', ro', rfl, k2, k3, k4, k5⟩ := hr'.cells (by omega)
      have k5' := k5 i (by omega)
      rw [getD_u8 (by omega)] at k5'
      rw [drop_getD (l := l) (i := i) (by omega), drop_getD (l := l') (i := i) (by omega), cmpL] at hv
      simp only [↓gaW, ↓gaC, ↓gaN, gaP, Nat.reduceEqDiff, Nat.reduceLeDiff, Nat.reduceAdd, Nat.reduceSub, Nat.reduceMul, Int.reduceLT, Int.reduceLE, Int.reduceEq, Int.reduceToNat, Int.reduceAdd, Int.reduceSub, Int.reduceMul, reduceCtorEq, ↓reduceIte, h0, h1, h5, hin, hin', decide_true, e3, k3, e5', k5']
      repeat refine And.intro (by omega) ?_
      refine condK_dec (fun hlt => ?_) fun hge => ?_
      · simp only [↓gaW, ↓gaC, ↓gaN, gaP, Nat.reduceEqDiff, Nat.reduceLeDiff, Nat.reduceAdd, Nat.reduceSub, Nat.reduceMul, Int.reduceLT, Int.reduceLE, Int.reduceEq, Int.reduceToNat, Int.reduceAdd, Int.reduceSub, Int.reduceMul, reduceCtorEq, ↓reduceIte, gaE]
        have : cmpB (l.getD i 0).toNat (l'.getD i 0).toNat = -1 := cmpB_lt (by omega)
        rw [this, if_pos (by decide)] at hv
        exact ⟨by omega, fun _ _ => trivial, by rw [← hv]⟩
      · simp only [↓gaW, ↓gaC, ↓gaN, gaP, Nat.reduceEqDiff, Nat.reduceLeDiff, Nat.reduceAdd, Nat.reduceSub, Nat.reduceMul, Int.reduceLT, Int.reduceLE, Int.reduceEq, Int.reduceToNat, Int.reduceAdd, Int.reduceSub, Int.reduceMul, reduceCtorEq, ↓reduceIte, h0, h1, h5, e3, k3, e5', k5']
        repeat refine And.intro (by omega) ?_
        refine condK_dec (fun hlt' => ?_) fun hge' => ?_
        · simp only [↓gaW, ↓gaC, ↓gaN, gaP, Nat.reduceEqDiff, Nat.reduceLeDiff, Nat.reduceAdd, Nat.reduceSub, Nat.reduceMul, Int.reduceLT, Int.reduceLE, Int.reduceEq, Int.reduceToNat, Int.reduceAdd, Int.reduceSub, Int.reduceMul, reduceCtorEq, ↓reduceIte, gaE]
          have : cmpB (l.getD i 0).toNat (l'.getD i 0).toNat = 1 := cmpB_gt (by omega)
          rw [this, if_pos (by decide)] at hv
          exact ⟨by omega, fun _ _ => trivial, by rw [← hv]⟩
        · have : cmpB (l.getD i 0).toNat (l'.getD i 0).toNat = 0 := cmpB_eq (by omega)
          rw [this, if_neg (by decide)] at hv
          simp only [↓gaW, ↓gaC, ↓gaN, gaP, Nat.reduceEqDiff, Nat.reduceLeDiff, Nat.reduceAdd, Nat.reduceSub, Nat.reduceMul, Int.reduceLT, Int.reduceLE, Int.reduceEq, Int.reduceToNat, Int.reduceAdd, Int.reduceSub, Int.reduceMul, reduceCtorEq, ↓reduceIte, h5, i64_w ((i : Int) + 1) (by omega)]
          exact ⟨n - (i + 1), by omega, i + 1, rfl, by omega, by omega, h0, h1, rfl, rfl, hv⟩
    · simp only [↓gaW, ↓gaN, gaP, Nat.reduceEqDiff, Nat.reduceLeDiff, Nat.reduceAdd, Nat.reduceSub, Nat.reduceMul, Int.reduceLT, Int.reduceLE, Int.reduceEq, Int.reduceToNat, Int.reduceAdd, Int.reduceSub, Int.reduceMul, reduceCtorEq, ↓reduceIte, h0, h1, h5, hin, hin', decide_true, decide_false]
      refine condK_of (fun h => by simp at h) fun _ => ?_
      simp only [vc_exit, D_thn_e, D_blk_e, loopK_e, D_top, if_true, D_thn_n]
      refine rest (by omega) _ ?_ ?_
      · simpa [putR] using h0
      · simpa [putR] using h1
  · simp only [↓gaW, ↓gaN, gaP, Nat.reduceEqDiff, Nat.reduceLeDiff, Nat.reduceAdd, Nat.reduceSub, Nat.reduceMul, Int.reduceLT, Int.reduceLE, Int.reduceEq, Int.reduceToNat, Int.reduceAdd, Int.reduceSub, Int.reduceMul, reduceCtorEq, ↓reduceIte, h0, h1, h5, hin, decide_true, decide_false]
    refine condK_of (fun h => by simp at h) fun _ => ?_
    simp only [vc_exit, D_thn_e, D_blk_e, loopK_e, D_top, if_true, D_thn_n]
    refine rest (by omega) _ ?_ ?_
    · simpa [putR] using h0
    · simpa [putR] using h1

theorem fn_Orders {nx : Nat} {gt : Nat → Option Blk} {A B : Option Addr} {n c n' c' : Nat} {l l' : List UInt8} (hr : Row nx gt 1 A n (l.map u8V)) (hc : n ≤ c) (hr' : Row nx gt 1 B n' (l'.map u8V)) (hc' : n' ≤ c') :
    Ct Try.prog 6 [.slice A n c, .slice B n' c'] nx gt fun v _ _ => v = .bool true := by
  refine Ct.of hmx r_lanyardlaw01_OctetOrders (by simp [c_lanyardlaw01_OctetOrders]) fun b hb => ?_
  simp only [c_lanyardlaw01_OctetOrders, ↓gaW, ↓gaC, ↓gaN, gaP, Nat.reduceEqDiff, Nat.reduceLeDiff, Nat.reduceAdd, Nat.reduceSub, Nat.reduceMul, Int.reduceLT, Int.reduceLE, Int.reduceEq, Int.reduceToNat, Int.reduceAdd, Int.reduceSub, Int.reduceMul, reduceCtorEq, ↓reduceIte]
  refine callK_of ct_awake01 (fun v nx1 gt1 hle1 hk1 hC => ?_) hb
  subst hC
  by_cases h1 : (1000 : Int) < n
  · simp only [↓gaW, ↓gaC, ↓gaN, gaP, Nat.reduceEqDiff, Nat.reduceLeDiff, Nat.reduceAdd, Nat.reduceSub, Nat.reduceMul, Int.reduceLT, Int.reduceLE, Int.reduceEq, Int.reduceToNat, Int.reduceAdd, Int.reduceSub, Int.reduceMul, reduceCtorEq, ↓reduceIte, gaE, h1, decide_true]
    exact ⟨by omega, hk1⟩
  by_cases h2 : (1000 : Int) < n'
  · simp only [↓gaW, ↓gaC, ↓gaN, gaP, Nat.reduceEqDiff, Nat.reduceLeDiff, Nat.reduceAdd, Nat.reduceSub, Nat.reduceMul, Int.reduceLT, Int.reduceLE, Int.reduceEq, Int.reduceToNat, Int.reduceAdd, Int.reduceSub, Int.reduceMul, reduceCtorEq, ↓reduceIte, gaE, h1, h2, decide_true, decide_false]
    exact ⟨by omega, hk1⟩
  simp only [↓gaW, ↓gaC, ↓gaN, gaP, Nat.reduceEqDiff, Nat.reduceLeDiff, Nat.reduceAdd, Nat.reduceSub, Nat.reduceMul, Int.reduceLT, Int.reduceLE, Int.reduceEq, Int.reduceToNat, Int.reduceAdd, Int.reduceSub, Int.reduceMul, reduceCtorEq, ↓reduceIte, h1, h2, decide_false]
  refine callK_of (ct_Cmp (hr.keep hle1 hk1) (hr'.keep hle1 hk1) (by omega)) (fun v nx2 gt2 hle2 hk2 hC => ?_) (by omega)
  subst hC
  have hk2' : ∀ i, i < nx → gt2 i = gt i := fun i hi => by rw [hk2 i (by omega), hk1 i hi]
  simp only [↓gaW, ↓gaC, ↓gaN, gaP, Nat.reduceEqDiff, Nat.reduceLeDiff, Nat.reduceAdd, Nat.reduceSub, Nat.reduceMul, Int.reduceLT, Int.reduceLE, Int.reduceEq, Int.reduceToNat, Int.reduceAdd, Int.reduceSub, Int.reduceMul, reduceCtorEq, ↓reduceIte]
  refine callK_of (ct_rCmp (hr.keep (by omega) hk2') (hr'.keep (by omega) hk2') (by omega)) (fun v nx3 gt3 hle3 hk3 hC => ?_) (by omega)
  subst hC
  simp only [↓gaW, ↓gaC, ↓gaN, gaP, Nat.reduceEqDiff, Nat.reduceLeDiff, Nat.reduceAdd, Nat.reduceSub, Nat.reduceMul, Int.reduceLT, Int.reduceLE, Int.reduceEq, Int.reduceToNat, Int.reduceAdd, Int.reduceSub, Int.reduceMul, reduceCtorEq, ↓reduceIte, gaE]
  exact ⟨by omega, fun i hi => by rw [hk3 i (by omega), hk2' i hi]⟩
end Go.Ga

namespace Go.Ga
open Go Go.Proofs
set_option linter.unusedSimpArgs false
set_option linter.unusedVariables false

/-- A digit's worth; 16: it is none. -/
def wr (c : Nat) : Nat := if 48 ≤ c ∧ c ≤ 57 then c - 48 else if 97 ≤ c ∧ c ≤ 102 then c - 87 else 16
theorem wr_le (c : Nat) : wr c ≤ 16 := by unfold wr; split <;> (try split) <;> omega
def wi (c : Nat) : Int := if wr c = 16 then -1 else wr c

theorem ct_worth {nx : Nat} {gt : Nat → Option Blk} {x : Nat} (hx : x < 256) : Ct Try.prog 39 [.int .u8 (x : Nat)] nx gt fun v _ _ => v = .int .i64 (wi x) := by
  refine Ct.of hmx r_octet_worth (by simp [c_octet_worth]) fun b hb => ?_
  by_cases h1 : (48 : Int) ≤ x
  · by_cases h2 : (x : Int) ≤ 57
    · have e : wi x = (x : Int) - 48 := by
        have : wr x = x - 48 := by rw [wr, if_pos (by omega)]
        rw [wi, this, if_neg (by omega)]; omega
      simp only [c_octet_worth, ↓gaW, ↓gaC, ↓gaN, gaP, Nat.reduceEqDiff, Nat.reduceLeDiff, Nat.reduceAdd, Nat.reduceSub, Nat.reduceMul, Int.reduceLT, Int.reduceLE, Int.reduceEq, Int.reduceToNat, Int.reduceAdd, Int.reduceSub, Int.reduceMul, reduceCtorEq, ↓reduceIte, gaE, h1, h2, decide_true, decide_false, u8_i ((x : Int) - 48) (by omega), i64_w ((x : Int) - 48) (by omega)]
      exact ⟨by omega, fun _ _ => trivial, by rw [e]⟩
    · by_cases h3 : (97 : Int) ≤ x
      · by_cases h4 : (x : Int) ≤ 102
        · have e : wi x = (x : Int) - 97 + 10 := by
            have : wr x = x - 87 := by rw [wr, if_neg (by omega), if_pos (by omega)]
            rw [wi, this, if_neg (by omega)]; omega
          simp only [c_octet_worth, ↓gaW, ↓gaC, ↓gaN, gaP, Nat.reduceEqDiff, Nat.reduceLeDiff, Nat.reduceAdd, Nat.reduceSub, Nat.reduceMul, Int.reduceLT, Int.reduceLE, Int.reduceEq, Int.reduceToNat, Int.reduceAdd, Int.reduceSub, Int.reduceMul, reduceCtorEq, ↓reduceIte, gaE, h1, h2, h3, h4, decide_true, decide_false, u8_i ((x : Int) - 97) (by omega), i64_w ((x : Int) - 97) (by omega), i64_w ((x : Int) - 97 + 10) (by omega)]
          exact ⟨by omega, fun _ _ => trivial, by rw [e]⟩
        · have e : wi x = -1 := by
            have : wr x = 16 := by rw [wr, if_neg (by omega), if_neg (by omega)]
            rw [wi, this, if_pos rfl]
          simp only [c_octet_worth, ↓gaW, ↓gaC, ↓gaN, gaP, Nat.reduceEqDiff, Nat.reduceLeDiff, Nat.reduceAdd, Nat.reduceSub, Nat.reduceMul, Int.reduceLT, Int.reduceLE, Int.reduceEq, Int.reduceToNat, Int.reduceAdd, Int.reduceSub, Int.reduceMul, reduceCtorEq, ↓reduceIte, gaE, h1, h2, h3, h4, decide_true, decide_false]
          exact ⟨by omega, fun _ _ => trivial, by rw [e]⟩
      · have e : wi x = -1 := by
          have : wr x = 16 := by rw [wr, if_neg (by omega), if_neg (by omega)]
          rw [wi, this, if_pos rfl]
        simp only [c_octet_worth, ↓gaW, ↓gaC, ↓gaN, gaP, Nat.reduceEqDiff, Nat.reduceLeDiff, Nat.reduceAdd, Nat.reduceSub, Nat.reduceMul, Int.reduceLT, Int.reduceLE, Int.reduceEq, Int.reduceToNat, Int.reduceAdd, Int.reduceSub, Int.reduceMul, reduceCtorEq, ↓reduceIte, gaE, h1, h2, h3, decide_true, decide_false]
        exact ⟨by omega, fun _ _ => trivial, by rw [e]⟩
  · have h3 : ¬ (97 : Int) ≤ x := by omega
    have e : wi x = -1 := by
      have : wr x = 16 := by rw [wr, if_neg (by omega), if_neg (by omega)]
      rw [wi, this, if_pos rfl]
    simp only [c_octet_worth, ↓gaW, ↓gaC, ↓gaN, gaP, Nat.reduceEqDiff, Nat.reduceLeDiff, Nat.reduceAdd, Nat.reduceSub, Nat.reduceMul, Int.reduceLT, Int.reduceLE, Int.reduceEq, Int.reduceToNat, Int.reduceAdd, Int.reduceSub, Int.reduceMul, reduceCtorEq, ↓reduceIte, gaE, h1, h3, decide_true, decide_false]
    exact ⟨by omega, fun _ _ => trivial, by rw [e]⟩

theorem ct_rworth {nx : Nat} {gt : Nat → Option Blk} {x : Nat} (hx : x < 256) : Ct Try.prog 40 [.int .u8 (x : Nat)] nx gt fun v _ _ => v = .int .u8 (wr x : Nat) := by
  refine Ct.of hmx r_lanyardref01_worth (by simp [c_lanyardref01_worth]) fun b hb => ?_
  by_cases h1 : (48 : Int) ≤ x
  · by_cases h2 : (x : Int) ≤ 57
    · have e : ((wr x : Nat) : Int) = (x : Int) - 48 := by
        have : wr x = x - 48 := by rw [wr, if_pos (by omega)]
        omega
      simp only [c_lanyardref01_worth, ↓gaW, ↓gaC, ↓gaN, gaP, Nat.reduceEqDiff, Nat.reduceLeDiff, Nat.reduceAdd, Nat.reduceSub, Nat.reduceMul, Int.reduceLT, Int.reduceLE, Int.reduceEq, Int.reduceToNat, Int.reduceAdd, Int.reduceSub, Int.reduceMul, reduceCtorEq, ↓reduceIte, gaE, h1, h2, decide_true, decide_false, u8_i ((x : Int) - 48) (by omega)]
      exact ⟨by omega, fun _ _ => trivial, by rw [e]⟩
    · by_cases h3 : (97 : Int) ≤ x
      · by_cases h4 : (x : Int) ≤ 102
        · have e : ((wr x : Nat) : Int) = (x : Int) - 97 + 10 := by
            have : wr x = x - 87 := by rw [wr, if_neg (by omega), if_pos (by omega)]
            omega
          simp only [c_lanyardref01_worth, ↓gaW, ↓gaC, ↓gaN, gaP, Nat.reduceEqDiff, Nat.reduceLeDiff, Nat.reduceAdd, Nat.reduceSub, Nat.reduceMul, Int.reduceLT, Int.reduceLE, Int.reduceEq, Int.reduceToNat, Int.reduceAdd, Int.reduceSub, Int.reduceMul, reduceCtorEq, ↓reduceIte, gaE, h1, h2, h3, h4, decide_true, decide_false, u8_i ((x : Int) - 97) (by omega), u8_i ((x : Int) - 97 + 10) (by omega)]
          exact ⟨by omega, fun _ _ => trivial, by rw [e]⟩
        · have e : wr x = 16 := by rw [wr, if_neg (by omega), if_neg (by omega)]
          simp only [c_lanyardref01_worth, ↓gaW, ↓gaC, ↓gaN, gaP, Nat.reduceEqDiff, Nat.reduceLeDiff, Nat.reduceAdd, Nat.reduceSub, Nat.reduceMul, Int.reduceLT, Int.reduceLE, Int.reduceEq, Int.reduceToNat, Int.reduceAdd, Int.reduceSub, Int.reduceMul, reduceCtorEq, ↓reduceIte, gaE, h1, h2, h3, h4, decide_true, decide_false]
          exact ⟨by omega, fun _ _ => trivial, by rw [e]; rfl⟩
      · have e : wr x = 16 := by rw [wr, if_neg (by omega), if_neg (by omega)]
        simp only [c_lanyardref01_worth, ↓gaW, ↓gaC, ↓gaN, gaP, Nat.reduceEqDiff, Nat.reduceLeDiff, Nat.reduceAdd, Nat.reduceSub, Nat.reduceMul, Int.reduceLT, Int.reduceLE, Int.reduceEq, Int.reduceToNat, Int.reduceAdd, Int.reduceSub, Int.reduceMul, reduceCtorEq, ↓reduceIte, gaE, h1, h2, h3, decide_true, decide_false]
        exact ⟨by omega, fun _ _ => trivial, by rw [e]; rfl⟩
  · have h3 : ¬ (97 : Int) ≤ x := by omega
    have e : wr x = 16 := by rw [wr, if_neg (by omega), if_neg (by omega)]
    simp only [c_lanyardref01_worth, ↓gaW, ↓gaC, ↓gaN, gaP, Nat.reduceEqDiff, Nat.reduceLeDiff, Nat.reduceAdd, Nat.reduceSub, Nat.reduceMul, Int.reduceLT, Int.reduceLE, Int.reduceEq, Int.reduceToNat, Int.reduceAdd, Int.reduceSub, Int.reduceMul, reduceCtorEq, ↓reduceIte, gaE, h1, h3, decide_true, decide_false]
    exact ⟨by omega, fun _ _ => trivial, by rw [e]; rfl⟩

/-! ### Digits back to bytes -/
def unh : List UInt8 → Option (List UInt8)
  | [] => some []
  | [_] => none
  | a :: b :: l => if wr a.toNat = 16 ∨ wr b.toNat = 16 then none else (unh l).map (UInt8.ofNat (wr a.toNat * 16 + wr b.toNat) :: ·)
theorem unh_odd : ∀ (k : Nat) (l : List UInt8), l.length = 2 * k + 1 → unh l = none := by
  intro k
  induction k with
  | zero =>
    intro l h
    match l, h with
    | [a], _ => rfl
  | succ k ih =>
    intro l h
    match l, h with
    | a :: b :: l, h =>
      rw [unh, ih l (by simp at h; omega)]
      simp

def UnV (nx : Nat) (gt : Nat → Option Blk) (s : List UInt8) (v : Value) : Prop := ∃ sl, v = .tuple #[sl, .bool (unh s).isSome] ∧ BySl nx gt sl ((unh s).getD [])

theorem or_hl {a b : Nat} (ha : a < 16) (hb : b < 16) : bitsV .or .i64 (shlV .i64 (a : Int) 4) (b : Int) = ((a * 16 + b : Nat) : Int) := by
  have e : shlV .i64 (a : Int) 4 = ((a * 16 : Nat) : Int) := by
    simp only [shlV, IntKind.bits]
    have : (2 : Int) ^ min (Int.toNat 4) 64 = 16 := by decide
    rw [this, i64_w _ (by omega)]; omega
  rw [e, or_i64 (by omega) (by omega), or_low4 hb]

theorem ct_Unhex {nx : Nat} {gt : Nat → Option Blk} {s : ByteArray} (hn : s.size < 1000000) :
    Ct Try.prog 20 [.string s] nx gt fun v nx' gt' => UnV nx' gt' s.data.toList v := by
  refine Ct.of hmx r_octet_Unhex (by simp [c_octet_Unhex]) fun b hb => ?_
  have hlen : s.data.toList.length = s.size := by simp
  generalize hL : s.data.toList = L at hlen ⊢
  have g1 : ((s.size : Nat) : Int).tmod 2 = ((s.size % 2 : Nat) : Int) := rfl
  have g2 : ((s.size : Nat) : Int).tdiv 2 = ((s.size / 2 : Nat) : Int) := rfl
  simp only [c_octet_Unhex, ↓gaW, ↓gaC, ↓gaN, gaP, Nat.reduceEqDiff, Nat.reduceLeDiff, Nat.reduceAdd, Nat.reduceSub, Nat.reduceMul, Int.reduceLT, Int.reduceLE, Int.reduceEq, Int.reduceToNat, Int.reduceAdd, Int.reduceSub, Int.reduceMul, reduceCtorEq, ↓reduceIte, g1]
  refine condK_dec (fun hodd => ?_) fun hev => ?_
  · have : unh L = none := unh_odd (s.size / 2) L (by omega)
    simp only [↓gaW, ↓gaC, ↓gaN, gaP, Nat.reduceEqDiff, Nat.reduceLeDiff, Nat.reduceAdd, Nat.reduceSub, Nat.reduceMul, Int.reduceLT, Int.reduceLE, Int.reduceEq, Int.reduceToNat, Int.reduceAdd, Int.reduceSub, Int.reduceMul, reduceCtorEq, ↓reduceIte, gaE]
    exact ⟨by omega, fun _ _ => trivial, _, by rw [this]; rfl, by rw [this]; exact .nil⟩
  obtain ⟨k, hk⟩ : ∃ k, s.size = 2 * k := ⟨s.size / 2, by omega⟩
  have hk2 : s.size / 2 = k := by omega
  simp only [↓gaW, ↓gaC, ↓gaN, gaP, Nat.reduceEqDiff, Nat.reduceLeDiff, Nat.reduceAdd, Nat.reduceSub, Nat.reduceMul, Int.reduceLT, Int.reduceLE, Int.reduceEq, Int.reduceToNat, Int.reduceAdd, Int.reduceSub, Int.reduceMul, reduceCtorEq, ↓reduceIte, g2, hk2, i64_w (k : Int) (by omega)]
  repeat refine And.intro (by first | omega | simp) ?_
  refine loop_of (fun j f m => ∃ (i x : Nat) (g : Nat → Option Blk) (ce : List Value) (dn : List UInt8), j = k - i ∧ i ≤ k ∧ f 0 = .string s ∧ f 4 = .slice (some ⟨nx, 0, none⟩) k k ∧ f 17 = .int .i64 (k : Nat) ∧ f 18 = .int .i64 (i : Nat) ∧ m = ⟨x, b, g⟩ ∧ nx + 1 ≤ x ∧ (∀ i, i < nx → g i = gt i) ∧ g nx = some (.cells ce false) ∧ ce.length = k ∧
      dn.length = i ∧ (∀ j, j < i → ce.getD j undef = u8V (dn.getD j 0)) ∧ unh L = (unh (L.drop (2 * i))).map (dn ++ ·)) k
    ⟨0, nx + 1, _, (List.range k).map fun i => [Value.int .u8 0].getD (i % 1) undef, [], by omega, by omega, rfl, rfl, rfl, rfl, rfl, by omega, fun i hi => by simp only [upd_e]; rw [if_neg (by omega)], by simp only [upd_e, if_true], by simp, rfl, fun j hj => by omega, by simp⟩ ?_
  rintro j f m ⟨i, x, g, ce, dn, rfl, hi, h0, h4, h17, h18, rfl, hx, hg, hgn, hcl, hdl, hce, hu⟩
  simp only [↓gaW, ↓gaC, ↓gaN, gaP, Nat.reduceEqDiff, Nat.reduceLeDiff, Nat.reduceAdd, Nat.reduceSub, Nat.reduceMul, Int.reduceLT, Int.reduceLE, Int.reduceEq, Int.reduceToNat, Int.reduceAdd, Int.reduceSub, Int.reduceMul, reduceCtorEq, ↓reduceIte, h17, h18]
  refine condK_dec (fun hlt => ?_) fun hge => ?_
  · have hik : i < k := by omega
    have m1 : IntKind.i64.wrap (2 * (i : Int)) = ((2 * i : Nat) : Int) := by rw [i64_w _ (by omega)]; omega
    have m2 : IntKind.i64.wrap (((2 * i : Nat) : Int) + 1) = ((2 * i + 1 : Nat) : Int) := by rw [i64_w _ (by omega)]; omega
    have ha := (L.getD (2 * i) 0).toNat_lt
    have hb2 := (L.getD (2 * i + 1) 0).toNat_lt
    have hd : L.drop (2 * i) = L.getD (2 * i) 0 :: L.getD (2 * i + 1) 0 :: L.drop (2 * (i + 1)) := by
      rw [drop_getD (by omega), drop_getD (l := L) (i := 2 * i + 1) (by omega)]; rfl
    obtain ⟨ca, hca⟩ : ∃ c, L.getD (2 * i) 0 = c := ⟨_, rfl⟩
    obtain ⟨cb, hcb⟩ : ∃ c, L.getD (2 * i + 1) 0 = c := ⟨_, rfl⟩
    rw [hca] at ha hd
    rw [hcb] at hb2 hd
    rw [hd, unh] at hu
    have d1 : ∀ {c : Nat}, wr c = 16 → wi c = -1 := fun h => by rw [wi, if_pos h]
    have d2 : ∀ {c : Nat}, ¬ wr c = 16 → wi c = (wr c : Nat) := fun h => by rw [wi, if_neg h]
    simp only [↓gaW, ↓gaC, ↓gaN, gaP, Nat.reduceEqDiff, Nat.reduceLeDiff, Nat.reduceAdd, Nat.reduceSub, Nat.reduceMul, Int.reduceLT, Int.reduceLE, Int.reduceEq, Int.reduceToNat, Int.reduceAdd, Int.reduceSub, Int.reduceMul, reduceCtorEq, ↓reduceIte, h0, h4, h17, h18, m1, m2, hL, hca, hcb, u8V]
    repeat refine And.intro (by omega) ?_
    refine callQ_of (ct_worth ha) (fun v nx1 gt1 hle1 hk1 hC => ?_)
    subst hC
    simp only [↓gaW, ↓gaC, ↓gaN, gaP, Nat.reduceEqDiff, Nat.reduceLeDiff, Nat.reduceAdd, Nat.reduceSub, Nat.reduceMul, Int.reduceLT, Int.reduceLE, Int.reduceEq, Int.reduceToNat, Int.reduceAdd, Int.reduceSub, Int.reduceMul, reduceCtorEq, ↓reduceIte, h0, h4, h17, h18, m1, m2, hL, hca, hcb, u8V]
    repeat refine And.intro (by omega) ?_
    refine callK_of (ct_worth hb2) (fun v nx2 gt2 hle2 hk2 hC => ?_) (by omega)
    subst hC
    have hg2 : ∀ i, i < x → gt2 i = g i := fun i hi => by rw [hk2 i (by omega), hk1 i hi]
    by_cases ha16 : wr ca.toNat = 16
    · rw [if_pos (.inl ha16)] at hu
      simp only [↓gaW, ↓gaC, ↓gaN, gaP, Nat.reduceEqDiff, Nat.reduceLeDiff, Nat.reduceAdd, Nat.reduceSub, Nat.reduceMul, Int.reduceLT, Int.reduceLE, Int.reduceEq, Int.reduceToNat, Int.reduceAdd, Int.reduceSub, Int.reduceMul, reduceCtorEq, ↓reduceIte, gaE, d1 ha16]
      exact ⟨by omega, fun i hi => by rw [hg2 i (by omega), hg i hi], _, by rw [hu]; rfl, by rw [hu]; exact .nil⟩
    by_cases hb16 : wr cb.toNat = 16
    · rw [if_pos (.inr hb16)] at hu
      have q1 : ¬ ((wr ca.toNat : Nat) : Int) < 0 := by omega
      simp only [↓gaW, ↓gaC, ↓gaN, gaP, Nat.reduceEqDiff, Nat.reduceLeDiff, Nat.reduceAdd, Nat.reduceSub, Nat.reduceMul, Int.reduceLT, Int.reduceLE, Int.reduceEq, Int.reduceToNat, Int.reduceAdd, Int.reduceSub, Int.reduceMul, reduceCtorEq, ↓reduceIte, gaE, d2 ha16, d1 hb16, q1, decide_false]
      exact ⟨by omega, fun i hi => by rw [hg2 i (by omega), hg i hi], _, by rw [hu]; rfl, by rw [hu]; exact .nil⟩
    have q1 : ¬ ((wr ca.toNat : Nat) : Int) < 0 := by omega
    have q2 : ¬ ((wr cb.toNat : Nat) : Int) < 0 := by omega
    have wa := wr_le ca.toNat
    have wb := wr_le cb.toNat
    rw [if_neg (by omega)] at hu
    have hgn2 : gt2 nx = some (.cells ce false) := by rw [hg2 nx (by omega), hgn]
    simp only [↓gaW, ↓gaC, ↓gaN, gaP, Nat.reduceEqDiff, Nat.reduceLeDiff, Nat.reduceAdd, Nat.reduceSub, Nat.reduceMul, Int.reduceLT, Int.reduceLE, Int.reduceEq, Int.reduceToNat, Int.reduceAdd, Int.reduceSub, Int.reduceMul, reduceCtorEq, ↓reduceIte, h0, h4, h17, h18, d2 ha16, d2 hb16, q1, q2, decide_false, or_hl (show wr ca.toNat < 16 by omega) (show wr cb.toNat < 16 by omega), u8_of, hgn2, i64_w ((i : Int) + 1) (by omega)]
    repeat refine And.intro (by first | omega | exact all1 rfl) ?_
    refine ⟨k - (i + 1), by omega, i + 1, nx2, _, splice ce i [.int .u8 ((UInt8.ofNat (wr ca.toNat * 16 + wr cb.toNat)).toNat : Nat)], dn ++ [UInt8.ofNat (wr ca.toNat * 16 + wr cb.toNat)], rfl, by omega, h0, h4, h17, rfl, rfl, by omega, fun i hi => ?_, ?_, ?_, by simp [hdl], fun j hj => ?_, ?_⟩
    · simp only [upd_e]; rw [if_neg (by omega), hg2 i (by omega), hg i hi]
    · simp only [upd_e, if_true]
    · rw [splice1_len (by omega)]; exact hcl
    · rw [splice1 (by omega)]
      by_cases h : j = i
      · subst h
        rw [if_pos rfl, List.getD_eq_getElem?_getD, List.getElem?_append_right (by omega), hdl]
        simp [u8V]
      · rw [if_neg h, hce j (by omega), List.getD_eq_getElem?_getD, List.getD_eq_getElem?_getD, List.getElem?_append_left (by omega)]
        rfl
    · rw [hu]
      cases unh (L.drop (2 * (i + 1))) <;> simp
  · have : i = k := by omega
    subst this
    rw [List.drop_of_length_le (by omega)] at hu
    have hu' : unh L = some dn := by rw [hu]; simp [unh]
    simp only [↓gaW, ↓gaC, ↓gaN, gaP, Nat.reduceEqDiff, Nat.reduceLeDiff, Nat.reduceAdd, Nat.reduceSub, Nat.reduceMul, Int.reduceLT, Int.reduceLE, Int.reduceEq, Int.reduceToNat, Int.reduceAdd, Int.reduceSub, Int.reduceMul, reduceCtorEq, ↓reduceIte, gaE, h4]
    refine ⟨by omega, hg, _, by rw [hu']; rfl, ?_⟩
    rw [hu']
    exact BySl.mk (.inl rfl) (by omega) hgn (Nat.le_refl _) (by omega) hdl hce

/-! ### The document's -/
theorem digit_cut : ∀ d, d < 16 → (⟨#[48, 49, 50, 51, 52, 53, 54, 55, 56, 57, 97, 98, 99, 100, 101, 102]⟩ : ByteArray).extract d (d + 1) = ⟨[dig d].toArray⟩ := by decide +kernel

theorem ct_digit {nx : Nat} {gt : Nat → Option Blk} {d : Nat} (hd : d < 16) : Ct Try.prog 42 [.int .u8 (d : Nat)] nx gt fun v _ _ => v = .string ⟨[dig d].toArray⟩ := by
  refine Ct.of hmx r_lanyardref01_digit (by simp [c_lanyardref01_digit]) fun b hb => ?_
  have e : ((d : Int) + 1).toNat = d + 1 := by omega
  simp only [c_lanyardref01_digit, ↓gaW, ↓gaC, ↓gaN, gaP, Nat.reduceEqDiff, Nat.reduceLeDiff, Nat.reduceAdd, Nat.reduceSub, Nat.reduceMul, Int.reduceLT, Int.reduceLE, Int.reduceEq, Int.reduceToNat, Int.reduceAdd, Int.reduceSub, Int.reduceMul, reduceCtorEq, ↓reduceIte, gaE, u8_i ((d : Int) + 1) (by omega), e, digit_cut d hd]
  repeat refine And.intro (by first | omega | (show (d : Int) + 1 ≤ 16; omega)) ?_
  exact fun _ _ => trivial

theorem ct_rHex {nx : Nat} {gt : Nat → Option Blk} {A : Option Addr} {n c : Nat} {l : List UInt8} (hr : Row nx gt 1 A n (l.map u8V)) (hn : n < 1000000) :
    Ct Try.prog 23 [.slice A n c] nx gt fun v _ _ => v = .string ⟨(hexL l).toArray⟩ := by
  refine Ct.of hmx r_lanyardref01_Hex (by simp [c_lanyardref01_Hex]) fun b hb => ?_
  have hlen : l.length = n := by simpa using hr.len
  simp only [c_lanyardref01_Hex, ↓gaW, ↓gaC, ↓gaN, gaP, Nat.reduceEqDiff, Nat.reduceLeDiff, Nat.reduceAdd, Nat.reduceSub, Nat.reduceMul, Int.reduceLT, Int.reduceLE, Int.reduceEq, Int.reduceToNat, Int.reduceAdd, Int.reduceSub, Int.reduceMul, reduceCtorEq, ↓reduceIte]
  refine loop_of (fun j f m => ∃ (i x : Nat) (g : Nat → Option Blk), j = n - i ∧ i ≤ n ∧ f 0 = .slice A n c ∧ f 4 = .int .i64 (i : Nat) ∧ f 3 = .string ⟨(hexL (l.take i)).toArray⟩ ∧ m = ⟨x, b, g⟩ ∧ nx ≤ x ∧ (∀ i, i < nx → g i = gt i)) n
    ⟨0, nx, gt, by omega, by omega, rfl, rfl, rfl, rfl, by omega, fun _ _ => rfl⟩ ?_
  rintro j f m ⟨i, x, g, rfl, hi, h0, h4, h3, rfl, hx, hg⟩
  simp only [↓gaW, ↓gaC, ↓gaN, gaP, Nat.reduceEqDiff, Nat.reduceLeDiff, Nat.reduceAdd, Nat.reduceSub, Nat.reduceMul, Int.reduceLT, Int.reduceLE, Int.reduceEq, Int.reduceToNat, Int.reduceAdd, Int.reduceSub, Int.reduceMul, reduceCtorEq, ↓reduceIte, h0, h4]
  refine condK_dec (fun hlt => ?_) fun hge => ?_
  · have hik : i < n := by omega
    obtain ⟨a, ce, ro, rfl, e2, e3, e4, e5⟩ := hr.cells (by omega)
    have e5' := e5 i hik
    rw [getD_u8 (by omega)] at e5'
    have hc := (l.getD i 0).toNat_lt
    have htk : l.take (i + 1) = l.take i ++ [l.getD i 0] := by
      rw [List.take_add_one, List.getD_eq_getElem?_getD, List.getElem?_eq_getElem (by omega)]; rfl
    have e3' : g a.block = some (.cells ce ro) := by rw [hg _ e2, e3]
    have q1 : (((l.getD i 0).toNat : Nat) : Int).tdiv 16 = (((l.getD i 0).toNat / 16 : Nat) : Int) := rfl
    have q2 : (((l.getD i 0).toNat : Nat) : Int).tmod 16 = (((l.getD i 0).toNat % 16 : Nat) : Int) := rfl
    have hl1 : (hexL (l.take i)).length = 2 * i := by rw [hexL_length, List.length_take]; omega
    simp only [↓gaW, ↓gaC, ↓gaN, gaP, Nat.reduceEqDiff, Nat.reduceLeDiff, Nat.reduceAdd, Nat.reduceSub, Nat.reduceMul, Int.reduceLT, Int.reduceLE, Int.reduceEq, Int.reduceToNat, Int.reduceAdd, Int.reduceSub, Int.reduceMul, reduceCtorEq, ↓reduceIte, h0, h4, h3, e3', e5', q1, u8_i _ (show 0 ≤ (((l.getD i 0).toNat / 16 : Nat) : Int) ∧ (((l.getD i 0).toNat / 16 : Nat) : Int) ≤ 255 by omega)]
    repeat refine And.intro (by omega) ?_
    refine callQ_of (ct_digit (by omega)) (fun v nx1 gt1 hle1 hk1 hC => ?_)
    subst hC
    have e3'' : gt1 a.block = some (.cells ce ro) := by rw [hk1 _ (by omega), e3']
    simp only [↓gaW, ↓gaC, ↓gaN, gaP, Nat.reduceEqDiff, Nat.reduceLeDiff, Nat.reduceAdd, Nat.reduceSub, Nat.reduceMul, Int.reduceLT, Int.reduceLE, Int.reduceEq, Int.reduceToNat, Int.reduceAdd, Int.reduceSub, Int.reduceMul, reduceCtorEq, ↓reduceIte, h0, h4, h3, e3'', e5', q2, str_app, str_size]
    refine And.intro (by simp; omega) ?_
    repeat refine And.intro (by omega) ?_
    refine callQ_of (ct_digit (by omega)) (fun v nx2 gt2 hle2 hk2 hC => ?_)
    subst hC
    simp only [↓gaW, ↓gaC, ↓gaN, gaP, Nat.reduceEqDiff, Nat.reduceLeDiff, Nat.reduceAdd, Nat.reduceSub, Nat.reduceMul, Int.reduceLT, Int.reduceLE, Int.reduceEq, Int.reduceToNat, Int.reduceAdd, Int.reduceSub, Int.reduceMul, reduceCtorEq, ↓reduceIte, h0, h4, h3, str_app, str_size, i64_w ((i : Int) + 1) (by omega)]
    refine And.intro (by simp; omega) ?_
    refine ⟨n - (i + 1), by omega, i + 1, nx2, gt2, rfl, by omega, h0, rfl, ?_, rfl, by omega, fun i hi => by rw [hk2 i (by omega), hk1 i (by omega), hg i hi]⟩
    rw [htk, hexL_append]
    simp [putR, hexL]
  · have : i = n := by omega
    subst this
    rw [List.take_of_length_le (by omega)] at h3
    simp only [↓gaW, ↓gaC, ↓gaN, gaP, Nat.reduceEqDiff, Nat.reduceLeDiff, Nat.reduceAdd, Nat.reduceSub, Nat.reduceMul, Int.reduceLT, Int.reduceLE, Int.reduceEq, Int.reduceToNat, Int.reduceAdd, Int.reduceSub, Int.reduceMul, reduceCtorEq, ↓reduceIte, gaE, h3]
    exact ⟨by omega, hg⟩

theorem ct_rUnhex {nx : Nat} {gt : Nat → Option Blk} {s : ByteArray} (hn : s.size < 1000000) :
    Ct Try.prog 21 [.string s] nx gt fun v nx' gt' => UnV nx' gt' s.data.toList v := by
  refine Ct.of hmx r_lanyardref01_Unhex (by simp [c_lanyardref01_Unhex]) fun b hb => ?_
  have hlen : s.data.toList.length = s.size := by simp
  generalize hL : s.data.toList = L at hlen ⊢
  simp only [c_lanyardref01_Unhex, ↓gaW, ↓gaC, ↓gaN, gaP, Nat.reduceEqDiff, Nat.reduceLeDiff, Nat.reduceAdd, Nat.reduceSub, Nat.reduceMul, Int.reduceLT, Int.reduceLE, Int.reduceEq, Int.reduceToNat, Int.reduceAdd, Int.reduceSub, Int.reduceMul, reduceCtorEq, ↓reduceIte]
  refine loop_of (fun j f m => ∃ (i x : Nat) (g : Nat → Option Blk) (A : Option Addr) (dn : List UInt8), j = s.size + 2 - 2 * i ∧ 2 * i ≤ s.size ∧ f 0 = .string s ∧ f 4 = .slice A i i ∧ f 5 = .int .i64 (2 * i : Nat) ∧ m = ⟨x, b, g⟩ ∧ nx ≤ x ∧ (∀ i, i < nx → g i = gt i) ∧ Own nx b x g 1 A i (dn.map u8V) ∧ unh L = (unh (L.drop (2 * i))).map (dn ++ ·)) (s.size + 2)
    ⟨0, nx, gt, none, [], by omega, by omega, rfl, rfl, rfl, rfl, by omega, fun _ _ => rfl, .nil, by simp⟩ ?_
  rintro j f m ⟨i, x, g, A, dn, rfl, hi, h0, h4, h5, rfl, hx, hg, hown, hu⟩
  simp only [↓gaW, ↓gaC, ↓gaN, gaP, Nat.reduceEqDiff, Nat.reduceLeDiff, Nat.reduceAdd, Nat.reduceSub, Nat.reduceMul, Int.reduceLT, Int.reduceLE, Int.reduceEq, Int.reduceToNat, Int.reduceAdd, Int.reduceSub, Int.reduceMul, reduceCtorEq, ↓reduceIte, h0, h5]
  refine condK_dec (fun hlt => ?_) fun hge => ?_
  · have m2 : IntKind.i64.wrap (((2 * i : Nat) : Int) + 1) = ((2 * i + 1 : Nat) : Int) := by rw [i64_w _ (by omega)]; omega
    by_cases hend : ((2 * i + 1 : Nat) : Int) = (s.size : Int)
    · have hnone : unh L = none := unh_odd i L (by omega)
      simp only [↓gaW, ↓gaC, ↓gaN, gaP, Nat.reduceEqDiff, Nat.reduceLeDiff, Nat.reduceAdd, Nat.reduceSub, Nat.reduceMul, Int.reduceLT, Int.reduceLE, Int.reduceEq, Int.reduceToNat, Int.reduceAdd, Int.reduceSub, Int.reduceMul, reduceCtorEq, ↓reduceIte, gaE, h0, h5, m2, hend, decide_true]
      exact ⟨by omega, hg, _, by rw [hnone]; rfl, by rw [hnone]; exact .nil⟩
    have ha := (L.getD (2 * i) 0).toNat_lt
    have hb2 := (L.getD (2 * i + 1) 0).toNat_lt
    have hd : L.drop (2 * i) = L.getD (2 * i) 0 :: L.getD (2 * i + 1) 0 :: L.drop (2 * (i + 1)) := by
      rw [drop_getD (by omega), drop_getD (l := L) (i := 2 * i + 1) (by omega)]; rfl
    obtain ⟨ca, hca⟩ : ∃ c, L.getD (2 * i) 0 = c := ⟨_, rfl⟩
    obtain ⟨cb, hcb⟩ : ∃ c, L.getD (2 * i + 1) 0 = c := ⟨_, rfl⟩
    rw [hca] at ha hd
    rw [hcb] at hb2 hd
    rw [hd, unh] at hu
    have wa := wr_le ca.toNat
    have wb := wr_le cb.toNat
    simp only [↓gaW, ↓gaC, ↓gaN, gaP, Nat.reduceEqDiff, Nat.reduceLeDiff, Nat.reduceAdd, Nat.reduceSub, Nat.reduceMul, Int.reduceLT, Int.reduceLE, Int.reduceEq, Int.reduceToNat, Int.reduceAdd, Int.reduceSub, Int.reduceMul, reduceCtorEq, ↓reduceIte, h0, h5, m2, hend, decide_false, hL, hca, hcb, u8V]
    repeat refine And.intro (by omega) ?_
    refine callK_of (ct_rworth ha) (fun v nx1 gt1 hle1 hk1 hC => ?_) (by omega)
    subst hC
    by_cases ha16 : wr ca.toNat = 16
    · rw [if_pos (.inl ha16)] at hu
      have q : (((wr ca.toNat : Nat) : Int) = 16) := by omega
      simp only [↓gaW, ↓gaC, ↓gaN, gaP, Nat.reduceEqDiff, Nat.reduceLeDiff, Nat.reduceAdd, Nat.reduceSub, Nat.reduceMul, Int.reduceLT, Int.reduceLE, Int.reduceEq, Int.reduceToNat, Int.reduceAdd, Int.reduceSub, Int.reduceMul, reduceCtorEq, ↓reduceIte, gaE, q, decide_true]
      exact ⟨by omega, fun i hi => by rw [hk1 i (by omega), hg i hi], _, by rw [hu]; rfl, by rw [hu]; exact .nil⟩
    have qa : ¬ (((wr ca.toNat : Nat) : Int) = 16) := by omega
    simp only [↓gaW, ↓gaC, ↓gaN, gaP, Nat.reduceEqDiff, Nat.reduceLeDiff, Nat.reduceAdd, Nat.reduceSub, Nat.reduceMul, Int.reduceLT, Int.reduceLE, Int.reduceEq, Int.reduceToNat, Int.reduceAdd, Int.reduceSub, Int.reduceMul, reduceCtorEq, ↓reduceIte, h0, h5, m2, qa, decide_false, hL, hca, hcb, u8V]
    repeat refine And.intro (by omega) ?_
    refine callK_of (ct_rworth hb2) (fun v nx2 gt2 hle2 hk2 hC => ?_) (by omega)
    subst hC
    by_cases hb16 : wr cb.toNat = 16
    · rw [if_pos (.inr hb16)] at hu
      have q : (((wr cb.toNat : Nat) : Int) = 16) := by omega
      simp only [↓gaW, ↓gaC, ↓gaN, gaP, Nat.reduceEqDiff, Nat.reduceLeDiff, Nat.reduceAdd, Nat.reduceSub, Nat.reduceMul, Int.reduceLT, Int.reduceLE, Int.reduceEq, Int.reduceToNat, Int.reduceAdd, Int.reduceSub, Int.reduceMul, reduceCtorEq, ↓reduceIte, gaE, q, decide_true]
      exact ⟨by omega, fun i hi => by rw [hk2 i (by omega), hk1 i (by omega), hg i hi], _, by rw [hu]; rfl, by rw [hu]; exact .nil⟩
    have qb : ¬ (((wr cb.toNat : Nat) : Int) = 16) := by omega
    rw [if_neg (by omega)] at hu
    simp only [↓gaW, ↓gaC, ↓gaN, gaP, Nat.reduceEqDiff, Nat.reduceLeDiff, Nat.reduceAdd, Nat.reduceSub, Nat.reduceMul, Int.reduceLT, Int.reduceLE, Int.reduceEq, Int.reduceToNat, Int.reduceAdd, Int.reduceSub, Int.reduceMul, reduceCtorEq, ↓reduceIte, h0, h4, h5, m2, qb, decide_false, hL, hca, hcb, u8V]
    repeat refine And.intro (by omega) ?_
    refine callQ_of (ct_rworth ha) (fun v nx3 gt3 hle3 hk3 hC => ?_)
    subst hC
    have w1 : IntKind.u8.wrap (((wr ca.toNat : Nat) : Int) * 16) = ((wr ca.toNat * 16 : Nat) : Int) := by rw [u8_w]; omega
    simp only [↓gaW, ↓gaC, ↓gaN, gaP, Nat.reduceEqDiff, Nat.reduceLeDiff, Nat.reduceAdd, Nat.reduceSub, Nat.reduceMul, Int.reduceLT, Int.reduceLE, Int.reduceEq, Int.reduceToNat, Int.reduceAdd, Int.reduceSub, Int.reduceMul, reduceCtorEq, ↓reduceIte, h0, h4, h5, m2, w1, hL, hca, hcb, u8V]
    repeat refine And.intro (by omega) ?_
    refine callQ_of (ct_rworth hb2) (fun v nx4 gt4 hle4 hk4 hC => ?_)
    subst hC
    have w2 : IntKind.u8.wrap (((wr ca.toNat * 16 : Nat) : Int) + ((wr cb.toNat : Nat) : Int)) = (((UInt8.ofNat (wr ca.toNat * 16 + wr cb.toNat)).toNat : Nat) : Int) := by rw [← u8_of]; congr 1
    have hg4 : ∀ i, i < x → gt4 i = g i := fun i hi => by rw [hk4 i (by omega), hk3 i (by omega), hk2 i (by omega), hk1 i (by omega)]
    simp only [↓gaW, ↓gaC, ↓gaN, gaP, Nat.reduceEqDiff, Nat.reduceLeDiff, Nat.reduceAdd, Nat.reduceSub, Nat.reduceMul, Int.reduceLT, Int.reduceLE, Int.reduceEq, Int.reduceToNat, Int.reduceAdd, Int.reduceSub, Int.reduceMul, reduceCtorEq, ↓reduceIte, fillL, splice, List.take_zero, List.drop_zero, List.drop_succ_cons, List.take_succ_cons, List.drop_nil, List.take_nil, h0, h4, h5, m2, w2]
    rw [row_new (by simp), asO_e]
    have hown' : Own nx b (nx4 + 1) (upd gt4 nx4 (some (.cells [.int .u8 ((UInt8.ofNat (wr ca.toNat * 16 + wr cb.toNat)).toNat : Nat)] false))) 1 A i (dn.map u8V) :=
      hown.keep (by omega) fun i hi => by simp only [upd_e]; rw [if_neg (by omega), hg4 i hi]
    refine own_append hown' (by omega) (by omega) (by omega) (by omega) rfl (all1 rfl) (by omega) (by omega) fun g' hg' ho' => ?_
    simp only [↓gaW, ↓gaC, ↓gaN, gaP, Nat.reduceEqDiff, Nat.reduceLeDiff, Nat.reduceAdd, Nat.reduceSub, Nat.reduceMul, Int.reduceLT, Int.reduceLE, Int.reduceEq, Int.reduceToNat, Int.reduceAdd, Int.reduceSub, Int.reduceMul, reduceCtorEq, ↓reduceIte, h0, h4, h5, i64_w (((2 * i : Nat) : Int) + 2) (by omega)]
    refine ⟨s.size + 2 - 2 * (i + 1), by omega, i + 1, nx4 + 1 + 1, g', _, dn ++ [UInt8.ofNat (wr ca.toNat * 16 + wr cb.toNat)], rfl, by omega, h0, rfl, ?_, rfl, by omega, fun i hi => ?_, ?_, ?_⟩
    · simp [putR]; omega
    · rw [hg' i hi]; simp only [upd_e]; rw [if_neg (by omega), hg4 i (by omega), hg i hi]
    · simpa [u8V] using ho'
    · rw [hu]
      cases unh (L.drop (2 * (i + 1))) <;> simp
  · have : 2 * i = s.size := by omega
    rw [List.drop_of_length_le (by omega)] at hu
    have hu' : unh L = some dn := by rw [hu]; simp [unh]
    simp only [↓gaW, ↓gaC, ↓gaN, gaP, Nat.reduceEqDiff, Nat.reduceLeDiff, Nat.reduceAdd, Nat.reduceSub, Nat.reduceMul, Int.reduceLT, Int.reduceLE, Int.reduceEq, Int.reduceToNat, Int.reduceAdd, Int.reduceSub, Int.reduceMul, reduceCtorEq, ↓reduceIte, gaE, h4]
    refine ⟨by omega, hg, _, by rw [hu']; rfl, ?_⟩
    rw [hu']
    have := hown.row
    rw [Nat.mul_one] at this
    exact ⟨_, _, _, rfl, Nat.le_refl _, by simpa using this.len, this⟩

theorem fn_Digits {nx : Nat} {gt : Nat → Option Blk} {A : Option Addr} {n c : Nat} {l : List UInt8} {s : ByteArray} (hr : Row nx gt 1 A n (l.map u8V)) (hc : n ≤ c) (hs : s.size ≤ 140737488351232) :
    Ct Try.prog 4 [.slice A n c, .string s] nx gt fun v _ _ => v = .bool true := by
  refine Ct.of hmx r_lanyardlaw01_OctetDigits (by simp [c_lanyardlaw01_OctetDigits]) fun b hb => ?_
  simp only [c_lanyardlaw01_OctetDigits, ↓gaW, ↓gaC, ↓gaN, gaP, Nat.reduceEqDiff, Nat.reduceLeDiff, Nat.reduceAdd, Nat.reduceSub, Nat.reduceMul, Int.reduceLT, Int.reduceLE, Int.reduceEq, Int.reduceToNat, Int.reduceAdd, Int.reduceSub, Int.reduceMul, reduceCtorEq, ↓reduceIte]
  refine callK_of ct_awake01 (fun v nx1 gt1 hle1 hk1 hC => ?_) hb
  subst hC
  by_cases h1 : (1000 : Int) < n
  · simp only [↓gaW, ↓gaC, ↓gaN, gaP, Nat.reduceEqDiff, Nat.reduceLeDiff, Nat.reduceAdd, Nat.reduceSub, Nat.reduceMul, Int.reduceLT, Int.reduceLE, Int.reduceEq, Int.reduceToNat, Int.reduceAdd, Int.reduceSub, Int.reduceMul, reduceCtorEq, ↓reduceIte, gaE, h1, decide_true]
    exact ⟨by omega, hk1⟩
  by_cases h2 : (2000 : Int) < s.size
  · simp only [↓gaW, ↓gaC, ↓gaN, gaP, Nat.reduceEqDiff, Nat.reduceLeDiff, Nat.reduceAdd, Nat.reduceSub, Nat.reduceMul, Int.reduceLT, Int.reduceLE, Int.reduceEq, Int.reduceToNat, Int.reduceAdd, Int.reduceSub, Int.reduceMul, reduceCtorEq, ↓reduceIte, gaE, h1, h2, decide_true, decide_false]
    exact ⟨by omega, hk1⟩
  simp only [↓gaW, ↓gaC, ↓gaN, gaP, Nat.reduceEqDiff, Nat.reduceLeDiff, Nat.reduceAdd, Nat.reduceSub, Nat.reduceMul, Int.reduceLT, Int.reduceLE, Int.reduceEq, Int.reduceToNat, Int.reduceAdd, Int.reduceSub, Int.reduceMul, reduceCtorEq, ↓reduceIte, h1, h2, decide_false]
  refine callK_of (ct_Unhex (s := s) (by omega)) (fun v nx2 gt2 hle2 hk2 hC => ?_) (by omega)
  obtain ⟨sl, rfl, A1, n1, c1, rfl, hc1, hn1, hr1⟩ := hC
  simp only [↓gaW, ↓gaC, ↓gaN, gaP, Nat.reduceEqDiff, Nat.reduceLeDiff, Nat.reduceAdd, Nat.reduceSub, Nat.reduceMul, Int.reduceLT, Int.reduceLE, Int.reduceEq, Int.reduceToNat, Int.reduceAdd, Int.reduceSub, Int.reduceMul, reduceCtorEq, ↓reduceIte]
  repeat refine And.intro (by omega) ?_
  refine callK_of (ct_rUnhex (s := s) (by omega)) (fun v nx3 gt3 hle3 hk3 hC => ?_) (by omega)
  obtain ⟨sl, rfl, A2, n2, c2, rfl, hc2, hn2, hr2⟩ := hC
  have hk3' : ∀ i, i < nx → gt3 i = gt i := fun i hi => by rw [hk3 i (by omega), hk2 i (by omega), hk1 i hi]
  simp only [↓gaW, ↓gaC, ↓gaN, gaP, Nat.reduceEqDiff, Nat.reduceLeDiff, Nat.reduceAdd, Nat.reduceSub, Nat.reduceMul, Int.reduceLT, Int.reduceLE, Int.reduceEq, Int.reduceToNat, Int.reduceAdd, Int.reduceSub, Int.reduceMul, reduceCtorEq, ↓reduceIte]
  repeat refine And.intro (by omega) ?_
  refine callK_of (ct_Hex (hr.keep (by omega) hk3') (by omega)) (fun v nx4 gt4 hle4 hk4 hC => ?_) (by omega)
  subst hC
  have hk4' : ∀ i, i < nx → gt4 i = gt i := fun i hi => by rw [hk4 i (by omega), hk3' i hi]
  simp only [↓gaW, ↓gaC, ↓gaN, gaP, Nat.reduceEqDiff, Nat.reduceLeDiff, Nat.reduceAdd, Nat.reduceSub, Nat.reduceMul, Int.reduceLT, Int.reduceLE, Int.reduceEq, Int.reduceToNat, Int.reduceAdd, Int.reduceSub, Int.reduceMul, reduceCtorEq, ↓reduceIte]
  refine callK_of (ct_rHex (hr.keep (by omega) hk4') (by omega)) (fun v nx5 gt5 hle5 hk5 hC => ?_) (by omega)
  subst hC
  have hr1' := (hr1.keep hle3 hk3).keep (show nx3 ≤ nx5 by omega) (gt' := gt5) (fun i hi => by rw [hk5 i (by omega), hk4 i hi])
  have hr2' := hr2.keep (show nx3 ≤ nx5 by omega) (gt' := gt5) (fun i hi => by rw [hk5 i (by omega), hk4 i hi])
  have q1 : ∀ b, rowOf ⟨nx5, b, gt5⟩ A1 n1 = some _ := fun b => hr1'.rowOf
  have q2 : ∀ b, rowOf ⟨nx5, b, gt5⟩ A2 n2 = some _ := fun b => hr2'.rowOf
  simp only [↓gaW, ↓gaC, ↓gaN, gaP, Nat.reduceEqDiff, Nat.reduceLeDiff, Nat.reduceAdd, Nat.reduceSub, Nat.reduceMul, Int.reduceLT, Int.reduceLE, Int.reduceEq, Int.reduceToNat, Int.reduceAdd, Int.reduceSub, Int.reduceMul, reduceCtorEq, ↓reduceIte, gaE, q1, q2, bytesOf_map]
  exact ⟨by omega, fun i hi => by rw [hk5 i (by omega), hk4' i hi]⟩
end Go.Ga

namespace Go.Ga
open Go Go.Proofs
set_option linter.unusedSimpArgs false
set_option linter.unusedVariables false

theorem wr_dig : ∀ d, d < 16 → wr (dig d).toNat = d := by decide +kernel
theorem dig_wr : ∀ c : Nat, c < 256 → ¬ wr c = 16 → (dig (wr c)).toNat = c := by decide +kernel
theorem unh_hexL (l : List UInt8) : unh (hexL l) = some l := by
  induction l with
  | nil => rfl
  | cons b l ih =>
    have hb := b.toNat_lt
    have h1 : wr (dig (b.toNat / 16)).toNat = b.toNat / 16 := wr_dig _ (by omega)
    have h2 : wr (dig (b.toNat % 16)).toNat = b.toNat % 16 := wr_dig _ (by omega)
    rw [hexL, unh, h1, h2, if_neg (by omega), ih]
    have : b.toNat / 16 * 16 + b.toNat % 16 = b.toNat := by omega
    rw [this]
    simp
theorem hexL_unh : ∀ (k : Nat) (s d : List UInt8), s.length ≤ k → unh s = some d → hexL d = s := by
  intro k
  induction k with
  | zero =>
    intro s d hs h
    have : s = [] := List.eq_nil_of_length_eq_zero (by omega)
    subst this
    simp only [unh, Option.some.injEq] at h
    subst h; rfl
  | succ k ih =>
    intro s d hs h
    match s, hs, h with
    | [], _, h =>
      simp only [unh, Option.some.injEq] at h
      subst h; rfl
    | [a], _, h => simp [unh] at h
    | a :: b :: l, hs, h =>
      rw [unh] at h
      split at h
      · cases h
      · rename_i hab
        have ha := a.toNat_lt
        have hb := b.toNat_lt
        have wa := wr_le a.toNat
        have wb := wr_le b.toNat
        cases hl : unh l with
        | none => simp [hl] at h
        | some l' =>
          simp only [hl, Option.map_some, Option.some.injEq] at h
          subst h
          have e : (UInt8.ofNat (wr a.toNat * 16 + wr b.toNat)).toNat = wr a.toNat * 16 + wr b.toNat := by
            rw [UInt8.toNat_ofNat']; omega
          rw [hexL, e, ih l l' (by simp at hs; omega) hl]
          have e1 : (wr a.toNat * 16 + wr b.toNat) / 16 = wr a.toNat := by omega
          have e2 : (wr a.toNat * 16 + wr b.toNat) % 16 = wr b.toNat := by omega
          rw [e1, e2]
          have d1 : dig (wr a.toNat) = a := UInt8.toNat_inj.1 (dig_wr _ ha (by omega))
          have d2 : dig (wr b.toNat) = b := UInt8.toNat_inj.1 (dig_wr _ hb (by omega))
          rw [d1, d2]

theorem be_succ (k n : Nat) : be (k + 1) n = UInt8.ofNat (n / 256 ^ k) :: be k n := by
  refine List.ext_getElem (by simp [be]) fun i h1 h2 => ?_
  simp only [be, List.getElem_map, List.getElem_range]
  match i with
  | 0 => simp
  | i + 1 =>
    simp only [List.getElem_cons_succ, List.getElem_map, List.getElem_range]
    congr 3
    omega
theorem valFrom_be (n : Nat) : ∀ k x, valFrom x (be k n) = x * 256 ^ k + n % 256 ^ k := by
  intro k
  induction k with
  | zero => intro x; simp [be, valFrom, Nat.mod_one]
  | succ k ih =>
    intro x
    have e1 : n % 256 ^ (k + 1) = n % 256 ^ k + 256 ^ k * (n / 256 ^ k % 256) := by rw [Nat.pow_succ, Nat.mod_mul]
    have e2 : (UInt8.ofNat (n / 256 ^ k)).toNat = n / 256 ^ k % 256 := by rw [UInt8.toNat_ofNat']
    rw [be_succ, valFrom_cons, ih, e1, e2, Nat.pow_succ]
    generalize n / 256 ^ k % 256 = y
    generalize n % 256 ^ k = w
    generalize 256 ^ k = z
    rw [Nat.add_mul, Nat.mul_assoc x 256 z, Nat.mul_comm 256 z, Nat.mul_comm y z]
    omega
theorem val_be {k n : Nat} (h : n < 256 ^ k) : val (be k n) = n := by
  show valFrom 0 (be k n) = n
  rw [valFrom_be, Nat.mod_eq_of_lt h]; omega

theorem fn_Back {nx : Nat} {gt : Nat → Option Blk} {A : Option Addr} {n c x : Nat} {l : List UInt8} {s : ByteArray} (hr : Row nx gt 1 A n (l.map u8V)) (hc : n ≤ c) (hs : s.size ≤ 140737488351232) (hx : x < 18446744073709551616) :
    Ct Try.prog 5 [.slice A n c, .string s, .int .u64 (x : Nat)] nx gt fun v _ _ => v = .bool true := by
  refine Ct.of hmx r_lanyardlaw01_OctetBack (by simp [c_lanyardlaw01_OctetBack]) fun b hb => ?_
  have rest : ∀ (nx' : Nat) (gt' : Nat → Option Blk) (A1 A2 : Option Addr) (n1 c1 c2 k : Nat), nx ≤ nx' → (∀ i, i < nx → gt' i = gt i) → Row nx' gt' 1 A1 n1 (l.map u8V) → Row nx' gt' 1 A2 k ((be k x).map u8V) → isLeast x k →
      ∀ f : Regs, f 0 = .slice A n c → f 2 = .int .u64 (x : Nat) → f 7 = .bool true → f 8 = .slice A1 n1 c1 → f 9 = .bool true → f 12 = .slice A2 k c2 → f 13 = .int .u64 (x : Nat) → f 14 = .bool true →
      RC.vc Try.prog (match c_lanyardlaw01_OctetBack.code with | .seq _ (.seq _ (.seq _ (.seq _ (.seq _ (.seq _ (.seq _ (.seq _ c))))))) => c | _ => .skip) f ⟨nx', b, gt'⟩ (D Try.prog (.top (endK c_lanyardlaw01_OctetBack.results b nx gt fun v _ _ => v = .bool true))) := by
    intro nx' gt' A1 A2 n1 c1 c2 k hle hk hr1 hr2 hkl f h0 h2 h7 h8 h9 h12 h13 h14
    have hr0 := hr.keep hle hk
    have q0 : ∀ b, rowOf ⟨nx', b, gt'⟩ A n = some _ := fun b => hr0.rowOf
    have q1 : ∀ b, rowOf ⟨nx', b, gt'⟩ A1 n1 = some _ := fun b => hr1.rowOf
    have k1 := hkl.1
    have k8 := hkl.2.1
    have t1 : (1 : Int) ≤ (k : Int) := by omega
    have t2 : (k : Int) ≤ 8 := by omega
    by_cases hk1 : k = 1
    · have t3 : (k : Int) = 1 := by omega
      simp only [c_lanyardlaw01_OctetBack, ↓gaW, ↓gaC, ↓gaN, gaP, Nat.reduceEqDiff, Nat.reduceLeDiff, Nat.reduceAdd, Nat.reduceSub, Nat.reduceMul, Int.reduceLT, Int.reduceLE, Int.reduceEq, Int.reduceToNat, Int.reduceAdd, Int.reduceSub, Int.reduceMul, reduceCtorEq, ↓reduceIte, gaE, h0, h2, h7, h8, h9, h12, h13, h14, q0, q1, bytesOf_map, t1, t2, t3, decide_true]
      exact ⟨by omega, hk⟩
    · have t3 : ¬ (k : Int) = 1 := by omega
      obtain ⟨a, ce, ro, rfl, e2, e3, e4, e5⟩ := hr2.cells (by omega)
      have e5' := e5 0 (by omega)
      rw [getD_u8 (by rw [be_length]; omega), be_getD _ _ _ (by omega)] at e5'
      simp only [Nat.add_zero] at e5'
      have hpos : 0 < 256 ^ (k - 1) := Nat.pow_pos (by decide)
      have hge : 256 ^ (k - 1) ≤ x := by rcases hkl.2.2.2 with h | h; exact absurd h hk1; exact h
      have hlt : x < 256 ^ (k - 1) * 256 := by
        have := hkl.2.2.1
        rwa [show k = k - 1 + 1 by omega, Nat.pow_succ] at this
      have d1 : 1 ≤ x / 256 ^ (k - 1) := (Nat.le_div_iff_mul_le hpos).2 (by omega)
      have d2 : x / 256 ^ (k - 1) < 256 := (Nat.div_lt_iff_lt_mul hpos).2 (by rw [Nat.mul_comm]; exact hlt)
      have t4 : ¬ (((UInt8.ofNat (x / 256 ^ (k - 1 - 0))).toNat : Nat) : Int) = 0 := by
        rw [Nat.sub_zero, UInt8.toNat_ofNat']; omega
      simp only [c_lanyardlaw01_OctetBack, ↓gaW, ↓gaC, ↓gaN, gaP, Nat.reduceEqDiff, Nat.reduceLeDiff, Nat.reduceAdd, Nat.reduceSub, Nat.reduceMul, Int.reduceLT, Int.reduceLE, Int.reduceEq, Int.reduceToNat, Int.reduceAdd, Int.reduceSub, Int.reduceMul, reduceCtorEq, ↓reduceIte, gaE, h0, h2, h7, h8, h9, h12, h13, h14, q0, q1, bytesOf_map, t1, t2, t3, e3, e5', t4, not_false_eq_true, decide_true, decide_false]
      repeat refine And.intro (by omega) ?_
      first | exact hk | exact ⟨by omega, hk⟩
  simp only [c_lanyardlaw01_OctetBack, ↓gaW, ↓gaC, ↓gaN, gaP, Nat.reduceEqDiff, Nat.reduceLeDiff, Nat.reduceAdd, Nat.reduceSub, Nat.reduceMul, Int.reduceLT, Int.reduceLE, Int.reduceEq, Int.reduceToNat, Int.reduceAdd, Int.reduceSub, Int.reduceMul, reduceCtorEq, ↓reduceIte]
  refine callK_of ct_awake01 (fun v nx1 gt1 hle1 hk1 hC => ?_) hb
  subst hC
  by_cases h1 : (1000 : Int) < n
  · simp only [↓gaW, ↓gaC, ↓gaN, gaP, Nat.reduceEqDiff, Nat.reduceLeDiff, Nat.reduceAdd, Nat.reduceSub, Nat.reduceMul, Int.reduceLT, Int.reduceLE, Int.reduceEq, Int.reduceToNat, Int.reduceAdd, Int.reduceSub, Int.reduceMul, reduceCtorEq, ↓reduceIte, gaE, h1, decide_true]
    exact ⟨by omega, hk1⟩
  by_cases h2 : (1000 : Int) < s.size
  · simp only [↓gaW, ↓gaC, ↓gaN, gaP, Nat.reduceEqDiff, Nat.reduceLeDiff, Nat.reduceAdd, Nat.reduceSub, Nat.reduceMul, Int.reduceLT, Int.reduceLE, Int.reduceEq, Int.reduceToNat, Int.reduceAdd, Int.reduceSub, Int.reduceMul, reduceCtorEq, ↓reduceIte, gaE, h1, h2, decide_true, decide_false]
    exact ⟨by omega, hk1⟩
  have hlen : l.length = n := by simpa using hr.len
  simp only [↓gaW, ↓gaC, ↓gaN, gaP, Nat.reduceEqDiff, Nat.reduceLeDiff, Nat.reduceAdd, Nat.reduceSub, Nat.reduceMul, Int.reduceLT, Int.reduceLE, Int.reduceEq, Int.reduceToNat, Int.reduceAdd, Int.reduceSub, Int.reduceMul, reduceCtorEq, ↓reduceIte, h1, h2, decide_false]
  refine callK_of (ct_Hex (hr.keep hle1 hk1) (by omega)) (fun v nx2 gt2 hle2 hk2 hC => ?_) (by omega)
  subst hC
  simp only [↓gaW, ↓gaC, ↓gaN, gaP, Nat.reduceEqDiff, Nat.reduceLeDiff, Nat.reduceAdd, Nat.reduceSub, Nat.reduceMul, Int.reduceLT, Int.reduceLE, Int.reduceEq, Int.reduceToNat, Int.reduceAdd, Int.reduceSub, Int.reduceMul, reduceCtorEq, ↓reduceIte]
  refine callK_of (ct_Unhex (s := ⟨(hexL l).toArray⟩) (by rw [str_size, hexL_length]; omega)) (fun v nx3 gt3 hle3 hk3 hC => ?_) (by omega)
  obtain ⟨sl, rfl, hC⟩ := hC
  simp only [List.toList_toArray, unh_hexL] at hC ⊢
  obtain ⟨A1, n1, c1, rfl, hc1, hn1, hr1⟩ := hC
  simp only [↓gaW, ↓gaC, ↓gaN, gaP, Nat.reduceEqDiff, Nat.reduceLeDiff, Nat.reduceAdd, Nat.reduceSub, Nat.reduceMul, Int.reduceLT, Int.reduceLE, Int.reduceEq, Int.reduceToNat, Int.reduceAdd, Int.reduceSub, Int.reduceMul, reduceCtorEq, ↓reduceIte, Option.getD_some, Option.isSome_some]
  repeat refine And.intro (by omega) ?_
  refine callK_of (ct_Unhex (s := s) (by omega)) (fun v nx4 gt4 hle4 hk4 hC => ?_) (by omega)
  obtain ⟨sl, rfl, A2, n2, c2, rfl, hc2, hn2, hr2⟩ := hC
  simp only [↓gaW, ↓gaC, ↓gaN, gaP, Nat.reduceEqDiff, Nat.reduceLeDiff, Nat.reduceAdd, Nat.reduceSub, Nat.reduceMul, Int.reduceLT, Int.reduceLE, Int.reduceEq, Int.reduceToNat, Int.reduceAdd, Int.reduceSub, Int.reduceMul, reduceCtorEq, ↓reduceIte]
  repeat refine And.intro (by omega) ?_
  refine callK_of (ct_Least hx) (fun v nx5 gt5 hle5 hk5 hC => ?_) (by omega)
  obtain ⟨k, hkl, A3, n3, c3, rfl, hc3, hn3, hr3⟩ := hC
  rw [be_length] at hn3
  subst hn3
  simp only [↓gaW, ↓gaC, ↓gaN, gaP, Nat.reduceEqDiff, Nat.reduceLeDiff, Nat.reduceAdd, Nat.reduceSub, Nat.reduceMul, Int.reduceLT, Int.reduceLE, Int.reduceEq, Int.reduceToNat, Int.reduceAdd, Int.reduceSub, Int.reduceMul, reduceCtorEq, ↓reduceIte]
  refine callK_of (ct_Num hr3 hc3 (by have := hkl.2.1; omega)) (fun v nx6 gt6 hle6 hk6 hC => ?_) (by omega)
  have hnv : numV (be k x) = .tuple #[.int .u64 (x : Nat), .bool true] := by rw [numV, val_be hkl.2.2.1, if_pos hx]
  rw [hnv] at hC
  subst hC
  have hk6' : ∀ i, i < nx → gt6 i = gt i := fun i hi => by rw [hk6 i (by omega), hk5 i (by omega), hk4 i (by omega), hk3 i (by omega), hk2 i (by omega), hk1 i hi]
  have hr1' := hr1.keep (show nx3 ≤ nx6 by omega) (gt' := gt6) (fun i hi => by rw [hk6 i (by omega), hk5 i (by omega), hk4 i hi])
  have hr2' := hr2.keep (show nx4 ≤ nx6 by omega) (gt' := gt6) (fun i hi => by rw [hk6 i (by omega), hk5 i hi])
  have hr3' := hr3.keep (show nx5 ≤ nx6 by omega) (gt' := gt6) hk6
  cases hu : unh s.data.toList with
  | none =>
    simp only [↓gaW, ↓gaN, gaP, Nat.reduceEqDiff, Nat.reduceLeDiff, Nat.reduceAdd, Nat.reduceSub, Nat.reduceMul, Int.reduceLT, Int.reduceLE, Int.reduceEq, Int.reduceToNat, Int.reduceAdd, Int.reduceSub, Int.reduceMul, reduceCtorEq, ↓reduceIte, hu, Option.isSome_none]
    repeat refine And.intro (by omega) ?_
    refine condK_of (fun h => by simp at h) fun _ => ?_
    rw [vc_skip, D_thn_n]
    refine rest nx6 gt6 A1 A3 n1 c1 c3 k (by omega) hk6' hr1' hr3' hkl _ ?_ ?_ ?_ ?_ ?_ ?_ ?_ ?_ <;> rfl
  | some d =>
    rw [hu] at hr2' hn2
    simp only [Option.getD_some] at hr2' hn2
    have hhd := hexL_unh _ _ _ (Nat.le_refl _) hu
    have hsz : s.data.toList.length = s.size := by simp
    have hd2 : n2 < 1000000 := by
      have := congrArg List.length hhd
      rw [hexL_length] at this
      omega
    simp only [↓gaW, ↓gaN, gaP, Nat.reduceEqDiff, Nat.reduceLeDiff, Nat.reduceAdd, Nat.reduceSub, Nat.reduceMul, Int.reduceLT, Int.reduceLE, Int.reduceEq, Int.reduceToNat, Int.reduceAdd, Int.reduceSub, Int.reduceMul, reduceCtorEq, ↓reduceIte, hu, Option.isSome_some]
    repeat refine And.intro (by omega) ?_
    refine callK_of (ct_Hex hr2' hd2) (fun v nx7 gt7 hle7 hk7 hC => ?_) (by omega)
    subst hC
    have hss : ((⟨(hexL d).toArray⟩ : ByteArray).toList == s.toList) = true := by
      rw [ByteArray.toList_eq, ByteArray.toList_eq, hhd]; simp
    simp only [↓gaW, ↓gaN, gaP, Nat.reduceEqDiff, Nat.reduceLeDiff, Nat.reduceAdd, Nat.reduceSub, Nat.reduceMul, Int.reduceLT, Int.reduceLE, Int.reduceEq, Int.reduceToNat, Int.reduceAdd, Int.reduceSub, Int.reduceMul, reduceCtorEq, ↓reduceIte, hss]
    refine condK_of (fun h => by simp at h) fun _ => ?_
    rw [vc_skip, D_thn_n]
    refine rest nx7 gt7 A1 A3 n1 c1 c3 k (by omega) (fun i hi => by rw [hk7 i (by omega), hk6' i hi]) (hr1'.keep hle7 hk7) (hr3'.keep hle7 hk7) hkl _ ?_ ?_ ?_ ?_ ?_ ?_ ?_ ?_ <;> rfl
end Go.Ga

namespace Go.Ga
open Go Go.Proofs
set_option linter.unusedSimpArgs false
set_option linter.unusedVariables false

theorem cmpL_be (a b : Nat) : ∀ k, cmpL (be k a) (be k b) = cmpB (a % 256 ^ k) (b % 256 ^ k) := by
  intro k
  induction k with
  | zero => simp [be, cmpL, cmpB, Nat.mod_one]
  | succ k ih =>
    have e1 : a % 256 ^ (k + 1) = a % 256 ^ k + 256 ^ k * (a / 256 ^ k % 256) := by rw [Nat.pow_succ, Nat.mod_mul]
    have e2 : b % 256 ^ (k + 1) = b % 256 ^ k + 256 ^ k * (b / 256 ^ k % 256) := by rw [Nat.pow_succ, Nat.mod_mul]
    have f1 : (UInt8.ofNat (a / 256 ^ k)).toNat = a / 256 ^ k % 256 := by rw [UInt8.toNat_ofNat']
    have f2 : (UInt8.ofNat (b / 256 ^ k)).toNat = b / 256 ^ k % 256 := by rw [UInt8.toNat_ofNat']
    have p1 : a % 256 ^ k < 256 ^ k := Nat.mod_lt _ (Nat.pow_pos (by decide))
    have p2 : b % 256 ^ k < 256 ^ k := Nat.mod_lt _ (Nat.pow_pos (by decide))
    rw [be_succ, be_succ, cmpL, ih, f1, f2, e1, e2]
    generalize a / 256 ^ k % 256 = x
    generalize b / 256 ^ k % 256 = y
    generalize a % 256 ^ k = u at *
    generalize b % 256 ^ k = v at *
    generalize 256 ^ k = z at *
    rcases Nat.lt_trichotomy x y with h | h | h
    · have := Nat.mul_le_mul_left z (show x + 1 ≤ y from h)
      rw [Nat.mul_add] at this
      rw [cmpB_lt h, if_pos (by decide), cmpB_lt (by omega)]
    · subst h
      rw [cmpB_eq rfl, if_neg (by decide)]
      rcases Nat.lt_trichotomy u v with h | h | h
      · rw [cmpB_lt h, cmpB_lt (by omega)]
      · rw [cmpB_eq h, cmpB_eq (by omega)]
      · rw [cmpB_gt h, cmpB_gt (by omega)]
    · have := Nat.mul_le_mul_left z (show y + 1 ≤ x from h)
      rw [Nat.mul_add] at this
      rw [cmpB_gt h, if_pos (by decide), cmpB_gt (by omega)]

theorem fn_Same {nx : Nat} {gt : Nat → Option Blk} {x y : Nat} {many : Int} (hx : x < 18446744073709551616) (hy : y < 18446744073709551616) (hm : -9223372036854775808 ≤ many ∧ many ≤ 9223372036854775807) :
    Ct Try.prog 7 [.int .u64 (x : Nat), .int .u64 (y : Nat), .int .i64 many] nx gt fun v _ _ => v = .bool true := by
  refine Ct.of hmx r_lanyardlaw01_OctetSame (by simp [c_lanyardlaw01_OctetSame]) fun b hb => ?_
  simp only [c_lanyardlaw01_OctetSame, ↓gaW, ↓gaC, ↓gaN, gaP, Nat.reduceEqDiff, Nat.reduceLeDiff, Nat.reduceAdd, Nat.reduceSub, Nat.reduceMul, Int.reduceLT, Int.reduceLE, Int.reduceEq, Int.reduceToNat, Int.reduceAdd, Int.reduceSub, Int.reduceMul, reduceCtorEq, ↓reduceIte]
  refine callK_of ct_awake01 (fun v nx1 gt1 hle1 hk1 hC => ?_) hb
  subst hC
  simp only [↓gaW, ↓gaC, ↓gaN, gaP, Nat.reduceEqDiff, Nat.reduceLeDiff, Nat.reduceAdd, Nat.reduceSub, Nat.reduceMul, Int.reduceLT, Int.reduceLE, Int.reduceEq, Int.reduceToNat, Int.reduceAdd, Int.reduceSub, Int.reduceMul, reduceCtorEq, ↓reduceIte]
  refine callK_of (ct_Bytes hx hm) (fun v nx2 gt2 hle2 hk2 hC => ?_) (by omega)
  obtain ⟨sl, rfl, A1, n1, c1, rfl, hc1, hn1, hr1⟩ := hC
  simp only [↓gaW, ↓gaC, ↓gaN, gaP, Nat.reduceEqDiff, Nat.reduceLeDiff, Nat.reduceAdd, Nat.reduceSub, Nat.reduceMul, Int.reduceLT, Int.reduceLE, Int.reduceEq, Int.reduceToNat, Int.reduceAdd, Int.reduceSub, Int.reduceMul, reduceCtorEq, ↓reduceIte]
  repeat refine And.intro (by omega) ?_
  refine callK_of (ct_Bytes hy hm) (fun v nx3 gt3 hle3 hk3 hC => ?_) (by omega)
  obtain ⟨sl, rfl, A2, n2, c2, rfl, hc2, hn2, hr2⟩ := hC
  have hk3' : ∀ i, i < nx → gt3 i = gt i := fun i hi => by rw [hk3 i (by omega), hk2 i (by omega), hk1 i hi]
  have hr1' := hr1.keep hle3 hk3
  cases o1 : byOk x many with
  | false =>
    simp only [↓gaW, ↓gaC, ↓gaN, gaP, Nat.reduceEqDiff, Nat.reduceLeDiff, Nat.reduceAdd, Nat.reduceSub, Nat.reduceMul, Int.reduceLT, Int.reduceLE, Int.reduceEq, Int.reduceToNat, Int.reduceAdd, Int.reduceSub, Int.reduceMul, reduceCtorEq, ↓reduceIte, gaE, o1]
    repeat refine And.intro (by omega) ?_
    exact hk3'
  | true =>
    cases o2 : byOk y many with
    | false =>
      simp only [↓gaW, ↓gaC, ↓gaN, gaP, Nat.reduceEqDiff, Nat.reduceLeDiff, Nat.reduceAdd, Nat.reduceSub, Nat.reduceMul, Int.reduceLT, Int.reduceLE, Int.reduceEq, Int.reduceToNat, Int.reduceAdd, Int.reduceSub, Int.reduceMul, reduceCtorEq, ↓reduceIte, gaE, o1, o2]
      repeat refine And.intro (by omega) ?_
      exact hk3'
    | true =>
      rw [o1, if_pos rfl] at hr1' hn1
      rw [o2, if_pos rfl] at hr2 hn2
      rw [be_length] at hn1 hn2
      have p1 : 0 ≤ many ∧ many ≤ 64 ∧ x < 256 ^ many.toNat := by simpa [byOk, and_assoc] using o1
      have p2 : 0 ≤ many ∧ many ≤ 64 ∧ y < 256 ^ many.toNat := by simpa [byOk, and_assoc] using o2
      obtain ⟨k, rfl⟩ : ∃ k : Nat, many = k := ⟨many.toNat, by omega⟩
      simp only [Int.toNat_natCast] at hn1 hn2 p1 p2 hr1' hr2
      subst hn1 hn2
      simp only [↓gaW, ↓gaC, ↓gaN, gaP, Nat.reduceEqDiff, Nat.reduceLeDiff, Nat.reduceAdd, Nat.reduceSub, Nat.reduceMul, Int.reduceLT, Int.reduceLE, Int.reduceEq, Int.reduceToNat, Int.reduceAdd, Int.reduceSub, Int.reduceMul, reduceCtorEq, ↓reduceIte, o1, o2]
      repeat refine And.intro (by omega) ?_
      refine callK_of (ct_Cmp hr1' hr2 (by omega)) (fun v nx4 gt4 hle4 hk4 hC => ?_) (by omega)
      have hcx : cmpL (be k x) (be k y) = cmpB x y := by rw [cmpL_be, Nat.mod_eq_of_lt p1.2.2, Nat.mod_eq_of_lt p2.2.2]
      have hcy : cmpL (be k y) (be k x) = cmpB y x := by rw [cmpL_be, Nat.mod_eq_of_lt p1.2.2, Nat.mod_eq_of_lt p2.2.2]
      have hk4' : ∀ i, i < nx → gt4 i = gt i := fun i hi => by rw [hk4 i (by omega), hk3' i hi]
      rw [hcx] at hC
      rcases Nat.lt_trichotomy x y with h | h | h
      · rw [cmpB_lt h] at hC
        subst hC
        have t1 : (x : Int) < (y : Int) := by omega
        have t2 : ¬ (x : Int) = (y : Int) := by omega
        simp only [↓gaW, ↓gaC, ↓gaN, gaP, Nat.reduceEqDiff, Nat.reduceLeDiff, Nat.reduceAdd, Nat.reduceSub, Nat.reduceMul, Int.reduceLT, Int.reduceLE, Int.reduceEq, Int.reduceToNat, Int.reduceAdd, Int.reduceSub, Int.reduceMul, reduceCtorEq, ↓reduceIte, t1, t2, decide_true, decide_false]
        refine callK_of (ct_Cmp (hr2.keep hle4 hk4) (hr1'.keep hle4 hk4) (by omega)) (fun v nx5 gt5 hle5 hk5 hC => ?_) (by omega)
        rw [hcy, cmpB_gt h] at hC
        subst hC
        simp only [↓gaW, ↓gaC, ↓gaN, gaP, Nat.reduceEqDiff, Nat.reduceLeDiff, Nat.reduceAdd, Nat.reduceSub, Nat.reduceMul, Int.reduceLT, Int.reduceLE, Int.reduceEq, Int.reduceToNat, Int.reduceAdd, Int.reduceSub, Int.reduceMul, reduceCtorEq, ↓reduceIte, gaE, i64_w 1 (by omega)]
        exact ⟨by omega, fun i hi => by rw [hk5 i (by omega), hk4' i hi]⟩
      · subst h
        rw [cmpB_eq rfl] at hC
        subst hC
        have t0 : ¬ (0 : Int) < 0 := by omega
        simp only [↓gaW, ↓gaC, ↓gaN, gaP, Nat.reduceEqDiff, Nat.reduceLeDiff, Nat.reduceAdd, Nat.reduceSub, Nat.reduceMul, Int.reduceLT, Int.reduceLE, Int.reduceEq, Int.reduceToNat, Int.reduceAdd, Int.reduceSub, Int.reduceMul, reduceCtorEq, ↓reduceIte, Int.lt_irrefl, decide_false, decide_true]
        refine callK_of (ct_Cmp (hr2.keep hle4 hk4) (hr1'.keep hle4 hk4) (by omega)) (fun v nx5 gt5 hle5 hk5 hC => ?_) (by omega)
        rw [hcy, cmpB_eq rfl] at hC
        subst hC
        simp only [↓gaW, ↓gaC, ↓gaN, gaP, Nat.reduceEqDiff, Nat.reduceLeDiff, Nat.reduceAdd, Nat.reduceSub, Nat.reduceMul, Int.reduceLT, Int.reduceLE, Int.reduceEq, Int.reduceToNat, Int.reduceAdd, Int.reduceSub, Int.reduceMul, reduceCtorEq, ↓reduceIte, gaE, i64_w 0 (by omega)]
        exact ⟨by omega, fun i hi => by rw [hk5 i (by omega), hk4' i hi]⟩
      · rw [cmpB_gt h] at hC
        subst hC
        have t1 : ¬ (x : Int) < (y : Int) := by omega
        have t2 : ¬ (x : Int) = (y : Int) := by omega
        simp only [↓gaW, ↓gaC, ↓gaN, gaP, Nat.reduceEqDiff, Nat.reduceLeDiff, Nat.reduceAdd, Nat.reduceSub, Nat.reduceMul, Int.reduceLT, Int.reduceLE, Int.reduceEq, Int.reduceToNat, Int.reduceAdd, Int.reduceSub, Int.reduceMul, reduceCtorEq, ↓reduceIte, t1, t2, decide_true, decide_false]
        refine callK_of (ct_Cmp (hr2.keep hle4 hk4) (hr1'.keep hle4 hk4) (by omega)) (fun v nx5 gt5 hle5 hk5 hC => ?_) (by omega)
        rw [hcy, cmpB_lt h] at hC
        subst hC
        simp only [↓gaW, ↓gaC, ↓gaN, gaP, Nat.reduceEqDiff, Nat.reduceLeDiff, Nat.reduceAdd, Nat.reduceSub, Nat.reduceMul, Int.reduceLT, Int.reduceLE, Int.reduceEq, Int.reduceToNat, Int.reduceAdd, Int.reduceSub, Int.reduceMul, reduceCtorEq, ↓reduceIte, gaE, i64_w (-1) (by omega)]
        exact ⟨by omega, fun i hi => by rw [hk5 i (by omega), hk4' i hi]⟩
end Go.Ga

namespace Go.Ga
open Go Go.Proofs
set_option maxRecDepth 100000

def c_lanyardlaw03_awake : RFn :=
  ⟨27,
  (.seq
  (.ops [] [
  ⟨(some 0), (.op (.mv (.k (.bool false)))), none⟩])
  (.seq
  (.ops [] [
  ⟨(some 6), (.op (.build [(.int .i64 0), (.int .i64 0), (.int .i64 0), (.int .i64 0), (.int .i64 0), (.int .i64 0)] [(0, (1, (.k (.int .i64 2000)))), (1, (1, (.k (.int .i64 3)))), (2, (1, (.k (.int .i64 1))))])), none⟩,
  ⟨(some 7), (.call (.k (.func (.func 27) #[] #[])) [(.t 6)]), none⟩,
  ⟨(some 5), (.op (.mv (.t 7))), none⟩,
  ⟨(some 8), (.op (.extract (.t 5) 0)), none⟩,
  ⟨(some 9), (.op (.extract (.t 5) 1)), none⟩,
  ⟨(some 1), (.op (.mv (.t 8))), none⟩,
  ⟨(some 2), (.op (.mv (.t 9))), none⟩])
  (.seq
  (.ops [] [
  ⟨(some 11), (.op (.mv (.t 1))), none⟩,
  ⟨(some 12), (.call (.k (.func (.func 35) #[] #[])) [(.t 11)]), none⟩,
  ⟨(some 10), (.op (.mv (.t 12))), none⟩,
  ⟨(some 13), (.op (.extract (.t 10) 0)), none⟩,
  ⟨(some 14), (.op (.extract (.t 10) 1)), none⟩,
  ⟨(some 3), (.op (.mv (.t 13))), none⟩,
  ⟨(some 4), (.op (.mv (.t 14))), none⟩])
  (.seq
  (.ops [] [
  ⟨(some 15), (.op (.mv (.t 1))), none⟩,
  ⟨(some 16), (.op (.bin .eql (.t 15) (.k (.int .i64 951868800)))), none⟩,
  ⟨(some 17), (.op (.mv (.t 16))), none⟩,
  ⟨(some 18), (.op (.mv (.t 2))), (some (17, true))⟩,
  ⟨(some 19), (.op (.pick (.t 17) (.t 18) (.k (.bool false)))), none⟩,
  ⟨(some 20), (.op (.mv (.t 19))), none⟩,
  ⟨(some 21), (.op (.mv (.t 3))), (some (20, true))⟩,
  ⟨(some 22), (.op (.bin .eql (.t 21) (.k (.string ⟨#[48, 48, 48, 51, 48, 49, 48, 48, 48, 48, 48, 48, 90]⟩)))), (some (20, true))⟩,
  ⟨(some 23), (.op (.pick (.t 20) (.t 22) (.k (.bool false)))), none⟩,
  ⟨(some 24), (.op (.mv (.t 23))), none⟩,
  ⟨(some 25), (.op (.mv (.t 4))), (some (24, true))⟩,
  ⟨(some 26), (.op (.pick (.t 24) (.t 25) (.k (.bool false)))), none⟩,
  ⟨(some 0), (.op (.mv (.t 26))), none⟩])
  .ret)))),
  [(.t 0)]⟩
theorem r_lanyardlaw03_awake : resolveFn Try.prog 26 = some c_lanyardlaw03_awake := by kernel_rfl

def c_clock_Seconds : RFn :=
  ⟨95,
  (.seq
  (.ops [] [
  ⟨(some 1), (.op (.box (.t 0))), none⟩,
  ⟨(some 2), (.op (.mv (.k (.int .i64 0)))), none⟩,
  ⟨(some 3), (.op (.mv (.k (.bool false)))), none⟩])
  (.seq
  (.seq
  (.ops [
  ⟨(some 9), (.op (.ixAddrA 6 1 (.t 1) (.k (.int .i64 0)))), none⟩,
  ⟨(some 10), (.op (.load1 (.t 9))), none⟩,
  ⟨(some 11), (.call (.k (.func (.func 44) #[] #[])) [(.t 10), (.k (.int .i64 1950)), (.k (.int .i64 2199))]), none⟩,
  ⟨(some 12), (.op (.un .not (.t 11))), none⟩,
  ⟨(some 13), (.op (.mv (.t 12))), none⟩,
  ⟨(some 14), (.op (.ixAddrA 6 1 (.t 1) (.k (.int .i64 1)))), (some (13, false))⟩,
  ⟨(some 15), (.op (.load1 (.t 14))), (some (13, false))⟩,
  ⟨(some 16), (.call (.k (.func (.func 44) #[] #[])) [(.t 15), (.k (.int .i64 1)), (.k (.int .i64 12))]), (some (13, false))⟩,
  ⟨(some 17), (.op (.un .not (.t 16))), (some (13, false))⟩,
  ⟨(some 18), (.op (.pick (.t 13) (.k (.bool true)) (.t 17))), none⟩,
  ⟨(some 19), (.op (.mv (.t 18))), none⟩,
  ⟨(some 20), (.op (.ixAddrA 6 1 (.t 1) (.k (.int .i64 2)))), (some (19, false))⟩,
  ⟨(some 21), (.op (.load1 (.t 20))), (some (19, false))⟩,
  ⟨(some 22), (.op (.ixAddrA 6 1 (.t 1) (.k (.int .i64 0)))), (some (19, false))⟩,
  ⟨(some 23), (.op (.load1 (.t 22))), (some (19, false))⟩,
  ⟨(some 24), (.op (.ixAddrA 6 1 (.t 1) (.k (.int .i64 1)))), (some (19, false))⟩,
  ⟨(some 25), (.op (.load1 (.t 24))), (some (19, false))⟩,
  ⟨(some 26), (.call (.k (.func (.func 45) #[] #[])) [(.t 23), (.t 25)]), (some (19, false))⟩] [
  ⟨(some 27), (.call (.k (.func (.func 44) #[] #[])) [(.t 21), (.k (.int .i64 1)), (.t 26)]), (some (19, false))⟩,
  ⟨(some 28), (.op (.un .not (.t 27))), (some (19, false))⟩,
  ⟨(some 29), (.op (.pick (.t 19) (.k (.bool true)) (.t 28))), none⟩])
  (.cond (.t 29)
  (.seq
  (.ops [] [
  ⟨(some 2), (.op (.mv (.k (.int .i64 0)))), none⟩,
  ⟨(some 3), (.op (.mv (.k (.bool false)))), none⟩])
  .ret)
  .skip))
  (.seq
  (.seq
  (.ops [] [
  ⟨(some 30), (.op (.ixAddrA 6 1 (.t 1) (.k (.int .i64 3)))), none⟩,
  ⟨(some 31), (.op (.load1 (.t 30))), none⟩,
  ⟨(some 32), (.call (.k (.func (.func 44) #[] #[])) [(.t 31), (.k (.int .i64 0)), (.k (.int .i64 23))]), none⟩,
  ⟨(some 33), (.op (.un .not (.t 32))), none⟩,
  ⟨(some 34), (.op (.mv (.t 33))), none⟩,
  ⟨(some 35), (.op (.ixAddrA 6 1 (.t 1) (.k (.int .i64 4)))), (some (34, false))⟩,
  ⟨(some 36), (.op (.load1 (.t 35))), (some (34, false))⟩,
  ⟨(some 37), (.call (.k (.func (.func 44) #[] #[])) [(.t 36), (.k (.int .i64 0)), (.k (.int .i64 59))]), (some (34, false))⟩,
  ⟨(some 38), (.op (.un .not (.t 37))), (some (34, false))⟩,
  ⟨(some 39), (.op (.pick (.t 34) (.k (.bool true)) (.t 38))), none⟩,
  ⟨(some 40), (.op (.mv (.t 39))), none⟩,
  ⟨(some 41), (.op (.ixAddrA 6 1 (.t 1) (.k (.int .i64 5)))), (some (40, false))⟩,
  ⟨(some 42), (.op (.load1 (.t 41))), (some (40, false))⟩,
  ⟨(some 43), (.call (.k (.func (.func 44) #[] #[])) [(.t 42), (.k (.int .i64 0)), (.k (.int .i64 59))]), (some (40, false))⟩,
  ⟨(some 44), (.op (.un .not (.t 43))), (some (40, false))⟩,
  ⟨(some 45), (.op (.pick (.t 40) (.k (.bool true)) (.t 44))), none⟩])
  (.cond (.t 45)
  (.seq
  (.ops [] [
  ⟨(some 2), (.op (.mv (.k (.int .i64 0)))), none⟩,
  ⟨(some 3), (.op (.mv (.k (.bool false)))), none⟩])
  .ret)
  .skip))
  (.seq
  (.ops [
  ⟨(some 46), (.op (.ixAddrA 6 1 (.t 1) (.k (.int .i64 0)))), none⟩,
  ⟨(some 47), (.op (.load1 (.t 46))), none⟩,
  ⟨(some 48), (.op (.ixAddrA 6 1 (.t 1) (.k (.int .i64 1)))), none⟩,
  ⟨(some 49), (.op (.load1 (.t 48))), none⟩,
  ⟨(some 50), (.op (.bin .sub (.t 49) (.k (.int .i64 3)))), none⟩,
  ⟨(some 4), (.op (.mv (.t 47))), none⟩] [
  ⟨(some 5), (.op (.mv (.t 50))), none⟩])
  (.seq
  (.seq
  (.ops [] [
  ⟨(some 51), (.op (.mv (.t 5))), none⟩,
  ⟨(some 52), (.op (.bin .lss (.t 51) (.k (.int .i64 0)))), none⟩])
  (.cond (.t 52)
  (.ops [] [
  ⟨(some 53), (.op (.mv (.t 4))), none⟩,
  ⟨(some 54), (.op (.bin .sub (.t 53) (.k (.int .i64 1)))), none⟩,
  ⟨(some 55), (.op (.mv (.t 5))), none⟩,
  ⟨(some 56), (.op (.bin .add (.t 55) (.k (.int .i64 12)))), none⟩,
  ⟨(some 4), (.op (.mv (.t 54))), none⟩,
  ⟨(some 5), (.op (.mv (.t 56))), none⟩])
  .skip))
  (.seq
  (.ops [] [
  ⟨(some 57), (.op (.mv (.t 4))), none⟩,
  ⟨(some 58), (.op (.bin .quo (.t 57) (.k (.int .i64 400)))), none⟩,
  ⟨(some 59), (.op (.mv (.t 4))), none⟩,
  ⟨(some 60), (.op (.bin .rem (.t 59) (.k (.int .i64 400)))), none⟩,
  ⟨(some 6), (.op (.mv (.t 58))), none⟩,
  ⟨(some 7), (.op (.mv (.t 60))), none⟩])
  (.seq
  (.ops [] [
  ⟨(some 61), (.op (.mv (.t 6))), none⟩,
  ⟨(some 62), (.op (.bin .mul (.t 61) (.k (.int .i64 146097)))), none⟩,
  ⟨(some 63), (.op (.mv (.t 7))), none⟩,
  ⟨(some 64), (.op (.bin .mul (.t 63) (.k (.int .i64 365)))), none⟩,
  ⟨(some 65), (.op (.bin .add (.t 62) (.t 64))), none⟩,
  ⟨(some 66), (.op (.mv (.t 7))), none⟩,
  ⟨(some 67), (.op (.bin .quo (.t 66) (.k (.int .i64 4)))), none⟩,
  ⟨(some 68), (.op (.bin .add (.t 65) (.t 67))), none⟩,
  ⟨(some 69), (.op (.mv (.t 7))), none⟩,
  ⟨(some 70), (.op (.bin .quo (.t 69) (.k (.int .i64 100)))), none⟩,
  ⟨(some 71), (.op (.bin .sub (.t 68) (.t 70))), none⟩,
  ⟨(some 72), (.op (.mv (.t 5))), none⟩,
  ⟨(some 73), (.op (.bin .mul (.k (.int .i64 153)) (.t 72))), none⟩,
  ⟨(some 74), (.op (.bin .add (.t 73) (.k (.int .i64 2)))), none⟩,
  ⟨(some 75), (.op (.bin .quo (.t 74) (.k (.int .i64 5)))), none⟩,
  ⟨(some 76), (.op (.bin .add (.t 71) (.t 75))), none⟩,
  ⟨(some 77), (.op (.ixAddrA 6 1 (.t 1) (.k (.int .i64 2)))), none⟩,
  ⟨(some 78), (.op (.load1 (.t 77))), none⟩,
  ⟨(some 79), (.op (.bin .add (.t 76) (.t 78))), none⟩,
  ⟨(some 80), (.op (.bin .sub (.t 79) (.k (.int .i64 1)))), none⟩,
  ⟨(some 81), (.op (.bin .sub (.t 80) (.k (.int .i64 719468)))), none⟩,
  ⟨(some 8), (.op (.mv (.t 81))), none⟩])
  (.seq
  (.ops [] [
  ⟨(some 82), (.op (.mv (.t 8))), none⟩,
  ⟨(some 83), (.op (.bin .mul (.t 82) (.k (.int .i64 86400)))), none⟩,
  ⟨(some 84), (.op (.ixAddrA 6 1 (.t 1) (.k (.int .i64 3)))), none⟩,
  ⟨(some 85), (.op (.load1 (.t 84))), none⟩,
  ⟨(some 86), (.op (.bin .mul (.t 85) (.k (.int .i64 3600)))), none⟩,
  ⟨(some 87), (.op (.ixAddrA 6 1 (.t 1) (.k (.int .i64 4)))), none⟩,
  ⟨(some 88), (.op (.load1 (.t 87))), none⟩,
  ⟨(some 89), (.op (.bin .mul (.t 88) (.k (.int .i64 60)))), none⟩,
  ⟨(some 90), (.op (.bin .add (.t 86) (.t 89))), none⟩,
  ⟨(some 91), (.op (.ixAddrA 6 1 (.t 1) (.k (.int .i64 5)))), none⟩,
  ⟨(some 92), (.op (.load1 (.t 91))), none⟩,
  ⟨(some 93), (.op (.bin .add (.t 90) (.t 92))), none⟩,
  ⟨(some 94), (.op (.bin .add (.t 83) (.t 93))), none⟩,
  ⟨(some 2), (.op (.mv (.t 94))), none⟩,
  ⟨(some 3), (.op (.mv (.k (.bool true)))), none⟩])
  .ret)))))))),
  [(.t 2), (.t 3)]⟩
theorem r_clock_Seconds : resolveFn Try.prog 27 = some c_clock_Seconds := by kernel_rfl

def c_lanyardref03_Seconds : RFn :=
  ⟨30,
  (.seq
  (.ops [] [
  ⟨(some 1), (.op (.box (.t 0))), none⟩,
  ⟨(some 2), (.op (.mv (.k (.int .i64 0)))), none⟩,
  ⟨(some 3), (.op (.mv (.k (.bool false)))), none⟩])
  (.seq
  (.seq
  (.ops [] [
  ⟨(some 5), (.op (.loadN 6 (.t 1))), none⟩,
  ⟨(some 6), (.call (.k (.func (.func 46) #[] #[])) [(.t 5)]), none⟩,
  ⟨(some 7), (.op (.un .not (.t 6))), none⟩])
  (.cond (.t 7)
  (.seq
  (.ops [] [
  ⟨(some 2), (.op (.mv (.k (.int .i64 0)))), none⟩,
  ⟨(some 3), (.op (.mv (.k (.bool false)))), none⟩])
  .ret)
  .skip))
  (.seq
  (.ops [] [
  ⟨(some 8), (.op (.ixAddrA 6 1 (.t 1) (.k (.int .i64 0)))), none⟩,
  ⟨(some 9), (.op (.load1 (.t 8))), none⟩,
  ⟨(some 10), (.op (.ixAddrA 6 1 (.t 1) (.k (.int .i64 1)))), none⟩,
  ⟨(some 11), (.op (.load1 (.t 10))), none⟩,
  ⟨(some 12), (.op (.ixAddrA 6 1 (.t 1) (.k (.int .i64 2)))), none⟩,
  ⟨(some 13), (.op (.load1 (.t 12))), none⟩,
  ⟨(some 14), (.call (.k (.func (.func 47) #[] #[])) [(.t 9), (.t 11), (.t 13)]), none⟩,
  ⟨(some 15), (.call (.k (.func (.func 47) #[] #[])) [(.k (.int .i64 1970)), (.k (.int .i64 1)), (.k (.int .i64 1))]), none⟩,
  ⟨(some 16), (.op (.bin .sub (.t 14) (.t 15))), none⟩,
  ⟨(some 4), (.op (.mv (.t 16))), none⟩])
  (.seq
  (.ops [] [
  ⟨(some 17), (.op (.mv (.t 4))), none⟩,
  ⟨(some 18), (.op (.bin .mul (.t 17) (.k (.int .i64 86400)))), none⟩,
  ⟨(some 19), (.op (.ixAddrA 6 1 (.t 1) (.k (.int .i64 3)))), none⟩,
  ⟨(some 20), (.op (.load1 (.t 19))), none⟩,
  ⟨(some 21), (.op (.bin .mul (.t 20) (.k (.int .i64 3600)))), none⟩,
  ⟨(some 22), (.op (.ixAddrA 6 1 (.t 1) (.k (.int .i64 4)))), none⟩,
  ⟨(some 23), (.op (.load1 (.t 22))), none⟩,
  ⟨(some 24), (.op (.bin .mul (.t 23) (.k (.int .i64 60)))), none⟩,
  ⟨(some 25), (.op (.bin .add (.t 21) (.t 24))), none⟩,
  ⟨(some 26), (.op (.ixAddrA 6 1 (.t 1) (.k (.int .i64 5)))), none⟩,
  ⟨(some 27), (.op (.load1 (.t 26))), none⟩,
  ⟨(some 28), (.op (.bin .add (.t 25) (.t 27))), none⟩,
  ⟨(some 29), (.op (.bin .add (.t 18) (.t 28))), none⟩,
  ⟨(some 2), (.op (.mv (.t 29))), none⟩,
  ⟨(some 3), (.op (.mv (.k (.bool true)))), none⟩])
  .ret)))),
  [(.t 2), (.t 3)]⟩
theorem r_lanyardref03_Seconds : resolveFn Try.prog 28 = some c_lanyardref03_Seconds := by kernel_rfl

def c_clock_Date : RFn :=
  ⟨105,
  (.seq
  (.ops [] [
  ⟨(some 2), (.op (.new [(.int .i64 0), (.int .i64 0), (.int .i64 0), (.int .i64 0), (.int .i64 0), (.int .i64 0)])), none⟩,
  ⟨(some 3), (.op (.mv (.k (.bool false)))), none⟩])
  (.seq
  (.ops [] [
  ⟨(some 16), (.op (.build [(.int .i64 0), (.int .i64 0), (.int .i64 0), (.int .i64 0), (.int .i64 0), (.int .i64 0)] [(0, (1, (.k (.int .i64 1950)))), (1, (1, (.k (.int .i64 1)))), (2, (1, (.k (.int .i64 1))))])), none⟩,
  ⟨(some 17), (.call (.k (.func (.func 27) #[] #[])) [(.t 16)]), none⟩,
  ⟨(some 15), (.op (.mv (.t 17))), none⟩,
  ⟨(some 18), (.op (.extract (.t 15) 0)), none⟩,
  ⟨(some 19), (.op (.extract (.t 15) 1)), none⟩,
  ⟨(some 4), (.op (.mv (.t 18))), none⟩,
  ⟨(some 5), (.op (.mv (.t 19))), none⟩])
  (.seq
  (.ops [] [
  ⟨(some 21), (.op (.build [(.int .i64 0), (.int .i64 0), (.int .i64 0), (.int .i64 0), (.int .i64 0), (.int .i64 0)] [(0, (1, (.k (.int .i64 2199)))), (1, (1, (.k (.int .i64 12)))), (2, (1, (.k (.int .i64 31)))), (3, (1, (.k (.int .i64 23)))), (4, (1, (.k (.int .i64 59)))), (5, (1, (.k (.int .i64 59))))])), none⟩,
  ⟨(some 22), (.call (.k (.func (.func 27) #[] #[])) [(.t 21)]), none⟩,
  ⟨(some 20), (.op (.mv (.t 22))), none⟩,
  ⟨(some 23), (.op (.extract (.t 20) 0)), none⟩,
  ⟨(some 24), (.op (.extract (.t 20) 1)), none⟩,
  ⟨(some 6), (.op (.mv (.t 23))), none⟩,
  ⟨(some 7), (.op (.mv (.t 24))), none⟩])
  (.seq
  (.seq
  (.ops [] [
  ⟨(some 25), (.op (.mv (.t 0))), none⟩,
  ⟨(some 26), (.op (.mv (.t 4))), none⟩,
  ⟨(some 27), (.op (.bin .lss (.t 25) (.t 26))), none⟩,
  ⟨(some 28), (.op (.mv (.t 27))), none⟩,
  ⟨(some 29), (.op (.mv (.t 0))), (some (28, false))⟩,
  ⟨(some 30), (.op (.mv (.t 6))), (some (28, false))⟩,
  ⟨(some 31), (.op (.bin .gtr (.t 29) (.t 30))), (some (28, false))⟩,
  ⟨(some 32), (.op (.pick (.t 28) (.k (.bool true)) (.t 31))), none⟩])
  (.cond (.t 32)
  (.seq
  (.ops [] [
  ⟨(some 33), (.op (.build [(.int .i64 0), (.int .i64 0), (.int .i64 0), (.int .i64 0), (.int .i64 0), (.int .i64 0)] [])), none⟩,
  ⟨none, (.op (.store 6 (.t 2) (.t 33))), none⟩,
  ⟨(some 3), (.op (.mv (.k (.bool false)))), none⟩])
  .ret)
  .skip))
  (.seq
  (.ops [] [
  ⟨(some 34), (.op (.mv (.t 0))), none⟩,
  ⟨(some 35), (.op (.bin .quo (.t 34) (.k (.int .i64 86400)))), none⟩,
  ⟨(some 36), (.op (.mv (.t 0))), none⟩,
  ⟨(some 37), (.op (.bin .rem (.t 36) (.k (.int .i64 86400)))), none⟩,
  ⟨(some 8), (.op (.mv (.t 35))), none⟩,
  ⟨(some 9), (.op (.mv (.t 37))), none⟩])
  (.seq
  (.seq
  (.ops [] [
  ⟨(some 38), (.op (.mv (.t 9))), none⟩,
  ⟨(some 39), (.op (.bin .lss (.t 38) (.k (.int .i64 0)))), none⟩])
  (.cond (.t 39)
  (.ops [] [
  ⟨(some 40), (.op (.mv (.t 8))), none⟩,
  ⟨(some 41), (.op (.bin .sub (.t 40) (.k (.int .i64 1)))), none⟩,
  ⟨(some 42), (.op (.mv (.t 9))), none⟩,
  ⟨(some 43), (.op (.bin .add (.t 42) (.k (.int .i64 86400)))), none⟩,
  ⟨(some 8), (.op (.mv (.t 41))), none⟩,
  ⟨(some 9), (.op (.mv (.t 43))), none⟩])
  .skip))
  (.seq
  (.ops [] [
  ⟨(some 44), (.op (.mv (.t 8))), none⟩,
  ⟨(some 45), (.op (.bin .add (.t 44) (.k (.int .i64 719468)))), none⟩,
  ⟨(some 8), (.op (.mv (.t 45))), none⟩])
  (.seq
  (.ops [] [
  ⟨(some 46), (.op (.mv (.t 8))), none⟩,
  ⟨(some 47), (.op (.bin .quo (.t 46) (.k (.int .i64 146097)))), none⟩,
  ⟨(some 10), (.op (.mv (.t 47))), none⟩])
  (.seq
  (.ops [] [
  ⟨(some 48), (.op (.mv (.t 8))), none⟩,
  ⟨(some 49), (.op (.bin .rem (.t 48) (.k (.int .i64 146097)))), none⟩,
  ⟨(some 8), (.op (.mv (.t 49))), none⟩])
  (.seq
  (.ops [] [
  ⟨(some 50), (.op (.mv (.t 8))), none⟩,
  ⟨(some 51), (.op (.mv (.t 8))), none⟩,
  ⟨(some 52), (.op (.bin .quo (.t 51) (.k (.int .i64 1460)))), none⟩,
  ⟨(some 53), (.op (.bin .sub (.t 50) (.t 52))), none⟩,
  ⟨(some 54), (.op (.mv (.t 8))), none⟩,
  ⟨(some 55), (.op (.bin .quo (.t 54) (.k (.int .i64 36524)))), none⟩,
  ⟨(some 56), (.op (.bin .add (.t 53) (.t 55))), none⟩,
  ⟨(some 57), (.op (.mv (.t 8))), none⟩,
  ⟨(some 58), (.op (.bin .quo (.t 57) (.k (.int .i64 146096)))), none⟩,
  ⟨(some 59), (.op (.bin .sub (.t 56) (.t 58))), none⟩,
  ⟨(some 60), (.op (.bin .quo (.t 59) (.k (.int .i64 365)))), none⟩,
  ⟨(some 11), (.op (.mv (.t 60))), none⟩])
  (.seq
  (.ops [] [
  ⟨(some 61), (.op (.mv (.t 8))), none⟩,
  ⟨(some 62), (.op (.mv (.t 11))), none⟩,
  ⟨(some 63), (.op (.bin .mul (.t 62) (.k (.int .i64 365)))), none⟩,
  ⟨(some 64), (.op (.mv (.t 11))), none⟩,
  ⟨(some 65), (.op (.bin .quo (.t 64) (.k (.int .i64 4)))), none⟩,
  ⟨(some 66), (.op (.bin .add (.t 63) (.t 65))), none⟩,
  ⟨(some 67), (.op (.mv (.t 11))), none⟩,
  ⟨(some 68), (.op (.bin .quo (.t 67) (.k (.int .i64 100)))), none⟩,
  ⟨(some 69), (.op (.bin .sub (.t 66) (.t 68))), none⟩,
  ⟨(some 70), (.op (.bin .sub (.t 61) (.t 69))), none⟩,
  ⟨(some 8), (.op (.mv (.t 70))), none⟩])
  (.seq
  (.ops [] [
  ⟨(some 71), (.op (.mv (.t 8))), none⟩,
  ⟨(some 72), (.op (.bin .mul (.k (.int .i64 5)) (.t 71))), none⟩,
  ⟨(some 73), (.op (.bin .add (.t 72) (.k (.int .i64 2)))), none⟩,
  ⟨(some 74), (.op (.bin .quo (.t 73) (.k (.int .i64 153)))), none⟩,
  ⟨(some 12), (.op (.mv (.t 74))), none⟩])
  (.seq
  (.ops [] [
  ⟨(some 75), (.op (.mv (.t 8))), none⟩,
  ⟨(some 76), (.op (.mv (.t 12))), none⟩,
  ⟨(some 77), (.op (.bin .mul (.k (.int .i64 153)) (.t 76))), none⟩,
  ⟨(some 78), (.op (.bin .add (.t 77) (.k (.int .i64 2)))), none⟩,
  ⟨(some 79), (.op (.bin .quo (.t 78) (.k (.int .i64 5)))), none⟩,
  ⟨(some 80), (.op (.bin .sub (.t 75) (.t 79))), none⟩,
  ⟨(some 81), (.op (.bin .add (.t 80) (.k (.int .i64 1)))), none⟩,
  ⟨(some 13), (.op (.mv (.t 81))), none⟩])
  (.seq
  (.ops [] [
  ⟨(some 82), (.op (.mv (.t 10))), none⟩,
  ⟨(some 83), (.op (.bin .mul (.t 82) (.k (.int .i64 400)))), none⟩,
  ⟨(some 84), (.op (.mv (.t 11))), none⟩,
  ⟨(some 85), (.op (.bin .add (.t 83) (.t 84))), none⟩,
  ⟨(some 14), (.op (.mv (.t 85))), none⟩])
  (.seq
  (.ops [] [
  ⟨(some 86), (.op (.mv (.t 12))), none⟩,
  ⟨(some 87), (.op (.bin .add (.t 86) (.k (.int .i64 3)))), none⟩,
  ⟨(some 12), (.op (.mv (.t 87))), none⟩])
  (.seq
  (.seq
  (.ops [] [
  ⟨(some 88), (.op (.mv (.t 12))), none⟩,
  ⟨(some 89), (.op (.bin .gtr (.t 88) (.k (.int .i64 12)))), none⟩])
  (.cond (.t 89)
  (.ops [] [
  ⟨(some 90), (.op (.mv (.t 14))), none⟩,
  ⟨(some 91), (.op (.bin .add (.t 90) (.k (.int .i64 1)))), none⟩,
  ⟨(some 92), (.op (.mv (.t 12))), none⟩,
  ⟨(some 93), (.op (.bin .sub (.t 92) (.k (.int .i64 12)))), none⟩,
  ⟨(some 14), (.op (.mv (.t 91))), none⟩,
  ⟨(some 12), (.op (.mv (.t 93))), none⟩])
  .skip))
  (.seq
  (.ops [] [
  ⟨(some 94), (.op (.mv (.t 14))), none⟩,
  ⟨(some 95), (.op (.mv (.t 12))), none⟩,
  ⟨(some 96), (.op (.mv (.t 13))), none⟩,
  ⟨(some 97), (.op (.mv (.t 9))), none⟩,
  ⟨(some 98), (.op (.bin .quo (.t 97) (.k (.int .i64 3600)))), none⟩,
  ⟨(some 99), (.op (.mv (.t 9))), none⟩,
  ⟨(some 100), (.op (.bin .quo (.t 99) (.k (.int .i64 60)))), none⟩,
  ⟨(some 101), (.op (.bin .rem (.t 100) (.k (.int .i64 60)))), none⟩,
  ⟨(some 102), (.op (.mv (.t 9))), none⟩,
  ⟨(some 103), (.op (.bin .rem (.t 102) (.k (.int .i64 60)))), none⟩,
  ⟨(some 104), (.op (.build [(.int .i64 0), (.int .i64 0), (.int .i64 0), (.int .i64 0), (.int .i64 0), (.int .i64 0)] [(0, (1, (.t 94))), (1, (1, (.t 95))), (2, (1, (.t 96))), (3, (1, (.t 98))), (4, (1, (.t 101))), (5, (1, (.t 103)))])), none⟩,
  ⟨none, (.op (.store 6 (.t 2) (.t 104))), none⟩,
  ⟨(some 3), (.op (.mv (.k (.bool true)))), none⟩])
  .ret))))))))))))))))),
  [(.cN 2 6), (.t 3)]⟩
theorem r_clock_Date : resolveFn Try.prog 29 = some c_clock_Date := by kernel_rfl

def c_lanyardref03_Date : RFn :=
  ⟨70,
  (.seq
  (.ops [] [
  ⟨(some 2), (.op (.new [(.int .i64 0), (.int .i64 0), (.int .i64 0), (.int .i64 0), (.int .i64 0), (.int .i64 0)])), none⟩,
  ⟨(some 3), (.op (.mv (.k (.bool false)))), none⟩])
  (.seq
  (.ops [] [
  ⟨(some 9), (.call (.k (.func (.func 47) #[] #[])) [(.k (.int .i64 1970)), (.k (.int .i64 1)), (.k (.int .i64 1))]), none⟩,
  ⟨(some 10), (.op (.un .neg (.t 9))), none⟩,
  ⟨(some 11), (.op (.bin .mul (.t 10) (.k (.int .i64 86400)))), none⟩,
  ⟨(some 4), (.op (.mv (.t 11))), none⟩])
  (.seq
  (.seq
  (.ops [] [
  ⟨(some 12), (.op (.mv (.t 0))), none⟩,
  ⟨(some 13), (.op (.mv (.t 4))), none⟩,
  ⟨(some 14), (.op (.bin .lss (.t 12) (.t 13))), none⟩,
  ⟨(some 15), (.op (.mv (.t 14))), none⟩,
  ⟨(some 16), (.op (.mv (.t 0))), (some (15, false))⟩,
  ⟨(some 17), (.op (.bin .gtr (.t 16) (.k (.int .i64 7258118399)))), (some (15, false))⟩,
  ⟨(some 18), (.op (.pick (.t 15) (.k (.bool true)) (.t 17))), none⟩])
  (.cond (.t 18)
  (.seq
  (.ops [] [
  ⟨(some 19), (.op (.build [(.int .i64 0), (.int .i64 0), (.int .i64 0), (.int .i64 0), (.int .i64 0), (.int .i64 0)] [])), none⟩,
  ⟨none, (.op (.store 6 (.t 2) (.t 19))), none⟩,
  ⟨(some 3), (.op (.mv (.k (.bool false)))), none⟩])
  .ret)
  .skip))
  (.seq
  (.ops [] [
  ⟨(some 20), (.op (.mv (.t 0))), none⟩,
  ⟨(some 21), (.op (.mv (.t 4))), none⟩,
  ⟨(some 22), (.op (.bin .sub (.t 20) (.t 21))), none⟩,
  ⟨(some 23), (.op (.bin .quo (.t 22) (.k (.int .i64 86400)))), none⟩,
  ⟨(some 5), (.op (.mv (.t 23))), none⟩])
  (.seq
  (.ops [] [
  ⟨(some 24), (.op (.mv (.t 0))), none⟩,
  ⟨(some 25), (.op (.mv (.t 4))), none⟩,
  ⟨(some 26), (.op (.bin .sub (.t 24) (.t 25))), none⟩,
  ⟨(some 27), (.op (.bin .rem (.t 26) (.k (.int .i64 86400)))), none⟩,
  ⟨(some 6), (.op (.mv (.t 27))), none⟩])
  (.seq
  (.ops [] [
  ⟨(some 7), (.op (.mv (.k (.int .i64 1950)))), none⟩])
  (.seq
  (.block 0
  (.loop
  (.seq
  (.seq
  (.ops [] [
  ⟨(some 28), (.op (.mv (.t 5))), none⟩,
  ⟨(some 29), (.op (.mv (.t 7))), none⟩,
  ⟨(some 30), (.op (.bin .add (.t 29) (.k (.int .i64 1)))), none⟩,
  ⟨(some 31), (.call (.k (.func (.func 47) #[] #[])) [(.t 30), (.k (.int .i64 1)), (.k (.int .i64 1))]), none⟩,
  ⟨(some 32), (.op (.mv (.t 7))), none⟩,
  ⟨(some 33), (.call (.k (.func (.func 47) #[] #[])) [(.t 32), (.k (.int .i64 1)), (.k (.int .i64 1))]), none⟩,
  ⟨(some 34), (.op (.bin .sub (.t 31) (.t 33))), none⟩,
  ⟨(some 35), (.op (.bin .geq (.t 28) (.t 34))), none⟩])
  (.cond (.t 35)
  .skip
  (.exit 0)))
  (.block 1
  (.seq
  (.ops [] [
  ⟨(some 36), (.op (.mv (.t 5))), none⟩,
  ⟨(some 37), (.op (.mv (.t 7))), none⟩,
  ⟨(some 38), (.op (.bin .add (.t 37) (.k (.int .i64 1)))), none⟩,
  ⟨(some 39), (.call (.k (.func (.func 47) #[] #[])) [(.t 38), (.k (.int .i64 1)), (.k (.int .i64 1))]), none⟩,
  ⟨(some 40), (.op (.mv (.t 7))), none⟩,
  ⟨(some 41), (.call (.k (.func (.func 47) #[] #[])) [(.t 40), (.k (.int .i64 1)), (.k (.int .i64 1))]), none⟩,
  ⟨(some 42), (.op (.bin .sub (.t 39) (.t 41))), none⟩,
  ⟨(some 43), (.op (.bin .sub (.t 36) (.t 42))), none⟩,
  ⟨(some 5), (.op (.mv (.t 43))), none⟩])
  (.ops [] [
  ⟨(some 44), (.op (.mv (.t 7))), none⟩,
  ⟨(some 45), (.op (.bin .add (.t 44) (.k (.int .i64 1)))), none⟩,
  ⟨(some 7), (.op (.mv (.t 45))), none⟩]))))))
  (.seq
  (.ops [] [
  ⟨(some 8), (.op (.mv (.k (.int .i64 1)))), none⟩])
  (.seq
  (.block 2
  (.loop
  (.seq
  (.seq
  (.ops [] [
  ⟨(some 46), (.op (.mv (.t 5))), none⟩,
  ⟨(some 47), (.op (.mv (.t 7))), none⟩,
  ⟨(some 48), (.op (.mv (.t 8))), none⟩,
  ⟨(some 49), (.call (.k (.func (.func 48) #[] #[])) [(.t 47), (.t 48)]), none⟩,
  ⟨(some 50), (.op (.bin .geq (.t 46) (.t 49))), none⟩])
  (.cond (.t 50)
  .skip
  (.exit 2)))
  (.block 3
  (.seq
  (.ops [] [
  ⟨(some 51), (.op (.mv (.t 5))), none⟩,
  ⟨(some 52), (.op (.mv (.t 7))), none⟩,
  ⟨(some 53), (.op (.mv (.t 8))), none⟩,
  ⟨(some 54), (.call (.k (.func (.func 48) #[] #[])) [(.t 52), (.t 53)]), none⟩,
  ⟨(some 55), (.op (.bin .sub (.t 51) (.t 54))), none⟩,
  ⟨(some 5), (.op (.mv (.t 55))), none⟩])
  (.ops [] [
  ⟨(some 56), (.op (.mv (.t 8))), none⟩,
  ⟨(some 57), (.op (.bin .add (.t 56) (.k (.int .i64 1)))), none⟩,
  ⟨(some 8), (.op (.mv (.t 57))), none⟩]))))))
  (.seq
  (.ops [] [
  ⟨(some 58), (.op (.mv (.t 7))), none⟩,
  ⟨(some 59), (.op (.mv (.t 8))), none⟩,
  ⟨(some 60), (.op (.mv (.t 5))), none⟩,
  ⟨(some 61), (.op (.bin .add (.t 60) (.k (.int .i64 1)))), none⟩,
  ⟨(some 62), (.op (.mv (.t 6))), none⟩,
  ⟨(some 63), (.op (.bin .quo (.t 62) (.k (.int .i64 3600)))), none⟩,
  ⟨(some 64), (.op (.mv (.t 6))), none⟩,
  ⟨(some 65), (.op (.bin .quo (.t 64) (.k (.int .i64 60)))), none⟩,
  ⟨(some 66), (.op (.bin .rem (.t 65) (.k (.int .i64 60)))), none⟩,
  ⟨(some 67), (.op (.mv (.t 6))), none⟩,
  ⟨(some 68), (.op (.bin .rem (.t 67) (.k (.int .i64 60)))), none⟩,
  ⟨(some 69), (.op (.build [(.int .i64 0), (.int .i64 0), (.int .i64 0), (.int .i64 0), (.int .i64 0), (.int .i64 0)] [(0, (1, (.t 58))), (1, (1, (.t 59))), (2, (1, (.t 61))), (3, (1, (.t 63))), (4, (1, (.t 66))), (5, (1, (.t 68)))])), none⟩,
  ⟨none, (.op (.store 6 (.t 2) (.t 69))), none⟩,
  ⟨(some 3), (.op (.mv (.k (.bool true)))), none⟩])
  .ret)))))))))),
  [(.cN 2 6), (.t 3)]⟩
theorem r_lanyardref03_Date : resolveFn Try.prog 30 = some c_lanyardref03_Date := by kernel_rfl

def c_clock_Long : RFn :=
  ⟨16,
  (.seq
  (.ops [] [
  ⟨(some 2), (.op (.mv (.k (.string ⟨#[]⟩)))), none⟩,
  ⟨(some 3), (.op (.mv (.k (.bool false)))), none⟩])
  (.seq
  (.ops [] [
  ⟨(some 8), (.op (.mv (.t 0))), none⟩,
  ⟨(some 9), (.call (.k (.func (.func 49) #[] #[])) [(.t 8)]), none⟩,
  ⟨(some 7), (.op (.mv (.t 9))), none⟩,
  ⟨(some 10), (.op (.extract (.t 7) 0)), none⟩,
  ⟨(some 11), (.op (.extract (.t 7) 1)), none⟩,
  ⟨(some 12), (.op (.extract (.t 7) 2)), none⟩,
  ⟨(some 4), (.op (.mv (.t 10))), none⟩,
  ⟨(some 5), (.op (.mv (.t 11))), none⟩,
  ⟨(some 6), (.op (.mv (.t 12))), none⟩])
  (.seq
  (.ops [] [
  ⟨(some 13), (.op (.mv (.t 4))), none⟩,
  ⟨(some 14), (.op (.b2s (.t 13))), none⟩,
  ⟨(some 15), (.op (.mv (.t 6))), none⟩,
  ⟨(some 2), (.op (.mv (.t 14))), none⟩,
  ⟨(some 3), (.op (.mv (.t 15))), none⟩])
  .ret))),
  [(.t 2), (.t 3)]⟩
theorem r_clock_Long : resolveFn Try.prog 31 = some c_clock_Long := by kernel_rfl

def c_clock_Short : RFn :=
  ⟨22,
  (.seq
  (.ops [] [
  ⟨(some 2), (.op (.mv (.k (.string ⟨#[]⟩)))), none⟩,
  ⟨(some 3), (.op (.mv (.k (.bool false)))), none⟩])
  (.seq
  (.ops [] [
  ⟨(some 8), (.op (.mv (.t 0))), none⟩,
  ⟨(some 9), (.call (.k (.func (.func 49) #[] #[])) [(.t 8)]), none⟩,
  ⟨(some 7), (.op (.mv (.t 9))), none⟩,
  ⟨(some 10), (.op (.extract (.t 7) 0)), none⟩,
  ⟨(some 11), (.op (.extract (.t 7) 1)), none⟩,
  ⟨(some 12), (.op (.extract (.t 7) 2)), none⟩,
  ⟨(some 4), (.op (.mv (.t 10))), none⟩,
  ⟨(some 5), (.op (.mv (.t 11))), none⟩,
  ⟨(some 6), (.op (.mv (.t 12))), none⟩])
  (.seq
  (.seq
  (.ops [] [
  ⟨(some 13), (.op (.mv (.t 6))), none⟩,
  ⟨(some 14), (.op (.un .not (.t 13))), none⟩,
  ⟨(some 15), (.op (.mv (.t 14))), none⟩,
  ⟨(some 16), (.op (.mv (.t 5))), (some (15, false))⟩,
  ⟨(some 17), (.op (.bin .geq (.t 16) (.k (.int .i64 2050)))), (some (15, false))⟩,
  ⟨(some 18), (.op (.pick (.t 15) (.k (.bool true)) (.t 17))), none⟩])
  (.cond (.t 18)
  (.seq
  (.ops [] [
  ⟨(some 2), (.op (.mv (.k (.string ⟨#[]⟩)))), none⟩,
  ⟨(some 3), (.op (.mv (.k (.bool false)))), none⟩])
  .ret)
  .skip))
  (.seq
  (.ops [] [
  ⟨(some 19), (.op (.mv (.t 4))), none⟩,
  ⟨(some 20), (.op (.sl 1 (.t 19) (some (.k (.int .i64 2))) none none)), none⟩,
  ⟨(some 21), (.op (.b2s (.t 20))), none⟩,
  ⟨(some 2), (.op (.mv (.t 21))), none⟩,
  ⟨(some 3), (.op (.mv (.k (.bool true)))), none⟩])
  .ret)))),
  [(.t 2), (.t 3)]⟩
theorem r_clock_Short : resolveFn Try.prog 32 = some c_clock_Short := by kernel_rfl

def c_lanyardref03_Short : RFn :=
  ⟨24,
  (.seq
  (.ops [] [
  ⟨(some 2), (.op (.mv (.k (.string ⟨#[]⟩)))), none⟩,
  ⟨(some 3), (.op (.mv (.k (.bool false)))), none⟩])
  (.seq
  (.ops [] [
  ⟨(some 7), (.op (.mv (.t 0))), none⟩,
  ⟨(some 8), (.call (.k (.func (.func 30) #[] #[])) [(.t 7)]), none⟩,
  ⟨(some 6), (.op (.mv (.t 8))), none⟩,
  ⟨(some 9), (.op (.extract (.t 6) 0)), none⟩,
  ⟨(some 10), (.op (.extract (.t 6) 1)), none⟩,
  ⟨(some 4), (.op (.new [(.int .i64 0), (.int .i64 0), (.int .i64 0), (.int .i64 0), (.int .i64 0), (.int .i64 0)])), none⟩,
  ⟨none, (.op (.store 6 (.t 4) (.t 9))), none⟩,
  ⟨(some 5), (.op (.mv (.t 10))), none⟩])
  (.seq
  (.seq
  (.ops [] [
  ⟨(some 11), (.op (.mv (.t 5))), none⟩,
  ⟨(some 12), (.op (.un .not (.t 11))), none⟩,
  ⟨(some 13), (.op (.mv (.t 12))), none⟩,
  ⟨(some 14), (.op (.ixAddrA 6 1 (.t 4) (.k (.int .i64 0)))), (some (13, false))⟩,
  ⟨(some 15), (.op (.load1 (.t 14))), (some (13, false))⟩,
  ⟨(some 16), (.op (.bin .gtr (.t 15) (.k (.int .i64 2049)))), (some (13, false))⟩,
  ⟨(some 17), (.op (.pick (.t 13) (.k (.bool true)) (.t 16))), none⟩])
  (.cond (.t 17)
  (.seq
  (.ops [] [
  ⟨(some 2), (.op (.mv (.k (.string ⟨#[]⟩)))), none⟩,
  ⟨(some 3), (.op (.mv (.k (.bool false)))), none⟩])
  .ret)
  .skip))
  (.seq
  (.ops [
  ⟨(some 18), (.op (.ixAddrA 6 1 (.t 4) (.k (.int .i64 0)))), none⟩,
  ⟨(some 19), (.op (.load1 (.t 18))), none⟩,
  ⟨(some 20), (.call (.k (.func (.func 50) #[] #[])) [(.t 19)]), none⟩,
  ⟨(some 21), (.op (.loadN 6 (.t 4))), none⟩] [
  ⟨(some 22), (.call (.k (.func (.func 51) #[] #[])) [(.t 21)]), none⟩,
  ⟨(some 23), (.op (.bin .add (.t 20) (.t 22))), none⟩,
  ⟨(some 2), (.op (.mv (.t 23))), none⟩,
  ⟨(some 3), (.op (.mv (.k (.bool true)))), none⟩])
  .ret)))),
  [(.t 2), (.t 3)]⟩
theorem r_lanyardref03_Short : resolveFn Try.prog 33 = some c_lanyardref03_Short := by kernel_rfl

def c_lanyardref03_Long : RFn :=
  ⟨24,
  (.seq
  (.ops [] [
  ⟨(some 2), (.op (.mv (.k (.string ⟨#[]⟩)))), none⟩,
  ⟨(some 3), (.op (.mv (.k (.bool false)))), none⟩])
  (.seq
  (.ops [] [
  ⟨(some 7), (.op (.mv (.t 0))), none⟩,
  ⟨(some 8), (.call (.k (.func (.func 30) #[] #[])) [(.t 7)]), none⟩,
  ⟨(some 6), (.op (.mv (.t 8))), none⟩,
  ⟨(some 9), (.op (.extract (.t 6) 0)), none⟩,
  ⟨(some 10), (.op (.extract (.t 6) 1)), none⟩,
  ⟨(some 4), (.op (.new [(.int .i64 0), (.int .i64 0), (.int .i64 0), (.int .i64 0), (.int .i64 0), (.int .i64 0)])), none⟩,
  ⟨none, (.op (.store 6 (.t 4) (.t 9))), none⟩,
  ⟨(some 5), (.op (.mv (.t 10))), none⟩])
  (.seq
  (.seq
  (.ops [] [
  ⟨(some 11), (.op (.mv (.t 5))), none⟩,
  ⟨(some 12), (.op (.un .not (.t 11))), none⟩])
  (.cond (.t 12)
  (.seq
  (.ops [] [
  ⟨(some 2), (.op (.mv (.k (.string ⟨#[]⟩)))), none⟩,
  ⟨(some 3), (.op (.mv (.k (.bool false)))), none⟩])
  .ret)
  .skip))
  (.seq
  (.ops [
  ⟨(some 13), (.op (.ixAddrA 6 1 (.t 4) (.k (.int .i64 0)))), none⟩,
  ⟨(some 14), (.op (.load1 (.t 13))), none⟩,
  ⟨(some 15), (.op (.bin .quo (.t 14) (.k (.int .i64 100)))), none⟩,
  ⟨(some 16), (.call (.k (.func (.func 50) #[] #[])) [(.t 15)]), none⟩,
  ⟨(some 17), (.op (.ixAddrA 6 1 (.t 4) (.k (.int .i64 0)))), none⟩,
  ⟨(some 18), (.op (.load1 (.t 17))), none⟩,
  ⟨(some 19), (.call (.k (.func (.func 50) #[] #[])) [(.t 18)]), none⟩,
  ⟨(some 20), (.op (.bin .add (.t 16) (.t 19))), none⟩,
  ⟨(some 21), (.op (.loadN 6 (.t 4))), none⟩,
  ⟨(some 22), (.call (.k (.func (.func 51) #[] #[])) [(.t 21)]), none⟩] [
  ⟨(some 23), (.op (.bin .add (.t 20) (.t 22))), none⟩,
  ⟨(some 2), (.op (.mv (.t 23))), none⟩,
  ⟨(some 3), (.op (.mv (.k (.bool true)))), none⟩])
  .ret)))),
  [(.t 2), (.t 3)]⟩
theorem r_lanyardref03_Long : resolveFn Try.prog 34 = some c_lanyardref03_Long := by kernel_rfl

def c_clock_Text : RFn :=
  ⟨17,
  (.seq
  (.ops [] [
  ⟨(some 2), (.op (.mv (.k (.string ⟨#[]⟩)))), none⟩,
  ⟨(some 3), (.op (.mv (.k (.bool false)))), none⟩])
  (.seq
  (.seq
  (.ops [] [
  ⟨(some 7), (.op (.mv (.t 0))), none⟩,
  ⟨(some 8), (.call (.k (.func (.func 32) #[] #[])) [(.t 7)]), none⟩,
  ⟨(some 6), (.op (.mv (.t 8))), none⟩,
  ⟨(some 9), (.op (.extract (.t 6) 0)), none⟩,
  ⟨(some 10), (.op (.extract (.t 6) 1)), none⟩,
  ⟨(some 4), (.op (.mv (.t 9))), none⟩,
  ⟨(some 5), (.op (.mv (.t 10))), none⟩])
  (.seq
  (.ops [] [
  ⟨(some 11), (.op (.mv (.t 5))), none⟩])
  (.cond (.t 11)
  (.seq
  (.ops [] [
  ⟨(some 12), (.op (.mv (.t 4))), none⟩,
  ⟨(some 2), (.op (.mv (.t 12))), none⟩,
  ⟨(some 3), (.op (.mv (.k (.bool true)))), none⟩])
  .ret)
  .skip)))
  (.seq
  (.ops [] [
  ⟨(some 13), (.op (.mv (.t 0))), none⟩,
  ⟨(some 14), (.call (.k (.func (.func 31) #[] #[])) [(.t 13)]), none⟩,
  ⟨(some 15), (.op (.extract (.t 14) 0)), none⟩,
  ⟨(some 16), (.op (.extract (.t 14) 1)), none⟩,
  ⟨(some 2), (.op (.mv (.t 15))), none⟩,
  ⟨(some 3), (.op (.mv (.t 16))), none⟩])
  .ret))),
  [(.t 2), (.t 3)]⟩
theorem r_clock_Text : resolveFn Try.prog 35 = some c_clock_Text := by kernel_rfl

def c_lanyardref03_Text : RFn :=
  ⟨17,
  (.seq
  (.ops [] [
  ⟨(some 2), (.op (.mv (.k (.string ⟨#[]⟩)))), none⟩,
  ⟨(some 3), (.op (.mv (.k (.bool false)))), none⟩])
  (.seq
  (.ops [] [
  ⟨(some 7), (.op (.mv (.t 0))), none⟩,
  ⟨(some 8), (.call (.k (.func (.func 33) #[] #[])) [(.t 7)]), none⟩,
  ⟨(some 6), (.op (.mv (.t 8))), none⟩,
  ⟨(some 9), (.op (.extract (.t 6) 0)), none⟩,
  ⟨(some 10), (.op (.extract (.t 6) 1)), none⟩,
  ⟨(some 4), (.op (.mv (.t 9))), none⟩,
  ⟨(some 5), (.op (.mv (.t 10))), none⟩])
  (.seq
  (.seq
  (.ops [] [
  ⟨(some 11), (.op (.mv (.t 5))), none⟩])
  (.cond (.t 11)
  (.seq
  (.ops [] [
  ⟨(some 12), (.op (.mv (.t 4))), none⟩,
  ⟨(some 2), (.op (.mv (.t 12))), none⟩,
  ⟨(some 3), (.op (.mv (.k (.bool true)))), none⟩])
  .ret)
  .skip))
  (.seq
  (.ops [] [
  ⟨(some 13), (.op (.mv (.t 0))), none⟩,
  ⟨(some 14), (.call (.k (.func (.func 34) #[] #[])) [(.t 13)]), none⟩,
  ⟨(some 15), (.op (.extract (.t 14) 0)), none⟩,
  ⟨(some 16), (.op (.extract (.t 14) 1)), none⟩,
  ⟨(some 2), (.op (.mv (.t 15))), none⟩,
  ⟨(some 3), (.op (.mv (.t 16))), none⟩])
  .ret)))),
  [(.t 2), (.t 3)]⟩
theorem r_lanyardref03_Text : resolveFn Try.prog 36 = some c_lanyardref03_Text := by kernel_rfl

def c_lanyardref03_Read : RFn :=
  ⟨76,
  (.seq
  (.ops [] [
  ⟨(some 4), (.op (.mv (.k (.int .i64 0)))), none⟩,
  ⟨(some 5), (.op (.mv (.k (.bool false)))), none⟩])
  (.seq
  (.seq
  (.ops [] [
  ⟨(some 8), (.op (.mv (.t 1))), none⟩,
  ⟨(some 9), (.op (.mv (.t 8))), none⟩,
  ⟨(some 10), (.op (.mv (.t 0))), (some (9, true))⟩,
  ⟨(some 11), (.op (.lenStr (.t 10))), (some (9, true))⟩,
  ⟨(some 12), (.op (.bin .neq (.t 11) (.k (.int .i64 15)))), (some (9, true))⟩,
  ⟨(some 13), (.op (.pick (.t 9) (.t 12) (.k (.bool false)))), none⟩,
  ⟨(some 14), (.op (.mv (.t 13))), none⟩,
  ⟨(some 15), (.op (.mv (.t 1))), (some (14, false))⟩,
  ⟨(some 16), (.op (.un .not (.t 15))), (some (14, false))⟩,
  ⟨(some 17), (.op (.mv (.t 16))), (some (14, false))⟩,
  ⟨(some 18), (.op (.mv (.t 0))), (some (17, true))⟩,
  ⟨(some 19), (.op (.lenStr (.t 18))), (some (17, true))⟩,
  ⟨(some 20), (.op (.bin .neq (.t 19) (.k (.int .i64 13)))), (some (17, true))⟩,
  ⟨(some 21), (.op (.pick (.t 17) (.t 20) (.k (.bool false)))), (some (14, false))⟩,
  ⟨(some 22), (.op (.pick (.t 14) (.k (.bool true)) (.t 21))), none⟩,
  ⟨(some 23), (.op (.mv (.t 22))), none⟩,
  ⟨(some 24), (.op (.mv (.t 0))), (some (23, false))⟩,
  ⟨(some 25), (.op (.mv (.t 0))), (some (23, false))⟩,
  ⟨(some 26), (.op (.lenStr (.t 25))), (some (23, false))⟩,
  ⟨(some 27), (.op (.bin .sub (.t 26) (.k (.int .i64 1)))), (some (23, false))⟩,
  ⟨(some 28), (.op (.ixStr (.t 24) (.t 27))), (some (23, false))⟩,
  ⟨(some 29), (.op (.bin .neq (.t 28) (.k (.int .u8 90)))), (some (23, false))⟩,
  ⟨(some 30), (.op (.pick (.t 23) (.k (.bool true)) (.t 29))), none⟩])
  (.cond (.t 30)
  (.seq
  (.ops [] [
  ⟨(some 4), (.op (.mv (.k (.int .i64 0)))), none⟩,
  ⟨(some 5), (.op (.mv (.k (.bool false)))), none⟩])
  .ret)
  .skip))
  (.seq
  (.ops [] [
  ⟨(some 6), (.op (.mv (.k (.int .i64 2)))), none⟩])
  (.seq
  (.ops [] [
  ⟨(some 31), (.op (.mv (.t 0))), none⟩,
  ⟨(some 32), (.call (.k (.func (.func 52) #[] #[])) [(.t 31), (.k (.int .i64 0))]), none⟩,
  ⟨(some 7), (.op (.mv (.t 32))), none⟩])
  (.seq
  (.seq
  (.ops [] [
  ⟨(some 33), (.op (.mv (.t 1))), none⟩])
  (.cond (.t 33)
  (.seq
  (.seq
  (.ops [] [
  ⟨(some 34), (.op (.mv (.t 7))), none⟩,
  ⟨(some 35), (.op (.bin .eql (.t 34) (.k (.int .i64 999)))), none⟩,
  ⟨(some 36), (.op (.mv (.t 35))), none⟩,
  ⟨(some 37), (.op (.mv (.t 0))), (some (36, false))⟩,
  ⟨(some 38), (.call (.k (.func (.func 52) #[] #[])) [(.t 37), (.k (.int .i64 2))]), (some (36, false))⟩,
  ⟨(some 39), (.op (.bin .eql (.t 38) (.k (.int .i64 999)))), (some (36, false))⟩,
  ⟨(some 40), (.op (.pick (.t 36) (.k (.bool true)) (.t 39))), none⟩])
  (.cond (.t 40)
  (.seq
  (.ops [] [
  ⟨(some 4), (.op (.mv (.k (.int .i64 0)))), none⟩,
  ⟨(some 5), (.op (.mv (.k (.bool false)))), none⟩])
  .ret)
  .skip))
  (.seq
  (.ops [] [
  ⟨(some 41), (.op (.mv (.t 7))), none⟩,
  ⟨(some 42), (.op (.bin .mul (.t 41) (.k (.int .i64 100)))), none⟩,
  ⟨(some 43), (.op (.mv (.t 0))), none⟩,
  ⟨(some 44), (.call (.k (.func (.func 52) #[] #[])) [(.t 43), (.k (.int .i64 2))]), none⟩,
  ⟨(some 45), (.op (.bin .add (.t 42) (.t 44))), none⟩,
  ⟨(some 7), (.op (.mv (.t 45))), none⟩])
  (.ops [] [
  ⟨(some 6), (.op (.mv (.k (.int .i64 4)))), none⟩])))
  (.seq
  (.ops [] [
  ⟨(some 46), (.op (.mv (.t 7))), none⟩,
  ⟨(some 47), (.op (.bin .lss (.t 46) (.k (.int .i64 50)))), none⟩])
  (.cond (.t 47)
  (.ops [] [
  ⟨(some 48), (.op (.mv (.t 7))), none⟩,
  ⟨(some 49), (.op (.bin .add (.t 48) (.k (.int .i64 2000)))), none⟩,
  ⟨(some 7), (.op (.mv (.t 49))), none⟩])
  (.ops [] [
  ⟨(some 50), (.op (.mv (.t 7))), none⟩,
  ⟨(some 51), (.op (.bin .add (.t 50) (.k (.int .i64 1900)))), none⟩,
  ⟨(some 7), (.op (.mv (.t 51))), none⟩])))))
  (.seq
  (.ops [] [
  ⟨(some 52), (.op (.mv (.t 7))), none⟩,
  ⟨(some 53), (.op (.mv (.t 0))), none⟩,
  ⟨(some 54), (.op (.mv (.t 6))), none⟩,
  ⟨(some 55), (.call (.k (.func (.func 52) #[] #[])) [(.t 53), (.t 54)]), none⟩,
  ⟨(some 56), (.op (.mv (.t 0))), none⟩,
  ⟨(some 57), (.op (.mv (.t 6))), none⟩,
  ⟨(some 58), (.op (.bin .add (.t 57) (.k (.int .i64 2)))), none⟩,
  ⟨(some 59), (.call (.k (.func (.func 52) #[] #[])) [(.t 56), (.t 58)]), none⟩,
  ⟨(some 60), (.op (.mv (.t 0))), none⟩,
  ⟨(some 61), (.op (.mv (.t 6))), none⟩,
  ⟨(some 62), (.op (.bin .add (.t 61) (.k (.int .i64 4)))), none⟩,
  ⟨(some 63), (.call (.k (.func (.func 52) #[] #[])) [(.t 60), (.t 62)]), none⟩,
  ⟨(some 64), (.op (.mv (.t 0))), none⟩,
  ⟨(some 65), (.op (.mv (.t 6))), none⟩,
  ⟨(some 66), (.op (.bin .add (.t 65) (.k (.int .i64 6)))), none⟩,
  ⟨(some 67), (.call (.k (.func (.func 52) #[] #[])) [(.t 64), (.t 66)]), none⟩,
  ⟨(some 68), (.op (.mv (.t 0))), none⟩,
  ⟨(some 69), (.op (.mv (.t 6))), none⟩,
  ⟨(some 70), (.op (.bin .add (.t 69) (.k (.int .i64 8)))), none⟩,
  ⟨(some 71), (.call (.k (.func (.func 52) #[] #[])) [(.t 68), (.t 70)]), none⟩,
  ⟨(some 72), (.op (.build [(.int .i64 0), (.int .i64 0), (.int .i64 0), (.int .i64 0), (.int .i64 0), (.int .i64 0)] [(0, (1, (.t 52))), (1, (1, (.t 55))), (2, (1, (.t 59))), (3, (1, (.t 63))), (4, (1, (.t 67))), (5, (1, (.t 71)))])), none⟩,
  ⟨(some 73), (.call (.k (.func (.func 28) #[] #[])) [(.t 72)]), none⟩,
  ⟨(some 74), (.op (.extract (.t 73) 0)), none⟩,
  ⟨(some 75), (.op (.extract (.t 73) 1)), none⟩,
  ⟨(some 4), (.op (.mv (.t 74))), none⟩,
  ⟨(some 5), (.op (.mv (.t 75))), none⟩])
  .ret)))))),
  [(.t 4), (.t 5)]⟩
theorem r_lanyardref03_Read : resolveFn Try.prog 38 = some c_lanyardref03_Read := by kernel_rfl

def c_clock_within : RFn :=
  ⟨15,
  (.seq
  (.ops [] [
  ⟨(some 6), (.op (.mv (.k (.bool false)))), none⟩])
  (.seq
  (.ops [] [
  ⟨(some 7), (.op (.mv (.t 0))), none⟩,
  ⟨(some 8), (.op (.mv (.t 1))), none⟩,
  ⟨(some 9), (.op (.bin .geq (.t 7) (.t 8))), none⟩,
  ⟨(some 10), (.op (.mv (.t 9))), none⟩,
  ⟨(some 11), (.op (.mv (.t 0))), (some (10, true))⟩,
  ⟨(some 12), (.op (.mv (.t 2))), (some (10, true))⟩,
  ⟨(some 13), (.op (.bin .leq (.t 11) (.t 12))), (some (10, true))⟩,
  ⟨(some 14), (.op (.pick (.t 10) (.t 13) (.k (.bool false)))), none⟩,
  ⟨(some 6), (.op (.mv (.t 14))), none⟩])
  .ret)),
  [(.t 6)]⟩
theorem r_clock_within : resolveFn Try.prog 44 = some c_clock_within := by kernel_rfl

def c_clock_last : RFn :=
  ⟨26,
  (.seq
  (.ops [] [
  ⟨(some 4), (.op (.mv (.k (.int .i64 0)))), none⟩])
  (.seq
  (.seq
  (.ops [] [
  ⟨(some 5), (.op (.mv (.t 1))), none⟩,
  ⟨(some 6), (.op (.bin .eql (.t 5) (.k (.int .i64 2)))), none⟩,
  ⟨(some 7), (.op (.mv (.t 6))), none⟩,
  ⟨(some 8), (.op (.mv (.t 0))), (some (7, true))⟩,
  ⟨(some 9), (.op (.bin .rem (.t 8) (.k (.int .i64 4)))), (some (7, true))⟩,
  ⟨(some 10), (.op (.bin .eql (.t 9) (.k (.int .i64 0)))), (some (7, true))⟩,
  ⟨(some 11), (.op (.mv (.t 10))), (some (7, true))⟩,
  ⟨(some 12), (.op (.mv (.t 0))), (some (11, true))⟩,
  ⟨(some 13), (.op (.bin .rem (.t 12) (.k (.int .i64 100)))), (some (11, true))⟩,
  ⟨(some 14), (.op (.bin .neq (.t 13) (.k (.int .i64 0)))), (some (11, true))⟩,
  ⟨(some 15), (.op (.pick (.t 11) (.t 14) (.k (.bool false)))), (some (7, true))⟩,
  ⟨(some 16), (.op (.mv (.t 15))), (some (7, true))⟩,
  ⟨(some 17), (.op (.mv (.t 0))), (some (16, false))⟩,
  ⟨(some 18), (.op (.bin .rem (.t 17) (.k (.int .i64 400)))), (some (16, false))⟩,
  ⟨(some 19), (.op (.bin .eql (.t 18) (.k (.int .i64 0)))), (some (16, false))⟩,
  ⟨(some 20), (.op (.pick (.t 16) (.k (.bool true)) (.t 19))), (some (7, true))⟩,
  ⟨(some 21), (.op (.pick (.t 7) (.t 20) (.k (.bool false)))), none⟩])
  (.cond (.t 21)
  (.seq
  (.ops [] [
  ⟨(some 4), (.op (.mv (.k (.int .i64 29)))), none⟩])
  .ret)
  .skip))
  (.seq
  (.ops [] [
  ⟨(some 22), (.op (.build [(.int .i64 0), (.int .i64 0), (.int .i64 0), (.int .i64 0), (.int .i64 0), (.int .i64 0), (.int .i64 0), (.int .i64 0), (.int .i64 0), (.int .i64 0), (.int .i64 0), (.int .i64 0)] [(0, (1, (.k (.int .i64 31)))), (1, (1, (.k (.int .i64 28)))), (2, (1, (.k (.int .i64 31)))), (3, (1, (.k (.int .i64 30)))), (4, (1, (.k (.int .i64 31)))), (5, (1, (.k (.int .i64 30)))), (6, (1, (.k (.int .i64 31)))), (7, (1, (.k (.int .i64 31)))), (8, (1, (.k (.int .i64 30)))), (9, (1, (.k (.int .i64 31)))), (10, (1, (.k (.int .i64 30)))), (11, (1, (.k (.int .i64 31))))])), none⟩,
  ⟨(some 23), (.op (.mv (.t 1))), none⟩,
  ⟨(some 24), (.op (.bin .sub (.t 23) (.k (.int .i64 1)))), none⟩,
  ⟨(some 25), (.op (.ixArr 12 (.t 22) (.t 24))), none⟩,
  ⟨(some 4), (.op (.mv (.t 25))), none⟩])
  .ret))),
  [(.t 4)]⟩
theorem r_clock_last : resolveFn Try.prog 45 = some c_clock_last := by kernel_rfl

def c_lanyardref03_right : RFn :=
  ⟨64,
  (.seq
  (.ops [] [
  ⟨(some 1), (.op (.box (.t 0))), none⟩,
  ⟨(some 2), (.op (.mv (.k (.bool false)))), none⟩])
  (.seq
  (.seq
  (.ops [] [
  ⟨(some 3), (.op (.ixAddrA 6 1 (.t 1) (.k (.int .i64 0)))), none⟩,
  ⟨(some 4), (.op (.load1 (.t 3))), none⟩,
  ⟨(some 5), (.op (.bin .lss (.t 4) (.k (.int .i64 1950)))), none⟩,
  ⟨(some 6), (.op (.mv (.t 5))), none⟩,
  ⟨(some 7), (.op (.ixAddrA 6 1 (.t 1) (.k (.int .i64 0)))), (some (6, false))⟩,
  ⟨(some 8), (.op (.load1 (.t 7))), (some (6, false))⟩,
  ⟨(some 9), (.op (.bin .gtr (.t 8) (.k (.int .i64 2199)))), (some (6, false))⟩,
  ⟨(some 10), (.op (.pick (.t 6) (.k (.bool true)) (.t 9))), none⟩,
  ⟨(some 11), (.op (.mv (.t 10))), none⟩,
  ⟨(some 12), (.op (.ixAddrA 6 1 (.t 1) (.k (.int .i64 1)))), (some (11, false))⟩,
  ⟨(some 13), (.op (.load1 (.t 12))), (some (11, false))⟩,
  ⟨(some 14), (.op (.bin .lss (.t 13) (.k (.int .i64 1)))), (some (11, false))⟩,
  ⟨(some 15), (.op (.pick (.t 11) (.k (.bool true)) (.t 14))), none⟩,
  ⟨(some 16), (.op (.mv (.t 15))), none⟩,
  ⟨(some 17), (.op (.ixAddrA 6 1 (.t 1) (.k (.int .i64 1)))), (some (16, false))⟩,
  ⟨(some 18), (.op (.load1 (.t 17))), (some (16, false))⟩,
  ⟨(some 19), (.op (.bin .gtr (.t 18) (.k (.int .i64 12)))), (some (16, false))⟩,
  ⟨(some 20), (.op (.pick (.t 16) (.k (.bool true)) (.t 19))), none⟩])
  (.cond (.t 20)
  (.seq
  (.ops [] [
  ⟨(some 2), (.op (.mv (.k (.bool false)))), none⟩])
  .ret)
  .skip))
  (.seq
  (.ops [
  ⟨(some 21), (.op (.ixAddrA 6 1 (.t 1) (.k (.int .i64 2)))), none⟩,
  ⟨(some 22), (.op (.load1 (.t 21))), none⟩,
  ⟨(some 23), (.op (.bin .geq (.t 22) (.k (.int .i64 1)))), none⟩,
  ⟨(some 24), (.op (.mv (.t 23))), none⟩,
  ⟨(some 25), (.op (.ixAddrA 6 1 (.t 1) (.k (.int .i64 2)))), (some (24, true))⟩,
  ⟨(some 26), (.op (.load1 (.t 25))), (some (24, true))⟩,
  ⟨(some 27), (.op (.ixAddrA 6 1 (.t 1) (.k (.int .i64 0)))), (some (24, true))⟩,
  ⟨(some 28), (.op (.load1 (.t 27))), (some (24, true))⟩,
  ⟨(some 29), (.op (.ixAddrA 6 1 (.t 1) (.k (.int .i64 1)))), (some (24, true))⟩,
  ⟨(some 30), (.op (.load1 (.t 29))), (some (24, true))⟩,
  ⟨(some 31), (.call (.k (.func (.func 48) #[] #[])) [(.t 28), (.t 30)]), (some (24, true))⟩] [
  ⟨(some 32), (.op (.bin .leq (.t 26) (.t 31))), (some (24, true))⟩,
  ⟨(some 33), (.op (.pick (.t 24) (.t 32) (.k (.bool false)))), none⟩,
  ⟨(some 34), (.op (.mv (.t 33))), none⟩,
  ⟨(some 35), (.op (.ixAddrA 6 1 (.t 1) (.k (.int .i64 3)))), (some (34, true))⟩,
  ⟨(some 36), (.op (.load1 (.t 35))), (some (34, true))⟩,
  ⟨(some 37), (.op (.bin .geq (.t 36) (.k (.int .i64 0)))), (some (34, true))⟩,
  ⟨(some 38), (.op (.pick (.t 34) (.t 37) (.k (.bool false)))), none⟩,
  ⟨(some 39), (.op (.mv (.t 38))), none⟩,
  ⟨(some 40), (.op (.ixAddrA 6 1 (.t 1) (.k (.int .i64 3)))), (some (39, true))⟩,
  ⟨(some 41), (.op (.load1 (.t 40))), (some (39, true))⟩,
  ⟨(some 42), (.op (.bin .lss (.t 41) (.k (.int .i64 24)))), (some (39, true))⟩,
  ⟨(some 43), (.op (.pick (.t 39) (.t 42) (.k (.bool false)))), none⟩,
  ⟨(some 44), (.op (.mv (.t 43))), none⟩,
  ⟨(some 45), (.op (.ixAddrA 6 1 (.t 1) (.k (.int .i64 4)))), (some (44, true))⟩,
  ⟨(some 46), (.op (.load1 (.t 45))), (some (44, true))⟩,
  ⟨(some 47), (.op (.bin .geq (.t 46) (.k (.int .i64 0)))), (some (44, true))⟩,
  ⟨(some 48), (.op (.pick (.t 44) (.t 47) (.k (.bool false)))), none⟩,
  ⟨(some 49), (.op (.mv (.t 48))), none⟩,
  ⟨(some 50), (.op (.ixAddrA 6 1 (.t 1) (.k (.int .i64 4)))), (some (49, true))⟩,
  ⟨(some 51), (.op (.load1 (.t 50))), (some (49, true))⟩,
  ⟨(some 52), (.op (.bin .lss (.t 51) (.k (.int .i64 60)))), (some (49, true))⟩,
  ⟨(some 53), (.op (.pick (.t 49) (.t 52) (.k (.bool false)))), none⟩,
  ⟨(some 54), (.op (.mv (.t 53))), none⟩,
  ⟨(some 55), (.op (.ixAddrA 6 1 (.t 1) (.k (.int .i64 5)))), (some (54, true))⟩,
  ⟨(some 56), (.op (.load1 (.t 55))), (some (54, true))⟩,
  ⟨(some 57), (.op (.bin .geq (.t 56) (.k (.int .i64 0)))), (some (54, true))⟩,
  ⟨(some 58), (.op (.pick (.t 54) (.t 57) (.k (.bool false)))), none⟩,
  ⟨(some 59), (.op (.mv (.t 58))), none⟩,
  ⟨(some 60), (.op (.ixAddrA 6 1 (.t 1) (.k (.int .i64 5)))), (some (59, true))⟩,
  ⟨(some 61), (.op (.load1 (.t 60))), (some (59, true))⟩,
  ⟨(some 62), (.op (.bin .lss (.t 61) (.k (.int .i64 60)))), (some (59, true))⟩,
  ⟨(some 63), (.op (.pick (.t 59) (.t 62) (.k (.bool false)))), none⟩,
  ⟨(some 2), (.op (.mv (.t 63))), none⟩])
  .ret))),
  [(.t 2)]⟩
theorem r_lanyardref03_right : resolveFn Try.prog 46 = some c_lanyardref03_right := by kernel_rfl

def c_lanyardref03_days : RFn :=
  ⟨34,
  (.seq
  (.ops [] [
  ⟨(some 6), (.op (.mv (.k (.int .i64 0)))), none⟩])
  (.seq
  (.ops [] [
  ⟨(some 10), (.op (.mv (.t 2))), none⟩,
  ⟨(some 11), (.op (.bin .sub (.t 10) (.k (.int .i64 1)))), none⟩,
  ⟨(some 7), (.op (.mv (.t 11))), none⟩])
  (.seq
  (.seq
  (.ops [] [
  ⟨(some 8), (.op (.mv (.k (.int .i64 1950)))), none⟩])
  (.block 0
  (.loop
  (.seq
  (.seq
  (.ops [] [
  ⟨(some 12), (.op (.mv (.t 8))), none⟩,
  ⟨(some 13), (.op (.mv (.t 0))), none⟩,
  ⟨(some 14), (.op (.bin .lss (.t 12) (.t 13))), none⟩])
  (.cond (.t 14)
  .skip
  (.exit 0)))
  (.seq
  (.block 1
  (.seq
  (.ops [] [
  ⟨(some 17), (.op (.mv (.t 7))), none⟩,
  ⟨(some 18), (.op (.bin .add (.t 17) (.k (.int .i64 365)))), none⟩,
  ⟨(some 7), (.op (.mv (.t 18))), none⟩])
  (.seq
  (.ops [] [
  ⟨(some 19), (.op (.mv (.t 8))), none⟩,
  ⟨(some 20), (.call (.k (.func (.func 54) #[] #[])) [(.t 19)]), none⟩])
  (.cond (.t 20)
  (.ops [] [
  ⟨(some 21), (.op (.mv (.t 7))), none⟩,
  ⟨(some 22), (.op (.bin .add (.t 21) (.k (.int .i64 1)))), none⟩,
  ⟨(some 7), (.op (.mv (.t 22))), none⟩])
  .skip))))
  (.ops [] [
  ⟨(some 15), (.op (.mv (.t 8))), none⟩,
  ⟨(some 16), (.op (.bin .add (.t 15) (.k (.int .i64 1)))), none⟩,
  ⟨(some 8), (.op (.mv (.t 16))), none⟩]))))))
  (.seq
  (.seq
  (.ops [] [
  ⟨(some 9), (.op (.mv (.k (.int .i64 1)))), none⟩])
  (.block 2
  (.loop
  (.seq
  (.seq
  (.ops [] [
  ⟨(some 23), (.op (.mv (.t 9))), none⟩,
  ⟨(some 24), (.op (.mv (.t 1))), none⟩,
  ⟨(some 25), (.op (.bin .lss (.t 23) (.t 24))), none⟩])
  (.cond (.t 25)
  .skip
  (.exit 2)))
  (.seq
  (.block 3
  (.ops [] [
  ⟨(some 28), (.op (.mv (.t 7))), none⟩,
  ⟨(some 29), (.op (.mv (.t 0))), none⟩,
  ⟨(some 30), (.op (.mv (.t 9))), none⟩,
  ⟨(some 31), (.call (.k (.func (.func 48) #[] #[])) [(.t 29), (.t 30)]), none⟩,
  ⟨(some 32), (.op (.bin .add (.t 28) (.t 31))), none⟩,
  ⟨(some 7), (.op (.mv (.t 32))), none⟩]))
  (.ops [] [
  ⟨(some 26), (.op (.mv (.t 9))), none⟩,
  ⟨(some 27), (.op (.bin .add (.t 26) (.k (.int .i64 1)))), none⟩,
  ⟨(some 9), (.op (.mv (.t 27))), none⟩]))))))
  (.seq
  (.ops [] [
  ⟨(some 33), (.op (.mv (.t 7))), none⟩,
  ⟨(some 6), (.op (.mv (.t 33))), none⟩])
  .ret))))),
  [(.t 6)]⟩
theorem r_lanyardref03_days : resolveFn Try.prog 47 = some c_lanyardref03_days := by kernel_rfl

def c_lanyardref03_last : RFn :=
  ⟨16,
  (.seq
  (.ops [] [
  ⟨(some 4), (.op (.mv (.k (.int .i64 0)))), none⟩])
  (.seq
  (.seq
  (.ops [] [
  ⟨(some 5), (.op (.mv (.t 1))), none⟩,
  ⟨(some 6), (.op (.bin .eql (.t 5) (.k (.int .i64 2)))), none⟩,
  ⟨(some 7), (.op (.mv (.t 6))), none⟩,
  ⟨(some 8), (.op (.mv (.t 0))), (some (7, true))⟩,
  ⟨(some 9), (.call (.k (.func (.func 54) #[] #[])) [(.t 8)]), (some (7, true))⟩,
  ⟨(some 10), (.op (.pick (.t 7) (.t 9) (.k (.bool false)))), none⟩])
  (.cond (.t 10)
  (.seq
  (.ops [] [
  ⟨(some 4), (.op (.mv (.k (.int .i64 29)))), none⟩])
  .ret)
  .skip))
  (.seq
  (.ops [] [
  ⟨(some 11), (.op (.mkSl 12 [(.int .i64 0), (.int .i64 0), (.int .i64 0), (.int .i64 0), (.int .i64 0), (.int .i64 0), (.int .i64 0), (.int .i64 0), (.int .i64 0), (.int .i64 0), (.int .i64 0), (.int .i64 0)] [(0, (1, (.k (.int .i64 31)))), (1, (1, (.k (.int .i64 28)))), (2, (1, (.k (.int .i64 31)))), (3, (1, (.k (.int .i64 30)))), (4, (1, (.k (.int .i64 31)))), (5, (1, (.k (.int .i64 30)))), (6, (1, (.k (.int .i64 31)))), (7, (1, (.k (.int .i64 31)))), (8, (1, (.k (.int .i64 30)))), (9, (1, (.k (.int .i64 31)))), (10, (1, (.k (.int .i64 30)))), (11, (1, (.k (.int .i64 31))))])), none⟩,
  ⟨(some 12), (.op (.mv (.t 1))), none⟩,
  ⟨(some 13), (.op (.bin .sub (.t 12) (.k (.int .i64 1)))), none⟩,
  ⟨(some 14), (.op (.ixAddr 1 (.t 11) (.t 13))), none⟩,
  ⟨(some 15), (.op (.load1 (.t 14))), none⟩,
  ⟨(some 4), (.op (.mv (.t 15))), none⟩])
  .ret))),
  [(.t 4)]⟩
theorem r_lanyardref03_last : resolveFn Try.prog 48 = some c_lanyardref03_last := by kernel_rfl

def c_lanyardref03_two : RFn :=
  ⟨14,
  (.seq
  (.ops [] [
  ⟨(some 2), (.op (.mv (.k (.string ⟨#[]⟩)))), none⟩])
  (.seq
  (.ops [] [
  ⟨(some 3), (.op (.mv (.t 0))), none⟩,
  ⟨(some 4), (.op (.bin .quo (.t 3) (.k (.int .i64 10)))), none⟩,
  ⟨(some 5), (.op (.bin .rem (.t 4) (.k (.int .i64 10)))), none⟩,
  ⟨(some 6), (.op (.bin .add (.k (.int .i64 48)) (.t 5))), none⟩,
  ⟨(some 7), (.op (.toInt .u8 (.t 6))), none⟩,
  ⟨(some 8), (.op (.mv (.t 0))), none⟩,
  ⟨(some 9), (.op (.bin .rem (.t 8) (.k (.int .i64 10)))), none⟩,
  ⟨(some 10), (.op (.bin .add (.k (.int .i64 48)) (.t 9))), none⟩,
  ⟨(some 11), (.op (.toInt .u8 (.t 10))), none⟩,
  ⟨(some 12), (.op (.mkSl 2 [(.int .u8 0), (.int .u8 0)] [(0, (1, (.t 7))), (1, (1, (.t 11)))])), none⟩,
  ⟨(some 13), (.op (.b2s (.t 12))), none⟩,
  ⟨(some 2), (.op (.mv (.t 13))), none⟩])
  .ret)),
  [(.t 2)]⟩
theorem r_lanyardref03_two : resolveFn Try.prog 50 = some c_lanyardref03_two := by kernel_rfl

def c_lanyardref03_behind : RFn :=
  ⟨23,
  (.seq
  (.ops [] [
  ⟨(some 1), (.op (.box (.t 0))), none⟩,
  ⟨(some 2), (.op (.mv (.k (.string ⟨#[]⟩)))), none⟩])
  (.seq
  (.ops [
  ⟨(some 3), (.op (.ixAddrA 6 1 (.t 1) (.k (.int .i64 1)))), none⟩,
  ⟨(some 4), (.op (.load1 (.t 3))), none⟩,
  ⟨(some 5), (.call (.k (.func (.func 50) #[] #[])) [(.t 4)]), none⟩,
  ⟨(some 6), (.op (.ixAddrA 6 1 (.t 1) (.k (.int .i64 2)))), none⟩,
  ⟨(some 7), (.op (.load1 (.t 6))), none⟩,
  ⟨(some 8), (.call (.k (.func (.func 50) #[] #[])) [(.t 7)]), none⟩,
  ⟨(some 9), (.op (.bin .add (.t 5) (.t 8))), none⟩,
  ⟨(some 10), (.op (.ixAddrA 6 1 (.t 1) (.k (.int .i64 3)))), none⟩,
  ⟨(some 11), (.op (.load1 (.t 10))), none⟩,
  ⟨(some 12), (.call (.k (.func (.func 50) #[] #[])) [(.t 11)]), none⟩,
  ⟨(some 13), (.op (.bin .add (.t 9) (.t 12))), none⟩,
  ⟨(some 14), (.op (.ixAddrA 6 1 (.t 1) (.k (.int .i64 4)))), none⟩,
  ⟨(some 15), (.op (.load1 (.t 14))), none⟩,
  ⟨(some 16), (.call (.k (.func (.func 50) #[] #[])) [(.t 15)]), none⟩,
  ⟨(some 17), (.op (.bin .add (.t 13) (.t 16))), none⟩,
  ⟨(some 18), (.op (.ixAddrA 6 1 (.t 1) (.k (.int .i64 5)))), none⟩,
  ⟨(some 19), (.op (.load1 (.t 18))), none⟩,
  ⟨(some 20), (.call (.k (.func (.func 50) #[] #[])) [(.t 19)]), none⟩] [
  ⟨(some 21), (.op (.bin .add (.t 17) (.t 20))), none⟩,
  ⟨(some 22), (.op (.bin .add (.t 21) (.k (.string ⟨#[90]⟩)))), none⟩,
  ⟨(some 2), (.op (.mv (.t 22))), none⟩])
  .ret)),
  [(.t 2)]⟩
theorem r_lanyardref03_behind : resolveFn Try.prog 51 = some c_lanyardref03_behind := by kernel_rfl

def c_lanyardref03_part : RFn :=
  ⟨42,
  (.seq
  (.ops [] [
  ⟨(some 4), (.op (.mv (.k (.int .i64 0)))), none⟩])
  (.seq
  (.seq
  (.ops [] [
  ⟨(some 5), (.op (.mv (.t 0))), none⟩,
  ⟨(some 6), (.op (.mv (.t 1))), none⟩,
  ⟨(some 7), (.op (.ixStr (.t 5) (.t 6))), none⟩,
  ⟨(some 8), (.op (.bin .lss (.t 7) (.k (.int .u8 48)))), none⟩,
  ⟨(some 9), (.op (.mv (.t 8))), none⟩,
  ⟨(some 10), (.op (.mv (.t 0))), (some (9, false))⟩,
  ⟨(some 11), (.op (.mv (.t 1))), (some (9, false))⟩,
  ⟨(some 12), (.op (.ixStr (.t 10) (.t 11))), (some (9, false))⟩,
  ⟨(some 13), (.op (.bin .gtr (.t 12) (.k (.int .u8 57)))), (some (9, false))⟩,
  ⟨(some 14), (.op (.pick (.t 9) (.k (.bool true)) (.t 13))), none⟩,
  ⟨(some 15), (.op (.mv (.t 14))), none⟩,
  ⟨(some 16), (.op (.mv (.t 0))), (some (15, false))⟩,
  ⟨(some 17), (.op (.mv (.t 1))), (some (15, false))⟩,
  ⟨(some 18), (.op (.bin .add (.t 17) (.k (.int .i64 1)))), (some (15, false))⟩,
  ⟨(some 19), (.op (.ixStr (.t 16) (.t 18))), (some (15, false))⟩,
  ⟨(some 20), (.op (.bin .lss (.t 19) (.k (.int .u8 48)))), (some (15, false))⟩,
  ⟨(some 21), (.op (.pick (.t 15) (.k (.bool true)) (.t 20))), none⟩,
  ⟨(some 22), (.op (.mv (.t 21))), none⟩,
  ⟨(some 23), (.op (.mv (.t 0))), (some (22, false))⟩,
  ⟨(some 24), (.op (.mv (.t 1))), (some (22, false))⟩,
  ⟨(some 25), (.op (.bin .add (.t 24) (.k (.int .i64 1)))), (some (22, false))⟩,
  ⟨(some 26), (.op (.ixStr (.t 23) (.t 25))), (some (22, false))⟩,
  ⟨(some 27), (.op (.bin .gtr (.t 26) (.k (.int .u8 57)))), (some (22, false))⟩,
  ⟨(some 28), (.op (.pick (.t 22) (.k (.bool true)) (.t 27))), none⟩])
  (.cond (.t 28)
  (.seq
  (.ops [] [
  ⟨(some 4), (.op (.mv (.k (.int .i64 999)))), none⟩])
  .ret)
  .skip))
  (.seq
  (.ops [
  ⟨(some 29), (.op (.mv (.t 0))), none⟩,
  ⟨(some 30), (.op (.mv (.t 1))), none⟩,
  ⟨(some 31), (.op (.ixStr (.t 29) (.t 30))), none⟩,
  ⟨(some 32), (.op (.bin .sub (.t 31) (.k (.int .u8 48)))), none⟩,
  ⟨(some 33), (.op (.toInt .i64 (.t 32))), none⟩,
  ⟨(some 34), (.op (.bin .mul (.t 33) (.k (.int .i64 10)))), none⟩,
  ⟨(some 35), (.op (.mv (.t 0))), none⟩,
  ⟨(some 36), (.op (.mv (.t 1))), none⟩,
  ⟨(some 37), (.op (.bin .add (.t 36) (.k (.int .i64 1)))), none⟩,
  ⟨(some 38), (.op (.ixStr (.t 35) (.t 37))), none⟩,
  ⟨(some 39), (.op (.bin .sub (.t 38) (.k (.int .u8 48)))), none⟩,
  ⟨(some 40), (.op (.toInt .i64 (.t 39))), none⟩] [
  ⟨(some 41), (.op (.bin .add (.t 34) (.t 40))), none⟩,
  ⟨(some 4), (.op (.mv (.t 41))), none⟩])
  .ret))),
  [(.t 4)]⟩
theorem r_lanyardref03_part : resolveFn Try.prog 52 = some c_lanyardref03_part := by kernel_rfl

def c_lanyardref03_leap : RFn :=
  ⟨16,
  (.seq
  (.ops [] [
  ⟨(some 2), (.op (.mv (.k (.bool false)))), none⟩])
  (.seq
  (.ops [] [
  ⟨(some 3), (.op (.mv (.t 0))), none⟩,
  ⟨(some 4), (.op (.bin .rem (.t 3) (.k (.int .i64 4)))), none⟩,
  ⟨(some 5), (.op (.bin .eql (.t 4) (.k (.int .i64 0)))), none⟩,
  ⟨(some 6), (.op (.mv (.t 5))), none⟩,
  ⟨(some 7), (.op (.mv (.t 0))), (some (6, true))⟩,
  ⟨(some 8), (.op (.bin .rem (.t 7) (.k (.int .i64 100)))), (some (6, true))⟩,
  ⟨(some 9), (.op (.bin .neq (.t 8) (.k (.int .i64 0)))), (some (6, true))⟩,
  ⟨(some 10), (.op (.pick (.t 6) (.t 9) (.k (.bool false)))), none⟩,
  ⟨(some 11), (.op (.mv (.t 10))), none⟩,
  ⟨(some 12), (.op (.mv (.t 0))), (some (11, false))⟩,
  ⟨(some 13), (.op (.bin .rem (.t 12) (.k (.int .i64 400)))), (some (11, false))⟩,
  ⟨(some 14), (.op (.bin .eql (.t 13) (.k (.int .i64 0)))), (some (11, false))⟩,
  ⟨(some 15), (.op (.pick (.t 11) (.k (.bool true)) (.t 14))), none⟩,
  ⟨(some 2), (.op (.mv (.t 15))), none⟩])
  .ret)),
  [(.t 2)]⟩
theorem r_lanyardref03_leap : resolveFn Try.prog 54 = some c_lanyardref03_leap := by kernel_rfl

def c_lanyardlaw03_ClockMoments : RFn :=
  ⟨56,
  (.seq
  (.ops [] [
  ⟨(some 2), (.op (.box (.t 0))), none⟩,
  ⟨(some 4), (.op (.mv (.k (.bool false)))), none⟩])
  (.seq
  (.ops [] [
  ⟨(some 14), (.call (.k (.func (.func 26) #[] #[])) []), none⟩,
  ⟨(some 5), (.op (.mv (.t 14))), none⟩])
  (.seq
  (.ops [] [
  ⟨(some 16), (.op (.loadN 6 (.t 2))), none⟩,
  ⟨(some 17), (.call (.k (.func (.func 27) #[] #[])) [(.t 16)]), none⟩,
  ⟨(some 15), (.op (.mv (.t 17))), none⟩,
  ⟨(some 18), (.op (.extract (.t 15) 0)), none⟩,
  ⟨(some 19), (.op (.extract (.t 15) 1)), none⟩,
  ⟨(some 6), (.op (.mv (.t 18))), none⟩,
  ⟨(some 7), (.op (.mv (.t 19))), none⟩])
  (.seq
  (.ops [] [
  ⟨(some 21), (.op (.loadN 6 (.t 2))), none⟩,
  ⟨(some 22), (.call (.k (.func (.func 28) #[] #[])) [(.t 21)]), none⟩,
  ⟨(some 20), (.op (.mv (.t 22))), none⟩,
  ⟨(some 23), (.op (.extract (.t 20) 0)), none⟩,
  ⟨(some 24), (.op (.extract (.t 20) 1)), none⟩,
  ⟨(some 8), (.op (.mv (.t 23))), none⟩,
  ⟨(some 9), (.op (.mv (.t 24))), none⟩])
  (.seq
  (.ops [] [
  ⟨(some 26), (.op (.mv (.t 1))), none⟩,
  ⟨(some 27), (.call (.k (.func (.func 29) #[] #[])) [(.t 26)]), none⟩,
  ⟨(some 25), (.op (.mv (.t 27))), none⟩,
  ⟨(some 28), (.op (.extract (.t 25) 0)), none⟩,
  ⟨(some 29), (.op (.extract (.t 25) 1)), none⟩,
  ⟨(some 10), (.op (.new [(.int .i64 0), (.int .i64 0), (.int .i64 0), (.int .i64 0), (.int .i64 0), (.int .i64 0)])), none⟩,
  ⟨none, (.op (.store 6 (.t 10) (.t 28))), none⟩,
  ⟨(some 11), (.op (.mv (.t 29))), none⟩])
  (.seq
  (.ops [] [
  ⟨(some 31), (.op (.mv (.t 1))), none⟩,
  ⟨(some 32), (.call (.k (.func (.func 30) #[] #[])) [(.t 31)]), none⟩,
  ⟨(some 30), (.op (.mv (.t 32))), none⟩,
  ⟨(some 33), (.op (.extract (.t 30) 0)), none⟩,
  ⟨(some 34), (.op (.extract (.t 30) 1)), none⟩,
  ⟨(some 12), (.op (.new [(.int .i64 0), (.int .i64 0), (.int .i64 0), (.int .i64 0), (.int .i64 0), (.int .i64 0)])), none⟩,
  ⟨none, (.op (.store 6 (.t 12) (.t 33))), none⟩,
  ⟨(some 13), (.op (.mv (.t 34))), none⟩])
  (.seq
  (.ops [] [
  ⟨(some 35), (.op (.mv (.t 5))), none⟩,
  ⟨(some 36), (.op (.mv (.t 35))), none⟩,
  ⟨(some 37), (.op (.mv (.t 6))), (some (36, true))⟩,
  ⟨(some 38), (.op (.mv (.t 8))), (some (36, true))⟩,
  ⟨(some 39), (.op (.bin .eql (.t 37) (.t 38))), (some (36, true))⟩,
  ⟨(some 40), (.op (.pick (.t 36) (.t 39) (.k (.bool false)))), none⟩,
  ⟨(some 41), (.op (.mv (.t 40))), none⟩,
  ⟨(some 42), (.op (.mv (.t 7))), (some (41, true))⟩,
  ⟨(some 43), (.op (.mv (.t 9))), (some (41, true))⟩,
  ⟨(some 44), (.op (.eqB false (.t 42) (.t 43))), (some (41, true))⟩,
  ⟨(some 45), (.op (.pick (.t 41) (.t 44) (.k (.bool false)))), none⟩,
  ⟨(some 46), (.op (.mv (.t 45))), none⟩,
  ⟨(some 47), (.op (.loadN 6 (.t 10))), (some (46, true))⟩,
  ⟨(some 48), (.op (.loadN 6 (.t 12))), (some (46, true))⟩,
  ⟨(some 49), (.op (.eqA .eql 38 (.t 47) (.t 48))), (some (46, true))⟩,
  ⟨(some 50), (.op (.pick (.t 46) (.t 49) (.k (.bool false)))), none⟩,
  ⟨(some 51), (.op (.mv (.t 50))), none⟩,
  ⟨(some 52), (.op (.mv (.t 11))), (some (51, true))⟩,
  ⟨(some 53), (.op (.mv (.t 13))), (some (51, true))⟩,
  ⟨(some 54), (.op (.eqB false (.t 52) (.t 53))), (some (51, true))⟩,
  ⟨(some 55), (.op (.pick (.t 51) (.t 54) (.k (.bool false)))), none⟩,
  ⟨(some 4), (.op (.mv (.t 55))), none⟩])
  .ret))))))),
  [(.t 4)]⟩
theorem r_lanyardlaw03_ClockMoments : resolveFn Try.prog 8 = some c_lanyardlaw03_ClockMoments := by kernel_rfl

def c_lanyardlaw03_ClockOrder : RFn :=
  ⟨86,
  (.seq
  (.ops [] [
  ⟨(some 2), (.op (.box (.t 0))), none⟩,
  ⟨(some 3), (.op (.box (.t 1))), none⟩,
  ⟨(some 4), (.op (.mv (.k (.bool false)))), none⟩])
  (.seq
  (.ops [] [
  ⟨(some 16), (.call (.k (.func (.func 26) #[] #[])) []), none⟩,
  ⟨(some 5), (.op (.mv (.t 16))), none⟩])
  (.seq
  (.ops [] [
  ⟨(some 18), (.op (.loadN 6 (.t 2))), none⟩,
  ⟨(some 19), (.call (.k (.func (.func 27) #[] #[])) [(.t 18)]), none⟩,
  ⟨(some 17), (.op (.mv (.t 19))), none⟩,
  ⟨(some 20), (.op (.extract (.t 17) 0)), none⟩,
  ⟨(some 21), (.op (.extract (.t 17) 1)), none⟩,
  ⟨(some 6), (.op (.mv (.t 20))), none⟩,
  ⟨(some 7), (.op (.mv (.t 21))), none⟩])
  (.seq
  (.ops [] [
  ⟨(some 23), (.op (.loadN 6 (.t 3))), none⟩,
  ⟨(some 24), (.call (.k (.func (.func 27) #[] #[])) [(.t 23)]), none⟩,
  ⟨(some 22), (.op (.mv (.t 24))), none⟩,
  ⟨(some 25), (.op (.extract (.t 22) 0)), none⟩,
  ⟨(some 26), (.op (.extract (.t 22) 1)), none⟩,
  ⟨(some 8), (.op (.mv (.t 25))), none⟩,
  ⟨(some 9), (.op (.mv (.t 26))), none⟩])
  (.seq
  (.seq
  (.ops [] [
  ⟨(some 27), (.op (.mv (.t 7))), none⟩,
  ⟨(some 28), (.op (.un .not (.t 27))), none⟩,
  ⟨(some 29), (.op (.mv (.t 28))), none⟩,
  ⟨(some 30), (.op (.mv (.t 9))), (some (29, false))⟩,
  ⟨(some 31), (.op (.un .not (.t 30))), (some (29, false))⟩,
  ⟨(some 32), (.op (.pick (.t 29) (.k (.bool true)) (.t 31))), none⟩])
  (.cond (.t 32)
  (.seq
  (.ops [] [
  ⟨(some 33), (.op (.mv (.t 5))), none⟩,
  ⟨(some 4), (.op (.mv (.t 33))), none⟩])
  .ret)
  .skip))
  (.seq
  (.ops [] [
  ⟨(some 10), (.op (.mv (.k (.bool false)))), none⟩])
  (.seq
  (.seq
  (.ops [] [
  ⟨(some 11), (.op (.mv (.k (.int .i64 0)))), none⟩])
  (.block 0
  (.loop
  (.seq
  (.seq
  (.ops [] [
  ⟨(some 34), (.op (.mv (.t 11))), none⟩,
  ⟨(some 35), (.op (.bin .lss (.t 34) (.k (.int .i64 6)))), none⟩])
  (.cond (.t 35)
  .skip
  (.exit 0)))
  (.seq
  (.block 1
  (.seq
  (.ops [
  ⟨(some 38), (.op (.mv (.t 11))), none⟩,
  ⟨(some 39), (.op (.ixAddrA 6 1 (.t 2) (.t 38))), none⟩,
  ⟨(some 40), (.op (.load1 (.t 39))), none⟩,
  ⟨(some 41), (.op (.mv (.t 11))), none⟩,
  ⟨(some 42), (.op (.ixAddrA 6 1 (.t 3) (.t 41))), none⟩,
  ⟨(some 43), (.op (.load1 (.t 42))), none⟩] [
  ⟨(some 44), (.op (.bin .neq (.t 40) (.t 43))), none⟩])
  (.cond (.t 44)
  (.seq
  (.ops [
  ⟨(some 45), (.op (.mv (.t 11))), none⟩,
  ⟨(some 46), (.op (.ixAddrA 6 1 (.t 2) (.t 45))), none⟩,
  ⟨(some 47), (.op (.load1 (.t 46))), none⟩,
  ⟨(some 48), (.op (.mv (.t 11))), none⟩,
  ⟨(some 49), (.op (.ixAddrA 6 1 (.t 3) (.t 48))), none⟩,
  ⟨(some 50), (.op (.load1 (.t 49))), none⟩] [
  ⟨(some 51), (.op (.bin .lss (.t 47) (.t 50))), none⟩,
  ⟨(some 10), (.op (.mv (.t 51))), none⟩])
  (.exit 0))
  .skip)))
  (.ops [] [
  ⟨(some 36), (.op (.mv (.t 11))), none⟩,
  ⟨(some 37), (.op (.bin .add (.t 36) (.k (.int .i64 1)))), none⟩,
  ⟨(some 11), (.op (.mv (.t 37))), none⟩]))))))
  (.seq
  (.ops [] [
  ⟨(some 53), (.op (.mv (.t 6))), none⟩,
  ⟨(some 54), (.call (.k (.func (.func 31) #[] #[])) [(.t 53)]), none⟩,
  ⟨(some 52), (.op (.mv (.t 54))), none⟩,
  ⟨(some 55), (.op (.extract (.t 52) 0)), none⟩,
  ⟨(some 56), (.op (.extract (.t 52) 1)), none⟩,
  ⟨(some 12), (.op (.mv (.t 55))), none⟩,
  ⟨(some 13), (.op (.mv (.t 56))), none⟩])
  (.seq
  (.ops [] [
  ⟨(some 58), (.op (.mv (.t 8))), none⟩,
  ⟨(some 59), (.call (.k (.func (.func 31) #[] #[])) [(.t 58)]), none⟩,
  ⟨(some 57), (.op (.mv (.t 59))), none⟩,
  ⟨(some 60), (.op (.extract (.t 57) 0)), none⟩,
  ⟨(some 61), (.op (.extract (.t 57) 1)), none⟩,
  ⟨(some 14), (.op (.mv (.t 60))), none⟩,
  ⟨(some 15), (.op (.mv (.t 61))), none⟩])
  (.seq
  (.ops [] [
  ⟨(some 62), (.op (.mv (.t 5))), none⟩,
  ⟨(some 63), (.op (.mv (.t 62))), none⟩,
  ⟨(some 64), (.op (.mv (.t 6))), (some (63, true))⟩,
  ⟨(some 65), (.op (.mv (.t 8))), (some (63, true))⟩,
  ⟨(some 66), (.op (.bin .lss (.t 64) (.t 65))), (some (63, true))⟩,
  ⟨(some 67), (.op (.mv (.t 10))), (some (63, true))⟩,
  ⟨(some 68), (.op (.eqB false (.t 66) (.t 67))), (some (63, true))⟩,
  ⟨(some 69), (.op (.pick (.t 63) (.t 68) (.k (.bool false)))), none⟩,
  ⟨(some 70), (.op (.mv (.t 69))), none⟩,
  ⟨(some 71), (.op (.mv (.t 12))), (some (70, true))⟩,
  ⟨(some 72), (.op (.mv (.t 14))), (some (70, true))⟩,
  ⟨(some 73), (.op (.bin .lss (.t 71) (.t 72))), (some (70, true))⟩,
  ⟨(some 74), (.op (.mv (.t 10))), (some (70, true))⟩,
  ⟨(some 75), (.op (.eqB false (.t 73) (.t 74))), (some (70, true))⟩,
  ⟨(some 76), (.op (.pick (.t 70) (.t 75) (.k (.bool false)))), none⟩,
  ⟨(some 77), (.op (.mv (.t 76))), none⟩,
  ⟨(some 78), (.op (.mv (.t 6))), (some (77, true))⟩,
  ⟨(some 79), (.op (.mv (.t 8))), (some (77, true))⟩,
  ⟨(some 80), (.op (.bin .eql (.t 78) (.t 79))), (some (77, true))⟩,
  ⟨(some 81), (.op (.loadN 6 (.t 2))), (some (77, true))⟩,
  ⟨(some 82), (.op (.loadN 6 (.t 3))), (some (77, true))⟩,
  ⟨(some 83), (.op (.eqA .eql 38 (.t 81) (.t 82))), (some (77, true))⟩,
  ⟨(some 84), (.op (.eqB false (.t 80) (.t 83))), (some (77, true))⟩,
  ⟨(some 85), (.op (.pick (.t 77) (.t 84) (.k (.bool false)))), none⟩,
  ⟨(some 4), (.op (.mv (.t 85))), none⟩])
  .ret)))))))))),
  [(.t 4)]⟩
theorem r_lanyardlaw03_ClockOrder : resolveFn Try.prog 9 = some c_lanyardlaw03_ClockOrder := by kernel_rfl

def c_lanyardlaw03_ClockNext : RFn :=
  ⟨180,
  (.seq
  (.ops [] [
  ⟨(some 2), (.op (.mv (.k (.bool false)))), none⟩])
  (.seq
  (.ops [] [
  ⟨(some 10), (.call (.k (.func (.func 26) #[] #[])) []), none⟩,
  ⟨(some 3), (.op (.mv (.t 10))), none⟩])
  (.seq
  (.ops [] [
  ⟨(some 12), (.op (.mv (.t 0))), none⟩,
  ⟨(some 13), (.call (.k (.func (.func 29) #[] #[])) [(.t 12)]), none⟩,
  ⟨(some 11), (.op (.mv (.t 13))), none⟩,
  ⟨(some 14), (.op (.extract (.t 11) 0)), none⟩,
  ⟨(some 15), (.op (.extract (.t 11) 1)), none⟩,
  ⟨(some 4), (.op (.new [(.int .i64 0), (.int .i64 0), (.int .i64 0), (.int .i64 0), (.int .i64 0), (.int .i64 0)])), none⟩,
  ⟨none, (.op (.store 6 (.t 4) (.t 14))), none⟩,
  ⟨(some 5), (.op (.mv (.t 15))), none⟩])
  (.seq
  (.seq
  (.ops [] [
  ⟨(some 16), (.op (.mv (.t 5))), none⟩,
  ⟨(some 17), (.op (.un .not (.t 16))), none⟩,
  ⟨(some 18), (.op (.mv (.t 17))), none⟩,
  ⟨(some 19), (.op (.mv (.t 0))), (some (18, false))⟩,
  ⟨(some 20), (.op (.bin .gtr (.t 19) (.k (.int .i64 7258118398)))), (some (18, false))⟩,
  ⟨(some 21), (.op (.pick (.t 18) (.k (.bool true)) (.t 20))), none⟩])
  (.cond (.t 21)
  (.seq
  (.ops [] [
  ⟨(some 22), (.op (.mv (.t 3))), none⟩,
  ⟨(some 2), (.op (.mv (.t 22))), none⟩])
  .ret)
  .skip))
  (.seq
  (.ops [] [
  ⟨(some 24), (.op (.mv (.t 0))), none⟩,
  ⟨(some 25), (.op (.bin .add (.t 24) (.k (.int .i64 1)))), none⟩,
  ⟨(some 26), (.call (.k (.func (.func 29) #[] #[])) [(.t 25)]), none⟩,
  ⟨(some 23), (.op (.mv (.t 26))), none⟩,
  ⟨(some 27), (.op (.extract (.t 23) 0)), none⟩,
  ⟨(some 28), (.op (.extract (.t 23) 1)), none⟩,
  ⟨(some 6), (.op (.new [(.int .i64 0), (.int .i64 0), (.int .i64 0), (.int .i64 0), (.int .i64 0), (.int .i64 0)])), none⟩,
  ⟨none, (.op (.store 6 (.t 6) (.t 27))), none⟩,
  ⟨(some 7), (.op (.mv (.t 28))), none⟩])
  (.seq
  (.seq
  (.ops [] [
  ⟨(some 29), (.op (.mv (.t 7))), none⟩,
  ⟨(some 30), (.op (.un .not (.t 29))), none⟩])
  (.cond (.t 30)
  (.seq
  (.ops [] [
  ⟨(some 2), (.op (.mv (.k (.bool false)))), none⟩])
  .ret)
  .skip))
  (.seq
  (.seq
  (.ops [] [
  ⟨(some 31), (.op (.ixAddrA 6 1 (.t 4) (.k (.int .i64 5)))), none⟩,
  ⟨(some 32), (.op (.load1 (.t 31))), none⟩,
  ⟨(some 33), (.op (.bin .lss (.t 32) (.k (.int .i64 59)))), none⟩])
  (.cond (.t 33)
  (.seq
  (.ops [] [
  ⟨(some 34), (.op (.ixAddrA 6 1 (.t 4) (.k (.int .i64 5)))), none⟩,
  ⟨(some 35), (.op (.load1 (.t 34))), none⟩,
  ⟨(some 36), (.op (.bin .add (.t 35) (.k (.int .i64 1)))), none⟩,
  ⟨(some 37), (.op (.ixAddrA 6 1 (.t 4) (.k (.int .i64 5)))), none⟩,
  ⟨none, (.op (.store 1 (.t 37) (.t 36))), none⟩])
  (.seq
  (.ops [] [
  ⟨(some 38), (.op (.mv (.t 3))), none⟩,
  ⟨(some 39), (.op (.mv (.t 38))), none⟩,
  ⟨(some 40), (.op (.loadN 6 (.t 4))), (some (39, true))⟩,
  ⟨(some 41), (.op (.loadN 6 (.t 6))), (some (39, true))⟩,
  ⟨(some 42), (.op (.eqA .eql 38 (.t 40) (.t 41))), (some (39, true))⟩,
  ⟨(some 43), (.op (.pick (.t 39) (.t 42) (.k (.bool false)))), none⟩,
  ⟨(some 2), (.op (.mv (.t 43))), none⟩])
  .ret))
  .skip))
  (.seq
  (.seq
  (.ops [] [
  ⟨(some 44), (.op (.ixAddrA 6 1 (.t 4) (.k (.int .i64 3)))), none⟩,
  ⟨(some 45), (.op (.load1 (.t 44))), none⟩,
  ⟨(some 46), (.op (.bin .lss (.t 45) (.k (.int .i64 23)))), none⟩,
  ⟨(some 47), (.op (.mv (.t 46))), none⟩,
  ⟨(some 48), (.op (.ixAddrA 6 1 (.t 4) (.k (.int .i64 4)))), (some (47, false))⟩,
  ⟨(some 49), (.op (.load1 (.t 48))), (some (47, false))⟩,
  ⟨(some 50), (.op (.bin .lss (.t 49) (.k (.int .i64 59)))), (some (47, false))⟩,
  ⟨(some 51), (.op (.pick (.t 47) (.k (.bool true)) (.t 50))), none⟩])
  (.cond (.t 51)
  (.seq
  (.ops [] [
  ⟨(some 52), (.op (.ixAddrA 6 1 (.t 4) (.k (.int .i64 3)))), none⟩,
  ⟨(some 53), (.op (.load1 (.t 52))), none⟩,
  ⟨(some 54), (.op (.bin .mul (.t 53) (.k (.int .i64 60)))), none⟩,
  ⟨(some 55), (.op (.ixAddrA 6 1 (.t 4) (.k (.int .i64 4)))), none⟩,
  ⟨(some 56), (.op (.load1 (.t 55))), none⟩,
  ⟨(some 57), (.op (.bin .add (.t 54) (.t 56))), none⟩,
  ⟨(some 58), (.op (.bin .add (.t 57) (.k (.int .i64 1)))), none⟩,
  ⟨(some 8), (.op (.mv (.t 58))), none⟩])
  (.seq
  (.ops [] [
  ⟨(some 59), (.op (.mv (.t 3))), none⟩,
  ⟨(some 60), (.op (.mv (.t 59))), none⟩,
  ⟨(some 61), (.op (.ixAddrA 6 1 (.t 6) (.k (.int .i64 5)))), (some (60, true))⟩,
  ⟨(some 62), (.op (.load1 (.t 61))), (some (60, true))⟩,
  ⟨(some 63), (.op (.bin .eql (.t 62) (.k (.int .i64 0)))), (some (60, true))⟩,
  ⟨(some 64), (.op (.pick (.t 60) (.t 63) (.k (.bool false)))), none⟩,
  ⟨(some 65), (.op (.mv (.t 64))), none⟩,
  ⟨(some 66), (.op (.ixAddrA 6 1 (.t 6) (.k (.int .i64 3)))), (some (65, true))⟩,
  ⟨(some 67), (.op (.load1 (.t 66))), (some (65, true))⟩,
  ⟨(some 68), (.op (.mv (.t 8))), (some (65, true))⟩,
  ⟨(some 69), (.op (.bin .quo (.t 68) (.k (.int .i64 60)))), (some (65, true))⟩,
  ⟨(some 70), (.op (.bin .eql (.t 67) (.t 69))), (some (65, true))⟩,
  ⟨(some 71), (.op (.pick (.t 65) (.t 70) (.k (.bool false)))), none⟩,
  ⟨(some 72), (.op (.mv (.t 71))), none⟩,
  ⟨(some 73), (.op (.ixAddrA 6 1 (.t 6) (.k (.int .i64 4)))), (some (72, true))⟩,
  ⟨(some 74), (.op (.load1 (.t 73))), (some (72, true))⟩,
  ⟨(some 75), (.op (.mv (.t 8))), (some (72, true))⟩,
  ⟨(some 76), (.op (.bin .rem (.t 75) (.k (.int .i64 60)))), (some (72, true))⟩,
  ⟨(some 77), (.op (.bin .eql (.t 74) (.t 76))), (some (72, true))⟩,
  ⟨(some 78), (.op (.pick (.t 72) (.t 77) (.k (.bool false)))), none⟩,
  ⟨(some 79), (.op (.mv (.t 78))), none⟩,
  ⟨(some 80), (.op (.ixAddrA 6 1 (.t 4) (.k (.int .i64 0)))), (some (79, true))⟩,
  ⟨(some 81), (.op (.load1 (.t 80))), (some (79, true))⟩,
  ⟨(some 82), (.op (.ixAddrA 6 1 (.t 6) (.k (.int .i64 0)))), (some (79, true))⟩,
  ⟨(some 83), (.op (.load1 (.t 82))), (some (79, true))⟩,
  ⟨(some 84), (.op (.bin .eql (.t 81) (.t 83))), (some (79, true))⟩,
  ⟨(some 85), (.op (.pick (.t 79) (.t 84) (.k (.bool false)))), none⟩,
  ⟨(some 86), (.op (.mv (.t 85))), none⟩,
  ⟨(some 87), (.op (.ixAddrA 6 1 (.t 4) (.k (.int .i64 1)))), (some (86, true))⟩,
  ⟨(some 88), (.op (.load1 (.t 87))), (some (86, true))⟩,
  ⟨(some 89), (.op (.ixAddrA 6 1 (.t 6) (.k (.int .i64 1)))), (some (86, true))⟩,
  ⟨(some 90), (.op (.load1 (.t 89))), (some (86, true))⟩,
  ⟨(some 91), (.op (.bin .eql (.t 88) (.t 90))), (some (86, true))⟩,
  ⟨(some 92), (.op (.pick (.t 86) (.t 91) (.k (.bool false)))), none⟩,
  ⟨(some 93), (.op (.mv (.t 92))), none⟩,
  ⟨(some 94), (.op (.ixAddrA 6 1 (.t 4) (.k (.int .i64 2)))), (some (93, true))⟩,
  ⟨(some 95), (.op (.load1 (.t 94))), (some (93, true))⟩,
  ⟨(some 96), (.op (.ixAddrA 6 1 (.t 6) (.k (.int .i64 2)))), (some (93, true))⟩,
  ⟨(some 97), (.op (.load1 (.t 96))), (some (93, true))⟩,
  ⟨(some 98), (.op (.bin .eql (.t 95) (.t 97))), (some (93, true))⟩,
  ⟨(some 99), (.op (.pick (.t 93) (.t 98) (.k (.bool false)))), none⟩,
  ⟨(some 2), (.op (.mv (.t 99))), none⟩])
  .ret))
  .skip))
  (.seq
  (.ops [] [
  ⟨(some 100), (.op (.ixAddrA 6 1 (.t 4) (.k (.int .i64 2)))), none⟩,
  ⟨(some 101), (.op (.load1 (.t 100))), none⟩,
  ⟨(some 102), (.op (.bin .add (.t 101) (.k (.int .i64 1)))), none⟩,
  ⟨(some 9), (.op (.mv (.t 102))), none⟩])
  (.seq
  (.ops [] [
  ⟨(some 103), (.op (.mv (.t 3))), none⟩,
  ⟨(some 104), (.op (.mv (.t 103))), none⟩,
  ⟨(some 105), (.op (.ixAddrA 6 1 (.t 6) (.k (.int .i64 3)))), (some (104, true))⟩,
  ⟨(some 106), (.op (.load1 (.t 105))), (some (104, true))⟩,
  ⟨(some 107), (.op (.bin .eql (.t 106) (.k (.int .i64 0)))), (some (104, true))⟩,
  ⟨(some 108), (.op (.pick (.t 104) (.t 107) (.k (.bool false)))), none⟩,
  ⟨(some 109), (.op (.mv (.t 108))), none⟩,
  ⟨(some 110), (.op (.ixAddrA 6 1 (.t 6) (.k (.int .i64 4)))), (some (109, true))⟩,
  ⟨(some 111), (.op (.load1 (.t 110))), (some (109, true))⟩,
  ⟨(some 112), (.op (.bin .eql (.t 111) (.k (.int .i64 0)))), (some (109, true))⟩,
  ⟨(some 113), (.op (.pick (.t 109) (.t 112) (.k (.bool false)))), none⟩,
  ⟨(some 114), (.op (.mv (.t 113))), none⟩,
  ⟨(some 115), (.op (.ixAddrA 6 1 (.t 6) (.k (.int .i64 5)))), (some (114, true))⟩,
  ⟨(some 116), (.op (.load1 (.t 115))), (some (114, true))⟩,
  ⟨(some 117), (.op (.bin .eql (.t 116) (.k (.int .i64 0)))), (some (114, true))⟩,
  ⟨(some 118), (.op (.pick (.t 114) (.t 117) (.k (.bool false)))), none⟩,
  ⟨(some 119), (.op (.mv (.t 118))), none⟩,
  ⟨(some 120), (.op (.ixAddrA 6 1 (.t 6) (.k (.int .i64 2)))), (some (119, true))⟩,
  ⟨(some 121), (.op (.load1 (.t 120))), (some (119, true))⟩,
  ⟨(some 122), (.op (.mv (.t 9))), (some (119, true))⟩,
  ⟨(some 123), (.op (.bin .eql (.t 121) (.t 122))), (some (119, true))⟩,
  ⟨(some 124), (.op (.mv (.t 123))), (some (119, true))⟩,
  ⟨(some 125), (.op (.ixAddrA 6 1 (.t 6) (.k (.int .i64 1)))), (some (124, true))⟩,
  ⟨(some 126), (.op (.load1 (.t 125))), (some (124, true))⟩,
  ⟨(some 127), (.op (.ixAddrA 6 1 (.t 4) (.k (.int .i64 1)))), (some (124, true))⟩,
  ⟨(some 128), (.op (.load1 (.t 127))), (some (124, true))⟩,
  ⟨(some 129), (.op (.bin .eql (.t 126) (.t 128))), (some (124, true))⟩,
  ⟨(some 130), (.op (.pick (.t 124) (.t 129) (.k (.bool false)))), (some (119, true))⟩,
  ⟨(some 131), (.op (.mv (.t 130))), (some (119, true))⟩,
  ⟨(some 132), (.op (.ixAddrA 6 1 (.t 6) (.k (.int .i64 2)))), (some (131, false))⟩,
  ⟨(some 133), (.op (.load1 (.t 132))), (some (131, false))⟩,
  ⟨(some 134), (.op (.bin .eql (.t 133) (.k (.int .i64 1)))), (some (131, false))⟩,
  ⟨(some 135), (.op (.mv (.t 134))), (some (131, false))⟩,
  ⟨(some 136), (.op (.ixAddrA 6 1 (.t 4) (.k (.int .i64 2)))), (some (135, true))⟩,
  ⟨(some 137), (.op (.load1 (.t 136))), (some (135, true))⟩,
  ⟨(some 138), (.op (.bin .geq (.t 137) (.k (.int .i64 28)))), (some (135, true))⟩,
  ⟨(some 139), (.op (.pick (.t 135) (.t 138) (.k (.bool false)))), (some (131, false))⟩,
  ⟨(some 140), (.op (.mv (.t 139))), (some (131, false))⟩,
  ⟨(some 141), (.op (.ixAddrA 6 1 (.t 6) (.k (.int .i64 1)))), (some (140, true))⟩,
  ⟨(some 142), (.op (.load1 (.t 141))), (some (140, true))⟩,
  ⟨(some 143), (.op (.ixAddrA 6 1 (.t 4) (.k (.int .i64 1)))), (some (140, true))⟩,
  ⟨(some 144), (.op (.load1 (.t 143))), (some (140, true))⟩,
  ⟨(some 145), (.op (.bin .add (.t 144) (.k (.int .i64 1)))), (some (140, true))⟩,
  ⟨(some 146), (.op (.bin .eql (.t 142) (.t 145))), (some (140, true))⟩,
  ⟨(some 147), (.op (.mv (.t 146))), (some (140, true))⟩,
  ⟨(some 148), (.op (.ixAddrA 6 1 (.t 6) (.k (.int .i64 0)))), (some (147, true))⟩,
  ⟨(some 149), (.op (.load1 (.t 148))), (some (147, true))⟩,
  ⟨(some 150), (.op (.ixAddrA 6 1 (.t 4) (.k (.int .i64 0)))), (some (147, true))⟩,
  ⟨(some 151), (.op (.load1 (.t 150))), (some (147, true))⟩,
  ⟨(some 152), (.op (.bin .eql (.t 149) (.t 151))), (some (147, true))⟩,
  ⟨(some 153), (.op (.pick (.t 147) (.t 152) (.k (.bool false)))), (some (140, true))⟩,
  ⟨(some 154), (.op (.mv (.t 153))), (some (140, true))⟩,
  ⟨(some 155), (.op (.ixAddrA 6 1 (.t 6) (.k (.int .i64 1)))), (some (154, false))⟩,
  ⟨(some 156), (.op (.load1 (.t 155))), (some (154, false))⟩,
  ⟨(some 157), (.op (.bin .eql (.t 156) (.k (.int .i64 1)))), (some (154, false))⟩,
  ⟨(some 158), (.op (.mv (.t 157))), (some (154, false))⟩,
  ⟨(some 159), (.op (.ixAddrA 6 1 (.t 4) (.k (.int .i64 1)))), (some (158, true))⟩,
  ⟨(some 160), (.op (.load1 (.t 159))), (some (158, true))⟩,
  ⟨(some 161), (.op (.bin .eql (.t 160) (.k (.int .i64 12)))), (some (158, true))⟩,
  ⟨(some 162), (.op (.pick (.t 158) (.t 161) (.k (.bool false)))), (some (154, false))⟩,
  ⟨(some 163), (.op (.mv (.t 162))), (some (154, false))⟩,
  ⟨(some 164), (.op (.ixAddrA 6 1 (.t 4) (.k (.int .i64 2)))), (some (163, true))⟩,
  ⟨(some 165), (.op (.load1 (.t 164))), (some (163, true))⟩,
  ⟨(some 166), (.op (.bin .eql (.t 165) (.k (.int .i64 31)))), (some (163, true))⟩,
  ⟨(some 167), (.op (.pick (.t 163) (.t 166) (.k (.bool false)))), (some (154, false))⟩,
  ⟨(some 168), (.op (.mv (.t 167))), (some (154, false))⟩,
  ⟨(some 169), (.op (.ixAddrA 6 1 (.t 6) (.k (.int .i64 0)))), (some (168, true))⟩,
  ⟨(some 170), (.op (.load1 (.t 169))), (some (168, true))⟩,
  ⟨(some 171), (.op (.ixAddrA 6 1 (.t 4) (.k (.int .i64 0)))), (some (168, true))⟩,
  ⟨(some 172), (.op (.load1 (.t 171))), (some (168, true))⟩,
  ⟨(some 173), (.op (.bin .add (.t 172) (.k (.int .i64 1)))), (some (168, true))⟩,
  ⟨(some 174), (.op (.bin .eql (.t 170) (.t 173))), (some (168, true))⟩,
  ⟨(some 175), (.op (.pick (.t 168) (.t 174) (.k (.bool false)))), (some (154, false))⟩,
  ⟨(some 176), (.op (.pick (.t 154) (.k (.bool true)) (.t 175))), (some (140, true))⟩,
  ⟨(some 177), (.op (.pick (.t 140) (.t 176) (.k (.bool false)))), (some (131, false))⟩,
  ⟨(some 178), (.op (.pick (.t 131) (.k (.bool true)) (.t 177))), (some (119, true))⟩,
  ⟨(some 179), (.op (.pick (.t 119) (.t 178) (.k (.bool false)))), none⟩,
  ⟨(some 2), (.op (.mv (.t 179))), none⟩])
  .ret)))))))))),
  [(.t 2)]⟩
theorem r_lanyardlaw03_ClockNext : resolveFn Try.prog 10 = some c_lanyardlaw03_ClockNext := by kernel_rfl

def c_lanyardlaw03_ClockTexts : RFn :=
  ⟨112,
  (.seq
  (.ops [] [
  ⟨(some 6), (.op (.mv (.k (.bool false)))), none⟩])
  (.seq
  (.ops [] [
  ⟨(some 24), (.call (.k (.func (.func 26) #[] #[])) []), none⟩,
  ⟨(some 7), (.op (.mv (.t 24))), none⟩])
  (.seq
  (.seq
  (.ops [] [
  ⟨(some 25), (.op (.mv (.t 1))), none⟩,
  ⟨(some 26), (.op (.lenStr (.t 25))), none⟩,
  ⟨(some 27), (.op (.bin .gtr (.t 26) (.k (.int .i64 100)))), none⟩])
  (.cond (.t 27)
  (.seq
  (.ops [] [
  ⟨(some 28), (.op (.mv (.t 7))), none⟩,
  ⟨(some 6), (.op (.mv (.t 28))), none⟩])
  .ret)
  .skip))
  (.seq
  (.ops [] [
  ⟨(some 30), (.op (.mv (.t 0))), none⟩,
  ⟨(some 31), (.call (.k (.func (.func 32) #[] #[])) [(.t 30)]), none⟩,
  ⟨(some 29), (.op (.mv (.t 31))), none⟩,
  ⟨(some 32), (.op (.extract (.t 29) 0)), none⟩,
  ⟨(some 33), (.op (.extract (.t 29) 1)), none⟩,
  ⟨(some 8), (.op (.mv (.t 32))), none⟩,
  ⟨(some 9), (.op (.mv (.t 33))), none⟩])
  (.seq
  (.ops [] [
  ⟨(some 35), (.op (.mv (.t 0))), none⟩,
  ⟨(some 36), (.call (.k (.func (.func 33) #[] #[])) [(.t 35)]), none⟩,
  ⟨(some 34), (.op (.mv (.t 36))), none⟩,
  ⟨(some 37), (.op (.extract (.t 34) 0)), none⟩,
  ⟨(some 38), (.op (.extract (.t 34) 1)), none⟩,
  ⟨(some 10), (.op (.mv (.t 37))), none⟩,
  ⟨(some 11), (.op (.mv (.t 38))), none⟩])
  (.seq
  (.ops [] [
  ⟨(some 40), (.op (.mv (.t 0))), none⟩,
  ⟨(some 41), (.call (.k (.func (.func 31) #[] #[])) [(.t 40)]), none⟩,
  ⟨(some 39), (.op (.mv (.t 41))), none⟩,
  ⟨(some 42), (.op (.extract (.t 39) 0)), none⟩,
  ⟨(some 43), (.op (.extract (.t 39) 1)), none⟩,
  ⟨(some 12), (.op (.mv (.t 42))), none⟩,
  ⟨(some 13), (.op (.mv (.t 43))), none⟩])
  (.seq
  (.ops [] [
  ⟨(some 45), (.op (.mv (.t 0))), none⟩,
  ⟨(some 46), (.call (.k (.func (.func 34) #[] #[])) [(.t 45)]), none⟩,
  ⟨(some 44), (.op (.mv (.t 46))), none⟩,
  ⟨(some 47), (.op (.extract (.t 44) 0)), none⟩,
  ⟨(some 48), (.op (.extract (.t 44) 1)), none⟩,
  ⟨(some 14), (.op (.mv (.t 47))), none⟩,
  ⟨(some 15), (.op (.mv (.t 48))), none⟩])
  (.seq
  (.ops [] [
  ⟨(some 50), (.op (.mv (.t 0))), none⟩,
  ⟨(some 51), (.call (.k (.func (.func 35) #[] #[])) [(.t 50)]), none⟩,
  ⟨(some 49), (.op (.mv (.t 51))), none⟩,
  ⟨(some 52), (.op (.extract (.t 49) 0)), none⟩,
  ⟨(some 53), (.op (.extract (.t 49) 1)), none⟩,
  ⟨(some 16), (.op (.mv (.t 52))), none⟩,
  ⟨(some 17), (.op (.mv (.t 53))), none⟩])
  (.seq
  (.ops [] [
  ⟨(some 55), (.op (.mv (.t 0))), none⟩,
  ⟨(some 56), (.call (.k (.func (.func 36) #[] #[])) [(.t 55)]), none⟩,
  ⟨(some 54), (.op (.mv (.t 56))), none⟩,
  ⟨(some 57), (.op (.extract (.t 54) 0)), none⟩,
  ⟨(some 58), (.op (.extract (.t 54) 1)), none⟩,
  ⟨(some 18), (.op (.mv (.t 57))), none⟩,
  ⟨(some 19), (.op (.mv (.t 58))), none⟩])
  (.seq
  (.ops [] [
  ⟨(some 60), (.op (.mv (.t 1))), none⟩,
  ⟨(some 61), (.op (.mv (.t 2))), none⟩,
  ⟨(some 62), (.call (.k (.func (.func 37) #[] #[])) [(.t 60), (.t 61)]), none⟩,
  ⟨(some 59), (.op (.mv (.t 62))), none⟩,
  ⟨(some 63), (.op (.extract (.t 59) 0)), none⟩,
  ⟨(some 64), (.op (.extract (.t 59) 1)), none⟩,
  ⟨(some 20), (.op (.mv (.t 63))), none⟩,
  ⟨(some 21), (.op (.mv (.t 64))), none⟩])
  (.seq
  (.ops [] [
  ⟨(some 66), (.op (.mv (.t 1))), none⟩,
  ⟨(some 67), (.op (.mv (.t 2))), none⟩,
  ⟨(some 68), (.call (.k (.func (.func 38) #[] #[])) [(.t 66), (.t 67)]), none⟩,
  ⟨(some 65), (.op (.mv (.t 68))), none⟩,
  ⟨(some 69), (.op (.extract (.t 65) 0)), none⟩,
  ⟨(some 70), (.op (.extract (.t 65) 1)), none⟩,
  ⟨(some 22), (.op (.mv (.t 69))), none⟩,
  ⟨(some 23), (.op (.mv (.t 70))), none⟩])
  (.seq
  (.ops [] [
  ⟨(some 71), (.op (.mv (.t 7))), none⟩,
  ⟨(some 72), (.op (.mv (.t 71))), none⟩,
  ⟨(some 73), (.op (.mv (.t 8))), (some (72, true))⟩,
  ⟨(some 74), (.op (.mv (.t 10))), (some (72, true))⟩,
  ⟨(some 75), (.op (.bin .eql (.t 73) (.t 74))), (some (72, true))⟩,
  ⟨(some 76), (.op (.pick (.t 72) (.t 75) (.k (.bool false)))), none⟩,
  ⟨(some 77), (.op (.mv (.t 76))), none⟩,
  ⟨(some 78), (.op (.mv (.t 9))), (some (77, true))⟩,
  ⟨(some 79), (.op (.mv (.t 11))), (some (77, true))⟩,
  ⟨(some 80), (.op (.eqB false (.t 78) (.t 79))), (some (77, true))⟩,
  ⟨(some 81), (.op (.pick (.t 77) (.t 80) (.k (.bool false)))), none⟩,
  ⟨(some 82), (.op (.mv (.t 81))), none⟩,
  ⟨(some 83), (.op (.mv (.t 12))), (some (82, true))⟩,
  ⟨(some 84), (.op (.mv (.t 14))), (some (82, true))⟩,
  ⟨(some 85), (.op (.bin .eql (.t 83) (.t 84))), (some (82, true))⟩,
  ⟨(some 86), (.op (.pick (.t 82) (.t 85) (.k (.bool false)))), none⟩,
  ⟨(some 87), (.op (.mv (.t 86))), none⟩,
  ⟨(some 88), (.op (.mv (.t 13))), (some (87, true))⟩,
  ⟨(some 89), (.op (.mv (.t 15))), (some (87, true))⟩,
  ⟨(some 90), (.op (.eqB false (.t 88) (.t 89))), (some (87, true))⟩,
  ⟨(some 91), (.op (.pick (.t 87) (.t 90) (.k (.bool false)))), none⟩,
  ⟨(some 92), (.op (.mv (.t 91))), none⟩,
  ⟨(some 93), (.op (.mv (.t 16))), (some (92, true))⟩,
  ⟨(some 94), (.op (.mv (.t 18))), (some (92, true))⟩,
  ⟨(some 95), (.op (.bin .eql (.t 93) (.t 94))), (some (92, true))⟩,
  ⟨(some 96), (.op (.pick (.t 92) (.t 95) (.k (.bool false)))), none⟩,
  ⟨(some 97), (.op (.mv (.t 96))), none⟩,
  ⟨(some 98), (.op (.mv (.t 17))), (some (97, true))⟩,
  ⟨(some 99), (.op (.mv (.t 19))), (some (97, true))⟩,
  ⟨(some 100), (.op (.eqB false (.t 98) (.t 99))), (some (97, true))⟩,
  ⟨(some 101), (.op (.pick (.t 97) (.t 100) (.k (.bool false)))), none⟩,
  ⟨(some 102), (.op (.mv (.t 101))), none⟩,
  ⟨(some 103), (.op (.mv (.t 20))), (some (102, true))⟩,
  ⟨(some 104), (.op (.mv (.t 22))), (some (102, true))⟩,
  ⟨(some 105), (.op (.bin .eql (.t 103) (.t 104))), (some (102, true))⟩,
  ⟨(some 106), (.op (.pick (.t 102) (.t 105) (.k (.bool false)))), none⟩,
  ⟨(some 107), (.op (.mv (.t 106))), none⟩,
  ⟨(some 108), (.op (.mv (.t 21))), (some (107, true))⟩,
  ⟨(some 109), (.op (.mv (.t 23))), (some (107, true))⟩,
  ⟨(some 110), (.op (.eqB false (.t 108) (.t 109))), (some (107, true))⟩,
  ⟨(some 111), (.op (.pick (.t 107) (.t 110) (.k (.bool false)))), none⟩,
  ⟨(some 6), (.op (.mv (.t 111))), none⟩])
  .ret)))))))))))),
  [(.t 6)]⟩
theorem r_lanyardlaw03_ClockTexts : resolveFn Try.prog 11 = some c_lanyardlaw03_ClockTexts := by kernel_rfl

def c_lanyardlaw03_ClockBack : RFn :=
  ⟨120,
  (.seq
  (.ops [] [
  ⟨(some 6), (.op (.mv (.k (.bool false)))), none⟩])
  (.seq
  (.ops [] [
  ⟨(some 22), (.call (.k (.func (.func 26) #[] #[])) []), none⟩,
  ⟨(some 7), (.op (.mv (.t 22))), none⟩])
  (.seq
  (.seq
  (.ops [] [
  ⟨(some 23), (.op (.mv (.t 1))), none⟩,
  ⟨(some 24), (.op (.lenStr (.t 23))), none⟩,
  ⟨(some 25), (.op (.bin .gtr (.t 24) (.k (.int .i64 100)))), none⟩])
  (.cond (.t 25)
  (.seq
  (.ops [] [
  ⟨(some 26), (.op (.mv (.t 7))), none⟩,
  ⟨(some 6), (.op (.mv (.t 26))), none⟩])
  .ret)
  .skip))
  (.seq
  (.ops [] [
  ⟨(some 28), (.op (.mv (.t 0))), none⟩,
  ⟨(some 29), (.call (.k (.func (.func 29) #[] #[])) [(.t 28)]), none⟩,
  ⟨(some 27), (.op (.mv (.t 29))), none⟩,
  ⟨(some 30), (.op (.extract (.t 27) 0)), none⟩,
  ⟨(some 31), (.op (.extract (.t 27) 1)), none⟩,
  ⟨(some 8), (.op (.new [(.int .i64 0), (.int .i64 0), (.int .i64 0), (.int .i64 0), (.int .i64 0), (.int .i64 0)])), none⟩,
  ⟨none, (.op (.store 6 (.t 8) (.t 30))), none⟩,
  ⟨(some 9), (.op (.mv (.t 31))), none⟩])
  (.seq
  (.seq
  (.ops [] [
  ⟨(some 32), (.op (.mv (.t 9))), none⟩])
  (.cond (.t 32)
  (.seq
  (.ops [] [
  ⟨(some 34), (.op (.loadN 6 (.t 8))), none⟩,
  ⟨(some 35), (.call (.k (.func (.func 27) #[] #[])) [(.t 34)]), none⟩,
  ⟨(some 33), (.op (.mv (.t 35))), none⟩,
  ⟨(some 36), (.op (.extract (.t 33) 0)), none⟩,
  ⟨(some 37), (.op (.extract (.t 33) 1)), none⟩,
  ⟨(some 10), (.op (.mv (.t 36))), none⟩,
  ⟨(some 11), (.op (.mv (.t 37))), none⟩])
  (.seq
  (.ops [] [
  ⟨(some 39), (.op (.mv (.t 0))), none⟩,
  ⟨(some 40), (.call (.k (.func (.func 31) #[] #[])) [(.t 39)]), none⟩,
  ⟨(some 38), (.op (.mv (.t 40))), none⟩,
  ⟨(some 41), (.op (.extract (.t 38) 0)), none⟩,
  ⟨(some 42), (.op (.extract (.t 38) 1)), none⟩,
  ⟨(some 12), (.op (.mv (.t 41))), none⟩,
  ⟨(some 13), (.op (.mv (.t 42))), none⟩])
  (.seq
  (.ops [] [
  ⟨(some 44), (.op (.mv (.t 12))), none⟩,
  ⟨(some 45), (.call (.k (.func (.func 37) #[] #[])) [(.t 44), (.k (.bool true))]), none⟩,
  ⟨(some 43), (.op (.mv (.t 45))), none⟩,
  ⟨(some 46), (.op (.extract (.t 43) 0)), none⟩,
  ⟨(some 47), (.op (.extract (.t 43) 1)), none⟩,
  ⟨(some 14), (.op (.mv (.t 46))), none⟩,
  ⟨(some 15), (.op (.mv (.t 47))), none⟩])
  (.seq
  (.ops [] [
  ⟨(some 48), (.op (.mv (.t 11))), none⟩,
  ⟨(some 49), (.op (.un .not (.t 48))), none⟩,
  ⟨(some 50), (.op (.mv (.t 49))), none⟩,
  ⟨(some 51), (.op (.mv (.t 10))), (some (50, false))⟩,
  ⟨(some 52), (.op (.mv (.t 0))), (some (50, false))⟩,
  ⟨(some 53), (.op (.bin .neq (.t 51) (.t 52))), (some (50, false))⟩,
  ⟨(some 54), (.op (.pick (.t 50) (.k (.bool true)) (.t 53))), none⟩,
  ⟨(some 55), (.op (.mv (.t 54))), none⟩,
  ⟨(some 56), (.op (.mv (.t 13))), (some (55, false))⟩,
  ⟨(some 57), (.op (.un .not (.t 56))), (some (55, false))⟩,
  ⟨(some 58), (.op (.pick (.t 55) (.k (.bool true)) (.t 57))), none⟩,
  ⟨(some 59), (.op (.mv (.t 58))), none⟩,
  ⟨(some 60), (.op (.mv (.t 15))), (some (59, false))⟩,
  ⟨(some 61), (.op (.un .not (.t 60))), (some (59, false))⟩,
  ⟨(some 62), (.op (.pick (.t 59) (.k (.bool true)) (.t 61))), none⟩,
  ⟨(some 63), (.op (.mv (.t 62))), none⟩,
  ⟨(some 64), (.op (.mv (.t 14))), (some (63, false))⟩,
  ⟨(some 65), (.op (.mv (.t 0))), (some (63, false))⟩,
  ⟨(some 66), (.op (.bin .neq (.t 64) (.t 65))), (some (63, false))⟩,
  ⟨(some 67), (.op (.pick (.t 63) (.k (.bool true)) (.t 66))), none⟩,
  ⟨(some 68), (.op (.mv (.t 67))), none⟩,
  ⟨(some 69), (.op (.mv (.t 12))), (some (68, false))⟩,
  ⟨(some 70), (.op (.lenStr (.t 69))), (some (68, false))⟩,
  ⟨(some 71), (.op (.bin .neq (.t 70) (.k (.int .i64 15)))), (some (68, false))⟩,
  ⟨(some 72), (.op (.pick (.t 68) (.k (.bool true)) (.t 71))), none⟩])
  (.cond (.t 72)
  (.seq
  (.ops [] [
  ⟨(some 6), (.op (.mv (.k (.bool false)))), none⟩])
  .ret)
  .skip)))))
  .skip))
  (.seq
  (.ops [] [
  ⟨(some 74), (.op (.mv (.t 1))), none⟩,
  ⟨(some 75), (.op (.mv (.t 2))), none⟩,
  ⟨(some 76), (.call (.k (.func (.func 37) #[] #[])) [(.t 74), (.t 75)]), none⟩,
  ⟨(some 73), (.op (.mv (.t 76))), none⟩,
  ⟨(some 77), (.op (.extract (.t 73) 0)), none⟩,
  ⟨(some 78), (.op (.extract (.t 73) 1)), none⟩,
  ⟨(some 16), (.op (.mv (.t 77))), none⟩,
  ⟨(some 17), (.op (.mv (.t 78))), none⟩])
  (.seq
  (.seq
  (.ops [] [
  ⟨(some 79), (.op (.mv (.t 17))), none⟩,
  ⟨(some 80), (.op (.un .not (.t 79))), none⟩])
  (.cond (.t 80)
  (.seq
  (.ops [] [
  ⟨(some 81), (.op (.mv (.t 7))), none⟩,
  ⟨(some 82), (.op (.mv (.t 81))), none⟩,
  ⟨(some 83), (.op (.mv (.t 16))), (some (82, true))⟩,
  ⟨(some 84), (.op (.bin .eql (.t 83) (.k (.int .i64 0)))), (some (82, true))⟩,
  ⟨(some 85), (.op (.pick (.t 82) (.t 84) (.k (.bool false)))), none⟩,
  ⟨(some 6), (.op (.mv (.t 85))), none⟩])
  .ret)
  .skip))
  (.seq
  (.ops [] [
  ⟨(some 87), (.op (.mv (.t 16))), none⟩,
  ⟨(some 88), (.call (.k (.func (.func 31) #[] #[])) [(.t 87)]), none⟩,
  ⟨(some 86), (.op (.mv (.t 88))), none⟩,
  ⟨(some 89), (.op (.extract (.t 86) 0)), none⟩,
  ⟨(some 90), (.op (.extract (.t 86) 1)), none⟩,
  ⟨(some 18), (.op (.mv (.t 89))), none⟩,
  ⟨(some 19), (.op (.mv (.t 90))), none⟩])
  (.seq
  (.ops [] [
  ⟨(some 92), (.op (.mv (.t 16))), none⟩,
  ⟨(some 93), (.call (.k (.func (.func 32) #[] #[])) [(.t 92)]), none⟩,
  ⟨(some 91), (.op (.mv (.t 93))), none⟩,
  ⟨(some 94), (.op (.extract (.t 91) 0)), none⟩,
  ⟨(some 95), (.op (.extract (.t 91) 1)), none⟩,
  ⟨(some 20), (.op (.mv (.t 94))), none⟩,
  ⟨(some 21), (.op (.mv (.t 95))), none⟩])
  (.seq
  (.ops [] [
  ⟨(some 96), (.op (.mv (.t 7))), none⟩,
  ⟨(some 97), (.op (.mv (.t 96))), none⟩,
  ⟨(some 98), (.op (.mv (.t 2))), (some (97, true))⟩,
  ⟨(some 99), (.op (.mv (.t 98))), (some (97, true))⟩,
  ⟨(some 100), (.op (.mv (.t 19))), (some (99, true))⟩,
  ⟨(some 101), (.op (.pick (.t 99) (.t 100) (.k (.bool false)))), (some (97, true))⟩,
  ⟨(some 102), (.op (.mv (.t 101))), (some (97, true))⟩,
  ⟨(some 103), (.op (.mv (.t 18))), (some (102, true))⟩,
  ⟨(some 104), (.op (.mv (.t 1))), (some (102, true))⟩,
  ⟨(some 105), (.op (.bin .eql (.t 103) (.t 104))), (some (102, true))⟩,
  ⟨(some 106), (.op (.pick (.t 102) (.t 105) (.k (.bool false)))), (some (97, true))⟩,
  ⟨(some 107), (.op (.mv (.t 106))), (some (97, true))⟩,
  ⟨(some 108), (.op (.mv (.t 2))), (some (107, false))⟩,
  ⟨(some 109), (.op (.un .not (.t 108))), (some (107, false))⟩,
  ⟨(some 110), (.op (.mv (.t 109))), (some (107, false))⟩,
  ⟨(some 111), (.op (.mv (.t 21))), (some (110, true))⟩,
  ⟨(some 112), (.op (.pick (.t 110) (.t 111) (.k (.bool false)))), (some (107, false))⟩,
  ⟨(some 113), (.op (.mv (.t 112))), (some (107, false))⟩,
  ⟨(some 114), (.op (.mv (.t 20))), (some (113, true))⟩,
  ⟨(some 115), (.op (.mv (.t 1))), (some (113, true))⟩,
  ⟨(some 116), (.op (.bin .eql (.t 114) (.t 115))), (some (113, true))⟩,
  ⟨(some 117), (.op (.pick (.t 113) (.t 116) (.k (.bool false)))), (some (107, false))⟩,
  ⟨(some 118), (.op (.pick (.t 107) (.k (.bool true)) (.t 117))), (some (97, true))⟩,
  ⟨(some 119), (.op (.pick (.t 97) (.t 118) (.k (.bool false)))), none⟩,
  ⟨(some 6), (.op (.mv (.t 119))), none⟩])
  .ret)))))))))),
  [(.t 6)]⟩
theorem r_lanyardlaw03_ClockBack : resolveFn Try.prog 12 = some c_lanyardlaw03_ClockBack := by kernel_rfl

end Go.Ga

namespace Go.Ga
open Go Go.Proofs
set_option linter.unusedSimpArgs false
set_option linter.unusedVariables false

def leapB (y : Int) : Bool := (decide (y.tmod 4 = 0) && !decide (y.tmod 100 = 0)) || decide (y.tmod 400 = 0)
def mtab : List Int := [31, 28, 31, 30, 31, 30, 31, 31, 30, 31, 30, 31]
/-- A month's last day. -/
def lastI (y m : Int) : Int := if m = 2 ∧ leapB y = true then 29 else mtab.getD (m - 1).toNat 0

theorem ct_within {nx : Nat} {gt : Nat → Option Blk} {n a z : Int} : Ct Try.prog 44 [.int .i64 n, .int .i64 a, .int .i64 z] nx gt fun v _ _ => v = .bool (decide (a ≤ n) && decide (n ≤ z)) := by
  refine Ct.of hmx r_clock_within (by simp [c_clock_within]) fun b hb => ?_
  by_cases h : a ≤ n <;> by_cases h' : n ≤ z <;> simp only [c_clock_within, ↓gaW, ↓gaC, ↓gaN, gaP, Nat.reduceEqDiff, Nat.reduceLeDiff, Nat.reduceAdd, Nat.reduceSub, Nat.reduceMul, Int.reduceLT, Int.reduceLE, Int.reduceEq, Int.reduceToNat, Int.reduceAdd, Int.reduceSub, Int.reduceMul, reduceCtorEq, ↓reduceIte, gaE, h, h', decide_true, decide_false, Bool.and_true, Bool.and_false, Bool.true_and, Bool.false_and] <;> exact ⟨by omega, fun _ _ => trivial⟩

theorem ct_leap {nx : Nat} {gt : Nat → Option Blk} {y : Int} : Ct Try.prog 54 [.int .i64 y] nx gt fun v _ _ => v = .bool (leapB y) := by
  refine Ct.of hmx r_lanyardref03_leap (by simp [c_lanyardref03_leap]) fun b hb => ?_
  by_cases h4 : y.tmod 4 = 0 <;> by_cases h100 : y.tmod 100 = 0 <;> by_cases h400 : y.tmod 400 = 0 <;>
    simp only [c_lanyardref03_leap, ↓gaW, ↓gaC, ↓gaN, gaP, Nat.reduceEqDiff, Nat.reduceLeDiff, Nat.reduceAdd, Nat.reduceSub, Nat.reduceMul, Int.reduceLT, Int.reduceLE, Int.reduceEq, Int.reduceToNat, Int.reduceAdd, Int.reduceSub, Int.reduceMul, reduceCtorEq, ↓reduceIte, gaE, h4, h100, h400, decide_true, decide_false, leapB, Bool.and_true, Bool.and_false, Bool.true_and, Bool.false_and, Bool.or_true, Bool.or_false, Bool.true_or, Bool.false_or] <;> exact ⟨by omega, fun _ _ => trivial⟩

theorem ct_last {nx : Nat} {gt : Nat → Option Blk} {y m : Int} (h1 : 1 ≤ m) (h2 : m ≤ 12) : Ct Try.prog 45 [.int .i64 y, .int .i64 m] nx gt fun v _ _ => v = .int .i64 (lastI y m) := by
  refine Ct.of hmx r_clock_last (by simp [c_clock_last]) fun b hb => ?_
  have hm : m = 2 ∨ m = 1 ∨ m = 3 ∨ m = 4 ∨ m = 5 ∨ m = 6 ∨ m = 7 ∨ m = 8 ∨ m = 9 ∨ m = 10 ∨ m = 11 ∨ m = 12 := by omega
  rcases hm with rfl | hm
  · by_cases h4 : y.tmod 4 = 0 <;> by_cases h100 : y.tmod 100 = 0 <;> by_cases h400 : y.tmod 400 = 0 <;>
      simp only [c_clock_last, ↓gaW, ↓gaC, ↓gaN, gaP, Nat.reduceEqDiff, Nat.reduceLeDiff, Nat.reduceAdd, Nat.reduceSub, Nat.reduceMul, Int.reduceLT, Int.reduceLE, Int.reduceEq, Int.reduceToNat, Int.reduceAdd, Int.reduceSub, Int.reduceMul, reduceCtorEq, ↓reduceIte, gaE, fillL, splice, List.take_zero, List.drop_zero, List.drop_succ_cons, List.take_succ_cons, List.drop_nil, List.take_nil, h4, h100, h400, decide_true, decide_false, i64_w 1 (by omega), u8V] <;>
      (repeat refine And.intro (by first | omega | simp) ?_) <;> (try exact ⟨by omega, fun _ _ => trivial, by simp [lastI, leapB, h4, h100, h400, mtab]⟩) <;> (try exact ⟨fun _ _ => trivial, by simp [lastI, leapB, h4, h100, h400, mtab]⟩) <;> simp [lastI, leapB, h4, h100, h400, mtab]
  · rcases hm with rfl | rfl | rfl | rfl | rfl | rfl | rfl | rfl | rfl | rfl | rfl <;>
      simp only [c_clock_last, ↓gaW, ↓gaC, ↓gaN, gaP, Nat.reduceEqDiff, Nat.reduceLeDiff, Nat.reduceAdd, Nat.reduceSub, Nat.reduceMul, Int.reduceLT, Int.reduceLE, Int.reduceEq, Int.reduceToNat, Int.reduceAdd, Int.reduceSub, Int.reduceMul, reduceCtorEq, ↓reduceIte, gaE, fillL, splice, List.take_zero, List.drop_zero, List.drop_succ_cons, List.take_succ_cons, List.drop_nil, List.take_nil, i64_w _ (show (-9223372036854775808 : Int) ≤ 0 ∧ (0 : Int) ≤ 9223372036854775807 by omega), i64_w 2 (by omega), i64_w 3 (by omega), i64_w 4 (by omega), i64_w 5 (by omega), i64_w 6 (by omega), i64_w 7 (by omega), i64_w 8 (by omega), i64_w 9 (by omega), i64_w 10 (by omega), i64_w 11 (by omega)] <;>
      (repeat refine And.intro (by first | omega | simp) ?_) <;> simp [lastI, mtab]
end Go.Ga

namespace Go.Ga
open Go Go.Proofs
set_option linter.unusedSimpArgs false
set_option linter.unusedVariables false

theorem ct_rlast {nx : Nat} {gt : Nat → Option Blk} {y m : Int} (h1 : 1 ≤ m) (h2 : m ≤ 12) : Ct Try.prog 48 [.int .i64 y, .int .i64 m] nx gt fun v _ _ => v = .int .i64 (lastI y m) := by
  refine Ct.of hmx r_lanyardref03_last (by simp [c_lanyardref03_last]) fun b hb => ?_
  have e2 : ∀ k, k < 12 → ([Value.int .i64 31, .int .i64 28, .int .i64 31, .int .i64 30, .int .i64 31, .int .i64 30, .int .i64 31, .int .i64 31, .int .i64 30, .int .i64 31, .int .i64 30, .int .i64 31] : List Value).getD k undef = .int .i64 (mtab.getD k 0) := by
    intro j hj
    rcases j with _ | _ | _ | _ | _ | _ | _ | _ | _ | _ | _ | _ | j <;> first | rfl | omega
  by_cases hm : m = 2
  · subst hm
    simp only [c_lanyardref03_last, ↓gaW, ↓gaC, ↓gaN, gaP, Nat.reduceEqDiff, Nat.reduceLeDiff, Nat.reduceAdd, Nat.reduceSub, Nat.reduceMul, Int.reduceLT, Int.reduceLE, Int.reduceEq, Int.reduceToNat, Int.reduceAdd, Int.reduceSub, Int.reduceMul, reduceCtorEq, ↓reduceIte]
    refine callK_of ct_leap (fun v nx1 gt1 hle1 hk1 hC => ?_) (by omega)
    subst hC
    simp only [↓gaW, ↓gaC, ↓gaN, gaP, Nat.reduceEqDiff, Nat.reduceLeDiff, Nat.reduceAdd, Nat.reduceSub, Nat.reduceMul, Int.reduceLT, Int.reduceLE, Int.reduceEq, Int.reduceToNat, Int.reduceAdd, Int.reduceSub, Int.reduceMul, reduceCtorEq, ↓reduceIte]
    refine condK_of (fun h => ?_) fun h => ?_
    · simp only [↓gaW, ↓gaC, ↓gaN, gaP, Nat.reduceEqDiff, Nat.reduceLeDiff, Nat.reduceAdd, Nat.reduceSub, Nat.reduceMul, Int.reduceLT, Int.reduceLE, Int.reduceEq, Int.reduceToNat, Int.reduceAdd, Int.reduceSub, Int.reduceMul, reduceCtorEq, ↓reduceIte, gaE]
      exact ⟨by omega, hk1, by simp [lastI, h]⟩
    · simp only [↓gaW, ↓gaC, ↓gaN, gaP, Nat.reduceEqDiff, Nat.reduceLeDiff, Nat.reduceAdd, Nat.reduceSub, Nat.reduceMul, Int.reduceLT, Int.reduceLE, Int.reduceEq, Int.reduceToNat, Int.reduceAdd, Int.reduceSub, Int.reduceMul, reduceCtorEq, ↓reduceIte, gaE, fillL, splice, List.take_zero, List.drop_zero, List.drop_succ_cons, List.take_succ_cons, List.drop_nil, List.take_nil, i64_w 1 (by omega), e2 1 (by omega)]
      repeat refine And.intro (by omega) ?_
      refine ⟨fun i hi => by rw [if_neg (by omega), hk1 i hi], ?_⟩
      simp [lastI, h]
  · obtain ⟨k, hk⟩ : ∃ k : Nat, m = (k : Int) + 1 := ⟨(m - 1).toNat, by omega⟩
    subst hk
    have e1 : ((k : Int) + 1 - 1) = (k : Int) := by omega
    simp only [c_lanyardref03_last, ↓gaW, ↓gaC, ↓gaN, gaP, Nat.reduceEqDiff, Nat.reduceLeDiff, Nat.reduceAdd, Nat.reduceSub, Nat.reduceMul, Int.reduceLT, Int.reduceLE, Int.reduceEq, Int.reduceToNat, Int.reduceAdd, Int.reduceSub, Int.reduceMul, reduceCtorEq, ↓reduceIte, gaE, fillL, splice, List.take_zero, List.drop_zero, List.drop_succ_cons, List.take_succ_cons, List.drop_nil, List.take_nil, hm, decide_false, e1, i64_w (k : Int) (by omega), e2 k (by omega)]
    repeat refine And.intro (by omega) ?_
    refine ⟨fun i hi => by rw [if_neg (by omega)], ?_⟩
    rw [lastI, if_neg (by simp [hm]), e1, Int.toNat_natCast]

/-! ### Days by counting -/
def yearsR : Nat → Int
  | 0 => 0
  | k + 1 => yearsR k + 365 + (if leapB (1950 + (k : Nat)) then 1 else 0)
def monthsR (y : Int) : Nat → Int
  | 0 => 0
  | k + 1 => monthsR y k + lastI y ((k : Nat) + 1)
def dayR (y m d : Int) : Int := d - 1 + yearsR (y - 1950).toNat + monthsR y (m - 1).toNat
theorem yearsR_bd (k : Nat) : 0 ≤ yearsR k ∧ yearsR k ≤ 366 * (k : Int) := by
  induction k with
  | zero => exact ⟨by decide, by decide⟩
  | succ k ih => simp only [yearsR]; split <;> omega
theorem lastI_bd {y m : Int} (h1 : 1 ≤ m) (h2 : m ≤ 12) : 28 ≤ lastI y m ∧ lastI y m ≤ 31 := by
  unfold lastI
  split
  · omega
  · have : ∀ k, k < 12 → 28 ≤ mtab.getD k 0 ∧ mtab.getD k 0 ≤ 31 := by decide
    exact this _ (by omega)
theorem monthsR_bd (y : Int) (k : Nat) (h : k ≤ 12) : 0 ≤ monthsR y k ∧ monthsR y k ≤ 31 * (k : Int) := by
  induction k with
  | zero => exact ⟨by simp [monthsR], by simp [monthsR]⟩
  | succ k ih =>
    have := lastI_bd (y := y) (m := (k : Nat) + 1) (by omega) (by omega)
    have := ih (by omega)
    simp only [monthsR]; omega

theorem ct_days {nx : Nat} {gt : Nat → Option Blk} {y m d : Int} (hy : 1950 ≤ y ∧ y ≤ 2200) (hm : 1 ≤ m ∧ m ≤ 12) (hd : 1 ≤ d ∧ d ≤ 31) : Ct Try.prog 47 [.int .i64 y, .int .i64 m, .int .i64 d] nx gt fun v _ _ => v = .int .i64 (dayR y m d) := by
  refine Ct.of hmx r_lanyardref03_days (by simp [c_lanyardref03_days]) fun b hb => ?_
  simp only [c_lanyardref03_days, ↓gaW, ↓gaC, ↓gaN, gaP, Nat.reduceEqDiff, Nat.reduceLeDiff, Nat.reduceAdd, Nat.reduceSub, Nat.reduceMul, Int.reduceLT, Int.reduceLE, Int.reduceEq, Int.reduceToNat, Int.reduceAdd, Int.reduceSub, Int.reduceMul, reduceCtorEq, ↓reduceIte, i64_w (d - 1) (by omega)]
  refine loop_of (fun j f m0 => ∃ (k x : Nat) (g : Nat → Option Blk), j = 300 - k ∧ 1950 + (k : Int) ≤ y ∧ f 0 = .int .i64 y ∧ f 1 = .int .i64 m ∧ f 8 = .int .i64 (1950 + (k : Nat)) ∧ f 7 = .int .i64 (d - 1 + yearsR k) ∧ m0 = ⟨x, b, g⟩ ∧ nx ≤ x ∧ ∀ i, i < nx → g i = gt i) 300
    ⟨0, nx, gt, by omega, by omega, rfl, rfl, rfl, by simp [putR, yearsR], rfl, by omega, fun _ _ => rfl⟩ ?_
  rintro j f m0 ⟨k, x, g, rfl, hk, h0, h1, h8, h7, rfl, hx, hg⟩
  have yb := yearsR_bd k
  simp only [↓gaW, ↓gaC, ↓gaN, gaP, Nat.reduceEqDiff, Nat.reduceLeDiff, Nat.reduceAdd, Nat.reduceSub, Nat.reduceMul, Int.reduceLT, Int.reduceLE, Int.reduceEq, Int.reduceToNat, Int.reduceAdd, Int.reduceSub, Int.reduceMul, reduceCtorEq, ↓reduceIte, h0, h8]
  refine condK_dec (fun hlt => ?_) fun hge => ?_
  · simp only [↓gaW, ↓gaC, ↓gaN, gaP, Nat.reduceEqDiff, Nat.reduceLeDiff, Nat.reduceAdd, Nat.reduceSub, Nat.reduceMul, Int.reduceLT, Int.reduceLE, Int.reduceEq, Int.reduceToNat, Int.reduceAdd, Int.reduceSub, Int.reduceMul, reduceCtorEq, ↓reduceIte, h0, h7, h8, i64_w (d - 1 + yearsR k + 365) (by omega)]
    refine callK_of ct_leap (fun v nx1 gt1 hle1 hk1 hC => ?_) (by omega)
    subst hC
    simp only [↓gaW, ↓gaC, ↓gaN, gaP, Nat.reduceEqDiff, Nat.reduceLeDiff, Nat.reduceAdd, Nat.reduceSub, Nat.reduceMul, Int.reduceLT, Int.reduceLE, Int.reduceEq, Int.reduceToNat, Int.reduceAdd, Int.reduceSub, Int.reduceMul, reduceCtorEq, ↓reduceIte]
    refine condK_of (fun hL => ?_) fun hL => ?_
    · simp only [↓gaW, ↓gaC, ↓gaN, gaP, Nat.reduceEqDiff, Nat.reduceLeDiff, Nat.reduceAdd, Nat.reduceSub, Nat.reduceMul, Int.reduceLT, Int.reduceLE, Int.reduceEq, Int.reduceToNat, Int.reduceAdd, Int.reduceSub, Int.reduceMul, reduceCtorEq, ↓reduceIte, h8, i64_w (d - 1 + yearsR k + 365 + 1) (by omega), i64_w (1950 + (k : Int) + 1) (by omega)]
      refine ⟨300 - (k + 1), by omega, k + 1, nx1, gt1, rfl, by omega, h0, h1, ?_, ?_, rfl, by omega, fun i hi => by rw [hk1 i (by omega), hg i hi]⟩
      · simp [putR]; omega
      · simp [putR, yearsR, hL]; omega
    · simp only [↓gaW, ↓gaC, ↓gaN, gaP, Nat.reduceEqDiff, Nat.reduceLeDiff, Nat.reduceAdd, Nat.reduceSub, Nat.reduceMul, Int.reduceLT, Int.reduceLE, Int.reduceEq, Int.reduceToNat, Int.reduceAdd, Int.reduceSub, Int.reduceMul, reduceCtorEq, ↓reduceIte, h8, i64_w (1950 + (k : Int) + 1) (by omega)]
      refine ⟨300 - (k + 1), by omega, k + 1, nx1, gt1, rfl, by omega, h0, h1, ?_, ?_, rfl, by omega, fun i hi => by rw [hk1 i (by omega), hg i hi]⟩
      · simp [putR]; omega
      · simp [putR, yearsR, hL]; omega
  · have hky : (y - 1950).toNat = k := by omega
    simp only [↓gaW, ↓gaC, ↓gaN, gaP, Nat.reduceEqDiff, Nat.reduceLeDiff, Nat.reduceAdd, Nat.reduceSub, Nat.reduceMul, Int.reduceLT, Int.reduceLE, Int.reduceEq, Int.reduceToNat, Int.reduceAdd, Int.reduceSub, Int.reduceMul, reduceCtorEq, ↓reduceIte]
    refine loop_of (fun j f m0 => ∃ (t x : Nat) (g : Nat → Option Blk), j = 20 - t ∧ 1 + (t : Int) ≤ m ∧ f 0 = .int .i64 y ∧ f 1 = .int .i64 m ∧ f 9 = .int .i64 (1 + (t : Nat)) ∧ f 7 = .int .i64 (d - 1 + yearsR k + monthsR y t) ∧ m0 = ⟨x, b, g⟩ ∧ nx ≤ x ∧ ∀ i, i < nx → g i = gt i) 20
      ⟨0, x, g, by omega, by omega, h0, h1, rfl, by simpa [putR, monthsR] using h7, rfl, hx, hg⟩ ?_
    rintro j f m0 ⟨t, x, g, rfl, ht, h0, h1, h9, h7, rfl, hx, hg⟩
    have mb := monthsR_bd y t (by omega)
    simp only [↓gaW, ↓gaC, ↓gaN, gaP, Nat.reduceEqDiff, Nat.reduceLeDiff, Nat.reduceAdd, Nat.reduceSub, Nat.reduceMul, Int.reduceLT, Int.reduceLE, Int.reduceEq, Int.reduceToNat, Int.reduceAdd, Int.reduceSub, Int.reduceMul, reduceCtorEq, ↓reduceIte, h1, h9]
    refine condK_dec (fun hlt => ?_) fun hge => ?_
    · simp only [↓gaW, ↓gaC, ↓gaN, gaP, Nat.reduceEqDiff, Nat.reduceLeDiff, Nat.reduceAdd, Nat.reduceSub, Nat.reduceMul, Int.reduceLT, Int.reduceLE, Int.reduceEq, Int.reduceToNat, Int.reduceAdd, Int.reduceSub, Int.reduceMul, reduceCtorEq, ↓reduceIte, h0, h7, h9]
      have lb := lastI_bd (y := y) (m := 1 + (t : Nat)) (by omega) (by omega)
      refine callK_of (ct_rlast (y := y) (m := 1 + (t : Nat)) (by omega) (by omega)) (fun v nx1 gt1 hle1 hk1 hC => ?_) (by omega)
      subst hC
      simp only [↓gaW, ↓gaC, ↓gaN, gaP, Nat.reduceEqDiff, Nat.reduceLeDiff, Nat.reduceAdd, Nat.reduceSub, Nat.reduceMul, Int.reduceLT, Int.reduceLE, Int.reduceEq, Int.reduceToNat, Int.reduceAdd, Int.reduceSub, Int.reduceMul, reduceCtorEq, ↓reduceIte, h9, i64_w (d - 1 + yearsR k + monthsR y t + lastI y (1 + (t : Int))) (by omega), i64_w (1 + (t : Int) + 1) (by omega)]
      refine ⟨20 - (t + 1), by omega, t + 1, nx1, gt1, rfl, by omega, h0, h1, ?_, ?_, rfl, by omega, fun i hi => by rw [hk1 i (by omega), hg i hi]⟩
      · simp [putR]; omega
      · simp [putR, monthsR]
        rw [Int.add_comm (t : Int) 1]; omega
    · have htm : (m - 1).toNat = t := by omega
      simp only [↓gaW, ↓gaC, ↓gaN, gaP, Nat.reduceEqDiff, Nat.reduceLeDiff, Nat.reduceAdd, Nat.reduceSub, Nat.reduceMul, Int.reduceLT, Int.reduceLE, Int.reduceEq, Int.reduceToNat, Int.reduceAdd, Int.reduceSub, Int.reduceMul, reduceCtorEq, ↓reduceIte, gaE, h7]
      exact ⟨by omega, hg, by rw [dayR, hky, htm]⟩
end Go.Ga

namespace Go.Ga
open Go Go.Proofs
set_option linter.unusedSimpArgs false
set_option linter.unusedVariables false
set_option maxRecDepth 100000

def inB (n a z : Int) : Bool := decide (a ≤ n) && decide (n ≤ z)
theorem inB_true {n a z : Int} (h : inB n a z = true) : a ≤ n ∧ n ≤ z := by simpa [inB] using h
/-- Is it a moment? -/
def okD (d0 d1 d2 d3 d4 d5 : Int) : Bool := inB d0 1950 2199 && (inB d1 1 12 && (inB d2 1 (lastI d0 d1) && (inB d3 0 23 && (inB d4 0 59 && inB d5 0 59))))
/-- Days from 1970, as the code has them. -/
def dayF (y m d : Int) : Int := y.tdiv 400 * 146097 + y.tmod 400 * 365 + (y.tmod 400).tdiv 4 - (y.tmod 400).tdiv 100 + (153 * m + 2).tdiv 5 + d - 1 - 719468
def dayC (y m d : Int) : Int := if m - 3 < 0 then dayF (y - 1) (m - 3 + 12) d else dayF y (m - 3) d
def secI (d0 d1 d2 d3 d4 d5 : Int) : Int := dayC d0 d1 d2 * 86400 + (d3 * 3600 + d4 * 60 + d5)
def SecV (d0 d1 d2 d3 d4 d5 : Int) : Value := if okD d0 d1 d2 d3 d4 d5 = true then .tuple #[.int .i64 (secI d0 d1 d2 d3 d4 d5), .bool true] else .tuple #[.int .i64 0, .bool false]

theorem ct_within' {nx : Nat} {gt : Nat → Option Blk} {n a z : Int} : Ct Try.prog 44 [.int .i64 n, .int .i64 a, .int .i64 z] nx gt fun v _ _ => v = .bool (inB n a z) := ct_within

theorem ct_Seconds {nx : Nat} {gt : Nat → Option Blk} {d0 d1 d2 d3 d4 d5 : Int} :
    Ct Try.prog 27 [.agg #[.int .i64 d0, .int .i64 d1, .int .i64 d2, .int .i64 d3, .int .i64 d4, .int .i64 d5]] nx gt fun v _ _ => v = SecV d0 d1 d2 d3 d4 d5 := by
  refine Ct.of hmx r_clock_Seconds (by simp [c_clock_Seconds]) fun b hb => ?_
  have bad : ∀ {nx' : Nat} {gt' : Nat → Option Blk}, nx ≤ nx' → (∀ i, i < nx → gt' i = gt i) → okD d0 d1 d2 d3 d4 d5 = false → nx ≤ nx' ∧ (∀ i, i < nx → gt' i = gt i) ∧ (Value.tuple #[.int .i64 0, .bool false]) = SecV d0 d1 d2 d3 d4 d5 :=
    fun h1 h2 h3 => ⟨h1, h2, by rw [SecV, h3, if_neg (by decide)]⟩
  simp only [c_clock_Seconds, ↓gaW, ↓gaC, ↓gaN, gaP, Nat.reduceEqDiff, Nat.reduceLeDiff, Nat.reduceAdd, Nat.reduceSub, Nat.reduceMul, Int.reduceLT, Int.reduceLE, Int.reduceEq, Int.reduceToNat, Int.reduceAdd, Int.reduceSub, Int.reduceMul, reduceCtorEq, ↓reduceIte, List.getD_cons_zero, List.getD_cons_succ]
  repeat refine And.intro (by omega) ?_
  refine callQ_of ct_within' (fun v n1 g1 l1 k1 hC => ?_)
  subst hC
  have c1 : g1 nx = some (.cells [.int .i64 d0, .int .i64 d1, .int .i64 d2, .int .i64 d3, .int .i64 d4, .int .i64 d5] false) := by rw [k1 nx (by omega)]; simp only [upd_e, if_true]
  have o1 : ∀ i, i < nx → g1 i = gt i := fun i hi => by rw [k1 i (by omega)]; simp only [upd_e]; rw [if_neg (by omega)]
  cases t0 : inB d0 1950 2199 with
  | false =>
    simp only [↓gaW, ↓gaC, ↓gaN, gaP, Nat.reduceEqDiff, Nat.reduceLeDiff, Nat.reduceAdd, Nat.reduceSub, Nat.reduceMul, Int.reduceLT, Int.reduceLE, Int.reduceEq, Int.reduceToNat, Int.reduceAdd, Int.reduceSub, Int.reduceMul, reduceCtorEq, ↓reduceIte, gaE]
    exact bad (by omega) o1 (by simp [okD, t0])
  | true =>
  simp only [↓gaW, ↓gaC, ↓gaN, gaP, Nat.reduceEqDiff, Nat.reduceLeDiff, Nat.reduceAdd, Nat.reduceSub, Nat.reduceMul, Int.reduceLT, Int.reduceLE, Int.reduceEq, Int.reduceToNat, Int.reduceAdd, Int.reduceSub, Int.reduceMul, reduceCtorEq, ↓reduceIte, c1, List.getD_cons_zero, List.getD_cons_succ]
  repeat refine And.intro (by omega) ?_
  refine callQ_of ct_within' (fun v n2 g2 l2 k2 hC => ?_)
  subst hC
  have c2 : g2 nx = _ := (k2 nx (by omega)).trans c1
  have o2 : ∀ i, i < nx → g2 i = gt i := fun i hi => by rw [k2 i (by omega), o1 i hi]
  cases t1 : inB d1 1 12 with
  | false =>
    simp only [↓gaW, ↓gaC, ↓gaN, gaP, Nat.reduceEqDiff, Nat.reduceLeDiff, Nat.reduceAdd, Nat.reduceSub, Nat.reduceMul, Int.reduceLT, Int.reduceLE, Int.reduceEq, Int.reduceToNat, Int.reduceAdd, Int.reduceSub, Int.reduceMul, reduceCtorEq, ↓reduceIte, gaE]
    exact bad (by omega) o2 (by simp [okD, t1])
  | true =>
  simp only [↓gaW, ↓gaC, ↓gaN, gaP, Nat.reduceEqDiff, Nat.reduceLeDiff, Nat.reduceAdd, Nat.reduceSub, Nat.reduceMul, Int.reduceLT, Int.reduceLE, Int.reduceEq, Int.reduceToNat, Int.reduceAdd, Int.reduceSub, Int.reduceMul, reduceCtorEq, ↓reduceIte, c2, List.getD_cons_zero, List.getD_cons_succ]
  repeat refine And.intro (by omega) ?_
  have b0 := inB_true t0
  have b1 := inB_true t1
  refine callQ_of (ct_last b1.1 b1.2) (fun v n3 g3 l3 k3 hC => ?_)
  subst hC
  have c3 : g3 nx = _ := (k3 nx (by omega)).trans c2
  have o3 : ∀ i, i < nx → g3 i = gt i := fun i hi => by rw [k3 i (by omega), o2 i hi]
  simp only [↓gaW, ↓gaC, ↓gaN, gaP, Nat.reduceEqDiff, Nat.reduceLeDiff, Nat.reduceAdd, Nat.reduceSub, Nat.reduceMul, Int.reduceLT, Int.reduceLE, Int.reduceEq, Int.reduceToNat, Int.reduceAdd, Int.reduceSub, Int.reduceMul, reduceCtorEq, ↓reduceIte]
  refine callK_of ct_within' (fun v n4 g4 l4 k4 hC => ?_) (by omega)
  subst hC
  have c4 : g4 nx = _ := (k4 nx (by omega)).trans c3
  have o4 : ∀ i, i < nx → g4 i = gt i := fun i hi => by rw [k4 i (by omega), o3 i hi]
  cases t2 : inB d2 1 (lastI d0 d1) with
  | false =>
    simp only [↓gaW, ↓gaC, ↓gaN, gaP, Nat.reduceEqDiff, Nat.reduceLeDiff, Nat.reduceAdd, Nat.reduceSub, Nat.reduceMul, Int.reduceLT, Int.reduceLE, Int.reduceEq, Int.reduceToNat, Int.reduceAdd, Int.reduceSub, Int.reduceMul, reduceCtorEq, ↓reduceIte, gaE]
    exact bad (by omega) o4 (by simp [okD, t2])
  | true =>
  simp only [↓gaW, ↓gaC, ↓gaN, gaP, Nat.reduceEqDiff, Nat.reduceLeDiff, Nat.reduceAdd, Nat.reduceSub, Nat.reduceMul, Int.reduceLT, Int.reduceLE, Int.reduceEq, Int.reduceToNat, Int.reduceAdd, Int.reduceSub, Int.reduceMul, reduceCtorEq, ↓reduceIte, c4, List.getD_cons_zero, List.getD_cons_succ]
  repeat refine And.intro (by omega) ?_
  refine callK_of ct_within' (fun v n5 g5 l5 k5 hC => ?_) (by omega)
  subst hC
  have c5 : g5 nx = _ := (k5 nx (by omega)).trans c4
  have o5 : ∀ i, i < nx → g5 i = gt i := fun i hi => by rw [k5 i (by omega), o4 i hi]
  cases t3 : inB d3 0 23 with
  | false =>
    simp only [↓gaW, ↓gaC, ↓gaN, gaP, Nat.reduceEqDiff, Nat.reduceLeDiff, Nat.reduceAdd, Nat.reduceSub, Nat.reduceMul, Int.reduceLT, Int.reduceLE, Int.reduceEq, Int.reduceToNat, Int.reduceAdd, Int.reduceSub, Int.reduceMul, reduceCtorEq, ↓reduceIte, gaE]
    exact bad (by omega) o5 (by simp [okD, t3])
  | true =>
  simp only [↓gaW, ↓gaC, ↓gaN, gaP, Nat.reduceEqDiff, Nat.reduceLeDiff, Nat.reduceAdd, Nat.reduceSub, Nat.reduceMul, Int.reduceLT, Int.reduceLE, Int.reduceEq, Int.reduceToNat, Int.reduceAdd, Int.reduceSub, Int.reduceMul, reduceCtorEq, ↓reduceIte, c5, List.getD_cons_zero, List.getD_cons_succ]
  repeat refine And.intro (by omega) ?_
  refine callK_of ct_within' (fun v n6 g6 l6 k6 hC => ?_) (by omega)
  subst hC
  have c6 : g6 nx = _ := (k6 nx (by omega)).trans c5
  have o6 : ∀ i, i < nx → g6 i = gt i := fun i hi => by rw [k6 i (by omega), o5 i hi]
  cases t4 : inB d4 0 59 with
  | false =>
    simp only [↓gaW, ↓gaC, ↓gaN, gaP, Nat.reduceEqDiff, Nat.reduceLeDiff, Nat.reduceAdd, Nat.reduceSub, Nat.reduceMul, Int.reduceLT, Int.reduceLE, Int.reduceEq, Int.reduceToNat, Int.reduceAdd, Int.reduceSub, Int.reduceMul, reduceCtorEq, ↓reduceIte, gaE]
    exact bad (by omega) o6 (by simp [okD, t4])
  | true =>
  simp only [↓gaW, ↓gaC, ↓gaN, gaP, Nat.reduceEqDiff, Nat.reduceLeDiff, Nat.reduceAdd, Nat.reduceSub, Nat.reduceMul, Int.reduceLT, Int.reduceLE, Int.reduceEq, Int.reduceToNat, Int.reduceAdd, Int.reduceSub, Int.reduceMul, reduceCtorEq, ↓reduceIte, c6, List.getD_cons_zero, List.getD_cons_succ]
  repeat refine And.intro (by omega) ?_
  refine callK_of ct_within' (fun v n7 g7 l7 k7 hC => ?_) (by omega)
  subst hC
  have c7 : g7 nx = _ := (k7 nx (by omega)).trans c6
  have o7 : ∀ i, i < nx → g7 i = gt i := fun i hi => by rw [k7 i (by omega), o6 i hi]
  cases t5 : inB d5 0 59 with
  | false =>
    simp only [↓gaW, ↓gaC, ↓gaN, gaP, Nat.reduceEqDiff, Nat.reduceLeDiff, Nat.reduceAdd, Nat.reduceSub, Nat.reduceMul, Int.reduceLT, Int.reduceLE, Int.reduceEq, Int.reduceToNat, Int.reduceAdd, Int.reduceSub, Int.reduceMul, reduceCtorEq, ↓reduceIte, gaE]
    exact bad (by omega) o7 (by simp [okD, t5])
  | true =>
  have b2 := inB_true t2
  have b3 := inB_true t3
  have b4 := inB_true t4
  have b5 := inB_true t5
  have lb := lastI_bd (y := d0) b1.1 b1.2
  have hok : okD d0 d1 d2 d3 d4 d5 = true := by simp [okD, t0, t1, t2, t3, t4, t5]
  have q : ∀ (Y M : Int), 1949 ≤ Y ∧ Y ≤ 2199 → 0 ≤ M ∧ M ≤ 11 → dayF Y M d2 = dayC d0 d1 d2 → Y.tdiv 400 = Y / 400 ∧ Y.tmod 400 = Y % 400 ∧ (Y % 400).tdiv 4 = Y % 400 / 4 ∧ (Y % 400).tdiv 100 = Y % 400 / 100 ∧ (153 * M + 2).tdiv 5 = (153 * M + 2) / 5 ∧
      dayC d0 d1 d2 = Y / 400 * 146097 + Y % 400 * 365 + Y % 400 / 4 - Y % 400 / 100 + (153 * M + 2) / 5 + d2 - 1 - 719468 := by
    intro Y M hY hM hE
    have q1 : Y.tdiv 400 = Y / 400 := Int.tdiv_eq_ediv_of_nonneg (by omega)
    have q2 : Y.tmod 400 = Y % 400 := Int.tmod_eq_emod_of_nonneg (by omega)
    have q3 : (Y % 400).tdiv 4 = Y % 400 / 4 := Int.tdiv_eq_ediv_of_nonneg (by omega)
    have q4 : (Y % 400).tdiv 100 = Y % 400 / 100 := Int.tdiv_eq_ediv_of_nonneg (by omega)
    have q5 : (153 * M + 2).tdiv 5 = (153 * M + 2) / 5 := Int.tdiv_eq_ediv_of_nonneg (by omega)
    exact ⟨q1, q2, q3, q4, q5, by rw [← hE, dayF, q1, q2, q3, q4, q5]⟩
  by_cases hm : d1 - 3 < 0
  · obtain ⟨q1, q2, q3, q4, q5, hday⟩ := q (d0 - 1) (d1 - 3 + 12) (by omega) (by omega) (by rw [dayC, if_pos hm])
    simp (disch := omega) only [↓gaW, ↓gaC, ↓gaN, gaP, Nat.reduceEqDiff, Nat.reduceLeDiff, Nat.reduceAdd, Nat.reduceSub, Nat.reduceMul, Int.reduceLT, Int.reduceLE, Int.reduceEq, Int.reduceToNat, Int.reduceAdd, Int.reduceSub, Int.reduceMul, reduceCtorEq, ↓reduceIte, gaE, t5, c7, List.getD_cons_zero, List.getD_cons_succ, hm, decide_true, q1, q2, q3, q4, q5, i64_w]
    repeat refine And.intro (by omega) ?_
    rw [SecV, if_pos hok, secI, hday]
  · obtain ⟨q1, q2, q3, q4, q5, hday⟩ := q d0 (d1 - 3) (by omega) (by omega) (by rw [dayC, if_neg hm])
    simp (disch := omega) only [↓gaW, ↓gaC, ↓gaN, gaP, Nat.reduceEqDiff, Nat.reduceLeDiff, Nat.reduceAdd, Nat.reduceSub, Nat.reduceMul, Int.reduceLT, Int.reduceLE, Int.reduceEq, Int.reduceToNat, Int.reduceAdd, Int.reduceSub, Int.reduceMul, reduceCtorEq, ↓reduceIte, gaE, t5, c7, List.getD_cons_zero, List.getD_cons_succ, hm, decide_false, q1, q2, q3, q4, q5, i64_w]
    repeat refine And.intro (by omega) ?_
    rw [SecV, if_pos hok, secI, hday]

/-! ### The two ways to count days agree -/
theorem dayC_d (y m d : Int) : dayC y m d = dayC y m 1 + (d - 1) := by
  unfold dayC dayF; split <;> omega
theorem dayR_d (y m d : Int) : dayR y m d = dayR y m 1 + (d - 1) := by
  unfold dayR; omega
theorem month_step : ∀ y, y < 250 → ∀ m, m < 12 → dayC (1950 + (y : Nat)) ((m : Nat) + 2) 1 = dayC (1950 + (y : Nat)) ((m : Nat) + 1) 1 + lastI (1950 + (y : Nat)) ((m : Nat) + 1) ∨ m = 11 := by decide +kernel
theorem year_step : ∀ y, y < 250 → dayC (1950 + ((y + 1 : Nat) : Int)) 1 1 = dayC (1950 + (y : Nat)) 1 1 + 365 + (if leapB (1950 + (y : Nat)) then 1 else 0) := by decide +kernel
theorem dayC_year : ∀ y, y ≤ 250 → dayC (1950 + (y : Nat)) 1 1 = yearsR y - 7305 := by
  intro y
  induction y with
  | zero => intro _; decide +kernel
  | succ y ih =>
    intro h
    rw [year_step y (by omega), ih (by omega), yearsR]
    omega
theorem dayC_month (y : Nat) (hy : y < 250) : ∀ m, m < 12 → dayC (1950 + (y : Nat)) ((m : Nat) + 1) 1 = yearsR y + monthsR (1950 + (y : Nat)) m - 7305 := by
  intro m
  induction m with
  | zero =>
    intro _
    have := dayC_year y (by omega)
    simp only [monthsR]
    have e : (((0 : Nat) : Int) + 1) = 1 := by omega
    rw [e, this]; omega
  | succ m ih =>
    intro h
    rcases month_step y hy m (by omega) with e | e
    · have e2 : (((m + 1 : Nat) : Int) + 1) = (m : Int) + 2 := by omega
      rw [e2, e, ih (by omega), monthsR]
      omega
    · omega
theorem dayC_eq {y m d : Int} (hy : 1950 ≤ y ∧ y ≤ 2199) (hm : 1 ≤ m ∧ m ≤ 12) : dayC y m d = dayR y m d - 7305 := by
  have h := dayC_month (y - 1950).toNat (by omega) (m - 1).toNat (by omega)
  have e1 : 1950 + ((y - 1950).toNat : Int) = y := by omega
  have e2 : ((m - 1).toNat : Int) + 1 = m := by omega
  rw [e1, e2] at h
  rw [dayC_d, h, dayR]
  omega
theorem dayR_1970 : dayR 1970 1 1 = 7305 := by decide +kernel
end Go.Ga
