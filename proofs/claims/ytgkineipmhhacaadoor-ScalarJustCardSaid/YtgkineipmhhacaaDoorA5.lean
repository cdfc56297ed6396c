/- Words and contracts of functions for the statement's proof. No condition. -/
import Derived.Test.YtgkineipmhhacaaDoorA4
import Derived.Test.YtgkineipmhhacaaDoorProg
import Derived.KernelRfl
set_option linter.all false

namespace Go.Ga
open Go Go.Proofs
set_option maxRecDepth 100000

def c_clock_Seconds : RFn :=
  ⟨95,
  (.seq
  (.ops [] [
  ⟨(some 1), (.op (.box (.t 0))), none⟩,
  ⟨(some 2), (.op (.mv (.k (.int .i64 0)))), none⟩,
  ⟨(some 3), (.op (.mv (.k (.bool false)))), none⟩])
  (.seq
  (.seq
  (.ops [
  ⟨(some 9), (.op (.ixAddrA 6 1 (.t 1) (.k (.int .i64 0)))), none⟩,
  ⟨(some 10), (.op (.load1 (.t 9))), none⟩,
  ⟨(some 11), (.call (.k (.func (.func 91) #[] #[])) [(.t 10), (.k (.int .i64 1950)), (.k (.int .i64 2199))]), none⟩,
  ⟨(some 12), (.op (.un .not (.t 11))), none⟩,
  ⟨(some 13), (.op (.mv (.t 12))), none⟩,
  ⟨(some 14), (.op (.ixAddrA 6 1 (.t 1) (.k (.int .i64 1)))), (some (13, false))⟩,
  ⟨(some 15), (.op (.load1 (.t 14))), (some (13, false))⟩,
  ⟨(some 16), (.call (.k (.func (.func 91) #[] #[])) [(.t 15), (.k (.int .i64 1)), (.k (.int .i64 12))]), (some (13, false))⟩,
  ⟨(some 17), (.op (.un .not (.t 16))), (some (13, false))⟩,
  ⟨(some 18), (.op (.pick (.t 13) (.k (.bool true)) (.t 17))), none⟩,
  ⟨(some 19), (.op (.mv (.t 18))), none⟩,
  ⟨(some 20), (.op (.ixAddrA 6 1 (.t 1) (.k (.int .i64 2)))), (some (19, false))⟩,
  ⟨(some 21), (.op (.load1 (.t 20))), (some (19, false))⟩,
  ⟨(some 22), (.op (.ixAddrA 6 1 (.t 1) (.k (.int .i64 0)))), (some (19, false))⟩,
  ⟨(some 23), (.op (.load1 (.t 22))), (some (19, false))⟩,
  ⟨(some 24), (.op (.ixAddrA 6 1 (.t 1) (.k (.int .i64 1)))), (some (19, false))⟩,
  ⟨(some 25), (.op (.load1 (.t 24))), (some (19, false))⟩,
  ⟨(some 26), (.call (.k (.func (.func 92) #[] #[])) [(.t 23), (.t 25)]), (some (19, false))⟩] [
  ⟨(some 27), (.call (.k (.func (.func 91) #[] #[])) [(.t 21), (.k (.int .i64 1)), (.t 26)]), (some (19, false))⟩,
  ⟨(some 28), (.op (.un .not (.t 27))), (some (19, false))⟩,
  ⟨(some 29), (.op (.pick (.t 19) (.k (.bool true)) (.t 28))), none⟩])
  (.cond (.t 29)
  (.seq
  (.ops [] [
  ⟨(some 2), (.op (.mv (.k (.int .i64 0)))), none⟩,
  ⟨(some 3), (.op (.mv (.k (.bool false)))), none⟩])
  .ret)
  .skip))
  (.seq
  (.seq
  (.ops [] [
  ⟨(some 30), (.op (.ixAddrA 6 1 (.t 1) (.k (.int .i64 3)))), none⟩,
  ⟨(some 31), (.op (.load1 (.t 30))), none⟩,
  ⟨(some 32), (.call (.k (.func (.func 91) #[] #[])) [(.t 31), (.k (.int .i64 0)), (.k (.int .i64 23))]), none⟩,
  ⟨(some 33), (.op (.un .not (.t 32))), none⟩,
  ⟨(some 34), (.op (.mv (.t 33))), none⟩,
  ⟨(some 35), (.op (.ixAddrA 6 1 (.t 1) (.k (.int .i64 4)))), (some (34, false))⟩,
  ⟨(some 36), (.op (.load1 (.t 35))), (some (34, false))⟩,
  ⟨(some 37), (.call (.k (.func (.func 91) #[] #[])) [(.t 36), (.k (.int .i64 0)), (.k (.int .i64 59))]), (some (34, false))⟩,
  ⟨(some 38), (.op (.un .not (.t 37))), (some (34, false))⟩,
  ⟨(some 39), (.op (.pick (.t 34) (.k (.bool true)) (.t 38))), none⟩,
  ⟨(some 40), (.op (.mv (.t 39))), none⟩,
  ⟨(some 41), (.op (.ixAddrA 6 1 (.t 1) (.k (.int .i64 5)))), (some (40, false))⟩,
  ⟨(some 42), (.op (.load1 (.t 41))), (some (40, false))⟩,
  ⟨(some 43), (.call (.k (.func (.func 91) #[] #[])) [(.t 42), (.k (.int .i64 0)), (.k (.int .i64 59))]), (some (40, false))⟩,
  ⟨(some 44), (.op (.un .not (.t 43))), (some (40, false))⟩,
  ⟨(some 45), (.op (.pick (.t 40) (.k (.bool true)) (.t 44))), none⟩])
  (.cond (.t 45)
  (.seq
  (.ops [] [
  ⟨(some 2), (.op (.mv (.k (.int .i64 0)))), none⟩,
  ⟨(some 3), (.op (.mv (.k (.bool false)))), none⟩])
  .ret)
  .skip))
  (.seq
  (.ops [
  ⟨(some 46), (.op (.ixAddrA 6 1 (.t 1) (.k (.int .i64 0)))), none⟩,
  ⟨(some 47), (.op (.load1 (.t 46))), none⟩,
  ⟨(some 48), (.op (.ixAddrA 6 1 (.t 1) (.k (.int .i64 1)))), none⟩,
  ⟨(some 49), (.op (.load1 (.t 48))), none⟩,
  ⟨(some 50), (.op (.bin .sub (.t 49) (.k (.int .i64 3)))), none⟩,
  ⟨(some 4), (.op (.mv (.t 47))), none⟩] [
  ⟨(some 5), (.op (.mv (.t 50))), none⟩])
  (.seq
  (.seq
  (.ops [] [
  ⟨(some 51), (.op (.mv (.t 5))), none⟩,
  ⟨(some 52), (.op (.bin .lss (.t 51) (.k (.int .i64 0)))), none⟩])
  (.cond (.t 52)
  (.ops [] [
  ⟨(some 53), (.op (.mv (.t 4))), none⟩,
  ⟨(some 54), (.op (.bin .sub (.t 53) (.k (.int .i64 1)))), none⟩,
  ⟨(some 55), (.op (.mv (.t 5))), none⟩,
  ⟨(some 56), (.op (.bin .add (.t 55) (.k (.int .i64 12)))), none⟩,
  ⟨(some 4), (.op (.mv (.t 54))), none⟩,
  ⟨(some 5), (.op (.mv (.t 56))), none⟩])
  .skip))
  (.seq
  (.ops [] [
  ⟨(some 57), (.op (.mv (.t 4))), none⟩,
  ⟨(some 58), (.op (.bin .quo (.t 57) (.k (.int .i64 400)))), none⟩,
  ⟨(some 59), (.op (.mv (.t 4))), none⟩,
  ⟨(some 60), (.op (.bin .rem (.t 59) (.k (.int .i64 400)))), none⟩,
  ⟨(some 6), (.op (.mv (.t 58))), none⟩,
  ⟨(some 7), (.op (.mv (.t 60))), none⟩])
  (.seq
  (.ops [] [
  ⟨(some 61), (.op (.mv (.t 6))), none⟩,
  ⟨(some 62), (.op (.bin .mul (.t 61) (.k (.int .i64 146097)))), none⟩,
  ⟨(some 63), (.op (.mv (.t 7))), none⟩,
  ⟨(some 64), (.op (.bin .mul (.t 63) (.k (.int .i64 365)))), none⟩,
  ⟨(some 65), (.op (.bin .add (.t 62) (.t 64))), none⟩,
  ⟨(some 66), (.op (.mv (.t 7))), none⟩,
  ⟨(some 67), (.op (.bin .quo (.t 66) (.k (.int .i64 4)))), none⟩,
  ⟨(some 68), (.op (.bin .add (.t 65) (.t 67))), none⟩,
  ⟨(some 69), (.op (.mv (.t 7))), none⟩,
  ⟨(some 70), (.op (.bin .quo (.t 69) (.k (.int .i64 100)))), none⟩,
  ⟨(some 71), (.op (.bin .sub (.t 68) (.t 70))), none⟩,
  ⟨(some 72), (.op (.mv (.t 5))), none⟩,
  ⟨(some 73), (.op (.bin .mul (.k (.int .i64 153)) (.t 72))), none⟩,
  ⟨(some 74), (.op (.bin .add (.t 73) (.k (.int .i64 2)))), none⟩,
  ⟨(some 75), (.op (.bin .quo (.t 74) (.k (.int .i64 5)))), none⟩,
  ⟨(some 76), (.op (.bin .add (.t 71) (.t 75))), none⟩,
  ⟨(some 77), (.op (.ixAddrA 6 1 (.t 1) (.k (.int .i64 2)))), none⟩,
  ⟨(some 78), (.op (.load1 (.t 77))), none⟩,
  ⟨(some 79), (.op (.bin .add (.t 76) (.t 78))), none⟩,
  ⟨(some 80), (.op (.bin .sub (.t 79) (.k (.int .i64 1)))), none⟩,
  ⟨(some 81), (.op (.bin .sub (.t 80) (.k (.int .i64 719468)))), none⟩,
  ⟨(some 8), (.op (.mv (.t 81))), none⟩])
  (.seq
  (.ops [] [
  ⟨(some 82), (.op (.mv (.t 8))), none⟩,
  ⟨(some 83), (.op (.bin .mul (.t 82) (.k (.int .i64 86400)))), none⟩,
  ⟨(some 84), (.op (.ixAddrA 6 1 (.t 1) (.k (.int .i64 3)))), none⟩,
  ⟨(some 85), (.op (.load1 (.t 84))), none⟩,
  ⟨(some 86), (.op (.bin .mul (.t 85) (.k (.int .i64 3600)))), none⟩,
  ⟨(some 87), (.op (.ixAddrA 6 1 (.t 1) (.k (.int .i64 4)))), none⟩,
  ⟨(some 88), (.op (.load1 (.t 87))), none⟩,
  ⟨(some 89), (.op (.bin .mul (.t 88) (.k (.int .i64 60)))), none⟩,
  ⟨(some 90), (.op (.bin .add (.t 86) (.t 89))), none⟩,
  ⟨(some 91), (.op (.ixAddrA 6 1 (.t 1) (.k (.int .i64 5)))), none⟩,
  ⟨(some 92), (.op (.load1 (.t 91))), none⟩,
  ⟨(some 93), (.op (.bin .add (.t 90) (.t 92))), none⟩,
  ⟨(some 94), (.op (.bin .add (.t 83) (.t 93))), none⟩,
  ⟨(some 2), (.op (.mv (.t 94))), none⟩,
  ⟨(some 3), (.op (.mv (.k (.bool true)))), none⟩])
  .ret)))))))),
  [(.t 2), (.t 3)]⟩
theorem r_clock_Seconds : resolveFn Tryd.prog 80 = some c_clock_Seconds := by kernel_rfl

def c_lanyardref03_Seconds : RFn :=
  ⟨30,
  (.seq
  (.ops [] [
  ⟨(some 1), (.op (.box (.t 0))), none⟩,
  ⟨(some 2), (.op (.mv (.k (.int .i64 0)))), none⟩,
  ⟨(some 3), (.op (.mv (.k (.bool false)))), none⟩])
  (.seq
  (.seq
  (.ops [] [
  ⟨(some 5), (.op (.loadN 6 (.t 1))), none⟩,
  ⟨(some 6), (.call (.k (.func (.func 93) #[] #[])) [(.t 5)]), none⟩,
  ⟨(some 7), (.op (.un .not (.t 6))), none⟩])
  (.cond (.t 7)
  (.seq
  (.ops [] [
  ⟨(some 2), (.op (.mv (.k (.int .i64 0)))), none⟩,
  ⟨(some 3), (.op (.mv (.k (.bool false)))), none⟩])
  .ret)
  .skip))
  (.seq
  (.ops [] [
  ⟨(some 8), (.op (.ixAddrA 6 1 (.t 1) (.k (.int .i64 0)))), none⟩,
  ⟨(some 9), (.op (.load1 (.t 8))), none⟩,
  ⟨(some 10), (.op (.ixAddrA 6 1 (.t 1) (.k (.int .i64 1)))), none⟩,
  ⟨(some 11), (.op (.load1 (.t 10))), none⟩,
  ⟨(some 12), (.op (.ixAddrA 6 1 (.t 1) (.k (.int .i64 2)))), none⟩,
  ⟨(some 13), (.op (.load1 (.t 12))), none⟩,
  ⟨(some 14), (.call (.k (.func (.func 94) #[] #[])) [(.t 9), (.t 11), (.t 13)]), none⟩,
  ⟨(some 15), (.call (.k (.func (.func 94) #[] #[])) [(.k (.int .i64 1970)), (.k (.int .i64 1)), (.k (.int .i64 1))]), none⟩,
  ⟨(some 16), (.op (.bin .sub (.t 14) (.t 15))), none⟩,
  ⟨(some 4), (.op (.mv (.t 16))), none⟩])
  (.seq
  (.ops [] [
  ⟨(some 17), (.op (.mv (.t 4))), none⟩,
  ⟨(some 18), (.op (.bin .mul (.t 17) (.k (.int .i64 86400)))), none⟩,
  ⟨(some 19), (.op (.ixAddrA 6 1 (.t 1) (.k (.int .i64 3)))), none⟩,
  ⟨(some 20), (.op (.load1 (.t 19))), none⟩,
  ⟨(some 21), (.op (.bin .mul (.t 20) (.k (.int .i64 3600)))), none⟩,
  ⟨(some 22), (.op (.ixAddrA 6 1 (.t 1) (.k (.int .i64 4)))), none⟩,
  ⟨(some 23), (.op (.load1 (.t 22))), none⟩,
  ⟨(some 24), (.op (.bin .mul (.t 23) (.k (.int .i64 60)))), none⟩,
  ⟨(some 25), (.op (.bin .add (.t 21) (.t 24))), none⟩,
  ⟨(some 26), (.op (.ixAddrA 6 1 (.t 1) (.k (.int .i64 5)))), none⟩,
  ⟨(some 27), (.op (.load1 (.t 26))), none⟩,
  ⟨(some 28), (.op (.bin .add (.t 25) (.t 27))), none⟩,
  ⟨(some 29), (.op (.bin .add (.t 18) (.t 28))), none⟩,
  ⟨(some 2), (.op (.mv (.t 29))), none⟩,
  ⟨(some 3), (.op (.mv (.k (.bool true)))), none⟩])
  .ret)))),
  [(.t 2), (.t 3)]⟩
def c_clock_Date : RFn :=
  ⟨105,
  (.seq
  (.ops [] [
  ⟨(some 2), (.op (.new [(.int .i64 0), (.int .i64 0), (.int .i64 0), (.int .i64 0), (.int .i64 0), (.int .i64 0)])), none⟩,
  ⟨(some 3), (.op (.mv (.k (.bool false)))), none⟩])
  (.seq
  (.ops [] [
  ⟨(some 16), (.op (.build [(.int .i64 0), (.int .i64 0), (.int .i64 0), (.int .i64 0), (.int .i64 0), (.int .i64 0)] [(0, (1, (.k (.int .i64 1950)))), (1, (1, (.k (.int .i64 1)))), (2, (1, (.k (.int .i64 1))))])), none⟩,
  ⟨(some 17), (.call (.k (.func (.func 80) #[] #[])) [(.t 16)]), none⟩,
  ⟨(some 15), (.op (.mv (.t 17))), none⟩,
  ⟨(some 18), (.op (.extract (.t 15) 0)), none⟩,
  ⟨(some 19), (.op (.extract (.t 15) 1)), none⟩,
  ⟨(some 4), (.op (.mv (.t 18))), none⟩,
  ⟨(some 5), (.op (.mv (.t 19))), none⟩])
  (.seq
  (.ops [] [
  ⟨(some 21), (.op (.build [(.int .i64 0), (.int .i64 0), (.int .i64 0), (.int .i64 0), (.int .i64 0), (.int .i64 0)] [(0, (1, (.k (.int .i64 2199)))), (1, (1, (.k (.int .i64 12)))), (2, (1, (.k (.int .i64 31)))), (3, (1, (.k (.int .i64 23)))), (4, (1, (.k (.int .i64 59)))), (5, (1, (.k (.int .i64 59))))])), none⟩,
  ⟨(some 22), (.call (.k (.func (.func 80) #[] #[])) [(.t 21)]), none⟩,
  ⟨(some 20), (.op (.mv (.t 22))), none⟩,
  ⟨(some 23), (.op (.extract (.t 20) 0)), none⟩,
  ⟨(some 24), (.op (.extract (.t 20) 1)), none⟩,
  ⟨(some 6), (.op (.mv (.t 23))), none⟩,
  ⟨(some 7), (.op (.mv (.t 24))), none⟩])
  (.seq
  (.seq
  (.ops [] [
  ⟨(some 25), (.op (.mv (.t 0))), none⟩,
  ⟨(some 26), (.op (.mv (.t 4))), none⟩,
  ⟨(some 27), (.op (.bin .lss (.t 25) (.t 26))), none⟩,
  ⟨(some 28), (.op (.mv (.t 27))), none⟩,
  ⟨(some 29), (.op (.mv (.t 0))), (some (28, false))⟩,
  ⟨(some 30), (.op (.mv (.t 6))), (some (28, false))⟩,
  ⟨(some 31), (.op (.bin .gtr (.t 29) (.t 30))), (some (28, false))⟩,
  ⟨(some 32), (.op (.pick (.t 28) (.k (.bool true)) (.t 31))), none⟩])
  (.cond (.t 32)
  (.seq
  (.ops [] [
  ⟨(some 33), (.op (.build [(.int .i64 0), (.int .i64 0), (.int .i64 0), (.int .i64 0), (.int .i64 0), (.int .i64 0)] [])), none⟩,
  ⟨none, (.op (.store 6 (.t 2) (.t 33))), none⟩,
  ⟨(some 3), (.op (.mv (.k (.bool false)))), none⟩])
  .ret)
  .skip))
  (.seq
  (.ops [] [
  ⟨(some 34), (.op (.mv (.t 0))), none⟩,
  ⟨(some 35), (.op (.bin .quo (.t 34) (.k (.int .i64 86400)))), none⟩,
  ⟨(some 36), (.op (.mv (.t 0))), none⟩,
  ⟨(some 37), (.op (.bin .rem (.t 36) (.k (.int .i64 86400)))), none⟩,
  ⟨(some 8), (.op (.mv (.t 35))), none⟩,
  ⟨(some 9), (.op (.mv (.t 37))), none⟩])
  (.seq
  (.seq
  (.ops [] [
  ⟨(some 38), (.op (.mv (.t 9))), none⟩,
  ⟨(some 39), (.op (.bin .lss (.t 38) (.k (.int .i64 0)))), none⟩])
  (.cond (.t 39)
  (.ops [] [
  ⟨(some 40), (.op (.mv (.t 8))), none⟩,
  ⟨(some 41), (.op (.bin .sub (.t 40) (.k (.int .i64 1)))), none⟩,
  ⟨(some 42), (.op (.mv (.t 9))), none⟩,
  ⟨(some 43), (.op (.bin .add (.t 42) (.k (.int .i64 86400)))), none⟩,
  ⟨(some 8), (.op (.mv (.t 41))), none⟩,
  ⟨(some 9), (.op (.mv (.t 43))), none⟩])
  .skip))
  (.seq
  (.ops [] [
  ⟨(some 44), (.op (.mv (.t 8))), none⟩,
  ⟨(some 45), (.op (.bin .add (.t 44) (.k (.int .i64 719468)))), none⟩,
  ⟨(some 8), (.op (.mv (.t 45))), none⟩])
  (.seq
  (.ops [] [
  ⟨(some 46), (.op (.mv (.t 8))), none⟩,
  ⟨(some 47), (.op (.bin .quo (.t 46) (.k (.int .i64 146097)))), none⟩,
  ⟨(some 10), (.op (.mv (.t 47))), none⟩])
  (.seq
  (.ops [] [
  ⟨(some 48), (.op (.mv (.t 8))), none⟩,
  ⟨(some 49), (.op (.bin .rem (.t 48) (.k (.int .i64 146097)))), none⟩,
  ⟨(some 8), (.op (.mv (.t 49))), none⟩])
  (.seq
  (.ops [] [
  ⟨(some 50), (.op (.mv (.t 8))), none⟩,
  ⟨(some 51), (.op (.mv (.t 8))), none⟩,
  ⟨(some 52), (.op (.bin .quo (.t 51) (.k (.int .i64 1460)))), none⟩,
  ⟨(some 53), (.op (.bin .sub (.t 50) (.t 52))), none⟩,
  ⟨(some 54), (.op (.mv (.t 8))), none⟩,
  ⟨(some 55), (.op (.bin .quo (.t 54) (.k (.int .i64 36524)))), none⟩,
  ⟨(some 56), (.op (.bin .add (.t 53) (.t 55))), none⟩,
  ⟨(some 57), (.op (.mv (.t 8))), none⟩,
  ⟨(some 58), (.op (.bin .quo (.t 57) (.k (.int .i64 146096)))), none⟩,
  ⟨(some 59), (.op (.bin .sub (.t 56) (.t 58))), none⟩,
  ⟨(some 60), (.op (.bin .quo (.t 59) (.k (.int .i64 365)))), none⟩,
  ⟨(some 11), (.op (.mv (.t 60))), none⟩])
  (.seq
  (.ops [] [
  ⟨(some 61), (.op (.mv (.t 8))), none⟩,
  ⟨(some 62), (.op (.mv (.t 11))), none⟩,
  ⟨(some 63), (.op (.bin .mul (.t 62) (.k (.int .i64 365)))), none⟩,
  ⟨(some 64), (.op (.mv (.t 11))), none⟩,
  ⟨(some 65), (.op (.bin .quo (.t 64) (.k (.int .i64 4)))), none⟩,
  ⟨(some 66), (.op (.bin .add (.t 63) (.t 65))), none⟩,
  ⟨(some 67), (.op (.mv (.t 11))), none⟩,
  ⟨(some 68), (.op (.bin .quo (.t 67) (.k (.int .i64 100)))), none⟩,
  ⟨(some 69), (.op (.bin .sub (.t 66) (.t 68))), none⟩,
  ⟨(some 70), (.op (.bin .sub (.t 61) (.t 69))), none⟩,
  ⟨(some 8), (.op (.mv (.t 70))), none⟩])
  (.seq
  (.ops [] [
  ⟨(some 71), (.op (.mv (.t 8))), none⟩,
  ⟨(some 72), (.op (.bin .mul (.k (.int .i64 5)) (.t 71))), none⟩,
  ⟨(some 73), (.op (.bin .add (.t 72) (.k (.int .i64 2)))), none⟩,
  ⟨(some 74), (.op (.bin .quo (.t 73) (.k (.int .i64 153)))), none⟩,
  ⟨(some 12), (.op (.mv (.t 74))), none⟩])
  (.seq
  (.ops [] [
  ⟨(some 75), (.op (.mv (.t 8))), none⟩,
  ⟨(some 76), (.op (.mv (.t 12))), none⟩,
  ⟨(some 77), (.op (.bin .mul (.k (.int .i64 153)) (.t 76))), none⟩,
  ⟨(some 78), (.op (.bin .add (.t 77) (.k (.int .i64 2)))), none⟩,
  ⟨(some 79), (.op (.bin .quo (.t 78) (.k (.int .i64 5)))), none⟩,
  ⟨(some 80), (.op (.bin .sub (.t 75) (.t 79))), none⟩,
  ⟨(some 81), (.op (.bin .add (.t 80) (.k (.int .i64 1)))), none⟩,
  ⟨(some 13), (.op (.mv (.t 81))), none⟩])
  (.seq
  (.ops [] [
  ⟨(some 82), (.op (.mv (.t 10))), none⟩,
  ⟨(some 83), (.op (.bin .mul (.t 82) (.k (.int .i64 400)))), none⟩,
  ⟨(some 84), (.op (.mv (.t 11))), none⟩,
  ⟨(some 85), (.op (.bin .add (.t 83) (.t 84))), none⟩,
  ⟨(some 14), (.op (.mv (.t 85))), none⟩])
  (.seq
  (.ops [] [
  ⟨(some 86), (.op (.mv (.t 12))), none⟩,
  ⟨(some 87), (.op (.bin .add (.t 86) (.k (.int .i64 3)))), none⟩,
  ⟨(some 12), (.op (.mv (.t 87))), none⟩])
  (.seq
  (.seq
  (.ops [] [
  ⟨(some 88), (.op (.mv (.t 12))), none⟩,
  ⟨(some 89), (.op (.bin .gtr (.t 88) (.k (.int .i64 12)))), none⟩])
  (.cond (.t 89)
  (.ops [] [
  ⟨(some 90), (.op (.mv (.t 14))), none⟩,
  ⟨(some 91), (.op (.bin .add (.t 90) (.k (.int .i64 1)))), none⟩,
  ⟨(some 92), (.op (.mv (.t 12))), none⟩,
  ⟨(some 93), (.op (.bin .sub (.t 92) (.k (.int .i64 12)))), none⟩,
  ⟨(some 14), (.op (.mv (.t 91))), none⟩,
  ⟨(some 12), (.op (.mv (.t 93))), none⟩])
  .skip))
  (.seq
  (.ops [] [
  ⟨(some 94), (.op (.mv (.t 14))), none⟩,
  ⟨(some 95), (.op (.mv (.t 12))), none⟩,
  ⟨(some 96), (.op (.mv (.t 13))), none⟩,
  ⟨(some 97), (.op (.mv (.t 9))), none⟩,
  ⟨(some 98), (.op (.bin .quo (.t 97) (.k (.int .i64 3600)))), none⟩,
  ⟨(some 99), (.op (.mv (.t 9))), none⟩,
  ⟨(some 100), (.op (.bin .quo (.t 99) (.k (.int .i64 60)))), none⟩,
  ⟨(some 101), (.op (.bin .rem (.t 100) (.k (.int .i64 60)))), none⟩,
  ⟨(some 102), (.op (.mv (.t 9))), none⟩,
  ⟨(some 103), (.op (.bin .rem (.t 102) (.k (.int .i64 60)))), none⟩,
  ⟨(some 104), (.op (.build [(.int .i64 0), (.int .i64 0), (.int .i64 0), (.int .i64 0), (.int .i64 0), (.int .i64 0)] [(0, (1, (.t 94))), (1, (1, (.t 95))), (2, (1, (.t 96))), (3, (1, (.t 98))), (4, (1, (.t 101))), (5, (1, (.t 103)))])), none⟩,
  ⟨none, (.op (.store 6 (.t 2) (.t 104))), none⟩,
  ⟨(some 3), (.op (.mv (.k (.bool true)))), none⟩])
  .ret))))))))))))))))),
  [(.cN 2 6), (.t 3)]⟩
theorem r_clock_Date : resolveFn Tryd.prog 96 = some c_clock_Date := by kernel_rfl

def c_lanyardref03_Date : RFn :=
  ⟨70,
  (.seq
  (.ops [] [
  ⟨(some 2), (.op (.new [(.int .i64 0), (.int .i64 0), (.int .i64 0), (.int .i64 0), (.int .i64 0), (.int .i64 0)])), none⟩,
  ⟨(some 3), (.op (.mv (.k (.bool false)))), none⟩])
  (.seq
  (.ops [] [
  ⟨(some 9), (.call (.k (.func (.func 94) #[] #[])) [(.k (.int .i64 1970)), (.k (.int .i64 1)), (.k (.int .i64 1))]), none⟩,
  ⟨(some 10), (.op (.un .neg (.t 9))), none⟩,
  ⟨(some 11), (.op (.bin .mul (.t 10) (.k (.int .i64 86400)))), none⟩,
  ⟨(some 4), (.op (.mv (.t 11))), none⟩])
  (.seq
  (.seq
  (.ops [] [
  ⟨(some 12), (.op (.mv (.t 0))), none⟩,
  ⟨(some 13), (.op (.mv (.t 4))), none⟩,
  ⟨(some 14), (.op (.bin .lss (.t 12) (.t 13))), none⟩,
  ⟨(some 15), (.op (.mv (.t 14))), none⟩,
  ⟨(some 16), (.op (.mv (.t 0))), (some (15, false))⟩,
  ⟨(some 17), (.op (.bin .gtr (.t 16) (.k (.int .i64 7258118399)))), (some (15, false))⟩,
  ⟨(some 18), (.op (.pick (.t 15) (.k (.bool true)) (.t 17))), none⟩])
  (.cond (.t 18)
  (.seq
  (.ops [] [
  ⟨(some 19), (.op (.build [(.int .i64 0), (.int .i64 0), (.int .i64 0), (.int .i64 0), (.int .i64 0), (.int .i64 0)] [])), none⟩,
  ⟨none, (.op (.store 6 (.t 2) (.t 19))), none⟩,
  ⟨(some 3), (.op (.mv (.k (.bool false)))), none⟩])
  .ret)
  .skip))
  (.seq
  (.ops [] [
  ⟨(some 20), (.op (.mv (.t 0))), none⟩,
  ⟨(some 21), (.op (.mv (.t 4))), none⟩,
  ⟨(some 22), (.op (.bin .sub (.t 20) (.t 21))), none⟩,
  ⟨(some 23), (.op (.bin .quo (.t 22) (.k (.int .i64 86400)))), none⟩,
  ⟨(some 5), (.op (.mv (.t 23))), none⟩])
  (.seq
  (.ops [] [
  ⟨(some 24), (.op (.mv (.t 0))), none⟩,
  ⟨(some 25), (.op (.mv (.t 4))), none⟩,
  ⟨(some 26), (.op (.bin .sub (.t 24) (.t 25))), none⟩,
  ⟨(some 27), (.op (.bin .rem (.t 26) (.k (.int .i64 86400)))), none⟩,
  ⟨(some 6), (.op (.mv (.t 27))), none⟩])
  (.seq
  (.ops [] [
  ⟨(some 7), (.op (.mv (.k (.int .i64 1950)))), none⟩])
  (.seq
  (.block 0
  (.loop
  (.seq
  (.seq
  (.ops [] [
  ⟨(some 28), (.op (.mv (.t 5))), none⟩,
  ⟨(some 29), (.op (.mv (.t 7))), none⟩,
  ⟨(some 30), (.op (.bin .add (.t 29) (.k (.int .i64 1)))), none⟩,
  ⟨(some 31), (.call (.k (.func (.func 94) #[] #[])) [(.t 30), (.k (.int .i64 1)), (.k (.int .i64 1))]), none⟩,
  ⟨(some 32), (.op (.mv (.t 7))), none⟩,
  ⟨(some 33), (.call (.k (.func (.func 94) #[] #[])) [(.t 32), (.k (.int .i64 1)), (.k (.int .i64 1))]), none⟩,
  ⟨(some 34), (.op (.bin .sub (.t 31) (.t 33))), none⟩,
  ⟨(some 35), (.op (.bin .geq (.t 28) (.t 34))), none⟩])
  (.cond (.t 35)
  .skip
  (.exit 0)))
  (.block 1
  (.seq
  (.ops [] [
  ⟨(some 36), (.op (.mv (.t 5))), none⟩,
  ⟨(some 37), (.op (.mv (.t 7))), none⟩,
  ⟨(some 38), (.op (.bin .add (.t 37) (.k (.int .i64 1)))), none⟩,
  ⟨(some 39), (.call (.k (.func (.func 94) #[] #[])) [(.t 38), (.k (.int .i64 1)), (.k (.int .i64 1))]), none⟩,
  ⟨(some 40), (.op (.mv (.t 7))), none⟩,
  ⟨(some 41), (.call (.k (.func (.func 94) #[] #[])) [(.t 40), (.k (.int .i64 1)), (.k (.int .i64 1))]), none⟩,
  ⟨(some 42), (.op (.bin .sub (.t 39) (.t 41))), none⟩,
  ⟨(some 43), (.op (.bin .sub (.t 36) (.t 42))), none⟩,
  ⟨(some 5), (.op (.mv (.t 43))), none⟩])
  (.ops [] [
  ⟨(some 44), (.op (.mv (.t 7))), none⟩,
  ⟨(some 45), (.op (.bin .add (.t 44) (.k (.int .i64 1)))), none⟩,
  ⟨(some 7), (.op (.mv (.t 45))), none⟩]))))))
  (.seq
  (.ops [] [
  ⟨(some 8), (.op (.mv (.k (.int .i64 1)))), none⟩])
  (.seq
  (.block 2
  (.loop
  (.seq
  (.seq
  (.ops [] [
  ⟨(some 46), (.op (.mv (.t 5))), none⟩,
  ⟨(some 47), (.op (.mv (.t 7))), none⟩,
  ⟨(some 48), (.op (.mv (.t 8))), none⟩,
  ⟨(some 49), (.call (.k (.func (.func 97) #[] #[])) [(.t 47), (.t 48)]), none⟩,
  ⟨(some 50), (.op (.bin .geq (.t 46) (.t 49))), none⟩])
  (.cond (.t 50)
  .skip
  (.exit 2)))
  (.block 3
  (.seq
  (.ops [] [
  ⟨(some 51), (.op (.mv (.t 5))), none⟩,
  ⟨(some 52), (.op (.mv (.t 7))), none⟩,
  ⟨(some 53), (.op (.mv (.t 8))), none⟩,
  ⟨(some 54), (.call (.k (.func (.func 97) #[] #[])) [(.t 52), (.t 53)]), none⟩,
  ⟨(some 55), (.op (.bin .sub (.t 51) (.t 54))), none⟩,
  ⟨(some 5), (.op (.mv (.t 55))), none⟩])
  (.ops [] [
  ⟨(some 56), (.op (.mv (.t 8))), none⟩,
  ⟨(some 57), (.op (.bin .add (.t 56) (.k (.int .i64 1)))), none⟩,
  ⟨(some 8), (.op (.mv (.t 57))), none⟩]))))))
  (.seq
  (.ops [] [
  ⟨(some 58), (.op (.mv (.t 7))), none⟩,
  ⟨(some 59), (.op (.mv (.t 8))), none⟩,
  ⟨(some 60), (.op (.mv (.t 5))), none⟩,
  ⟨(some 61), (.op (.bin .add (.t 60) (.k (.int .i64 1)))), none⟩,
  ⟨(some 62), (.op (.mv (.t 6))), none⟩,
  ⟨(some 63), (.op (.bin .quo (.t 62) (.k (.int .i64 3600)))), none⟩,
  ⟨(some 64), (.op (.mv (.t 6))), none⟩,
  ⟨(some 65), (.op (.bin .quo (.t 64) (.k (.int .i64 60)))), none⟩,
  ⟨(some 66), (.op (.bin .rem (.t 65) (.k (.int .i64 60)))), none⟩,
  ⟨(some 67), (.op (.mv (.t 6))), none⟩,
  ⟨(some 68), (.op (.bin .rem (.t 67) (.k (.int .i64 60)))), none⟩,
  ⟨(some 69), (.op (.build [(.int .i64 0), (.int .i64 0), (.int .i64 0), (.int .i64 0), (.int .i64 0), (.int .i64 0)] [(0, (1, (.t 58))), (1, (1, (.t 59))), (2, (1, (.t 61))), (3, (1, (.t 63))), (4, (1, (.t 66))), (5, (1, (.t 68)))])), none⟩,
  ⟨none, (.op (.store 6 (.t 2) (.t 69))), none⟩,
  ⟨(some 3), (.op (.mv (.k (.bool true)))), none⟩])
  .ret)))))))))),
  [(.cN 2 6), (.t 3)]⟩
def c_clock_Long : RFn :=
  ⟨16,
  (.seq
  (.ops [] [
  ⟨(some 2), (.op (.mv (.k (.string ⟨#[]⟩)))), none⟩,
  ⟨(some 3), (.op (.mv (.k (.bool false)))), none⟩])
  (.seq
  (.ops [] [
  ⟨(some 8), (.op (.mv (.t 0))), none⟩,
  ⟨(some 9), (.call (.k (.func (.func 87) #[] #[])) [(.t 8)]), none⟩,
  ⟨(some 7), (.op (.mv (.t 9))), none⟩,
  ⟨(some 10), (.op (.extract (.t 7) 0)), none⟩,
  ⟨(some 11), (.op (.extract (.t 7) 1)), none⟩,
  ⟨(some 12), (.op (.extract (.t 7) 2)), none⟩,
  ⟨(some 4), (.op (.mv (.t 10))), none⟩,
  ⟨(some 5), (.op (.mv (.t 11))), none⟩,
  ⟨(some 6), (.op (.mv (.t 12))), none⟩])
  (.seq
  (.ops [] [
  ⟨(some 13), (.op (.mv (.t 4))), none⟩,
  ⟨(some 14), (.op (.b2s (.t 13))), none⟩,
  ⟨(some 15), (.op (.mv (.t 6))), none⟩,
  ⟨(some 2), (.op (.mv (.t 14))), none⟩,
  ⟨(some 3), (.op (.mv (.t 15))), none⟩])
  .ret))),
  [(.t 2), (.t 3)]⟩
theorem r_clock_Long : resolveFn Tryd.prog 77 = some c_clock_Long := by kernel_rfl

def c_clock_Short : RFn :=
  ⟨22,
  (.seq
  (.ops [] [
  ⟨(some 2), (.op (.mv (.k (.string ⟨#[]⟩)))), none⟩,
  ⟨(some 3), (.op (.mv (.k (.bool false)))), none⟩])
  (.seq
  (.ops [] [
  ⟨(some 8), (.op (.mv (.t 0))), none⟩,
  ⟨(some 9), (.call (.k (.func (.func 87) #[] #[])) [(.t 8)]), none⟩,
  ⟨(some 7), (.op (.mv (.t 9))), none⟩,
  ⟨(some 10), (.op (.extract (.t 7) 0)), none⟩,
  ⟨(some 11), (.op (.extract (.t 7) 1)), none⟩,
  ⟨(some 12), (.op (.extract (.t 7) 2)), none⟩,
  ⟨(some 4), (.op (.mv (.t 10))), none⟩,
  ⟨(some 5), (.op (.mv (.t 11))), none⟩,
  ⟨(some 6), (.op (.mv (.t 12))), none⟩])
  (.seq
  (.seq
  (.ops [] [
  ⟨(some 13), (.op (.mv (.t 6))), none⟩,
  ⟨(some 14), (.op (.un .not (.t 13))), none⟩,
  ⟨(some 15), (.op (.mv (.t 14))), none⟩,
  ⟨(some 16), (.op (.mv (.t 5))), (some (15, false))⟩,
  ⟨(some 17), (.op (.bin .geq (.t 16) (.k (.int .i64 2050)))), (some (15, false))⟩,
  ⟨(some 18), (.op (.pick (.t 15) (.k (.bool true)) (.t 17))), none⟩])
  (.cond (.t 18)
  (.seq
  (.ops [] [
  ⟨(some 2), (.op (.mv (.k (.string ⟨#[]⟩)))), none⟩,
  ⟨(some 3), (.op (.mv (.k (.bool false)))), none⟩])
  .ret)
  .skip))
  (.seq
  (.ops [] [
  ⟨(some 19), (.op (.mv (.t 4))), none⟩,
  ⟨(some 20), (.op (.sl 1 (.t 19) (some (.k (.int .i64 2))) none none)), none⟩,
  ⟨(some 21), (.op (.b2s (.t 20))), none⟩,
  ⟨(some 2), (.op (.mv (.t 21))), none⟩,
  ⟨(some 3), (.op (.mv (.k (.bool true)))), none⟩])
  .ret)))),
  [(.t 2), (.t 3)]⟩
theorem r_clock_Short : resolveFn Tryd.prog 76 = some c_clock_Short := by kernel_rfl

def c_lanyardref03_Short : RFn :=
  ⟨24,
  (.seq
  (.ops [] [
  ⟨(some 2), (.op (.mv (.k (.string ⟨#[]⟩)))), none⟩,
  ⟨(some 3), (.op (.mv (.k (.bool false)))), none⟩])
  (.seq
  (.ops [] [
  ⟨(some 7), (.op (.mv (.t 0))), none⟩,
  ⟨(some 8), (.call (.k (.func (.func 88) #[] #[])) [(.t 7)]), none⟩,
  ⟨(some 6), (.op (.mv (.t 8))), none⟩,
  ⟨(some 9), (.op (.extract (.t 6) 0)), none⟩,
  ⟨(some 10), (.op (.extract (.t 6) 1)), none⟩,
  ⟨(some 4), (.op (.new [(.int .i64 0), (.int .i64 0), (.int .i64 0), (.int .i64 0), (.int .i64 0), (.int .i64 0)])), none⟩,
  ⟨none, (.op (.store 6 (.t 4) (.t 9))), none⟩,
  ⟨(some 5), (.op (.mv (.t 10))), none⟩])
  (.seq
  (.seq
  (.ops [] [
  ⟨(some 11), (.op (.mv (.t 5))), none⟩,
  ⟨(some 12), (.op (.un .not (.t 11))), none⟩,
  ⟨(some 13), (.op (.mv (.t 12))), none⟩,
  ⟨(some 14), (.op (.ixAddrA 6 1 (.t 4) (.k (.int .i64 0)))), (some (13, false))⟩,
  ⟨(some 15), (.op (.load1 (.t 14))), (some (13, false))⟩,
  ⟨(some 16), (.op (.bin .gtr (.t 15) (.k (.int .i64 2049)))), (some (13, false))⟩,
  ⟨(some 17), (.op (.pick (.t 13) (.k (.bool true)) (.t 16))), none⟩])
  (.cond (.t 17)
  (.seq
  (.ops [] [
  ⟨(some 2), (.op (.mv (.k (.string ⟨#[]⟩)))), none⟩,
  ⟨(some 3), (.op (.mv (.k (.bool false)))), none⟩])
  .ret)
  .skip))
  (.seq
  (.ops [
  ⟨(some 18), (.op (.ixAddrA 6 1 (.t 4) (.k (.int .i64 0)))), none⟩,
  ⟨(some 19), (.op (.load1 (.t 18))), none⟩,
  ⟨(some 20), (.call (.k (.func (.func 89) #[] #[])) [(.t 19)]), none⟩,
  ⟨(some 21), (.op (.loadN 6 (.t 4))), none⟩] [
  ⟨(some 22), (.call (.k (.func (.func 90) #[] #[])) [(.t 21)]), none⟩,
  ⟨(some 23), (.op (.bin .add (.t 20) (.t 22))), none⟩,
  ⟨(some 2), (.op (.mv (.t 23))), none⟩,
  ⟨(some 3), (.op (.mv (.k (.bool true)))), none⟩])
  .ret)))),
  [(.t 2), (.t 3)]⟩
def c_lanyardref03_Long : RFn :=
  ⟨24,
  (.seq
  (.ops [] [
  ⟨(some 2), (.op (.mv (.k (.string ⟨#[]⟩)))), none⟩,
  ⟨(some 3), (.op (.mv (.k (.bool false)))), none⟩])
  (.seq
  (.ops [] [
  ⟨(some 7), (.op (.mv (.t 0))), none⟩,
  ⟨(some 8), (.call (.k (.func (.func 88) #[] #[])) [(.t 7)]), none⟩,
  ⟨(some 6), (.op (.mv (.t 8))), none⟩,
  ⟨(some 9), (.op (.extract (.t 6) 0)), none⟩,
  ⟨(some 10), (.op (.extract (.t 6) 1)), none⟩,
  ⟨(some 4), (.op (.new [(.int .i64 0), (.int .i64 0), (.int .i64 0), (.int .i64 0), (.int .i64 0), (.int .i64 0)])), none⟩,
  ⟨none, (.op (.store 6 (.t 4) (.t 9))), none⟩,
  ⟨(some 5), (.op (.mv (.t 10))), none⟩])
  (.seq
  (.seq
  (.ops [] [
  ⟨(some 11), (.op (.mv (.t 5))), none⟩,
  ⟨(some 12), (.op (.un .not (.t 11))), none⟩])
  (.cond (.t 12)
  (.seq
  (.ops [] [
  ⟨(some 2), (.op (.mv (.k (.string ⟨#[]⟩)))), none⟩,
  ⟨(some 3), (.op (.mv (.k (.bool false)))), none⟩])
  .ret)
  .skip))
  (.seq
  (.ops [
  ⟨(some 13), (.op (.ixAddrA 6 1 (.t 4) (.k (.int .i64 0)))), none⟩,
  ⟨(some 14), (.op (.load1 (.t 13))), none⟩,
  ⟨(some 15), (.op (.bin .quo (.t 14) (.k (.int .i64 100)))), none⟩,
  ⟨(some 16), (.call (.k (.func (.func 89) #[] #[])) [(.t 15)]), none⟩,
  ⟨(some 17), (.op (.ixAddrA 6 1 (.t 4) (.k (.int .i64 0)))), none⟩,
  ⟨(some 18), (.op (.load1 (.t 17))), none⟩,
  ⟨(some 19), (.call (.k (.func (.func 89) #[] #[])) [(.t 18)]), none⟩,
  ⟨(some 20), (.op (.bin .add (.t 16) (.t 19))), none⟩,
  ⟨(some 21), (.op (.loadN 6 (.t 4))), none⟩,
  ⟨(some 22), (.call (.k (.func (.func 90) #[] #[])) [(.t 21)]), none⟩] [
  ⟨(some 23), (.op (.bin .add (.t 20) (.t 22))), none⟩,
  ⟨(some 2), (.op (.mv (.t 23))), none⟩,
  ⟨(some 3), (.op (.mv (.k (.bool true)))), none⟩])
  .ret)))),
  [(.t 2), (.t 3)]⟩
def c_clock_Text : RFn :=
  ⟨17,
  (.seq
  (.ops [] [
  ⟨(some 2), (.op (.mv (.k (.string ⟨#[]⟩)))), none⟩,
  ⟨(some 3), (.op (.mv (.k (.bool false)))), none⟩])
  (.seq
  (.seq
  (.ops [] [
  ⟨(some 7), (.op (.mv (.t 0))), none⟩,
  ⟨(some 8), (.call (.k (.func (.func 76) #[] #[])) [(.t 7)]), none⟩,
  ⟨(some 6), (.op (.mv (.t 8))), none⟩,
  ⟨(some 9), (.op (.extract (.t 6) 0)), none⟩,
  ⟨(some 10), (.op (.extract (.t 6) 1)), none⟩,
  ⟨(some 4), (.op (.mv (.t 9))), none⟩,
  ⟨(some 5), (.op (.mv (.t 10))), none⟩])
  (.seq
  (.ops [] [
  ⟨(some 11), (.op (.mv (.t 5))), none⟩])
  (.cond (.t 11)
  (.seq
  (.ops [] [
  ⟨(some 12), (.op (.mv (.t 4))), none⟩,
  ⟨(some 2), (.op (.mv (.t 12))), none⟩,
  ⟨(some 3), (.op (.mv (.k (.bool true)))), none⟩])
  .ret)
  .skip)))
  (.seq
  (.ops [] [
  ⟨(some 13), (.op (.mv (.t 0))), none⟩,
  ⟨(some 14), (.call (.k (.func (.func 77) #[] #[])) [(.t 13)]), none⟩,
  ⟨(some 15), (.op (.extract (.t 14) 0)), none⟩,
  ⟨(some 16), (.op (.extract (.t 14) 1)), none⟩,
  ⟨(some 2), (.op (.mv (.t 15))), none⟩,
  ⟨(some 3), (.op (.mv (.t 16))), none⟩])
  .ret))),
  [(.t 2), (.t 3)]⟩
theorem r_clock_Text : resolveFn Tryd.prog 63 = some c_clock_Text := by kernel_rfl

def c_lanyardref03_Text : RFn :=
  ⟨17,
  (.seq
  (.ops [] [
  ⟨(some 2), (.op (.mv (.k (.string ⟨#[]⟩)))), none⟩,
  ⟨(some 3), (.op (.mv (.k (.bool false)))), none⟩])
  (.seq
  (.ops [] [
  ⟨(some 7), (.op (.mv (.t 0))), none⟩,
  ⟨(some 8), (.call (.k (.func (.func 78) #[] #[])) [(.t 7)]), none⟩,
  ⟨(some 6), (.op (.mv (.t 8))), none⟩,
  ⟨(some 9), (.op (.extract (.t 6) 0)), none⟩,
  ⟨(some 10), (.op (.extract (.t 6) 1)), none⟩,
  ⟨(some 4), (.op (.mv (.t 9))), none⟩,
  ⟨(some 5), (.op (.mv (.t 10))), none⟩])
  (.seq
  (.seq
  (.ops [] [
  ⟨(some 11), (.op (.mv (.t 5))), none⟩])
  (.cond (.t 11)
  (.seq
  (.ops [] [
  ⟨(some 12), (.op (.mv (.t 4))), none⟩,
  ⟨(some 2), (.op (.mv (.t 12))), none⟩,
  ⟨(some 3), (.op (.mv (.k (.bool true)))), none⟩])
  .ret)
  .skip))
  (.seq
  (.ops [] [
  ⟨(some 13), (.op (.mv (.t 0))), none⟩,
  ⟨(some 14), (.call (.k (.func (.func 79) #[] #[])) [(.t 13)]), none⟩,
  ⟨(some 15), (.op (.extract (.t 14) 0)), none⟩,
  ⟨(some 16), (.op (.extract (.t 14) 1)), none⟩,
  ⟨(some 2), (.op (.mv (.t 15))), none⟩,
  ⟨(some 3), (.op (.mv (.t 16))), none⟩])
  .ret)))),
  [(.t 2), (.t 3)]⟩
def c_lanyardref03_Read : RFn :=
  ⟨76,
  (.seq
  (.ops [] [
  ⟨(some 4), (.op (.mv (.k (.int .i64 0)))), none⟩,
  ⟨(some 5), (.op (.mv (.k (.bool false)))), none⟩])
  (.seq
  (.seq
  (.ops [] [
  ⟨(some 8), (.op (.mv (.t 1))), none⟩,
  ⟨(some 9), (.op (.mv (.t 8))), none⟩,
  ⟨(some 10), (.op (.mv (.t 0))), (some (9, true))⟩,
  ⟨(some 11), (.op (.lenStr (.t 10))), (some (9, true))⟩,
  ⟨(some 12), (.op (.bin .neq (.t 11) (.k (.int .i64 15)))), (some (9, true))⟩,
  ⟨(some 13), (.op (.pick (.t 9) (.t 12) (.k (.bool false)))), none⟩,
  ⟨(some 14), (.op (.mv (.t 13))), none⟩,
  ⟨(some 15), (.op (.mv (.t 1))), (some (14, false))⟩,
  ⟨(some 16), (.op (.un .not (.t 15))), (some (14, false))⟩,
  ⟨(some 17), (.op (.mv (.t 16))), (some (14, false))⟩,
  ⟨(some 18), (.op (.mv (.t 0))), (some (17, true))⟩,
  ⟨(some 19), (.op (.lenStr (.t 18))), (some (17, true))⟩,
  ⟨(some 20), (.op (.bin .neq (.t 19) (.k (.int .i64 13)))), (some (17, true))⟩,
  ⟨(some 21), (.op (.pick (.t 17) (.t 20) (.k (.bool false)))), (some (14, false))⟩,
  ⟨(some 22), (.op (.pick (.t 14) (.k (.bool true)) (.t 21))), none⟩,
  ⟨(some 23), (.op (.mv (.t 22))), none⟩,
  ⟨(some 24), (.op (.mv (.t 0))), (some (23, false))⟩,
  ⟨(some 25), (.op (.mv (.t 0))), (some (23, false))⟩,
  ⟨(some 26), (.op (.lenStr (.t 25))), (some (23, false))⟩,
  ⟨(some 27), (.op (.bin .sub (.t 26) (.k (.int .i64 1)))), (some (23, false))⟩,
  ⟨(some 28), (.op (.ixStr (.t 24) (.t 27))), (some (23, false))⟩,
  ⟨(some 29), (.op (.bin .neq (.t 28) (.k (.int .u8 90)))), (some (23, false))⟩,
  ⟨(some 30), (.op (.pick (.t 23) (.k (.bool true)) (.t 29))), none⟩])
  (.cond (.t 30)
  (.seq
  (.ops [] [
  ⟨(some 4), (.op (.mv (.k (.int .i64 0)))), none⟩,
  ⟨(some 5), (.op (.mv (.k (.bool false)))), none⟩])
  .ret)
  .skip))
  (.seq
  (.ops [] [
  ⟨(some 6), (.op (.mv (.k (.int .i64 2)))), none⟩])
  (.seq
  (.ops [] [
  ⟨(some 31), (.op (.mv (.t 0))), none⟩,
  ⟨(some 32), (.call (.k (.func (.func 81) #[] #[])) [(.t 31), (.k (.int .i64 0))]), none⟩,
  ⟨(some 7), (.op (.mv (.t 32))), none⟩])
  (.seq
  (.seq
  (.ops [] [
  ⟨(some 33), (.op (.mv (.t 1))), none⟩])
  (.cond (.t 33)
  (.seq
  (.seq
  (.ops [] [
  ⟨(some 34), (.op (.mv (.t 7))), none⟩,
  ⟨(some 35), (.op (.bin .eql (.t 34) (.k (.int .i64 999)))), none⟩,
  ⟨(some 36), (.op (.mv (.t 35))), none⟩,
  ⟨(some 37), (.op (.mv (.t 0))), (some (36, false))⟩,
  ⟨(some 38), (.call (.k (.func (.func 81) #[] #[])) [(.t 37), (.k (.int .i64 2))]), (some (36, false))⟩,
  ⟨(some 39), (.op (.bin .eql (.t 38) (.k (.int .i64 999)))), (some (36, false))⟩,
  ⟨(some 40), (.op (.pick (.t 36) (.k (.bool true)) (.t 39))), none⟩])
  (.cond (.t 40)
  (.seq
  (.ops [] [
  ⟨(some 4), (.op (.mv (.k (.int .i64 0)))), none⟩,
  ⟨(some 5), (.op (.mv (.k (.bool false)))), none⟩])
  .ret)
  .skip))
  (.seq
  (.ops [] [
  ⟨(some 41), (.op (.mv (.t 7))), none⟩,
  ⟨(some 42), (.op (.bin .mul (.t 41) (.k (.int .i64 100)))), none⟩,
  ⟨(some 43), (.op (.mv (.t 0))), none⟩,
  ⟨(some 44), (.call (.k (.func (.func 81) #[] #[])) [(.t 43), (.k (.int .i64 2))]), none⟩,
  ⟨(some 45), (.op (.bin .add (.t 42) (.t 44))), none⟩,
  ⟨(some 7), (.op (.mv (.t 45))), none⟩])
  (.ops [] [
  ⟨(some 6), (.op (.mv (.k (.int .i64 4)))), none⟩])))
  (.seq
  (.ops [] [
  ⟨(some 46), (.op (.mv (.t 7))), none⟩,
  ⟨(some 47), (.op (.bin .lss (.t 46) (.k (.int .i64 50)))), none⟩])
  (.cond (.t 47)
  (.ops [] [
  ⟨(some 48), (.op (.mv (.t 7))), none⟩,
  ⟨(some 49), (.op (.bin .add (.t 48) (.k (.int .i64 2000)))), none⟩,
  ⟨(some 7), (.op (.mv (.t 49))), none⟩])
  (.ops [] [
  ⟨(some 50), (.op (.mv (.t 7))), none⟩,
  ⟨(some 51), (.op (.bin .add (.t 50) (.k (.int .i64 1900)))), none⟩,
  ⟨(some 7), (.op (.mv (.t 51))), none⟩])))))
  (.seq
  (.ops [] [
  ⟨(some 52), (.op (.mv (.t 7))), none⟩,
  ⟨(some 53), (.op (.mv (.t 0))), none⟩,
  ⟨(some 54), (.op (.mv (.t 6))), none⟩,
  ⟨(some 55), (.call (.k (.func (.func 81) #[] #[])) [(.t 53), (.t 54)]), none⟩,
  ⟨(some 56), (.op (.mv (.t 0))), none⟩,
  ⟨(some 57), (.op (.mv (.t 6))), none⟩,
  ⟨(some 58), (.op (.bin .add (.t 57) (.k (.int .i64 2)))), none⟩,
  ⟨(some 59), (.call (.k (.func (.func 81) #[] #[])) [(.t 56), (.t 58)]), none⟩,
  ⟨(some 60), (.op (.mv (.t 0))), none⟩,
  ⟨(some 61), (.op (.mv (.t 6))), none⟩,
  ⟨(some 62), (.op (.bin .add (.t 61) (.k (.int .i64 4)))), none⟩,
  ⟨(some 63), (.call (.k (.func (.func 81) #[] #[])) [(.t 60), (.t 62)]), none⟩,
  ⟨(some 64), (.op (.mv (.t 0))), none⟩,
  ⟨(some 65), (.op (.mv (.t 6))), none⟩,
  ⟨(some 66), (.op (.bin .add (.t 65) (.k (.int .i64 6)))), none⟩,
  ⟨(some 67), (.call (.k (.func (.func 81) #[] #[])) [(.t 64), (.t 66)]), none⟩,
  ⟨(some 68), (.op (.mv (.t 0))), none⟩,
  ⟨(some 69), (.op (.mv (.t 6))), none⟩,
  ⟨(some 70), (.op (.bin .add (.t 69) (.k (.int .i64 8)))), none⟩,
  ⟨(some 71), (.call (.k (.func (.func 81) #[] #[])) [(.t 68), (.t 70)]), none⟩,
  ⟨(some 72), (.op (.build [(.int .i64 0), (.int .i64 0), (.int .i64 0), (.int .i64 0), (.int .i64 0), (.int .i64 0)] [(0, (1, (.t 52))), (1, (1, (.t 55))), (2, (1, (.t 59))), (3, (1, (.t 63))), (4, (1, (.t 67))), (5, (1, (.t 71)))])), none⟩,
  ⟨(some 73), (.call (.k (.func (.func 82) #[] #[])) [(.t 72)]), none⟩,
  ⟨(some 74), (.op (.extract (.t 73) 0)), none⟩,
  ⟨(some 75), (.op (.extract (.t 73) 1)), none⟩,
  ⟨(some 4), (.op (.mv (.t 74))), none⟩,
  ⟨(some 5), (.op (.mv (.t 75))), none⟩])
  .ret)))))),
  [(.t 4), (.t 5)]⟩
def c_clock_within : RFn :=
  ⟨15,
  (.seq
  (.ops [] [
  ⟨(some 6), (.op (.mv (.k (.bool false)))), none⟩])
  (.seq
  (.ops [] [
  ⟨(some 7), (.op (.mv (.t 0))), none⟩,
  ⟨(some 8), (.op (.mv (.t 1))), none⟩,
  ⟨(some 9), (.op (.bin .geq (.t 7) (.t 8))), none⟩,
  ⟨(some 10), (.op (.mv (.t 9))), none⟩,
  ⟨(some 11), (.op (.mv (.t 0))), (some (10, true))⟩,
  ⟨(some 12), (.op (.mv (.t 2))), (some (10, true))⟩,
  ⟨(some 13), (.op (.bin .leq (.t 11) (.t 12))), (some (10, true))⟩,
  ⟨(some 14), (.op (.pick (.t 10) (.t 13) (.k (.bool false)))), none⟩,
  ⟨(some 6), (.op (.mv (.t 14))), none⟩])
  .ret)),
  [(.t 6)]⟩
theorem r_clock_within : resolveFn Tryd.prog 91 = some c_clock_within := by kernel_rfl

def c_clock_last : RFn :=
  ⟨26,
  (.seq
  (.ops [] [
  ⟨(some 4), (.op (.mv (.k (.int .i64 0)))), none⟩])
  (.seq
  (.seq
  (.ops [] [
  ⟨(some 5), (.op (.mv (.t 1))), none⟩,
  ⟨(some 6), (.op (.bin .eql (.t 5) (.k (.int .i64 2)))), none⟩,
  ⟨(some 7), (.op (.mv (.t 6))), none⟩,
  ⟨(some 8), (.op (.mv (.t 0))), (some (7, true))⟩,
  ⟨(some 9), (.op (.bin .rem (.t 8) (.k (.int .i64 4)))), (some (7, true))⟩,
  ⟨(some 10), (.op (.bin .eql (.t 9) (.k (.int .i64 0)))), (some (7, true))⟩,
  ⟨(some 11), (.op (.mv (.t 10))), (some (7, true))⟩,
  ⟨(some 12), (.op (.mv (.t 0))), (some (11, true))⟩,
  ⟨(some 13), (.op (.bin .rem (.t 12) (.k (.int .i64 100)))), (some (11, true))⟩,
  ⟨(some 14), (.op (.bin .neq (.t 13) (.k (.int .i64 0)))), (some (11, true))⟩,
  ⟨(some 15), (.op (.pick (.t 11) (.t 14) (.k (.bool false)))), (some (7, true))⟩,
  ⟨(some 16), (.op (.mv (.t 15))), (some (7, true))⟩,
  ⟨(some 17), (.op (.mv (.t 0))), (some (16, false))⟩,
  ⟨(some 18), (.op (.bin .rem (.t 17) (.k (.int .i64 400)))), (some (16, false))⟩,
  ⟨(some 19), (.op (.bin .eql (.t 18) (.k (.int .i64 0)))), (some (16, false))⟩,
  ⟨(some 20), (.op (.pick (.t 16) (.k (.bool true)) (.t 19))), (some (7, true))⟩,
  ⟨(some 21), (.op (.pick (.t 7) (.t 20) (.k (.bool false)))), none⟩])
  (.cond (.t 21)
  (.seq
  (.ops [] [
  ⟨(some 4), (.op (.mv (.k (.int .i64 29)))), none⟩])
  .ret)
  .skip))
  (.seq
  (.ops [] [
  ⟨(some 22), (.op (.build [(.int .i64 0), (.int .i64 0), (.int .i64 0), (.int .i64 0), (.int .i64 0), (.int .i64 0), (.int .i64 0), (.int .i64 0), (.int .i64 0), (.int .i64 0), (.int .i64 0), (.int .i64 0)] [(0, (1, (.k (.int .i64 31)))), (1, (1, (.k (.int .i64 28)))), (2, (1, (.k (.int .i64 31)))), (3, (1, (.k (.int .i64 30)))), (4, (1, (.k (.int .i64 31)))), (5, (1, (.k (.int .i64 30)))), (6, (1, (.k (.int .i64 31)))), (7, (1, (.k (.int .i64 31)))), (8, (1, (.k (.int .i64 30)))), (9, (1, (.k (.int .i64 31)))), (10, (1, (.k (.int .i64 30)))), (11, (1, (.k (.int .i64 31))))])), none⟩,
  ⟨(some 23), (.op (.mv (.t 1))), none⟩,
  ⟨(some 24), (.op (.bin .sub (.t 23) (.k (.int .i64 1)))), none⟩,
  ⟨(some 25), (.op (.ixArr 12 (.t 22) (.t 24))), none⟩,
  ⟨(some 4), (.op (.mv (.t 25))), none⟩])
  .ret))),
  [(.t 4)]⟩
theorem r_clock_last : resolveFn Tryd.prog 92 = some c_clock_last := by kernel_rfl

def c_lanyardref03_right : RFn :=
  ⟨64,
  (.seq
  (.ops [] [
  ⟨(some 1), (.op (.box (.t 0))), none⟩,
  ⟨(some 2), (.op (.mv (.k (.bool false)))), none⟩])
  (.seq
  (.seq
  (.ops [] [
  ⟨(some 3), (.op (.ixAddrA 6 1 (.t 1) (.k (.int .i64 0)))), none⟩,
  ⟨(some 4), (.op (.load1 (.t 3))), none⟩,
  ⟨(some 5), (.op (.bin .lss (.t 4) (.k (.int .i64 1950)))), none⟩,
  ⟨(some 6), (.op (.mv (.t 5))), none⟩,
  ⟨(some 7), (.op (.ixAddrA 6 1 (.t 1) (.k (.int .i64 0)))), (some (6, false))⟩,
  ⟨(some 8), (.op (.load1 (.t 7))), (some (6, false))⟩,
  ⟨(some 9), (.op (.bin .gtr (.t 8) (.k (.int .i64 2199)))), (some (6, false))⟩,
  ⟨(some 10), (.op (.pick (.t 6) (.k (.bool true)) (.t 9))), none⟩,
  ⟨(some 11), (.op (.mv (.t 10))), none⟩,
  ⟨(some 12), (.op (.ixAddrA 6 1 (.t 1) (.k (.int .i64 1)))), (some (11, false))⟩,
  ⟨(some 13), (.op (.load1 (.t 12))), (some (11, false))⟩,
  ⟨(some 14), (.op (.bin .lss (.t 13) (.k (.int .i64 1)))), (some (11, false))⟩,
  ⟨(some 15), (.op (.pick (.t 11) (.k (.bool true)) (.t 14))), none⟩,
  ⟨(some 16), (.op (.mv (.t 15))), none⟩,
  ⟨(some 17), (.op (.ixAddrA 6 1 (.t 1) (.k (.int .i64 1)))), (some (16, false))⟩,
  ⟨(some 18), (.op (.load1 (.t 17))), (some (16, false))⟩,
  ⟨(some 19), (.op (.bin .gtr (.t 18) (.k (.int .i64 12)))), (some (16, false))⟩,
  ⟨(some 20), (.op (.pick (.t 16) (.k (.bool true)) (.t 19))), none⟩])
  (.cond (.t 20)
  (.seq
  (.ops [] [
  ⟨(some 2), (.op (.mv (.k (.bool false)))), none⟩])
  .ret)
  .skip))
  (.seq
  (.ops [
  ⟨(some 21), (.op (.ixAddrA 6 1 (.t 1) (.k (.int .i64 2)))), none⟩,
  ⟨(some 22), (.op (.load1 (.t 21))), none⟩,
  ⟨(some 23), (.op (.bin .geq (.t 22) (.k (.int .i64 1)))), none⟩,
  ⟨(some 24), (.op (.mv (.t 23))), none⟩,
  ⟨(some 25), (.op (.ixAddrA 6 1 (.t 1) (.k (.int .i64 2)))), (some (24, true))⟩,
  ⟨(some 26), (.op (.load1 (.t 25))), (some (24, true))⟩,
  ⟨(some 27), (.op (.ixAddrA 6 1 (.t 1) (.k (.int .i64 0)))), (some (24, true))⟩,
  ⟨(some 28), (.op (.load1 (.t 27))), (some (24, true))⟩,
  ⟨(some 29), (.op (.ixAddrA 6 1 (.t 1) (.k (.int .i64 1)))), (some (24, true))⟩,
  ⟨(some 30), (.op (.load1 (.t 29))), (some (24, true))⟩,
  ⟨(some 31), (.call (.k (.func (.func 97) #[] #[])) [(.t 28), (.t 30)]), (some (24, true))⟩] [
  ⟨(some 32), (.op (.bin .leq (.t 26) (.t 31))), (some (24, true))⟩,
  ⟨(some 33), (.op (.pick (.t 24) (.t 32) (.k (.bool false)))), none⟩,
  ⟨(some 34), (.op (.mv (.t 33))), none⟩,
  ⟨(some 35), (.op (.ixAddrA 6 1 (.t 1) (.k (.int .i64 3)))), (some (34, true))⟩,
  ⟨(some 36), (.op (.load1 (.t 35))), (some (34, true))⟩,
  ⟨(some 37), (.op (.bin .geq (.t 36) (.k (.int .i64 0)))), (some (34, true))⟩,
  ⟨(some 38), (.op (.pick (.t 34) (.t 37) (.k (.bool false)))), none⟩,
  ⟨(some 39), (.op (.mv (.t 38))), none⟩,
  ⟨(some 40), (.op (.ixAddrA 6 1 (.t 1) (.k (.int .i64 3)))), (some (39, true))⟩,
  ⟨(some 41), (.op (.load1 (.t 40))), (some (39, true))⟩,
  ⟨(some 42), (.op (.bin .lss (.t 41) (.k (.int .i64 24)))), (some (39, true))⟩,
  ⟨(some 43), (.op (.pick (.t 39) (.t 42) (.k (.bool false)))), none⟩,
  ⟨(some 44), (.op (.mv (.t 43))), none⟩,
  ⟨(some 45), (.op (.ixAddrA 6 1 (.t 1) (.k (.int .i64 4)))), (some (44, true))⟩,
  ⟨(some 46), (.op (.load1 (.t 45))), (some (44, true))⟩,
  ⟨(some 47), (.op (.bin .geq (.t 46) (.k (.int .i64 0)))), (some (44, true))⟩,
  ⟨(some 48), (.op (.pick (.t 44) (.t 47) (.k (.bool false)))), none⟩,
  ⟨(some 49), (.op (.mv (.t 48))), none⟩,
  ⟨(some 50), (.op (.ixAddrA 6 1 (.t 1) (.k (.int .i64 4)))), (some (49, true))⟩,
  ⟨(some 51), (.op (.load1 (.t 50))), (some (49, true))⟩,
  ⟨(some 52), (.op (.bin .lss (.t 51) (.k (.int .i64 60)))), (some (49, true))⟩,
  ⟨(some 53), (.op (.pick (.t 49) (.t 52) (.k (.bool false)))), none⟩,
  ⟨(some 54), (.op (.mv (.t 53))), none⟩,
  ⟨(some 55), (.op (.ixAddrA 6 1 (.t 1) (.k (.int .i64 5)))), (some (54, true))⟩,
  ⟨(some 56), (.op (.load1 (.t 55))), (some (54, true))⟩,
  ⟨(some 57), (.op (.bin .geq (.t 56) (.k (.int .i64 0)))), (some (54, true))⟩,
  ⟨(some 58), (.op (.pick (.t 54) (.t 57) (.k (.bool false)))), none⟩,
  ⟨(some 59), (.op (.mv (.t 58))), none⟩,
  ⟨(some 60), (.op (.ixAddrA 6 1 (.t 1) (.k (.int .i64 5)))), (some (59, true))⟩,
  ⟨(some 61), (.op (.load1 (.t 60))), (some (59, true))⟩,
  ⟨(some 62), (.op (.bin .lss (.t 61) (.k (.int .i64 60)))), (some (59, true))⟩,
  ⟨(some 63), (.op (.pick (.t 59) (.t 62) (.k (.bool false)))), none⟩,
  ⟨(some 2), (.op (.mv (.t 63))), none⟩])
  .ret))),
  [(.t 2)]⟩
def c_lanyardref03_days : RFn :=
  ⟨34,
  (.seq
  (.ops [] [
  ⟨(some 6), (.op (.mv (.k (.int .i64 0)))), none⟩])
  (.seq
  (.ops [] [
  ⟨(some 10), (.op (.mv (.t 2))), none⟩,
  ⟨(some 11), (.op (.bin .sub (.t 10) (.k (.int .i64 1)))), none⟩,
  ⟨(some 7), (.op (.mv (.t 11))), none⟩])
  (.seq
  (.seq
  (.ops [] [
  ⟨(some 8), (.op (.mv (.k (.int .i64 1950)))), none⟩])
  (.block 0
  (.loop
  (.seq
  (.seq
  (.ops [] [
  ⟨(some 12), (.op (.mv (.t 8))), none⟩,
  ⟨(some 13), (.op (.mv (.t 0))), none⟩,
  ⟨(some 14), (.op (.bin .lss (.t 12) (.t 13))), none⟩])
  (.cond (.t 14)
  .skip
  (.exit 0)))
  (.seq
  (.block 1
  (.seq
  (.ops [] [
  ⟨(some 17), (.op (.mv (.t 7))), none⟩,
  ⟨(some 18), (.op (.bin .add (.t 17) (.k (.int .i64 365)))), none⟩,
  ⟨(some 7), (.op (.mv (.t 18))), none⟩])
  (.seq
  (.ops [] [
  ⟨(some 19), (.op (.mv (.t 8))), none⟩,
  ⟨(some 20), (.call (.k (.func (.func 98) #[] #[])) [(.t 19)]), none⟩])
  (.cond (.t 20)
  (.ops [] [
  ⟨(some 21), (.op (.mv (.t 7))), none⟩,
  ⟨(some 22), (.op (.bin .add (.t 21) (.k (.int .i64 1)))), none⟩,
  ⟨(some 7), (.op (.mv (.t 22))), none⟩])
  .skip))))
  (.ops [] [
  ⟨(some 15), (.op (.mv (.t 8))), none⟩,
  ⟨(some 16), (.op (.bin .add (.t 15) (.k (.int .i64 1)))), none⟩,
  ⟨(some 8), (.op (.mv (.t 16))), none⟩]))))))
  (.seq
  (.seq
  (.ops [] [
  ⟨(some 9), (.op (.mv (.k (.int .i64 1)))), none⟩])
  (.block 2
  (.loop
  (.seq
  (.seq
  (.ops [] [
  ⟨(some 23), (.op (.mv (.t 9))), none⟩,
  ⟨(some 24), (.op (.mv (.t 1))), none⟩,
  ⟨(some 25), (.op (.bin .lss (.t 23) (.t 24))), none⟩])
  (.cond (.t 25)
  .skip
  (.exit 2)))
  (.seq
  (.block 3
  (.ops [] [
  ⟨(some 28), (.op (.mv (.t 7))), none⟩,
  ⟨(some 29), (.op (.mv (.t 0))), none⟩,
  ⟨(some 30), (.op (.mv (.t 9))), none⟩,
  ⟨(some 31), (.call (.k (.func (.func 97) #[] #[])) [(.t 29), (.t 30)]), none⟩,
  ⟨(some 32), (.op (.bin .add (.t 28) (.t 31))), none⟩,
  ⟨(some 7), (.op (.mv (.t 32))), none⟩]))
  (.ops [] [
  ⟨(some 26), (.op (.mv (.t 9))), none⟩,
  ⟨(some 27), (.op (.bin .add (.t 26) (.k (.int .i64 1)))), none⟩,
  ⟨(some 9), (.op (.mv (.t 27))), none⟩]))))))
  (.seq
  (.ops [] [
  ⟨(some 33), (.op (.mv (.t 7))), none⟩,
  ⟨(some 6), (.op (.mv (.t 33))), none⟩])
  .ret))))),
  [(.t 6)]⟩
def c_lanyardref03_last : RFn :=
  ⟨16,
  (.seq
  (.ops [] [
  ⟨(some 4), (.op (.mv (.k (.int .i64 0)))), none⟩])
  (.seq
  (.seq
  (.ops [] [
  ⟨(some 5), (.op (.mv (.t 1))), none⟩,
  ⟨(some 6), (.op (.bin .eql (.t 5) (.k (.int .i64 2)))), none⟩,
  ⟨(some 7), (.op (.mv (.t 6))), none⟩,
  ⟨(some 8), (.op (.mv (.t 0))), (some (7, true))⟩,
  ⟨(some 9), (.call (.k (.func (.func 98) #[] #[])) [(.t 8)]), (some (7, true))⟩,
  ⟨(some 10), (.op (.pick (.t 7) (.t 9) (.k (.bool false)))), none⟩])
  (.cond (.t 10)
  (.seq
  (.ops [] [
  ⟨(some 4), (.op (.mv (.k (.int .i64 29)))), none⟩])
  .ret)
  .skip))
  (.seq
  (.ops [] [
  ⟨(some 11), (.op (.mkSl 12 [(.int .i64 0), (.int .i64 0), (.int .i64 0), (.int .i64 0), (.int .i64 0), (.int .i64 0), (.int .i64 0), (.int .i64 0), (.int .i64 0), (.int .i64 0), (.int .i64 0), (.int .i64 0)] [(0, (1, (.k (.int .i64 31)))), (1, (1, (.k (.int .i64 28)))), (2, (1, (.k (.int .i64 31)))), (3, (1, (.k (.int .i64 30)))), (4, (1, (.k (.int .i64 31)))), (5, (1, (.k (.int .i64 30)))), (6, (1, (.k (.int .i64 31)))), (7, (1, (.k (.int .i64 31)))), (8, (1, (.k (.int .i64 30)))), (9, (1, (.k (.int .i64 31)))), (10, (1, (.k (.int .i64 30)))), (11, (1, (.k (.int .i64 31))))])), none⟩,
  ⟨(some 12), (.op (.mv (.t 1))), none⟩,
  ⟨(some 13), (.op (.bin .sub (.t 12) (.k (.int .i64 1)))), none⟩,
  ⟨(some 14), (.op (.ixAddr 1 (.t 11) (.t 13))), none⟩,
  ⟨(some 15), (.op (.load1 (.t 14))), none⟩,
  ⟨(some 4), (.op (.mv (.t 15))), none⟩])
  .ret))),
  [(.t 4)]⟩
def c_lanyardref03_two : RFn :=
  ⟨14,
  (.seq
  (.ops [] [
  ⟨(some 2), (.op (.mv (.k (.string ⟨#[]⟩)))), none⟩])
  (.seq
  (.ops [] [
  ⟨(some 3), (.op (.mv (.t 0))), none⟩,
  ⟨(some 4), (.op (.bin .quo (.t 3) (.k (.int .i64 10)))), none⟩,
  ⟨(some 5), (.op (.bin .rem (.t 4) (.k (.int .i64 10)))), none⟩,
  ⟨(some 6), (.op (.bin .add (.k (.int .i64 48)) (.t 5))), none⟩,
  ⟨(some 7), (.op (.toInt .u8 (.t 6))), none⟩,
  ⟨(some 8), (.op (.mv (.t 0))), none⟩,
  ⟨(some 9), (.op (.bin .rem (.t 8) (.k (.int .i64 10)))), none⟩,
  ⟨(some 10), (.op (.bin .add (.k (.int .i64 48)) (.t 9))), none⟩,
  ⟨(some 11), (.op (.toInt .u8 (.t 10))), none⟩,
  ⟨(some 12), (.op (.mkSl 2 [(.int .u8 0), (.int .u8 0)] [(0, (1, (.t 7))), (1, (1, (.t 11)))])), none⟩,
  ⟨(some 13), (.op (.b2s (.t 12))), none⟩,
  ⟨(some 2), (.op (.mv (.t 13))), none⟩])
  .ret)),
  [(.t 2)]⟩
def c_lanyardref03_behind : RFn :=
  ⟨23,
  (.seq
  (.ops [] [
  ⟨(some 1), (.op (.box (.t 0))), none⟩,
  ⟨(some 2), (.op (.mv (.k (.string ⟨#[]⟩)))), none⟩])
  (.seq
  (.ops [
  ⟨(some 3), (.op (.ixAddrA 6 1 (.t 1) (.k (.int .i64 1)))), none⟩,
  ⟨(some 4), (.op (.load1 (.t 3))), none⟩,
  ⟨(some 5), (.call (.k (.func (.func 89) #[] #[])) [(.t 4)]), none⟩,
  ⟨(some 6), (.op (.ixAddrA 6 1 (.t 1) (.k (.int .i64 2)))), none⟩,
  ⟨(some 7), (.op (.load1 (.t 6))), none⟩,
  ⟨(some 8), (.call (.k (.func (.func 89) #[] #[])) [(.t 7)]), none⟩,
  ⟨(some 9), (.op (.bin .add (.t 5) (.t 8))), none⟩,
  ⟨(some 10), (.op (.ixAddrA 6 1 (.t 1) (.k (.int .i64 3)))), none⟩,
  ⟨(some 11), (.op (.load1 (.t 10))), none⟩,
  ⟨(some 12), (.call (.k (.func (.func 89) #[] #[])) [(.t 11)]), none⟩,
  ⟨(some 13), (.op (.bin .add (.t 9) (.t 12))), none⟩,
  ⟨(some 14), (.op (.ixAddrA 6 1 (.t 1) (.k (.int .i64 4)))), none⟩,
  ⟨(some 15), (.op (.load1 (.t 14))), none⟩,
  ⟨(some 16), (.call (.k (.func (.func 89) #[] #[])) [(.t 15)]), none⟩,
  ⟨(some 17), (.op (.bin .add (.t 13) (.t 16))), none⟩,
  ⟨(some 18), (.op (.ixAddrA 6 1 (.t 1) (.k (.int .i64 5)))), none⟩,
  ⟨(some 19), (.op (.load1 (.t 18))), none⟩,
  ⟨(some 20), (.call (.k (.func (.func 89) #[] #[])) [(.t 19)]), none⟩] [
  ⟨(some 21), (.op (.bin .add (.t 17) (.t 20))), none⟩,
  ⟨(some 22), (.op (.bin .add (.t 21) (.k (.string ⟨#[90]⟩)))), none⟩,
  ⟨(some 2), (.op (.mv (.t 22))), none⟩])
  .ret)),
  [(.t 2)]⟩
def c_lanyardref03_part : RFn :=
  ⟨42,
  (.seq
  (.ops [] [
  ⟨(some 4), (.op (.mv (.k (.int .i64 0)))), none⟩])
  (.seq
  (.seq
  (.ops [] [
  ⟨(some 5), (.op (.mv (.t 0))), none⟩,
  ⟨(some 6), (.op (.mv (.t 1))), none⟩,
  ⟨(some 7), (.op (.ixStr (.t 5) (.t 6))), none⟩,
  ⟨(some 8), (.op (.bin .lss (.t 7) (.k (.int .u8 48)))), none⟩,
  ⟨(some 9), (.op (.mv (.t 8))), none⟩,
  ⟨(some 10), (.op (.mv (.t 0))), (some (9, false))⟩,
  ⟨(some 11), (.op (.mv (.t 1))), (some (9, false))⟩,
  ⟨(some 12), (.op (.ixStr (.t 10) (.t 11))), (some (9, false))⟩,
  ⟨(some 13), (.op (.bin .gtr (.t 12) (.k (.int .u8 57)))), (some (9, false))⟩,
  ⟨(some 14), (.op (.pick (.t 9) (.k (.bool true)) (.t 13))), none⟩,
  ⟨(some 15), (.op (.mv (.t 14))), none⟩,
  ⟨(some 16), (.op (.mv (.t 0))), (some (15, false))⟩,
  ⟨(some 17), (.op (.mv (.t 1))), (some (15, false))⟩,
  ⟨(some 18), (.op (.bin .add (.t 17) (.k (.int .i64 1)))), (some (15, false))⟩,
  ⟨(some 19), (.op (.ixStr (.t 16) (.t 18))), (some (15, false))⟩,
  ⟨(some 20), (.op (.bin .lss (.t 19) (.k (.int .u8 48)))), (some (15, false))⟩,
  ⟨(some 21), (.op (.pick (.t 15) (.k (.bool true)) (.t 20))), none⟩,
  ⟨(some 22), (.op (.mv (.t 21))), none⟩,
  ⟨(some 23), (.op (.mv (.t 0))), (some (22, false))⟩,
  ⟨(some 24), (.op (.mv (.t 1))), (some (22, false))⟩,
  ⟨(some 25), (.op (.bin .add (.t 24) (.k (.int .i64 1)))), (some (22, false))⟩,
  ⟨(some 26), (.op (.ixStr (.t 23) (.t 25))), (some (22, false))⟩,
  ⟨(some 27), (.op (.bin .gtr (.t 26) (.k (.int .u8 57)))), (some (22, false))⟩,
  ⟨(some 28), (.op (.pick (.t 22) (.k (.bool true)) (.t 27))), none⟩])
  (.cond (.t 28)
  (.seq
  (.ops [] [
  ⟨(some 4), (.op (.mv (.k (.int .i64 999)))), none⟩])
  .ret)
  .skip))
  (.seq
  (.ops [
  ⟨(some 29), (.op (.mv (.t 0))), none⟩,
  ⟨(some 30), (.op (.mv (.t 1))), none⟩,
  ⟨(some 31), (.op (.ixStr (.t 29) (.t 30))), none⟩,
  ⟨(some 32), (.op (.bin .sub (.t 31) (.k (.int .u8 48)))), none⟩,
  ⟨(some 33), (.op (.toInt .i64 (.t 32))), none⟩,
  ⟨(some 34), (.op (.bin .mul (.t 33) (.k (.int .i64 10)))), none⟩,
  ⟨(some 35), (.op (.mv (.t 0))), none⟩,
  ⟨(some 36), (.op (.mv (.t 1))), none⟩,
  ⟨(some 37), (.op (.bin .add (.t 36) (.k (.int .i64 1)))), none⟩,
  ⟨(some 38), (.op (.ixStr (.t 35) (.t 37))), none⟩,
  ⟨(some 39), (.op (.bin .sub (.t 38) (.k (.int .u8 48)))), none⟩,
  ⟨(some 40), (.op (.toInt .i64 (.t 39))), none⟩] [
  ⟨(some 41), (.op (.bin .add (.t 34) (.t 40))), none⟩,
  ⟨(some 4), (.op (.mv (.t 41))), none⟩])
  .ret))),
  [(.t 4)]⟩
def c_lanyardref03_leap : RFn :=
  ⟨16,
  (.seq
  (.ops [] [
  ⟨(some 2), (.op (.mv (.k (.bool false)))), none⟩])
  (.seq
  (.ops [] [
  ⟨(some 3), (.op (.mv (.t 0))), none⟩,
  ⟨(some 4), (.op (.bin .rem (.t 3) (.k (.int .i64 4)))), none⟩,
  ⟨(some 5), (.op (.bin .eql (.t 4) (.k (.int .i64 0)))), none⟩,
  ⟨(some 6), (.op (.mv (.t 5))), none⟩,
  ⟨(some 7), (.op (.mv (.t 0))), (some (6, true))⟩,
  ⟨(some 8), (.op (.bin .rem (.t 7) (.k (.int .i64 100)))), (some (6, true))⟩,
  ⟨(some 9), (.op (.bin .neq (.t 8) (.k (.int .i64 0)))), (some (6, true))⟩,
  ⟨(some 10), (.op (.pick (.t 6) (.t 9) (.k (.bool false)))), none⟩,
  ⟨(some 11), (.op (.mv (.t 10))), none⟩,
  ⟨(some 12), (.op (.mv (.t 0))), (some (11, false))⟩,
  ⟨(some 13), (.op (.bin .rem (.t 12) (.k (.int .i64 400)))), (some (11, false))⟩,
  ⟨(some 14), (.op (.bin .eql (.t 13) (.k (.int .i64 0)))), (some (11, false))⟩,
  ⟨(some 15), (.op (.pick (.t 11) (.k (.bool true)) (.t 14))), none⟩,
  ⟨(some 2), (.op (.mv (.t 15))), none⟩])
  .ret)),
  [(.t 2)]⟩
def d_clock_digits : List (List Nat) := [[], [], [0, 1], [], [3], [2, 2, 0, 1, 2], [4, 5, 0, 1, 2, 3, 4, 5], [6, 0, 1, 2, 3, 4, 5, 6]]
def q_clock_digits : List (Option (List Nat)) := [(some []), none, none, none, none, (some [2]), (some [4]), (some [])]
def c_clock_digits : RFn :=
  ⟨63,
  (.seq
  (.ops [] [
  ⟨(some 2), (.op (.mv (.k (.slice none 0 0)))), none⟩,
  ⟨(some 3), (.op (.mv (.k (.int .i64 0)))), none⟩,
  ⟨(some 4), (.op (.mv (.k (.bool false)))), none⟩])
  (.seq
  (.ops [] [
  ⟨(some 11), (.op (.mv (.t 0))), none⟩,
  ⟨(some 12), (.call (.k (.func (.func 96) #[] #[])) [(.t 11)]), none⟩,
  ⟨(some 10), (.op (.mv (.t 12))), none⟩,
  ⟨(some 13), (.op (.extract (.t 10) 0)), none⟩,
  ⟨(some 14), (.op (.extract (.t 10) 1)), none⟩,
  ⟨(some 5), (.op (.new [(.int .i64 0), (.int .i64 0), (.int .i64 0), (.int .i64 0), (.int .i64 0), (.int .i64 0)])), none⟩,
  ⟨none, (.op (.store 6 (.t 5) (.t 13))), none⟩,
  ⟨(some 6), (.op (.mv (.t 14))), none⟩])
  (.seq
  (.seq
  (.ops [] [
  ⟨(some 15), (.op (.mv (.t 6))), none⟩,
  ⟨(some 16), (.op (.un .not (.t 15))), none⟩])
  (.cond (.t 16)
  (.seq
  (.ops [] [
  ⟨(some 2), (.op (.mv (.k (.slice none 0 0)))), none⟩,
  ⟨(some 3), (.op (.mv (.k (.int .i64 0)))), none⟩,
  ⟨(some 4), (.op (.mv (.k (.bool false)))), none⟩])
  .ret)
  .skip))
  (.seq
  (.ops [] [
  ⟨(some 17), (.op (.ixAddrA 6 1 (.t 5) (.k (.int .i64 0)))), none⟩,
  ⟨(some 18), (.op (.load1 (.t 17))), none⟩,
  ⟨(some 19), (.op (.bin .quo (.t 18) (.k (.int .i64 1000)))), none⟩,
  ⟨(some 20), (.op (.bin .add (.k (.int .i64 48)) (.t 19))), none⟩,
  ⟨(some 21), (.op (.toInt .u8 (.t 20))), none⟩,
  ⟨(some 22), (.op (.ixAddrA 6 1 (.t 5) (.k (.int .i64 0)))), none⟩,
  ⟨(some 23), (.op (.load1 (.t 22))), none⟩,
  ⟨(some 24), (.op (.bin .quo (.t 23) (.k (.int .i64 100)))), none⟩,
  ⟨(some 25), (.op (.bin .rem (.t 24) (.k (.int .i64 10)))), none⟩,
  ⟨(some 26), (.op (.bin .add (.k (.int .i64 48)) (.t 25))), none⟩,
  ⟨(some 27), (.op (.toInt .u8 (.t 26))), none⟩,
  ⟨(some 28), (.op (.ixAddrA 6 1 (.t 5) (.k (.int .i64 0)))), none⟩,
  ⟨(some 29), (.op (.load1 (.t 28))), none⟩,
  ⟨(some 30), (.op (.bin .quo (.t 29) (.k (.int .i64 10)))), none⟩,
  ⟨(some 31), (.op (.bin .rem (.t 30) (.k (.int .i64 10)))), none⟩,
  ⟨(some 32), (.op (.bin .add (.k (.int .i64 48)) (.t 31))), none⟩,
  ⟨(some 33), (.op (.toInt .u8 (.t 32))), none⟩,
  ⟨(some 34), (.op (.ixAddrA 6 1 (.t 5) (.k (.int .i64 0)))), none⟩,
  ⟨(some 35), (.op (.load1 (.t 34))), none⟩,
  ⟨(some 36), (.op (.bin .rem (.t 35) (.k (.int .i64 10)))), none⟩,
  ⟨(some 37), (.op (.bin .add (.k (.int .i64 48)) (.t 36))), none⟩,
  ⟨(some 38), (.op (.toInt .u8 (.t 37))), none⟩,
  ⟨(some 39), (.op (.mkSl 4 [(.int .u8 0), (.int .u8 0), (.int .u8 0), (.int .u8 0)] [(0, (1, (.t 21))), (1, (1, (.t 27))), (2, (1, (.t 33))), (3, (1, (.t 38)))])), none⟩,
  ⟨(some 7), (.op (.mv (.t 39))), none⟩])
  (.seq
  (.seq
  (.ops [] [
  ⟨(some 40), (.op (.slArr 6 1 (.t 5) (some (.k (.int .i64 1))) none none)), none⟩,
  ⟨(some 41), (.op (.lenSl (.t 40))), none⟩,
  ⟨(some 42), (.op (.mv (.k (.int .i64 0)))), none⟩])
  (.block 0
  (.loop
  (.seq
  (.ops [] [
  ⟨(some 43), (.op (.bin .lss (.t 42) (.t 41))), none⟩])
  (.seq
  (.cond (.t 43)
  .skip
  (.exit 0))
  (.seq
  (.block 1
  (.seq
  (.ops [] [
  ⟨(some 44), (.op (.ixAddr 1 (.t 40) (.t 42))), none⟩,
  ⟨(some 45), (.op (.load1 (.t 44))), none⟩,
  ⟨(some 9), (.op (.mv (.t 45))), none⟩])
  (.ops [] [
  ⟨(some 46), (.op (.mv (.t 7))), none⟩,
  ⟨(some 47), (.op (.mv (.t 9))), none⟩,
  ⟨(some 48), (.op (.bin .quo (.t 47) (.k (.int .i64 10)))), none⟩,
  ⟨(some 49), (.op (.bin .add (.k (.int .i64 48)) (.t 48))), none⟩,
  ⟨(some 50), (.op (.toInt .u8 (.t 49))), none⟩,
  ⟨(some 51), (.op (.mv (.t 9))), none⟩,
  ⟨(some 52), (.op (.bin .rem (.t 51) (.k (.int .i64 10)))), none⟩,
  ⟨(some 53), (.op (.bin .add (.k (.int .i64 48)) (.t 52))), none⟩,
  ⟨(some 54), (.op (.toInt .u8 (.t 53))), none⟩,
  ⟨(some 55), (.op (.mkSl 2 [(.int .u8 0), (.int .u8 0)] [(0, (1, (.t 50))), (1, (1, (.t 54)))])), none⟩,
  ⟨(some 56), (.op (.append 1 1 (.t 46) (.t 55))), none⟩,
  ⟨(some 7), (.op (.mv (.t 56))), none⟩])))
  (.ops [] [
  ⟨(some 57), (.op (.bin .add (.t 42) (.k (.int .i64 1)))), none⟩,
  ⟨(some 42), (.op (.mv (.t 57))), none⟩])))))))
  (.seq
  (.tree [
  ⟨(some 58), (.op (.mv (.t 7))), none⟩,
  ⟨(some 59), (.op (.mkSl 1 [(.int .u8 0)] [(0, (1, (.k (.int .u8 90))))])), none⟩,
  ⟨(some 60), (.op (.append 1 1 (.t 58) (.t 59))), none⟩,
  ⟨(some 61), (.op (.ixAddrA 6 1 (.t 5) (.k (.int .i64 0)))), none⟩,
  ⟨(some 62), (.op (.load1 (.t 61))), none⟩,
  ⟨(some 2), (.op (.mv (.t 60))), none⟩,
  ⟨(some 3), (.op (.mv (.t 62))), none⟩,
  ⟨(some 4), (.op (.mv (.k (.bool true)))), none⟩] d_clock_digits q_clock_digits)
  .ret)))))),
  [(.t 2), (.t 3), (.t 4)]⟩
theorem r_clock_digits : resolveFn Tryd.prog 87 [10] = some c_clock_digits := by kernel_rfl

theorem t_clock_digits : nextL d_clock_digits q_clock_digits 0 = [0] ∧ nextL d_clock_digits q_clock_digits 1 = [1, 3] ∧ nextL d_clock_digits q_clock_digits 3 = [2, 3] ∧ nextL d_clock_digits q_clock_digits 7 = [5] ∧ nextL d_clock_digits q_clock_digits 9 = [1, 4] ∧ nextL d_clock_digits q_clock_digits 11 = [2, 4] ∧ nextL d_clock_digits q_clock_digits 15 = [5] ∧ nextL d_clock_digits q_clock_digits 25 = [1] ∧ nextL d_clock_digits q_clock_digits 27 = [2] ∧ nextL d_clock_digits q_clock_digits 31 = [5] ∧ nextL d_clock_digits q_clock_digits 39 = [3] ∧ nextL d_clock_digits q_clock_digits 47 = [4] ∧ nextL d_clock_digits q_clock_digits 63 = [6] ∧ nextL d_clock_digits q_clock_digits 127 = [7] ∧ nextL d_clock_digits q_clock_digits 255 = [] := by decide +kernel

def c_clock_Read : RFn :=
  ⟨105,
  (.seq
  (.ops [] [
  ⟨(some 4), (.op (.mv (.k (.int .i64 0)))), none⟩,
  ⟨(some 5), (.op (.mv (.k (.bool false)))), none⟩])
  (.seq
  (.ops [] [
  ⟨(some 6), (.op (.mv (.k (.int .i64 13)))), none⟩])
  (.seq
  (.seq
  (.ops [] [
  ⟨(some 9), (.op (.mv (.t 1))), none⟩])
  (.cond (.t 9)
  (.ops [] [
  ⟨(some 6), (.op (.mv (.k (.int .i64 15)))), none⟩])
  .skip))
  (.seq
  (.seq
  (.ops [] [
  ⟨(some 10), (.op (.mv (.t 0))), none⟩,
  ⟨(some 11), (.op (.lenStr (.t 10))), none⟩,
  ⟨(some 12), (.op (.mv (.t 6))), none⟩,
  ⟨(some 13), (.op (.bin .neq (.t 11) (.t 12))), none⟩,
  ⟨(some 14), (.op (.mv (.t 13))), none⟩,
  ⟨(some 15), (.op (.mv (.t 0))), (some (14, false))⟩,
  ⟨(some 16), (.op (.mv (.t 6))), (some (14, false))⟩,
  ⟨(some 17), (.op (.bin .sub (.t 16) (.k (.int .i64 1)))), (some (14, false))⟩,
  ⟨(some 18), (.op (.ixStr (.t 15) (.t 17))), (some (14, false))⟩,
  ⟨(some 19), (.op (.bin .neq (.t 18) (.k (.int .u8 90)))), (some (14, false))⟩,
  ⟨(some 20), (.op (.pick (.t 14) (.k (.bool true)) (.t 19))), none⟩])
  (.cond (.t 20)
  (.seq
  (.ops [] [
  ⟨(some 4), (.op (.mv (.k (.int .i64 0)))), none⟩,
  ⟨(some 5), (.op (.mv (.k (.bool false)))), none⟩])
  .ret)
  .skip))
  (.seq
  (.ops [] [
  ⟨(some 21), (.op (.mv (.t 0))), none⟩,
  ⟨(some 22), (.op (.s2b (.t 21))), none⟩,
  ⟨(some 23), (.op (.mv (.t 6))), none⟩,
  ⟨(some 24), (.op (.bin .sub (.t 23) (.k (.int .i64 1)))), none⟩,
  ⟨(some 25), (.op (.mv (.t 6))), none⟩,
  ⟨(some 26), (.op (.bin .sub (.t 25) (.k (.int .i64 1)))), none⟩,
  ⟨(some 27), (.op (.sl 1 (.t 22) none (some (.t 24)) (some (.t 26)))), none⟩,
  ⟨(some 7), (.op (.mv (.t 27))), none⟩])
  (.seq
  (.ops [] [
  ⟨(some 8), (.op (.mv (.k (.slice none 0 0)))), none⟩])
  (.seq
  (.block 0
  (.loop
  (.seq
  (.seq
  (.ops [] [
  ⟨(some 28), (.op (.mv (.t 7))), none⟩,
  ⟨(some 29), (.op (.lenSl (.t 28))), none⟩,
  ⟨(some 30), (.op (.bin .gtr (.t 29) (.k (.int .i64 0)))), none⟩])
  (.cond (.t 30)
  .skip
  (.exit 0)))
  (.seq
  (.block 1
  (.seq
  (.seq
  (.ops [] [
  ⟨(some 33), (.op (.mv (.t 7))), none⟩,
  ⟨(some 34), (.op (.ixAddr 1 (.t 33) (.k (.int .i64 0)))), none⟩,
  ⟨(some 35), (.op (.load1 (.t 34))), none⟩,
  ⟨(some 36), (.op (.bin .lss (.t 35) (.k (.int .u8 48)))), none⟩,
  ⟨(some 37), (.op (.mv (.t 36))), none⟩,
  ⟨(some 38), (.op (.mv (.t 7))), (some (37, false))⟩,
  ⟨(some 39), (.op (.ixAddr 1 (.t 38) (.k (.int .i64 0)))), (some (37, false))⟩,
  ⟨(some 40), (.op (.load1 (.t 39))), (some (37, false))⟩,
  ⟨(some 41), (.op (.bin .gtr (.t 40) (.k (.int .u8 57)))), (some (37, false))⟩,
  ⟨(some 42), (.op (.pick (.t 37) (.k (.bool true)) (.t 41))), none⟩,
  ⟨(some 43), (.op (.mv (.t 42))), none⟩,
  ⟨(some 44), (.op (.mv (.t 7))), (some (43, false))⟩,
  ⟨(some 45), (.op (.ixAddr 1 (.t 44) (.k (.int .i64 1)))), (some (43, false))⟩,
  ⟨(some 46), (.op (.load1 (.t 45))), (some (43, false))⟩,
  ⟨(some 47), (.op (.bin .lss (.t 46) (.k (.int .u8 48)))), (some (43, false))⟩,
  ⟨(some 48), (.op (.pick (.t 43) (.k (.bool true)) (.t 47))), none⟩,
  ⟨(some 49), (.op (.mv (.t 48))), none⟩,
  ⟨(some 50), (.op (.mv (.t 7))), (some (49, false))⟩,
  ⟨(some 51), (.op (.ixAddr 1 (.t 50) (.k (.int .i64 1)))), (some (49, false))⟩,
  ⟨(some 52), (.op (.load1 (.t 51))), (some (49, false))⟩,
  ⟨(some 53), (.op (.bin .gtr (.t 52) (.k (.int .u8 57)))), (some (49, false))⟩,
  ⟨(some 54), (.op (.pick (.t 49) (.k (.bool true)) (.t 53))), none⟩])
  (.cond (.t 54)
  (.seq
  (.ops [] [
  ⟨(some 4), (.op (.mv (.k (.int .i64 0)))), none⟩,
  ⟨(some 5), (.op (.mv (.k (.bool false)))), none⟩])
  .ret)
  .skip))
  (.ops [
  ⟨(some 55), (.op (.mv (.t 8))), none⟩,
  ⟨(some 56), (.op (.mv (.t 7))), none⟩,
  ⟨(some 57), (.op (.ixAddr 1 (.t 56) (.k (.int .i64 0)))), none⟩,
  ⟨(some 58), (.op (.load1 (.t 57))), none⟩,
  ⟨(some 59), (.op (.bin .sub (.t 58) (.k (.int .u8 48)))), none⟩,
  ⟨(some 60), (.op (.toInt .i64 (.t 59))), none⟩,
  ⟨(some 61), (.op (.bin .mul (.t 60) (.k (.int .i64 10)))), none⟩,
  ⟨(some 62), (.op (.mv (.t 7))), none⟩,
  ⟨(some 63), (.op (.ixAddr 1 (.t 62) (.k (.int .i64 1)))), none⟩,
  ⟨(some 64), (.op (.load1 (.t 63))), none⟩,
  ⟨(some 65), (.op (.bin .sub (.t 64) (.k (.int .u8 48)))), none⟩,
  ⟨(some 66), (.op (.toInt .i64 (.t 65))), none⟩,
  ⟨(some 67), (.op (.bin .add (.t 61) (.t 66))), none⟩,
  ⟨(some 68), (.op (.mkSl 1 [(.int .i64 0)] [(0, (1, (.t 67)))])), none⟩] [
  ⟨(some 69), (.op (.append 1 8 (.t 55) (.t 68))), none⟩,
  ⟨(some 8), (.op (.mv (.t 69))), none⟩])))
  (.ops [] [
  ⟨(some 31), (.op (.mv (.t 7))), none⟩,
  ⟨(some 32), (.op (.sl 1 (.t 31) (some (.k (.int .i64 2))) none none)), none⟩,
  ⟨(some 7), (.op (.mv (.t 32))), none⟩])))))
  (.seq
  (.block 2
  (.seq
  (.ops [] [
  ⟨(some 76), (.op (.mv (.t 1))), none⟩,
  ⟨(some 75), (.op (.mv (.t 76))), none⟩])
  (.cond (.t 75)
  (.ops [
  ⟨(some 77), (.op (.mv (.t 8))), none⟩,
  ⟨(some 78), (.op (.ixAddr 1 (.t 77) (.k (.int .i64 0)))), none⟩,
  ⟨(some 79), (.op (.load1 (.t 78))), none⟩,
  ⟨(some 80), (.op (.bin .mul (.t 79) (.k (.int .i64 100)))), none⟩,
  ⟨(some 81), (.op (.mv (.t 8))), none⟩,
  ⟨(some 82), (.op (.ixAddr 1 (.t 81) (.k (.int .i64 1)))), none⟩,
  ⟨(some 83), (.op (.load1 (.t 82))), none⟩,
  ⟨(some 84), (.op (.bin .add (.t 80) (.t 83))), none⟩,
  ⟨(some 85), (.op (.mkSl 1 [(.int .i64 0)] [(0, (1, (.t 84)))])), none⟩,
  ⟨(some 86), (.op (.mv (.t 8))), none⟩,
  ⟨(some 87), (.op (.sl 1 (.t 86) (some (.k (.int .i64 2))) none none)), none⟩] [
  ⟨(some 88), (.op (.append 1 8 (.t 85) (.t 87))), none⟩,
  ⟨(some 8), (.op (.mv (.t 88))), none⟩])
  (.seq
  (.ops [] [
  ⟨(some 90), (.op (.mv (.t 8))), none⟩,
  ⟨(some 91), (.op (.ixAddr 1 (.t 90) (.k (.int .i64 0)))), none⟩,
  ⟨(some 92), (.op (.load1 (.t 91))), none⟩,
  ⟨(some 93), (.op (.bin .lss (.t 92) (.k (.int .i64 50)))), none⟩,
  ⟨(some 89), (.op (.mv (.t 93))), none⟩])
  (.cond (.t 89)
  (.ops [] [
  ⟨(some 94), (.op (.mv (.t 8))), none⟩,
  ⟨(some 95), (.op (.ixAddr 1 (.t 94) (.k (.int .i64 0)))), none⟩,
  ⟨(some 96), (.op (.load1 (.t 95))), none⟩,
  ⟨(some 97), (.op (.bin .add (.t 96) (.k (.int .i64 2000)))), none⟩,
  ⟨(some 98), (.op (.ixAddr 1 (.t 94) (.k (.int .i64 0)))), none⟩,
  ⟨none, (.op (.store 1 (.t 98) (.t 97))), none⟩])
  (.ops [] [
  ⟨(some 70), (.op (.mv (.t 8))), none⟩,
  ⟨(some 71), (.op (.ixAddr 1 (.t 70) (.k (.int .i64 0)))), none⟩,
  ⟨(some 72), (.op (.load1 (.t 71))), none⟩,
  ⟨(some 73), (.op (.bin .add (.t 72) (.k (.int .i64 1900)))), none⟩,
  ⟨(some 74), (.op (.ixAddr 1 (.t 70) (.k (.int .i64 0)))), none⟩,
  ⟨none, (.op (.store 1 (.t 74) (.t 73))), none⟩]))))))
  (.seq
  (.ops [] [
  ⟨(some 99), (.op (.mv (.t 8))), none⟩,
  ⟨(some 100), (.xop (.s2a 6 (.t 99))), none⟩,
  ⟨(some 101), (.op (.loadN 6 (.t 100))), none⟩,
  ⟨(some 102), (.call (.k (.func (.func 80) #[] #[])) [(.t 101)]), none⟩,
  ⟨(some 103), (.op (.extract (.t 102) 0)), none⟩,
  ⟨(some 104), (.op (.extract (.t 102) 1)), none⟩,
  ⟨(some 4), (.op (.mv (.t 103))), none⟩,
  ⟨(some 5), (.op (.mv (.t 104))), none⟩])
  .ret))))))))),
  [(.t 4), (.t 5)]⟩
theorem r_clock_Read : resolveFn Tryd.prog 65 = some c_clock_Read := by kernel_rfl

end Go.Ga

namespace Go.Ga
open Go Go.Proofs
set_option linter.unusedSimpArgs false
set_option linter.unusedVariables false

def leapB (y : Int) : Bool := (decide (y.tmod 4 = 0) && !decide (y.tmod 100 = 0)) || decide (y.tmod 400 = 0)
def mtab : List Int := [31, 28, 31, 30, 31, 30, 31, 31, 30, 31, 30, 31]
/-- A month's last day. -/
def lastI (y m : Int) : Int := if m = 2 ∧ leapB y = true then 29 else mtab.getD (m - 1).toNat 0

theorem ct_within {nx : Nat} {gt : Nat → Option Blk} {n a z : Int} : Ct Tryd.prog 91 [.int .i64 n, .int .i64 a, .int .i64 z] nx gt fun v _ _ => v = .bool (decide (a ≤ n) && decide (n ≤ z)) := by
  refine Ct.of hmx r_clock_within (by simp [c_clock_within]) fun b hb => ?_
  by_cases h : a ≤ n <;> by_cases h' : n ≤ z <;> simp only [c_clock_within, ↓gaW, ↓gaC, ↓gaN, gaP, Nat.reduceEqDiff, Nat.reduceLeDiff, Nat.reduceAdd, Nat.reduceSub, Nat.reduceMul, Int.reduceLT, Int.reduceLE, Int.reduceEq, Int.reduceToNat, Int.reduceAdd, Int.reduceSub, Int.reduceMul, reduceCtorEq, ↓reduceIte, gaE, h, h', decide_true, decide_false, Bool.and_true, Bool.and_false, Bool.true_and, Bool.false_and] <;> exact ⟨by omega, fun _ _ => trivial⟩

theorem ct_last {nx : Nat} {gt : Nat → Option Blk} {y m : Int} (h1 : 1 ≤ m) (h2 : m ≤ 12) : Ct Tryd.prog 92 [.int .i64 y, .int .i64 m] nx gt fun v _ _ => v = .int .i64 (lastI y m) := by
  refine Ct.of hmx r_clock_last (by simp [c_clock_last]) fun b hb => ?_
  have hm : m = 2 ∨ m = 1 ∨ m = 3 ∨ m = 4 ∨ m = 5 ∨ m = 6 ∨ m = 7 ∨ m = 8 ∨ m = 9 ∨ m = 10 ∨ m = 11 ∨ m = 12 := by omega
  rcases hm with rfl | hm
  · by_cases h4 : y.tmod 4 = 0 <;> by_cases h100 : y.tmod 100 = 0 <;> by_cases h400 : y.tmod 400 = 0 <;>
      simp only [c_clock_last, ↓gaW, ↓gaC, ↓gaN, gaP, Nat.reduceEqDiff, Nat.reduceLeDiff, Nat.reduceAdd, Nat.reduceSub, Nat.reduceMul, Int.reduceLT, Int.reduceLE, Int.reduceEq, Int.reduceToNat, Int.reduceAdd, Int.reduceSub, Int.reduceMul, reduceCtorEq, ↓reduceIte, gaE, List.getD_cons_zero, List.getD_cons_succ, fillL, splice, List.take_zero, List.drop_zero, List.drop_succ_cons, List.take_succ_cons, List.drop_nil, List.take_nil, h4, h100, h400, decide_true, decide_false, i64_w 1 (by omega), u8V] <;>
      (repeat refine And.intro (by first | omega | simp) ?_) <;> (try exact ⟨by omega, fun _ _ => trivial, by simp [lastI, leapB, h4, h100, h400, mtab]⟩) <;> (try exact ⟨fun _ _ => trivial, by simp [lastI, leapB, h4, h100, h400, mtab]⟩) <;> simp [lastI, leapB, h4, h100, h400, mtab]
  · rcases hm with rfl | rfl | rfl | rfl | rfl | rfl | rfl | rfl | rfl | rfl | rfl <;>
      simp only [c_clock_last, ↓gaW, ↓gaC, ↓gaN, gaP, Nat.reduceEqDiff, Nat.reduceLeDiff, Nat.reduceAdd, Nat.reduceSub, Nat.reduceMul, Int.reduceLT, Int.reduceLE, Int.reduceEq, Int.reduceToNat, Int.reduceAdd, Int.reduceSub, Int.reduceMul, reduceCtorEq, ↓reduceIte, gaE, List.getD_cons_zero, List.getD_cons_succ, fillL, splice, List.take_zero, List.drop_zero, List.drop_succ_cons, List.take_succ_cons, List.drop_nil, List.take_nil, i64_w _ (show (-9223372036854775808 : Int) ≤ 0 ∧ (0 : Int) ≤ 9223372036854775807 by omega), i64_w 2 (by omega), i64_w 3 (by omega), i64_w 4 (by omega), i64_w 5 (by omega), i64_w 6 (by omega), i64_w 7 (by omega), i64_w 8 (by omega), i64_w 9 (by omega), i64_w 10 (by omega), i64_w 11 (by omega)] <;>
      (repeat refine And.intro (by first | omega | simp) ?_) <;> simp [lastI, mtab]
end Go.Ga

namespace Go.Ga
open Go Go.Proofs
set_option linter.unusedSimpArgs false
set_option linter.unusedVariables false

/-! ### Days by counting -/
def yearsR : Nat → Int
  | 0 => 0
  | k + 1 => yearsR k + 365 + (if leapB (1950 + (k : Nat)) then 1 else 0)
def monthsR (y : Int) : Nat → Int
  | 0 => 0
  | k + 1 => monthsR y k + lastI y ((k : Nat) + 1)
def dayR (y m d : Int) : Int := d - 1 + yearsR (y - 1950).toNat + monthsR y (m - 1).toNat
theorem lastI_bd {y m : Int} (h1 : 1 ≤ m) (h2 : m ≤ 12) : 28 ≤ lastI y m ∧ lastI y m ≤ 31 := by
  unfold lastI
  split
  · omega
  · have : ∀ k, k < 12 → 28 ≤ mtab.getD k 0 ∧ mtab.getD k 0 ≤ 31 := by decide
    exact this _ (by omega)
theorem monthsR_bd (y : Int) (k : Nat) (h : k ≤ 12) : 0 ≤ monthsR y k ∧ monthsR y k ≤ 31 * (k : Int) := by
  induction k with
  | zero => exact ⟨by simp [monthsR], by simp [monthsR]⟩
  | succ k ih =>
    have := lastI_bd (y := y) (m := (k : Nat) + 1) (by omega) (by omega)
    have := ih (by omega)
    simp only [monthsR]; omega

end Go.Ga

namespace Go.Ga
open Go Go.Proofs
set_option linter.unusedSimpArgs false
set_option linter.unusedVariables false
set_option maxRecDepth 100000

def inB (n a z : Int) : Bool := decide (a ≤ n) && decide (n ≤ z)
theorem inB_true {n a z : Int} (h : inB n a z = true) : a ≤ n ∧ n ≤ z := by simpa [inB] using h
/-- Is it a moment? -/
def okD (d0 d1 d2 d3 d4 d5 : Int) : Bool := inB d0 1950 2199 && (inB d1 1 12 && (inB d2 1 (lastI d0 d1) && (inB d3 0 23 && (inB d4 0 59 && inB d5 0 59))))
/-- Days from 1970, as the code has them. -/
def dayF (y m d : Int) : Int := y.tdiv 400 * 146097 + y.tmod 400 * 365 + (y.tmod 400).tdiv 4 - (y.tmod 400).tdiv 100 + (153 * m + 2).tdiv 5 + d - 1 - 719468
def dayC (y m d : Int) : Int := if m - 3 < 0 then dayF (y - 1) (m - 3 + 12) d else dayF y (m - 3) d
def secI (d0 d1 d2 d3 d4 d5 : Int) : Int := dayC d0 d1 d2 * 86400 + (d3 * 3600 + d4 * 60 + d5)
def SecV (d0 d1 d2 d3 d4 d5 : Int) : Value := if okD d0 d1 d2 d3 d4 d5 = true then .tuple #[.int .i64 (secI d0 d1 d2 d3 d4 d5), .bool true] else .tuple #[.int .i64 0, .bool false]

theorem ct_within' {nx : Nat} {gt : Nat → Option Blk} {n a z : Int} : Ct Tryd.prog 91 [.int .i64 n, .int .i64 a, .int .i64 z] nx gt fun v _ _ => v = .bool (inB n a z) := ct_within

theorem ct_Seconds {nx : Nat} {gt : Nat → Option Blk} {d0 d1 d2 d3 d4 d5 : Int} :
    Ct Tryd.prog 80 [.agg #[.int .i64 d0, .int .i64 d1, .int .i64 d2, .int .i64 d3, .int .i64 d4, .int .i64 d5]] nx gt fun v _ _ => v = SecV d0 d1 d2 d3 d4 d5 := by
  refine Ct.of hmx r_clock_Seconds (by simp [c_clock_Seconds]) fun b hb => ?_
  have bad : ∀ {nx' : Nat} {gt' : Nat → Option Blk}, nx ≤ nx' → (∀ i, i < nx → gt' i = gt i) → okD d0 d1 d2 d3 d4 d5 = false → nx ≤ nx' ∧ (∀ i, i < nx → gt' i = gt i) ∧ (Value.tuple #[.int .i64 0, .bool false]) = SecV d0 d1 d2 d3 d4 d5 :=
    fun h1 h2 h3 => ⟨h1, h2, by rw [SecV, h3, if_neg (by decide)]⟩
  simp only [c_clock_Seconds, ↓gaW, ↓gaC, ↓gaN, gaP, Nat.reduceEqDiff, Nat.reduceLeDiff, Nat.reduceAdd, Nat.reduceSub, Nat.reduceMul, Int.reduceLT, Int.reduceLE, Int.reduceEq, Int.reduceToNat, Int.reduceAdd, Int.reduceSub, Int.reduceMul, reduceCtorEq, ↓reduceIte, List.getD_cons_zero, List.getD_cons_succ]
  repeat refine And.intro (by omega) ?_
  refine callQ_of ct_within' (fun v n1 g1 l1 k1 hC => ?_)
  subst hC
  have c1 : g1 nx = some (.cells [.int .i64 d0, .int .i64 d1, .int .i64 d2, .int .i64 d3, .int .i64 d4, .int .i64 d5] false) := by rw [k1 nx (by omega)]; simp only [upd_e, if_true]
  have o1 : ∀ i, i < nx → g1 i = gt i := fun i hi => by rw [k1 i (by omega)]; simp only [upd_e]; rw [if_neg (by omega)]
  cases t0 : inB d0 1950 2199 with
  | false =>
    simp only [↓gaW, ↓gaC, ↓gaN, gaP, Nat.reduceEqDiff, Nat.reduceLeDiff, Nat.reduceAdd, Nat.reduceSub, Nat.reduceMul, Int.reduceLT, Int.reduceLE, Int.reduceEq, Int.reduceToNat, Int.reduceAdd, Int.reduceSub, Int.reduceMul, reduceCtorEq, ↓reduceIte, gaE]
    exact bad (by omega) o1 (by simp [okD, t0])
  | true =>
  simp only [↓gaW, ↓gaC, ↓gaN, gaP, Nat.reduceEqDiff, Nat.reduceLeDiff, Nat.reduceAdd, Nat.reduceSub, Nat.reduceMul, Int.reduceLT, Int.reduceLE, Int.reduceEq, Int.reduceToNat, Int.reduceAdd, Int.reduceSub, Int.reduceMul, reduceCtorEq, ↓reduceIte, c1, List.getD_cons_zero, List.getD_cons_succ]
  repeat refine And.intro (by omega) ?_
  refine callQ_of ct_within' (fun v n2 g2 l2 k2 hC => ?_)
  subst hC
  have c2 : g2 nx = _ := (k2 nx (by omega)).trans c1
  have o2 : ∀ i, i < nx → g2 i = gt i := fun i hi => by rw [k2 i (by omega), o1 i hi]
  cases t1 : inB d1 1 12 with
  | false =>
    simp only [↓gaW, ↓gaC, ↓gaN, gaP, Nat.reduceEqDiff, Nat.reduceLeDiff, Nat.reduceAdd, Nat.reduceSub, Nat.reduceMul, Int.reduceLT, Int.reduceLE, Int.reduceEq, Int.reduceToNat, Int.reduceAdd, Int.reduceSub, Int.reduceMul, reduceCtorEq, ↓reduceIte, gaE]
    exact bad (by omega) o2 (by simp [okD, t1])
  | true =>
  simp only [↓gaW, ↓gaC, ↓gaN, gaP, Nat.reduceEqDiff, Nat.reduceLeDiff, Nat.reduceAdd, Nat.reduceSub, Nat.reduceMul, Int.reduceLT, Int.reduceLE, Int.reduceEq, Int.reduceToNat, Int.reduceAdd, Int.reduceSub, Int.reduceMul, reduceCtorEq, ↓reduceIte, c2, List.getD_cons_zero, List.getD_cons_succ]
  repeat refine And.intro (by omega) ?_
  have b0 := inB_true t0
  have b1 := inB_true t1
  refine callQ_of (ct_last b1.1 b1.2) (fun v n3 g3 l3 k3 hC => ?_)
  subst hC
  have c3 : g3 nx = _ := (k3 nx (by omega)).trans c2
  have o3 : ∀ i, i < nx → g3 i = gt i := fun i hi => by rw [k3 i (by omega), o2 i hi]
  simp only [↓gaW, ↓gaC, ↓gaN, gaP, Nat.reduceEqDiff, Nat.reduceLeDiff, Nat.reduceAdd, Nat.reduceSub, Nat.reduceMul, Int.reduceLT, Int.reduceLE, Int.reduceEq, Int.reduceToNat, Int.reduceAdd, Int.reduceSub, Int.reduceMul, reduceCtorEq, ↓reduceIte]
  refine callK_of ct_within' (fun v n4 g4 l4 k4 hC => ?_) (by omega)
  subst hC
  have c4 : g4 nx = _ := (k4 nx (by omega)).trans c3
  have o4 : ∀ i, i < nx → g4 i = gt i := fun i hi => by rw [k4 i (by omega), o3 i hi]
  cases t2 : inB d2 1 (lastI d0 d1) with
  | false =>
    simp only [↓gaW, ↓gaC, ↓gaN, gaP, Nat.reduceEqDiff, Nat.reduceLeDiff, Nat.reduceAdd, Nat.reduceSub, Nat.reduceMul, Int.reduceLT, Int.reduceLE, Int.reduceEq, Int.reduceToNat, Int.reduceAdd, Int.reduceSub, Int.reduceMul, reduceCtorEq, ↓reduceIte, gaE]
    exact bad (by omega) o4 (by simp [okD, t2])
  | true =>
  simp only [↓gaW, ↓gaC, ↓gaN, gaP, Nat.reduceEqDiff, Nat.reduceLeDiff, Nat.reduceAdd, Nat.reduceSub, Nat.reduceMul, Int.reduceLT, Int.reduceLE, Int.reduceEq, Int.reduceToNat, Int.reduceAdd, Int.reduceSub, Int.reduceMul, reduceCtorEq, ↓reduceIte, c4, List.getD_cons_zero, List.getD_cons_succ]
  repeat refine And.intro (by omega) ?_
  refine callK_of ct_within' (fun v n5 g5 l5 k5 hC => ?_) (by omega)
  subst hC
  have c5 : g5 nx = _ := (k5 nx (by omega)).trans c4
  have o5 : ∀ i, i < nx → g5 i = gt i := fun i hi => by rw [k5 i (by omega), o4 i hi]
  cases t3 : inB d3 0 23 with
  | false =>
    simp only [↓gaW, ↓gaC, ↓gaN, gaP, Nat.reduceEqDiff, Nat.reduceLeDiff, Nat.reduceAdd, Nat.reduceSub, Nat.reduceMul, Int.reduceLT, Int.reduceLE, Int.reduceEq, Int.reduceToNat, Int.reduceAdd, Int.reduceSub, Int.reduceMul, reduceCtorEq, ↓reduceIte, gaE]
    exact bad (by omega) o5 (by simp [okD, t3])
  | true =>
  simp only [↓gaW, ↓gaC, ↓gaN, gaP, Nat.reduceEqDiff, Nat.reduceLeDiff, Nat.reduceAdd, Nat.reduceSub, Nat.reduceMul, Int.reduceLT, Int.reduceLE, Int.reduceEq, Int.reduceToNat, Int.reduceAdd, Int.reduceSub, Int.reduceMul, reduceCtorEq, ↓reduceIte, c5, List.getD_cons_zero, List.getD_cons_succ]
  repeat refine And.intro (by omega) ?_
  refine callK_of ct_within' (fun v n6 g6 l6 k6 hC => ?_) (by omega)
  subst hC
  have c6 : g6 nx = _ := (k6 nx (by omega)).trans c5
  have o6 : ∀ i, i < nx → g6 i = gt i := fun i hi => by rw [k6 i (by omega), o5 i hi]
  cases t4 : inB d4 0 59 with
  | false =>
    simp only [↓gaW, ↓gaC, ↓gaN, gaP, Nat.reduceEqDiff, Nat.reduceLeDiff, Nat.reduceAdd, Nat.reduceSub, Nat.reduceMul, Int.reduceLT, Int.reduceLE, Int.reduceEq, Int.reduceToNat, Int.reduceAdd, Int.reduceSub, Int.reduceMul, reduceCtorEq, ↓reduceIte, gaE]
    exact bad (by omega) o6 (by simp [okD, t4])
  | true =>
  simp only [↓gaW, ↓gaC, ↓gaN, gaP, Nat.reduceEqDiff, Nat.reduceLeDiff, Nat.reduceAdd, Nat.reduceSub, Nat.reduceMul, Int.reduceLT, Int.reduceLE, Int.reduceEq, Int.reduceToNat, Int.reduceAdd, Int.reduceSub, Int.reduceMul, reduceCtorEq, ↓reduceIte, c6, List.getD_cons_zero, List.getD_cons_succ]
  repeat refine And.intro (by omega) ?_
  refine callK_of ct_within' (fun v n7 g7 l7 k7 hC => ?_) (by omega)
  subst hC
  have c7 : g7 nx = _ := (k7 nx (by omega)).trans c6
  have o7 : ∀ i, i < nx → g7 i = gt i := fun i hi => by rw [k7 i (by omega), o6 i hi]
  cases t5 : inB d5 0 59 with
  | false =>
    simp only [↓gaW, ↓gaC, ↓gaN, gaP, Nat.reduceEqDiff, Nat.reduceLeDiff, Nat.reduceAdd, Nat.reduceSub, Nat.reduceMul, Int.reduceLT, Int.reduceLE, Int.reduceEq, Int.reduceToNat, Int.reduceAdd, Int.reduceSub, Int.reduceMul, reduceCtorEq, ↓reduceIte, gaE]
    exact bad (by omega) o7 (by simp [okD, t5])
  | true =>
  have b2 := inB_true t2
  have b3 := inB_true t3
  have b4 := inB_true t4
  have b5 := inB_true t5
  have lb := lastI_bd (y := d0) b1.1 b1.2
  have hok : okD d0 d1 d2 d3 d4 d5 = true := by simp [okD, t0, t1, t2, t3, t4, t5]
  have q : ∀ (Y M : Int), 1949 ≤ Y ∧ Y ≤ 2199 → 0 ≤ M ∧ M ≤ 11 → dayF Y M d2 = dayC d0 d1 d2 → Y.tdiv 400 = Y / 400 ∧ Y.tmod 400 = Y % 400 ∧ (Y % 400).tdiv 4 = Y % 400 / 4 ∧ (Y % 400).tdiv 100 = Y % 400 / 100 ∧ (153 * M + 2).tdiv 5 = (153 * M + 2) / 5 ∧
      dayC d0 d1 d2 = Y / 400 * 146097 + Y % 400 * 365 + Y % 400 / 4 - Y % 400 / 100 + (153 * M + 2) / 5 + d2 - 1 - 719468 := by
    intro Y M hY hM hE
    have q1 : Y.tdiv 400 = Y / 400 := Int.tdiv_eq_ediv_of_nonneg (by omega)
    have q2 : Y.tmod 400 = Y % 400 := Int.tmod_eq_emod_of_nonneg (by omega)
    have q3 : (Y % 400).tdiv 4 = Y % 400 / 4 := Int.tdiv_eq_ediv_of_nonneg (by omega)
    have q4 : (Y % 400).tdiv 100 = Y % 400 / 100 := Int.tdiv_eq_ediv_of_nonneg (by omega)
    have q5 : (153 * M + 2).tdiv 5 = (153 * M + 2) / 5 := Int.tdiv_eq_ediv_of_nonneg (by omega)
    exact ⟨q1, q2, q3, q4, q5, by rw [← hE, dayF, q1, q2, q3, q4, q5]⟩
  by_cases hm : d1 - 3 < 0
  · obtain ⟨q1, q2, q3, q4, q5, hday⟩ := q (d0 - 1) (d1 - 3 + 12) (by omega) (by omega) (by rw [dayC, if_pos hm])
    simp (disch := omega) only [↓gaW, ↓gaC, ↓gaN, gaP, Nat.reduceEqDiff, Nat.reduceLeDiff, Nat.reduceAdd, Nat.reduceSub, Nat.reduceMul, Int.reduceLT, Int.reduceLE, Int.reduceEq, Int.reduceToNat, Int.reduceAdd, Int.reduceSub, Int.reduceMul, reduceCtorEq, ↓reduceIte, gaE, t5, c7, List.getD_cons_zero, List.getD_cons_succ, hm, decide_true, q1, q2, q3, q4, q5, i64_w]
    repeat refine And.intro (by omega) ?_
    rw [SecV, if_pos hok, secI, hday]
  · obtain ⟨q1, q2, q3, q4, q5, hday⟩ := q d0 (d1 - 3) (by omega) (by omega) (by rw [dayC, if_neg hm])
    simp (disch := omega) only [↓gaW, ↓gaC, ↓gaN, gaP, Nat.reduceEqDiff, Nat.reduceLeDiff, Nat.reduceAdd, Nat.reduceSub, Nat.reduceMul, Int.reduceLT, Int.reduceLE, Int.reduceEq, Int.reduceToNat, Int.reduceAdd, Int.reduceSub, Int.reduceMul, reduceCtorEq, ↓reduceIte, gaE, t5, c7, List.getD_cons_zero, List.getD_cons_succ, hm, decide_false, q1, q2, q3, q4, q5, i64_w]
    repeat refine And.intro (by omega) ?_
    rw [SecV, if_pos hok, secI, hday]

/-! ### The two ways to count days agree -/
theorem dayC_d (y m d : Int) : dayC y m d = dayC y m 1 + (d - 1) := by
  unfold dayC dayF; split <;> omega
theorem month_step : ∀ y, y < 250 → ∀ m, m < 12 → dayC (1950 + (y : Nat)) ((m : Nat) + 2) 1 = dayC (1950 + (y : Nat)) ((m : Nat) + 1) 1 + lastI (1950 + (y : Nat)) ((m : Nat) + 1) ∨ m = 11 := by decide +kernel
theorem year_step : ∀ y, y < 250 → dayC (1950 + ((y + 1 : Nat) : Int)) 1 1 = dayC (1950 + (y : Nat)) 1 1 + 365 + (if leapB (1950 + (y : Nat)) then 1 else 0) := by decide +kernel
theorem dayC_year : ∀ y, y ≤ 250 → dayC (1950 + (y : Nat)) 1 1 = yearsR y - 7305 := by
  intro y
  induction y with
  | zero => intro _; decide +kernel
  | succ y ih =>
    intro h
    rw [year_step y (by omega), ih (by omega), yearsR]
    omega
theorem dayC_month (y : Nat) (hy : y < 250) : ∀ m, m < 12 → dayC (1950 + (y : Nat)) ((m : Nat) + 1) 1 = yearsR y + monthsR (1950 + (y : Nat)) m - 7305 := by
  intro m
  induction m with
  | zero =>
    intro _
    have := dayC_year y (by omega)
    simp only [monthsR]
    have e : (((0 : Nat) : Int) + 1) = 1 := by omega
    rw [e, this]; omega
  | succ m ih =>
    intro h
    rcases month_step y hy m (by omega) with e | e
    · have e2 : (((m + 1 : Nat) : Int) + 1) = (m : Int) + 2 := by omega
      rw [e2, e, ih (by omega), monthsR]
      omega
    · omega
theorem dayC_eq {y m d : Int} (hy : 1950 ≤ y ∧ y ≤ 2199) (hm : 1 ≤ m ∧ m ≤ 12) : dayC y m d = dayR y m d - 7305 := by
  have h := dayC_month (y - 1950).toNat (by omega) (m - 1).toNat (by omega)
  have e1 : 1950 + ((y - 1950).toNat : Int) = y := by omega
  have e2 : ((m - 1).toNat : Int) + 1 = m := by omega
  rw [e1, e2] at h
  rw [dayC_d, h, dayR]
  omega
end Go.Ga

namespace Go.Ga
open Go Go.Proofs
set_option linter.unusedSimpArgs false
set_option linter.unusedVariables false
set_option maxRecDepth 100000

end Go.Ga

namespace Go.Ga
open Go Go.Proofs
set_option linter.unusedSimpArgs false
set_option linter.unusedVariables false
set_option maxRecDepth 100000

/-! ### The date of a day, in whole numbers from the first of March of the year 0 -/
def yearN (r : Nat) : Nat := (r - r / 1460 + r / 36524 - r / 146096) / 365
def restN (r : Nat) : Nat := r - (yearN r * 365 + yearN r / 4 - yearN r / 100)
def monN (r : Nat) : Nat := (5 * restN r + 2) / 153
def dN (r : Nat) : Nat := restN r - (153 * monN r + 2) / 5 + 1
def lastN (y m : Nat) : Nat := if m = 2 ∧ (y % 4 = 0 ∧ y % 100 ≠ 0 ∨ y % 400 = 0) then 29 else [31, 28, 31, 30, 31, 30, 31, 31, 30, 31, 30, 31].getD (m - 1) 0
def yN (n : Nat) : Nat := if 9 < monN (n % 146097) then n / 146097 * 400 + yearN (n % 146097) + 1 else n / 146097 * 400 + yearN (n % 146097)
def mN (n : Nat) : Nat := if 9 < monN (n % 146097) then monN (n % 146097) - 9 else monN (n % 146097) + 3
def dayN (y m d : Nat) : Nat := if m < 3 then (y - 1) / 400 * 146097 + (y - 1) % 400 * 365 + (y - 1) % 400 / 4 - (y - 1) % 400 / 100 + (153 * (m + 9) + 2) / 5 + d - 1 else y / 400 * 146097 + y % 400 * 365 + y % 400 / 4 - y % 400 / 100 + (153 * (m - 3) + 2) / 5 + d - 1
def checkN (n : Nat) : Bool :=
  let r := n % 146097
  Nat.ble (yearN r / 4) (yearN r * 365 + yearN r / 4) && Nat.ble (yearN r * 365 + yearN r / 4 - yearN r / 100) r && Nat.ble ((153 * monN r + 2) / 5) (restN r) &&
  Nat.ble 1950 (yN n) && Nat.ble (yN n) 2199 && Nat.ble 1 (mN n) && Nat.ble (mN n) 12 && Nat.ble 1 (dN r) && Nat.ble (dN r) (lastN (yN n) (mN n)) && Nat.beq (dayN (yN n) (mN n) (dN r)) n
def checkAll : Nat → Nat → Bool
  | 0, _ => true
  | k + 1, n => checkN n && checkAll k (n + 1)
theorem checkAll_get : ∀ k n, checkAll k n = true → ∀ i, i < k → checkN (n + i) = true := by
  intro k
  induction k with
  | zero => intro n _ i hi; omega
  | succ k ih =>
    intro n h i hi
    simp only [checkAll, Bool.and_eq_true] at h
    rcases i with _ | i
    · exact h.1
    · have := ih (n + 1) h.2 i (by omega)
      rwa [show n + 1 + i = n + (i + 1) by omega] at this
def checkM : Nat → Nat → Bool
  | 0, _ => true
  | a + 1, n => checkAll 1000 n && checkM a (n + 1000)
theorem checkM_get : ∀ k n, checkM k n = true → ∀ i, i < 1000 * k → checkN (n + i) = true := by
  intro k
  induction k with
  | zero => intro n _ i h; omega
  | succ k ih =>
    intro n h i hi
    simp only [checkM, Bool.and_eq_true] at h
    by_cases e : i < 1000
    · exact checkAll_get 1000 n h.1 i e
    · have := ih (n + 1000) h.2 (i - 1000) (by omega)
      rwa [show n + 1000 + (i - 1000) = n + i by omega] at this
theorem check_0 : checkM 10 712163 = true := by decide +kernel
theorem check_1 : checkM 10 722163 = true := by decide +kernel
theorem check_2 : checkM 10 732163 = true := by decide +kernel
theorem check_3 : checkM 10 742163 = true := by decide +kernel
theorem check_4 : checkM 10 752163 = true := by decide +kernel
theorem check_5 : checkM 10 762163 = true := by decide +kernel
theorem check_6 : checkM 10 772163 = true := by decide +kernel
theorem check_7 : checkM 10 782163 = true := by decide +kernel
theorem check_8 : checkM 10 792163 = true := by decide +kernel
theorem check_9 : checkM 1 802163 = true := by decide +kernel
theorem check_r : checkAll 311 803163 = true := by decide +kernel
theorem check_get {n : Nat} (h1 : 712163 ≤ n) (h2 : n < 803474) : checkN n = true := by
  obtain ⟨i, rfl⟩ : ∃ i, n = 712163 + i := ⟨n - 712163, by omega⟩
  by_cases h10 : i < 10000
  · have := checkM_get 10 712163 check_0 (i - 0) (by omega)
    rwa [show 712163 + (i - 0) = 712163 + i by omega] at this
  by_cases h11 : i < 20000
  · have := checkM_get 10 722163 check_1 (i - 10000) (by omega)
    rwa [show 722163 + (i - 10000) = 712163 + i by omega] at this
  by_cases h12 : i < 30000
  · have := checkM_get 10 732163 check_2 (i - 20000) (by omega)
    rwa [show 732163 + (i - 20000) = 712163 + i by omega] at this
  by_cases h13 : i < 40000
  · have := checkM_get 10 742163 check_3 (i - 30000) (by omega)
    rwa [show 742163 + (i - 30000) = 712163 + i by omega] at this
  by_cases h14 : i < 50000
  · have := checkM_get 10 752163 check_4 (i - 40000) (by omega)
    rwa [show 752163 + (i - 40000) = 712163 + i by omega] at this
  by_cases h15 : i < 60000
  · have := checkM_get 10 762163 check_5 (i - 50000) (by omega)
    rwa [show 762163 + (i - 50000) = 712163 + i by omega] at this
  by_cases h16 : i < 70000
  · have := checkM_get 10 772163 check_6 (i - 60000) (by omega)
    rwa [show 772163 + (i - 60000) = 712163 + i by omega] at this
  by_cases h17 : i < 80000
  · have := checkM_get 10 782163 check_7 (i - 70000) (by omega)
    rwa [show 782163 + (i - 70000) = 712163 + i by omega] at this
  by_cases h18 : i < 90000
  · have := checkM_get 10 792163 check_8 (i - 80000) (by omega)
    rwa [show 792163 + (i - 80000) = 712163 + i by omega] at this
  by_cases h19 : i < 91000
  · have := checkM_get 1 802163 check_9 (i - 90000) (by omega)
    rwa [show 802163 + (i - 90000) = 712163 + i by omega] at this
  · have := checkAll_get 311 _ check_r (i - 91000) (by omega)
    rwa [show 803163 + (i - 91000) = 712163 + i by omega] at this
end Go.Ga

namespace Go.Ga
open Go Go.Proofs
set_option linter.unusedSimpArgs false
set_option linter.unusedVariables false
set_option maxRecDepth 100000

theorem res_cN0 {f : Regs} {x b : Nat} {g : Nat → Option Blk} {i n q : Nat} {c : List Value} {ro : Bool} {l : List RVar} (h : f i = .pointer (some ⟨q, 0, none⟩)) (hg : g q = some (.cells c ro)) (hn : n ≤ c.length) :
    resVals f ⟨x, b, g⟩ (.cN i n :: l) = (resVals f ⟨x, b, g⟩ l).map (.agg (c.take n).toArray :: ·) := by
  simp [resVals, h, hg, hn]

theorem end_cNt {f : Regs} {x b' b nx : Nat} {g gt : Nat → Option Blk} {i n j q : Nat} {C} (c : List Value) {ro : Bool} (h : f i = .pointer (some ⟨q, 0, none⟩)) (hg : g q = some (.cells c ro)) (hn : n ≤ c.length)
    (h2 : b' = b ∧ nx ≤ x ∧ (∀ i, i < nx → g i = gt i) ∧ C (.tuple #[.agg (c.take n).toArray, f j]) x g) : endK [.cN i n, .t j] b nx gt C .ret f ⟨x, b', g⟩ := by
  rw [end_r, res_cN0 h hg hn]
  exact h2

/-- What 'Date' answers. -/
def DateV (s : Int) (v : Value) : Prop :=
  if -631152000 ≤ s ∧ s ≤ 7258118399 then ∃ d0 d1 d2 d3 d4 d5, okD d0 d1 d2 d3 d4 d5 = true ∧ secI d0 d1 d2 d3 d4 d5 = s ∧ v = .tuple #[.agg #[.int .i64 d0, .int .i64 d1, .int .i64 d2, .int .i64 d3, .int .i64 d4, .int .i64 d5], .bool true]
  else v = .tuple #[.agg #[.int .i64 0, .int .i64 0, .int .i64 0, .int .i64 0, .int .i64 0, .int .i64 0], .bool false]

theorem months_year (k : Nat) : monthsR (1950 + (k : Nat)) 12 = yearsR (k + 1) - yearsR k := by
  have h : ∀ L : Bool, leapB (1950 + (k : Nat)) = L → monthsR (1950 + (k : Nat)) 12 = 365 + (if leapB (1950 + (k : Nat)) then 1 else 0) := by
    intro L hL
    cases L <;> simp [monthsR, lastI, hL, mtab]
  rw [h _ rfl, yearsR]; omega

end Go.Ga

namespace Go.Ga
open Go Go.Proofs
set_option linter.unusedSimpArgs false
set_option linter.unusedVariables false
set_option maxRecDepth 100000

theorem lastI_N {y m : Nat} (h1 : 1 ≤ m) (h2 : m ≤ 12) : lastI (y : Nat) (m : Nat) = (lastN y m : Nat) := by
  have hL : leapB (y : Nat) = decide (y % 4 = 0 ∧ y % 100 ≠ 0 ∨ y % 400 = 0) := by
    have a1 : ((y : Int).tmod 4 = 0) = (y % 4 = 0) := by
      show (((y % 4 : Nat) : Int) = 0) = _
      simp only [eq_iff_iff]; omega
    have a2 : ((y : Int).tmod 100 = 0) = (y % 100 = 0) := by
      show (((y % 100 : Nat) : Int) = 0) = _
      simp only [eq_iff_iff]; omega
    have a3 : ((y : Int).tmod 400 = 0) = (y % 400 = 0) := by
      show (((y % 400 : Nat) : Int) = 0) = _
      simp only [eq_iff_iff]; omega
    simp only [leapB, a1, a2, a3]
    by_cases b1 : y % 4 = 0 <;> by_cases b2 : y % 100 = 0 <;> by_cases b3 : y % 400 = 0 <;> simp [b1, b2, b3]
  have hT : ∀ k, k < 12 → mtab.getD k 0 = (([31, 28, 31, 30, 31, 30, 31, 31, 30, 31, 30, 31] : List Nat).getD k 0 : Nat) := by decide
  have e : ((m : Int) - 1).toNat = m - 1 := by omega
  unfold lastI lastN
  rw [e, hL]
  by_cases hm : m = 2
  · subst hm
    by_cases hl : y % 4 = 0 ∧ y % 100 ≠ 0 ∨ y % 400 = 0
    · rw [if_pos ⟨rfl, decide_eq_true hl⟩, if_pos ⟨rfl, hl⟩]; rfl
    · rw [if_neg (by simp only [decide_eq_true_eq]; exact fun h => hl h.2), if_neg (fun h => hl h.2)]; rfl
  · rw [if_neg (by omega), if_neg (by omega), hT _ (by omega)]

theorem dayC_N {y m d : Nat} (hy : 1 ≤ y) (h1 : 1 ≤ m) (h2 : m ≤ 12) (hd : 1 ≤ d) : dayC (y : Nat) (m : Nat) (d : Nat) = (dayN y m d : Nat) - 719468 := by
  unfold dayC dayN dayF
  by_cases hm : m < 3
  · rw [if_pos (by omega), if_pos hm]
    have a0 : ((y : Int) - 1) = ((y - 1 : Nat) : Int) := by omega
    have a1 : (((y - 1 : Nat) : Int).tdiv 400) = (((y - 1) / 400 : Nat) : Int) := rfl
    have a2 : (((y - 1 : Nat) : Int).tmod 400) = (((y - 1) % 400 : Nat) : Int) := rfl
    have a3 : ((((y - 1) % 400 : Nat) : Int).tdiv 4) = (((y - 1) % 400 / 4 : Nat) : Int) := rfl
    have a4 : ((((y - 1) % 400 : Nat) : Int).tdiv 100) = (((y - 1) % 400 / 100 : Nat) : Int) := rfl
    have a5 : (153 * ((m : Int) - 3 + 12) + 2) = ((153 * (m + 9) + 2 : Nat) : Int) := by omega
    have a6 : (((153 * (m + 9) + 2 : Nat) : Int).tdiv 5) = (((153 * (m + 9) + 2) / 5 : Nat) : Int) := rfl
    rw [a0, a1, a2, a3, a4, a5, a6]; omega
  · rw [if_neg (by omega), if_neg hm]
    have a1 : ((y : Int).tdiv 400) = ((y / 400 : Nat) : Int) := rfl
    have a2 : ((y : Int).tmod 400) = ((y % 400 : Nat) : Int) := rfl
    have a3 : (((y % 400 : Nat) : Int).tdiv 4) = ((y % 400 / 4 : Nat) : Int) := rfl
    have a4 : (((y % 400 : Nat) : Int).tdiv 100) = ((y % 400 / 100 : Nat) : Int) := rfl
    have a5 : (153 * ((m : Int) - 3) + 2) = ((153 * (m - 3) + 2 : Nat) : Int) := by omega
    have a6 : (((153 * (m - 3) + 2 : Nat) : Int).tdiv 5) = (((153 * (m - 3) + 2) / 5 : Nat) : Int) := rfl
    rw [a1, a2, a3, a4, a5, a6]; omega
end Go.Ga

namespace Go.Ga
open Go Go.Proofs
set_option linter.unusedSimpArgs false
set_option linter.unusedVariables false
set_option maxRecDepth 100000

theorem secV_first : SecV 1950 1 1 0 0 0 = .tuple #[.int .i64 (-631152000), .bool true] := by
  rw [SecV, if_pos (by decide +kernel), show secI 1950 1 1 0 0 0 = -631152000 by decide +kernel]
theorem secV_last : SecV 2199 12 31 23 59 59 = .tuple #[.int .i64 7258118399, .bool true] := by
  rw [SecV, if_pos (by decide +kernel), show secI 2199 12 31 23 59 59 = 7258118399 by decide +kernel]

/-- Seconds to days and what is left, as the code has them. -/
theorem split_day (s : Int) : ∃ q t : Int, s.tdiv 86400 = q ∧ s.tmod 86400 = t ∧ s = 86400 * q + t ∧ -86400 < t ∧ t < 86400 ∧ (0 ≤ s → 0 ≤ t) ∧ (s ≤ 0 → t ≤ 0) := by
  refine ⟨_, _, rfl, rfl, (Int.mul_tdiv_add_tmod s 86400).symm, ?_⟩
  rcases Int.le_total 0 s with h | h
  · have := Int.tmod_eq_emod_of_nonneg (b := 86400) h
    omega
  · have h2 := Int.tmod_eq_emod_of_nonneg (a := -s) (b := 86400) (by omega)
    rw [Int.neg_tmod] at h2
    omega

set_option maxHeartbeats 2000000 in
theorem ct_Date {nx : Nat} {gt : Nat → Option Blk} {s : Int} (hs : -9223372036854775808 ≤ s ∧ s ≤ 9223372036854775807) :
    Ct Tryd.prog 96 [.int .i64 s] nx gt fun v _ _ => DateV s v := by
  refine Ct.of hmx r_clock_Date (by simp [c_clock_Date]) fun b hb => ?_
  simp only [c_clock_Date, ↓gaW, ↓gaC, ↓gaN, gaP, Nat.reduceEqDiff, Nat.reduceLeDiff, Nat.reduceAdd, Nat.reduceSub, Nat.reduceMul, Int.reduceLT, Int.reduceLE, Int.reduceEq, Int.reduceToNat, Int.reduceAdd, Int.reduceSub, Int.reduceMul, reduceCtorEq, ↓reduceIte, List.getD_cons_zero, List.getD_cons_succ, fillL, splice, List.take_zero, List.drop_zero, List.drop_succ_cons, List.take_succ_cons, List.drop_nil, List.take_nil]
  refine callK_of ct_Seconds (fun v n1 g1 l1 k1 hC => ?_) (by omega)
  rw [secV_first] at hC
  subst hC
  simp only [↓gaW, ↓gaC, ↓gaN, gaP, Nat.reduceEqDiff, Nat.reduceLeDiff, Nat.reduceAdd, Nat.reduceSub, Nat.reduceMul, Int.reduceLT, Int.reduceLE, Int.reduceEq, Int.reduceToNat, Int.reduceAdd, Int.reduceSub, Int.reduceMul, reduceCtorEq, ↓reduceIte, List.getD_cons_zero, List.getD_cons_succ, fillL, splice, List.take_zero, List.drop_zero, List.drop_succ_cons, List.take_succ_cons, List.drop_nil, List.take_nil]
  repeat refine And.intro (by omega) ?_
  refine callK_of ct_Seconds (fun v n2 g2 l2 k2 hC => ?_) (by omega)
  rw [secV_last] at hC
  subst hC
  have c2 : g2 nx = some (.cells [.int .i64 0, .int .i64 0, .int .i64 0, .int .i64 0, .int .i64 0, .int .i64 0] false) := by rw [k2 nx (by omega), k1 nx (by omega)]; simp only [upd_e, if_true]
  have o2 : ∀ i, i < nx → g2 i = gt i := fun i hi => by rw [k2 i (by omega), k1 i (by omega)]; simp only [upd_e]; rw [if_neg (by omega)]
  have all6 : ∀ a b c d e g : Int, ∀ v ∈ [Value.int .i64 a, .int .i64 b, .int .i64 c, .int .i64 d, .int .i64 e, .int .i64 g], cellVal v = true := by
    intro a b c d e g v hv
    simp only [List.mem_cons, List.not_mem_nil, or_false] at hv
    rcases hv with rfl | rfl | rfl | rfl | rfl | rfl <;> rfl
  by_cases a0 : s < -631152000
  · simp only [↓gaW, ↓gaC, ↓gaN, gaP, Nat.reduceEqDiff, Nat.reduceLeDiff, Nat.reduceAdd, Nat.reduceSub, Nat.reduceMul, Int.reduceLT, Int.reduceLE, Int.reduceEq, Int.reduceToNat, Int.reduceAdd, Int.reduceSub, Int.reduceMul, reduceCtorEq, ↓reduceIte, List.getD_cons_zero, List.getD_cons_succ, fillL, splice, List.take_zero, List.drop_zero, List.drop_succ_cons, List.take_succ_cons, List.drop_nil, List.take_nil, a0, decide_true, c2]
    repeat refine And.intro (by first | omega | exact all6 _ _ _ _ _ _) ?_
    refine end_cNt (ro := false) [.int .i64 0, .int .i64 0, .int .i64 0, .int .i64 0, .int .i64 0, .int .i64 0] rfl (by simp only [upd_e, if_true]) (by simp) ⟨rfl, by omega, fun i hi => by simp only [upd_e]; rw [if_neg (by omega), o2 i hi], ?_⟩
    rw [DateV, if_neg (by omega)]; rfl
  by_cases a1 : 7258118399 < s
  · simp only [↓gaW, ↓gaC, ↓gaN, gaP, Nat.reduceEqDiff, Nat.reduceLeDiff, Nat.reduceAdd, Nat.reduceSub, Nat.reduceMul, Int.reduceLT, Int.reduceLE, Int.reduceEq, Int.reduceToNat, Int.reduceAdd, Int.reduceSub, Int.reduceMul, reduceCtorEq, ↓reduceIte, List.getD_cons_zero, List.getD_cons_succ, fillL, splice, List.take_zero, List.drop_zero, List.drop_succ_cons, List.take_succ_cons, List.drop_nil, List.take_nil, a0, a1, decide_true, decide_false, c2]
    repeat refine And.intro (by first | omega | exact all6 _ _ _ _ _ _) ?_
    refine end_cNt (ro := false) [.int .i64 0, .int .i64 0, .int .i64 0, .int .i64 0, .int .i64 0, .int .i64 0] rfl (by simp only [upd_e, if_true]) (by simp) ⟨rfl, by omega, fun i hi => by simp only [upd_e]; rw [if_neg (by omega), o2 i hi], ?_⟩
    rw [DateV, if_neg (by omega)]; rfl
  obtain ⟨q, t, hq, ht, hst, ht1, ht2, ht3, ht4⟩ := split_day s
  have fin : ∀ (n : Nat) (T : Int), 712163 ≤ n → n < 803474 → 0 ≤ T → T < 86400 → s = 86400 * ((n : Nat) - 719468) + T → ∀ f : Regs, f 2 = .pointer (some ⟨nx, 0, none⟩) → f 8 = .int .i64 ((n : Nat) - 719468) → f 9 = .int .i64 T →
      RC.vc Tryd.prog (match c_clock_Date.code with | .seq _ (.seq _ (.seq _ (.seq _ (.seq _ (.seq _ c))))) => c | _ => .skip) f ⟨n2, b, g2⟩ (D Tryd.prog (.top (endK c_clock_Date.results b nx gt fun v _ _ => DateV s v))) := by
    intro n T hn1 hn2 hT1 hT2 hsn f f2 f8 f9
    have hchk := check_get hn1 hn2
    simp only [checkN, Bool.and_eq_true, Nat.ble_eq] at hchk
    obtain ⟨⟨⟨⟨⟨⟨⟨⟨⟨k1, k2⟩, k3⟩, k4⟩, k5⟩, k6⟩, k7⟩, k8⟩, k9⟩, k10⟩ := hchk
    have k10' := Nat.eq_of_beq_eq_true k10
    have e0 : ((n : Int) - 719468 + 719468) = (n : Int) := by omega
    have e1 : (n : Int).tdiv 146097 = ((n / 146097 : Nat) : Int) := rfl
    have e2 : (n : Int).tmod 146097 = ((n % 146097 : Nat) : Int) := rfl
    have hr : n % 146097 < 146097 := Nat.mod_lt _ (by decide)
    have hyd : n / 146097 ≤ 5 := by omega
    generalize hR : n % 146097 = r at *
    have e3 : (r : Int).tdiv 1460 = ((r / 1460 : Nat) : Int) := rfl
    have e4 : (r : Int).tdiv 36524 = ((r / 36524 : Nat) : Int) := rfl
    have e5 : (r : Int).tdiv 146096 = ((r / 146096 : Nat) : Int) := rfl
    have e6 : (r : Int) - ((r / 1460 : Nat) : Int) + ((r / 36524 : Nat) : Int) - ((r / 146096 : Nat) : Int) = ((r - r / 1460 + r / 36524 - r / 146096 : Nat) : Int) := by omega
    have e7 : ((r - r / 1460 + r / 36524 - r / 146096 : Nat) : Int).tdiv 365 = (yearN r : Nat) := rfl
    have hy : yearN r ≤ 400 := by unfold yearN; omega
    have e8 : ((yearN r : Nat) : Int).tdiv 4 = ((yearN r / 4 : Nat) : Int) := rfl
    have e9 : ((yearN r : Nat) : Int).tdiv 100 = ((yearN r / 100 : Nat) : Int) := rfl
    have e10 : (r : Int) - (((yearN r : Nat) : Int) * 365 + ((yearN r / 4 : Nat) : Int) - ((yearN r / 100 : Nat) : Int)) = (restN r : Nat) := by unfold restN; omega
    have hrest : restN r ≤ r := by unfold restN; omega
    have e11 : (5 * ((restN r : Nat) : Int) + 2) = ((5 * restN r + 2 : Nat) : Int) := by omega
    have e12 : ((5 * restN r + 2 : Nat) : Int).tdiv 153 = (monN r : Nat) := rfl
    have hmon : monN r ≤ 10000 := by unfold monN; omega
    have e13 : (153 * ((monN r : Nat) : Int) + 2) = ((153 * monN r + 2 : Nat) : Int) := by omega
    have e14 : ((153 * monN r + 2 : Nat) : Int).tdiv 5 = (((153 * monN r + 2) / 5 : Nat) : Int) := rfl
    have e15 : ((restN r : Nat) : Int) - (((153 * monN r + 2) / 5 : Nat) : Int) + 1 = (dN r : Nat) := by unfold dN; omega
    have r1 : T.tdiv 3600 = T / 3600 := Int.tdiv_eq_ediv_of_nonneg (by omega)
    have r2 : T.tdiv 60 = T / 60 := Int.tdiv_eq_ediv_of_nonneg (by omega)
    have r3 : (T / 60).tmod 60 = T / 60 % 60 := Int.tmod_eq_emod_of_nonneg (by omega)
    have r4 : T.tmod 60 = T % 60 := Int.tmod_eq_emod_of_nonneg (by omega)
    simp (disch := omega) only [c_clock_Date, ↓gaW, ↓gaC, ↓gaN, gaP, Nat.reduceEqDiff, Nat.reduceLeDiff, Nat.reduceAdd, Nat.reduceSub, Nat.reduceMul, Int.reduceLT, Int.reduceLE, Int.reduceEq, Int.reduceToNat, Int.reduceAdd, Int.reduceSub, Int.reduceMul, reduceCtorEq, ↓reduceIte, f2, f8, f9, i64_w, e0, e1, e2, hR, e3, e4, e5, e6, e7, e8, e9, e10, e11, e12, e13, e14, e15]
    have hyN : yN n ≤ 2199 := k5
    have res : ∀ {a b : Nat}, DateV s (.tuple #[.agg (List.take 6 [.int .i64 (yN n : Nat), .int .i64 (mN n : Nat), .int .i64 (dN r : Nat), .int .i64 (T / 3600), .int .i64 (T / 60 % 60), .int .i64 (T % 60)]).toArray, .bool true]) := by
      intro _ _
      rw [DateV, if_pos (by omega)]
      have hl := lastI_N (y := yN n) k6 k7
      have hd := dayC_N (y := yN n) (m := mN n) (d := dN r) (by omega) k6 k7 k8
      rw [k10'] at hd
      refine ⟨(yN n : Nat), (mN n : Nat), (dN r : Nat), T / 3600, T / 60 % 60, T % 60, ?_, ?_, rfl⟩
      · simp only [okD, inB, Bool.and_eq_true, decide_eq_true_eq, hl]; omega
      · rw [secI, hd]; omega
    have res := res (a := 0) (b := 0)
    refine condK_dec (fun hm => ?_) fun hm => ?_
    · have e16 : ((n / 146097 : Nat) : Int) * 400 + ((yearN r : Nat) : Int) + 1 = (yN n : Nat) := by rw [yN, hR, if_pos (by omega)]; omega
      have e17 : ((monN r : Nat) : Int) + 3 - 12 = (mN n : Nat) := by rw [mN, hR, if_pos (by omega)]; omega
      simp (disch := omega) only [↓gaW, ↓gaC, ↓gaN, gaP, Nat.reduceEqDiff, Nat.reduceLeDiff, Nat.reduceAdd, Nat.reduceSub, Nat.reduceMul, Int.reduceLT, Int.reduceLE, Int.reduceEq, Int.reduceToNat, Int.reduceAdd, Int.reduceSub, Int.reduceMul, reduceCtorEq, ↓reduceIte, List.getD_cons_zero, List.getD_cons_succ, fillL, splice, List.take_zero, List.drop_zero, List.drop_succ_cons, List.take_succ_cons, List.drop_nil, List.take_nil, f2, f8, f9, i64_w, e16, e17, r1, r2, r3, r4, c2]
      repeat refine And.intro (by first | omega | exact all6 _ _ _ _ _ _) ?_
      refine end_cNt (ro := false) [.int .i64 (yN n : Nat), .int .i64 (mN n : Nat), .int .i64 (dN r : Nat), .int .i64 (T / 3600), .int .i64 (T / 60 % 60), .int .i64 (T % 60)] f2 (by simp only [upd_e, if_true]) (by simp) ⟨rfl, by omega, fun i hi => by simp only [upd_e]; rw [if_neg (by omega), o2 i hi], ?_⟩
      exact res
    · have e16 : ((n / 146097 : Nat) : Int) * 400 + ((yearN r : Nat) : Int) = (yN n : Nat) := by rw [yN, hR, if_neg (by omega)]; omega
      have e17 : ((monN r : Nat) : Int) + 3 = (mN n : Nat) := by rw [mN, hR, if_neg (by omega)]; omega
      simp (disch := omega) only [↓gaW, ↓gaC, ↓gaN, gaP, Nat.reduceEqDiff, Nat.reduceLeDiff, Nat.reduceAdd, Nat.reduceSub, Nat.reduceMul, Int.reduceLT, Int.reduceLE, Int.reduceEq, Int.reduceToNat, Int.reduceAdd, Int.reduceSub, Int.reduceMul, reduceCtorEq, ↓reduceIte, List.getD_cons_zero, List.getD_cons_succ, fillL, splice, List.take_zero, List.drop_zero, List.drop_succ_cons, List.take_succ_cons, List.drop_nil, List.take_nil, f2, f8, f9, i64_w, e16, e17, r1, r2, r3, r4, c2]
      repeat refine And.intro (by first | omega | exact all6 _ _ _ _ _ _) ?_
      refine end_cNt (ro := false) [.int .i64 (yN n : Nat), .int .i64 (mN n : Nat), .int .i64 (dN r : Nat), .int .i64 (T / 3600), .int .i64 (T / 60 % 60), .int .i64 (T % 60)] f2 (by simp only [upd_e, if_true]) (by simp) ⟨rfl, by omega, fun i hi => by simp only [upd_e]; rw [if_neg (by omega), o2 i hi], ?_⟩
      exact res
  simp only [↓gaW, ↓gaN, gaP, Nat.reduceEqDiff, Nat.reduceLeDiff, Nat.reduceAdd, Nat.reduceSub, Nat.reduceMul, Int.reduceLT, Int.reduceLE, Int.reduceEq, Int.reduceToNat, Int.reduceAdd, Int.reduceSub, Int.reduceMul, reduceCtorEq, ↓reduceIte, a0, a1, decide_false, hq, ht, i64_w q (by omega)]
  refine And.intro (by omega) (And.intro (by omega) ?_)
  refine condK_of (fun h => by simp at h) fun _ => ?_
  simp only [↓gaW, ↓gaN, gaP, Nat.reduceEqDiff, Nat.reduceLeDiff, Nat.reduceAdd, Nat.reduceSub, Nat.reduceMul, Int.reduceLT, Int.reduceLE, Int.reduceEq, Int.reduceToNat, Int.reduceAdd, Int.reduceSub, Int.reduceMul, reduceCtorEq, ↓reduceIte, hq, ht, i64_w q (by omega)]
  repeat refine And.intro (by omega) ?_
  refine condK_dec (fun hneg => ?_) fun hpos => ?_
  · simp only [↓gaW, ↓gaC, gaP, Nat.reduceEqDiff, Nat.reduceLeDiff, Nat.reduceAdd, Nat.reduceSub, Nat.reduceMul, Int.reduceLT, Int.reduceLE, Int.reduceEq, Int.reduceToNat, Int.reduceAdd, Int.reduceSub, Int.reduceMul, reduceCtorEq, ↓reduceIte, i64_w (q - 1) (by omega), i64_w (t + 86400) (by omega)]
    rw [D_thn_n]
    refine fin (q - 1 + 719468).toNat (t + 86400) (by omega) (by omega) (by omega) (by omega) (by omega) _ rfl ?_ rfl
    simp only [↓gaW, ↓gaC, ↓gaN, gaP, Nat.reduceEqDiff, Nat.reduceLeDiff, Nat.reduceAdd, Nat.reduceSub, Nat.reduceMul, Int.reduceLT, Int.reduceLE, Int.reduceEq, Int.reduceToNat, Int.reduceAdd, Int.reduceSub, Int.reduceMul, reduceCtorEq, ↓reduceIte]; congr 1; omega
  · rw [vc_skip, D_thn_n]
    refine fin (q + 719468).toNat t (by omega) (by omega) (by omega) (by omega) (by omega) _ rfl ?_ rfl
    simp only [↓gaW, ↓gaC, ↓gaN, gaP, Nat.reduceEqDiff, Nat.reduceLeDiff, Nat.reduceAdd, Nat.reduceSub, Nat.reduceMul, Int.reduceLT, Int.reduceLE, Int.reduceEq, Int.reduceToNat, Int.reduceAdd, Int.reduceSub, Int.reduceMul, reduceCtorEq, ↓reduceIte]; congr 1; omega
end Go.Ga

namespace Go.Ga
open Go Go.Proofs
set_option linter.unusedSimpArgs false
set_option linter.unusedVariables false
set_option maxRecDepth 100000

/-! ### Moments are ordered as their seconds are -/
theorem okD_e {d0 d1 d2 d3 d4 d5 : Int} (h : okD d0 d1 d2 d3 d4 d5 = true) : 1950 ≤ d0 ∧ d0 ≤ 2199 ∧ 1 ≤ d1 ∧ d1 ≤ 12 ∧ 1 ≤ d2 ∧ d2 ≤ lastI d0 d1 ∧ 0 ≤ d3 ∧ d3 ≤ 23 ∧ 0 ≤ d4 ∧ d4 ≤ 59 ∧ 0 ≤ d5 ∧ d5 ≤ 59 := by
  simp only [okD, inB, Bool.and_eq_true, decide_eq_true_eq] at h; omega
theorem yearsR_le {k j : Nat} (h : k ≤ j) : yearsR k ≤ yearsR j := by
  induction h with
  | refl => exact Int.le_refl _
  | step h ih => exact Int.le_trans ih (by rw [yearsR]; split <;> omega)
theorem monthsR_le (y : Int) {k j : Nat} (h : k ≤ j) : j ≤ 12 → monthsR y k ≤ monthsR y j := by
  induction h with
  | refl => intro _; exact Int.le_refl _
  | @step m h ih =>
    intro hj
    have := ih (by omega)
    have := lastI_bd (y := y) (m := (m : Nat) + 1) (by omega) (by omega)
    rw [monthsR]; omega

theorem dayR_lt {y m d y' m' d' : Int} (hy : 1950 ≤ y) (hm : 1 ≤ m ∧ m ≤ 12) (hd : 1 ≤ d ∧ d ≤ lastI y m) (hm' : 1 ≤ m' ∧ m' ≤ 12) (hd' : 1 ≤ d') (h : y < y' ∨ y = y' ∧ (m < m' ∨ m = m' ∧ d < d')) : dayR y m d < dayR y' m' d' := by
  obtain ⟨k, rfl⟩ : ∃ k : Nat, y = 1950 + (k : Nat) := ⟨(y - 1950).toNat, by omega⟩
  obtain ⟨j, rfl⟩ : ∃ j : Nat, m = (j : Nat) + 1 := ⟨(m - 1).toNat, by omega⟩
  obtain ⟨k', rfl⟩ : ∃ k : Nat, y' = 1950 + (k : Nat) := ⟨(y' - 1950).toNat, by omega⟩
  obtain ⟨j', rfl⟩ : ∃ j : Nat, m' = (j : Nat) + 1 := ⟨(m' - 1).toNat, by omega⟩
  have e1 : (1950 + (k : Int) - 1950).toNat = k := by omega
  have e2 : (1950 + (k' : Int) - 1950).toNat = k' := by omega
  have e3 : ((j : Int) + 1 - 1).toNat = j := by omega
  have e4 : ((j' : Int) + 1 - 1).toNat = j' := by omega
  rw [dayR, dayR, e1, e2, e3, e4]
  have s1 : monthsR (1950 + (k : Nat)) (j + 1) = monthsR (1950 + (k : Nat)) j + lastI (1950 + (k : Nat)) ((j : Nat) + 1) := rfl
  rcases h with h | ⟨h, h2⟩
  · have a1 := monthsR_le (1950 + (k : Nat)) (k := j + 1) (j := 12) (by omega) (by omega)
    have a2 := months_year k
    have a3 := yearsR_le (k := k + 1) (j := k') (by omega)
    have a4 := (monthsR_bd (1950 + (k' : Nat)) j' (by omega)).1
    omega
  · have hk : k = k' := by omega
    subst hk
    rcases h2 with h2 | ⟨h2, h3⟩
    · have a1 := monthsR_le (1950 + (k : Nat)) (k := j + 1) (j := j') (by omega) (by omega)
      omega
    · have hj : j = j' := by omega
      subst hj
      omega

/-- The one moment is ahead of the other one. -/
def Lt6 (a0 a1 a2 a3 a4 a5 b0 b1 b2 b3 b4 b5 : Int) : Prop := a0 < b0 ∨ a0 = b0 ∧ (a1 < b1 ∨ a1 = b1 ∧ (a2 < b2 ∨ a2 = b2 ∧ (a3 < b3 ∨ a3 = b3 ∧ (a4 < b4 ∨ a4 = b4 ∧ a5 < b5))))

theorem sec_lt {a0 a1 a2 a3 a4 a5 b0 b1 b2 b3 b4 b5 : Int} (ha : okD a0 a1 a2 a3 a4 a5 = true) (hb : okD b0 b1 b2 b3 b4 b5 = true) (h : Lt6 a0 a1 a2 a3 a4 a5 b0 b1 b2 b3 b4 b5) : secI a0 a1 a2 a3 a4 a5 < secI b0 b1 b2 b3 b4 b5 := by
  have ha := okD_e ha
  have hb := okD_e hb
  rw [secI, secI, dayC_eq (by omega) (by omega), dayC_eq (by omega) (by omega)]
  by_cases hd : a0 = b0 ∧ a1 = b1 ∧ a2 = b2
  · obtain ⟨rfl, rfl, rfl⟩ := hd
    unfold Lt6 at h; omega
  · have := dayR_lt (y := a0) (m := a1) (d := a2) (y' := b0) (m' := b1) (d' := b2) (by omega) (by omega) (by omega) (by omega) (by omega) (by unfold Lt6 at h; omega)
    omega

theorem lt6_tri (a0 a1 a2 a3 a4 a5 b0 b1 b2 b3 b4 b5 : Int) : Lt6 a0 a1 a2 a3 a4 a5 b0 b1 b2 b3 b4 b5 ∨ (a0 = b0 ∧ a1 = b1 ∧ a2 = b2 ∧ a3 = b3 ∧ a4 = b4 ∧ a5 = b5) ∨ Lt6 b0 b1 b2 b3 b4 b5 a0 a1 a2 a3 a4 a5 := by
  unfold Lt6; omega

theorem sec_inj {a0 a1 a2 a3 a4 a5 b0 b1 b2 b3 b4 b5 : Int} (ha : okD a0 a1 a2 a3 a4 a5 = true) (hb : okD b0 b1 b2 b3 b4 b5 = true) (h : secI a0 a1 a2 a3 a4 a5 = secI b0 b1 b2 b3 b4 b5) : a0 = b0 ∧ a1 = b1 ∧ a2 = b2 ∧ a3 = b3 ∧ a4 = b4 ∧ a5 = b5 := by
  rcases lt6_tri a0 a1 a2 a3 a4 a5 b0 b1 b2 b3 b4 b5 with h1 | h1 | h1
  · have := sec_lt ha hb h1; omega
  · exact h1
  · have := sec_lt hb ha h1; omega

theorem sec_range {a0 a1 a2 a3 a4 a5 : Int} (ha : okD a0 a1 a2 a3 a4 a5 = true) : -631152000 ≤ secI a0 a1 a2 a3 a4 a5 ∧ secI a0 a1 a2 a3 a4 a5 ≤ 7258118399 := by
  have e1 : secI 1950 1 1 0 0 0 = -631152000 := by decide +kernel
  have e2 : secI 2199 12 31 23 59 59 = 7258118399 := by decide +kernel
  have hl := okD_e ha
  have h1 : okD 1950 1 1 0 0 0 = true := by decide +kernel
  have h2 : okD 2199 12 31 23 59 59 = true := by decide +kernel
  constructor
  · rcases lt6_tri 1950 1 1 0 0 0 a0 a1 a2 a3 a4 a5 with h | ⟨rfl, rfl, rfl, rfl, rfl, rfl⟩ | h
    · have := sec_lt h1 ha h; omega
    · omega
    · unfold Lt6 at h; omega
  · rcases lt6_tri a0 a1 a2 a3 a4 a5 2199 12 31 23 59 59 with h | ⟨rfl, rfl, rfl, rfl, rfl, rfl⟩ | h
    · have := sec_lt ha h2 h; omega
    · omega
    · have h3 := lastI_bd (y := a0) (m := a1) (by omega) (by omega)
      unfold Lt6 at h; omega

/-! ### A moment's digits -/
def dg (n : Nat) : UInt8 := UInt8.ofNat (48 + n % 10)
def d2 (n : Nat) : List UInt8 := [dg (n / 10), dg n]
def tailL (d1 d2' d3 d4 d5 : Nat) : List UInt8 := d2 d1 ++ (d2 d2' ++ (d2 d3 ++ (d2 d4 ++ (d2 d5 ++ [90]))))
def shortL (d0 d1 d2' d3 d4 d5 : Nat) : List UInt8 := d2 d0 ++ tailL d1 d2' d3 d4 d5
def longL (d0 d1 d2' d3 d4 d5 : Nat) : List UInt8 := d2 (d0 / 100) ++ shortL d0 d1 d2' d3 d4 d5
theorem dg_nat (n : Nat) : (dg n).toNat = 48 + n % 10 := by
  rw [dg, UInt8.toNat_ofNat']; omega
theorem dgV (n : Nat) : u8V (dg n) = .int .u8 (48 + ((n % 10 : Nat) : Int)) := by
  rw [u8V, dg_nat]; congr 1
end Go.Ga

namespace Go.Ga
open Go Go.Proofs
set_option linter.unusedSimpArgs false
set_option linter.unusedVariables false
set_option maxRecDepth 100000

/-- What 'digits' answers. -/
def DigV (nx : Nat) (gt : Nat → Option Blk) (s : Int) (v : Value) : Prop :=
  if -631152000 ≤ s ∧ s ≤ 7258118399 then ∃ d0 d1 d2 d3 d4 d5 : Nat, okD d0 d1 d2 d3 d4 d5 = true ∧ secI d0 d1 d2 d3 d4 d5 = s ∧ ∃ sl, v = .tuple #[sl, .int .i64 d0, .bool true] ∧ BySl nx gt sl (longL d0 d1 d2 d3 d4 d5)
  else v = .tuple #[.slice none 0 0, .int .i64 0, .bool false]

theorem dr (n k : Nat) : ((n : Nat) : Int).tmod (k : Nat) = ((n % k : Nat) : Int) := rfl
theorem dgW (n : Nat) : IntKind.u8.wrap (IntKind.i64.wrap (48 + ((n % 10 : Nat) : Int))) = 48 + ((n % 10 : Nat) : Int) := by
  rw [i64_w _ (by omega), u8_i _ (by omega)]
def dsL (d0 d1 d2' d3 d4 d5 i : Nat) : List UInt8 := d2 (d0 / 100) ++ (d2 d0 ++ ([d1, d2', d3, d4, d5].take i).flatMap d2)

set_option maxHeartbeats 1000000 in
theorem ct_digits {nx : Nat} {gt : Nat → Option Blk} {s : Int} (hs : -9223372036854775808 ≤ s ∧ s ≤ 9223372036854775807) :
    Ct Tryd.prog 87 [.int .i64 s] nx gt fun v nx' gt' => DigV nx' gt' s v := by
  refine Ct.ofT hmx r_clock_digits (by simp [c_clock_digits]) fun b hb => ?_
  simp only [c_clock_digits, ↓gaW, ↓gaV, ↓gaC, ↓gaN, gaP, Nat.reduceEqDiff, Nat.reduceLeDiff, Nat.reduceAdd, Nat.reduceSub, Nat.reduceMul, Int.reduceLT, Int.reduceLE, Int.reduceEq, Int.reduceToNat, Int.reduceAdd, Int.reduceSub, Int.reduceMul, reduceCtorEq, ↓reduceIte, List.getD_cons_zero, List.getD_cons_succ, fillL, splice, List.take_zero, List.drop_zero, List.drop_succ_cons, List.take_succ_cons, List.drop_nil, List.take_nil]
  refine callK_of (ct_Date hs) (fun v n1 g1 l1 k1 hC => ?_) hb
  by_cases hr : -631152000 ≤ s ∧ s ≤ 7258118399
  · rw [DateV, if_pos hr] at hC
    obtain ⟨e0, e1, e2, e3, e4, e5, ho, hsec, rfl⟩ := hC
    have hb6 := okD_e ho
    have hlb := lastI_bd (y := e0) (m := e1) (by omega) (by omega)
    obtain ⟨d0, rfl⟩ : ∃ n : Nat, e0 = n := ⟨e0.toNat, by omega⟩
    obtain ⟨d1, rfl⟩ : ∃ n : Nat, e1 = n := ⟨e1.toNat, by omega⟩
    obtain ⟨d2', rfl⟩ : ∃ n : Nat, e2 = n := ⟨e2.toNat, by omega⟩
    obtain ⟨d3, rfl⟩ : ∃ n : Nat, e3 = n := ⟨e3.toNat, by omega⟩
    obtain ⟨d4, rfl⟩ : ∃ n : Nat, e4 = n := ⟨e4.toNat, by omega⟩
    obtain ⟨d5, rfl⟩ : ∃ n : Nat, e5 = n := ⟨e5.toNat, by omega⟩
    have q1 : ((d0 : Nat) : Int).tdiv 1000 = ((d0 / 100 / 10 % 10 : Nat) : Int) := by rw [Nat.mod_eq_of_lt (by omega), Nat.div_div_eq_div_mul]; rfl
    have q2 : ((d0 : Nat) : Int).tdiv 100 = ((d0 / 100 : Nat) : Int) := rfl
    have q3 : ((d0 : Nat) : Int).tdiv 10 = ((d0 / 10 : Nat) : Int) := rfl
    have q4 : ((d0 : Nat) : Int).tmod 10 = ((d0 % 10 : Nat) : Int) := rfl
    have q5 : ((d0 / 100 : Nat) : Int).tmod 10 = ((d0 / 100 % 10 : Nat) : Int) := rfl
    have q6 : ((d0 / 10 : Nat) : Int).tmod 10 = ((d0 / 10 % 10 : Nat) : Int) := rfl
    simp only [↓gaW, ↓gaV, ↓gaC, ↓gaN, gaP, Nat.reduceEqDiff, Nat.reduceLeDiff, Nat.reduceAdd, Nat.reduceSub, Nat.reduceMul, Int.reduceLT, Int.reduceLE, Int.reduceEq, Int.reduceToNat, Int.reduceAdd, Int.reduceSub, Int.reduceMul, reduceCtorEq, ↓reduceIte, List.getD_cons_zero, List.getD_cons_succ, fillL, splice, List.take_zero, List.drop_zero, List.drop_succ_cons, List.take_succ_cons, List.drop_nil, List.take_nil, q1, q2, q3, q4, q5, q6, i64_w ((d0 / 100 : Nat) : Int) (by omega), i64_w ((d0 / 10 : Nat) : Int) (by omega), i64_w ((d0 / 100 / 10 % 10 : Nat) : Int) (by omega), dgW, ← dgV]
    have all6 : ∀ v ∈ [Value.int .i64 (d0 : Nat), .int .i64 (d1 : Nat), .int .i64 (d2' : Nat), .int .i64 (d3 : Nat), .int .i64 (d4 : Nat), .int .i64 (d5 : Nat)], cellVal v = true := by
      intro v hv
      simp only [List.mem_cons, List.not_mem_nil, or_false] at hv
      rcases hv with rfl | rfl | rfl | rfl | rfl | rfl <;> rfl
    repeat refine And.intro (by first | omega | exact all6) ?_
    have fp : ∀ i, i < 5 → dsL d0 d1 d2' d3 d4 d5 (i + 1) = dsL d0 d1 d2' d3 d4 d5 i ++ d2 ([d1, d2', d3, d4, d5].getD i 0) := by
      intro i hi
      rcases i with _ | _ | _ | _ | _ | i <;> first | rfl | omega
    have hcell : ∀ i, i < 5 → ([Value.int .i64 (d0 : Nat), .int .i64 (d1 : Nat), .int .i64 (d2' : Nat), .int .i64 (d3 : Nat), .int .i64 (d4 : Nat), .int .i64 (d5 : Nat)] : List Value).getD (1 + i) undef = .int .i64 (([d1, d2', d3, d4, d5].getD i 0 : Nat) : Int) := by
      intro i hi
      rcases i with _ | _ | _ | _ | _ | i <;> first | rfl | omega
    have hbd : ∀ i, i < 5 → [d1, d2', d3, d4, d5].getD i 0 < 100 := by
      intro i hi
      rcases i with _ | _ | _ | _ | _ | i <;> simp only [List.getD_cons_zero, List.getD_cons_succ] <;> omega
    have hlen : ∀ i, i ≤ 5 → (dsL d0 d1 d2' d3 d4 d5 i).length = 4 + 2 * i := by
      intro i hi
      rcases i with _ | _ | _ | _ | _ | _ | i <;> first | rfl | omega
    refine loop_of (fun j f m => ∃ (i x : Nat) (g : Nat → Option Blk) (A : Option Addr), j = 5 - i ∧ i ≤ 5 ∧ f 5 = .pointer (some ⟨n1, 0, none⟩) ∧ f 40 = .slice (some ⟨n1, 1, none⟩) 5 5 ∧ f 41 = .int .i64 5 ∧ f 42 = .int .i64 (i : Nat) ∧ f 7 = .slice A (4 + 2 * i) (4 + 2 * i) ∧ m = ⟨x, b, g⟩ ∧ n1 + 1 ≤ x ∧ (∀ i, i < nx → g i = gt i) ∧
      g n1 = some (.cells [.int .i64 (d0 : Nat), .int .i64 (d1 : Nat), .int .i64 (d2' : Nat), .int .i64 (d3 : Nat), .int .i64 (d4 : Nat), .int .i64 (d5 : Nat)] false) ∧ Grow (n1 + 1) b x g 1 A (4 + 2 * i) ((dsL d0 d1 d2' d3 d4 d5 i).map u8V) ∧ (0 < i → Own (n1 + 1) b x g 1 A (4 + 2 * i) ((dsL d0 d1 d2' d3 d4 d5 i).map u8V))) 5
      ⟨0, n1 + 2, _, some ⟨n1 + 1, 0, none⟩, rfl, by omega, rfl, rfl, rfl, rfl, rfl, rfl, by omega, fun i hi => by simp only [upd_e]; rw [if_neg (by omega), if_neg (by omega), if_neg (by omega), k1 i hi], by simp [upd_e], Grow.lit (ro := false) (by omega) (by simp only [upd_e, if_true]; rfl) rfl, fun h => absurd h (Nat.lt_irrefl 0)⟩ ?_
    rintro j f m ⟨i, x, g, A, rfl, hi, h5, h40, h41, h42, h7, rfl, hx, hg, hgn, hgr, hown⟩
    simp only [↓gaW, ↓gaV, ↓gaC, ↓gaN, gaP, Nat.reduceEqDiff, Nat.reduceLeDiff, Nat.reduceAdd, Nat.reduceSub, Nat.reduceMul, Int.reduceLT, Int.reduceLE, Int.reduceEq, Int.reduceToNat, Int.reduceAdd, Int.reduceSub, Int.reduceMul, reduceCtorEq, ↓reduceIte, h41, h42]
    refine condK_dec (fun hlt => ?_) fun hge => ?_
    · have hi5 : i < 5 := by omega
      have hd := hbd i hi5
      obtain ⟨n, hn⟩ : ∃ n, [d1, d2', d3, d4, d5].getD i 0 = n := ⟨_, rfl⟩
      have hc := hcell i hi5
      have hf := fp i hi5
      rw [hn] at hd hc hf
      have e1 : ((n : Nat) : Int).tdiv 10 = ((n / 10 % 10 : Nat) : Int) := by rw [Nat.mod_eq_of_lt (by omega)]; rfl
      have e2 : ((n : Nat) : Int).tmod 10 = ((n % 10 : Nat) : Int) := rfl
      simp only [↓gaW, ↓gaV, ↓gaC, ↓gaN, gaP, Nat.reduceEqDiff, Nat.reduceLeDiff, Nat.reduceAdd, Nat.reduceSub, Nat.reduceMul, Int.reduceLT, Int.reduceLE, Int.reduceEq, Int.reduceToNat, Int.reduceAdd, Int.reduceSub, Int.reduceMul, reduceCtorEq, ↓reduceIte, List.getD_cons_zero, List.getD_cons_succ, fillL, splice, List.take_zero, List.drop_zero, List.drop_succ_cons, List.take_succ_cons, List.drop_nil, List.take_nil, h5, h40, h41, h42, h7, hgn, Nat.mul_one, hc, e1, e2, i64_w ((n / 10 % 10 : Nat) : Int) (by omega), dgW, ← dgV]
      repeat refine And.intro (by omega) ?_
      rw [row_new (by simp)]
      simp only [↓gaW, ↓gaV, ↓gaC, ↓gaN, gaP, Nat.reduceEqDiff, Nat.reduceLeDiff, Nat.reduceAdd, Nat.reduceSub, Nat.reduceMul, Int.reduceLT, Int.reduceLE, Int.reduceEq, Int.reduceToNat, Int.reduceAdd, Int.reduceSub, Int.reduceMul, reduceCtorEq, ↓reduceIte, List.getD_cons_zero, List.getD_cons_succ, fillL, splice, List.take_zero, List.drop_zero, List.drop_succ_cons, List.take_succ_cons, List.drop_nil, List.take_nil]
      refine grow_append (nx := n1 + 1) (hgr.keep (by omega) (fun k hk => by simp only [upd_e]; rw [if_neg (by omega)])) (by omega) (by omega) (by omega) (by omega) (by simp) (by simp [cellVal, u8V, Value.oneCell']) (by omega) (by omega) fun g' hg' how => ?_
      have e3 : (i : Int) + 1 = ((i + 1 : Nat) : Int) := by omega
      have e4 : 4 + 2 * i + 2 = 4 + 2 * (i + 1) := by omega
      have e5 : (dsL d0 d1 d2' d3 d4 d5 i).map u8V ++ [u8V (dg (n / 10)), u8V (dg n)] = (dsL d0 d1 d2' d3 d4 d5 (i + 1)).map u8V := by rw [hf, List.map_append]; rfl
      rw [e4, e5] at how
      simp only [↓gaW, ↓gaV, ↓gaC, ↓gaN, gaP, Nat.reduceEqDiff, Nat.reduceLeDiff, Nat.reduceAdd, Nat.reduceSub, Nat.reduceMul, Int.reduceLT, Int.reduceLE, Int.reduceEq, Int.reduceToNat, Int.reduceAdd, Int.reduceSub, Int.reduceMul, reduceCtorEq, ↓reduceIte, h42, e3, i64_w ((i + 1 : Nat) : Int) (by omega), e4, loopK_n]
      exact ⟨5 - (i + 1), by omega, i + 1, x + 1 + 1, g', some ⟨x + 1, 0, some 1⟩, rfl, by omega, h5, h40, h41, rfl, rfl, rfl, by omega, fun k hk => by rw [hg' k (by omega)]; simp only [upd_e]; rw [if_neg (by omega), hg k hk], by rw [hg' n1 (by omega)]; simp only [upd_e]; rw [if_neg (by omega), hgn], .inl how, fun _ => how⟩
    · have hi5 : i = 5 := by omega
      subst hi5
      simp only [↓gaW, ↓gaV, ↓gaC, ↓gaN, gaP, Nat.reduceEqDiff, Nat.reduceLeDiff, Nat.reduceAdd, Nat.reduceSub, Nat.reduceMul, Int.reduceLT, Int.reduceLE, Int.reduceEq, Int.reduceToNat, Int.reduceAdd, Int.reduceSub, Int.reduceMul, reduceCtorEq, ↓reduceIte, List.getD_cons_zero, List.getD_cons_succ, fillL, splice, List.take_zero, List.drop_zero, List.drop_succ_cons, List.take_succ_cons, List.drop_nil, List.take_nil, h5, h40, h41, h42, h7]
      refine vc_tree_same ?_
      obtain ⟨hl, ⟨_, h0⟩ | ⟨q, rfl, q1, q2, q3, q4⟩⟩ := hown (by omega)
      · omega
      have hln := hlen 5 (Nat.le_refl 5)
      obtain ⟨G, hG⟩ : ∃ G, G = upd (upd (upd g x (some (.cells [.int .u8 90] false))) q none) (x + 1) (some (.cells ((dsL d0 d1 d2' d3 d4 d5 5).map u8V ++ [.int .u8 90]) false)) := ⟨_, rfl⟩
      have hap : ∀ K, appendK 1 1 ⟨x + 1, b, upd g x (some (.cells [.int .u8 90] false))⟩ (some ⟨q, 0, some 1⟩) 14 14 1 [.int .u8 90] K =
          K (.slice (some ⟨x + 1, 0, some 1⟩) 15 15) ⟨x + 1 + 1, b, G⟩ := by
        intro K
        subst hG
        have hqx : q ≠ x := by omega
        have hr1 : rowOf ⟨x + 1, b, upd g x (some (.cells [.int .u8 90] false))⟩ (some ⟨q, 0, some 1⟩) 14 = some ((dsL d0 d1 d2' d3 d4 d5 5).map u8V) := by
          simp [rowOf, upd, hqx, q4, hln]
          exact List.take_of_length_le (by simp [hln])
        simp [appendK, hr1, upd, hqx, q4, q3, cellVal, Value.oneCell', Mem.kill, Mem.add, Mem.set]
        exact Iff.rfl
      refine ⟨fun k => if k = 2 then .slice (some ⟨x + 1, 0, some 1⟩) 15 15 else if k = 3 then .int .i64 (d0 : Nat) else if k = 4 then .bool true else botV, ⟨x + 1 + 1, b, G⟩, ?_, ?_, ?_⟩
      rotate_left 2
      · have hnx : ¬ n1 = x := by omega
        have hr1x : rowOf ⟨x + 1, b, upd g x (some (.cells [.int .u8 90] false))⟩ (some ⟨x, 0, none⟩) 1 = some [.int .u8 90] := by simp [rowOf, upd]
        have hGn : G n1 = some (.cells [.int .i64 (d0 : Nat), .int .i64 (d1 : Nat), .int .i64 (d2' : Nat), .int .i64 (d3 : Nat), .int .i64 (d4 : Nat), .int .i64 (d5 : Nat)] false) := by
          subst hG
          have h1 : ¬ n1 = x + 1 := by omega
          have h2 : ¬ n1 = q := by omega
          simp [upd, hnx, h1, h2, hgn]
        simp only [tree_s, allP_cons, allP_nil, List.getElem?_cons_zero, List.getElem?_cons_succ, Nat.reducePow, Nat.reduceOr, Option.map, t_clock_digits, ↓gaW, ↓gaV, ↓gaC, ↓gaN, gaP, Nat.reduceEqDiff, Nat.reduceLeDiff, Nat.reduceAdd, Nat.reduceSub, Nat.reduceMul, Int.reduceLT, Int.reduceLE, Int.reduceEq, Int.reduceToNat, Int.reduceAdd, Int.reduceSub, Int.reduceMul, reduceCtorEq, ↓reduceIte, List.getD_cons_zero, List.getD_cons_succ, fillL, splice, List.take_zero, List.drop_zero, List.drop_succ_cons, List.take_succ_cons, List.drop_nil, List.take_nil, h5, h7, hgn, hap, hr1x, hGn, hnx]
        repeat' refine And.intro ?_ ?_
        all_goals first
          | omega
          | rfl
          | (intro i
             rcases (show i = 2 ∨ i = 3 ∨ i = 4 ∨ (i ≠ 2 ∧ i ≠ 3 ∧ i ≠ 4) by omega) with rfl | rfl | rfl | ⟨a1, a2, a3⟩
             · exact .inl rfl
             · exact .inl rfl
             · exact .inl rfl
             · right; simp only [if_neg a1, if_neg a2, if_neg a3])
      · simp only [gaE, implies_true, Nat.le_refl, Int.sub_zero, Nat.sub_zero, Int.le_refl, true_or, or_true, ↓gaW, ↓gaV, ↓gaC, ↓gaN, gaP, Nat.reduceEqDiff, Nat.reduceLeDiff, Nat.reduceAdd, Nat.reduceSub, Nat.reduceMul, Int.reduceLT, Int.reduceLE, Int.reduceEq, Int.reduceToNat, Int.reduceAdd, Int.reduceSub, Int.reduceMul, reduceCtorEq, ↓reduceIte, Nat.reduceEqDiff]
        have e90 : (dsL d0 d1 d2' d3 d4 d5 5).map u8V ++ [.int .u8 90] = (longL d0 d1 d2' d3 d4 d5).map u8V := rfl
        rw [e90] at hG
        have hll : (longL d0 d1 d2' d3 d4 d5).length = 15 := rfl
        have hGx : G (x + 1) = some (.cells ((longL d0 d1 d2' d3 d4 d5).map u8V) false) := by subst hG; simp only [upd_e, if_true]
        refine ⟨by omega, fun k hk => by subst hG; simp only [upd_e]; rw [if_neg (by omega), if_neg (by omega), if_neg (by omega), hg k hk], ?_⟩
        rw [DigV, if_pos hr]
        exact ⟨d0, d1, d2', d3, d4, d5, ho, hsec, _, rfl, (Grow.byte (nx := 0) (b := 0) (.inl ⟨by simp [hll], .inr ⟨x + 1, rfl, by omega, by omega, by omega, hGx⟩⟩))⟩
      · exact ⟨rfl, by show x ≤ x + 1 + 1; omega, fun k hk => by
          have hk' : k < b := hk
          subst hG; show upd _ _ _ k = g k; simp only [upd_e]; rw [if_neg (by omega), if_neg (by omega), if_neg (by omega)]⟩
  · rw [DateV, if_neg hr] at hC
    subst hC
    simp only [↓gaW, ↓gaV, ↓gaC, ↓gaN, gaP, Nat.reduceEqDiff, Nat.reduceLeDiff, Nat.reduceAdd, Nat.reduceSub, Nat.reduceMul, Int.reduceLT, Int.reduceLE, Int.reduceEq, Int.reduceToNat, Int.reduceAdd, Int.reduceSub, Int.reduceMul, reduceCtorEq, ↓reduceIte, gaE, implies_true, Nat.le_refl, Int.sub_zero, Nat.sub_zero, Int.le_refl, true_or, or_true, List.getD_cons_zero, List.getD_cons_succ, fillL, splice, List.take_zero, List.drop_zero, List.drop_succ_cons, List.take_succ_cons, List.drop_nil, List.take_nil]
    repeat refine And.intro (by first | omega | simp [cellVal, Value.oneCell']) ?_
    refine ⟨fun k hk => by rw [if_neg (by omega), if_neg (by omega), k1 k hk], ?_⟩
    rw [DigV, if_neg hr]
end Go.Ga

namespace Go.Ga
open Go Go.Proofs
set_option linter.unusedSimpArgs false
set_option linter.unusedVariables false
set_option maxRecDepth 100000

/-- A moment. -/
structure D6 where
  a : Nat
  b : Nat
  c : Nat
  d : Nat
  e : Nat
  f : Nat
def D6.ok (x : D6) : Prop := okD x.a x.b x.c x.d x.e x.f = true
def D6.sec (x : D6) : Int := secI x.a x.b x.c x.d x.e x.f
def D6.long (x : D6) : List UInt8 := longL x.a x.b x.c x.d x.e x.f
def D6.short (x : D6) : List UInt8 := shortL x.a x.b x.c x.d x.e x.f
def D6.cells (x : D6) : List Value := [.int .i64 x.a, .int .i64 x.b, .int .i64 x.c, .int .i64 x.d, .int .i64 x.e, .int .i64 x.f]
def inS (s : Int) : Prop := -631152000 ≤ s ∧ s ≤ 7258118399
/-- The moment of seconds. -/
def DateO (s : Int) : Option D6 → Prop
  | some x => x.ok ∧ x.sec = s
  | none => ¬ inS s

theorem date_ex {s : Int} (hs : -9223372036854775808 ≤ s ∧ s ≤ 9223372036854775807) : ∃ o, DateO s o := by
  by_cases hr : inS s
  · obtain ⟨res, m', _, v, _, _, _, _, hC⟩ := ct_Date (nx := 0) (gt := fun _ => none) hs 0 (Nat.le_refl 0) (Nat.le_refl 0)
    have hr' : -631152000 ≤ s ∧ s ≤ 7258118399 := hr
    rw [DateV, if_pos hr'] at hC
    obtain ⟨e0, e1, e2, e3, e4, e5, ho, hsec, _⟩ := hC
    have hb := okD_e ho
    have h0 : ∀ {n : Int}, 0 ≤ n → ((n.toNat : Nat) : Int) = n := fun h => Int.toNat_of_nonneg h
    refine ⟨some ⟨e0.toNat, e1.toNat, e2.toNat, e3.toNat, e4.toNat, e5.toNat⟩, ?_, ?_⟩
    · simp only [D6.ok]; rw [h0 (by omega), h0 (by omega), h0 (by omega), h0 (by omega), h0 (by omega), h0 (by omega)]; exact ho
    · simp only [D6.sec]; rw [h0 (by omega), h0 (by omega), h0 (by omega), h0 (by omega), h0 (by omega), h0 (by omega)]; exact hsec
  · exact ⟨none, hr⟩

theorem D6.in_of {x : D6} (h : x.ok) : inS x.sec := sec_range h
theorem D6.one {x y : D6} (hx : x.ok) (hy : y.ok) (h : x.sec = y.sec) : x = y := by
  obtain ⟨h1, h2, h3, h4, h5, h6⟩ := sec_inj hx hy h
  cases x; cases y
  simp only [D6.mk.injEq]
  simp only at h1 h2 h3 h4 h5 h6
  omega

def dateT : Option D6 → Value
  | some x => .tuple #[.agg x.cells.toArray, .bool true]
  | none => .tuple #[.agg #[.int .i64 0, .int .i64 0, .int .i64 0, .int .i64 0, .int .i64 0, .int .i64 0], .bool false]
section
variable {nx : Nat} {gt : Nat → Option Blk} {s : Int} {o : Option D6}
def digO (nx : Nat) (gt : Nat → Option Blk) (o : Option D6) (v : Value) : Prop := match o with
  | some x => ∃ sl, v = .tuple #[sl, .int .i64 x.a, .bool true] ∧ BySl nx gt sl x.long
  | none => v = .tuple #[.slice none 0 0, .int .i64 0, .bool false]
theorem ct_digO (hs : -9223372036854775808 ≤ s ∧ s ≤ 9223372036854775807) (h : DateO s o) : Ct Tryd.prog 87 [.int .i64 s] nx gt fun v nx' gt' => digO nx' gt' o v := fun b hb =>
  (ct_digits hs b hb).mono fun _ m' _ ⟨v, h1, h2, h3, h4, h5⟩ => ⟨v, h1, h2, h3, h4, by
    cases o with
    | none =>
      have h' : ¬ (-631152000 ≤ s ∧ s ≤ 7258118399) := h
      have h5 : DigV _ _ s v := h5
      rw [DigV, if_neg h'] at h5; exact h5
    | some x =>
      have hs : -631152000 ≤ s ∧ s ≤ 7258118399 := by rw [← h.2]; exact D6.in_of h.1
      have h5 : DigV _ _ s v := h5
      rw [DigV, if_pos hs] at h5
      obtain ⟨d0, d1, d2, d3, d4, d5, k1, k2, sl, rfl, k3⟩ := h5
      have := D6.one (x := ⟨d0, d1, d2, d3, d4, d5⟩) k1 h.1 (k2.trans h.2.symm)
      subst this
      exact ⟨sl, rfl, k3⟩⟩

def strT (l : List UInt8) : Value := .tuple #[.string ⟨l.toArray⟩, .bool true]
def noT : Value := .tuple #[.string ⟨#[]⟩, .bool false]
def longO : Option D6 → Value
  | some x => strT x.long
  | none => noT
def shortO : Option D6 → Value
  | some x => if x.a < 2050 then strT x.short else noT
  | none => noT
def textO : Option D6 → Value
  | some x => if x.a < 2050 then strT x.short else strT x.long
  | none => noT

theorem ct_Long (hs : -9223372036854775808 ≤ s ∧ s ≤ 9223372036854775807) (h : DateO s o) : Ct Tryd.prog 77 [.int .i64 s] nx gt fun v _ _ => v = longO o := by
  refine Ct.of hmx r_clock_Long (by simp [c_clock_Long]) fun b hb => ?_
  simp only [c_clock_Long, ↓gaW, ↓gaV, ↓gaC, ↓gaN, gaP, Nat.reduceEqDiff, Nat.reduceLeDiff, Nat.reduceAdd, Nat.reduceSub, Nat.reduceMul, Int.reduceLT, Int.reduceLE, Int.reduceEq, Int.reduceToNat, Int.reduceAdd, Int.reduceSub, Int.reduceMul, reduceCtorEq, ↓reduceIte]
  refine callK_of (ct_digO hs h) (fun v n1 g1 l1 k1 hC => ?_) hb
  cases o with
  | none =>
    subst hC
    have hr0 : rowOf ⟨n1, b, g1⟩ none 0 = some [] := by simp [rowOf]
    simp only [↓gaW, ↓gaV, ↓gaC, ↓gaN, gaP, Nat.reduceEqDiff, Nat.reduceLeDiff, Nat.reduceAdd, Nat.reduceSub, Nat.reduceMul, Int.reduceLT, Int.reduceLE, Int.reduceEq, Int.reduceToNat, Int.reduceAdd, Int.reduceSub, Int.reduceMul, reduceCtorEq, ↓reduceIte, gaE, implies_true, Nat.le_refl, Int.sub_zero, Nat.sub_zero, Int.le_refl, true_or, or_true, longO, noT, hr0, bytesOf]
    exact ⟨by omega, by omega, by omega, by omega, k1⟩
  | some x =>
    obtain ⟨sl, rfl, A, n, c, rfl, h1, h2, h3⟩ := hC
    simp only [↓gaW, ↓gaV, ↓gaC, ↓gaN, gaP, Nat.reduceEqDiff, Nat.reduceLeDiff, Nat.reduceAdd, Nat.reduceSub, Nat.reduceMul, Int.reduceLT, Int.reduceLE, Int.reduceEq, Int.reduceToNat, Int.reduceAdd, Int.reduceSub, Int.reduceMul, reduceCtorEq, ↓reduceIte, gaE, implies_true, Nat.le_refl, Int.sub_zero, Nat.sub_zero, Int.le_refl, true_or, or_true, longO, strT, h3.rowOf, bytesOf_map]
    exact ⟨by omega, by omega, by omega, by omega, k1⟩

theorem ct_Short (hs : -9223372036854775808 ≤ s ∧ s ≤ 9223372036854775807) (h : DateO s o) : Ct Tryd.prog 76 [.int .i64 s] nx gt fun v _ _ => v = shortO o := by
  refine Ct.of hmx r_clock_Short (by simp [c_clock_Short]) fun b hb => ?_
  simp only [c_clock_Short, ↓gaW, ↓gaV, ↓gaC, ↓gaN, gaP, Nat.reduceEqDiff, Nat.reduceLeDiff, Nat.reduceAdd, Nat.reduceSub, Nat.reduceMul, Int.reduceLT, Int.reduceLE, Int.reduceEq, Int.reduceToNat, Int.reduceAdd, Int.reduceSub, Int.reduceMul, reduceCtorEq, ↓reduceIte]
  refine callK_of (ct_digO hs h) (fun v n1 g1 l1 k1 hC => ?_) hb
  cases o with
  | none =>
    subst hC
    simp only [↓gaW, ↓gaV, ↓gaC, ↓gaN, gaP, Nat.reduceEqDiff, Nat.reduceLeDiff, Nat.reduceAdd, Nat.reduceSub, Nat.reduceMul, Int.reduceLT, Int.reduceLE, Int.reduceEq, Int.reduceToNat, Int.reduceAdd, Int.reduceSub, Int.reduceMul, reduceCtorEq, ↓reduceIte, gaE, implies_true, Nat.le_refl, Int.sub_zero, Nat.sub_zero, Int.le_refl, true_or, or_true, shortO, noT]
    exact ⟨by omega, by omega, by omega, by omega, k1⟩
  | some x =>
    obtain ⟨sl, rfl, A, n, c, rfl, h1, h2, h3⟩ := hC
    have hn : n = 15 := by rw [← h2]; rfl
    subst hn
    obtain ⟨a, ce, ro, rfl, e2, e3, e4, e5⟩ := h3.cells (by omega)
    have hp := (h3.part (lo := 2) (hi := 15) (by omega) (by omega) rfl).rowOf (b := b)
    have hsp := h3.spot a rfl
    by_cases hy : (2050 : Int) ≤ (x.a : Int)
    · simp only [↓gaW, ↓gaV, ↓gaC, ↓gaN, gaP, Nat.reduceEqDiff, Nat.reduceLeDiff, Nat.reduceAdd, Nat.reduceSub, Nat.reduceMul, Int.reduceLT, Int.reduceLE, Int.reduceEq, Int.reduceToNat, Int.reduceAdd, Int.reduceSub, Int.reduceMul, reduceCtorEq, ↓reduceIte, gaE, implies_true, Nat.le_refl, Int.sub_zero, Nat.sub_zero, Int.le_refl, true_or, or_true, shortO, hy, decide_true]
      exact ⟨by omega, by omega, by omega, by omega, k1, by rw [if_neg (by omega)]; rfl⟩
    · have hl : ((x.long.map u8V).drop 2).take (15 - 2) = x.short.map u8V := rfl
      rw [hl] at hp
      simp only [↓gaW, ↓gaV, ↓gaC, ↓gaN, gaP, Nat.reduceEqDiff, Nat.reduceLeDiff, Nat.reduceAdd, Nat.reduceSub, Nat.reduceMul, Int.reduceLT, Int.reduceLE, Int.reduceEq, Int.reduceToNat, Int.reduceAdd, Int.reduceSub, Int.reduceMul, reduceCtorEq, ↓reduceIte, gaE, implies_true, Nat.le_refl, Int.sub_zero, Nat.sub_zero, Int.le_refl, true_or, or_true, shortO, hy, decide_false, hp, bytesOf_map]
      repeat refine And.intro (by omega) ?_
      refine And.intro (by rcases hsp with h | h <;> simp [h]) ?_
      exact ⟨by omega, k1, by rw [if_pos (by omega)]; rfl⟩

theorem ct_Text (hs : -9223372036854775808 ≤ s ∧ s ≤ 9223372036854775807) (h : DateO s o) : Ct Tryd.prog 63 [.int .i64 s] nx gt fun v _ _ => v = textO o := by
  refine Ct.of hmx r_clock_Text (by simp [c_clock_Text]) fun b hb => ?_
  simp only [c_clock_Text, ↓gaW, ↓gaV, ↓gaC, ↓gaN, gaP, Nat.reduceEqDiff, Nat.reduceLeDiff, Nat.reduceAdd, Nat.reduceSub, Nat.reduceMul, Int.reduceLT, Int.reduceLE, Int.reduceEq, Int.reduceToNat, Int.reduceAdd, Int.reduceSub, Int.reduceMul, reduceCtorEq, ↓reduceIte]
  refine callK_of (ct_Short hs h) (fun v n1 g1 l1 k1 hC => ?_) hb
  have long : shortO o = noT → textO o = longO o := by
    intro h
    cases o with
    | none => rfl
    | some x =>
      simp only [shortO, textO, longO] at h ⊢
      split at h
      · simp [strT, noT] at h
      · rename_i h2; rw [if_neg h2]
  by_cases hsh : shortO o = noT
  · rw [hsh, noT] at hC
    subst hC
    simp only [↓gaW, ↓gaV, ↓gaC, ↓gaN, gaP, Nat.reduceEqDiff, Nat.reduceLeDiff, Nat.reduceAdd, Nat.reduceSub, Nat.reduceMul, Int.reduceLT, Int.reduceLE, Int.reduceEq, Int.reduceToNat, Int.reduceAdd, Int.reduceSub, Int.reduceMul, reduceCtorEq, ↓reduceIte]
    repeat refine And.intro (by omega) ?_
    refine callK_of (ct_Long hs h) (fun v n2 g2 l2 k2 hC => ?_) (by omega)
    rw [← long hsh] at hC
    cases o with
    | none =>
      subst hC
      simp only [↓gaW, ↓gaV, ↓gaC, ↓gaN, gaP, Nat.reduceEqDiff, Nat.reduceLeDiff, Nat.reduceAdd, Nat.reduceSub, Nat.reduceMul, Int.reduceLT, Int.reduceLE, Int.reduceEq, Int.reduceToNat, Int.reduceAdd, Int.reduceSub, Int.reduceMul, reduceCtorEq, ↓reduceIte, gaE, implies_true, Nat.le_refl, Int.sub_zero, Nat.sub_zero, Int.le_refl, true_or, or_true, textO, noT]
      exact ⟨by omega, by omega, by omega, fun k hk => by rw [k2 k (by omega), k1 k hk]⟩
    | some x =>
      have ht : textO (some x) = strT x.long := by
        simp only [textO]
        rw [if_neg]
        intro hlt
        simp [shortO, hlt, strT, noT] at hsh
      rw [ht, strT] at hC
      subst hC
      simp only [↓gaW, ↓gaV, ↓gaC, ↓gaN, gaP, Nat.reduceEqDiff, Nat.reduceLeDiff, Nat.reduceAdd, Nat.reduceSub, Nat.reduceMul, Int.reduceLT, Int.reduceLE, Int.reduceEq, Int.reduceToNat, Int.reduceAdd, Int.reduceSub, Int.reduceMul, reduceCtorEq, ↓reduceIte, gaE, implies_true, Nat.le_refl, Int.sub_zero, Nat.sub_zero, Int.le_refl, true_or, or_true, ht, strT]
      exact ⟨by omega, by omega, by omega, fun k hk => by rw [k2 k (by omega), k1 k hk]⟩
  · obtain ⟨x, rfl, hx⟩ : ∃ x : D6, o = some x ∧ x.a < 2050 := by
      cases o with
      | none => exact absurd rfl hsh
      | some x =>
        refine ⟨x, rfl, ?_⟩
        rcases Nat.lt_or_ge x.a 2050 with h | h
        · exact h
        · simp [shortO, Nat.not_lt.2 h] at hsh
    have e1 : shortO (some x) = strT x.short := by simp [shortO, hx]
    have e2 : textO (some x) = strT x.short := by simp [textO, hx]
    rw [e1, strT] at hC
    subst hC
    simp only [↓gaW, ↓gaV, ↓gaC, ↓gaN, gaP, Nat.reduceEqDiff, Nat.reduceLeDiff, Nat.reduceAdd, Nat.reduceSub, Nat.reduceMul, Int.reduceLT, Int.reduceLE, Int.reduceEq, Int.reduceToNat, Int.reduceAdd, Int.reduceSub, Int.reduceMul, reduceCtorEq, ↓reduceIte, gaE, implies_true, Nat.le_refl, Int.sub_zero, Nat.sub_zero, Int.le_refl, true_or, or_true, e2, strT]
    exact ⟨by omega, by omega, by omega, k1⟩
end
end Go.Ga

namespace Go.Ga
open Go Go.Proofs
set_option linter.unusedSimpArgs false
set_option linter.unusedVariables false
set_option maxRecDepth 100000

section
variable {nx : Nat} {gt : Nat → Option Blk} {s : Int} {o : Option D6}

theorem all6 (x : D6) : ∀ v ∈ x.cells, cellVal v = true := by
  intro v hv; simp only [D6.cells, List.mem_cons, List.not_mem_nil, or_false] at hv
  rcases hv with rfl | rfl | rfl | rfl | rfl | rfl <;> rfl

end
end Go.Ga

/- Equality of arrays of whole numbers. -/
namespace Go.Ga
open Go

def eqK (P : Program) (op : BinOp) (t : TypeId) (xs ys : Array Value) (K : Bool → Prop) : Prop :=
  xs.toList.all plain = true ∧ ys.toList.all plain = true ∧
  match pureRun P (do eqGuard op t (.tmp 0) (.tmp 0) (.agg xs) (.agg ys); binOp op t (.agg xs) (.agg ys)) with
  | some (.bool b) => K b
  | _ => False
end Go.Ga

namespace Go.Ga
open Go Go.Proofs
set_option linter.unusedSimpArgs false
set_option linter.unusedVariables false
set_option maxRecDepth 100000

section
variable {nx : Nat} {gt : Nat → Option Blk}
theorem SecV_shape (d0 d1 d2 d3 d4 d5 : Int) : ∃ a t, SecV d0 d1 d2 d3 d4 d5 = .tuple #[.int .i64 a, .bool t] := by
  unfold SecV; split <;> exact ⟨_, _, rfl⟩

/-- A date's array. -/
def arrO : Option D6 → List Int
  | some x => [x.a, x.b, x.c, x.d, x.e, x.f]
  | none => [0, 0, 0, 0, 0, 0]
end
end Go.Ga

namespace Go.Ga
open Go Go.Proofs
set_option linter.unusedSimpArgs false
set_option linter.unusedVariables false
set_option maxRecDepth 100000

/-- The number of two digits at a place; 999: they are none. -/
def pairI (L : List UInt8) (i : Nat) : Int :=
  if 48 ≤ (L.getD i 0).toNat ∧ (L.getD i 0).toNat ≤ 57 ∧ 48 ≤ (L.getD (i + 1) 0).toNat ∧ (L.getD (i + 1) 0).toNat ≤ 57 then (((L.getD i 0).toNat - 48) * 10 + ((L.getD (i + 1) 0).toNat - 48) : Nat) else 999
theorem pairI_in (L : List UInt8) (i : Nat) : 0 ≤ pairI L i ∧ (pairI L i ≤ 99 ∨ pairI L i = 999) := by
  unfold pairI; split <;> omega
def noR : Value := .tuple #[.int .i64 0, .bool false]
def yearI (L : List UInt8) : Int := if pairI L 0 < 50 then pairI L 0 + 2000 else pairI L 0 + 1900
/-- What is read of a text. -/
def readL (L : List UInt8) : Value := if L.length = 15 ∧ (L.getD 14 0).toNat = 90 then (if pairI L 0 = 999 ∨ pairI L 2 = 999 then noR else SecV (pairI L 0 * 100 + pairI L 2) (pairI L 4) (pairI L 6) (pairI L 8) (pairI L 10) (pairI L 12)) else noR
def readS (L : List UInt8) : Value := if L.length = 13 ∧ (L.getD 12 0).toNat = 90 then SecV (yearI L) (pairI L 2) (pairI L 4) (pairI L 6) (pairI L 8) (pairI L 10) else noR

section
variable {nx : Nat} {gt : Nat → Option Blk}

theorem secV_no {d0 d1 d2 d3 d4 d5 : Int} (h : 2199 < d0 ∨ d1 = 999 ∨ d2 = 999 ∨ d3 = 999 ∨ d4 = 999 ∨ d5 = 999) : SecV d0 d1 d2 d3 d4 d5 = noR := by
  rw [SecV, if_neg, noR]
  intro hh
  have := okD_e hh
  have h31 := lastI_bd (y := d0) (m := d1) (by omega) (by omega)
  omega

end
end Go.Ga

namespace Go.Ga
open Go Go.Proofs
set_option linter.unusedSimpArgs false
set_option linter.unusedVariables false
set_option maxRecDepth 100000
attribute [local irreducible] appendK

theorem readL_no {L : List UInt8} {i : Nat} (hi : i < 7) (h : pairI L (2 * i) = 999) : readL L = noR := by
  rw [readL]
  split
  · split
    · rfl
    · have : i = 0 ∨ i = 1 ∨ i = 2 ∨ i = 3 ∨ i = 4 ∨ i = 5 ∨ i = 6 := by omega
      rcases this with rfl | rfl | rfl | rfl | rfl | rfl | rfl <;> simp only [Nat.reduceMul] at h <;> first | (exact secV_no (by omega)) | omega
  · rfl
theorem readS_no {L : List UInt8} {i : Nat} (hi : i < 6) (h : pairI L (2 * i) = 999) : readS L = noR := by
  rw [readS]
  split
  · have : i = 0 ∨ i = 1 ∨ i = 2 ∨ i = 3 ∨ i = 4 ∨ i = 5 := by omega
    rcases this with rfl | rfl | rfl | rfl | rfl | rfl <;> simp only [Nat.reduceMul] at h <;> refine secV_no ?_
    · rw [yearI, if_neg (by omega)]; omega
    all_goals omega
  · rfl
theorem pairI_bad {L : List UInt8} {i : Nat} (h : (L.getD i 0).toNat < 48 ∨ 57 < (L.getD i 0).toNat ∨ (L.getD (i + 1) 0).toNat < 48 ∨ 57 < (L.getD (i + 1) 0).toNat) : pairI L i = 999 := by
  rw [pairI, if_neg (by omega)]
theorem pairI_ok {L : List UInt8} {i x y : Nat} (hx : (L.getD i 0).toNat = x) (hy : (L.getD (i + 1) 0).toNat = y) (h : 48 ≤ x ∧ x ≤ 57 ∧ 48 ≤ y ∧ y ≤ 57) : pairI L i = ((x : Int) - 48) * 10 + ((y : Int) - 48) := by
  rw [pairI, hx, hy, if_pos h]; omega
def pairsV (L : List UInt8) (n : Nat) : List Value := (List.range n).map fun j => .int .i64 (pairI L (2 * j))
theorem pairsV_succ (L : List UInt8) (n : Nat) : pairsV L (n + 1) = pairsV L n ++ [.int .i64 (pairI L (2 * n))] := by simp [pairsV, List.range_succ]

theorem go_x {P : Program} {d : Option Nat} {n i : Nat} {l : List RO} {f : Regs} {m : Mem} {Q : AEx → Regs → Mem → Prop} : goOps P (⟨d, .xop (.s2a n (.t i)), none⟩ :: l) f m Q = asS (f i) fun A k c => asO A fun a => n ≤ k ∧ 0 < c ∧ goOps P l (putR f d (.pointer (some ⟨a.block, a.off, none⟩))) m Q := by
  have h : goOps P (⟨d, .xop (.s2a n (.t i)), none⟩ :: l) f m Q = XOp.vc f m (fun v m' => goOps P l (putR f d v) m' Q) (.s2a n (.t i)) := rfl
  rw [h]
  simp only [XOp.vc, Rv.ev, asS, asO]
  cases f i with
  | slice a k c => cases a <;> rfl
  | _ => rfl

section
variable {nx : Nat} {gt : Nat → Option Blk}

theorem ct_Read {s : ByteArray} {l : Bool} (hs : s.size < 1000000) : Ct Tryd.prog 65 [.string s, .bool l] nx gt fun v _ _ => v = if l = true then readL s.data.toList else readS s.data.toList := by
  refine Ct.of hmx r_clock_Read (by simp [c_clock_Read]) fun b hb => ?_
  have hlen : s.data.toList.length = s.size := by simp
  obtain ⟨L, hL⟩ : ∃ L, s.data.toList = L := ⟨_, rfl⟩
  rw [hL] at hlen ⊢
  cases l with
  | true =>
    simp only [if_true]
    have wz := i64_w 14 (by omega)
    by_cases c1 : (s.size : Int) = 15
    · have nz : s.size = 15 := by omega
      have hLm : (L.map u8V).length = 15 := by simp only [List.length_map, hlen, nz]
      have ez : u8V (L.getD 14 0) = .int .u8 (((L.getD 14 0).toNat : Nat) : Int) := rfl
      by_cases c2 : ((L.getD 14 0).toNat : Int) = 90
      · simp only [c_clock_Read, ↓gaW, ↓gaV, ↓gaC, ↓gaN, gaP, Nat.reduceEqDiff, Nat.reduceLeDiff, Nat.reduceAdd, Nat.reduceSub, Nat.reduceMul, Int.reduceLT, Int.reduceLE, Int.reduceEq, Int.reduceToNat, Int.reduceAdd, Int.reduceSub, Int.reduceMul, reduceCtorEq, ↓reduceIte, hL, c1, ez, c2, wz, decide_true, decide_false, nz]
        refine ⟨.inl trivial, ?_⟩
        refine loop_of (fun j f mm => ∃ (i x : Nat) (g : Nat → Option Blk) (Q : Option Addr), j = 7 - i ∧ i ≤ 7 ∧ f 1 = .bool true ∧ f 7 = .slice (some ⟨nx, 2 * i, none⟩) (14 - 2 * i) (14 - 2 * i) ∧ f 8 = .slice Q i i ∧ mm = ⟨x, b, g⟩ ∧ nx + 1 ≤ x ∧
            (∀ q, q < nx → g q = gt q) ∧ g nx = some (.cells (L.map u8V) false) ∧ Own (nx + 1) b x g 1 Q i (pairsV L i) ∧ ∀ j, j < i → pairI L (2 * j) ≠ 999) 7
          ⟨0, nx + 1, _, none, by omega, by omega, rfl, rfl, rfl, rfl, by omega, fun q hq => by simp only [upd_e]; rw [if_neg (by omega)], by simp only [upd_e, if_true], .nil, fun j hj => absurd hj (Nat.not_lt_zero j)⟩ ?_
        rintro j f mm ⟨i, x, g, Q, rfl, hi, h1, h7, h8, rfl, hx, hg, hgn, how, hne⟩
        by_cases hlt : (0 : Int) < ((14 - 2 * i : Nat) : Int)
        · have ea : (L.map u8V).getD (2 * i) undef = .int .u8 (((L.getD (2 * i) 0).toNat : Nat) : Int) := getD_u8 (by omega)
          have eb : (L.map u8V).getD (2 * i + 1) undef = .int .u8 (((L.getD (2 * i + 1) 0).toNat : Nat) : Int) := getD_u8 (by omega)
          have hxb : (L.getD (2 * i) 0).toNat < 256 := (L.getD (2 * i) 0).toNat_lt
          have hyb : (L.getD (2 * i + 1) 0).toNat < 256 := (L.getD (2 * i + 1) 0).toNat_lt
          obtain ⟨X, hX⟩ : ∃ X, (L.getD (2 * i) 0).toNat = X := ⟨_, rfl⟩
          obtain ⟨Y, hY⟩ : ∃ Y, (L.getD (2 * i + 1) 0).toNat = Y := ⟨_, rfl⟩
          rw [hX] at ea hxb
          rw [hY] at eb hyb
          have hbad : (X < 48 ∨ 57 < X ∨ Y < 48 ∨ 57 < Y) → readL L = noR := fun h => readL_no (show i < 7 by omega) (pairI_bad (by rw [hX, hY]; exact h))
          by_cases d1 : (X : Int) < 48
          · simp only [↓gaW, ↓gaV, ↓gaC, ↓gaN, gaP, Nat.reduceEqDiff, Nat.reduceLeDiff, Nat.reduceAdd, Nat.reduceSub, Nat.reduceMul, Int.reduceLT, Int.reduceLE, Int.reduceEq, Int.reduceToNat, Int.reduceAdd, Int.reduceSub, Int.reduceMul, reduceCtorEq, ↓reduceIte, gaE, implies_true, Nat.le_refl, Int.sub_zero, Nat.sub_zero, Int.le_refl, true_or, or_true, h1, h7, h8, hlt, hgn, ea, eb, d1, decide_true]
            repeat refine And.intro (by omega) ?_
            first | exact ⟨hg, by rw [hbad (by omega)]; rfl⟩ | (rw [hbad (by omega)]; rfl)
          by_cases d2 : 57 < (X : Int)
          · simp only [↓gaW, ↓gaV, ↓gaC, ↓gaN, gaP, Nat.reduceEqDiff, Nat.reduceLeDiff, Nat.reduceAdd, Nat.reduceSub, Nat.reduceMul, Int.reduceLT, Int.reduceLE, Int.reduceEq, Int.reduceToNat, Int.reduceAdd, Int.reduceSub, Int.reduceMul, reduceCtorEq, ↓reduceIte, gaE, implies_true, Nat.le_refl, Int.sub_zero, Nat.sub_zero, Int.le_refl, true_or, or_true, h1, h7, h8, hlt, hgn, ea, eb, d1, d2, decide_true, decide_false]
            repeat refine And.intro (by omega) ?_
            first | exact ⟨hg, by rw [hbad (by omega)]; rfl⟩ | (rw [hbad (by omega)]; rfl)
          by_cases d3 : (Y : Int) < 48
          · simp only [↓gaW, ↓gaV, ↓gaC, ↓gaN, gaP, Nat.reduceEqDiff, Nat.reduceLeDiff, Nat.reduceAdd, Nat.reduceSub, Nat.reduceMul, Int.reduceLT, Int.reduceLE, Int.reduceEq, Int.reduceToNat, Int.reduceAdd, Int.reduceSub, Int.reduceMul, reduceCtorEq, ↓reduceIte, gaE, implies_true, Nat.le_refl, Int.sub_zero, Nat.sub_zero, Int.le_refl, true_or, or_true, h1, h7, h8, hlt, hgn, ea, eb, d1, d2, d3, decide_true, decide_false]
            repeat refine And.intro (by omega) ?_
            first | exact ⟨hg, by rw [hbad (by omega)]; rfl⟩ | (rw [hbad (by omega)]; rfl)
          by_cases d4 : 57 < (Y : Int)
          · simp only [↓gaW, ↓gaV, ↓gaC, ↓gaN, gaP, Nat.reduceEqDiff, Nat.reduceLeDiff, Nat.reduceAdd, Nat.reduceSub, Nat.reduceMul, Int.reduceLT, Int.reduceLE, Int.reduceEq, Int.reduceToNat, Int.reduceAdd, Int.reduceSub, Int.reduceMul, reduceCtorEq, ↓reduceIte, gaE, implies_true, Nat.le_refl, Int.sub_zero, Nat.sub_zero, Int.le_refl, true_or, or_true, h1, h7, h8, hlt, hgn, ea, eb, d1, d2, d3, d4, decide_true, decide_false]
            repeat refine And.intro (by omega) ?_
            first | exact ⟨hg, by rw [hbad (by omega)]; rfl⟩ | (rw [hbad (by omega)]; rfl)
          have hpr := pairI_ok hX hY (by omega)
          have g1 := u8_i ((X : Int) - 48) (by omega)
          have g2 := u8_i ((Y : Int) - 48) (by omega)
          simp only [↓gaW, ↓gaV, ↓gaC, ↓gaN, gaP, Nat.reduceEqDiff, Nat.reduceLeDiff, Nat.reduceAdd, Nat.reduceSub, Nat.reduceMul, Int.reduceLT, Int.reduceLE, Int.reduceEq, Int.reduceToNat, Int.reduceAdd, Int.reduceSub, Int.reduceMul, reduceCtorEq, ↓reduceIte, h1, h7, h8, hlt, hgn, ea, eb, d1, d2, d3, d4, decide_true, decide_false, g1, g2, i64_w ((X : Int) - 48) (by omega), i64_w ((Y : Int) - 48) (by omega), i64_w (((X : Int) - 48) * 10) (by omega), i64_w (((X : Int) - 48) * 10 + ((Y : Int) - 48)) (by omega)]
          repeat refine And.intro (by omega) ?_
          have w1 : ∀ z : Int, Value.int .i64 z = Value.int .i64 z := fun _ => rfl
          simp only [List.getD_cons_zero, List.getD_cons_succ, fillL, splice, List.take_zero, List.drop_zero, List.drop_succ_cons, List.take_succ_cons, List.drop_nil, List.take_nil, ↓gaW, ↓gaV, ↓gaC, ↓gaN, gaP, Nat.reduceEqDiff, Nat.reduceLeDiff, Nat.reduceAdd, Nat.reduceSub, Nat.reduceMul, Int.reduceLT, Int.reduceLE, Int.reduceEq, Int.reduceToNat, Int.reduceAdd, Int.reduceSub, Int.reduceMul, reduceCtorEq, ↓reduceIte, row_new (show 1 ≤ [Value.int .i64 (((X : Int) - 48) * 10 + ((Y : Int) - 48))].length from Nat.le_refl 1)]
          refine own_append (nx := nx + 1) (how.keep (Nat.le_succ _) (fun p hp => by simp only [upd_e]; rw [if_neg (by omega)])) (by omega) (by omega) (by omega) (by omega) (by simp) (all1 rfl) (by omega) (by omega) fun g' hg' how' => ?_
          simp only [↓gaW, ↓gaV, ↓gaC, ↓gaN, gaP, Nat.reduceEqDiff, Nat.reduceLeDiff, Nat.reduceAdd, Nat.reduceSub, Nat.reduceMul, Int.reduceLT, Int.reduceLE, Int.reduceEq, Int.reduceToNat, Int.reduceAdd, Int.reduceSub, Int.reduceMul, reduceCtorEq, ↓reduceIte, h7, loopK_n]
          refine ⟨by omega, by omega, by omega, by simp, 7 - (i + 1), by omega, i + 1, x + 1 + 1, g', some ⟨x + 1, 0, some 1⟩, rfl, by omega, h1, ?_, rfl, rfl, by omega, ?_, ?_, ?_, ?_⟩
          · rw [show 2 * i + 2 = 2 * (i + 1) by omega, show (((14 - 2 * i : Nat) : Int) - 2).toNat = 14 - 2 * (i + 1) by omega]
          · intro p hp; rw [hg' p (by omega)]; simp only [upd_e]; rw [if_neg (by omega), hg p hp]
          · rw [hg' nx (by omega)]; simp only [upd_e]; rw [if_neg (by omega), hgn]
          · rw [pairsV_succ, hpr]; exact how'
          · intro j hj
            rcases Nat.lt_or_ge j i with h | h
            · exact hne j h
            · have : j = i := by omega
              subst this
              rw [hpr]; omega
        · have hin : i = 7 := by omega
          subst hin
          obtain ⟨q, rfl, hq1, hq2, hq3, hq4⟩ : ∃ q, Q = some ⟨q, 0, some 1⟩ ∧ nx + 1 ≤ q ∧ q < x ∧ b ≤ q ∧ g q = some (.cells (pairsV L 7) false) := by
            rcases how.2 with ⟨_, h⟩ | h
            · omega
            · exact h
          have hrow := how.row
          rw [show pairsV L 7 = [.int .i64 (pairI L 0), .int .i64 (pairI L 2), .int .i64 (pairI L 4), .int .i64 (pairI L 6), .int .i64 (pairI L 8), .int .i64 (pairI L 10), .int .i64 (pairI L 12)] from rfl] at hq4 hrow
          have i0 := pairI_in L 0
          have i2 := pairI_in L 2
          have ne0 : pairI L 0 ≠ 999 := hne 0 (by omega)
          have ne1 : pairI L 2 ≠ 999 := hne 1 (by omega)
          simp only [↓gaW, ↓gaV, ↓gaC, ↓gaN, gaP, Nat.reduceEqDiff, Nat.reduceLeDiff, Nat.reduceAdd, Nat.reduceSub, Nat.reduceMul, Int.reduceLT, Int.reduceLE, Int.reduceEq, Int.reduceToNat, Int.reduceAdd, Int.reduceSub, Int.reduceMul, reduceCtorEq, ↓reduceIte, List.getD_cons_zero, List.getD_cons_succ, fillL, splice, List.take_zero, List.drop_zero, List.drop_succ_cons, List.take_succ_cons, List.drop_nil, List.take_nil, h1, h7, h8, hlt, decide_false, loopK_e, hq4, i64_w (pairI L 0 * 100) (by omega), i64_w (pairI L 0 * 100 + pairI L 2) (by omega)]
          repeat refine And.intro (by first | omega | simp) ?_
          obtain ⟨gm, hgm⟩ : ∃ gm, upd g x (some (.cells [.int .i64 (pairI L 0 * 100 + pairI L 2)] false)) = gm := ⟨_, rfl⟩
          have hkm : ∀ p, p < x → gm p = g p := fun p hp => by rw [← hgm]; simp only [upd_e]; rw [if_neg (by omega)]
          have hgx : gm x = some (.cells [.int .i64 (pairI L 0 * 100 + pairI L 2)] false) := by rw [← hgm]; simp only [upd_e, if_true]
          rw [hgm]
          have hsrc : rowOf ⟨x + 1, x + 1, gm⟩ (some ⟨q, 2, some 1⟩) 5 = some [.int .i64 (pairI L 4), .int .i64 (pairI L 6), .int .i64 (pairI L 8), .int .i64 (pairI L 10), .int .i64 (pairI L 12)] :=
            ((Row.part (A := some ⟨q, 0, some 1⟩) (N := 7) hrow (lo := 2) (hi := 7) (by omega) (by omega) rfl).keep (Nat.le_succ _) hkm).rowOf (b := x + 1)
          have hsrcb : rowOf ⟨x + 1, b, gm⟩ (some ⟨q, 2, some 1⟩) 5 = some [.int .i64 (pairI L 4), .int .i64 (pairI L 6), .int .i64 (pairI L 8), .int .i64 (pairI L 10), .int .i64 (pairI L 12)] :=
            ((Row.part (A := some ⟨q, 0, some 1⟩) (N := 7) hrow (lo := 2) (hi := 7) (by omega) (by omega) rfl).keep (Nat.le_succ _) hkm).rowOf (b := b)
          simp only [hsrc, hsrcb, asO_e]
          refine grow_append (nx := x) (Grow.lit (l := [.int .i64 (pairI L 0 * 100 + pairI L 2)]) (Nat.lt_succ_self x) hgx rfl) (by omega) (by omega) (by omega) (by omega) rfl (fun v hv => by simp only [List.mem_cons, List.not_mem_nil, or_false] at hv; rcases hv with rfl | rfl | rfl | rfl | rfl <;> rfl) (by omega) (by omega) fun g' hg' how' => ?_
          obtain ⟨_, ⟨h, _⟩ | ⟨q', e, _, _, _, hc'⟩⟩ := how'
          · cases h
          injection e with e
          injection e with e
          subst e
          simp only [List.cons_append, List.nil_append] at hc'
          simp only [↓gaW, ↓gaV, ↓gaC, ↓gaN, gaP, Nat.reduceEqDiff, Nat.reduceLeDiff, Nat.reduceAdd, Nat.reduceSub, Nat.reduceMul, Int.reduceLT, Int.reduceLE, Int.reduceEq, Int.reduceToNat, Int.reduceAdd, Int.reduceSub, Int.reduceMul, reduceCtorEq, ↓reduceIte, List.getD_cons_zero, List.getD_cons_succ, fillL, splice, List.take_zero, List.drop_zero, List.drop_succ_cons, List.take_succ_cons, List.drop_nil, List.take_nil, go_x, hc']
          repeat refine And.intro (by first | omega | simp) ?_
          refine callK_of ct_Seconds (fun v n9 g9 l9 k9 hC => ?_) (by omega)
          have hR : readL L = SecV (pairI L 0 * 100 + pairI L 2) (pairI L 4) (pairI L 6) (pairI L 8) (pairI L 10) (pairI L 12) := by rw [readL, if_pos (by omega), if_neg (by omega)]
          obtain ⟨SA, ST, hsec⟩ := SecV_shape (pairI L 0 * 100 + pairI L 2) (pairI L 4) (pairI L 6) (pairI L 8) (pairI L 10) (pairI L 12)
          rw [hsec] at hC hR
          subst hC
          simp only [↓gaW, ↓gaV, ↓gaC, ↓gaN, gaP, Nat.reduceEqDiff, Nat.reduceLeDiff, Nat.reduceAdd, Nat.reduceSub, Nat.reduceMul, Int.reduceLT, Int.reduceLE, Int.reduceEq, Int.reduceToNat, Int.reduceAdd, Int.reduceSub, Int.reduceMul, reduceCtorEq, ↓reduceIte, gaE, implies_true, Nat.le_refl, Int.sub_zero, Nat.sub_zero, Int.le_refl, true_or, or_true]
          exact ⟨by omega, by omega, by omega, fun p hp => by rw [k9 p (by omega), hg' p (by omega), hkm p (by omega), hg p hp], by rw [hR]⟩
      · simp only [c_clock_Read, ↓gaW, ↓gaV, ↓gaC, ↓gaN, gaP, Nat.reduceEqDiff, Nat.reduceLeDiff, Nat.reduceAdd, Nat.reduceSub, Nat.reduceMul, Int.reduceLT, Int.reduceLE, Int.reduceEq, Int.reduceToNat, Int.reduceAdd, Int.reduceSub, Int.reduceMul, reduceCtorEq, ↓reduceIte, gaE, implies_true, Nat.le_refl, Int.sub_zero, Nat.sub_zero, Int.le_refl, true_or, or_true, hL, c1, ez, c2, wz, decide_true, decide_false, nz]
        repeat refine And.intro (by omega) ?_
        rw [readL, if_neg (by omega)]; rfl
    · simp only [c_clock_Read, ↓gaW, ↓gaV, ↓gaC, ↓gaN, gaP, Nat.reduceEqDiff, Nat.reduceLeDiff, Nat.reduceAdd, Nat.reduceSub, Nat.reduceMul, Int.reduceLT, Int.reduceLE, Int.reduceEq, Int.reduceToNat, Int.reduceAdd, Int.reduceSub, Int.reduceMul, reduceCtorEq, ↓reduceIte, gaE, implies_true, Nat.le_refl, Int.sub_zero, Nat.sub_zero, Int.le_refl, true_or, or_true, hL, c1, decide_false, decide_true]
      repeat refine And.intro (by omega) ?_
      rw [readL, if_neg (by omega)]; rfl
  | false =>
    simp only [if_neg (show ¬ (false = true) by decide)]
    have wz := i64_w 12 (by omega)
    by_cases c1 : (s.size : Int) = 13
    · have nz : s.size = 13 := by omega
      have hLm : (L.map u8V).length = 13 := by simp only [List.length_map, hlen, nz]
      have ez : u8V (L.getD 12 0) = .int .u8 (((L.getD 12 0).toNat : Nat) : Int) := rfl
      by_cases c2 : ((L.getD 12 0).toNat : Int) = 90
      · simp only [c_clock_Read, ↓gaW, ↓gaV, ↓gaC, ↓gaN, gaP, Nat.reduceEqDiff, Nat.reduceLeDiff, Nat.reduceAdd, Nat.reduceSub, Nat.reduceMul, Int.reduceLT, Int.reduceLE, Int.reduceEq, Int.reduceToNat, Int.reduceAdd, Int.reduceSub, Int.reduceMul, reduceCtorEq, ↓reduceIte, hL, c1, ez, c2, wz, decide_true, decide_false, nz]
        refine ⟨.inl trivial, ?_⟩
        refine loop_of (fun j f mm => ∃ (i x : Nat) (g : Nat → Option Blk) (Q : Option Addr), j = 6 - i ∧ i ≤ 6 ∧ f 1 = .bool false ∧ f 7 = .slice (some ⟨nx, 2 * i, none⟩) (12 - 2 * i) (12 - 2 * i) ∧ f 8 = .slice Q i i ∧ mm = ⟨x, b, g⟩ ∧ nx + 1 ≤ x ∧
            (∀ q, q < nx → g q = gt q) ∧ g nx = some (.cells (L.map u8V) false) ∧ Own (nx + 1) b x g 1 Q i (pairsV L i) ∧ ∀ j, j < i → pairI L (2 * j) ≠ 999) 6
          ⟨0, nx + 1, _, none, by omega, by omega, rfl, rfl, rfl, rfl, by omega, fun q hq => by simp only [upd_e]; rw [if_neg (by omega)], by simp only [upd_e, if_true], .nil, fun j hj => absurd hj (Nat.not_lt_zero j)⟩ ?_
        rintro j f mm ⟨i, x, g, Q, rfl, hi, h1, h7, h8, rfl, hx, hg, hgn, how, hne⟩
        by_cases hlt : (0 : Int) < ((12 - 2 * i : Nat) : Int)
        · have ea : (L.map u8V).getD (2 * i) undef = .int .u8 (((L.getD (2 * i) 0).toNat : Nat) : Int) := getD_u8 (by omega)
          have eb : (L.map u8V).getD (2 * i + 1) undef = .int .u8 (((L.getD (2 * i + 1) 0).toNat : Nat) : Int) := getD_u8 (by omega)
          have hxb : (L.getD (2 * i) 0).toNat < 256 := (L.getD (2 * i) 0).toNat_lt
          have hyb : (L.getD (2 * i + 1) 0).toNat < 256 := (L.getD (2 * i + 1) 0).toNat_lt
          obtain ⟨X, hX⟩ : ∃ X, (L.getD (2 * i) 0).toNat = X := ⟨_, rfl⟩
          obtain ⟨Y, hY⟩ : ∃ Y, (L.getD (2 * i + 1) 0).toNat = Y := ⟨_, rfl⟩
          rw [hX] at ea hxb
          rw [hY] at eb hyb
          have hbad : (X < 48 ∨ 57 < X ∨ Y < 48 ∨ 57 < Y) → readS L = noR := fun h => readS_no (show i < 6 by omega) (pairI_bad (by rw [hX, hY]; exact h))
          by_cases d1 : (X : Int) < 48
          · simp only [↓gaW, ↓gaV, ↓gaC, ↓gaN, gaP, Nat.reduceEqDiff, Nat.reduceLeDiff, Nat.reduceAdd, Nat.reduceSub, Nat.reduceMul, Int.reduceLT, Int.reduceLE, Int.reduceEq, Int.reduceToNat, Int.reduceAdd, Int.reduceSub, Int.reduceMul, reduceCtorEq, ↓reduceIte, gaE, implies_true, Nat.le_refl, Int.sub_zero, Nat.sub_zero, Int.le_refl, true_or, or_true, h1, h7, h8, hlt, hgn, ea, eb, d1, decide_true]
            repeat refine And.intro (by omega) ?_
            first | exact ⟨hg, by rw [hbad (by omega)]; rfl⟩ | (rw [hbad (by omega)]; rfl)
          by_cases d2 : 57 < (X : Int)
          · simp only [↓gaW, ↓gaV, ↓gaC, ↓gaN, gaP, Nat.reduceEqDiff, Nat.reduceLeDiff, Nat.reduceAdd, Nat.reduceSub, Nat.reduceMul, Int.reduceLT, Int.reduceLE, Int.reduceEq, Int.reduceToNat, Int.reduceAdd, Int.reduceSub, Int.reduceMul, reduceCtorEq, ↓reduceIte, gaE, implies_true, Nat.le_refl, Int.sub_zero, Nat.sub_zero, Int.le_refl, true_or, or_true, h1, h7, h8, hlt, hgn, ea, eb, d1, d2, decide_true, decide_false]
            repeat refine And.intro (by omega) ?_
            first | exact ⟨hg, by rw [hbad (by omega)]; rfl⟩ | (rw [hbad (by omega)]; rfl)
          by_cases d3 : (Y : Int) < 48
          · simp only [↓gaW, ↓gaV, ↓gaC, ↓gaN, gaP, Nat.reduceEqDiff, Nat.reduceLeDiff, Nat.reduceAdd, Nat.reduceSub, Nat.reduceMul, Int.reduceLT, Int.reduceLE, Int.reduceEq, Int.reduceToNat, Int.reduceAdd, Int.reduceSub, Int.reduceMul, reduceCtorEq, ↓reduceIte, gaE, implies_true, Nat.le_refl, Int.sub_zero, Nat.sub_zero, Int.le_refl, true_or, or_true, h1, h7, h8, hlt, hgn, ea, eb, d1, d2, d3, decide_true, decide_false]
            repeat refine And.intro (by omega) ?_
            first | exact ⟨hg, by rw [hbad (by omega)]; rfl⟩ | (rw [hbad (by omega)]; rfl)
          by_cases d4 : 57 < (Y : Int)
          · simp only [↓gaW, ↓gaV, ↓gaC, ↓gaN, gaP, Nat.reduceEqDiff, Nat.reduceLeDiff, Nat.reduceAdd, Nat.reduceSub, Nat.reduceMul, Int.reduceLT, Int.reduceLE, Int.reduceEq, Int.reduceToNat, Int.reduceAdd, Int.reduceSub, Int.reduceMul, reduceCtorEq, ↓reduceIte, gaE, implies_true, Nat.le_refl, Int.sub_zero, Nat.sub_zero, Int.le_refl, true_or, or_true, h1, h7, h8, hlt, hgn, ea, eb, d1, d2, d3, d4, decide_true, decide_false]
            repeat refine And.intro (by omega) ?_
            first | exact ⟨hg, by rw [hbad (by omega)]; rfl⟩ | (rw [hbad (by omega)]; rfl)
          have hpr := pairI_ok hX hY (by omega)
          have g1 := u8_i ((X : Int) - 48) (by omega)
          have g2 := u8_i ((Y : Int) - 48) (by omega)
          simp only [↓gaW, ↓gaV, ↓gaC, ↓gaN, gaP, Nat.reduceEqDiff, Nat.reduceLeDiff, Nat.reduceAdd, Nat.reduceSub, Nat.reduceMul, Int.reduceLT, Int.reduceLE, Int.reduceEq, Int.reduceToNat, Int.reduceAdd, Int.reduceSub, Int.reduceMul, reduceCtorEq, ↓reduceIte, h1, h7, h8, hlt, hgn, ea, eb, d1, d2, d3, d4, decide_true, decide_false, g1, g2, i64_w ((X : Int) - 48) (by omega), i64_w ((Y : Int) - 48) (by omega), i64_w (((X : Int) - 48) * 10) (by omega), i64_w (((X : Int) - 48) * 10 + ((Y : Int) - 48)) (by omega)]
          repeat refine And.intro (by omega) ?_
          have w1 : ∀ z : Int, Value.int .i64 z = Value.int .i64 z := fun _ => rfl
          simp only [List.getD_cons_zero, List.getD_cons_succ, fillL, splice, List.take_zero, List.drop_zero, List.drop_succ_cons, List.take_succ_cons, List.drop_nil, List.take_nil, ↓gaW, ↓gaV, ↓gaC, ↓gaN, gaP, Nat.reduceEqDiff, Nat.reduceLeDiff, Nat.reduceAdd, Nat.reduceSub, Nat.reduceMul, Int.reduceLT, Int.reduceLE, Int.reduceEq, Int.reduceToNat, Int.reduceAdd, Int.reduceSub, Int.reduceMul, reduceCtorEq, ↓reduceIte, row_new (show 1 ≤ [Value.int .i64 (((X : Int) - 48) * 10 + ((Y : Int) - 48))].length from Nat.le_refl 1)]
          refine own_append (nx := nx + 1) (how.keep (Nat.le_succ _) (fun p hp => by simp only [upd_e]; rw [if_neg (by omega)])) (by omega) (by omega) (by omega) (by omega) (by simp) (all1 rfl) (by omega) (by omega) fun g' hg' how' => ?_
          simp only [↓gaW, ↓gaV, ↓gaC, ↓gaN, gaP, Nat.reduceEqDiff, Nat.reduceLeDiff, Nat.reduceAdd, Nat.reduceSub, Nat.reduceMul, Int.reduceLT, Int.reduceLE, Int.reduceEq, Int.reduceToNat, Int.reduceAdd, Int.reduceSub, Int.reduceMul, reduceCtorEq, ↓reduceIte, h7, loopK_n]
          refine ⟨by omega, by omega, by omega, by simp, 6 - (i + 1), by omega, i + 1, x + 1 + 1, g', some ⟨x + 1, 0, some 1⟩, rfl, by omega, h1, ?_, rfl, rfl, by omega, ?_, ?_, ?_, ?_⟩
          · rw [show 2 * i + 2 = 2 * (i + 1) by omega, show (((12 - 2 * i : Nat) : Int) - 2).toNat = 12 - 2 * (i + 1) by omega]
          · intro p hp; rw [hg' p (by omega)]; simp only [upd_e]; rw [if_neg (by omega), hg p hp]
          · rw [hg' nx (by omega)]; simp only [upd_e]; rw [if_neg (by omega), hgn]
          · rw [pairsV_succ, hpr]; exact how'
          · intro j hj
            rcases Nat.lt_or_ge j i with h | h
            · exact hne j h
            · have : j = i := by omega
              subst this
              rw [hpr]; omega
        · have hin : i = 6 := by omega
          subst hin
          obtain ⟨q, rfl, hq1, hq2, hq3, hq4⟩ : ∃ q, Q = some ⟨q, 0, some 1⟩ ∧ nx + 1 ≤ q ∧ q < x ∧ b ≤ q ∧ g q = some (.cells (pairsV L 6) false) := by
            rcases how.2 with ⟨_, h⟩ | h
            · omega
            · exact h
          have hrow := how.row
          rw [show pairsV L 6 = [.int .i64 (pairI L 0), .int .i64 (pairI L 2), .int .i64 (pairI L 4), .int .i64 (pairI L 6), .int .i64 (pairI L 8), .int .i64 (pairI L 10)] from rfl] at hq4 hrow
          have i0 := pairI_in L 0
          have hR : readS L = SecV (yearI L) (pairI L 2) (pairI L 4) (pairI L 6) (pairI L 8) (pairI L 10) := by rw [readS, if_pos (by omega)]
          rw [yearI] at hR
          by_cases d0 : pairI L 0 < 50
          · rw [if_pos d0] at hR
            simp only [↓gaW, ↓gaV, ↓gaC, ↓gaN, gaP, Nat.reduceEqDiff, Nat.reduceLeDiff, Nat.reduceAdd, Nat.reduceSub, Nat.reduceMul, Int.reduceLT, Int.reduceLE, Int.reduceEq, Int.reduceToNat, Int.reduceAdd, Int.reduceSub, Int.reduceMul, reduceCtorEq, ↓reduceIte, List.getD_cons_zero, List.getD_cons_succ, fillL, splice, List.take_zero, List.drop_zero, List.drop_succ_cons, List.take_succ_cons, List.drop_nil, List.take_nil, go_x, h1, h7, h8, hlt, decide_false, loopK_e, hq4, d0, decide_true, i64_w (pairI L 0 + 2000) (by omega)]
            repeat refine And.intro (by first | omega | exact all1 rfl) ?_
            refine callK_of ct_Seconds (fun v n9 g9 l9 k9 hC => ?_) (by omega)
            obtain ⟨SA, ST, hsec⟩ := SecV_shape (pairI L 0 + 2000) (pairI L 2) (pairI L 4) (pairI L 6) (pairI L 8) (pairI L 10)
            rw [hsec] at hC hR
            subst hC
            simp only [↓gaW, ↓gaV, ↓gaC, ↓gaN, gaP, Nat.reduceEqDiff, Nat.reduceLeDiff, Nat.reduceAdd, Nat.reduceSub, Nat.reduceMul, Int.reduceLT, Int.reduceLE, Int.reduceEq, Int.reduceToNat, Int.reduceAdd, Int.reduceSub, Int.reduceMul, reduceCtorEq, ↓reduceIte, gaE, implies_true, Nat.le_refl, Int.sub_zero, Nat.sub_zero, Int.le_refl, true_or, or_true]
            exact ⟨by omega, by omega, by omega, fun p hp => by rw [k9 p (by omega)]; simp only [upd_e]; rw [if_neg (by omega), hg p hp], by rw [hR]⟩
          · rw [if_neg d0] at hR
            simp only [↓gaW, ↓gaV, ↓gaC, ↓gaN, gaP, Nat.reduceEqDiff, Nat.reduceLeDiff, Nat.reduceAdd, Nat.reduceSub, Nat.reduceMul, Int.reduceLT, Int.reduceLE, Int.reduceEq, Int.reduceToNat, Int.reduceAdd, Int.reduceSub, Int.reduceMul, reduceCtorEq, ↓reduceIte, List.getD_cons_zero, List.getD_cons_succ, fillL, splice, List.take_zero, List.drop_zero, List.drop_succ_cons, List.take_succ_cons, List.drop_nil, List.take_nil, go_x, h1, h7, h8, hlt, decide_false, loopK_e, hq4, d0, i64_w (pairI L 0 + 1900) (by omega)]
            repeat refine And.intro (by first | omega | exact all1 rfl) ?_
            refine callK_of ct_Seconds (fun v n9 g9 l9 k9 hC => ?_) (by omega)
            obtain ⟨SA, ST, hsec⟩ := SecV_shape (pairI L 0 + 1900) (pairI L 2) (pairI L 4) (pairI L 6) (pairI L 8) (pairI L 10)
            rw [hsec] at hC hR
            subst hC
            simp only [↓gaW, ↓gaV, ↓gaC, ↓gaN, gaP, Nat.reduceEqDiff, Nat.reduceLeDiff, Nat.reduceAdd, Nat.reduceSub, Nat.reduceMul, Int.reduceLT, Int.reduceLE, Int.reduceEq, Int.reduceToNat, Int.reduceAdd, Int.reduceSub, Int.reduceMul, reduceCtorEq, ↓reduceIte, gaE, implies_true, Nat.le_refl, Int.sub_zero, Nat.sub_zero, Int.le_refl, true_or, or_true]
            exact ⟨by omega, by omega, by omega, fun p hp => by rw [k9 p (by omega)]; simp only [upd_e]; rw [if_neg (by omega), hg p hp], by rw [hR]⟩
      · simp only [c_clock_Read, ↓gaW, ↓gaV, ↓gaC, ↓gaN, gaP, Nat.reduceEqDiff, Nat.reduceLeDiff, Nat.reduceAdd, Nat.reduceSub, Nat.reduceMul, Int.reduceLT, Int.reduceLE, Int.reduceEq, Int.reduceToNat, Int.reduceAdd, Int.reduceSub, Int.reduceMul, reduceCtorEq, ↓reduceIte, gaE, implies_true, Nat.le_refl, Int.sub_zero, Nat.sub_zero, Int.le_refl, true_or, or_true, hL, c1, ez, c2, wz, decide_true, decide_false, nz]
        repeat refine And.intro (by omega) ?_
        rw [readS, if_neg (by omega)]; rfl
    · simp only [c_clock_Read, ↓gaW, ↓gaV, ↓gaC, ↓gaN, gaP, Nat.reduceEqDiff, Nat.reduceLeDiff, Nat.reduceAdd, Nat.reduceSub, Nat.reduceMul, Int.reduceLT, Int.reduceLE, Int.reduceEq, Int.reduceToNat, Int.reduceAdd, Int.reduceSub, Int.reduceMul, reduceCtorEq, ↓reduceIte, gaE, implies_true, Nat.le_refl, Int.sub_zero, Nat.sub_zero, Int.le_refl, true_or, or_true, hL, c1, decide_false, decide_true]
      repeat refine And.intro (by omega) ?_
      rw [readS, if_neg (by omega)]; rfl
end
end Go.Ga

/- Moments as elements. -/
namespace Go.Ga
open Go Go.Proofs
set_option linter.unusedSimpArgs false
set_option linter.unusedVariables false
set_option maxRecDepth 100000
attribute [local irreducible] appendK

def timeR : Option D6 → Except Nat Fo.El
  | none => .error 1
  | some x => if x.a < 2050 then .ok ⟨23, x.short, .nil⟩ else .ok ⟨24, x.long, .nil⟩
theorem timeR_ok {o : Option D6} {y : Fo.El} (h : timeR o = .ok y) : y.f.ws ≤ 20 ∧ y.k = .nil := by
  cases o with
  | none => cases h
  | some x =>
    by_cases hy : x.a < 2050
    · rw [show timeR (some x) = .ok ⟨23, x.short, .nil⟩ from if_pos hy] at h
      injection h with h
      rw [← h]
      exact ⟨by show 1 + x.short.length + 0 + 0 ≤ _; have : x.short.length = 13 := rfl; omega, rfl⟩
    · rw [show timeR (some x) = .ok ⟨24, x.long, .nil⟩ from if_neg hy] at h
      injection h with h
      rw [← h]
      exact ⟨by show 1 + x.long.length + 0 + 0 ≤ _; have : x.long.length = 15 := rfl; omega, rfl⟩
def rdV (x : Fo.El) : Value := if decide (x.t = 24) = true then readL x.b else readS x.b
theorem secV_is (d0 d1 d2 d3 d4 d5 : Int) : ∃ (a : Int) (t : Bool), SecV d0 d1 d2 d3 d4 d5 = .tuple #[.int .i64 a, .bool t] ∧ -9223372036854775808 ≤ a ∧ a ≤ 9223372036854775807 := by
  unfold SecV
  split
  · rename_i h
    have := sec_range h
    exact ⟨_, _, rfl, by omega, by omega⟩
  · exact ⟨_, _, rfl, by omega, by omega⟩
theorem rdV_is (x : Fo.El) : ∃ (a : Int) (t : Bool), rdV x = .tuple #[.int .i64 a, .bool t] ∧ -9223372036854775808 ≤ a ∧ a ≤ 9223372036854775807 := by
  unfold rdV
  split
  · unfold readL
    split
    · split
      · exact ⟨_, _, rfl, by omega, by omega⟩
      · exact secV_is _ _ _ _ _ _
    · exact ⟨_, _, rfl, by omega, by omega⟩
  · unfold readS
    split
    · exact secV_is _ _ _ _ _ _
    · exact ⟨_, _, rfl, by omega, by omega⟩
noncomputable def whenR (s : Int) (is : Bool) (o : Option D6) (x : Fo.El) : Int × Nat := open Classical in if is = true ∧ timeR o = .ok x then (s, 0) else (0, 2)

section
variable {nx : Nat} {gt : Nat → Option Blk}

theorem ct_TimeE {s : Int} {o : Option D6} (hs : -9223372036854775808 ≤ s ∧ s ≤ 9223372036854775807) (ho : DateO s o) : Ct Tryd.prog 37 [.int .i64 s] nx gt fun v x g => NErr nx x g v (timeR o) := by
  refine Ct.of hmx r_scalar_Time (by simp [c_scalar_Time]) fun b hb => ?_
  have hF : ∀ q, q < nx → upd gt nx (some (.cells [Value.int .i64 0, .slice none 0 0, .slice none 0 0] false)) q = gt q := fun q hq => by simp only [upd_e]; rw [if_neg (by omega)]
  have hb0 : upd gt nx (some (.cells [Value.int .i64 0, .slice none 0 0, .slice none 0 0] false)) nx = some (.cells [Value.int .i64 0, .slice none 0 0, .slice none 0 0] false) := by simp only [upd_e, if_true]
  have ext : ∀ (g : Nat → Option Blk) (cs : List Value), (∀ p, p ≠ nx → upd g nx (some (.cells cs false)) p = g p) := fun g cs p hp => by simp only [upd_e]; rw [if_neg hp]
  simp only [c_scalar_Time, ↓gaW, ↓gaV, ↓gaC, ↓gaN, gaP, Nat.reduceEqDiff, Nat.reduceLeDiff, Nat.reduceAdd, Nat.reduceSub, Nat.reduceMul, Int.reduceLT, Int.reduceLE, Int.reduceEq, Int.reduceToNat, Int.reduceAdd, Int.reduceSub, Int.reduceMul, reduceCtorEq, ↓reduceIte, List.getD_cons_zero, List.getD_cons_succ, fillL, splice, List.take_zero, List.drop_zero, List.drop_succ_cons, List.take_succ_cons, List.drop_nil, List.take_nil, gaU]
  generalize upd gt nx (some (.cells [Value.int .i64 0, .slice none 0 0, .slice none 0 0] false)) = g0 at *
  repeat refine And.intro (by omega) ?_
  refine callK_of (ct_Text hs ho) (fun v x1 g1 l1 k1 hC => ?_) (by omega)
  subst hC
  have F1 : ∀ p, p < nx → g1 p = gt p := fun p hp => by rw [k1 p (by omega), hF p hp]
  have hb1 : g1 nx = some (.cells [Value.int .i64 0, .slice none 0 0, .slice none 0 0] false) := by rw [k1 nx (by omega), hb0]
  cases o with
  | none =>
    simp only [↓gaW, ↓gaV, ↓gaC, ↓gaN, gaP, Nat.reduceEqDiff, Nat.reduceLeDiff, Nat.reduceAdd, Nat.reduceSub, Nat.reduceMul, Int.reduceLT, Int.reduceLE, Int.reduceEq, Int.reduceToNat, Int.reduceAdd, Int.reduceSub, Int.reduceMul, reduceCtorEq, ↓reduceIte, List.getD_cons_zero, List.getD_cons_succ, fillL, splice, List.take_zero, List.drop_zero, List.drop_succ_cons, List.take_succ_cons, List.drop_nil, List.take_nil, gaU, textO, noT, timeR, hb1, Bool.not_false]
    repeat refine And.intro (by omega) ?_
    refine And.intro (node_cells _ _ _ _ _ _ _) ?_
    exact end_nT (q := nx) (t := 0) (B := none) (m := 0) (d := 0) (A := none) (n := 0) (c := 0) (ro := false) (w := .int .i64 1) (by first | (simp only [↓gaW, ↓gaV, ↓gaC, ↓gaN, gaP, Nat.reduceEqDiff, Nat.reduceLeDiff, Nat.reduceAdd, Nat.reduceSub, Nat.reduceMul, Int.reduceLT, Int.reduceLE, Int.reduceEq, Int.reduceToNat, Int.reduceAdd, Int.reduceSub, Int.reduceMul, reduceCtorEq, ↓reduceIte]; done) | (simp only [↓gaW, ↓gaV, ↓gaC, ↓gaN, gaP, Nat.reduceEqDiff, Nat.reduceLeDiff, Nat.reduceAdd, Nat.reduceSub, Nat.reduceMul, Int.reduceLT, Int.reduceLE, Int.reduceEq, Int.reduceToNat, Int.reduceAdd, Int.reduceSub, Int.reduceMul, reduceCtorEq, ↓reduceIte]; rfl)) (by first | (simp only [↓gaW, ↓gaV, ↓gaC, ↓gaN, gaP, Nat.reduceEqDiff, Nat.reduceLeDiff, Nat.reduceAdd, Nat.reduceSub, Nat.reduceMul, Int.reduceLT, Int.reduceLE, Int.reduceEq, Int.reduceToNat, Int.reduceAdd, Int.reduceSub, Int.reduceMul, reduceCtorEq, ↓reduceIte]; done) | (simp only [↓gaW, ↓gaV, ↓gaC, ↓gaN, gaP, Nat.reduceEqDiff, Nat.reduceLeDiff, Nat.reduceAdd, Nat.reduceSub, Nat.reduceMul, Int.reduceLT, Int.reduceLE, Int.reduceEq, Int.reduceToNat, Int.reduceAdd, Int.reduceSub, Int.reduceMul, reduceCtorEq, ↓reduceIte]; rfl)) (by simp only [upd_e, if_true]) (by omega) (fun p hp => by rw [ext _ _ p (by omega), F1 p hp]) ⟨rfl, by omega⟩
  | some x =>
    by_cases hy : x.a < 2050
    · have e1 : textO (some x) = strT x.short := if_pos hy
      have e2 : timeR (some x) = .ok ⟨23, x.short, .nil⟩ := if_pos hy
      rw [e1, e2]
      have hlen : x.short.length = 13 := rfl
      generalize x.short = S at *
      simp only [strT]
      have hss : ((⟨S.toArray⟩ : ByteArray).size) = 13 := hlen
      have hdl : (⟨S.toArray⟩ : ByteArray).data.toList = S := rfl
      have hnn : (nx = x1) = False := by simp; omega
      have c13 : (((13 : Nat)) : Int) = 13 := rfl
      simp only [↓gaW, ↓gaV, ↓gaC, ↓gaN, gaP, Nat.reduceEqDiff, Nat.reduceLeDiff, Nat.reduceAdd, Nat.reduceSub, Nat.reduceMul, Int.reduceLT, Int.reduceLE, Int.reduceEq, Int.reduceToNat, Int.reduceAdd, Int.reduceSub, Int.reduceMul, reduceCtorEq, ↓reduceIte, List.getD_cons_zero, List.getD_cons_succ, fillL, splice, List.take_zero, List.drop_zero, List.drop_succ_cons, List.take_succ_cons, List.drop_nil, List.take_nil, gaU, hss, hdl, hb1, hnn, c13, Bool.not_true, decide_true, decide_false, not_true, not_false_eq_true]
      repeat refine And.intro (by omega) ?_
      refine And.intro (node_cells _ _ _ _ _ _ _) ?_
      have hS : ∀ p, p < x1 → upd g1 x1 (some (.cells (S.map u8V) false)) p = g1 p := fun p hp => by rw [upd_e, if_neg (by omega)]
      refine end_nT (q := nx) (t := 23) (B := some ⟨x1, 0, some 1⟩) (m := 13) (d := 13) (A := none) (n := 0) (c := 0) (ro := false) (w := .int .i64 0) (by first | (simp only [↓gaW, ↓gaV, ↓gaC, ↓gaN, gaP, Nat.reduceEqDiff, Nat.reduceLeDiff, Nat.reduceAdd, Nat.reduceSub, Nat.reduceMul, Int.reduceLT, Int.reduceLE, Int.reduceEq, Int.reduceToNat, Int.reduceAdd, Int.reduceSub, Int.reduceMul, reduceCtorEq, ↓reduceIte]; done) | (simp only [↓gaW, ↓gaV, ↓gaC, ↓gaN, gaP, Nat.reduceEqDiff, Nat.reduceLeDiff, Nat.reduceAdd, Nat.reduceSub, Nat.reduceMul, Int.reduceLT, Int.reduceLE, Int.reduceEq, Int.reduceToNat, Int.reduceAdd, Int.reduceSub, Int.reduceMul, reduceCtorEq, ↓reduceIte]; rfl)) (by first | (simp only [↓gaW, ↓gaV, ↓gaC, ↓gaN, gaP, Nat.reduceEqDiff, Nat.reduceLeDiff, Nat.reduceAdd, Nat.reduceSub, Nat.reduceMul, Int.reduceLT, Int.reduceLE, Int.reduceEq, Int.reduceToNat, Int.reduceAdd, Int.reduceSub, Int.reduceMul, reduceCtorEq, ↓reduceIte]; done) | (simp only [↓gaW, ↓gaV, ↓gaC, ↓gaN, gaP, Nat.reduceEqDiff, Nat.reduceLeDiff, Nat.reduceAdd, Nat.reduceSub, Nat.reduceMul, Int.reduceLT, Int.reduceLE, Int.reduceEq, Int.reduceToNat, Int.reduceAdd, Int.reduceSub, Int.reduceMul, reduceCtorEq, ↓reduceIte]; rfl)) (by simp only [upd_e, if_true]) (by omega) (fun p hp => by rw [ext _ _ p (by omega), hS p (by omega), F1 p hp]) ⟨_, rfl, ?_⟩
      refine NodeIs.leaf (by omega) ⟨⟨fun a h => by injection h with h; subst h; exact .inr rfl, by simp [hlen], fun _ => ⟨⟨x1, 0, some 1⟩, S.map u8V, false, rfl, Nat.lt_succ_self _, by rw [ext _ _ x1 (by omega), upd_e, if_pos rfl], by simp [hlen], fun i _ => by rw [Nat.zero_add]⟩⟩, fun _ a ha => by injection ha with ha; subst ha; show nx ≤ x1; omega⟩ (Nat.le_refl _)
    · have e1 : textO (some x) = strT x.long := if_neg hy
      have e2 : timeR (some x) = .ok ⟨24, x.long, .nil⟩ := if_neg hy
      rw [e1, e2]
      have hlen : x.long.length = 15 := rfl
      generalize x.long = S at *
      simp only [strT]
      have hss : ((⟨S.toArray⟩ : ByteArray).size) = 15 := hlen
      have hdl : (⟨S.toArray⟩ : ByteArray).data.toList = S := rfl
      have hnn : (nx = x1) = False := by simp; omega
      have c13 : (((15 : Nat)) : Int) = 15 := rfl
      simp only [↓gaW, ↓gaV, ↓gaC, ↓gaN, gaP, Nat.reduceEqDiff, Nat.reduceLeDiff, Nat.reduceAdd, Nat.reduceSub, Nat.reduceMul, Int.reduceLT, Int.reduceLE, Int.reduceEq, Int.reduceToNat, Int.reduceAdd, Int.reduceSub, Int.reduceMul, reduceCtorEq, ↓reduceIte, List.getD_cons_zero, List.getD_cons_succ, fillL, splice, List.take_zero, List.drop_zero, List.drop_succ_cons, List.take_succ_cons, List.drop_nil, List.take_nil, gaU, hss, hdl, hb1, hnn, c13, Bool.not_true, decide_true, decide_false, not_true, not_false_eq_true]
      repeat refine And.intro (by omega) ?_
      refine And.intro (node_cells _ _ _ _ _ _ _) ?_
      have hS : ∀ p, p < x1 → upd g1 x1 (some (.cells (S.map u8V) false)) p = g1 p := fun p hp => by rw [upd_e, if_neg (by omega)]
      refine end_nT (q := nx) (t := 24) (B := some ⟨x1, 0, some 1⟩) (m := 15) (d := 15) (A := none) (n := 0) (c := 0) (ro := false) (w := .int .i64 0) (by first | (simp only [↓gaW, ↓gaV, ↓gaC, ↓gaN, gaP, Nat.reduceEqDiff, Nat.reduceLeDiff, Nat.reduceAdd, Nat.reduceSub, Nat.reduceMul, Int.reduceLT, Int.reduceLE, Int.reduceEq, Int.reduceToNat, Int.reduceAdd, Int.reduceSub, Int.reduceMul, reduceCtorEq, ↓reduceIte]; done) | (simp only [↓gaW, ↓gaV, ↓gaC, ↓gaN, gaP, Nat.reduceEqDiff, Nat.reduceLeDiff, Nat.reduceAdd, Nat.reduceSub, Nat.reduceMul, Int.reduceLT, Int.reduceLE, Int.reduceEq, Int.reduceToNat, Int.reduceAdd, Int.reduceSub, Int.reduceMul, reduceCtorEq, ↓reduceIte]; rfl)) (by first | (simp only [↓gaW, ↓gaV, ↓gaC, ↓gaN, gaP, Nat.reduceEqDiff, Nat.reduceLeDiff, Nat.reduceAdd, Nat.reduceSub, Nat.reduceMul, Int.reduceLT, Int.reduceLE, Int.reduceEq, Int.reduceToNat, Int.reduceAdd, Int.reduceSub, Int.reduceMul, reduceCtorEq, ↓reduceIte]; done) | (simp only [↓gaW, ↓gaV, ↓gaC, ↓gaN, gaP, Nat.reduceEqDiff, Nat.reduceLeDiff, Nat.reduceAdd, Nat.reduceSub, Nat.reduceMul, Int.reduceLT, Int.reduceLE, Int.reduceEq, Int.reduceToNat, Int.reduceAdd, Int.reduceSub, Int.reduceMul, reduceCtorEq, ↓reduceIte]; rfl)) (by simp only [upd_e, if_true]) (by omega) (fun p hp => by rw [ext _ _ p (by omega), hS p (by omega), F1 p hp]) ⟨_, rfl, ?_⟩
      refine NodeIs.leaf (by omega) ⟨⟨fun a h => by injection h with h; subst h; exact .inr rfl, by simp [hlen], fun _ => ⟨⟨x1, 0, some 1⟩, S.map u8V, false, rfl, Nat.lt_succ_self _, by rw [ext _ _ x1 (by omega), upd_e, if_pos rfl], by simp [hlen], fun i _ => by rw [Nat.zero_add]⟩⟩, fun _ a ha => by injection ha with ha; subst ha; show nx ≤ x1; omega⟩ (Nat.le_refl _)
theorem ct_When1 {q : Nat} {ro : Bool} {s : Int} {o : Option D6} (hq : q < nx) (hg : gt q = some (.cells [.int .i64 s] ro)) (hs : -9223372036854775808 ≤ s ∧ s ≤ 9223372036854775807) (ho : DateO s o) :
    Ct Tryd.prog 67 [.pointer (some ⟨q, 0, none⟩)] nx gt fun v x g => NErr nx x g v (timeR o) := by
  refine Ct.of hmx r_scalar_When_1 (by simp [c_scalar_When_1]) fun b hb => ?_
  have hF : ∀ q, q < nx → upd gt nx (some (.cells [Value.int .i64 0, .slice none 0 0, .slice none 0 0] false)) q = gt q := fun q hq => by simp only [upd_e]; rw [if_neg (by omega)]
  have hb0 : upd gt nx (some (.cells [Value.int .i64 0, .slice none 0 0, .slice none 0 0] false)) nx = some (.cells [Value.int .i64 0, .slice none 0 0, .slice none 0 0] false) := by simp only [upd_e, if_true]
  have hqn : (q = nx) = False := by simp; omega
  simp only [c_scalar_When_1, ↓gaW, ↓gaV, ↓gaC, ↓gaN, gaP, Nat.reduceEqDiff, Nat.reduceLeDiff, Nat.reduceAdd, Nat.reduceSub, Nat.reduceMul, Int.reduceLT, Int.reduceLE, Int.reduceEq, Int.reduceToNat, Int.reduceAdd, Int.reduceSub, Int.reduceMul, reduceCtorEq, ↓reduceIte, List.getD_cons_zero, List.getD_cons_succ, fillL, splice, List.take_zero, List.drop_zero, List.drop_succ_cons, List.take_succ_cons, List.drop_nil, List.take_nil, gaU, hqn, hg, List.getD_cons_zero]
  generalize upd gt nx (some (.cells [Value.int .i64 0, .slice none 0 0, .slice none 0 0] false)) = g0 at *
  repeat refine And.intro (by omega) ?_
  refine callK_of (ct_TimeE hs ho) (fun v x1 g1 l1 k1 hC => ?_) (by omega)
  have F1 : ∀ p, p < nx → g1 p = gt p := fun p hp => by rw [k1 p (by omega), hF p hp]
  have hb1 : g1 nx = some (.cells [Value.int .i64 0, .slice none 0 0, .slice none 0 0] false) := by rw [k1 nx (by omega), hb0]
  have ext : ∀ (cs : List Value), (∀ p, p ≠ nx → upd g1 nx (some (.cells cs false)) p = g1 p) := fun cs p hp => by simp only [upd_e]; rw [if_neg hp]
  cases hr : timeR o with
  | error e =>
    rw [hr] at hC
    obtain ⟨rfl, he⟩ := hC
    simp only [↓gaW, ↓gaV, ↓gaC, ↓gaN, gaP, Nat.reduceEqDiff, Nat.reduceLeDiff, Nat.reduceAdd, Nat.reduceSub, Nat.reduceMul, Int.reduceLT, Int.reduceLE, Int.reduceEq, Int.reduceToNat, Int.reduceAdd, Int.reduceSub, Int.reduceMul, reduceCtorEq, ↓reduceIte, List.getD_cons_zero, List.getD_cons_succ, fillL, splice, List.take_zero, List.drop_zero, List.drop_succ_cons, List.take_succ_cons, List.drop_nil, List.take_nil, hb1]
    repeat refine And.intro (by omega) ?_
    refine And.intro (node_cells _ _ _ _ _ _ _) ?_
    exact end_nT (q := nx) (t := 0) (B := none) (m := 0) (d := 0) (A := none) (n := 0) (c := 0) (ro := false) (w := .int .i64 e) (by first | (simp only [↓gaW, ↓gaV, ↓gaC, ↓gaN, gaP, Nat.reduceEqDiff, Nat.reduceLeDiff, Nat.reduceAdd, Nat.reduceSub, Nat.reduceMul, Int.reduceLT, Int.reduceLE, Int.reduceEq, Int.reduceToNat, Int.reduceAdd, Int.reduceSub, Int.reduceMul, reduceCtorEq, ↓reduceIte]; done) | (simp only [↓gaW, ↓gaV, ↓gaC, ↓gaN, gaP, Nat.reduceEqDiff, Nat.reduceLeDiff, Nat.reduceAdd, Nat.reduceSub, Nat.reduceMul, Int.reduceLT, Int.reduceLE, Int.reduceEq, Int.reduceToNat, Int.reduceAdd, Int.reduceSub, Int.reduceMul, reduceCtorEq, ↓reduceIte]; rfl)) (by first | (simp only [↓gaW, ↓gaV, ↓gaC, ↓gaN, gaP, Nat.reduceEqDiff, Nat.reduceLeDiff, Nat.reduceAdd, Nat.reduceSub, Nat.reduceMul, Int.reduceLT, Int.reduceLE, Int.reduceEq, Int.reduceToNat, Int.reduceAdd, Int.reduceSub, Int.reduceMul, reduceCtorEq, ↓reduceIte]; done) | (simp only [↓gaW, ↓gaV, ↓gaC, ↓gaN, gaP, Nat.reduceEqDiff, Nat.reduceLeDiff, Nat.reduceAdd, Nat.reduceSub, Nat.reduceMul, Int.reduceLT, Int.reduceLE, Int.reduceEq, Int.reduceToNat, Int.reduceAdd, Int.reduceSub, Int.reduceMul, reduceCtorEq, ↓reduceIte]; rfl)) (by simp only [upd_e, if_true]) (by omega) (fun p hp => by rw [ext _ p (by omega), F1 p hp]) ⟨rfl, he⟩
  | ok y =>
    rw [hr] at hC
    obtain ⟨u, rfl, B, m, d, A, n, c, ks, rfl, hN⟩ := hC
    simp only [↓gaW, ↓gaV, ↓gaC, ↓gaN, gaP, Nat.reduceEqDiff, Nat.reduceLeDiff, Nat.reduceAdd, Nat.reduceSub, Nat.reduceMul, Int.reduceLT, Int.reduceLE, Int.reduceEq, Int.reduceToNat, Int.reduceAdd, Int.reduceSub, Int.reduceMul, reduceCtorEq, ↓reduceIte, List.getD_cons_zero, List.getD_cons_succ, fillL, splice, List.take_zero, List.drop_zero, List.drop_succ_cons, List.take_succ_cons, List.drop_nil, List.take_nil, hb1]
    repeat refine And.intro (by omega) ?_
    refine And.intro (node_cells _ _ _ _ _ _ _) ?_
    exact end_nT (q := nx) (t := y.t) (B := B) (m := m) (d := d) (A := A) (n := n) (c := c) (ro := false) (w := .int .i64 0) (by first | (simp only [↓gaW, ↓gaV, ↓gaC, ↓gaN, gaP, Nat.reduceEqDiff, Nat.reduceLeDiff, Nat.reduceAdd, Nat.reduceSub, Nat.reduceMul, Int.reduceLT, Int.reduceLE, Int.reduceEq, Int.reduceToNat, Int.reduceAdd, Int.reduceSub, Int.reduceMul, reduceCtorEq, ↓reduceIte]; done) | (simp only [↓gaW, ↓gaV, ↓gaC, ↓gaN, gaP, Nat.reduceEqDiff, Nat.reduceLeDiff, Nat.reduceAdd, Nat.reduceSub, Nat.reduceMul, Int.reduceLT, Int.reduceLE, Int.reduceEq, Int.reduceToNat, Int.reduceAdd, Int.reduceSub, Int.reduceMul, reduceCtorEq, ↓reduceIte]; rfl)) (by first | (simp only [↓gaW, ↓gaV, ↓gaC, ↓gaN, gaP, Nat.reduceEqDiff, Nat.reduceLeDiff, Nat.reduceAdd, Nat.reduceSub, Nat.reduceMul, Int.reduceLT, Int.reduceLE, Int.reduceEq, Int.reduceToNat, Int.reduceAdd, Int.reduceSub, Int.reduceMul, reduceCtorEq, ↓reduceIte]; done) | (simp only [↓gaW, ↓gaV, ↓gaC, ↓gaN, gaP, Nat.reduceEqDiff, Nat.reduceLeDiff, Nat.reduceAdd, Nat.reduceSub, Nat.reduceMul, Int.reduceLT, Int.reduceLE, Int.reduceEq, Int.reduceToNat, Int.reduceAdd, Int.reduceSub, Int.reduceMul, reduceCtorEq, ↓reduceIte]; rfl)) (by simp only [upd_e, if_true]) (by omega) (fun p hp => by rw [ext _ p (by omega), F1 p hp]) ⟨_, rfl, B, m, d, A, n, c, ks, rfl, (hN.keep (Nat.le_refl _) fun p hp _ => ext _ p (by omega)).wid (by omega)⟩
end
end Go.Ga

/- The moment of an element. -/
namespace Go.Ga
open Go Go.Proofs
set_option linter.unusedSimpArgs false
set_option linter.unusedVariables false
set_option maxRecDepth 100000
attribute [local irreducible] appendK

section
variable {nx : Nat} {gt : Nat → Option Blk}

theorem ct_When {s : Int} {is : Bool} {o : Option D6} {x : Fo.El} {B : Option Addr} {m d : Nat} {A : Option Addr} {n c : Nat} {ks : List Value} (hs : -9223372036854775808 ≤ s ∧ s ≤ 9223372036854775807) (ho : DateO s o) (hv : rdV x = .tuple #[.int .i64 s, .bool is]) (h : NdR nx gt x B m d A n c ks) (hxw : x.f.ws < 900000) :
    Ct Tryd.prog 39 [nodeV x.t B m d A n c] nx gt fun v _ _ => v = .tuple #[.int .i64 (whenR s is o x).1, .int .i64 ((whenR s is o x).2 : Nat)] := by
  refine Ct.of hmx r_scalar_When (by simp [c_scalar_When]) fun b hb => ?_
  have hF : ∀ q, q < nx → upd gt nx (some (.cells (nodeL x.t B m d A n c) false)) q = gt q := fun q hq => by simp only [upd_e]; rw [if_neg (by omega)]
  have hb0 : upd gt nx (some (.cells (nodeL x.t B m d A n c) false)) nx = some (.cells (nodeL x.t B m d A n c) false) := by simp only [upd_e, if_true]
  have xw : x.f.ws = 1 + x.b.length + x.k.ws := by simp only [Fo.El.f, Fo.ws]; omega
  have lw := Fo.len_ws x.k
  have hl := h.blen
  have hkl := h.len
  have e1 : rowOf ⟨nx + 1, b, upd gt nx (some (.cells (nodeL x.t B m d A n c) false))⟩ B m = some (x.b.map u8V) := (h.body.keep (nx' := nx + 1) (by omega) hF).rowOf
  have e1' : rowOf ⟨nx + 1, b, upd gt nx (some (.cells [Value.int .i64 x.t, .slice B m d, .slice A n c] false))⟩ B m = some (x.b.map u8V) := e1
  simp only [c_scalar_When, ↓gaW, ↓gaV, ↓gaC, ↓gaN, gaP, Nat.reduceEqDiff, Nat.reduceLeDiff, Nat.reduceAdd, Nat.reduceSub, Nat.reduceMul, Int.reduceLT, Int.reduceLE, Int.reduceEq, Int.reduceToNat, Int.reduceAdd, Int.reduceSub, Int.reduceMul, reduceCtorEq, ↓reduceIte, List.getD_cons_zero, List.getD_cons_succ, fillL, splice, List.take_zero, List.drop_zero, List.drop_succ_cons, List.take_succ_cons, List.drop_nil, List.take_nil, gaU, e1, e1', bytesOf_map]
  generalize upd gt nx (some (.cells (nodeL x.t B m d A n c) false)) = g0 at *
  repeat refine And.intro (by omega) ?_
  refine callK_of (ct_Read (s := ⟨x.b.toArray⟩) (l := decide (x.t = 24)) (by show x.b.length < _; omega)) (fun v x1 g1 l1 k1 hC => ?_) (by omega)
  have hC' : v = .tuple #[.int .i64 s, .bool is] := by rw [← hv]; exact hC
  clear hC
  subst hC'
  have F1 : ∀ p, p < nx → g1 p = gt p := fun p hp => by rw [k1 p (by omega), hF p hp]
  have hb1 : g1 nx = some (.cells (nodeL x.t B m d A n c) false) := by rw [k1 nx (by omega), hb0]
  have hnn : (nx = x1) = False := by simp; omega
  simp only [↓gaW, ↓gaV, ↓gaC, ↓gaN, gaP, Nat.reduceEqDiff, Nat.reduceLeDiff, Nat.reduceAdd, Nat.reduceSub, Nat.reduceMul, Int.reduceLT, Int.reduceLE, Int.reduceEq, Int.reduceToNat, Int.reduceAdd, Int.reduceSub, Int.reduceMul, reduceCtorEq, ↓reduceIte, List.getD_cons_zero, List.getD_cons_succ, fillL, splice, List.take_zero, List.drop_zero, List.drop_succ_cons, List.take_succ_cons, List.drop_nil, List.take_nil, gaU, hnn, hb1]
  repeat refine And.intro (by omega) ?_
  refine And.intro (all1 rfl) ?_
  repeat refine And.intro (by omega) ?_
  obtain ⟨g2, e2, G2, hb2⟩ := boxed (g := g1) (x := x1) (cs := [Value.int .i64 0]) (ds := [Value.int .i64 s])
  rw [← e2]; clear e2
  have hN2 := h.keep (x' := x1 + 1) (g := g2) (by omega) fun p hp => by rw [G2 p (by omega), F1 p hp]
  refine callK_of (ct_justI (r := timeR o) hN2 (by omega) (fun y' hy' => by have := timeR_ok hy'; omega) (fun nx' g h1 h2 => ct_When1 (q := x1) (by omega) (by rw [h2 x1 (by omega), hb2]) hs ho)) (fun v x3 g3 l3 k3 hC => ?_) (by omega)
  obtain ⟨bb, hbb, rfl⟩ := hC
  have F3 : ∀ p, p < nx → g3 p = gt p := fun p hp => by rw [k3 p (by omega), G2 p (by omega), F1 p hp]
  have hj : justP is x (timeR o) ↔ (is = true ∧ timeR o = .ok x) := by
    unfold justP
    constructor
    · rintro ⟨h1, z, h2, h3⟩
      exact ⟨h1, by rw [h2, (alike_eq (timeR_ok h2).2).1 h3]⟩
    · rintro ⟨h0, h1⟩
      exact ⟨h0, x, h1, (alike_eq (timeR_ok h1).2).2 rfl⟩
  cases bb with
  | true =>
    have er : whenR s is o x = (s, 0) := if_pos (hj.1 (hbb.1 rfl))
    simp only [↓gaW, ↓gaV, ↓gaC, ↓gaN, gaP, Nat.reduceEqDiff, Nat.reduceLeDiff, Nat.reduceAdd, Nat.reduceSub, Nat.reduceMul, Int.reduceLT, Int.reduceLE, Int.reduceEq, Int.reduceToNat, Int.reduceAdd, Int.reduceSub, Int.reduceMul, reduceCtorEq, ↓reduceIte, gaE, implies_true, Nat.le_refl, Int.sub_zero, Nat.sub_zero, Int.le_refl, true_or, or_true, List.getD_cons_zero, List.getD_cons_succ, fillL, splice, List.take_zero, List.drop_zero, List.drop_succ_cons, List.take_succ_cons, List.drop_nil, List.take_nil, if_true, er]
    repeat refine And.intro (by omega) ?_
    first | exact F3 | exact ⟨F3, rfl⟩ | exact rfl
  | false =>
    have er : whenR s is o x = (0, 2) := if_neg fun hc => by have := hbb.2 (hj.2 hc); cases this
    simp only [↓gaW, ↓gaV, ↓gaC, ↓gaN, gaP, Nat.reduceEqDiff, Nat.reduceLeDiff, Nat.reduceAdd, Nat.reduceSub, Nat.reduceMul, Int.reduceLT, Int.reduceLE, Int.reduceEq, Int.reduceToNat, Int.reduceAdd, Int.reduceSub, Int.reduceMul, reduceCtorEq, ↓reduceIte, gaE, implies_true, Nat.le_refl, Int.sub_zero, Nat.sub_zero, Int.le_refl, true_or, or_true, List.getD_cons_zero, List.getD_cons_succ, fillL, splice, List.take_zero, List.drop_zero, List.drop_succ_cons, List.take_succ_cons, List.drop_nil, List.take_nil, Bool.false_eq_true, if_false, er]
    repeat refine And.intro (by omega) ?_
    first | exact F3 | exact ⟨F3, rfl⟩ | exact rfl

end
end Go.Ga

/- The law ScalarTexts. -/
namespace Go.Ga
open Go Go.Proofs
set_option linter.unusedSimpArgs false
set_option linter.unusedVariables false
set_option maxRecDepth 100000
attribute [local irreducible] appendK

theorem text_nws {l : List UInt8} : (nodeOf (textR l)).f.ws ≤ 201 := by
  cases h : textR l with
  | error e => show 1 + 0 + 0 + 0 ≤ _; omega
  | ok y => exact textR_ws h
theorem time_nws {o : Option D6} : (nodeOf (timeR o)).f.ws ≤ 20 := by
  cases h : timeR o with
  | error e => show 1 + 0 + 0 + 0 ≤ _; omega
  | ok y => exact (timeR_ok h).1

section
variable {nx : Nat} {gt : Nat → Option Blk}


end
end Go.Ga

/- The document's object names. -/
namespace Go.Ga
open Go Go.Proofs
set_option linter.unusedSimpArgs false
set_option linter.unusedVariables false
set_option maxRecDepth 100000
attribute [local irreducible] appendK

section
variable {nx : Nat} {gt : Nat → Option Blk}

end
end Go.Ga

/- What bytes say of an object's name: plain. -/
namespace Go.Ga
open Go Go.Proofs

def nums : List UInt8 → Nat → List Nat → Bool → Option (List Nat × Bool)
  | [], _, out, ends => some (out, ends)
  | c :: t, n, out, _ => if 1099511627776 ≤ n * 128 + c.toNat % 128 then none else if c.toNat < 128 then nums t 0 (out ++ [n * 128 + c.toNat % 128]) true else nums t (n * 128 + c.toNat % 128) out false
def ao : List Nat → List UInt32
  | [] => []
  | x :: t => UInt32.ofNat (min (x / 40) 2) :: UInt32.ofNat (x - 40 * min (x / 40) 2) :: t.map UInt32.ofNat
def okA : List Nat → Bool
  | [] => true
  | x :: t => decide (x - 40 * min (x / 40) 2 < 4294967296) && t.all fun y => decide (y < 4294967296)
theorem ao_snoc {L : List Nat} {y : Nat} (h : L ≠ []) : ao (L ++ [y]) = ao L ++ [UInt32.ofNat y] := by
  cases L with
  | nil => exact absurd rfl h
  | cons x t => simp [ao]
theorem okA_snoc {L : List Nat} {y : Nat} (h : L ≠ []) : okA (L ++ [y]) = (okA L && decide (y < 4294967296)) := by
  cases L with
  | nil => exact absurd rfl h
  | cons x t => simp [okA, List.all_append, Bool.and_assoc]
theorem ao_len {L : List Nat} : (ao L).length ≤ L.length + 1 := by
  cases L with
  | nil => simp [ao]
  | cons x t => simp [ao]
theorem ofNat_mod (k : Nat) (h : k < 128) : (UInt8.ofNat (k + 128)).toNat = k + 128 := by
  rw [UInt8.toNat_ofNat']; omega

theorem nums_sg : ∀ k, k < 1099511627776 → ∀ r out e, nums ((sg k).reverse ++ r) 0 out e = nums r k out (if k = 0 then e else false) := by
  intro k
  induction k using Nat.strongRecOn with
  | ind k ih =>
    intro hk r out e
    by_cases h0 : k = 0
    · subst h0; rw [sg_0, if_pos rfl]; rfl
    · rw [sg_s h0, List.reverse_cons, List.append_assoc, ih (k / 128) (by omega) (by omega), if_neg h0]
      show nums (UInt8.ofNat (k % 128 + 128) :: r) _ _ _ = _
      have e1 := ofNat_mod (k % 128) (by omega)
      simp only [nums, e1]
      have e2 : k / 128 * 128 + (k % 128 + 128) % 128 = k := by omega
      rw [e2, if_neg (by omega), if_neg (by omega)]
theorem nums_sv {m : Nat} (hm : m < 1099511627776) (r : List UInt8) (out : List Nat) (e : Bool) : nums (sv m ++ r) 0 out e = nums r 0 (out ++ [m]) true := by
  unfold sv le7
  rw [List.reverse_cons, List.append_assoc, nums_sg _ (by omega)]
  show nums (UInt8.ofNat (m % 128) :: r) _ _ _ = _
  have e1 : (UInt8.ofNat (m % 128)).toNat = m % 128 := by rw [UInt8.toNat_ofNat']; omega
  simp only [nums, e1]
  have e2 : m / 128 * 128 + m % 128 % 128 = m := by omega
  rw [e2, if_neg (by omega), if_pos (by omega)]
theorem nums_svs (t : List UInt32) : ∀ out, nums (svs t) 0 out true = some (out ++ t.map (·.toNat), true) := by
  induction t with
  | nil => intro out; simp [svs, nums]
  | cons x t ih =>
    intro out
    have := x.toNat_lt
    show nums (sv x.toNat ++ svs t) 0 out true = _
    rw [nums_sv (by omega), ih]; simp
theorem oid_parts {l : List UInt32} (h : oidOk l = true) : ∃ a b t, l = a :: b :: t ∧ t.length ≤ 18 ∧ a.toNat ≤ 2 ∧ b.toNat ≤ 4294967200 ∧ (a.toNat = 2 ∨ b.toNat ≤ 39) := by
  match l, h with
  | [], h => simp [oidOk] at h
  | [_], h => simp [oidOk] at h
  | a :: b :: t, h =>
    simp only [oidOk, Bool.and_eq_true, Bool.or_eq_true, decide_eq_true_eq] at h
    exact ⟨a, b, t, rfl, h.1.1.1, h.1.1.2, h.1.2, h.2⟩
theorem nums_oid {l : List UInt32} (h : oidOk l = true) : ∃ L, nums (oidB l) 0 [] true = some (L, true) ∧ L ≠ [] ∧ ao L = l ∧ okA L = true := by
  obtain ⟨a, b, t, rfl, h1, h2, h3, h4⟩ := oid_parts h
  refine ⟨(a.toNat * 40 + b.toNat) :: t.map (·.toNat), ?_, by simp, ?_, ?_⟩
  · show nums (sv (a.toNat * 40 + b.toNat) ++ svs t) 0 [] true = _
    rw [nums_sv (by omega), nums_svs]; rfl
  · have e1 : min ((a.toNat * 40 + b.toNat) / 40) 2 = a.toNat := by omega
    simp only [ao, e1]
    have e2 : a.toNat * 40 + b.toNat - 40 * a.toNat = b.toNat := by omega
    rw [e2, UInt32.ofNat_toNat, UInt32.ofNat_toNat, List.map_map]
    congr 2
    conv => rhs; rw [← List.map_id t]
    exact List.map_congr_left fun x _ => UInt32.ofNat_toNat
  · have e1 : min ((a.toNat * 40 + b.toNat) / 40) 2 = a.toNat := by omega
    simp only [okA, e1]
    have e2 : a.toNat * 40 + b.toNat - 40 * a.toNat = b.toNat := by omega
    have := b.toNat_lt
    rw [e2, decide_eq_true (by omega), Bool.true_and, List.all_eq_true]
    intro x hx
    obtain ⟨y, _, rfl⟩ := List.mem_map.1 hx
    have := y.toNat_lt
    exact decide_eq_true (by omega)

def rar : List UInt8 → Nat → List UInt32 → Option (List UInt32)
  | [], _, l => some l
  | c :: t, x, l =>
    if 128 ≤ c.toNat then rar t (x % 144115188075855872 * 128 + c.toNat % 128) l
    else if l = [] then
      (if 4294967295 < x % 144115188075855872 * 128 + c.toNat % 128 - 40 * min ((x % 144115188075855872 * 128 + c.toNat % 128) / 40) 2 then none
       else rar t 0 [UInt32.ofNat (min ((x % 144115188075855872 * 128 + c.toNat % 128) / 40) 2), UInt32.ofNat (x % 144115188075855872 * 128 + c.toNat % 128 - 40 * min ((x % 144115188075855872 * 128 + c.toNat % 128) / 40) 2)])
    else if 4294967295 < x % 144115188075855872 * 128 + c.toNat % 128 ∨ 20 < l.length then none
    else rar t 0 (l ++ [UInt32.ofNat (x % 144115188075855872 * 128 + c.toNat % 128)])
theorem rar_sg : ∀ k, k < 1099511627776 → ∀ r l, rar ((sg k).reverse ++ r) 0 l = rar r k l := by
  intro k
  induction k using Nat.strongRecOn with
  | ind k ih =>
    intro hk r out
    by_cases h0 : k = 0
    · subst h0; rw [sg_0]; rfl
    · rw [sg_s h0, List.reverse_cons, List.append_assoc, ih (k / 128) (by omega) (by omega)]
      show rar (UInt8.ofNat (k % 128 + 128) :: r) _ _ = _
      have e1 := ofNat_mod (k % 128) (by omega)
      simp only [rar, e1]
      have e2 : k / 128 % 144115188075855872 * 128 + (k % 128 + 128) % 128 = k := by omega
      rw [e2, if_pos (by omega)]
theorem rar_sv {m : Nat} (hm : m < 1099511627776) (r : List UInt8) (l : List UInt32) : rar (sv m ++ r) 0 l = if l = [] then (if 4294967295 < m - 40 * min (m / 40) 2 then none else rar r 0 [UInt32.ofNat (min (m / 40) 2), UInt32.ofNat (m - 40 * min (m / 40) 2)]) else if 4294967295 < m ∨ 20 < l.length then none else rar r 0 (l ++ [UInt32.ofNat m]) := by
  unfold sv le7
  rw [List.reverse_cons, List.append_assoc, rar_sg _ (by omega)]
  show rar (UInt8.ofNat (m % 128) :: r) _ _ = _
  have e1 : (UInt8.ofNat (m % 128)).toNat = m % 128 := by rw [UInt8.toNat_ofNat']; omega
  simp only [rar, e1]
  have e2 : m / 128 % 144115188075855872 * 128 + m % 128 % 128 = m := by omega
  rw [e2, if_neg (by omega)]
theorem rar_svs (t : List UInt32) : ∀ l, l ≠ [] → l.length + t.length ≤ 20 → rar (svs t) 0 l = some (l ++ t) := by
  induction t with
  | nil => intro l _ _; simp [svs, rar]
  | cons x t ih =>
    intro l hl hn
    have := x.toNat_lt
    simp only [List.length_cons] at hn
    show rar (sv x.toNat ++ svs t) 0 l = _
    rw [rar_sv (by omega), if_neg hl, if_neg (by omega), UInt32.ofNat_toNat, ih _ (by simp) (by simp; omega)]; simp
theorem rar_oid {l : List UInt32} (h : oidOk l = true) : rar (oidB l) 0 [] = some l := by
  obtain ⟨a, b, t, rfl, h1, h2, h3, h4⟩ := oid_parts h
  have e1 : min ((a.toNat * 40 + b.toNat) / 40) 2 = a.toNat := by omega
  have e2 : a.toNat * 40 + b.toNat - 40 * a.toNat = b.toNat := by omega
  show rar (sv (a.toNat * 40 + b.toNat) ++ svs t) 0 [] = _
  rw [rar_sv (by omega), if_pos rfl, e1, e2, if_neg (by omega), UInt32.ofNat_toNat, UInt32.ofNat_toNat, rar_svs t _ (by simp) (by simp; omega)]; rfl

theorem oidR_ok {l : List UInt32} {y : Fo.El} (h : oidR l = .ok y) : oidOk l = true ∧ y = ⟨6, oidB l, .nil⟩ := by
  unfold oidR at h
  split at h
  · injection h with h; exact ⟨by assumption, h.symm⟩
  · cases h
theorem oidR_one {l k : List UInt32} {y : Fo.El} (h : oidR l = .ok y) (h' : oidR k = .ok y) : l = k := by
  obtain ⟨h1, h2⟩ := oidR_ok h
  obtain ⟨h3, h4⟩ := oidR_ok h'
  have e : oidB l = oidB k := by rw [h2] at h4; injection h4
  have := rar_oid h1
  rw [e, rar_oid h3] at this
  injection this with this; exact this.symm
/-- The numbers of an element; or an error. -/
noncomputable def arcsR (x : Fo.El) : List UInt32 × Nat := open Classical in if h : ∃ l, oidR l = .ok x then (h.choose, 0) else ([], 2)
theorem arcsR_ok {x : Fo.El} {l : List UInt32} (h : oidR l = .ok x) : arcsR x = (l, 0) := by
  have hx : ∃ l, oidR l = .ok x := ⟨l, h⟩
  unfold arcsR
  rw [dif_pos hx, oidR_one hx.choose_spec h]
theorem arcsR_no {x : Fo.El} (h : ∀ l, ¬ oidR l = .ok x) : arcsR x = ([], 2) := dif_neg fun ⟨l, hl⟩ => h l hl
theorem oidB_len {l : List UInt32} (h : oidOk l = true) : (oidB l).length ≤ 200 := by
  obtain ⟨a, b, t, rfl, h1, h2, h3, h4⟩ := oid_parts h
  have := sv_len (n := a.toNat * 40 + b.toNat) (by omega)
  have h5 := svs_len t
  show (sv (a.toNat * 40 + b.toNat) ++ svs t).length ≤ _
  rw [List.length_append]; omega
theorem oidR_ws {l : List UInt32} {y : Fo.El} (h : oidR l = .ok y) : y.f.ws ≤ 201 := by
  obtain ⟨h1, rfl⟩ := oidR_ok h
  have := oidB_len h1
  show 1 + (oidB l).length + 0 + 0 ≤ _
  omega
theorem oidR_k {l : List UInt32} {y : Fo.El} (h : oidR l = .ok y) : y.k = .nil := by rw [(oidR_ok h).2]
end Go.Ga

/- Numbers of bytes. -/
namespace Go.Ga
open Go Go.Proofs
set_option linter.unusedSimpArgs false
set_option linter.unusedVariables false
set_option maxRecDepth 100000
attribute [local irreducible] appendK

def u64N (k : Nat) : Value := .int .u64 (k : Nat)
def NuSl (nx : Nat) (g : Nat → Option Blk) (v : Value) (L : List Nat) : Prop := ∃ (A : Option Addr) (n : Nat), v = .slice A n n ∧ n = L.length ∧ Row nx g 1 A n (L.map u64N)
def numsR (b : List UInt8) : List Nat × Bool := match nums b 0 [] true with
  | none => ([], false)
  | some (L, e) => (L, e && decide (0 < L.length))
theorem and127_8 {c : Nat} (h : c < 256) : bitsV .and .u8 (c : Int) 127 = ((c % 128 : Nat) : Int) := by
  have e : c &&& 127 = c % 128 := Nat.and_two_pow_sub_one_eq_mod c 7
  show IntKind.u8.wrap ((BitVec.ofInt 8 (c : Int) &&& BitVec.ofInt 8 ((127 : Nat) : Int)).toNat : Int) = _
  simp only [BitVec.ofInt_natCast, BitVec.toNat_and, BitVec.toNat_ofNat]
  rw [Nat.mod_eq_of_lt (by omega), Nat.mod_eq_of_lt (by omega), e, u8_w]
  omega
theorem shl7 {n : Nat} (h : n < 1099511627776) : shlV .u64 (n : Int) 7 = ((n * 128 : Nat) : Int) := by
  show IntKind.u64.wrap ((n : Int) * 2 ^ (min (7 : Int).toNat IntKind.u64.bits)) = _
  have e : (min (7 : Int).toNat IntKind.u64.bits) = 7 := by decide
  rw [e, u64_w]; omega
theorem or7 {n c : Nat} (h : n < 1099511627776) (hc : c < 128) : bitsV .or .u64 ((n * 128 : Nat) : Int) (c : Int) = ((n * 128 + c : Nat) : Int) := by
  have e : (n * 128) ||| c = n * 128 + c := by
    have := Nat.two_pow_add_eq_or_of_lt (i := 7) (b := c) hc n
    rw [show n * 128 = 2 ^ 7 * n by omega, ← this]
  show IntKind.u64.wrap ((BitVec.ofInt 64 ((n * 128 : Nat) : Int) ||| BitVec.ofInt 64 ((c : Nat) : Int)).toNat : Int) = _
  simp only [BitVec.ofInt_natCast, BitVec.toNat_or, BitVec.toNat_ofNat]
  rw [Nat.mod_eq_of_lt (by omega), Nat.mod_eq_of_lt (by omega), e, u64_w]
  omega
theorem shr40 (n : Nat) : shrV .u64 (n : Int) 40 = ((n / 1099511627776 : Nat) : Int) := shr_nat n 40 (by decide)
theorem shr32 (n : Nat) : shrV .u64 (n : Int) 32 = ((n / 4294967296 : Nat) : Int) := shr_nat n 32 (by decide)
theorem nums_lt : ∀ l n out e L e', n < 1099511627776 → (∀ y ∈ out, y < 1099511627776) → nums l n out e = some (L, e') → ∀ y ∈ L, y < 1099511627776 := by
  intro l
  induction l with
  | nil => intro n out e L e' _ ho h; simp only [nums, Option.some.injEq, Prod.mk.injEq] at h; rw [← h.1]; exact ho
  | cons c t ih =>
    intro n out e L e' hn ho h
    simp only [nums] at h
    split at h
    · cases h
    · split at h
      · refine ih 0 _ _ L e' (by omega) (fun y hy => ?_) h
        rcases List.mem_append.1 hy with h1 | h1
        · exact ho y h1
        · have := List.mem_singleton.1 h1; omega
      · exact ih _ _ _ L e' (by omega) ho h
theorem nums_len : ∀ l n out e L e', nums l n out e = some (L, e') → L.length ≤ out.length + l.length := by
  intro l
  induction l with
  | nil => intro n out e L e' h; simp only [nums, Option.some.injEq, Prod.mk.injEq] at h; rw [← h.1]; simp
  | cons c t ih =>
    intro n out e L e' h
    simp only [nums] at h
    split at h
    · cases h
    · split at h
      · have := ih _ _ _ L e' h
        simp only [List.length_append, List.length_cons, List.length_nil] at this ⊢; omega
      · have := ih _ _ _ L e' h
        simp only [List.length_cons]; omega
theorem numsR_lt {b : List UInt8} : ∀ y ∈ (numsR b).1, y < 1099511627776 := by
  unfold numsR
  cases h : nums b 0 [] true with
  | none => simp
  | some p => obtain ⟨L, e⟩ := p; exact nums_lt b 0 [] true L e (by omega) (by simp) h
theorem numsR_len {b : List UInt8} : (numsR b).1.length ≤ b.length := by
  unfold numsR
  cases h : nums b 0 [] true with
  | none => simp
  | some p => obtain ⟨L, e⟩ := p; have := nums_len b 0 [] true L e h; simpa using this

section
variable {nx : Nat} {gt : Nat → Option Blk}

theorem ct_numbers {A : Option Addr} {n c : Nat} {l : List UInt8} (hA : Row nx gt 1 A n (l.map u8V)) (hc : n ≤ c) (hn : n ≤ 1000000) :
    Ct Tryd.prog 58 [.slice A n c] nx gt fun v x g => ∃ u, v = .tuple #[u, .bool (numsR l).2] ∧ NuSl x g u (numsR l).1 := by
  have hl : l.length = n := by simpa using hA.len
  refine Ct.of hmx r_scalar_numbers (by simp [c_scalar_numbers]) fun b hb => ?_
  simp only [c_scalar_numbers, ↓gaW, ↓gaV, ↓gaC, ↓gaN, gaP, Nat.reduceEqDiff, Nat.reduceLeDiff, Nat.reduceAdd, Nat.reduceSub, Nat.reduceMul, Int.reduceLT, Int.reduceLE, Int.reduceEq, Int.reduceToNat, Int.reduceAdd, Int.reduceSub, Int.reduceMul, reduceCtorEq, ↓reduceIte, List.getD_cons_zero, List.getD_cons_succ, fillL, splice, List.take_zero, List.drop_zero, List.drop_succ_cons, List.take_succ_cons, List.drop_nil, List.take_nil]
  refine loop_of (fun j f mm => ∃ (i k x2 : Nat) (e : Bool) (g : Nat → Option Blk) (A' : Option Addr) (o : List Nat), j = n - i ∧ i ≤ n ∧ k < 1099511627776 ∧ nums l 0 [] true = nums (l.drop i) k o e ∧ o.length ≤ i ∧ f 4 = .slice A' o.length o.length ∧ f 5 = .int .u64 (k : Nat) ∧ f 6 = .bool e ∧ f 9 = .slice A n c ∧ f 10 = .int .i64 (n : Nat) ∧ f 11 = .int .i64 (i : Nat) ∧
    mm = ⟨x2, b, g⟩ ∧ nx ≤ x2 ∧ (∀ p, p < nx → g p = gt p) ∧ Own nx b x2 g 1 A' o.length (o.map u64N)) n
    ⟨0, 0, nx, true, gt, none, [], by omega, by omega, by omega, by simp, by simp, (by first | (simp only [↓gaW, ↓gaV, ↓gaC, ↓gaN, gaP, Nat.reduceEqDiff, Nat.reduceLeDiff, Nat.reduceAdd, Nat.reduceSub, Nat.reduceMul, Int.reduceLT, Int.reduceLE, Int.reduceEq, Int.reduceToNat, Int.reduceAdd, Int.reduceSub, Int.reduceMul, reduceCtorEq, ↓reduceIte]; done) | (simp only [↓gaW, ↓gaV, ↓gaC, ↓gaN, gaP, Nat.reduceEqDiff, Nat.reduceLeDiff, Nat.reduceAdd, Nat.reduceSub, Nat.reduceMul, Int.reduceLT, Int.reduceLE, Int.reduceEq, Int.reduceToNat, Int.reduceAdd, Int.reduceSub, Int.reduceMul, reduceCtorEq, ↓reduceIte]; rfl)), (by first | (simp only [↓gaW, ↓gaV, ↓gaC, ↓gaN, gaP, Nat.reduceEqDiff, Nat.reduceLeDiff, Nat.reduceAdd, Nat.reduceSub, Nat.reduceMul, Int.reduceLT, Int.reduceLE, Int.reduceEq, Int.reduceToNat, Int.reduceAdd, Int.reduceSub, Int.reduceMul, reduceCtorEq, ↓reduceIte]; done) | (simp only [↓gaW, ↓gaV, ↓gaC, ↓gaN, gaP, Nat.reduceEqDiff, Nat.reduceLeDiff, Nat.reduceAdd, Nat.reduceSub, Nat.reduceMul, Int.reduceLT, Int.reduceLE, Int.reduceEq, Int.reduceToNat, Int.reduceAdd, Int.reduceSub, Int.reduceMul, reduceCtorEq, ↓reduceIte]; rfl)), (by first | (simp only [↓gaW, ↓gaV, ↓gaC, ↓gaN, gaP, Nat.reduceEqDiff, Nat.reduceLeDiff, Nat.reduceAdd, Nat.reduceSub, Nat.reduceMul, Int.reduceLT, Int.reduceLE, Int.reduceEq, Int.reduceToNat, Int.reduceAdd, Int.reduceSub, Int.reduceMul, reduceCtorEq, ↓reduceIte]; done) | (simp only [↓gaW, ↓gaV, ↓gaC, ↓gaN, gaP, Nat.reduceEqDiff, Nat.reduceLeDiff, Nat.reduceAdd, Nat.reduceSub, Nat.reduceMul, Int.reduceLT, Int.reduceLE, Int.reduceEq, Int.reduceToNat, Int.reduceAdd, Int.reduceSub, Int.reduceMul, reduceCtorEq, ↓reduceIte]; rfl)), (by first | (simp only [↓gaW, ↓gaV, ↓gaC, ↓gaN, gaP, Nat.reduceEqDiff, Nat.reduceLeDiff, Nat.reduceAdd, Nat.reduceSub, Nat.reduceMul, Int.reduceLT, Int.reduceLE, Int.reduceEq, Int.reduceToNat, Int.reduceAdd, Int.reduceSub, Int.reduceMul, reduceCtorEq, ↓reduceIte]; done) | (simp only [↓gaW, ↓gaV, ↓gaC, ↓gaN, gaP, Nat.reduceEqDiff, Nat.reduceLeDiff, Nat.reduceAdd, Nat.reduceSub, Nat.reduceMul, Int.reduceLT, Int.reduceLE, Int.reduceEq, Int.reduceToNat, Int.reduceAdd, Int.reduceSub, Int.reduceMul, reduceCtorEq, ↓reduceIte]; rfl)), (by first | (simp only [↓gaW, ↓gaV, ↓gaC, ↓gaN, gaP, Nat.reduceEqDiff, Nat.reduceLeDiff, Nat.reduceAdd, Nat.reduceSub, Nat.reduceMul, Int.reduceLT, Int.reduceLE, Int.reduceEq, Int.reduceToNat, Int.reduceAdd, Int.reduceSub, Int.reduceMul, reduceCtorEq, ↓reduceIte]; done) | (simp only [↓gaW, ↓gaV, ↓gaC, ↓gaN, gaP, Nat.reduceEqDiff, Nat.reduceLeDiff, Nat.reduceAdd, Nat.reduceSub, Nat.reduceMul, Int.reduceLT, Int.reduceLE, Int.reduceEq, Int.reduceToNat, Int.reduceAdd, Int.reduceSub, Int.reduceMul, reduceCtorEq, ↓reduceIte]; rfl)), (by first | (simp only [↓gaW, ↓gaV, ↓gaC, ↓gaN, gaP, Nat.reduceEqDiff, Nat.reduceLeDiff, Nat.reduceAdd, Nat.reduceSub, Nat.reduceMul, Int.reduceLT, Int.reduceLE, Int.reduceEq, Int.reduceToNat, Int.reduceAdd, Int.reduceSub, Int.reduceMul, reduceCtorEq, ↓reduceIte]; done) | (simp only [↓gaW, ↓gaV, ↓gaC, ↓gaN, gaP, Nat.reduceEqDiff, Nat.reduceLeDiff, Nat.reduceAdd, Nat.reduceSub, Nat.reduceMul, Int.reduceLT, Int.reduceLE, Int.reduceEq, Int.reduceToNat, Int.reduceAdd, Int.reduceSub, Int.reduceMul, reduceCtorEq, ↓reduceIte]; rfl)), rfl, Nat.le_refl _, fun _ _ => rfl, Own.nil⟩ ?_
  rintro j f mm ⟨i, k, x2, e, g2, A2, o, hj, hi, hk, hnu, hol, f4, f5, f6, f9, f10, f11, rfl, hx2, F2, hO2⟩
  by_cases hlt : (i : Int) < (n : Int)
  · obtain ⟨a, cl, ro, rfl, r2, r3, r4, r5⟩ := hA.cells (by omega)
    have h2q : g2 a.block = some (.cells cl ro) := by rw [F2 _ r2, r3]
    have c0 : cl.getD (a.off + i) undef = .int .u8 ((l.getD i 0).toNat : Nat) := by rw [r5 i (by omega), getD_u8 (by omega)]
    obtain ⟨z, hz⟩ : ∃ z, z = l.getD i 0 := ⟨_, rfl⟩
    have hz8 := z.toNat_lt
    have hdr : l.drop i = z :: l.drop (i + 1) := by rw [hz]; exact drop_getD (by omega)
    rw [← hz] at c0
    rw [hdr] at hnu
    simp only [nums] at hnu
    have i1 : IntKind.u64.wrap (((z.toNat % 128 : Nat)) : Int) = ((z.toNat % 128 : Nat) : Int) := by rw [u64_w]; omega
    have i2 : IntKind.i64.wrap ((i : Int) + 1) = ((i + 1 : Nat) : Int) := by rw [i64_w _ (by omega)]; omega
    obtain ⟨w, hw⟩ : ∃ w, w = k * 128 + z.toNat % 128 := ⟨_, rfl⟩
    have i3 : bitsV .or .u64 ((k * 128 : Nat) : Int) ((z.toNat % 128 : Nat) : Int) = (w : Int) := by rw [or7 hk (by omega), hw]
    rw [← hw] at hnu
    by_cases hbig : 1099511627776 ≤ w
    · have hq : ¬ ((w / 1099511627776 : Nat) : Int) = 0 := by omega
      rw [if_pos hbig] at hnu
      simp only [↓gaW, ↓gaV, ↓gaC, ↓gaN, gaP, Nat.reduceEqDiff, Nat.reduceLeDiff, Nat.reduceAdd, Nat.reduceSub, Nat.reduceMul, Int.reduceLT, Int.reduceLE, Int.reduceEq, Int.reduceToNat, Int.reduceAdd, Int.reduceSub, Int.reduceMul, reduceCtorEq, ↓reduceIte, gaE, implies_true, Nat.le_refl, Int.sub_zero, Nat.sub_zero, Int.le_refl, true_or, or_true, List.getD_cons_zero, List.getD_cons_succ, fillL, splice, List.take_zero, List.drop_zero, List.drop_succ_cons, List.take_succ_cons, List.drop_nil, List.take_nil, f5, f9, f10, f11, hlt, decide_true, h2q, c0, and127_8 hz8, shl7 hk, i1, i3, shr40, hq, not_false_eq_true]
      have er : numsR l = ([], false) := by unfold numsR; rw [hnu]
      rw [er]
      repeat refine And.intro (by omega) ?_
      first | exact ⟨F2, _, rfl, none, 0, rfl, rfl, .nil⟩ | exact ⟨_, rfl, none, 0, rfl, rfl, .nil⟩
    · have hq : ((w / 1099511627776 : Nat) : Int) = 0 := by omega
      rw [if_neg hbig] at hnu
      by_cases h128 : (z.toNat : Int) < 128
      · rw [if_pos (by omega)] at hnu
        simp only [↓gaW, ↓gaV, ↓gaC, ↓gaN, gaP, Nat.reduceEqDiff, Nat.reduceLeDiff, Nat.reduceAdd, Nat.reduceSub, Nat.reduceMul, Int.reduceLT, Int.reduceLE, Int.reduceEq, Int.reduceToNat, Int.reduceAdd, Int.reduceSub, Int.reduceMul, reduceCtorEq, ↓reduceIte, List.getD_cons_zero, List.getD_cons_succ, fillL, splice, List.take_zero, List.drop_zero, List.drop_succ_cons, List.take_succ_cons, List.drop_nil, List.take_nil, f4, f5, f9, f10, f11, hlt, decide_true, h2q, c0, and127_8 hz8, shl7 hk, i1, i3, shr40, hq, not_true, decide_false, h128]
        repeat refine And.intro (by omega) ?_
        have hZ : ∀ q, q < x2 → upd g2 x2 (some (.cells [u64N w] false)) q = g2 q := fun q hq => by rw [upd_e, if_neg (by omega)]
        have er : rowOf ⟨x2 + 1, b, upd g2 x2 (some (.cells [u64N w] false))⟩ (some ⟨x2, 0, none⟩) 1 = some [u64N w] := row_new (l := [u64N w]) (by simp)
        have er' : rowOf ⟨x2 + 1, b, upd g2 x2 (some (.cells [Value.int .u64 (w : Nat)] false))⟩ (some ⟨x2, 0, none⟩) 1 = some [u64N w] := er
        rw [er']
        simp only [asO_e]
        refine own_append (nx := nx) (k := 1) (hO2.keep (Nat.le_succ _) hZ) (by omega) (by omega) (by omega) (by omega) rfl (all1 rfl) (by omega) (by omega) fun g' hg' ho' => ?_
        simp only [↓gaW, ↓gaV, ↓gaC, ↓gaN, gaP, Nat.reduceEqDiff, Nat.reduceLeDiff, Nat.reduceAdd, Nat.reduceSub, Nat.reduceMul, Int.reduceLT, Int.reduceLE, Int.reduceEq, Int.reduceToNat, Int.reduceAdd, Int.reduceSub, Int.reduceMul, reduceCtorEq, ↓reduceIte, List.getD_cons_zero, List.getD_cons_succ, fillL, splice, List.take_zero, List.drop_zero, List.drop_succ_cons, List.take_succ_cons, List.drop_nil, List.take_nil, f9, f10, f11, loopK_n, i2]
        refine ⟨n - (i + 1), by omega, i + 1, 0, x2 + 1 + 1, true, g', some ⟨x2 + 1, 0, some 1⟩, o ++ [w], rfl, by omega, by omega, by rw [hnu], by simp; omega, by simp, (by first | (simp only [↓gaW, ↓gaV, ↓gaC, ↓gaN, gaP, Nat.reduceEqDiff, Nat.reduceLeDiff, Nat.reduceAdd, Nat.reduceSub, Nat.reduceMul, Int.reduceLT, Int.reduceLE, Int.reduceEq, Int.reduceToNat, Int.reduceAdd, Int.reduceSub, Int.reduceMul, reduceCtorEq, ↓reduceIte]; done) | (simp only [↓gaW, ↓gaV, ↓gaC, ↓gaN, gaP, Nat.reduceEqDiff, Nat.reduceLeDiff, Nat.reduceAdd, Nat.reduceSub, Nat.reduceMul, Int.reduceLT, Int.reduceLE, Int.reduceEq, Int.reduceToNat, Int.reduceAdd, Int.reduceSub, Int.reduceMul, reduceCtorEq, ↓reduceIte]; rfl)), (by first | (simp only [↓gaW, ↓gaV, ↓gaC, ↓gaN, gaP, Nat.reduceEqDiff, Nat.reduceLeDiff, Nat.reduceAdd, Nat.reduceSub, Nat.reduceMul, Int.reduceLT, Int.reduceLE, Int.reduceEq, Int.reduceToNat, Int.reduceAdd, Int.reduceSub, Int.reduceMul, reduceCtorEq, ↓reduceIte]; done) | (simp only [↓gaW, ↓gaV, ↓gaC, ↓gaN, gaP, Nat.reduceEqDiff, Nat.reduceLeDiff, Nat.reduceAdd, Nat.reduceSub, Nat.reduceMul, Int.reduceLT, Int.reduceLE, Int.reduceEq, Int.reduceToNat, Int.reduceAdd, Int.reduceSub, Int.reduceMul, reduceCtorEq, ↓reduceIte]; rfl)), rfl, rfl, by omega, fun q hq => by rw [hg' q (by omega), upd_e, if_neg (by omega), F2 q hq], ?_⟩
        rw [List.length_append, List.map_append]
        exact ho'
      · rw [if_neg (by omega)] at hnu
        simp only [↓gaW, ↓gaV, ↓gaC, ↓gaN, gaP, Nat.reduceEqDiff, Nat.reduceLeDiff, Nat.reduceAdd, Nat.reduceSub, Nat.reduceMul, Int.reduceLT, Int.reduceLE, Int.reduceEq, Int.reduceToNat, Int.reduceAdd, Int.reduceSub, Int.reduceMul, reduceCtorEq, ↓reduceIte, List.getD_cons_zero, List.getD_cons_succ, fillL, splice, List.take_zero, List.drop_zero, List.drop_succ_cons, List.take_succ_cons, List.drop_nil, List.take_nil, f4, f5, f9, f10, f11, hlt, decide_true, h2q, c0, and127_8 hz8, shl7 hk, i1, i3, shr40, hq, not_true, decide_false, h128, loopK_n, i2]
        repeat refine And.intro (by omega) ?_
        exact ⟨n - (i + 1), by omega, i + 1, w, x2, false, g2, A2, o, rfl, by omega, by omega, by rw [hnu], by omega, rfl, rfl, rfl, rfl, rfl, by omega, F2, hO2⟩
  · have hin : i = n := by omega
    subst hin
    rw [← hl, List.drop_length] at hnu
    simp only [nums] at hnu
    have er : numsR l = (o, e && decide (0 < o.length)) := by unfold numsR; rw [hnu]
    rw [er]
    cases e with
    | false =>
      simp only [↓gaW, ↓gaV, ↓gaC, ↓gaN, gaP, Nat.reduceEqDiff, Nat.reduceLeDiff, Nat.reduceAdd, Nat.reduceSub, Nat.reduceMul, Int.reduceLT, Int.reduceLE, Int.reduceEq, Int.reduceToNat, Int.reduceAdd, Int.reduceSub, Int.reduceMul, reduceCtorEq, ↓reduceIte, gaE, implies_true, Nat.le_refl, Int.sub_zero, Nat.sub_zero, Int.le_refl, true_or, or_true, List.getD_cons_zero, List.getD_cons_succ, fillL, splice, List.take_zero, List.drop_zero, List.drop_succ_cons, List.take_succ_cons, List.drop_nil, List.take_nil, f4, f5, f6, f9, f10, f11, hlt, decide_false, Bool.false_and]
      have hrw := hO2.row
      rw [Nat.mul_one] at hrw
      exact ⟨by omega, F2, _, rfl, A2, _, rfl, rfl, hrw⟩
    | true =>
      simp only [↓gaW, ↓gaV, ↓gaC, ↓gaN, gaP, Nat.reduceEqDiff, Nat.reduceLeDiff, Nat.reduceAdd, Nat.reduceSub, Nat.reduceMul, Int.reduceLT, Int.reduceLE, Int.reduceEq, Int.reduceToNat, Int.reduceAdd, Int.reduceSub, Int.reduceMul, reduceCtorEq, ↓reduceIte, gaE, implies_true, Nat.le_refl, Int.sub_zero, Nat.sub_zero, Int.le_refl, true_or, or_true, List.getD_cons_zero, List.getD_cons_succ, fillL, splice, List.take_zero, List.drop_zero, List.drop_succ_cons, List.take_succ_cons, List.drop_nil, List.take_nil, f4, f5, f6, f9, f10, f11, hlt, decide_false, Bool.true_and]
      have hrw := hO2.row
      rw [Nat.mul_one] at hrw
      have ed : decide ((0 : Int) < (o.length : Int)) = decide (0 < o.length) := decide_eq_decide.2 (by omega)
      exact ⟨by omega, F2, _, by rw [ed], A2, _, rfl, rfl, hrw⟩
end
end Go.Ga

/- Lists of numbers of elements: parts. -/
namespace Go.Ga
open Go Go.Proofs
set_option linter.unusedSimpArgs false
set_option linter.unusedVariables false
set_option maxRecDepth 100000
attribute [local irreducible] appendK

def WdSl (nx : Nat) (g : Nat → Option Blk) (v : Value) (l : List UInt32) : Prop := ∃ (A : Option Addr) (n : Nat), v = .slice A n n ∧ l.length = n ∧ Row nx g 1 A n (l.map u32V)
theorem WdSl.keep {nx x : Nat} {gt g : Nat → Option Blk} {v : Value} {l : List UInt32} (h : WdSl nx gt v l) (h1 : nx ≤ x) (h2 : ∀ p, p < nx → g p = gt p) : WdSl x g v l := by
  obtain ⟨A, n, e, hl, r⟩ := h
  exact ⟨A, n, e, hl, r.keep h1 h2⟩
def UErr (nx : Nat) (g : Nat → Option Blk) (v : Value) (r : List UInt32 × Nat) : Prop := ∃ u, v = .tuple #[u, .int .i64 (r.2 : Nat)] ∧ WdSl nx g u r.1
theorem u32_of (n : Nat) (h : n < 4294967296) : Value.int .u32 (IntKind.u32.wrap (n : Int)) = u32V (UInt32.ofNat n) :=
  congrArg (Value.int .u32) (by rw [u32_w, UInt32.toNat_ofNat']; omega)

section
variable {nx : Nat} {gt : Nat → Option Blk}


theorem ct_justU {x : Fo.El} {u : Value} {is : Bool} {clo : Nat} {caps : Array Value} {r : Except Nat Fo.El} {B : Option Addr} {m d : Nat} {A : Option Addr} {n c : Nat} {ks : List Value} (h : NdR nx gt x B m d A n c ks) (hxw : x.f.ws < 1000000000) (hyw : ∀ y, r = .ok y → y.f.ws < 1000000000)
    (hclo : ∀ (nx' : Nat) (g : Nat → Option Blk), nx ≤ nx' → (∀ p, p < nx → g p = gt p) → Ct Tryd.prog clo caps.toList nx' g fun v x g => NErr nx' x g v r) :
    Ct Tryd.prog 59 [u, .bool is, nodeV x.t B m d A n c, .func (.func clo) #[] caps] nx gt fun v _ _ => ∃ b : Bool, (b = true ↔ justP is x r) ∧ v = if b then .tuple #[u, .int .i64 0] else .tuple #[.slice none 0 0, .int .i64 2] := by
  refine Ct.of hmx r_scalar_just___uint32_ (by simp [c_scalar_just___uint32_]) fun b hb => ?_
  have hF : ∀ q, q < nx → upd gt nx (some (.cells (nodeL x.t B m d A n c) false)) q = gt q := fun q hq => by simp only [upd_e]; rw [if_neg (by omega)]
  have hb0 : upd gt nx (some (.cells (nodeL x.t B m d A n c) false)) nx = some (.cells (nodeL x.t B m d A n c) false) := by simp only [upd_e, if_true]
  cases is with
  | false =>
    simp only [c_scalar_just___uint32_, ↓gaW, ↓gaV, ↓gaC, ↓gaN, gaP, Nat.reduceEqDiff, Nat.reduceLeDiff, Nat.reduceAdd, Nat.reduceSub, Nat.reduceMul, Int.reduceLT, Int.reduceLE, Int.reduceEq, Int.reduceToNat, Int.reduceAdd, Int.reduceSub, Int.reduceMul, reduceCtorEq, ↓reduceIte, gaE, implies_true, Nat.le_refl, Int.sub_zero, Nat.sub_zero, Int.le_refl, true_or, or_true, List.getD_cons_zero, List.getD_cons_succ, fillL, splice, List.take_zero, List.drop_zero, List.drop_succ_cons, List.take_succ_cons, List.drop_nil, List.take_nil, gaU, Bool.not_false]
    exact ⟨by omega, hF, false, by simp [justP], rfl⟩
  | true =>
    simp only [c_scalar_just___uint32_, ↓gaW, ↓gaV, ↓gaC, ↓gaN, gaP, Nat.reduceEqDiff, Nat.reduceLeDiff, Nat.reduceAdd, Nat.reduceSub, Nat.reduceMul, Int.reduceLT, Int.reduceLE, Int.reduceEq, Int.reduceToNat, Int.reduceAdd, Int.reduceSub, Int.reduceMul, reduceCtorEq, ↓reduceIte, List.getD_cons_zero, List.getD_cons_succ, fillL, splice, List.take_zero, List.drop_zero, List.drop_succ_cons, List.take_succ_cons, List.drop_nil, List.take_nil, gaU, Bool.not_true]
    generalize upd gt nx (some (.cells (nodeL x.t B m d A n c) false)) = g0 at *
    refine callK_of (hclo (nx + 1) g0 (by omega) hF) (fun v x1 g1 l1 k1 hC => ?_) (by omega)
    have F1 : ∀ p, p < nx → g1 p = gt p := fun p hp => by rw [k1 p (by omega), hF p hp]
    have hb1 : g1 nx = some (.cells (nodeL x.t B m d A n c) false) := by rw [k1 nx (by omega), hb0]
    have hnx1 : (nx = x1) = False := by simp; omega
    cases r with
    | error e =>
      obtain ⟨rfl, he⟩ := hC
      have he0 : ¬ (e : Int) = 0 := by omega
      simp only [↓gaW, ↓gaV, ↓gaC, ↓gaN, gaP, Nat.reduceEqDiff, Nat.reduceLeDiff, Nat.reduceAdd, Nat.reduceSub, Nat.reduceMul, Int.reduceLT, Int.reduceLE, Int.reduceEq, Int.reduceToNat, Int.reduceAdd, Int.reduceSub, Int.reduceMul, reduceCtorEq, ↓reduceIte, gaE, implies_true, Nat.le_refl, Int.sub_zero, Nat.sub_zero, Int.le_refl, true_or, or_true, List.getD_cons_zero, List.getD_cons_succ, fillL, splice, List.take_zero, List.drop_zero, List.drop_succ_cons, List.take_succ_cons, List.drop_nil, List.take_nil, gaU, he0, decide_false, Bool.not_false]
      repeat refine And.intro (by omega) ?_
      refine And.intro (node_cells _ _ _ _ _ _ _) ?_
      refine ⟨by omega, fun p hp => by rw [if_neg (by omega), if_neg (by omega), F1 p hp], false, by simp [justP], rfl⟩
    | ok y =>
      obtain ⟨u, rfl, B', m', d', A', n', c', ks', rfl, hN⟩ := hC
      obtain ⟨g2, e2⟩ : ∃ g', g' = upd (upd g1 x1 (some (.cells [Value.int .i64 0, .slice none 0 0, .slice none 0 0] false))) x1 (some (.cells (nodeL y.t B' m' d' A' n' c') false)) := ⟨_, rfl⟩
      have G2 : ∀ p, p < x1 → g2 p = g1 p := fun p hp => by rw [e2]; simp only [upd_e]; rw [if_neg (by omega), if_neg (by omega)]
      have hb2 : g2 nx = some (.cells (nodeL x.t B m d A n c) false) := by rw [G2 nx (by omega), hb1]
      have hy := hyw y rfl
      simp only [↓gaW, ↓gaV, ↓gaC, ↓gaN, gaP, Nat.reduceEqDiff, Nat.reduceLeDiff, Nat.reduceAdd, Nat.reduceSub, Nat.reduceMul, Int.reduceLT, Int.reduceLE, Int.reduceEq, Int.reduceToNat, Int.reduceAdd, Int.reduceSub, Int.reduceMul, reduceCtorEq, ↓reduceIte, List.getD_cons_zero, List.getD_cons_succ, fillL, splice, List.take_zero, List.drop_zero, List.drop_succ_cons, List.take_succ_cons, List.drop_nil, List.take_nil, gaU, hnx1, hb1, decide_true, decide_false, Bool.not_true]
      repeat refine And.intro (by omega) ?_
      refine And.intro (node_cells _ _ _ _ _ _ _) ?_
      repeat refine And.intro (by omega) ?_
      rw [← e2]; clear e2
      refine callK_of (ct_same (hN.r.keep (x' := x1 + 1) (by omega) G2) (h.keep (x' := x1 + 1) (by omega) fun p hp => by rw [G2 p (by omega), F1 p hp]) hy hxw) (fun v x3 g3 l3 k3 hC => ?_) (by omega)
      obtain ⟨s, rfl, hs⟩ := hC
      have F3 : ∀ p, p < nx → g3 p = gt p := fun p hp => by rw [k3 p (by omega), G2 p (by omega), F1 p hp]
      cases s with
      | false =>
        simp only [↓gaW, ↓gaV, ↓gaC, ↓gaN, gaP, Nat.reduceEqDiff, Nat.reduceLeDiff, Nat.reduceAdd, Nat.reduceSub, Nat.reduceMul, Int.reduceLT, Int.reduceLE, Int.reduceEq, Int.reduceToNat, Int.reduceAdd, Int.reduceSub, Int.reduceMul, reduceCtorEq, ↓reduceIte, gaE, implies_true, Nat.le_refl, Int.sub_zero, Nat.sub_zero, Int.le_refl, true_or, or_true, List.getD_cons_zero, List.getD_cons_succ, fillL, splice, List.take_zero, List.drop_zero, List.drop_succ_cons, List.take_succ_cons, List.drop_nil, List.take_nil, Bool.not_false]
        refine ⟨by omega, F3, false, ?_, rfl⟩
        simp only [Bool.false_eq_true, false_iff] at hs ⊢
        rintro ⟨_, z, hz, hal⟩
        injection hz with hz; subst hz
        exact hs hal
      | true =>
        simp only [↓gaW, ↓gaV, ↓gaC, ↓gaN, gaP, Nat.reduceEqDiff, Nat.reduceLeDiff, Nat.reduceAdd, Nat.reduceSub, Nat.reduceMul, Int.reduceLT, Int.reduceLE, Int.reduceEq, Int.reduceToNat, Int.reduceAdd, Int.reduceSub, Int.reduceMul, reduceCtorEq, ↓reduceIte, gaE, implies_true, Nat.le_refl, Int.sub_zero, Nat.sub_zero, Int.le_refl, true_or, or_true, List.getD_cons_zero, List.getD_cons_succ, fillL, splice, List.take_zero, List.drop_zero, List.drop_succ_cons, List.take_succ_cons, List.drop_nil, List.take_nil, Bool.not_true]
        exact ⟨by omega, F3, true, by simp only [true_iff]; exact ⟨rfl, y, rfl, hs.1 rfl⟩, rfl⟩
theorem ct_Arcs1 {q : Nat} {ro : Bool} {A0 : Option Addr} {n0 c0 : Nat} {l : List UInt32} (hq : q < nx) (hg : gt q = some (.cells [.slice A0 n0 c0] ro)) (hA : Row nx gt 1 A0 n0 (l.map u32V)) (hc : n0 ≤ c0) (hn : n0 ≤ 1000000) :
    Ct Tryd.prog 60 [.pointer (some ⟨q, 0, none⟩)] nx gt fun v x g => NErr nx x g v (oidR l) := by
  refine Ct.of hmx r_scalar_Arcs_1 (by simp [c_scalar_Arcs_1]) fun b hb => ?_
  have hF : ∀ q, q < nx → upd gt nx (some (.cells [Value.int .i64 0, .slice none 0 0, .slice none 0 0] false)) q = gt q := fun q hq => by simp only [upd_e]; rw [if_neg (by omega)]
  have hb0 : upd gt nx (some (.cells [Value.int .i64 0, .slice none 0 0, .slice none 0 0] false)) nx = some (.cells [Value.int .i64 0, .slice none 0 0, .slice none 0 0] false) := by simp only [upd_e, if_true]
  have hqn : (q = nx) = False := by simp; omega
  simp only [c_scalar_Arcs_1, ↓gaW, ↓gaV, ↓gaC, ↓gaN, gaP, Nat.reduceEqDiff, Nat.reduceLeDiff, Nat.reduceAdd, Nat.reduceSub, Nat.reduceMul, Int.reduceLT, Int.reduceLE, Int.reduceEq, Int.reduceToNat, Int.reduceAdd, Int.reduceSub, Int.reduceMul, reduceCtorEq, ↓reduceIte, List.getD_cons_zero, List.getD_cons_succ, fillL, splice, List.take_zero, List.drop_zero, List.drop_succ_cons, List.take_succ_cons, List.drop_nil, List.take_nil, gaU, hqn, hg, List.getD_cons_zero]
  generalize upd gt nx (some (.cells [Value.int .i64 0, .slice none 0 0, .slice none 0 0] false)) = g0 at *
  repeat refine And.intro (by omega) ?_
  refine callK_of (ct_Oid (hA.keep (nx' := nx + 1) (by omega) hF) hc (by omega)) (fun v x1 g1 l1 k1 hC => ?_) (by omega)
  have F1 : ∀ p, p < nx → g1 p = gt p := fun p hp => by rw [k1 p (by omega), hF p hp]
  have hb1 : g1 nx = some (.cells [Value.int .i64 0, .slice none 0 0, .slice none 0 0] false) := by rw [k1 nx (by omega), hb0]
  have ext : ∀ (cs : List Value), (∀ p, p ≠ nx → upd g1 nx (some (.cells cs false)) p = g1 p) := fun cs p hp => by simp only [upd_e]; rw [if_neg hp]
  cases hr : oidR l with
  | error e =>
    rw [hr] at hC
    obtain ⟨rfl, he⟩ := hC
    simp only [↓gaW, ↓gaV, ↓gaC, ↓gaN, gaP, Nat.reduceEqDiff, Nat.reduceLeDiff, Nat.reduceAdd, Nat.reduceSub, Nat.reduceMul, Int.reduceLT, Int.reduceLE, Int.reduceEq, Int.reduceToNat, Int.reduceAdd, Int.reduceSub, Int.reduceMul, reduceCtorEq, ↓reduceIte, List.getD_cons_zero, List.getD_cons_succ, fillL, splice, List.take_zero, List.drop_zero, List.drop_succ_cons, List.take_succ_cons, List.drop_nil, List.take_nil, hb1]
    repeat refine And.intro (by omega) ?_
    refine And.intro (node_cells _ _ _ _ _ _ _) ?_
    exact end_nT (q := nx) (t := 0) (B := none) (m := 0) (d := 0) (A := none) (n := 0) (c := 0) (ro := false) (w := .int .i64 e) (by first | (simp only [↓gaW, ↓gaV, ↓gaC, ↓gaN, gaP, Nat.reduceEqDiff, Nat.reduceLeDiff, Nat.reduceAdd, Nat.reduceSub, Nat.reduceMul, Int.reduceLT, Int.reduceLE, Int.reduceEq, Int.reduceToNat, Int.reduceAdd, Int.reduceSub, Int.reduceMul, reduceCtorEq, ↓reduceIte]; done) | (simp only [↓gaW, ↓gaV, ↓gaC, ↓gaN, gaP, Nat.reduceEqDiff, Nat.reduceLeDiff, Nat.reduceAdd, Nat.reduceSub, Nat.reduceMul, Int.reduceLT, Int.reduceLE, Int.reduceEq, Int.reduceToNat, Int.reduceAdd, Int.reduceSub, Int.reduceMul, reduceCtorEq, ↓reduceIte]; rfl)) (by first | (simp only [↓gaW, ↓gaV, ↓gaC, ↓gaN, gaP, Nat.reduceEqDiff, Nat.reduceLeDiff, Nat.reduceAdd, Nat.reduceSub, Nat.reduceMul, Int.reduceLT, Int.reduceLE, Int.reduceEq, Int.reduceToNat, Int.reduceAdd, Int.reduceSub, Int.reduceMul, reduceCtorEq, ↓reduceIte]; done) | (simp only [↓gaW, ↓gaV, ↓gaC, ↓gaN, gaP, Nat.reduceEqDiff, Nat.reduceLeDiff, Nat.reduceAdd, Nat.reduceSub, Nat.reduceMul, Int.reduceLT, Int.reduceLE, Int.reduceEq, Int.reduceToNat, Int.reduceAdd, Int.reduceSub, Int.reduceMul, reduceCtorEq, ↓reduceIte]; rfl)) (by simp only [upd_e, if_true]) (by omega) (fun p hp => by rw [ext _ p (by omega), F1 p hp]) ⟨rfl, he⟩
  | ok y =>
    rw [hr] at hC
    obtain ⟨u, rfl, B, m, d, A, n, c, ks, rfl, hN⟩ := hC
    simp only [↓gaW, ↓gaV, ↓gaC, ↓gaN, gaP, Nat.reduceEqDiff, Nat.reduceLeDiff, Nat.reduceAdd, Nat.reduceSub, Nat.reduceMul, Int.reduceLT, Int.reduceLE, Int.reduceEq, Int.reduceToNat, Int.reduceAdd, Int.reduceSub, Int.reduceMul, reduceCtorEq, ↓reduceIte, List.getD_cons_zero, List.getD_cons_succ, fillL, splice, List.take_zero, List.drop_zero, List.drop_succ_cons, List.take_succ_cons, List.drop_nil, List.take_nil, hb1]
    repeat refine And.intro (by omega) ?_
    refine And.intro (node_cells _ _ _ _ _ _ _) ?_
    exact end_nT (q := nx) (t := y.t) (B := B) (m := m) (d := d) (A := A) (n := n) (c := c) (ro := false) (w := .int .i64 0) (by first | (simp only [↓gaW, ↓gaV, ↓gaC, ↓gaN, gaP, Nat.reduceEqDiff, Nat.reduceLeDiff, Nat.reduceAdd, Nat.reduceSub, Nat.reduceMul, Int.reduceLT, Int.reduceLE, Int.reduceEq, Int.reduceToNat, Int.reduceAdd, Int.reduceSub, Int.reduceMul, reduceCtorEq, ↓reduceIte]; done) | (simp only [↓gaW, ↓gaV, ↓gaC, ↓gaN, gaP, Nat.reduceEqDiff, Nat.reduceLeDiff, Nat.reduceAdd, Nat.reduceSub, Nat.reduceMul, Int.reduceLT, Int.reduceLE, Int.reduceEq, Int.reduceToNat, Int.reduceAdd, Int.reduceSub, Int.reduceMul, reduceCtorEq, ↓reduceIte]; rfl)) (by first | (simp only [↓gaW, ↓gaV, ↓gaC, ↓gaN, gaP, Nat.reduceEqDiff, Nat.reduceLeDiff, Nat.reduceAdd, Nat.reduceSub, Nat.reduceMul, Int.reduceLT, Int.reduceLE, Int.reduceEq, Int.reduceToNat, Int.reduceAdd, Int.reduceSub, Int.reduceMul, reduceCtorEq, ↓reduceIte]; done) | (simp only [↓gaW, ↓gaV, ↓gaC, ↓gaN, gaP, Nat.reduceEqDiff, Nat.reduceLeDiff, Nat.reduceAdd, Nat.reduceSub, Nat.reduceMul, Int.reduceLT, Int.reduceLE, Int.reduceEq, Int.reduceToNat, Int.reduceAdd, Int.reduceSub, Int.reduceMul, reduceCtorEq, ↓reduceIte]; rfl)) (by simp only [upd_e, if_true]) (by omega) (fun p hp => by rw [ext _ p (by omega), F1 p hp]) ⟨_, rfl, B, m, d, A, n, c, ks, rfl, (hN.keep (Nat.le_refl _) fun p hp _ => ext _ p (by omega)).wid (by omega)⟩

end
end Go.Ga
