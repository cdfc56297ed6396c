/- Words and contracts of functions for the statement's proof. No condition. -/
import Derived.Test.YtgkineipmhhacaaDoorA3
import Derived.Test.YtgkineipmhhacaaDoorProg
import Derived.KernelRfl
import Derived.ChangeArms
import Derived.OpenShut
import Derived.DataReads
set_option linter.all false

namespace Go.Ga
open Go Go.Proofs
set_option maxRecDepth 100000

def c_scalar_Bits : RFn :=
  ⟨46,
  (.seq
  (.ops [] [
  ⟨(some 4), (.op (.new [(.int .i64 0), (.slice none 0 0), (.slice none 0 0)])), none⟩,
  ⟨(some 5), (.op (.mv (.k (.int .i64 0)))), none⟩])
  (.seq
  (.ops [] [
  ⟨(some 7), (.op (.mv (.t 0))), none⟩,
  ⟨(some 8), (.op (.lenSl (.t 7))), none⟩,
  ⟨(some 9), (.op (.bin .mul (.k (.int .i64 8)) (.t 8))), none⟩,
  ⟨(some 10), (.op (.mv (.t 1))), none⟩,
  ⟨(some 11), (.op (.bin .sub (.t 9) (.t 10))), none⟩,
  ⟨(some 6), (.op (.mv (.t 11))), none⟩])
  (.seq
  (.seq
  (.ops [
  ⟨(some 12), (.op (.mv (.t 1))), none⟩,
  ⟨(some 13), (.op (.bin .lss (.t 12) (.k (.int .i64 0)))), none⟩,
  ⟨(some 14), (.op (.mv (.t 13))), none⟩,
  ⟨(some 15), (.op (.mv (.t 6))), (some (14, false))⟩,
  ⟨(some 16), (.op (.bin .lss (.t 15) (.k (.int .i64 0)))), (some (14, false))⟩,
  ⟨(some 17), (.op (.pick (.t 14) (.k (.bool true)) (.t 16))), none⟩,
  ⟨(some 18), (.op (.mv (.t 17))), none⟩,
  ⟨(some 19), (.op (.mv (.t 6))), (some (18, false))⟩,
  ⟨(some 20), (.op (.bin .gtr (.t 19) (.k (.int .i64 7)))), (some (18, false))⟩,
  ⟨(some 21), (.op (.pick (.t 18) (.k (.bool true)) (.t 20))), none⟩,
  ⟨(some 22), (.op (.mv (.t 21))), none⟩,
  ⟨(some 23), (.op (.mv (.t 6))), (some (22, false))⟩,
  ⟨(some 24), (.op (.bin .gtr (.t 23) (.k (.int .i64 0)))), (some (22, false))⟩,
  ⟨(some 25), (.op (.mv (.t 24))), (some (22, false))⟩,
  ⟨(some 26), (.op (.mv (.t 0))), (some (25, true))⟩,
  ⟨(some 27), (.op (.mv (.t 0))), (some (25, true))⟩,
  ⟨(some 28), (.op (.lenSl (.t 27))), (some (25, true))⟩,
  ⟨(some 29), (.op (.bin .sub (.t 28) (.k (.int .i64 1)))), (some (25, true))⟩,
  ⟨(some 30), (.op (.ixAddr 1 (.t 26) (.t 29))), (some (25, true))⟩,
  ⟨(some 31), (.op (.load1 (.t 30))), (some (25, true))⟩,
  ⟨(some 32), (.op (.mv (.t 6))), (some (25, true))⟩,
  ⟨(some 33), (.op (.bin .shl (.k (.int .u8 1)) (.t 32))), (some (25, true))⟩,
  ⟨(some 34), (.op (.bin .sub (.t 33) (.k (.int .u8 1)))), (some (25, true))⟩] [
  ⟨(some 35), (.op (.bin .and (.t 31) (.t 34))), (some (25, true))⟩,
  ⟨(some 36), (.op (.bin .neq (.t 35) (.k (.int .u8 0)))), (some (25, true))⟩,
  ⟨(some 37), (.op (.pick (.t 25) (.t 36) (.k (.bool false)))), (some (22, false))⟩,
  ⟨(some 38), (.op (.pick (.t 22) (.k (.bool true)) (.t 37))), none⟩])
  (.cond (.t 38)
  (.seq
  (.ops [] [
  ⟨(some 39), (.op (.build [(.int .i64 0), (.slice none 0 0), (.slice none 0 0)] [])), none⟩,
  ⟨none, (.op (.store 3 (.t 4) (.t 39))), none⟩,
  ⟨(some 5), (.op (.mv (.k (.int .i64 1)))), none⟩])
  .ret)
  .skip))
  (.seq
  (.ops [] [
  ⟨(some 40), (.op (.mv (.t 6))), none⟩,
  ⟨(some 41), (.op (.toInt .u8 (.t 40))), none⟩,
  ⟨(some 42), (.op (.mkSl 1 [(.int .u8 0)] [(0, (1, (.t 41)))])), none⟩,
  ⟨(some 43), (.op (.mv (.t 0))), none⟩,
  ⟨(some 44), (.op (.append 1 1 (.t 42) (.t 43))), none⟩,
  ⟨(some 45), (.op (.build [(.int .i64 0), (.slice none 0 0), (.slice none 0 0)] [(0, (1, (.k (.int .i64 3)))), (1, (1, (.t 44)))])), none⟩,
  ⟨none, (.op (.store 3 (.t 4) (.t 45))), none⟩,
  ⟨(some 5), (.op (.mv (.k (.int .i64 0)))), none⟩])
  .ret)))),
  [(.cN 4 3), (.t 5)]⟩
theorem r_scalar_Bits : resolveFn Tryd.prog 20 = some c_scalar_Bits := by kernel_rfl

def c_lanyardref05_Bits : RFn :=
  ⟨51,
  (.seq
  (.ops [] [
  ⟨(some 4), (.op (.new [(.int .i64 0), (.slice none 0 0), (.slice none 0 0)])), none⟩,
  ⟨(some 5), (.op (.mv (.k (.int .i64 0)))), none⟩])
  (.seq
  (.seq
  (.ops [] [
  ⟨(some 7), (.op (.mv (.t 1))), none⟩,
  ⟨(some 8), (.op (.bin .lss (.t 7) (.k (.int .i64 0)))), none⟩,
  ⟨(some 9), (.op (.mv (.t 8))), none⟩,
  ⟨(some 10), (.op (.mv (.t 1))), (some (9, false))⟩,
  ⟨(some 11), (.op (.mv (.t 0))), (some (9, false))⟩,
  ⟨(some 12), (.op (.lenSl (.t 11))), (some (9, false))⟩,
  ⟨(some 13), (.op (.bin .mul (.k (.int .i64 8)) (.t 12))), (some (9, false))⟩,
  ⟨(some 14), (.op (.bin .gtr (.t 10) (.t 13))), (some (9, false))⟩,
  ⟨(some 15), (.op (.pick (.t 9) (.k (.bool true)) (.t 14))), none⟩,
  ⟨(some 16), (.op (.mv (.t 15))), none⟩,
  ⟨(some 17), (.op (.mv (.t 0))), (some (16, false))⟩,
  ⟨(some 18), (.op (.lenSl (.t 17))), (some (16, false))⟩,
  ⟨(some 19), (.op (.mv (.t 1))), (some (16, false))⟩,
  ⟨(some 20), (.op (.bin .add (.t 19) (.k (.int .i64 7)))), (some (16, false))⟩,
  ⟨(some 21), (.op (.bin .quo (.t 20) (.k (.int .i64 8)))), (some (16, false))⟩,
  ⟨(some 22), (.op (.bin .neq (.t 18) (.t 21))), (some (16, false))⟩,
  ⟨(some 23), (.op (.pick (.t 16) (.k (.bool true)) (.t 22))), none⟩])
  (.cond (.t 23)
  (.seq
  (.ops [] [
  ⟨(some 24), (.op (.build [(.int .i64 0), (.slice none 0 0), (.slice none 0 0)] [])), none⟩,
  ⟨none, (.op (.store 3 (.t 4) (.t 24))), none⟩,
  ⟨(some 5), (.op (.mv (.k (.int .i64 1)))), none⟩])
  .ret)
  .skip))
  (.seq
  (.ops [] [
  ⟨(some 25), (.op (.mv (.t 0))), none⟩,
  ⟨(some 26), (.op (.lenSl (.t 25))), none⟩,
  ⟨(some 27), (.op (.bin .mul (.k (.int .i64 8)) (.t 26))), none⟩,
  ⟨(some 28), (.op (.mv (.t 1))), none⟩,
  ⟨(some 29), (.op (.bin .sub (.t 27) (.t 28))), none⟩,
  ⟨(some 6), (.op (.mv (.t 29))), none⟩])
  (.seq
  (.seq
  (.ops [
  ⟨(some 30), (.op (.mv (.t 6))), none⟩,
  ⟨(some 31), (.op (.bin .gtr (.t 30) (.k (.int .i64 0)))), none⟩,
  ⟨(some 32), (.op (.mv (.t 31))), none⟩,
  ⟨(some 33), (.op (.mv (.t 0))), (some (32, true))⟩,
  ⟨(some 34), (.op (.mv (.t 0))), (some (32, true))⟩,
  ⟨(some 35), (.op (.lenSl (.t 34))), (some (32, true))⟩,
  ⟨(some 36), (.op (.bin .sub (.t 35) (.k (.int .i64 1)))), (some (32, true))⟩,
  ⟨(some 37), (.op (.ixAddr 1 (.t 33) (.t 36))), (some (32, true))⟩,
  ⟨(some 38), (.op (.load1 (.t 37))), (some (32, true))⟩,
  ⟨(some 39), (.op (.mv (.t 6))), (some (32, true))⟩,
  ⟨(some 40), (.op (.bin .shl (.k (.int .u8 1)) (.t 39))), (some (32, true))⟩] [
  ⟨(some 41), (.op (.bin .rem (.t 38) (.t 40))), (some (32, true))⟩,
  ⟨(some 42), (.op (.bin .neq (.t 41) (.k (.int .u8 0)))), (some (32, true))⟩,
  ⟨(some 43), (.op (.pick (.t 32) (.t 42) (.k (.bool false)))), none⟩])
  (.cond (.t 43)
  (.seq
  (.ops [] [
  ⟨(some 44), (.op (.build [(.int .i64 0), (.slice none 0 0), (.slice none 0 0)] [])), none⟩,
  ⟨none, (.op (.store 3 (.t 4) (.t 44))), none⟩,
  ⟨(some 5), (.op (.mv (.k (.int .i64 1)))), none⟩])
  .ret)
  .skip))
  (.seq
  (.ops [] [
  ⟨(some 45), (.op (.mv (.t 6))), none⟩,
  ⟨(some 46), (.op (.toInt .u8 (.t 45))), none⟩,
  ⟨(some 47), (.op (.mkSl 1 [(.int .u8 0)] [(0, (1, (.t 46)))])), none⟩,
  ⟨(some 48), (.op (.mv (.t 0))), none⟩,
  ⟨(some 49), (.op (.append 1 1 (.t 47) (.t 48))), none⟩,
  ⟨(some 50), (.op (.build [(.int .i64 0), (.slice none 0 0), (.slice none 0 0)] [(0, (1, (.k (.int .i64 3)))), (1, (1, (.t 49)))])), none⟩,
  ⟨none, (.op (.store 3 (.t 4) (.t 50))), none⟩,
  ⟨(some 5), (.op (.mv (.k (.int .i64 0)))), none⟩])
  .ret))))),
  [(.cN 4 3), (.t 5)]⟩
def c_scalar_Of : RFn :=
  ⟨37,
  (.seq
  (.ops [] [
  ⟨(some 1), (.op (.box (.t 0))), none⟩,
  ⟨(some 2), (.op (.mv (.k (.slice none 0 0)))), none⟩,
  ⟨(some 3), (.op (.mv (.k (.int .i64 0)))), none⟩,
  ⟨(some 4), (.op (.mv (.k (.int .i64 0)))), none⟩])
  (.seq
  (.seq
  (.ops [] [
  ⟨(some 8), (.op (.fieldAddr 1 (.t 1))), none⟩,
  ⟨(some 9), (.op (.load1 (.t 8))), none⟩,
  ⟨(some 10), (.op (.lenSl (.t 9))), none⟩,
  ⟨(some 11), (.op (.bin .eql (.t 10) (.k (.int .i64 0)))), none⟩])
  (.cond (.t 11)
  (.seq
  (.ops [] [
  ⟨(some 2), (.op (.mv (.k (.slice none 0 0)))), none⟩,
  ⟨(some 3), (.op (.mv (.k (.int .i64 0)))), none⟩,
  ⟨(some 4), (.op (.mv (.k (.int .i64 2)))), none⟩])
  .ret)
  .skip))
  (.seq
  (.ops [] [
  ⟨(some 12), (.op (.fieldAddr 1 (.t 1))), none⟩,
  ⟨(some 13), (.op (.load1 (.t 12))), none⟩,
  ⟨(some 14), (.op (.sl 1 (.t 13) (some (.k (.int .i64 1))) none none)), none⟩,
  ⟨(some 15), (.call (.k (.func (.func 45) #[] #[])) [(.t 14)]), none⟩,
  ⟨(some 5), (.op (.new [(.slice none 0 0)])), none⟩,
  ⟨none, (.op (.store 1 (.t 5) (.t 15))), none⟩])
  (.seq
  (.ops [
  ⟨(some 16), (.op (.load1 (.t 5))), none⟩,
  ⟨(some 17), (.op (.lenSl (.t 16))), none⟩,
  ⟨(some 18), (.op (.bin .mul (.k (.int .i64 8)) (.t 17))), none⟩,
  ⟨(some 19), (.op (.fieldAddr 1 (.t 1))), none⟩,
  ⟨(some 20), (.op (.load1 (.t 19))), none⟩,
  ⟨(some 21), (.op (.ixAddr 1 (.t 20) (.k (.int .i64 0)))), none⟩,
  ⟨(some 22), (.op (.load1 (.t 21))), none⟩,
  ⟨(some 23), (.op (.toInt .i64 (.t 22))), none⟩,
  ⟨(some 24), (.op (.bin .sub (.t 18) (.t 23))), none⟩,
  ⟨(some 6), (.op (.new [(.int .i64 0)])), none⟩] [
  ⟨none, (.op (.store 1 (.t 6) (.t 24))), none⟩])
  (.seq
  (.ops [] [
  ⟨(some 26), (.op (.load1 (.t 5))), none⟩,
  ⟨(some 27), (.op (.loadN 3 (.t 1))), none⟩,
  ⟨(some 28), (.op (.func 53 [(.t 5), (.t 6)])), none⟩,
  ⟨(some 29), (.call (.k (.func (.func 51) #[] #[])) [(.t 26), (.k (.bool true)), (.t 27), (.t 28)]), none⟩,
  ⟨(some 25), (.op (.mv (.t 29))), none⟩,
  ⟨(some 30), (.op (.extract (.t 25) 0)), none⟩,
  ⟨(some 31), (.op (.extract (.t 25) 1)), none⟩,
  ⟨none, (.op (.store 1 (.t 5) (.t 30))), none⟩,
  ⟨(some 7), (.op (.mv (.t 31))), none⟩])
  (.seq
  (.seq
  (.ops [] [
  ⟨(some 32), (.op (.mv (.t 7))), none⟩,
  ⟨(some 33), (.op (.bin .neq (.t 32) (.k (.int .i64 0)))), none⟩])
  (.cond (.t 33)
  (.seq
  (.ops [] [
  ⟨(some 34), (.op (.mv (.t 7))), none⟩,
  ⟨(some 2), (.op (.mv (.k (.slice none 0 0)))), none⟩,
  ⟨(some 3), (.op (.mv (.k (.int .i64 0)))), none⟩,
  ⟨(some 4), (.op (.mv (.t 34))), none⟩])
  .ret)
  .skip))
  (.seq
  (.ops [
  ⟨(some 35), (.op (.load1 (.t 5))), none⟩,
  ⟨(some 36), (.op (.load1 (.t 6))), none⟩,
  ⟨(some 2), (.op (.mv (.t 35))), none⟩] [
  ⟨(some 3), (.op (.mv (.t 36))), none⟩,
  ⟨(some 4), (.op (.mv (.k (.int .i64 0)))), none⟩])
  .ret))))))),
  [(.t 2), (.t 3), (.t 4)]⟩
theorem r_scalar_Of : resolveFn Tryd.prog 22 = some c_scalar_Of := by kernel_rfl

def c_lanyardref05_Of : RFn :=
  ⟨50,
  (.seq
  (.ops [] [
  ⟨(some 1), (.op (.box (.t 0))), none⟩,
  ⟨(some 2), (.op (.mv (.k (.slice none 0 0)))), none⟩,
  ⟨(some 3), (.op (.mv (.k (.int .i64 0)))), none⟩,
  ⟨(some 4), (.op (.mv (.k (.int .i64 0)))), none⟩])
  (.seq
  (.seq
  (.ops [] [
  ⟨(some 9), (.op (.fieldAddr 1 (.t 1))), none⟩,
  ⟨(some 10), (.op (.load1 (.t 9))), none⟩,
  ⟨(some 11), (.op (.lenSl (.t 10))), none⟩,
  ⟨(some 12), (.op (.bin .eql (.t 11) (.k (.int .i64 0)))), none⟩,
  ⟨(some 13), (.op (.mv (.t 12))), none⟩,
  ⟨(some 14), (.op (.fieldAddr 1 (.t 1))), (some (13, false))⟩,
  ⟨(some 15), (.op (.load1 (.t 14))), (some (13, false))⟩,
  ⟨(some 16), (.op (.ixAddr 1 (.t 15) (.k (.int .i64 0)))), (some (13, false))⟩,
  ⟨(some 17), (.op (.load1 (.t 16))), (some (13, false))⟩,
  ⟨(some 18), (.op (.bin .gtr (.t 17) (.k (.int .u8 7)))), (some (13, false))⟩,
  ⟨(some 19), (.op (.pick (.t 13) (.k (.bool true)) (.t 18))), none⟩])
  (.cond (.t 19)
  (.seq
  (.ops [] [
  ⟨(some 2), (.op (.mv (.k (.slice none 0 0)))), none⟩,
  ⟨(some 3), (.op (.mv (.k (.int .i64 0)))), none⟩,
  ⟨(some 4), (.op (.mv (.k (.int .i64 2)))), none⟩])
  .ret)
  .skip))
  (.seq
  (.ops [] [
  ⟨(some 20), (.op (.mkSl 0 [] [])), none⟩,
  ⟨(some 21), (.op (.fieldAddr 1 (.t 1))), none⟩,
  ⟨(some 22), (.op (.load1 (.t 21))), none⟩,
  ⟨(some 23), (.op (.sl 1 (.t 22) (some (.k (.int .i64 1))) none none)), none⟩,
  ⟨(some 24), (.op (.append 1 1 (.t 20) (.t 23))), none⟩,
  ⟨(some 5), (.op (.mv (.t 24))), none⟩])
  (.seq
  (.ops [] [
  ⟨(some 25), (.op (.mv (.t 5))), none⟩,
  ⟨(some 26), (.op (.lenSl (.t 25))), none⟩,
  ⟨(some 27), (.op (.bin .mul (.k (.int .i64 8)) (.t 26))), none⟩,
  ⟨(some 28), (.op (.fieldAddr 1 (.t 1))), none⟩,
  ⟨(some 29), (.op (.load1 (.t 28))), none⟩,
  ⟨(some 30), (.op (.ixAddr 1 (.t 29) (.k (.int .i64 0)))), none⟩,
  ⟨(some 31), (.op (.load1 (.t 30))), none⟩,
  ⟨(some 32), (.op (.toInt .i64 (.t 31))), none⟩,
  ⟨(some 33), (.op (.bin .sub (.t 27) (.t 32))), none⟩,
  ⟨(some 6), (.op (.mv (.t 33))), none⟩])
  (.seq
  (.ops [] [
  ⟨(some 35), (.op (.mv (.t 5))), none⟩,
  ⟨(some 36), (.op (.mv (.t 6))), none⟩,
  ⟨(some 37), (.call (.k (.func (.func 21) #[] #[])) [(.t 35), (.t 36)]), none⟩,
  ⟨(some 34), (.op (.mv (.t 37))), none⟩,
  ⟨(some 38), (.op (.extract (.t 34) 0)), none⟩,
  ⟨(some 39), (.op (.extract (.t 34) 1)), none⟩,
  ⟨(some 7), (.op (.new [(.int .i64 0), (.slice none 0 0), (.slice none 0 0)])), none⟩,
  ⟨none, (.op (.store 3 (.t 7) (.t 38))), none⟩,
  ⟨(some 8), (.op (.mv (.t 39))), none⟩])
  (.seq
  (.seq
  (.ops [] [
  ⟨(some 40), (.op (.mv (.t 8))), none⟩,
  ⟨(some 41), (.op (.bin .neq (.t 40) (.k (.int .i64 0)))), none⟩,
  ⟨(some 42), (.op (.mv (.t 41))), none⟩,
  ⟨(some 43), (.op (.loadN 3 (.t 7))), (some (42, false))⟩,
  ⟨(some 44), (.op (.loadN 3 (.t 1))), (some (42, false))⟩,
  ⟨(some 45), (.call (.k (.func (.func 11) #[] #[])) [(.t 43), (.t 44)]), (some (42, false))⟩,
  ⟨(some 46), (.op (.un .not (.t 45))), (some (42, false))⟩,
  ⟨(some 47), (.op (.pick (.t 42) (.k (.bool true)) (.t 46))), none⟩])
  (.cond (.t 47)
  (.seq
  (.ops [] [
  ⟨(some 2), (.op (.mv (.k (.slice none 0 0)))), none⟩,
  ⟨(some 3), (.op (.mv (.k (.int .i64 0)))), none⟩,
  ⟨(some 4), (.op (.mv (.k (.int .i64 2)))), none⟩])
  .ret)
  .skip))
  (.seq
  (.ops [] [
  ⟨(some 48), (.op (.mv (.t 5))), none⟩,
  ⟨(some 49), (.op (.mv (.t 6))), none⟩,
  ⟨(some 2), (.op (.mv (.t 48))), none⟩,
  ⟨(some 3), (.op (.mv (.t 49))), none⟩,
  ⟨(some 4), (.op (.mv (.k (.int .i64 0)))), none⟩])
  .ret))))))),
  [(.t 2), (.t 3), (.t 4)]⟩
def c_scalar_True : RFn :=
  ⟨22,
  (.seq
  (.ops [] [
  ⟨(some 1), (.op (.box (.t 0))), none⟩,
  ⟨(some 2), (.op (.mv (.k (.bool false)))), none⟩,
  ⟨(some 3), (.op (.mv (.k (.int .i64 0)))), none⟩])
  (.seq
  (.ops [] [
  ⟨(some 5), (.op (.fieldAddr 1 (.t 1))), none⟩,
  ⟨(some 6), (.op (.load1 (.t 5))), none⟩,
  ⟨(some 7), (.op (.lenSl (.t 6))), none⟩,
  ⟨(some 8), (.op (.bin .gtr (.t 7) (.k (.int .i64 0)))), none⟩,
  ⟨(some 9), (.op (.mv (.t 8))), none⟩,
  ⟨(some 10), (.op (.fieldAddr 1 (.t 1))), (some (9, true))⟩,
  ⟨(some 11), (.op (.load1 (.t 10))), (some (9, true))⟩,
  ⟨(some 12), (.op (.ixAddr 1 (.t 11) (.k (.int .i64 0)))), (some (9, true))⟩,
  ⟨(some 13), (.op (.load1 (.t 12))), (some (9, true))⟩,
  ⟨(some 14), (.op (.bin .neq (.t 13) (.k (.int .u8 0)))), (some (9, true))⟩,
  ⟨(some 15), (.op (.pick (.t 9) (.t 14) (.k (.bool false)))), none⟩,
  ⟨(some 4), (.op (.new [(.bool false)])), none⟩,
  ⟨none, (.op (.store 1 (.t 4) (.t 15))), none⟩])
  (.seq
  (.ops [] [
  ⟨(some 16), (.op (.load1 (.t 4))), none⟩,
  ⟨(some 17), (.op (.loadN 3 (.t 1))), none⟩,
  ⟨(some 18), (.op (.func 55 [(.t 4)])), none⟩,
  ⟨(some 19), (.call (.k (.func (.func 54) #[] #[])) [(.t 16), (.k (.bool true)), (.t 17), (.t 18)]), none⟩,
  ⟨(some 20), (.op (.extract (.t 19) 0)), none⟩,
  ⟨(some 21), (.op (.extract (.t 19) 1)), none⟩,
  ⟨(some 2), (.op (.mv (.t 20))), none⟩,
  ⟨(some 3), (.op (.mv (.t 21))), none⟩])
  .ret))),
  [(.t 2), (.t 3)]⟩
def c_lanyardref05_True : RFn :=
  ⟨10,
  (.seq
  (.ops [] [
  ⟨(some 1), (.op (.box (.t 0))), none⟩,
  ⟨(some 2), (.op (.mv (.k (.bool false)))), none⟩,
  ⟨(some 3), (.op (.mv (.k (.int .i64 0)))), none⟩])
  (.seq
  (.seq
  (.ops [
  ⟨(some 4), (.op (.loadN 3 (.t 1))), none⟩,
  ⟨(some 5), (.call (.k (.func (.func 27) #[] #[])) [(.k (.bool true))]), none⟩] [
  ⟨(some 6), (.call (.k (.func (.func 11) #[] #[])) [(.t 4), (.t 5)]), none⟩])
  (.cond (.t 6)
  (.seq
  (.ops [] [
  ⟨(some 2), (.op (.mv (.k (.bool true)))), none⟩,
  ⟨(some 3), (.op (.mv (.k (.int .i64 0)))), none⟩])
  .ret)
  .skip))
  (.seq
  (.seq
  (.ops [
  ⟨(some 7), (.op (.loadN 3 (.t 1))), none⟩,
  ⟨(some 8), (.call (.k (.func (.func 27) #[] #[])) [(.k (.bool false))]), none⟩] [
  ⟨(some 9), (.call (.k (.func (.func 11) #[] #[])) [(.t 7), (.t 8)]), none⟩])
  (.cond (.t 9)
  (.seq
  (.ops [] [
  ⟨(some 2), (.op (.mv (.k (.bool false)))), none⟩,
  ⟨(some 3), (.op (.mv (.k (.int .i64 0)))), none⟩])
  .ret)
  .skip))
  (.seq
  (.ops [] [
  ⟨(some 2), (.op (.mv (.k (.bool false)))), none⟩,
  ⟨(some 3), (.op (.mv (.k (.int .i64 2)))), none⟩])
  .ret)))),
  [(.t 2), (.t 3)]⟩
def c_scalar_Bool : RFn :=
  ⟨8,
  (.seq
  (.ops [] [
  ⟨(some 2), (.op (.new [(.int .i64 0), (.slice none 0 0), (.slice none 0 0)])), none⟩])
  (.seq
  (.seq
  (.ops [] [
  ⟨(some 3), (.op (.mv (.t 0))), none⟩])
  (.cond (.t 3)
  (.seq
  (.ops [] [
  ⟨(some 4), (.op (.mkSl 1 [(.int .u8 0)] [(0, (1, (.k (.int .u8 255))))])), none⟩,
  ⟨(some 5), (.op (.build [(.int .i64 0), (.slice none 0 0), (.slice none 0 0)] [(0, (1, (.k (.int .i64 1)))), (1, (1, (.t 4)))])), none⟩,
  ⟨none, (.op (.store 3 (.t 2) (.t 5))), none⟩])
  .ret)
  .skip))
  (.seq
  (.ops [] [
  ⟨(some 6), (.op (.mkSl 1 [(.int .u8 0)] [(0, (1, (.k (.int .u8 0))))])), none⟩,
  ⟨(some 7), (.op (.build [(.int .i64 0), (.slice none 0 0), (.slice none 0 0)] [(0, (1, (.k (.int .i64 1)))), (1, (1, (.t 6)))])), none⟩,
  ⟨none, (.op (.store 3 (.t 2) (.t 7))), none⟩])
  .ret))),
  [(.cN 2 3)]⟩
def c_lanyardref05_Bool : RFn :=
  ⟨8,
  (.seq
  (.ops [] [
  ⟨(some 2), (.op (.new [(.int .i64 0), (.slice none 0 0), (.slice none 0 0)])), none⟩])
  (.seq
  (.seq
  (.ops [] [
  ⟨(some 3), (.op (.mv (.t 0))), none⟩])
  (.cond (.t 3)
  (.seq
  (.ops [] [
  ⟨(some 4), (.op (.mkSl 1 [(.int .u8 0)] [(0, (1, (.k (.int .u8 255))))])), none⟩,
  ⟨(some 5), (.op (.build [(.int .i64 0), (.slice none 0 0), (.slice none 0 0)] [(0, (1, (.k (.int .i64 1)))), (1, (1, (.t 4)))])), none⟩,
  ⟨none, (.op (.store 3 (.t 2) (.t 5))), none⟩])
  .ret)
  .skip))
  (.seq
  (.ops [] [
  ⟨(some 6), (.op (.mkSl 1 [(.int .u8 0)] [(0, (1, (.k (.int .u8 0))))])), none⟩,
  ⟨(some 7), (.op (.build [(.int .i64 0), (.slice none 0 0), (.slice none 0 0)] [(0, (1, (.k (.int .i64 1)))), (1, (1, (.t 6)))])), none⟩,
  ⟨none, (.op (.store 3 (.t 2) (.t 7))), none⟩])
  .ret))),
  [(.cN 2 3)]⟩
def c_scalar_Of_1 : RFn :=
  ⟨9,
  (.seq
  (.ops [] [
  ⟨(some 2), (.op (.new [(.int .i64 0), (.slice none 0 0), (.slice none 0 0)])), none⟩,
  ⟨(some 3), (.op (.mv (.k (.int .i64 0)))), none⟩])
  (.seq
  (.ops [] [
  ⟨(some 4), (.op (.load1 (.t 0))), none⟩,
  ⟨(some 5), (.op (.load1 (.t 1))), none⟩,
  ⟨(some 6), (.call (.k (.func (.func 20) #[] #[])) [(.t 4), (.t 5)]), none⟩,
  ⟨(some 7), (.op (.extract (.t 6) 0)), none⟩,
  ⟨(some 8), (.op (.extract (.t 6) 1)), none⟩,
  ⟨none, (.op (.store 3 (.t 2) (.t 7))), none⟩,
  ⟨(some 3), (.op (.mv (.t 8))), none⟩])
  .ret)),
  [(.cN 2 3), (.t 3)]⟩
theorem r_scalar_Of_1 : resolveFn Tryd.prog 53 = some c_scalar_Of_1 := by kernel_rfl

def c_scalar_True_1 : RFn :=
  ⟨5,
  (.seq
  (.ops [] [
  ⟨(some 1), (.op (.new [(.int .i64 0), (.slice none 0 0), (.slice none 0 0)])), none⟩,
  ⟨(some 2), (.op (.mv (.k (.int .i64 0)))), none⟩])
  (.seq
  (.ops [] [
  ⟨(some 3), (.op (.load1 (.t 0))), none⟩,
  ⟨(some 4), (.call (.k (.func (.func 26) #[] #[])) [(.t 3)]), none⟩,
  ⟨none, (.op (.store 3 (.t 1) (.t 4))), none⟩,
  ⟨(some 2), (.op (.mv (.k (.int .i64 0)))), none⟩])
  .ret)),
  [(.cN 1 3), (.t 2)]⟩
def c_scalar_just_bool_ : RFn :=
  ⟨31,
  (.seq
  (.ops [] [
  ⟨(some 6), (.op (.box (.t 2))), none⟩,
  ⟨(some 8), (.op (.mv (.k (.bool false)))), none⟩,
  ⟨(some 9), (.op (.mv (.k (.int .i64 0)))), none⟩])
  (.seq
  (.ops [] [
  ⟨(some 10), (.op (.mv (.k (.bool false)))), none⟩])
  (.seq
  (.seq
  (.ops [] [
  ⟨(some 13), (.op (.mv (.t 1))), none⟩,
  ⟨(some 14), (.op (.un .not (.t 13))), none⟩])
  (.cond (.t 14)
  (.seq
  (.ops [] [
  ⟨(some 15), (.op (.mv (.t 10))), none⟩,
  ⟨(some 8), (.op (.mv (.t 15))), none⟩,
  ⟨(some 9), (.op (.mv (.k (.int .i64 2)))), none⟩])
  .ret)
  .skip))
  (.seq
  (.seq
  (.ops [] [
  ⟨(some 17), (.op (.mv (.t 3))), none⟩,
  ⟨(some 18), (.call (.t 17) []), none⟩,
  ⟨(some 16), (.op (.mv (.t 18))), none⟩,
  ⟨(some 19), (.op (.extract (.t 16) 0)), none⟩,
  ⟨(some 20), (.op (.extract (.t 16) 1)), none⟩,
  ⟨(some 11), (.op (.new [(.int .i64 0), (.slice none 0 0), (.slice none 0 0)])), none⟩,
  ⟨none, (.op (.store 3 (.t 11) (.t 19))), none⟩,
  ⟨(some 12), (.op (.mv (.t 20))), none⟩])
  (.seq
  (.ops [] [
  ⟨(some 21), (.op (.mv (.t 12))), none⟩,
  ⟨(some 22), (.op (.bin .neq (.t 21) (.k (.int .i64 0)))), none⟩,
  ⟨(some 23), (.op (.mv (.t 22))), none⟩,
  ⟨(some 24), (.op (.loadN 3 (.t 11))), (some (23, false))⟩,
  ⟨(some 25), (.op (.loadN 3 (.t 6))), (some (23, false))⟩,
  ⟨(some 26), (.call (.k (.func (.func 75) #[] #[])) [(.t 24), (.t 25)]), (some (23, false))⟩,
  ⟨(some 27), (.op (.un .not (.t 26))), (some (23, false))⟩,
  ⟨(some 28), (.op (.pick (.t 23) (.k (.bool true)) (.t 27))), none⟩])
  (.cond (.t 28)
  (.seq
  (.ops [] [
  ⟨(some 29), (.op (.mv (.t 10))), none⟩,
  ⟨(some 8), (.op (.mv (.t 29))), none⟩,
  ⟨(some 9), (.op (.mv (.k (.int .i64 2)))), none⟩])
  .ret)
  .skip)))
  (.seq
  (.ops [] [
  ⟨(some 30), (.op (.mv (.t 0))), none⟩,
  ⟨(some 8), (.op (.mv (.t 30))), none⟩,
  ⟨(some 9), (.op (.mv (.k (.int .i64 0)))), none⟩])
  .ret))))),
  [(.t 8), (.t 9)]⟩
def c_lanyardlaw05_ScalarBits : RFn :=
  ⟨119,
  (.seq
  (.ops [] [
  ⟨(some 5), (.op (.box (.t 2))), none⟩,
  ⟨(some 6), (.op (.mv (.k (.bool false)))), none⟩])
  (.seq
  (.ops [] [
  ⟨(some 25), (.call (.k (.func (.func 9) #[] #[])) []), none⟩,
  ⟨(some 7), (.op (.mv (.t 25))), none⟩])
  (.seq
  (.ops [] [
  ⟨(some 26), (.op (.loadN 3 (.t 5))), none⟩,
  ⟨(some 27), (.call (.k (.func (.func 10) #[] #[])) [(.t 26)]), none⟩,
  ⟨(some 8), (.op (.mv (.t 27))), none⟩])
  (.seq
  (.seq
  (.ops [] [
  ⟨(some 28), (.op (.mv (.t 8))), none⟩,
  ⟨(some 29), (.op (.un .not (.t 28))), none⟩,
  ⟨(some 30), (.op (.mv (.t 29))), none⟩,
  ⟨(some 31), (.op (.mv (.t 0))), (some (30, false))⟩,
  ⟨(some 32), (.op (.lenSl (.t 31))), (some (30, false))⟩,
  ⟨(some 33), (.op (.bin .gtr (.t 32) (.k (.int .i64 1000)))), (some (30, false))⟩,
  ⟨(some 34), (.op (.pick (.t 30) (.k (.bool true)) (.t 33))), none⟩])
  (.cond (.t 34)
  (.seq
  (.ops [] [
  ⟨(some 35), (.op (.mv (.t 7))), none⟩,
  ⟨(some 6), (.op (.mv (.t 35))), none⟩])
  .ret)
  .skip))
  (.seq
  (.ops [] [
  ⟨(some 37), (.op (.mv (.t 0))), none⟩,
  ⟨(some 38), (.op (.mv (.t 1))), none⟩,
  ⟨(some 39), (.call (.k (.func (.func 20) #[] #[])) [(.t 37), (.t 38)]), none⟩,
  ⟨(some 36), (.op (.mv (.t 39))), none⟩,
  ⟨(some 40), (.op (.extract (.t 36) 0)), none⟩,
  ⟨(some 41), (.op (.extract (.t 36) 1)), none⟩,
  ⟨(some 9), (.op (.new [(.int .i64 0), (.slice none 0 0), (.slice none 0 0)])), none⟩,
  ⟨none, (.op (.store 3 (.t 9) (.t 40))), none⟩,
  ⟨(some 10), (.op (.mv (.t 41))), none⟩])
  (.seq
  (.ops [] [
  ⟨(some 43), (.op (.mv (.t 0))), none⟩,
  ⟨(some 44), (.op (.mv (.t 1))), none⟩,
  ⟨(some 45), (.call (.k (.func (.func 21) #[] #[])) [(.t 43), (.t 44)]), none⟩,
  ⟨(some 42), (.op (.mv (.t 45))), none⟩,
  ⟨(some 46), (.op (.extract (.t 42) 0)), none⟩,
  ⟨(some 47), (.op (.extract (.t 42) 1)), none⟩,
  ⟨(some 11), (.op (.new [(.int .i64 0), (.slice none 0 0), (.slice none 0 0)])), none⟩,
  ⟨none, (.op (.store 3 (.t 11) (.t 46))), none⟩,
  ⟨(some 12), (.op (.mv (.t 47))), none⟩])
  (.seq
  (.ops [] [
  ⟨(some 48), (.op (.loadN 3 (.t 9))), none⟩,
  ⟨(some 49), (.op (.loadN 3 (.t 11))), none⟩,
  ⟨(some 50), (.call (.k (.func (.func 11) #[] #[])) [(.t 48), (.t 49)]), none⟩,
  ⟨(some 13), (.op (.mv (.t 50))), none⟩])
  (.seq
  (.ops [] [
  ⟨(some 52), (.op (.loadN 3 (.t 5))), none⟩,
  ⟨(some 53), (.call (.k (.func (.func 22) #[] #[])) [(.t 52)]), none⟩,
  ⟨(some 51), (.op (.mv (.t 53))), none⟩,
  ⟨(some 54), (.op (.extract (.t 51) 0)), none⟩,
  ⟨(some 55), (.op (.extract (.t 51) 1)), none⟩,
  ⟨(some 56), (.op (.extract (.t 51) 2)), none⟩,
  ⟨(some 14), (.op (.mv (.t 54))), none⟩,
  ⟨(some 15), (.op (.mv (.t 55))), none⟩,
  ⟨(some 16), (.op (.mv (.t 56))), none⟩])
  (.seq
  (.ops [] [
  ⟨(some 58), (.op (.loadN 3 (.t 5))), none⟩,
  ⟨(some 59), (.call (.k (.func (.func 23) #[] #[])) [(.t 58)]), none⟩,
  ⟨(some 57), (.op (.mv (.t 59))), none⟩,
  ⟨(some 60), (.op (.extract (.t 57) 0)), none⟩,
  ⟨(some 61), (.op (.extract (.t 57) 1)), none⟩,
  ⟨(some 62), (.op (.extract (.t 57) 2)), none⟩,
  ⟨(some 17), (.op (.mv (.t 60))), none⟩,
  ⟨(some 18), (.op (.mv (.t 61))), none⟩,
  ⟨(some 19), (.op (.mv (.t 62))), none⟩])
  (.seq
  (.ops [] [
  ⟨(some 64), (.op (.loadN 3 (.t 5))), none⟩,
  ⟨(some 65), (.call (.k (.func (.func 24) #[] #[])) [(.t 64)]), none⟩,
  ⟨(some 63), (.op (.mv (.t 65))), none⟩,
  ⟨(some 66), (.op (.extract (.t 63) 0)), none⟩,
  ⟨(some 67), (.op (.extract (.t 63) 1)), none⟩,
  ⟨(some 20), (.op (.mv (.t 66))), none⟩,
  ⟨(some 21), (.op (.mv (.t 67))), none⟩])
  (.seq
  (.ops [] [
  ⟨(some 69), (.op (.loadN 3 (.t 5))), none⟩,
  ⟨(some 70), (.call (.k (.func (.func 25) #[] #[])) [(.t 69)]), none⟩,
  ⟨(some 68), (.op (.mv (.t 70))), none⟩,
  ⟨(some 71), (.op (.extract (.t 68) 0)), none⟩,
  ⟨(some 72), (.op (.extract (.t 68) 1)), none⟩,
  ⟨(some 22), (.op (.mv (.t 71))), none⟩,
  ⟨(some 23), (.op (.mv (.t 72))), none⟩])
  (.seq
  (.ops [] [
  ⟨(some 73), (.op (.mv (.t 1))), none⟩,
  ⟨(some 74), (.op (.bin .gtr (.t 73) (.k (.int .i64 3)))), none⟩,
  ⟨(some 75), (.call (.k (.func (.func 26) #[] #[])) [(.t 74)]), none⟩,
  ⟨(some 76), (.op (.mv (.t 1))), none⟩,
  ⟨(some 77), (.op (.bin .gtr (.t 76) (.k (.int .i64 3)))), none⟩,
  ⟨(some 78), (.call (.k (.func (.func 27) #[] #[])) [(.t 77)]), none⟩,
  ⟨(some 79), (.call (.k (.func (.func 11) #[] #[])) [(.t 75), (.t 78)]), none⟩,
  ⟨(some 24), (.op (.mv (.t 79))), none⟩])
  (.seq
  (.ops [] [
  ⟨(some 80), (.op (.mv (.t 7))), none⟩,
  ⟨(some 81), (.op (.mv (.t 80))), none⟩,
  ⟨(some 82), (.op (.mv (.t 13))), (some (81, true))⟩,
  ⟨(some 83), (.op (.pick (.t 81) (.t 82) (.k (.bool false)))), none⟩,
  ⟨(some 84), (.op (.mv (.t 83))), none⟩,
  ⟨(some 85), (.op (.mv (.t 10))), (some (84, true))⟩,
  ⟨(some 86), (.op (.mv (.t 12))), (some (84, true))⟩,
  ⟨(some 87), (.op (.bin .eql (.t 85) (.t 86))), (some (84, true))⟩,
  ⟨(some 88), (.op (.pick (.t 84) (.t 87) (.k (.bool false)))), none⟩,
  ⟨(some 89), (.op (.mv (.t 88))), none⟩,
  ⟨(some 90), (.op (.mv (.t 14))), (some (89, true))⟩,
  ⟨(some 91), (.op (.b2s (.t 90))), (some (89, true))⟩,
  ⟨(some 92), (.op (.mv (.t 17))), (some (89, true))⟩,
  ⟨(some 93), (.op (.b2s (.t 92))), (some (89, true))⟩,
  ⟨(some 94), (.op (.bin .eql (.t 91) (.t 93))), (some (89, true))⟩,
  ⟨(some 95), (.op (.pick (.t 89) (.t 94) (.k (.bool false)))), none⟩,
  ⟨(some 96), (.op (.mv (.t 95))), none⟩,
  ⟨(some 97), (.op (.mv (.t 15))), (some (96, true))⟩,
  ⟨(some 98), (.op (.mv (.t 18))), (some (96, true))⟩,
  ⟨(some 99), (.op (.bin .eql (.t 97) (.t 98))), (some (96, true))⟩,
  ⟨(some 100), (.op (.pick (.t 96) (.t 99) (.k (.bool false)))), none⟩,
  ⟨(some 101), (.op (.mv (.t 100))), none⟩,
  ⟨(some 102), (.op (.mv (.t 16))), (some (101, true))⟩,
  ⟨(some 103), (.op (.mv (.t 19))), (some (101, true))⟩,
  ⟨(some 104), (.op (.bin .eql (.t 102) (.t 103))), (some (101, true))⟩,
  ⟨(some 105), (.op (.pick (.t 101) (.t 104) (.k (.bool false)))), none⟩,
  ⟨(some 106), (.op (.mv (.t 105))), none⟩,
  ⟨(some 107), (.op (.mv (.t 20))), (some (106, true))⟩,
  ⟨(some 108), (.op (.mv (.t 22))), (some (106, true))⟩,
  ⟨(some 109), (.op (.eqB false (.t 107) (.t 108))), (some (106, true))⟩,
  ⟨(some 110), (.op (.pick (.t 106) (.t 109) (.k (.bool false)))), none⟩,
  ⟨(some 111), (.op (.mv (.t 110))), none⟩,
  ⟨(some 112), (.op (.mv (.t 21))), (some (111, true))⟩,
  ⟨(some 113), (.op (.mv (.t 23))), (some (111, true))⟩,
  ⟨(some 114), (.op (.bin .eql (.t 112) (.t 113))), (some (111, true))⟩,
  ⟨(some 115), (.op (.pick (.t 111) (.t 114) (.k (.bool false)))), none⟩,
  ⟨(some 116), (.op (.mv (.t 115))), none⟩,
  ⟨(some 117), (.op (.mv (.t 24))), (some (116, true))⟩,
  ⟨(some 118), (.op (.pick (.t 116) (.t 117) (.k (.bool false)))), none⟩,
  ⟨(some 6), (.op (.mv (.t 118))), none⟩])
  .ret))))))))))))),
  [(.t 6)]⟩
def c_lanyardref05_Oid : RFn :=
  ⟨66,
  (.seq
  (.ops [] [
  ⟨(some 2), (.op (.new [(.int .i64 0), (.slice none 0 0), (.slice none 0 0)])), none⟩,
  ⟨(some 3), (.op (.mv (.k (.int .i64 0)))), none⟩])
  (.seq
  (.seq
  (.ops [] [
  ⟨(some 6), (.op (.mv (.t 0))), none⟩,
  ⟨(some 7), (.op (.lenSl (.t 6))), none⟩,
  ⟨(some 8), (.op (.bin .lss (.t 7) (.k (.int .i64 2)))), none⟩,
  ⟨(some 9), (.op (.mv (.t 8))), none⟩,
  ⟨(some 10), (.op (.mv (.t 0))), (some (9, false))⟩,
  ⟨(some 11), (.op (.lenSl (.t 10))), (some (9, false))⟩,
  ⟨(some 12), (.op (.bin .gtr (.t 11) (.k (.int .i64 20)))), (some (9, false))⟩,
  ⟨(some 13), (.op (.pick (.t 9) (.k (.bool true)) (.t 12))), none⟩,
  ⟨(some 14), (.op (.mv (.t 13))), none⟩,
  ⟨(some 15), (.op (.mv (.t 0))), (some (14, false))⟩,
  ⟨(some 16), (.op (.ixAddr 1 (.t 15) (.k (.int .i64 0)))), (some (14, false))⟩,
  ⟨(some 17), (.op (.load1 (.t 16))), (some (14, false))⟩,
  ⟨(some 18), (.op (.bin .gtr (.t 17) (.k (.int .u32 2)))), (some (14, false))⟩,
  ⟨(some 19), (.op (.pick (.t 14) (.k (.bool true)) (.t 18))), none⟩,
  ⟨(some 20), (.op (.mv (.t 19))), none⟩,
  ⟨(some 21), (.op (.mv (.t 0))), (some (20, false))⟩,
  ⟨(some 22), (.op (.ixAddr 1 (.t 21) (.k (.int .i64 1)))), (some (20, false))⟩,
  ⟨(some 23), (.op (.load1 (.t 22))), (some (20, false))⟩,
  ⟨(some 24), (.op (.bin .gtr (.t 23) (.k (.int .u32 4294967200)))), (some (20, false))⟩,
  ⟨(some 25), (.op (.pick (.t 20) (.k (.bool true)) (.t 24))), none⟩,
  ⟨(some 26), (.op (.mv (.t 25))), none⟩,
  ⟨(some 27), (.op (.mv (.t 0))), (some (26, false))⟩,
  ⟨(some 28), (.op (.ixAddr 1 (.t 27) (.k (.int .i64 1)))), (some (26, false))⟩,
  ⟨(some 29), (.op (.load1 (.t 28))), (some (26, false))⟩,
  ⟨(some 30), (.op (.bin .gtr (.t 29) (.k (.int .u32 39)))), (some (26, false))⟩,
  ⟨(some 31), (.op (.mv (.t 30))), (some (26, false))⟩,
  ⟨(some 32), (.op (.mv (.t 0))), (some (31, true))⟩,
  ⟨(some 33), (.op (.ixAddr 1 (.t 32) (.k (.int .i64 0)))), (some (31, true))⟩,
  ⟨(some 34), (.op (.load1 (.t 33))), (some (31, true))⟩,
  ⟨(some 35), (.op (.bin .neq (.t 34) (.k (.int .u32 2)))), (some (31, true))⟩,
  ⟨(some 36), (.op (.pick (.t 31) (.t 35) (.k (.bool false)))), (some (26, false))⟩,
  ⟨(some 37), (.op (.pick (.t 26) (.k (.bool true)) (.t 36))), none⟩])
  (.cond (.t 37)
  (.seq
  (.ops [] [
  ⟨(some 38), (.op (.build [(.int .i64 0), (.slice none 0 0), (.slice none 0 0)] [])), none⟩,
  ⟨none, (.op (.store 3 (.t 2) (.t 38))), none⟩,
  ⟨(some 3), (.op (.mv (.k (.int .i64 1)))), none⟩])
  .ret)
  .skip))
  (.seq
  (.ops [
  ⟨(some 39), (.op (.mv (.t 0))), none⟩,
  ⟨(some 40), (.op (.ixAddr 1 (.t 39) (.k (.int .i64 0)))), none⟩,
  ⟨(some 41), (.op (.load1 (.t 40))), none⟩,
  ⟨(some 42), (.op (.toInt .u64 (.t 41))), none⟩,
  ⟨(some 43), (.op (.bin .mul (.k (.int .u64 40)) (.t 42))), none⟩,
  ⟨(some 44), (.op (.mv (.t 0))), none⟩,
  ⟨(some 45), (.op (.ixAddr 1 (.t 44) (.k (.int .i64 1)))), none⟩,
  ⟨(some 46), (.op (.load1 (.t 45))), none⟩,
  ⟨(some 47), (.op (.toInt .u64 (.t 46))), none⟩] [
  ⟨(some 48), (.op (.bin .add (.t 43) (.t 47))), none⟩,
  ⟨(some 49), (.call (.k (.func (.func 57) #[] #[])) [(.t 48)]), none⟩,
  ⟨(some 4), (.op (.mv (.t 49))), none⟩])
  (.seq
  (.seq
  (.ops [] [
  ⟨(some 5), (.op (.mv (.k (.int .i64 2)))), none⟩])
  (.block 0
  (.loop
  (.seq
  (.seq
  (.ops [] [
  ⟨(some 50), (.op (.mv (.t 5))), none⟩,
  ⟨(some 51), (.op (.mv (.t 0))), none⟩,
  ⟨(some 52), (.op (.lenSl (.t 51))), none⟩,
  ⟨(some 53), (.op (.bin .lss (.t 50) (.t 52))), none⟩])
  (.cond (.t 53)
  .skip
  (.exit 0)))
  (.seq
  (.block 1
  (.ops [] [
  ⟨(some 56), (.op (.mv (.t 4))), none⟩,
  ⟨(some 57), (.op (.mv (.t 0))), none⟩,
  ⟨(some 58), (.op (.mv (.t 5))), none⟩,
  ⟨(some 59), (.op (.ixAddr 1 (.t 57) (.t 58))), none⟩,
  ⟨(some 60), (.op (.load1 (.t 59))), none⟩,
  ⟨(some 61), (.op (.toInt .u64 (.t 60))), none⟩,
  ⟨(some 62), (.call (.k (.func (.func 57) #[] #[])) [(.t 61)]), none⟩,
  ⟨(some 63), (.op (.append 1 1 (.t 56) (.t 62))), none⟩,
  ⟨(some 4), (.op (.mv (.t 63))), none⟩]))
  (.ops [] [
  ⟨(some 54), (.op (.mv (.t 5))), none⟩,
  ⟨(some 55), (.op (.bin .add (.t 54) (.k (.int .i64 1)))), none⟩,
  ⟨(some 5), (.op (.mv (.t 55))), none⟩]))))))
  (.seq
  (.ops [] [
  ⟨(some 64), (.op (.mv (.t 4))), none⟩,
  ⟨(some 65), (.op (.build [(.int .i64 0), (.slice none 0 0), (.slice none 0 0)] [(0, (1, (.k (.int .i64 6)))), (1, (1, (.t 64)))])), none⟩,
  ⟨none, (.op (.store 3 (.t 2) (.t 65))), none⟩,
  ⟨(some 3), (.op (.mv (.k (.int .i64 0)))), none⟩])
  .ret))))),
  [(.cN 2 3), (.t 3)]⟩
def c_lanyardref05_seven : RFn :=
  ⟨20,
  (.seq
  (.ops [] [
  ⟨(some 2), (.op (.mv (.k (.slice none 0 0)))), none⟩])
  (.seq
  (.ops [] [
  ⟨(some 4), (.op (.mv (.t 0))), none⟩,
  ⟨(some 5), (.op (.bin .rem (.t 4) (.k (.int .u64 128)))), none⟩,
  ⟨(some 6), (.op (.toInt .u8 (.t 5))), none⟩,
  ⟨(some 7), (.op (.mkSl 1 [(.int .u8 0)] [(0, (1, (.t 6)))])), none⟩,
  ⟨(some 3), (.op (.mv (.t 7))), none⟩])
  (.seq
  (.block 0
  (.loop
  (.seq
  (.seq
  (.ops [] [
  ⟨(some 8), (.op (.mv (.t 0))), none⟩,
  ⟨(some 9), (.op (.bin .geq (.t 8) (.k (.int .u64 128)))), none⟩])
  (.cond (.t 9)
  .skip
  (.exit 0)))
  (.block 1
  (.seq
  (.ops [] [
  ⟨(some 10), (.op (.mv (.t 0))), none⟩,
  ⟨(some 11), (.op (.bin .quo (.t 10) (.k (.int .u64 128)))), none⟩,
  ⟨(some 0), (.op (.mv (.t 11))), none⟩])
  (.ops [] [
  ⟨(some 12), (.op (.mv (.t 0))), none⟩,
  ⟨(some 13), (.op (.bin .rem (.t 12) (.k (.int .u64 128)))), none⟩,
  ⟨(some 14), (.op (.bin .add (.t 13) (.k (.int .u64 128)))), none⟩,
  ⟨(some 15), (.op (.toInt .u8 (.t 14))), none⟩,
  ⟨(some 16), (.op (.mkSl 1 [(.int .u8 0)] [(0, (1, (.t 15)))])), none⟩,
  ⟨(some 17), (.op (.mv (.t 3))), none⟩,
  ⟨(some 18), (.op (.append 1 1 (.t 16) (.t 17))), none⟩,
  ⟨(some 3), (.op (.mv (.t 18))), none⟩]))))))
  (.seq
  (.ops [] [
  ⟨(some 19), (.op (.mv (.t 3))), none⟩,
  ⟨(some 2), (.op (.mv (.t 19))), none⟩])
  .ret)))),
  [(.t 2)]⟩
def c_scalar_Arcs : RFn :=
  ⟨56,
  (.seq
  (.ops [] [
  ⟨(some 1), (.op (.box (.t 0))), none⟩,
  ⟨(some 2), (.op (.mv (.k (.slice none 0 0)))), none⟩,
  ⟨(some 3), (.op (.mv (.k (.int .i64 0)))), none⟩])
  (.seq
  (.ops [] [
  ⟨(some 11), (.op (.fieldAddr 1 (.t 1))), none⟩,
  ⟨(some 12), (.op (.load1 (.t 11))), none⟩,
  ⟨(some 13), (.call (.k (.func (.func 58) #[] #[])) [(.t 12)]), none⟩,
  ⟨(some 10), (.op (.mv (.t 13))), none⟩,
  ⟨(some 14), (.op (.extract (.t 10) 0)), none⟩,
  ⟨(some 15), (.op (.extract (.t 10) 1)), none⟩,
  ⟨(some 4), (.op (.mv (.t 14))), none⟩,
  ⟨(some 5), (.op (.mv (.t 15))), none⟩])
  (.seq
  (.ops [] [
  ⟨(some 6), (.op (.new [(.slice none 0 0)])), none⟩])
  (.seq
  (.seq
  (.ops [] [
  ⟨(some 16), (.op (.mv (.t 4))), none⟩,
  ⟨(some 17), (.op (.lenSl (.t 16))), none⟩,
  ⟨(some 18), (.op (.mv (.k (.int .i64 0)))), none⟩])
  (.block 0
  (.loop
  (.seq
  (.ops [] [
  ⟨(some 19), (.op (.bin .lss (.t 18) (.t 17))), none⟩])
  (.seq
  (.cond (.t 19)
  .skip
  (.exit 0))
  (.seq
  (.block 1
  (.seq
  (.ops [] [
  ⟨(some 20), (.op (.mv (.t 18))), none⟩,
  ⟨(some 21), (.op (.ixAddr 1 (.t 16) (.t 18))), none⟩,
  ⟨(some 22), (.op (.load1 (.t 21))), none⟩,
  ⟨(some 7), (.op (.mv (.t 20))), none⟩,
  ⟨(some 8), (.op (.mv (.t 22))), none⟩])
  (.seq
  (.seq
  (.ops [] [
  ⟨(some 23), (.op (.mv (.t 7))), none⟩,
  ⟨(some 24), (.op (.bin .eql (.t 23) (.k (.int .i64 0)))), none⟩])
  (.cond (.t 24)
  (.seq
  (.ops [] [
  ⟨(some 25), (.op (.mv (.t 8))), none⟩,
  ⟨(some 26), (.op (.bin .quo (.t 25) (.k (.int .u64 40)))), none⟩,
  ⟨(some 27), (.op (.mm false (.t 26) [(.k (.int .u64 2))])), none⟩,
  ⟨(some 9), (.op (.mv (.t 27))), none⟩])
  (.seq
  (.ops [] [
  ⟨(some 28), (.op (.load1 (.t 6))), none⟩,
  ⟨(some 29), (.op (.mv (.t 9))), none⟩,
  ⟨(some 30), (.op (.toInt .u32 (.t 29))), none⟩,
  ⟨(some 31), (.op (.mkSl 1 [(.int .u32 0)] [(0, (1, (.t 30)))])), none⟩,
  ⟨(some 32), (.op (.append 1 4 (.t 28) (.t 31))), none⟩,
  ⟨none, (.op (.store 1 (.t 6) (.t 32))), none⟩])
  (.ops [] [
  ⟨(some 33), (.op (.mv (.t 8))), none⟩,
  ⟨(some 34), (.op (.mv (.t 9))), none⟩,
  ⟨(some 35), (.op (.bin .mul (.t 34) (.k (.int .u64 40)))), none⟩,
  ⟨(some 36), (.op (.bin .sub (.t 33) (.t 35))), none⟩,
  ⟨(some 8), (.op (.mv (.t 36))), none⟩])))
  .skip))
  (.seq
  (.ops [] [
  ⟨(some 37), (.op (.mv (.t 5))), none⟩,
  ⟨(some 38), (.op (.mv (.t 37))), none⟩,
  ⟨(some 39), (.op (.mv (.t 8))), (some (38, true))⟩,
  ⟨(some 40), (.op (.bin .shr (.t 39) (.k (.int .u64 32)))), (some (38, true))⟩,
  ⟨(some 41), (.op (.bin .eql (.t 40) (.k (.int .u64 0)))), (some (38, true))⟩,
  ⟨(some 42), (.op (.pick (.t 38) (.t 41) (.k (.bool false)))), none⟩,
  ⟨(some 5), (.op (.mv (.t 42))), none⟩])
  (.ops [] [
  ⟨(some 43), (.op (.load1 (.t 6))), none⟩,
  ⟨(some 44), (.op (.mv (.t 8))), none⟩,
  ⟨(some 45), (.op (.toInt .u32 (.t 44))), none⟩,
  ⟨(some 46), (.op (.mkSl 1 [(.int .u32 0)] [(0, (1, (.t 45)))])), none⟩,
  ⟨(some 47), (.op (.append 1 4 (.t 43) (.t 46))), none⟩,
  ⟨none, (.op (.store 1 (.t 6) (.t 47))), none⟩])))))
  (.ops [] [
  ⟨(some 48), (.op (.bin .add (.t 18) (.k (.int .i64 1)))), none⟩,
  ⟨(some 18), (.op (.mv (.t 48))), none⟩])))))))
  (.seq
  (.ops [] [
  ⟨(some 49), (.op (.load1 (.t 6))), none⟩,
  ⟨(some 50), (.op (.mv (.t 5))), none⟩,
  ⟨(some 51), (.op (.loadN 3 (.t 1))), none⟩,
  ⟨(some 52), (.op (.func 60 [(.t 6)])), none⟩,
  ⟨(some 53), (.call (.k (.func (.func 59) #[] #[])) [(.t 49), (.t 50), (.t 51), (.t 52)]), none⟩,
  ⟨(some 54), (.op (.extract (.t 53) 0)), none⟩,
  ⟨(some 55), (.op (.extract (.t 53) 1)), none⟩,
  ⟨(some 2), (.op (.mv (.t 54))), none⟩,
  ⟨(some 3), (.op (.mv (.t 55))), none⟩])
  .ret))))),
  [(.t 2), (.t 3)]⟩
theorem r_scalar_Arcs : resolveFn Tryd.prog 30 = some c_scalar_Arcs := by kernel_rfl

def c_lanyardref05_Arcs : RFn :=
  ⟨75,
  (.seq
  (.ops [] [
  ⟨(some 1), (.op (.box (.t 0))), none⟩,
  ⟨(some 2), (.op (.mv (.k (.slice none 0 0)))), none⟩,
  ⟨(some 3), (.op (.mv (.k (.int .i64 0)))), none⟩])
  (.seq
  (.ops [] [
  ⟨(some 4), (.op (.mv (.k (.slice none 0 0)))), none⟩])
  (.seq
  (.ops [] [
  ⟨(some 5), (.op (.mv (.k (.int .u64 0)))), none⟩])
  (.seq
  (.seq
  (.ops [] [
  ⟨(some 6), (.op (.mv (.k (.int .i64 0)))), none⟩])
  (.block 0
  (.loop
  (.seq
  (.seq
  (.ops [] [
  ⟨(some 10), (.op (.mv (.t 6))), none⟩,
  ⟨(some 11), (.op (.fieldAddr 1 (.t 1))), none⟩,
  ⟨(some 12), (.op (.load1 (.t 11))), none⟩,
  ⟨(some 13), (.op (.lenSl (.t 12))), none⟩,
  ⟨(some 14), (.op (.bin .lss (.t 10) (.t 13))), none⟩])
  (.cond (.t 14)
  .skip
  (.exit 0)))
  (.seq
  (.block 1
  (.seq
  (.ops [] [
  ⟨(some 17), (.op (.mv (.t 5))), none⟩,
  ⟨(some 18), (.op (.bin .rem (.t 17) (.k (.int .u64 144115188075855872)))), none⟩,
  ⟨(some 19), (.op (.bin .mul (.t 18) (.k (.int .u64 128)))), none⟩,
  ⟨(some 20), (.op (.fieldAddr 1 (.t 1))), none⟩,
  ⟨(some 21), (.op (.load1 (.t 20))), none⟩,
  ⟨(some 22), (.op (.mv (.t 6))), none⟩,
  ⟨(some 23), (.op (.ixAddr 1 (.t 21) (.t 22))), none⟩,
  ⟨(some 24), (.op (.load1 (.t 23))), none⟩,
  ⟨(some 25), (.op (.bin .rem (.t 24) (.k (.int .u8 128)))), none⟩,
  ⟨(some 26), (.op (.toInt .u64 (.t 25))), none⟩,
  ⟨(some 27), (.op (.bin .add (.t 19) (.t 26))), none⟩,
  ⟨(some 5), (.op (.mv (.t 27))), none⟩])
  (.seq
  (.seq
  (.ops [] [
  ⟨(some 28), (.op (.fieldAddr 1 (.t 1))), none⟩,
  ⟨(some 29), (.op (.load1 (.t 28))), none⟩,
  ⟨(some 30), (.op (.mv (.t 6))), none⟩,
  ⟨(some 31), (.op (.ixAddr 1 (.t 29) (.t 30))), none⟩,
  ⟨(some 32), (.op (.load1 (.t 31))), none⟩,
  ⟨(some 33), (.op (.bin .geq (.t 32) (.k (.int .u8 128)))), none⟩])
  (.cond (.t 33)
  (.exit 1)
  .skip))
  (.seq
  (.seq
  (.ops [] [
  ⟨(some 34), (.op (.mv (.t 4))), none⟩,
  ⟨(some 35), (.op (.lenSl (.t 34))), none⟩,
  ⟨(some 36), (.op (.bin .eql (.t 35) (.k (.int .i64 0)))), none⟩])
  (.cond (.t 36)
  (.seq
  (.ops [] [
  ⟨(some 37), (.op (.mv (.t 5))), none⟩,
  ⟨(some 38), (.op (.bin .quo (.t 37) (.k (.int .u64 40)))), none⟩,
  ⟨(some 39), (.op (.mm false (.t 38) [(.k (.int .u64 2))])), none⟩,
  ⟨(some 7), (.op (.mv (.t 39))), none⟩])
  (.seq
  (.ops [] [
  ⟨(some 40), (.op (.mv (.t 4))), none⟩,
  ⟨(some 41), (.op (.mv (.t 7))), none⟩,
  ⟨(some 42), (.op (.toInt .u32 (.t 41))), none⟩,
  ⟨(some 43), (.op (.mkSl 1 [(.int .u32 0)] [(0, (1, (.t 42)))])), none⟩,
  ⟨(some 44), (.op (.append 1 4 (.t 40) (.t 43))), none⟩,
  ⟨(some 4), (.op (.mv (.t 44))), none⟩])
  (.ops [] [
  ⟨(some 45), (.op (.mv (.t 5))), none⟩,
  ⟨(some 46), (.op (.mv (.t 7))), none⟩,
  ⟨(some 47), (.op (.bin .mul (.k (.int .u64 40)) (.t 46))), none⟩,
  ⟨(some 48), (.op (.bin .sub (.t 45) (.t 47))), none⟩,
  ⟨(some 5), (.op (.mv (.t 48))), none⟩])))
  .skip))
  (.seq
  (.seq
  (.ops [] [
  ⟨(some 49), (.op (.mv (.t 5))), none⟩,
  ⟨(some 50), (.op (.bin .gtr (.t 49) (.k (.int .u64 4294967295)))), none⟩,
  ⟨(some 51), (.op (.mv (.t 50))), none⟩,
  ⟨(some 52), (.op (.mv (.t 4))), (some (51, false))⟩,
  ⟨(some 53), (.op (.lenSl (.t 52))), (some (51, false))⟩,
  ⟨(some 54), (.op (.bin .gtr (.t 53) (.k (.int .i64 20)))), (some (51, false))⟩,
  ⟨(some 55), (.op (.pick (.t 51) (.k (.bool true)) (.t 54))), none⟩])
  (.cond (.t 55)
  (.seq
  (.ops [] [
  ⟨(some 2), (.op (.mv (.k (.slice none 0 0)))), none⟩,
  ⟨(some 3), (.op (.mv (.k (.int .i64 2)))), none⟩])
  .ret)
  .skip))
  (.seq
  (.ops [] [
  ⟨(some 56), (.op (.mv (.t 4))), none⟩,
  ⟨(some 57), (.op (.mv (.t 5))), none⟩,
  ⟨(some 58), (.op (.toInt .u32 (.t 57))), none⟩,
  ⟨(some 59), (.op (.mkSl 1 [(.int .u32 0)] [(0, (1, (.t 58)))])), none⟩,
  ⟨(some 60), (.op (.append 1 4 (.t 56) (.t 59))), none⟩,
  ⟨(some 4), (.op (.mv (.t 60))), none⟩])
  (.ops [] [
  ⟨(some 5), (.op (.mv (.k (.int .u64 0)))), none⟩])))))))
  (.ops [] [
  ⟨(some 15), (.op (.mv (.t 6))), none⟩,
  ⟨(some 16), (.op (.bin .add (.t 15) (.k (.int .i64 1)))), none⟩,
  ⟨(some 6), (.op (.mv (.t 16))), none⟩]))))))
  (.seq
  (.ops [] [
  ⟨(some 62), (.op (.mv (.t 4))), none⟩,
  ⟨(some 63), (.call (.k (.func (.func 29) #[] #[])) [(.t 62)]), none⟩,
  ⟨(some 61), (.op (.mv (.t 63))), none⟩,
  ⟨(some 64), (.op (.extract (.t 61) 0)), none⟩,
  ⟨(some 65), (.op (.extract (.t 61) 1)), none⟩,
  ⟨(some 8), (.op (.new [(.int .i64 0), (.slice none 0 0), (.slice none 0 0)])), none⟩,
  ⟨none, (.op (.store 3 (.t 8) (.t 64))), none⟩,
  ⟨(some 9), (.op (.mv (.t 65))), none⟩])
  (.seq
  (.seq
  (.ops [] [
  ⟨(some 66), (.op (.mv (.t 9))), none⟩,
  ⟨(some 67), (.op (.bin .neq (.t 66) (.k (.int .i64 0)))), none⟩,
  ⟨(some 68), (.op (.mv (.t 67))), none⟩,
  ⟨(some 69), (.op (.loadN 3 (.t 8))), (some (68, false))⟩,
  ⟨(some 70), (.op (.loadN 3 (.t 1))), (some (68, false))⟩,
  ⟨(some 71), (.call (.k (.func (.func 11) #[] #[])) [(.t 69), (.t 70)]), (some (68, false))⟩,
  ⟨(some 72), (.op (.un .not (.t 71))), (some (68, false))⟩,
  ⟨(some 73), (.op (.pick (.t 68) (.k (.bool true)) (.t 72))), none⟩])
  (.cond (.t 73)
  (.seq
  (.ops [] [
  ⟨(some 2), (.op (.mv (.k (.slice none 0 0)))), none⟩,
  ⟨(some 3), (.op (.mv (.k (.int .i64 2)))), none⟩])
  .ret)
  .skip))
  (.seq
  (.ops [] [
  ⟨(some 74), (.op (.mv (.t 4))), none⟩,
  ⟨(some 2), (.op (.mv (.t 74))), none⟩,
  ⟨(some 3), (.op (.mv (.k (.int .i64 0)))), none⟩])
  .ret))))))),
  [(.t 2), (.t 3)]⟩
def c_lanyardlaw05_same : RFn :=
  ⟨26,
  (.seq
  (.ops [] [
  ⟨(some 4), (.op (.mv (.k (.bool false)))), none⟩])
  (.seq
  (.seq
  (.ops [] [
  ⟨(some 6), (.op (.mv (.t 0))), none⟩,
  ⟨(some 7), (.op (.lenSl (.t 6))), none⟩,
  ⟨(some 8), (.op (.mv (.t 1))), none⟩,
  ⟨(some 9), (.op (.lenSl (.t 8))), none⟩,
  ⟨(some 10), (.op (.bin .neq (.t 7) (.t 9))), none⟩])
  (.cond (.t 10)
  (.seq
  (.ops [] [
  ⟨(some 4), (.op (.mv (.k (.bool false)))), none⟩])
  .ret)
  .skip))
  (.seq
  (.seq
  (.ops [] [
  ⟨(some 5), (.op (.mv (.k (.int .i64 0)))), none⟩])
  (.block 0
  (.loop
  (.seq
  (.seq
  (.ops [] [
  ⟨(some 11), (.op (.mv (.t 5))), none⟩,
  ⟨(some 12), (.op (.mv (.t 0))), none⟩,
  ⟨(some 13), (.op (.lenSl (.t 12))), none⟩,
  ⟨(some 14), (.op (.bin .lss (.t 11) (.t 13))), none⟩])
  (.cond (.t 14)
  .skip
  (.exit 0)))
  (.seq
  (.block 1
  (.seq
  (.ops [
  ⟨(some 17), (.op (.mv (.t 0))), none⟩,
  ⟨(some 18), (.op (.mv (.t 5))), none⟩,
  ⟨(some 19), (.op (.ixAddr 1 (.t 17) (.t 18))), none⟩,
  ⟨(some 20), (.op (.load1 (.t 19))), none⟩,
  ⟨(some 21), (.op (.mv (.t 1))), none⟩,
  ⟨(some 22), (.op (.mv (.t 5))), none⟩,
  ⟨(some 23), (.op (.ixAddr 1 (.t 21) (.t 22))), none⟩,
  ⟨(some 24), (.op (.load1 (.t 23))), none⟩] [
  ⟨(some 25), (.op (.bin .neq (.t 20) (.t 24))), none⟩])
  (.cond (.t 25)
  (.seq
  (.ops [] [
  ⟨(some 4), (.op (.mv (.k (.bool false)))), none⟩])
  .ret)
  .skip)))
  (.ops [] [
  ⟨(some 15), (.op (.mv (.t 5))), none⟩,
  ⟨(some 16), (.op (.bin .add (.t 15) (.k (.int .i64 1)))), none⟩,
  ⟨(some 5), (.op (.mv (.t 16))), none⟩]))))))
  (.seq
  (.ops [] [
  ⟨(some 4), (.op (.mv (.k (.bool true)))), none⟩])
  .ret)))),
  [(.t 4)]⟩
theorem r_lanyardlaw05_same : resolveFn Tryd.prog 32 = some c_lanyardlaw05_same := by kernel_rfl

def c_scalar_numbers : RFn :=
  ⟨39,
  (.seq
  (.ops [] [
  ⟨(some 2), (.op (.mv (.k (.slice none 0 0)))), none⟩,
  ⟨(some 3), (.op (.mv (.k (.bool false)))), none⟩])
  (.seq
  (.ops [] [
  ⟨(some 4), (.op (.mv (.k (.slice none 0 0)))), none⟩])
  (.seq
  (.ops [] [
  ⟨(some 5), (.op (.mv (.k (.int .u64 0)))), none⟩,
  ⟨(some 6), (.op (.mv (.k (.bool true)))), none⟩])
  (.seq
  (.seq
  (.ops [] [
  ⟨(some 9), (.op (.mv (.t 0))), none⟩,
  ⟨(some 10), (.op (.lenSl (.t 9))), none⟩,
  ⟨(some 11), (.op (.mv (.k (.int .i64 0)))), none⟩])
  (.block 0
  (.loop
  (.seq
  (.ops [] [
  ⟨(some 12), (.op (.bin .lss (.t 11) (.t 10))), none⟩])
  (.seq
  (.cond (.t 12)
  .skip
  (.exit 0))
  (.seq
  (.block 1
  (.seq
  (.ops [] [
  ⟨(some 13), (.op (.ixAddr 1 (.t 9) (.t 11))), none⟩,
  ⟨(some 14), (.op (.load1 (.t 13))), none⟩,
  ⟨(some 8), (.op (.mv (.t 14))), none⟩])
  (.seq
  (.ops [] [
  ⟨(some 15), (.op (.mv (.t 5))), none⟩,
  ⟨(some 16), (.op (.bin .shl (.t 15) (.k (.int .u64 7)))), none⟩,
  ⟨(some 17), (.op (.mv (.t 8))), none⟩,
  ⟨(some 18), (.op (.bin .and (.t 17) (.k (.int .u8 127)))), none⟩,
  ⟨(some 19), (.op (.toInt .u64 (.t 18))), none⟩,
  ⟨(some 20), (.op (.bin .or (.t 16) (.t 19))), none⟩,
  ⟨(some 5), (.op (.mv (.t 20))), none⟩])
  (.seq
  (.ops [] [
  ⟨(some 21), (.op (.mv (.t 8))), none⟩,
  ⟨(some 22), (.op (.bin .lss (.t 21) (.k (.int .u8 128)))), none⟩,
  ⟨(some 6), (.op (.mv (.t 22))), none⟩])
  (.seq
  (.seq
  (.ops [] [
  ⟨(some 23), (.op (.mv (.t 5))), none⟩,
  ⟨(some 24), (.op (.bin .shr (.t 23) (.k (.int .u64 40)))), none⟩,
  ⟨(some 25), (.op (.bin .neq (.t 24) (.k (.int .u64 0)))), none⟩])
  (.cond (.t 25)
  (.seq
  (.ops [] [
  ⟨(some 2), (.op (.mv (.k (.slice none 0 0)))), none⟩,
  ⟨(some 3), (.op (.mv (.k (.bool false)))), none⟩])
  .ret)
  .skip))
  (.seq
  (.ops [] [
  ⟨(some 26), (.op (.mv (.t 6))), none⟩])
  (.cond (.t 26)
  (.seq
  (.ops [] [
  ⟨(some 27), (.op (.mv (.t 4))), none⟩,
  ⟨(some 28), (.op (.mv (.t 5))), none⟩,
  ⟨(some 29), (.op (.mkSl 1 [(.int .u64 0)] [(0, (1, (.t 28)))])), none⟩,
  ⟨(some 30), (.op (.append 1 8 (.t 27) (.t 29))), none⟩,
  ⟨(some 4), (.op (.mv (.t 30))), none⟩])
  (.ops [] [
  ⟨(some 5), (.op (.mv (.k (.int .u64 0)))), none⟩]))
  .skip)))))))
  (.ops [] [
  ⟨(some 31), (.op (.bin .add (.t 11) (.k (.int .i64 1)))), none⟩,
  ⟨(some 11), (.op (.mv (.t 31))), none⟩])))))))
  (.seq
  (.ops [] [
  ⟨(some 32), (.op (.mv (.t 4))), none⟩,
  ⟨(some 33), (.op (.mv (.t 6))), none⟩,
  ⟨(some 34), (.op (.mv (.t 33))), none⟩,
  ⟨(some 35), (.op (.mv (.t 4))), (some (34, true))⟩,
  ⟨(some 36), (.op (.lenSl (.t 35))), (some (34, true))⟩,
  ⟨(some 37), (.op (.bin .gtr (.t 36) (.k (.int .i64 0)))), (some (34, true))⟩,
  ⟨(some 38), (.op (.pick (.t 34) (.t 37) (.k (.bool false)))), none⟩,
  ⟨(some 2), (.op (.mv (.t 32))), none⟩,
  ⟨(some 3), (.op (.mv (.t 38))), none⟩])
  .ret))))),
  [(.t 2), (.t 3)]⟩
theorem r_scalar_numbers : resolveFn Tryd.prog 58 = some c_scalar_numbers := by kernel_rfl

def c_scalar_just___uint32_ : RFn :=
  ⟨31,
  (.seq
  (.ops [] [
  ⟨(some 6), (.op (.box (.t 2))), none⟩,
  ⟨(some 8), (.op (.mv (.k (.slice none 0 0)))), none⟩,
  ⟨(some 9), (.op (.mv (.k (.int .i64 0)))), none⟩])
  (.seq
  (.ops [] [
  ⟨(some 10), (.op (.mv (.k (.slice none 0 0)))), none⟩])
  (.seq
  (.seq
  (.ops [] [
  ⟨(some 13), (.op (.mv (.t 1))), none⟩,
  ⟨(some 14), (.op (.un .not (.t 13))), none⟩])
  (.cond (.t 14)
  (.seq
  (.ops [] [
  ⟨(some 15), (.op (.mv (.t 10))), none⟩,
  ⟨(some 8), (.op (.mv (.t 15))), none⟩,
  ⟨(some 9), (.op (.mv (.k (.int .i64 2)))), none⟩])
  .ret)
  .skip))
  (.seq
  (.seq
  (.ops [] [
  ⟨(some 17), (.op (.mv (.t 3))), none⟩,
  ⟨(some 18), (.call (.t 17) []), none⟩,
  ⟨(some 16), (.op (.mv (.t 18))), none⟩,
  ⟨(some 19), (.op (.extract (.t 16) 0)), none⟩,
  ⟨(some 20), (.op (.extract (.t 16) 1)), none⟩,
  ⟨(some 11), (.op (.new [(.int .i64 0), (.slice none 0 0), (.slice none 0 0)])), none⟩,
  ⟨none, (.op (.store 3 (.t 11) (.t 19))), none⟩,
  ⟨(some 12), (.op (.mv (.t 20))), none⟩])
  (.seq
  (.ops [] [
  ⟨(some 21), (.op (.mv (.t 12))), none⟩,
  ⟨(some 22), (.op (.bin .neq (.t 21) (.k (.int .i64 0)))), none⟩,
  ⟨(some 23), (.op (.mv (.t 22))), none⟩,
  ⟨(some 24), (.op (.loadN 3 (.t 11))), (some (23, false))⟩,
  ⟨(some 25), (.op (.loadN 3 (.t 6))), (some (23, false))⟩,
  ⟨(some 26), (.call (.k (.func (.func 75) #[] #[])) [(.t 24), (.t 25)]), (some (23, false))⟩,
  ⟨(some 27), (.op (.un .not (.t 26))), (some (23, false))⟩,
  ⟨(some 28), (.op (.pick (.t 23) (.k (.bool true)) (.t 27))), none⟩])
  (.cond (.t 28)
  (.seq
  (.ops [] [
  ⟨(some 29), (.op (.mv (.t 10))), none⟩,
  ⟨(some 8), (.op (.mv (.t 29))), none⟩,
  ⟨(some 9), (.op (.mv (.k (.int .i64 2)))), none⟩])
  .ret)
  .skip)))
  (.seq
  (.ops [] [
  ⟨(some 30), (.op (.mv (.t 0))), none⟩,
  ⟨(some 8), (.op (.mv (.t 30))), none⟩,
  ⟨(some 9), (.op (.mv (.k (.int .i64 0)))), none⟩])
  .ret))))),
  [(.t 8), (.t 9)]⟩
theorem r_scalar_just___uint32_ : resolveFn Tryd.prog 59 = some c_scalar_just___uint32_ := by kernel_rfl

def c_scalar_Arcs_1 : RFn :=
  ⟨7,
  (.seq
  (.ops [] [
  ⟨(some 1), (.op (.new [(.int .i64 0), (.slice none 0 0), (.slice none 0 0)])), none⟩,
  ⟨(some 2), (.op (.mv (.k (.int .i64 0)))), none⟩])
  (.seq
  (.ops [] [
  ⟨(some 3), (.op (.load1 (.t 0))), none⟩,
  ⟨(some 4), (.call (.k (.func (.func 28) #[] #[])) [(.t 3)]), none⟩,
  ⟨(some 5), (.op (.extract (.t 4) 0)), none⟩,
  ⟨(some 6), (.op (.extract (.t 4) 1)), none⟩,
  ⟨none, (.op (.store 3 (.t 1) (.t 5))), none⟩,
  ⟨(some 2), (.op (.mv (.t 6))), none⟩])
  .ret)),
  [(.cN 1 3), (.t 2)]⟩
theorem r_scalar_Arcs_1 : resolveFn Tryd.prog 60 = some c_scalar_Arcs_1 := by kernel_rfl

def c_lanyardlaw05_ScalarNames : RFn :=
  ⟨71,
  (.seq
  (.ops [] [
  ⟨(some 3), (.op (.box (.t 1))), none⟩,
  ⟨(some 4), (.op (.mv (.k (.bool false)))), none⟩])
  (.seq
  (.ops [] [
  ⟨(some 17), (.call (.k (.func (.func 9) #[] #[])) []), none⟩,
  ⟨(some 5), (.op (.mv (.t 17))), none⟩])
  (.seq
  (.ops [] [
  ⟨(some 18), (.op (.loadN 3 (.t 3))), none⟩,
  ⟨(some 19), (.call (.k (.func (.func 10) #[] #[])) [(.t 18)]), none⟩,
  ⟨(some 6), (.op (.mv (.t 19))), none⟩])
  (.seq
  (.seq
  (.ops [] [
  ⟨(some 20), (.op (.mv (.t 6))), none⟩,
  ⟨(some 21), (.op (.un .not (.t 20))), none⟩,
  ⟨(some 22), (.op (.mv (.t 21))), none⟩,
  ⟨(some 23), (.op (.mv (.t 0))), (some (22, false))⟩,
  ⟨(some 24), (.op (.lenSl (.t 23))), (some (22, false))⟩,
  ⟨(some 25), (.op (.bin .gtr (.t 24) (.k (.int .i64 100)))), (some (22, false))⟩,
  ⟨(some 26), (.op (.pick (.t 22) (.k (.bool true)) (.t 25))), none⟩])
  (.cond (.t 26)
  (.seq
  (.ops [] [
  ⟨(some 27), (.op (.mv (.t 5))), none⟩,
  ⟨(some 4), (.op (.mv (.t 27))), none⟩])
  .ret)
  .skip))
  (.seq
  (.ops [] [
  ⟨(some 29), (.op (.mv (.t 0))), none⟩,
  ⟨(some 30), (.call (.k (.func (.func 28) #[] #[])) [(.t 29)]), none⟩,
  ⟨(some 28), (.op (.mv (.t 30))), none⟩,
  ⟨(some 31), (.op (.extract (.t 28) 0)), none⟩,
  ⟨(some 32), (.op (.extract (.t 28) 1)), none⟩,
  ⟨(some 7), (.op (.new [(.int .i64 0), (.slice none 0 0), (.slice none 0 0)])), none⟩,
  ⟨none, (.op (.store 3 (.t 7) (.t 31))), none⟩,
  ⟨(some 8), (.op (.mv (.t 32))), none⟩])
  (.seq
  (.ops [] [
  ⟨(some 34), (.op (.mv (.t 0))), none⟩,
  ⟨(some 35), (.call (.k (.func (.func 29) #[] #[])) [(.t 34)]), none⟩,
  ⟨(some 33), (.op (.mv (.t 35))), none⟩,
  ⟨(some 36), (.op (.extract (.t 33) 0)), none⟩,
  ⟨(some 37), (.op (.extract (.t 33) 1)), none⟩,
  ⟨(some 9), (.op (.new [(.int .i64 0), (.slice none 0 0), (.slice none 0 0)])), none⟩,
  ⟨none, (.op (.store 3 (.t 9) (.t 36))), none⟩,
  ⟨(some 10), (.op (.mv (.t 37))), none⟩])
  (.seq
  (.ops [] [
  ⟨(some 38), (.op (.loadN 3 (.t 7))), none⟩,
  ⟨(some 39), (.op (.loadN 3 (.t 9))), none⟩,
  ⟨(some 40), (.call (.k (.func (.func 11) #[] #[])) [(.t 38), (.t 39)]), none⟩,
  ⟨(some 11), (.op (.mv (.t 40))), none⟩])
  (.seq
  (.ops [] [
  ⟨(some 42), (.op (.loadN 3 (.t 3))), none⟩,
  ⟨(some 43), (.call (.k (.func (.func 30) #[] #[])) [(.t 42)]), none⟩,
  ⟨(some 41), (.op (.mv (.t 43))), none⟩,
  ⟨(some 44), (.op (.extract (.t 41) 0)), none⟩,
  ⟨(some 45), (.op (.extract (.t 41) 1)), none⟩,
  ⟨(some 12), (.op (.mv (.t 44))), none⟩,
  ⟨(some 13), (.op (.mv (.t 45))), none⟩])
  (.seq
  (.ops [] [
  ⟨(some 47), (.op (.loadN 3 (.t 3))), none⟩,
  ⟨(some 48), (.call (.k (.func (.func 31) #[] #[])) [(.t 47)]), none⟩,
  ⟨(some 46), (.op (.mv (.t 48))), none⟩,
  ⟨(some 49), (.op (.extract (.t 46) 0)), none⟩,
  ⟨(some 50), (.op (.extract (.t 46) 1)), none⟩,
  ⟨(some 14), (.op (.mv (.t 49))), none⟩,
  ⟨(some 15), (.op (.mv (.t 50))), none⟩])
  (.seq
  (.ops [] [
  ⟨(some 51), (.op (.mv (.t 12))), none⟩,
  ⟨(some 52), (.op (.mv (.t 14))), none⟩,
  ⟨(some 53), (.call (.k (.func (.func 32) #[] #[])) [(.t 51), (.t 52)]), none⟩,
  ⟨(some 16), (.op (.mv (.t 53))), none⟩])
  (.seq
  (.ops [] [
  ⟨(some 54), (.op (.mv (.t 5))), none⟩,
  ⟨(some 55), (.op (.mv (.t 54))), none⟩,
  ⟨(some 56), (.op (.mv (.t 11))), (some (55, true))⟩,
  ⟨(some 57), (.op (.pick (.t 55) (.t 56) (.k (.bool false)))), none⟩,
  ⟨(some 58), (.op (.mv (.t 57))), none⟩,
  ⟨(some 59), (.op (.mv (.t 8))), (some (58, true))⟩,
  ⟨(some 60), (.op (.mv (.t 10))), (some (58, true))⟩,
  ⟨(some 61), (.op (.bin .eql (.t 59) (.t 60))), (some (58, true))⟩,
  ⟨(some 62), (.op (.pick (.t 58) (.t 61) (.k (.bool false)))), none⟩,
  ⟨(some 63), (.op (.mv (.t 62))), none⟩,
  ⟨(some 64), (.op (.mv (.t 16))), (some (63, true))⟩,
  ⟨(some 65), (.op (.pick (.t 63) (.t 64) (.k (.bool false)))), none⟩,
  ⟨(some 66), (.op (.mv (.t 65))), none⟩,
  ⟨(some 67), (.op (.mv (.t 13))), (some (66, true))⟩,
  ⟨(some 68), (.op (.mv (.t 15))), (some (66, true))⟩,
  ⟨(some 69), (.op (.bin .eql (.t 67) (.t 68))), (some (66, true))⟩,
  ⟨(some 70), (.op (.pick (.t 66) (.t 69) (.k (.bool false)))), none⟩,
  ⟨(some 4), (.op (.mv (.t 70))), none⟩])
  .ret))))))))))),
  [(.t 4)]⟩
def c_lanyardlaw05_ScalarBack : RFn :=
  ⟨133,
  (.seq
  (.ops [] [
  ⟨(some 6), (.op (.mv (.k (.bool false)))), none⟩])
  (.seq
  (.ops [] [
  ⟨(some 22), (.call (.k (.func (.func 9) #[] #[])) []), none⟩,
  ⟨(some 7), (.op (.mv (.t 22))), none⟩])
  (.seq
  (.seq
  (.ops [] [
  ⟨(some 23), (.op (.mv (.t 1))), none⟩,
  ⟨(some 24), (.op (.lenSl (.t 23))), none⟩,
  ⟨(some 25), (.op (.bin .gtr (.t 24) (.k (.int .i64 100)))), none⟩,
  ⟨(some 26), (.op (.mv (.t 25))), none⟩,
  ⟨(some 27), (.op (.mv (.t 2))), (some (26, false))⟩,
  ⟨(some 28), (.op (.lenSl (.t 27))), (some (26, false))⟩,
  ⟨(some 29), (.op (.bin .gtr (.t 28) (.k (.int .i64 500)))), (some (26, false))⟩,
  ⟨(some 30), (.op (.pick (.t 26) (.k (.bool true)) (.t 29))), none⟩])
  (.cond (.t 30)
  (.seq
  (.ops [] [
  ⟨(some 31), (.op (.mv (.t 7))), none⟩,
  ⟨(some 6), (.op (.mv (.t 31))), none⟩])
  .ret)
  .skip))
  (.seq
  (.ops [] [
  ⟨(some 33), (.op (.mv (.t 0))), none⟩,
  ⟨(some 34), (.call (.k (.func (.func 12) #[] #[])) [(.t 33)]), none⟩,
  ⟨(some 35), (.call (.k (.func (.func 16) #[] #[])) [(.t 34)]), none⟩,
  ⟨(some 32), (.op (.mv (.t 35))), none⟩,
  ⟨(some 36), (.op (.extract (.t 32) 0)), none⟩,
  ⟨(some 37), (.op (.extract (.t 32) 1)), none⟩,
  ⟨(some 8), (.op (.mv (.t 36))), none⟩,
  ⟨(some 9), (.op (.mv (.t 37))), none⟩])
  (.seq
  (.seq
  (.ops [] [
  ⟨(some 38), (.op (.mv (.t 9))), none⟩,
  ⟨(some 39), (.op (.bin .neq (.t 38) (.k (.int .i64 0)))), none⟩,
  ⟨(some 40), (.op (.mv (.t 39))), none⟩,
  ⟨(some 41), (.op (.mv (.t 8))), (some (40, false))⟩,
  ⟨(some 42), (.op (.mv (.t 0))), (some (40, false))⟩,
  ⟨(some 43), (.op (.bin .neq (.t 41) (.t 42))), (some (40, false))⟩,
  ⟨(some 44), (.op (.pick (.t 40) (.k (.bool true)) (.t 43))), none⟩])
  (.cond (.t 44)
  (.seq
  (.ops [] [
  ⟨(some 6), (.op (.mv (.k (.bool false)))), none⟩])
  .ret)
  .skip))
  (.seq
  (.ops [] [
  ⟨(some 46), (.op (.mv (.t 1))), none⟩,
  ⟨(some 47), (.call (.k (.func (.func 28) #[] #[])) [(.t 46)]), none⟩,
  ⟨(some 45), (.op (.mv (.t 47))), none⟩,
  ⟨(some 48), (.op (.extract (.t 45) 0)), none⟩,
  ⟨(some 49), (.op (.extract (.t 45) 1)), none⟩,
  ⟨(some 10), (.op (.new [(.int .i64 0), (.slice none 0 0), (.slice none 0 0)])), none⟩,
  ⟨none, (.op (.store 3 (.t 10) (.t 48))), none⟩,
  ⟨(some 11), (.op (.mv (.t 49))), none⟩])
  (.seq
  (.seq
  (.ops [] [
  ⟨(some 50), (.op (.mv (.t 11))), none⟩,
  ⟨(some 51), (.op (.bin .eql (.t 50) (.k (.int .i64 0)))), none⟩])
  (.cond (.t 51)
  (.seq
  (.ops [] [
  ⟨(some 53), (.op (.loadN 3 (.t 10))), none⟩,
  ⟨(some 54), (.call (.k (.func (.func 30) #[] #[])) [(.t 53)]), none⟩,
  ⟨(some 52), (.op (.mv (.t 54))), none⟩,
  ⟨(some 55), (.op (.extract (.t 52) 0)), none⟩,
  ⟨(some 56), (.op (.extract (.t 52) 1)), none⟩,
  ⟨(some 12), (.op (.mv (.t 55))), none⟩,
  ⟨(some 13), (.op (.mv (.t 56))), none⟩])
  (.seq
  (.ops [] [
  ⟨(some 57), (.op (.mv (.t 12))), none⟩,
  ⟨(some 58), (.op (.mv (.t 1))), none⟩,
  ⟨(some 59), (.call (.k (.func (.func 32) #[] #[])) [(.t 57), (.t 58)]), none⟩,
  ⟨(some 14), (.op (.mv (.t 59))), none⟩])
  (.seq
  (.ops [] [
  ⟨(some 60), (.op (.mv (.t 13))), none⟩,
  ⟨(some 61), (.op (.bin .neq (.t 60) (.k (.int .i64 0)))), none⟩,
  ⟨(some 62), (.op (.mv (.t 61))), none⟩,
  ⟨(some 63), (.op (.mv (.t 14))), (some (62, false))⟩,
  ⟨(some 64), (.op (.un .not (.t 63))), (some (62, false))⟩,
  ⟨(some 65), (.op (.pick (.t 62) (.k (.bool true)) (.t 64))), none⟩])
  (.cond (.t 65)
  (.seq
  (.ops [] [
  ⟨(some 6), (.op (.mv (.k (.bool false)))), none⟩])
  .ret)
  .skip))))
  .skip))
  (.seq
  (.ops [] [
  ⟨(some 67), (.op (.mv (.t 2))), none⟩,
  ⟨(some 68), (.op (.mv (.t 2))), none⟩,
  ⟨(some 69), (.op (.lenSl (.t 68))), none⟩,
  ⟨(some 70), (.op (.bin .mul (.k (.int .i64 8)) (.t 69))), none⟩,
  ⟨(some 71), (.call (.k (.func (.func 20) #[] #[])) [(.t 67), (.t 70)]), none⟩,
  ⟨(some 66), (.op (.mv (.t 71))), none⟩,
  ⟨(some 72), (.op (.extract (.t 66) 0)), none⟩,
  ⟨(some 73), (.op (.extract (.t 66) 1)), none⟩,
  ⟨(some 15), (.op (.new [(.int .i64 0), (.slice none 0 0), (.slice none 0 0)])), none⟩,
  ⟨none, (.op (.store 3 (.t 15) (.t 72))), none⟩,
  ⟨(some 16), (.op (.mv (.t 73))), none⟩])
  (.seq
  (.ops [] [
  ⟨(some 75), (.op (.loadN 3 (.t 15))), none⟩,
  ⟨(some 76), (.call (.k (.func (.func 22) #[] #[])) [(.t 75)]), none⟩,
  ⟨(some 74), (.op (.mv (.t 76))), none⟩,
  ⟨(some 77), (.op (.extract (.t 74) 0)), none⟩,
  ⟨(some 78), (.op (.extract (.t 74) 1)), none⟩,
  ⟨(some 79), (.op (.extract (.t 74) 2)), none⟩,
  ⟨(some 17), (.op (.mv (.t 77))), none⟩,
  ⟨(some 18), (.op (.mv (.t 78))), none⟩,
  ⟨(some 19), (.op (.mv (.t 79))), none⟩])
  (.seq
  (.ops [] [
  ⟨(some 81), (.op (.mv (.t 2))), none⟩,
  ⟨(some 82), (.call (.k (.func (.func 14) #[] #[])) [(.t 81)]), none⟩,
  ⟨(some 83), (.call (.k (.func (.func 18) #[] #[])) [(.t 82)]), none⟩,
  ⟨(some 80), (.op (.mv (.t 83))), none⟩,
  ⟨(some 84), (.op (.extract (.t 80) 0)), none⟩,
  ⟨(some 85), (.op (.extract (.t 80) 1)), none⟩,
  ⟨(some 20), (.op (.mv (.t 84))), none⟩,
  ⟨(some 21), (.op (.mv (.t 85))), none⟩])
  (.seq
  (.ops [
  ⟨(some 86), (.op (.mv (.t 7))), none⟩,
  ⟨(some 87), (.op (.mv (.t 86))), none⟩,
  ⟨(some 88), (.op (.mv (.t 16))), (some (87, true))⟩,
  ⟨(some 89), (.op (.bin .eql (.t 88) (.k (.int .i64 0)))), (some (87, true))⟩,
  ⟨(some 90), (.op (.pick (.t 87) (.t 89) (.k (.bool false)))), none⟩,
  ⟨(some 91), (.op (.mv (.t 90))), none⟩,
  ⟨(some 92), (.op (.mv (.t 19))), (some (91, true))⟩,
  ⟨(some 93), (.op (.bin .eql (.t 92) (.k (.int .i64 0)))), (some (91, true))⟩,
  ⟨(some 94), (.op (.pick (.t 91) (.t 93) (.k (.bool false)))), none⟩,
  ⟨(some 95), (.op (.mv (.t 94))), none⟩,
  ⟨(some 96), (.op (.mv (.t 18))), (some (95, true))⟩,
  ⟨(some 97), (.op (.mv (.t 2))), (some (95, true))⟩,
  ⟨(some 98), (.op (.lenSl (.t 97))), (some (95, true))⟩,
  ⟨(some 99), (.op (.bin .mul (.k (.int .i64 8)) (.t 98))), (some (95, true))⟩,
  ⟨(some 100), (.op (.bin .eql (.t 96) (.t 99))), (some (95, true))⟩,
  ⟨(some 101), (.op (.pick (.t 95) (.t 100) (.k (.bool false)))), none⟩,
  ⟨(some 102), (.op (.mv (.t 101))), none⟩,
  ⟨(some 103), (.op (.mv (.t 17))), (some (102, true))⟩,
  ⟨(some 104), (.op (.b2s (.t 103))), (some (102, true))⟩,
  ⟨(some 105), (.op (.mv (.t 2))), (some (102, true))⟩,
  ⟨(some 106), (.op (.b2s (.t 105))), (some (102, true))⟩,
  ⟨(some 107), (.op (.bin .eql (.t 104) (.t 106))), (some (102, true))⟩,
  ⟨(some 108), (.op (.pick (.t 102) (.t 107) (.k (.bool false)))), none⟩,
  ⟨(some 109), (.op (.mv (.t 108))), none⟩,
  ⟨(some 110), (.op (.mv (.t 21))), (some (109, true))⟩,
  ⟨(some 111), (.op (.bin .eql (.t 110) (.k (.int .i64 0)))), (some (109, true))⟩,
  ⟨(some 112), (.op (.pick (.t 109) (.t 111) (.k (.bool false)))), none⟩,
  ⟨(some 113), (.op (.mv (.t 112))), none⟩,
  ⟨(some 114), (.op (.mv (.t 20))), (some (113, true))⟩,
  ⟨(some 115), (.op (.lenSl (.t 114))), (some (113, true))⟩,
  ⟨(some 116), (.op (.mv (.t 2))), (some (113, true))⟩,
  ⟨(some 117), (.op (.lenSl (.t 116))), (some (113, true))⟩,
  ⟨(some 118), (.op (.bin .leq (.t 115) (.t 117))), (some (113, true))⟩,
  ⟨(some 119), (.op (.pick (.t 113) (.t 118) (.k (.bool false)))), none⟩,
  ⟨(some 120), (.op (.mv (.t 119))), none⟩,
  ⟨(some 121), (.op (.mv (.t 2))), (some (120, true))⟩,
  ⟨(some 122), (.op (.mv (.t 2))), (some (120, true))⟩,
  ⟨(some 123), (.op (.lenSl (.t 122))), (some (120, true))⟩,
  ⟨(some 124), (.op (.mv (.t 20))), (some (120, true))⟩,
  ⟨(some 125), (.op (.lenSl (.t 124))), (some (120, true))⟩,
  ⟨(some 126), (.op (.bin .sub (.t 123) (.t 125))), (some (120, true))⟩,
  ⟨(some 127), (.op (.sl 1 (.t 121) (some (.t 126)) none none)), (some (120, true))⟩,
  ⟨(some 128), (.op (.b2s (.t 127))), (some (120, true))⟩,
  ⟨(some 129), (.op (.mv (.t 20))), (some (120, true))⟩,
  ⟨(some 130), (.op (.b2s (.t 129))), (some (120, true))⟩] [
  ⟨(some 131), (.op (.bin .eql (.t 128) (.t 130))), (some (120, true))⟩,
  ⟨(some 132), (.op (.pick (.t 120) (.t 131) (.k (.bool false)))), none⟩,
  ⟨(some 6), (.op (.mv (.t 132))), none⟩])
  .ret))))))))))),
  [(.t 6)]⟩
theorem r_lanyardlaw05_ScalarBack : resolveFn Tryd.prog 6 = some c_lanyardlaw05_ScalarBack := by kernel_rfl

end Go.Ga

/- The document's object names. -/
namespace Go.Ga
open Go Go.Proofs
set_option linter.unusedSimpArgs false
set_option linter.unusedVariables false
set_option maxRecDepth 100000
attribute [local irreducible] appendK

section
variable {nx : Nat} {gt : Nat → Option Blk}

end
end Go.Ga

/- What bytes say of an object's name: plain. -/
namespace Go.Ga
open Go Go.Proofs

def nums : List UInt8 → Nat → List Nat → Bool → Option (List Nat × Bool)
  | [], _, out, ends => some (out, ends)
  | c :: t, n, out, _ => if 1099511627776 ≤ n * 128 + c.toNat % 128 then none else if c.toNat < 128 then nums t 0 (out ++ [n * 128 + c.toNat % 128]) true else nums t (n * 128 + c.toNat % 128) out false
def ao : List Nat → List UInt32
  | [] => []
  | x :: t => UInt32.ofNat (min (x / 40) 2) :: UInt32.ofNat (x - 40 * min (x / 40) 2) :: t.map UInt32.ofNat
def okA : List Nat → Bool
  | [] => true
  | x :: t => decide (x - 40 * min (x / 40) 2 < 4294967296) && t.all fun y => decide (y < 4294967296)
theorem ao_snoc {L : List Nat} {y : Nat} (h : L ≠ []) : ao (L ++ [y]) = ao L ++ [UInt32.ofNat y] := by
  cases L with
  | nil => exact absurd rfl h
  | cons x t => simp [ao]
theorem okA_snoc {L : List Nat} {y : Nat} (h : L ≠ []) : okA (L ++ [y]) = (okA L && decide (y < 4294967296)) := by
  cases L with
  | nil => exact absurd rfl h
  | cons x t => simp [okA, List.all_append, Bool.and_assoc]
theorem ao_len {L : List Nat} : (ao L).length ≤ L.length + 1 := by
  cases L with
  | nil => simp [ao]
  | cons x t => simp [ao]
theorem ofNat_mod (k : Nat) (h : k < 128) : (UInt8.ofNat (k + 128)).toNat = k + 128 := by
  rw [UInt8.toNat_ofNat']; omega

theorem nums_sg : ∀ k, k < 1099511627776 → ∀ r out e, nums ((sg k).reverse ++ r) 0 out e = nums r k out (if k = 0 then e else false) := by
  intro k
  induction k using Nat.strongRecOn with
  | ind k ih =>
    intro hk r out e
    by_cases h0 : k = 0
    · subst h0; rw [sg_0, if_pos rfl]; rfl
    · rw [sg_s h0, List.reverse_cons, List.append_assoc, ih (k / 128) (by omega) (by omega), if_neg h0]
      show nums (UInt8.ofNat (k % 128 + 128) :: r) _ _ _ = _
      have e1 := ofNat_mod (k % 128) (by omega)
      simp only [nums, e1]
      have e2 : k / 128 * 128 + (k % 128 + 128) % 128 = k := by omega
      rw [e2, if_neg (by omega), if_neg (by omega)]
theorem nums_sv {m : Nat} (hm : m < 1099511627776) (r : List UInt8) (out : List Nat) (e : Bool) : nums (sv m ++ r) 0 out e = nums r 0 (out ++ [m]) true := by
  unfold sv le7
  rw [List.reverse_cons, List.append_assoc, nums_sg _ (by omega)]
  show nums (UInt8.ofNat (m % 128) :: r) _ _ _ = _
  have e1 : (UInt8.ofNat (m % 128)).toNat = m % 128 := by rw [UInt8.toNat_ofNat']; omega
  simp only [nums, e1]
  have e2 : m / 128 * 128 + m % 128 % 128 = m := by omega
  rw [e2, if_neg (by omega), if_pos (by omega)]
theorem nums_svs (t : List UInt32) : ∀ out, nums (svs t) 0 out true = some (out ++ t.map (·.toNat), true) := by
  induction t with
  | nil => intro out; simp [svs, nums]
  | cons x t ih =>
    intro out
    have := x.toNat_lt
    show nums (sv x.toNat ++ svs t) 0 out true = _
    rw [nums_sv (by omega), ih]; simp
theorem oid_parts {l : List UInt32} (h : oidOk l = true) : ∃ a b t, l = a :: b :: t ∧ t.length ≤ 18 ∧ a.toNat ≤ 2 ∧ b.toNat ≤ 4294967200 ∧ (a.toNat = 2 ∨ b.toNat ≤ 39) := by
  match l, h with
  | [], h => simp [oidOk] at h
  | [_], h => simp [oidOk] at h
  | a :: b :: t, h =>
    simp only [oidOk, Bool.and_eq_true, Bool.or_eq_true, decide_eq_true_eq] at h
    exact ⟨a, b, t, rfl, h.1.1.1, h.1.1.2, h.1.2, h.2⟩
theorem nums_oid {l : List UInt32} (h : oidOk l = true) : ∃ L, nums (oidB l) 0 [] true = some (L, true) ∧ L ≠ [] ∧ ao L = l ∧ okA L = true := by
  obtain ⟨a, b, t, rfl, h1, h2, h3, h4⟩ := oid_parts h
  refine ⟨(a.toNat * 40 + b.toNat) :: t.map (·.toNat), ?_, by simp, ?_, ?_⟩
  · show nums (sv (a.toNat * 40 + b.toNat) ++ svs t) 0 [] true = _
    rw [nums_sv (by omega), nums_svs]; rfl
  · have e1 : min ((a.toNat * 40 + b.toNat) / 40) 2 = a.toNat := by omega
    simp only [ao, e1]
    have e2 : a.toNat * 40 + b.toNat - 40 * a.toNat = b.toNat := by omega
    rw [e2, UInt32.ofNat_toNat, UInt32.ofNat_toNat, List.map_map]
    congr 2
    conv => rhs; rw [← List.map_id t]
    exact List.map_congr_left fun x _ => UInt32.ofNat_toNat
  · have e1 : min ((a.toNat * 40 + b.toNat) / 40) 2 = a.toNat := by omega
    simp only [okA, e1]
    have e2 : a.toNat * 40 + b.toNat - 40 * a.toNat = b.toNat := by omega
    have := b.toNat_lt
    rw [e2, decide_eq_true (by omega), Bool.true_and, List.all_eq_true]
    intro x hx
    obtain ⟨y, _, rfl⟩ := List.mem_map.1 hx
    have := y.toNat_lt
    exact decide_eq_true (by omega)

def rar : List UInt8 → Nat → List UInt32 → Option (List UInt32)
  | [], _, l => some l
  | c :: t, x, l =>
    if 128 ≤ c.toNat then rar t (x % 144115188075855872 * 128 + c.toNat % 128) l
    else if l = [] then
      (if 4294967295 < x % 144115188075855872 * 128 + c.toNat % 128 - 40 * min ((x % 144115188075855872 * 128 + c.toNat % 128) / 40) 2 then none
       else rar t 0 [UInt32.ofNat (min ((x % 144115188075855872 * 128 + c.toNat % 128) / 40) 2), UInt32.ofNat (x % 144115188075855872 * 128 + c.toNat % 128 - 40 * min ((x % 144115188075855872 * 128 + c.toNat % 128) / 40) 2)])
    else if 4294967295 < x % 144115188075855872 * 128 + c.toNat % 128 ∨ 20 < l.length then none
    else rar t 0 (l ++ [UInt32.ofNat (x % 144115188075855872 * 128 + c.toNat % 128)])
theorem rar_sg : ∀ k, k < 1099511627776 → ∀ r l, rar ((sg k).reverse ++ r) 0 l = rar r k l := by
  intro k
  induction k using Nat.strongRecOn with
  | ind k ih =>
    intro hk r out
    by_cases h0 : k = 0
    · subst h0; rw [sg_0]; rfl
    · rw [sg_s h0, List.reverse_cons, List.append_assoc, ih (k / 128) (by omega) (by omega)]
      show rar (UInt8.ofNat (k % 128 + 128) :: r) _ _ = _
      have e1 := ofNat_mod (k % 128) (by omega)
      simp only [rar, e1]
      have e2 : k / 128 % 144115188075855872 * 128 + (k % 128 + 128) % 128 = k := by omega
      rw [e2, if_pos (by omega)]
theorem rar_sv {m : Nat} (hm : m < 1099511627776) (r : List UInt8) (l : List UInt32) : rar (sv m ++ r) 0 l = if l = [] then (if 4294967295 < m - 40 * min (m / 40) 2 then none else rar r 0 [UInt32.ofNat (min (m / 40) 2), UInt32.ofNat (m - 40 * min (m / 40) 2)]) else if 4294967295 < m ∨ 20 < l.length then none else rar r 0 (l ++ [UInt32.ofNat m]) := by
  unfold sv le7
  rw [List.reverse_cons, List.append_assoc, rar_sg _ (by omega)]
  show rar (UInt8.ofNat (m % 128) :: r) _ _ = _
  have e1 : (UInt8.ofNat (m % 128)).toNat = m % 128 := by rw [UInt8.toNat_ofNat']; omega
  simp only [rar, e1]
  have e2 : m / 128 % 144115188075855872 * 128 + m % 128 % 128 = m := by omega
  rw [e2, if_neg (by omega)]
theorem rar_svs (t : List UInt32) : ∀ l, l ≠ [] → l.length + t.length ≤ 20 → rar (svs t) 0 l = some (l ++ t) := by
  induction t with
  | nil => intro l _ _; simp [svs, rar]
  | cons x t ih =>
    intro l hl hn
    have := x.toNat_lt
    simp only [List.length_cons] at hn
    show rar (sv x.toNat ++ svs t) 0 l = _
    rw [rar_sv (by omega), if_neg hl, if_neg (by omega), UInt32.ofNat_toNat, ih _ (by simp) (by simp; omega)]; simp
theorem rar_oid {l : List UInt32} (h : oidOk l = true) : rar (oidB l) 0 [] = some l := by
  obtain ⟨a, b, t, rfl, h1, h2, h3, h4⟩ := oid_parts h
  have e1 : min ((a.toNat * 40 + b.toNat) / 40) 2 = a.toNat := by omega
  have e2 : a.toNat * 40 + b.toNat - 40 * a.toNat = b.toNat := by omega
  show rar (sv (a.toNat * 40 + b.toNat) ++ svs t) 0 [] = _
  rw [rar_sv (by omega), if_pos rfl, e1, e2, if_neg (by omega), UInt32.ofNat_toNat, UInt32.ofNat_toNat, rar_svs t _ (by simp) (by simp; omega)]; rfl

theorem oidR_ok {l : List UInt32} {y : Fo.El} (h : oidR l = .ok y) : oidOk l = true ∧ y = ⟨6, oidB l, .nil⟩ := by
  unfold oidR at h
  split at h
  · injection h with h; exact ⟨by assumption, h.symm⟩
  · cases h
theorem oidR_one {l k : List UInt32} {y : Fo.El} (h : oidR l = .ok y) (h' : oidR k = .ok y) : l = k := by
  obtain ⟨h1, h2⟩ := oidR_ok h
  obtain ⟨h3, h4⟩ := oidR_ok h'
  have e : oidB l = oidB k := by rw [h2] at h4; injection h4
  have := rar_oid h1
  rw [e, rar_oid h3] at this
  injection this with this; exact this.symm
/-- The numbers of an element; or an error. -/
noncomputable def arcsR (x : Fo.El) : List UInt32 × Nat := open Classical in if h : ∃ l, oidR l = .ok x then (h.choose, 0) else ([], 2)
theorem arcsR_ok {x : Fo.El} {l : List UInt32} (h : oidR l = .ok x) : arcsR x = (l, 0) := by
  have hx : ∃ l, oidR l = .ok x := ⟨l, h⟩
  unfold arcsR
  rw [dif_pos hx, oidR_one hx.choose_spec h]
theorem arcsR_no {x : Fo.El} (h : ∀ l, ¬ oidR l = .ok x) : arcsR x = ([], 2) := dif_neg fun ⟨l, hl⟩ => h l hl
theorem oidB_len {l : List UInt32} (h : oidOk l = true) : (oidB l).length ≤ 200 := by
  obtain ⟨a, b, t, rfl, h1, h2, h3, h4⟩ := oid_parts h
  have := sv_len (n := a.toNat * 40 + b.toNat) (by omega)
  have h5 := svs_len t
  show (sv (a.toNat * 40 + b.toNat) ++ svs t).length ≤ _
  rw [List.length_append]; omega
theorem oidR_ws {l : List UInt32} {y : Fo.El} (h : oidR l = .ok y) : y.f.ws ≤ 201 := by
  obtain ⟨h1, rfl⟩ := oidR_ok h
  have := oidB_len h1
  show 1 + (oidB l).length + 0 + 0 ≤ _
  omega
theorem oidR_k {l : List UInt32} {y : Fo.El} (h : oidR l = .ok y) : y.k = .nil := by rw [(oidR_ok h).2]
end Go.Ga

/- Numbers of bytes. -/
namespace Go.Ga
open Go Go.Proofs
set_option linter.unusedSimpArgs false
set_option linter.unusedVariables false
set_option maxRecDepth 100000
attribute [local irreducible] appendK

def u64N (k : Nat) : Value := .int .u64 (k : Nat)
def NuSl (nx : Nat) (g : Nat → Option Blk) (v : Value) (L : List Nat) : Prop := ∃ (A : Option Addr) (n : Nat), v = .slice A n n ∧ n = L.length ∧ Row nx g 1 A n (L.map u64N)
def numsR (b : List UInt8) : List Nat × Bool := match nums b 0 [] true with
  | none => ([], false)
  | some (L, e) => (L, e && decide (0 < L.length))
theorem and127_8 {c : Nat} (h : c < 256) : bitsV .and .u8 (c : Int) 127 = ((c % 128 : Nat) : Int) := by
  have e : c &&& 127 = c % 128 := Nat.and_two_pow_sub_one_eq_mod c 7
  show IntKind.u8.wrap ((BitVec.ofInt 8 (c : Int) &&& BitVec.ofInt 8 ((127 : Nat) : Int)).toNat : Int) = _
  simp only [BitVec.ofInt_natCast, BitVec.toNat_and, BitVec.toNat_ofNat]
  rw [Nat.mod_eq_of_lt (by omega), Nat.mod_eq_of_lt (by omega), e, u8_w]
  omega
theorem shl7 {n : Nat} (h : n < 1099511627776) : shlV .u64 (n : Int) 7 = ((n * 128 : Nat) : Int) := by
  show IntKind.u64.wrap ((n : Int) * 2 ^ (min (7 : Int).toNat IntKind.u64.bits)) = _
  have e : (min (7 : Int).toNat IntKind.u64.bits) = 7 := by decide
  rw [e, u64_w]; omega
theorem or7 {n c : Nat} (h : n < 1099511627776) (hc : c < 128) : bitsV .or .u64 ((n * 128 : Nat) : Int) (c : Int) = ((n * 128 + c : Nat) : Int) := by
  have e : (n * 128) ||| c = n * 128 + c := by
    have := Nat.two_pow_add_eq_or_of_lt (i := 7) (b := c) hc n
    rw [show n * 128 = 2 ^ 7 * n by omega, ← this]
  show IntKind.u64.wrap ((BitVec.ofInt 64 ((n * 128 : Nat) : Int) ||| BitVec.ofInt 64 ((c : Nat) : Int)).toNat : Int) = _
  simp only [BitVec.ofInt_natCast, BitVec.toNat_or, BitVec.toNat_ofNat]
  rw [Nat.mod_eq_of_lt (by omega), Nat.mod_eq_of_lt (by omega), e, u64_w]
  omega
theorem shr40 (n : Nat) : shrV .u64 (n : Int) 40 = ((n / 1099511627776 : Nat) : Int) := shr_nat n 40 (by decide)
theorem shr32 (n : Nat) : shrV .u64 (n : Int) 32 = ((n / 4294967296 : Nat) : Int) := shr_nat n 32 (by decide)
theorem nums_lt : ∀ l n out e L e', n < 1099511627776 → (∀ y ∈ out, y < 1099511627776) → nums l n out e = some (L, e') → ∀ y ∈ L, y < 1099511627776 := by
  intro l
  induction l with
  | nil => intro n out e L e' _ ho h; simp only [nums, Option.some.injEq, Prod.mk.injEq] at h; rw [← h.1]; exact ho
  | cons c t ih =>
    intro n out e L e' hn ho h
    simp only [nums] at h
    split at h
    · cases h
    · split at h
      · refine ih 0 _ _ L e' (by omega) (fun y hy => ?_) h
        rcases List.mem_append.1 hy with h1 | h1
        · exact ho y h1
        · have := List.mem_singleton.1 h1; omega
      · exact ih _ _ _ L e' (by omega) ho h
theorem nums_len : ∀ l n out e L e', nums l n out e = some (L, e') → L.length ≤ out.length + l.length := by
  intro l
  induction l with
  | nil => intro n out e L e' h; simp only [nums, Option.some.injEq, Prod.mk.injEq] at h; rw [← h.1]; simp
  | cons c t ih =>
    intro n out e L e' h
    simp only [nums] at h
    split at h
    · cases h
    · split at h
      · have := ih _ _ _ L e' h
        simp only [List.length_append, List.length_cons, List.length_nil] at this ⊢; omega
      · have := ih _ _ _ L e' h
        simp only [List.length_cons]; omega
theorem numsR_lt {b : List UInt8} : ∀ y ∈ (numsR b).1, y < 1099511627776 := by
  unfold numsR
  cases h : nums b 0 [] true with
  | none => simp
  | some p => obtain ⟨L, e⟩ := p; exact nums_lt b 0 [] true L e (by omega) (by simp) h
theorem numsR_len {b : List UInt8} : (numsR b).1.length ≤ b.length := by
  unfold numsR
  cases h : nums b 0 [] true with
  | none => simp
  | some p => obtain ⟨L, e⟩ := p; have := nums_len b 0 [] true L e h; simpa using this

section
variable {nx : Nat} {gt : Nat → Option Blk}

theorem ct_numbers {A : Option Addr} {n c : Nat} {l : List UInt8} (hA : Row nx gt 1 A n (l.map u8V)) (hc : n ≤ c) (hn : n ≤ 1000000) :
    Ct Tryd.prog 58 [.slice A n c] nx gt fun v x g => ∃ u, v = .tuple #[u, .bool (numsR l).2] ∧ NuSl x g u (numsR l).1 := by
  have hl : l.length = n := by simpa using hA.len
  refine Ct.of hmx r_scalar_numbers (by simp [c_scalar_numbers]) fun b hb => ?_
  simp only [c_scalar_numbers, ↓gaW, ↓gaV, ↓gaC, ↓gaN, gaP, Nat.reduceEqDiff, Nat.reduceLeDiff, Nat.reduceAdd, Nat.reduceSub, Nat.reduceMul, Int.reduceLT, Int.reduceLE, Int.reduceEq, Int.reduceToNat, Int.reduceAdd, Int.reduceSub, Int.reduceMul, reduceCtorEq, ↓reduceIte, List.getD_cons_zero, List.getD_cons_succ, fillL, splice, List.take_zero, List.drop_zero, List.drop_succ_cons, List.take_succ_cons, List.drop_nil, List.take_nil]
  refine loop_of (fun j f mm => ∃ (i k x2 : Nat) (e : Bool) (g : Nat → Option Blk) (A' : Option Addr) (o : List Nat), j = n - i ∧ i ≤ n ∧ k < 1099511627776 ∧ nums l 0 [] true = nums (l.drop i) k o e ∧ o.length ≤ i ∧ f 4 = .slice A' o.length o.length ∧ f 5 = .int .u64 (k : Nat) ∧ f 6 = .bool e ∧ f 9 = .slice A n c ∧ f 10 = .int .i64 (n : Nat) ∧ f 11 = .int .i64 (i : Nat) ∧
    mm = ⟨x2, b, g⟩ ∧ nx ≤ x2 ∧ (∀ p, p < nx → g p = gt p) ∧ Own nx b x2 g 1 A' o.length (o.map u64N)) n
    ⟨0, 0, nx, true, gt, none, [], by omega, by omega, by omega, by simp, by simp, (by first | (simp only [↓gaW, ↓gaV, ↓gaC, ↓gaN, gaP, Nat.reduceEqDiff, Nat.reduceLeDiff, Nat.reduceAdd, Nat.reduceSub, Nat.reduceMul, Int.reduceLT, Int.reduceLE, Int.reduceEq, Int.reduceToNat, Int.reduceAdd, Int.reduceSub, Int.reduceMul, reduceCtorEq, ↓reduceIte]; done) | (simp only [↓gaW, ↓gaV, ↓gaC, ↓gaN, gaP, Nat.reduceEqDiff, Nat.reduceLeDiff, Nat.reduceAdd, Nat.reduceSub, Nat.reduceMul, Int.reduceLT, Int.reduceLE, Int.reduceEq, Int.reduceToNat, Int.reduceAdd, Int.reduceSub, Int.reduceMul, reduceCtorEq, ↓reduceIte]; rfl)), (by first | (simp only [↓gaW, ↓gaV, ↓gaC, ↓gaN, gaP, Nat.reduceEqDiff, Nat.reduceLeDiff, Nat.reduceAdd, Nat.reduceSub, Nat.reduceMul, Int.reduceLT, Int.reduceLE, Int.reduceEq, Int.reduceToNat, Int.reduceAdd, Int.reduceSub, Int.reduceMul, reduceCtorEq, ↓reduceIte]; done) | (simp only [↓gaW, ↓gaV, ↓gaC, ↓gaN, gaP, Nat.reduceEqDiff, Nat.reduceLeDiff, Nat.reduceAdd, Nat.reduceSub, Nat.reduceMul, Int.reduceLT, Int.reduceLE, Int.reduceEq, Int.reduceToNat, Int.reduceAdd, Int.reduceSub, Int.reduceMul, reduceCtorEq, ↓reduceIte]; rfl)), (by first | (simp only [↓gaW, ↓gaV, ↓gaC, ↓gaN, gaP, Nat.reduceEqDiff, Nat.reduceLeDiff, Nat.reduceAdd, Nat.reduceSub, Nat.reduceMul, Int.reduceLT, Int.reduceLE, Int.reduceEq, Int.reduceToNat, Int.reduceAdd, Int.reduceSub, Int.reduceMul, reduceCtorEq, ↓reduceIte]; done) | (simp only [↓gaW, ↓gaV, ↓gaC, ↓gaN, gaP, Nat.reduceEqDiff, Nat.reduceLeDiff, Nat.reduceAdd, Nat.reduceSub, Nat.reduceMul, Int.reduceLT, Int.reduceLE, Int.reduceEq, Int.reduceToNat, Int.reduceAdd, Int.reduceSub, Int.reduceMul, reduceCtorEq, ↓reduceIte]; rfl)), (by first | (simp only [↓gaW, ↓gaV, ↓gaC, ↓gaN, gaP, Nat.reduceEqDiff, Nat.reduceLeDiff, Nat.reduceAdd, Nat.reduceSub, Nat.reduceMul, Int.reduceLT, Int.reduceLE, Int.reduceEq, Int.reduceToNat, Int.reduceAdd, Int.reduceSub, Int.reduceMul, reduceCtorEq, ↓reduceIte]; done) | (simp only [↓gaW, ↓gaV, ↓gaC, ↓gaN, gaP, Nat.reduceEqDiff, Nat.reduceLeDiff, Nat.reduceAdd, Nat.reduceSub, Nat.reduceMul, Int.reduceLT, Int.reduceLE, Int.reduceEq, Int.reduceToNat, Int.reduceAdd, Int.reduceSub, Int.reduceMul, reduceCtorEq, ↓reduceIte]; rfl)), (by first | (simp only [↓gaW, ↓gaV, ↓gaC, ↓gaN, gaP, Nat.reduceEqDiff, Nat.reduceLeDiff, Nat.reduceAdd, Nat.reduceSub, Nat.reduceMul, Int.reduceLT, Int.reduceLE, Int.reduceEq, Int.reduceToNat, Int.reduceAdd, Int.reduceSub, Int.reduceMul, reduceCtorEq, ↓reduceIte]; done) | (simp only [↓gaW, ↓gaV, ↓gaC, ↓gaN, gaP, Nat.reduceEqDiff, Nat.reduceLeDiff, Nat.reduceAdd, Nat.reduceSub, Nat.reduceMul, Int.reduceLT, Int.reduceLE, Int.reduceEq, Int.reduceToNat, Int.reduceAdd, Int.reduceSub, Int.reduceMul, reduceCtorEq, ↓reduceIte]; rfl)), (by first | (simp only [↓gaW, ↓gaV, ↓gaC, ↓gaN, gaP, Nat.reduceEqDiff, Nat.reduceLeDiff, Nat.reduceAdd, Nat.reduceSub, Nat.reduceMul, Int.reduceLT, Int.reduceLE, Int.reduceEq, Int.reduceToNat, Int.reduceAdd, Int.reduceSub, Int.reduceMul, reduceCtorEq, ↓reduceIte]; done) | (simp only [↓gaW, ↓gaV, ↓gaC, ↓gaN, gaP, Nat.reduceEqDiff, Nat.reduceLeDiff, Nat.reduceAdd, Nat.reduceSub, Nat.reduceMul, Int.reduceLT, Int.reduceLE, Int.reduceEq, Int.reduceToNat, Int.reduceAdd, Int.reduceSub, Int.reduceMul, reduceCtorEq, ↓reduceIte]; rfl)), rfl, Nat.le_refl _, fun _ _ => rfl, Own.nil⟩ ?_
  rintro j f mm ⟨i, k, x2, e, g2, A2, o, hj, hi, hk, hnu, hol, f4, f5, f6, f9, f10, f11, rfl, hx2, F2, hO2⟩
  by_cases hlt : (i : Int) < (n : Int)
  · obtain ⟨a, cl, ro, rfl, r2, r3, r4, r5⟩ := hA.cells (by omega)
    have h2q : g2 a.block = some (.cells cl ro) := by rw [F2 _ r2, r3]
    have c0 : cl.getD (a.off + i) undef = .int .u8 ((l.getD i 0).toNat : Nat) := by rw [r5 i (by omega), getD_u8 (by omega)]
    obtain ⟨z, hz⟩ : ∃ z, z = l.getD i 0 := ⟨_, rfl⟩
    have hz8 := z.toNat_lt
    have hdr : l.drop i = z :: l.drop (i + 1) := by rw [hz]; exact drop_getD (by omega)
    rw [← hz] at c0
    rw [hdr] at hnu
    simp only [nums] at hnu
    have i1 : IntKind.u64.wrap (((z.toNat % 128 : Nat)) : Int) = ((z.toNat % 128 : Nat) : Int) := by rw [u64_w]; omega
    have i2 : IntKind.i64.wrap ((i : Int) + 1) = ((i + 1 : Nat) : Int) := by rw [i64_w _ (by omega)]; omega
    obtain ⟨w, hw⟩ : ∃ w, w = k * 128 + z.toNat % 128 := ⟨_, rfl⟩
    have i3 : bitsV .or .u64 ((k * 128 : Nat) : Int) ((z.toNat % 128 : Nat) : Int) = (w : Int) := by rw [or7 hk (by omega), hw]
    rw [← hw] at hnu
    by_cases hbig : 1099511627776 ≤ w
    · have hq : ¬ ((w / 1099511627776 : Nat) : Int) = 0 := by omega
      rw [if_pos hbig] at hnu
      simp only [↓gaW, ↓gaV, ↓gaC, ↓gaN, gaP, Nat.reduceEqDiff, Nat.reduceLeDiff, Nat.reduceAdd, Nat.reduceSub, Nat.reduceMul, Int.reduceLT, Int.reduceLE, Int.reduceEq, Int.reduceToNat, Int.reduceAdd, Int.reduceSub, Int.reduceMul, reduceCtorEq, ↓reduceIte, gaE, implies_true, Nat.le_refl, Int.sub_zero, Nat.sub_zero, Int.le_refl, true_or, or_true, List.getD_cons_zero, List.getD_cons_succ, fillL, splice, List.take_zero, List.drop_zero, List.drop_succ_cons, List.take_succ_cons, List.drop_nil, List.take_nil, f5, f9, f10, f11, hlt, decide_true, h2q, c0, and127_8 hz8, shl7 hk, i1, i3, shr40, hq, not_false_eq_true]
      have er : numsR l = ([], false) := by unfold numsR; rw [hnu]
      rw [er]
      repeat refine And.intro (by omega) ?_
      first | exact ⟨F2, _, rfl, none, 0, rfl, rfl, .nil⟩ | exact ⟨_, rfl, none, 0, rfl, rfl, .nil⟩
    · have hq : ((w / 1099511627776 : Nat) : Int) = 0 := by omega
      rw [if_neg hbig] at hnu
      by_cases h128 : (z.toNat : Int) < 128
      · rw [if_pos (by omega)] at hnu
        simp only [↓gaW, ↓gaV, ↓gaC, ↓gaN, gaP, Nat.reduceEqDiff, Nat.reduceLeDiff, Nat.reduceAdd, Nat.reduceSub, Nat.reduceMul, Int.reduceLT, Int.reduceLE, Int.reduceEq, Int.reduceToNat, Int.reduceAdd, Int.reduceSub, Int.reduceMul, reduceCtorEq, ↓reduceIte, List.getD_cons_zero, List.getD_cons_succ, fillL, splice, List.take_zero, List.drop_zero, List.drop_succ_cons, List.take_succ_cons, List.drop_nil, List.take_nil, f4, f5, f9, f10, f11, hlt, decide_true, h2q, c0, and127_8 hz8, shl7 hk, i1, i3, shr40, hq, not_true, decide_false, h128]
        repeat refine And.intro (by omega) ?_
        have hZ : ∀ q, q < x2 → upd g2 x2 (some (.cells [u64N w] false)) q = g2 q := fun q hq => by rw [upd_e, if_neg (by omega)]
        have er : rowOf ⟨x2 + 1, b, upd g2 x2 (some (.cells [u64N w] false))⟩ (some ⟨x2, 0, none⟩) 1 = some [u64N w] := row_new (l := [u64N w]) (by simp)
        have er' : rowOf ⟨x2 + 1, b, upd g2 x2 (some (.cells [Value.int .u64 (w : Nat)] false))⟩ (some ⟨x2, 0, none⟩) 1 = some [u64N w] := er
        rw [er']
        simp only [asO_e]
        refine own_append (nx := nx) (k := 1) (hO2.keep (Nat.le_succ _) hZ) (by omega) (by omega) (by omega) (by omega) rfl (all1 rfl) (by omega) (by omega) fun g' hg' ho' => ?_
        simp only [↓gaW, ↓gaV, ↓gaC, ↓gaN, gaP, Nat.reduceEqDiff, Nat.reduceLeDiff, Nat.reduceAdd, Nat.reduceSub, Nat.reduceMul, Int.reduceLT, Int.reduceLE, Int.reduceEq, Int.reduceToNat, Int.reduceAdd, Int.reduceSub, Int.reduceMul, reduceCtorEq, ↓reduceIte, List.getD_cons_zero, List.getD_cons_succ, fillL, splice, List.take_zero, List.drop_zero, List.drop_succ_cons, List.take_succ_cons, List.drop_nil, List.take_nil, f9, f10, f11, loopK_n, i2]
        refine ⟨n - (i + 1), by omega, i + 1, 0, x2 + 1 + 1, true, g', some ⟨x2 + 1, 0, some 1⟩, o ++ [w], rfl, by omega, by omega, by rw [hnu], by simp; omega, by simp, (by first | (simp only [↓gaW, ↓gaV, ↓gaC, ↓gaN, gaP, Nat.reduceEqDiff, Nat.reduceLeDiff, Nat.reduceAdd, Nat.reduceSub, Nat.reduceMul, Int.reduceLT, Int.reduceLE, Int.reduceEq, Int.reduceToNat, Int.reduceAdd, Int.reduceSub, Int.reduceMul, reduceCtorEq, ↓reduceIte]; done) | (simp only [↓gaW, ↓gaV, ↓gaC, ↓gaN, gaP, Nat.reduceEqDiff, Nat.reduceLeDiff, Nat.reduceAdd, Nat.reduceSub, Nat.reduceMul, Int.reduceLT, Int.reduceLE, Int.reduceEq, Int.reduceToNat, Int.reduceAdd, Int.reduceSub, Int.reduceMul, reduceCtorEq, ↓reduceIte]; rfl)), (by first | (simp only [↓gaW, ↓gaV, ↓gaC, ↓gaN, gaP, Nat.reduceEqDiff, Nat.reduceLeDiff, Nat.reduceAdd, Nat.reduceSub, Nat.reduceMul, Int.reduceLT, Int.reduceLE, Int.reduceEq, Int.reduceToNat, Int.reduceAdd, Int.reduceSub, Int.reduceMul, reduceCtorEq, ↓reduceIte]; done) | (simp only [↓gaW, ↓gaV, ↓gaC, ↓gaN, gaP, Nat.reduceEqDiff, Nat.reduceLeDiff, Nat.reduceAdd, Nat.reduceSub, Nat.reduceMul, Int.reduceLT, Int.reduceLE, Int.reduceEq, Int.reduceToNat, Int.reduceAdd, Int.reduceSub, Int.reduceMul, reduceCtorEq, ↓reduceIte]; rfl)), rfl, rfl, by omega, fun q hq => by rw [hg' q (by omega), upd_e, if_neg (by omega), F2 q hq], ?_⟩
        rw [List.length_append, List.map_append]
        exact ho'
      · rw [if_neg (by omega)] at hnu
        simp only [↓gaW, ↓gaV, ↓gaC, ↓gaN, gaP, Nat.reduceEqDiff, Nat.reduceLeDiff, Nat.reduceAdd, Nat.reduceSub, Nat.reduceMul, Int.reduceLT, Int.reduceLE, Int.reduceEq, Int.reduceToNat, Int.reduceAdd, Int.reduceSub, Int.reduceMul, reduceCtorEq, ↓reduceIte, List.getD_cons_zero, List.getD_cons_succ, fillL, splice, List.take_zero, List.drop_zero, List.drop_succ_cons, List.take_succ_cons, List.drop_nil, List.take_nil, f4, f5, f9, f10, f11, hlt, decide_true, h2q, c0, and127_8 hz8, shl7 hk, i1, i3, shr40, hq, not_true, decide_false, h128, loopK_n, i2]
        repeat refine And.intro (by omega) ?_
        exact ⟨n - (i + 1), by omega, i + 1, w, x2, false, g2, A2, o, rfl, by omega, by omega, by rw [hnu], by omega, rfl, rfl, rfl, rfl, rfl, by omega, F2, hO2⟩
  · have hin : i = n := by omega
    subst hin
    rw [← hl, List.drop_length] at hnu
    simp only [nums] at hnu
    have er : numsR l = (o, e && decide (0 < o.length)) := by unfold numsR; rw [hnu]
    rw [er]
    cases e with
    | false =>
      simp only [↓gaW, ↓gaV, ↓gaC, ↓gaN, gaP, Nat.reduceEqDiff, Nat.reduceLeDiff, Nat.reduceAdd, Nat.reduceSub, Nat.reduceMul, Int.reduceLT, Int.reduceLE, Int.reduceEq, Int.reduceToNat, Int.reduceAdd, Int.reduceSub, Int.reduceMul, reduceCtorEq, ↓reduceIte, gaE, implies_true, Nat.le_refl, Int.sub_zero, Nat.sub_zero, Int.le_refl, true_or, or_true, List.getD_cons_zero, List.getD_cons_succ, fillL, splice, List.take_zero, List.drop_zero, List.drop_succ_cons, List.take_succ_cons, List.drop_nil, List.take_nil, f4, f5, f6, f9, f10, f11, hlt, decide_false, Bool.false_and]
      have hrw := hO2.row
      rw [Nat.mul_one] at hrw
      exact ⟨by omega, F2, _, rfl, A2, _, rfl, rfl, hrw⟩
    | true =>
      simp only [↓gaW, ↓gaV, ↓gaC, ↓gaN, gaP, Nat.reduceEqDiff, Nat.reduceLeDiff, Nat.reduceAdd, Nat.reduceSub, Nat.reduceMul, Int.reduceLT, Int.reduceLE, Int.reduceEq, Int.reduceToNat, Int.reduceAdd, Int.reduceSub, Int.reduceMul, reduceCtorEq, ↓reduceIte, gaE, implies_true, Nat.le_refl, Int.sub_zero, Nat.sub_zero, Int.le_refl, true_or, or_true, List.getD_cons_zero, List.getD_cons_succ, fillL, splice, List.take_zero, List.drop_zero, List.drop_succ_cons, List.take_succ_cons, List.drop_nil, List.take_nil, f4, f5, f6, f9, f10, f11, hlt, decide_false, Bool.true_and]
      have hrw := hO2.row
      rw [Nat.mul_one] at hrw
      have ed : decide ((0 : Int) < (o.length : Int)) = decide (0 < o.length) := decide_eq_decide.2 (by omega)
      exact ⟨by omega, F2, _, by rw [ed], A2, _, rfl, rfl, hrw⟩
end
end Go.Ga

/- Lists of numbers of elements: parts. -/
namespace Go.Ga
open Go Go.Proofs
set_option linter.unusedSimpArgs false
set_option linter.unusedVariables false
set_option maxRecDepth 100000
attribute [local irreducible] appendK

def WdSl (nx : Nat) (g : Nat → Option Blk) (v : Value) (l : List UInt32) : Prop := ∃ (A : Option Addr) (n : Nat), v = .slice A n n ∧ l.length = n ∧ Row nx g 1 A n (l.map u32V)
theorem WdSl.keep {nx x : Nat} {gt g : Nat → Option Blk} {v : Value} {l : List UInt32} (h : WdSl nx gt v l) (h1 : nx ≤ x) (h2 : ∀ p, p < nx → g p = gt p) : WdSl x g v l := by
  obtain ⟨A, n, e, hl, r⟩ := h
  exact ⟨A, n, e, hl, r.keep h1 h2⟩
def UErr (nx : Nat) (g : Nat → Option Blk) (v : Value) (r : List UInt32 × Nat) : Prop := ∃ u, v = .tuple #[u, .int .i64 (r.2 : Nat)] ∧ WdSl nx g u r.1
theorem u32_of (n : Nat) (h : n < 4294967296) : Value.int .u32 (IntKind.u32.wrap (n : Int)) = u32V (UInt32.ofNat n) :=
  congrArg (Value.int .u32) (by rw [u32_w, UInt32.toNat_ofNat']; omega)

section
variable {nx : Nat} {gt : Nat → Option Blk}


theorem ct_justU {x : Fo.El} {u : Value} {is : Bool} {clo : Nat} {caps : Array Value} {r : Except Nat Fo.El} {B : Option Addr} {m d : Nat} {A : Option Addr} {n c : Nat} {ks : List Value} (h : NdR nx gt x B m d A n c ks) (hxw : x.f.ws < 1000000000) (hyw : ∀ y, r = .ok y → y.f.ws < 1000000000)
    (hclo : ∀ (nx' : Nat) (g : Nat → Option Blk), nx ≤ nx' → (∀ p, p < nx → g p = gt p) → Ct Tryd.prog clo caps.toList nx' g fun v x g => NErr nx' x g v r) :
    Ct Tryd.prog 59 [u, .bool is, nodeV x.t B m d A n c, .func (.func clo) #[] caps] nx gt fun v _ _ => ∃ b : Bool, (b = true ↔ justP is x r) ∧ v = if b then .tuple #[u, .int .i64 0] else .tuple #[.slice none 0 0, .int .i64 2] := by
  refine Ct.of hmx r_scalar_just___uint32_ (by simp [c_scalar_just___uint32_]) fun b hb => ?_
  have hF : ∀ q, q < nx → upd gt nx (some (.cells (nodeL x.t B m d A n c) false)) q = gt q := fun q hq => by simp only [upd_e]; rw [if_neg (by omega)]
  have hb0 : upd gt nx (some (.cells (nodeL x.t B m d A n c) false)) nx = some (.cells (nodeL x.t B m d A n c) false) := by simp only [upd_e, if_true]
  cases is with
  | false =>
    simp only [c_scalar_just___uint32_, ↓gaW, ↓gaV, ↓gaC, ↓gaN, gaP, Nat.reduceEqDiff, Nat.reduceLeDiff, Nat.reduceAdd, Nat.reduceSub, Nat.reduceMul, Int.reduceLT, Int.reduceLE, Int.reduceEq, Int.reduceToNat, Int.reduceAdd, Int.reduceSub, Int.reduceMul, reduceCtorEq, ↓reduceIte, gaE, implies_true, Nat.le_refl, Int.sub_zero, Nat.sub_zero, Int.le_refl, true_or, or_true, List.getD_cons_zero, List.getD_cons_succ, fillL, splice, List.take_zero, List.drop_zero, List.drop_succ_cons, List.take_succ_cons, List.drop_nil, List.take_nil, gaU, Bool.not_false]
    exact ⟨by omega, hF, false, by simp [justP], rfl⟩
  | true =>
    simp only [c_scalar_just___uint32_, ↓gaW, ↓gaV, ↓gaC, ↓gaN, gaP, Nat.reduceEqDiff, Nat.reduceLeDiff, Nat.reduceAdd, Nat.reduceSub, Nat.reduceMul, Int.reduceLT, Int.reduceLE, Int.reduceEq, Int.reduceToNat, Int.reduceAdd, Int.reduceSub, Int.reduceMul, reduceCtorEq, ↓reduceIte, List.getD_cons_zero, List.getD_cons_succ, fillL, splice, List.take_zero, List.drop_zero, List.drop_succ_cons, List.take_succ_cons, List.drop_nil, List.take_nil, gaU, Bool.not_true]
    generalize upd gt nx (some (.cells (nodeL x.t B m d A n c) false)) = g0 at *
    refine callK_of (hclo (nx + 1) g0 (by omega) hF) (fun v x1 g1 l1 k1 hC => ?_) (by omega)
    have F1 : ∀ p, p < nx → g1 p = gt p := fun p hp => by rw [k1 p (by omega), hF p hp]
    have hb1 : g1 nx = some (.cells (nodeL x.t B m d A n c) false) := by rw [k1 nx (by omega), hb0]
    have hnx1 : (nx = x1) = False := by simp; omega
    cases r with
    | error e =>
      obtain ⟨rfl, he⟩ := hC
      have he0 : ¬ (e : Int) = 0 := by omega
      simp only [↓gaW, ↓gaV, ↓gaC, ↓gaN, gaP, Nat.reduceEqDiff, Nat.reduceLeDiff, Nat.reduceAdd, Nat.reduceSub, Nat.reduceMul, Int.reduceLT, Int.reduceLE, Int.reduceEq, Int.reduceToNat, Int.reduceAdd, Int.reduceSub, Int.reduceMul, reduceCtorEq, ↓reduceIte, gaE, implies_true, Nat.le_refl, Int.sub_zero, Nat.sub_zero, Int.le_refl, true_or, or_true, List.getD_cons_zero, List.getD_cons_succ, fillL, splice, List.take_zero, List.drop_zero, List.drop_succ_cons, List.take_succ_cons, List.drop_nil, List.take_nil, gaU, he0, decide_false, Bool.not_false]
      repeat refine And.intro (by omega) ?_
      refine And.intro (node_cells _ _ _ _ _ _ _) ?_
      refine ⟨by omega, fun p hp => by rw [if_neg (by omega), if_neg (by omega), F1 p hp], false, by simp [justP], rfl⟩
    | ok y =>
      obtain ⟨u, rfl, B', m', d', A', n', c', ks', rfl, hN⟩ := hC
      obtain ⟨g2, e2⟩ : ∃ g', g' = upd (upd g1 x1 (some (.cells [Value.int .i64 0, .slice none 0 0, .slice none 0 0] false))) x1 (some (.cells (nodeL y.t B' m' d' A' n' c') false)) := ⟨_, rfl⟩
      have G2 : ∀ p, p < x1 → g2 p = g1 p := fun p hp => by rw [e2]; simp only [upd_e]; rw [if_neg (by omega), if_neg (by omega)]
      have hb2 : g2 nx = some (.cells (nodeL x.t B m d A n c) false) := by rw [G2 nx (by omega), hb1]
      have hy := hyw y rfl
      simp only [↓gaW, ↓gaV, ↓gaC, ↓gaN, gaP, Nat.reduceEqDiff, Nat.reduceLeDiff, Nat.reduceAdd, Nat.reduceSub, Nat.reduceMul, Int.reduceLT, Int.reduceLE, Int.reduceEq, Int.reduceToNat, Int.reduceAdd, Int.reduceSub, Int.reduceMul, reduceCtorEq, ↓reduceIte, List.getD_cons_zero, List.getD_cons_succ, fillL, splice, List.take_zero, List.drop_zero, List.drop_succ_cons, List.take_succ_cons, List.drop_nil, List.take_nil, gaU, hnx1, hb1, decide_true, decide_false, Bool.not_true]
      repeat refine And.intro (by omega) ?_
      refine And.intro (node_cells _ _ _ _ _ _ _) ?_
      repeat refine And.intro (by omega) ?_
      rw [← e2]; clear e2
      refine callK_of (ct_same (hN.r.keep (x' := x1 + 1) (by omega) G2) (h.keep (x' := x1 + 1) (by omega) fun p hp => by rw [G2 p (by omega), F1 p hp]) hy hxw) (fun v x3 g3 l3 k3 hC => ?_) (by omega)
      obtain ⟨s, rfl, hs⟩ := hC
      have F3 : ∀ p, p < nx → g3 p = gt p := fun p hp => by rw [k3 p (by omega), G2 p (by omega), F1 p hp]
      cases s with
      | false =>
        simp only [↓gaW, ↓gaV, ↓gaC, ↓gaN, gaP, Nat.reduceEqDiff, Nat.reduceLeDiff, Nat.reduceAdd, Nat.reduceSub, Nat.reduceMul, Int.reduceLT, Int.reduceLE, Int.reduceEq, Int.reduceToNat, Int.reduceAdd, Int.reduceSub, Int.reduceMul, reduceCtorEq, ↓reduceIte, gaE, implies_true, Nat.le_refl, Int.sub_zero, Nat.sub_zero, Int.le_refl, true_or, or_true, List.getD_cons_zero, List.getD_cons_succ, fillL, splice, List.take_zero, List.drop_zero, List.drop_succ_cons, List.take_succ_cons, List.drop_nil, List.take_nil, Bool.not_false]
        refine ⟨by omega, F3, false, ?_, rfl⟩
        simp only [Bool.false_eq_true, false_iff] at hs ⊢
        rintro ⟨_, z, hz, hal⟩
        injection hz with hz; subst hz
        exact hs hal
      | true =>
        simp only [↓gaW, ↓gaV, ↓gaC, ↓gaN, gaP, Nat.reduceEqDiff, Nat.reduceLeDiff, Nat.reduceAdd, Nat.reduceSub, Nat.reduceMul, Int.reduceLT, Int.reduceLE, Int.reduceEq, Int.reduceToNat, Int.reduceAdd, Int.reduceSub, Int.reduceMul, reduceCtorEq, ↓reduceIte, gaE, implies_true, Nat.le_refl, Int.sub_zero, Nat.sub_zero, Int.le_refl, true_or, or_true, List.getD_cons_zero, List.getD_cons_succ, fillL, splice, List.take_zero, List.drop_zero, List.drop_succ_cons, List.take_succ_cons, List.drop_nil, List.take_nil, Bool.not_true]
        exact ⟨by omega, F3, true, by simp only [true_iff]; exact ⟨rfl, y, rfl, hs.1 rfl⟩, rfl⟩
theorem ct_Arcs1 {q : Nat} {ro : Bool} {A0 : Option Addr} {n0 c0 : Nat} {l : List UInt32} (hq : q < nx) (hg : gt q = some (.cells [.slice A0 n0 c0] ro)) (hA : Row nx gt 1 A0 n0 (l.map u32V)) (hc : n0 ≤ c0) (hn : n0 ≤ 1000000) :
    Ct Tryd.prog 60 [.pointer (some ⟨q, 0, none⟩)] nx gt fun v x g => NErr nx x g v (oidR l) := by
  refine Ct.of hmx r_scalar_Arcs_1 (by simp [c_scalar_Arcs_1]) fun b hb => ?_
  have hF : ∀ q, q < nx → upd gt nx (some (.cells [Value.int .i64 0, .slice none 0 0, .slice none 0 0] false)) q = gt q := fun q hq => by simp only [upd_e]; rw [if_neg (by omega)]
  have hb0 : upd gt nx (some (.cells [Value.int .i64 0, .slice none 0 0, .slice none 0 0] false)) nx = some (.cells [Value.int .i64 0, .slice none 0 0, .slice none 0 0] false) := by simp only [upd_e, if_true]
  have hqn : (q = nx) = False := by simp; omega
  simp only [c_scalar_Arcs_1, ↓gaW, ↓gaV, ↓gaC, ↓gaN, gaP, Nat.reduceEqDiff, Nat.reduceLeDiff, Nat.reduceAdd, Nat.reduceSub, Nat.reduceMul, Int.reduceLT, Int.reduceLE, Int.reduceEq, Int.reduceToNat, Int.reduceAdd, Int.reduceSub, Int.reduceMul, reduceCtorEq, ↓reduceIte, List.getD_cons_zero, List.getD_cons_succ, fillL, splice, List.take_zero, List.drop_zero, List.drop_succ_cons, List.take_succ_cons, List.drop_nil, List.take_nil, gaU, hqn, hg, List.getD_cons_zero]
  generalize upd gt nx (some (.cells [Value.int .i64 0, .slice none 0 0, .slice none 0 0] false)) = g0 at *
  repeat refine And.intro (by omega) ?_
  refine callK_of (ct_Oid (hA.keep (nx' := nx + 1) (by omega) hF) hc (by omega)) (fun v x1 g1 l1 k1 hC => ?_) (by omega)
  have F1 : ∀ p, p < nx → g1 p = gt p := fun p hp => by rw [k1 p (by omega), hF p hp]
  have hb1 : g1 nx = some (.cells [Value.int .i64 0, .slice none 0 0, .slice none 0 0] false) := by rw [k1 nx (by omega), hb0]
  have ext : ∀ (cs : List Value), (∀ p, p ≠ nx → upd g1 nx (some (.cells cs false)) p = g1 p) := fun cs p hp => by simp only [upd_e]; rw [if_neg hp]
  cases hr : oidR l with
  | error e =>
    rw [hr] at hC
    obtain ⟨rfl, he⟩ := hC
    simp only [↓gaW, ↓gaV, ↓gaC, ↓gaN, gaP, Nat.reduceEqDiff, Nat.reduceLeDiff, Nat.reduceAdd, Nat.reduceSub, Nat.reduceMul, Int.reduceLT, Int.reduceLE, Int.reduceEq, Int.reduceToNat, Int.reduceAdd, Int.reduceSub, Int.reduceMul, reduceCtorEq, ↓reduceIte, List.getD_cons_zero, List.getD_cons_succ, fillL, splice, List.take_zero, List.drop_zero, List.drop_succ_cons, List.take_succ_cons, List.drop_nil, List.take_nil, hb1]
    repeat refine And.intro (by omega) ?_
    refine And.intro (node_cells _ _ _ _ _ _ _) ?_
    exact end_nT (q := nx) (t := 0) (B := none) (m := 0) (d := 0) (A := none) (n := 0) (c := 0) (ro := false) (w := .int .i64 e) (by first | (simp only [↓gaW, ↓gaV, ↓gaC, ↓gaN, gaP, Nat.reduceEqDiff, Nat.reduceLeDiff, Nat.reduceAdd, Nat.reduceSub, Nat.reduceMul, Int.reduceLT, Int.reduceLE, Int.reduceEq, Int.reduceToNat, Int.reduceAdd, Int.reduceSub, Int.reduceMul, reduceCtorEq, ↓reduceIte]; done) | (simp only [↓gaW, ↓gaV, ↓gaC, ↓gaN, gaP, Nat.reduceEqDiff, Nat.reduceLeDiff, Nat.reduceAdd, Nat.reduceSub, Nat.reduceMul, Int.reduceLT, Int.reduceLE, Int.reduceEq, Int.reduceToNat, Int.reduceAdd, Int.reduceSub, Int.reduceMul, reduceCtorEq, ↓reduceIte]; rfl)) (by first | (simp only [↓gaW, ↓gaV, ↓gaC, ↓gaN, gaP, Nat.reduceEqDiff, Nat.reduceLeDiff, Nat.reduceAdd, Nat.reduceSub, Nat.reduceMul, Int.reduceLT, Int.reduceLE, Int.reduceEq, Int.reduceToNat, Int.reduceAdd, Int.reduceSub, Int.reduceMul, reduceCtorEq, ↓reduceIte]; done) | (simp only [↓gaW, ↓gaV, ↓gaC, ↓gaN, gaP, Nat.reduceEqDiff, Nat.reduceLeDiff, Nat.reduceAdd, Nat.reduceSub, Nat.reduceMul, Int.reduceLT, Int.reduceLE, Int.reduceEq, Int.reduceToNat, Int.reduceAdd, Int.reduceSub, Int.reduceMul, reduceCtorEq, ↓reduceIte]; rfl)) (by simp only [upd_e, if_true]) (by omega) (fun p hp => by rw [ext _ p (by omega), F1 p hp]) ⟨rfl, he⟩
  | ok y =>
    rw [hr] at hC
    obtain ⟨u, rfl, B, m, d, A, n, c, ks, rfl, hN⟩ := hC
    simp only [↓gaW, ↓gaV, ↓gaC, ↓gaN, gaP, Nat.reduceEqDiff, Nat.reduceLeDiff, Nat.reduceAdd, Nat.reduceSub, Nat.reduceMul, Int.reduceLT, Int.reduceLE, Int.reduceEq, Int.reduceToNat, Int.reduceAdd, Int.reduceSub, Int.reduceMul, reduceCtorEq, ↓reduceIte, List.getD_cons_zero, List.getD_cons_succ, fillL, splice, List.take_zero, List.drop_zero, List.drop_succ_cons, List.take_succ_cons, List.drop_nil, List.take_nil, hb1]
    repeat refine And.intro (by omega) ?_
    refine And.intro (node_cells _ _ _ _ _ _ _) ?_
    exact end_nT (q := nx) (t := y.t) (B := B) (m := m) (d := d) (A := A) (n := n) (c := c) (ro := false) (w := .int .i64 0) (by first | (simp only [↓gaW, ↓gaV, ↓gaC, ↓gaN, gaP, Nat.reduceEqDiff, Nat.reduceLeDiff, Nat.reduceAdd, Nat.reduceSub, Nat.reduceMul, Int.reduceLT, Int.reduceLE, Int.reduceEq, Int.reduceToNat, Int.reduceAdd, Int.reduceSub, Int.reduceMul, reduceCtorEq, ↓reduceIte]; done) | (simp only [↓gaW, ↓gaV, ↓gaC, ↓gaN, gaP, Nat.reduceEqDiff, Nat.reduceLeDiff, Nat.reduceAdd, Nat.reduceSub, Nat.reduceMul, Int.reduceLT, Int.reduceLE, Int.reduceEq, Int.reduceToNat, Int.reduceAdd, Int.reduceSub, Int.reduceMul, reduceCtorEq, ↓reduceIte]; rfl)) (by first | (simp only [↓gaW, ↓gaV, ↓gaC, ↓gaN, gaP, Nat.reduceEqDiff, Nat.reduceLeDiff, Nat.reduceAdd, Nat.reduceSub, Nat.reduceMul, Int.reduceLT, Int.reduceLE, Int.reduceEq, Int.reduceToNat, Int.reduceAdd, Int.reduceSub, Int.reduceMul, reduceCtorEq, ↓reduceIte]; done) | (simp only [↓gaW, ↓gaV, ↓gaC, ↓gaN, gaP, Nat.reduceEqDiff, Nat.reduceLeDiff, Nat.reduceAdd, Nat.reduceSub, Nat.reduceMul, Int.reduceLT, Int.reduceLE, Int.reduceEq, Int.reduceToNat, Int.reduceAdd, Int.reduceSub, Int.reduceMul, reduceCtorEq, ↓reduceIte]; rfl)) (by simp only [upd_e, if_true]) (by omega) (fun p hp => by rw [ext _ p (by omega), F1 p hp]) ⟨_, rfl, B, m, d, A, n, c, ks, rfl, (hN.keep (Nat.le_refl _) fun p hp _ => ext _ p (by omega)).wid (by omega)⟩

theorem ct_sameL {A B : Option Addr} {n c m d : Nat} {l k : List UInt32} (hA : Row nx gt 1 A n (l.map u32V)) (hB : Row nx gt 1 B m (k.map u32V)) (hn : n ≤ 1000000) :
    Ct Tryd.prog 32 [.slice A n c, .slice B m d] nx gt fun v _ _ => v = .bool (decide (l = k)) := by
  have hl : l.length = n := by simpa using hA.len
  have hk : k.length = m := by simpa using hB.len
  refine Ct.of hmx r_lanyardlaw05_same (by simp [c_lanyardlaw05_same]) fun b hb => ?_
  by_cases hnm : (n : Int) = (m : Int)
  case neg =>
    simp only [c_lanyardlaw05_same, ↓gaW, ↓gaV, ↓gaC, ↓gaN, gaP, Nat.reduceEqDiff, Nat.reduceLeDiff, Nat.reduceAdd, Nat.reduceSub, Nat.reduceMul, Int.reduceLT, Int.reduceLE, Int.reduceEq, Int.reduceToNat, Int.reduceAdd, Int.reduceSub, Int.reduceMul, reduceCtorEq, ↓reduceIte, gaE, implies_true, Nat.le_refl, Int.sub_zero, Nat.sub_zero, Int.le_refl, true_or, or_true, List.getD_cons_zero, List.getD_cons_succ, fillL, splice, List.take_zero, List.drop_zero, List.drop_succ_cons, List.take_succ_cons, List.drop_nil, List.take_nil, hnm, not_false_eq_true, decide_true]
    have e : decide (l = k) = false := decide_eq_false fun h => hnm (by rw [← hl, ← hk, h])
    rw [e]
  have hnm' : ¬ ¬ (n : Int) = (m : Int) := fun h => h hnm
  simp only [c_lanyardlaw05_same, ↓gaW, ↓gaV, ↓gaC, ↓gaN, gaP, Nat.reduceEqDiff, Nat.reduceLeDiff, Nat.reduceAdd, Nat.reduceSub, Nat.reduceMul, Int.reduceLT, Int.reduceLE, Int.reduceEq, Int.reduceToNat, Int.reduceAdd, Int.reduceSub, Int.reduceMul, reduceCtorEq, ↓reduceIte, List.getD_cons_zero, List.getD_cons_succ, fillL, splice, List.take_zero, List.drop_zero, List.drop_succ_cons, List.take_succ_cons, List.drop_nil, List.take_nil, hnm', decide_false]
  refine loop_of (fun j f mm => ∃ i, j = n - i ∧ i ≤ n ∧ l.take i = k.take i ∧ f 0 = .slice A n c ∧ f 1 = .slice B m d ∧ f 5 = .int .i64 (i : Nat) ∧ mm = ⟨nx, b, gt⟩) n ⟨0, by omega, by omega, by simp, (by first | (simp only [↓gaW, ↓gaV, ↓gaC, ↓gaN, gaP, Nat.reduceEqDiff, Nat.reduceLeDiff, Nat.reduceAdd, Nat.reduceSub, Nat.reduceMul, Int.reduceLT, Int.reduceLE, Int.reduceEq, Int.reduceToNat, Int.reduceAdd, Int.reduceSub, Int.reduceMul, reduceCtorEq, ↓reduceIte]; done) | (simp only [↓gaW, ↓gaV, ↓gaC, ↓gaN, gaP, Nat.reduceEqDiff, Nat.reduceLeDiff, Nat.reduceAdd, Nat.reduceSub, Nat.reduceMul, Int.reduceLT, Int.reduceLE, Int.reduceEq, Int.reduceToNat, Int.reduceAdd, Int.reduceSub, Int.reduceMul, reduceCtorEq, ↓reduceIte]; rfl)), (by first | (simp only [↓gaW, ↓gaV, ↓gaC, ↓gaN, gaP, Nat.reduceEqDiff, Nat.reduceLeDiff, Nat.reduceAdd, Nat.reduceSub, Nat.reduceMul, Int.reduceLT, Int.reduceLE, Int.reduceEq, Int.reduceToNat, Int.reduceAdd, Int.reduceSub, Int.reduceMul, reduceCtorEq, ↓reduceIte]; done) | (simp only [↓gaW, ↓gaV, ↓gaC, ↓gaN, gaP, Nat.reduceEqDiff, Nat.reduceLeDiff, Nat.reduceAdd, Nat.reduceSub, Nat.reduceMul, Int.reduceLT, Int.reduceLE, Int.reduceEq, Int.reduceToNat, Int.reduceAdd, Int.reduceSub, Int.reduceMul, reduceCtorEq, ↓reduceIte]; rfl)), (by first | (simp only [↓gaW, ↓gaV, ↓gaC, ↓gaN, gaP, Nat.reduceEqDiff, Nat.reduceLeDiff, Nat.reduceAdd, Nat.reduceSub, Nat.reduceMul, Int.reduceLT, Int.reduceLE, Int.reduceEq, Int.reduceToNat, Int.reduceAdd, Int.reduceSub, Int.reduceMul, reduceCtorEq, ↓reduceIte]; done) | (simp only [↓gaW, ↓gaV, ↓gaC, ↓gaN, gaP, Nat.reduceEqDiff, Nat.reduceLeDiff, Nat.reduceAdd, Nat.reduceSub, Nat.reduceMul, Int.reduceLT, Int.reduceLE, Int.reduceEq, Int.reduceToNat, Int.reduceAdd, Int.reduceSub, Int.reduceMul, reduceCtorEq, ↓reduceIte]; rfl)), rfl⟩ ?_
  rintro j f mm ⟨i, hj, hi, hlk, f0, f1, f5, rfl⟩
  by_cases hlt : (i : Int) < (n : Int)
  · obtain ⟨a, cl, ro, rfl, r2, r3, r4, r5⟩ := hA.cells (by omega)
    obtain ⟨a', cl', ro', rfl, s2, s3, s4, s5⟩ := hB.cells (by omega)
    have c0 : cl.getD (a.off + i) undef = .int .u32 ((l.getD i 0).toNat : Nat) := by rw [r5 i (by omega), getD_u32 (by omega)]
    have c1 : cl'.getD (a'.off + i) undef = .int .u32 ((k.getD i 0).toNat : Nat) := by rw [s5 i (by omega), getD_u32 (by omega)]
    have i2 : IntKind.i64.wrap ((i : Int) + 1) = ((i + 1 : Nat) : Int) := by rw [i64_w _ (by omega)]; omega
    by_cases he : (((l.getD i 0).toNat : Nat) : Int) = (((k.getD i 0).toNat : Nat) : Int)
    · have he' : ¬ ¬ (((l.getD i 0).toNat : Nat) : Int) = (((k.getD i 0).toNat : Nat) : Int) := fun h => h he
      simp only [↓gaW, ↓gaV, ↓gaC, ↓gaN, gaP, Nat.reduceEqDiff, Nat.reduceLeDiff, Nat.reduceAdd, Nat.reduceSub, Nat.reduceMul, Int.reduceLT, Int.reduceLE, Int.reduceEq, Int.reduceToNat, Int.reduceAdd, Int.reduceSub, Int.reduceMul, reduceCtorEq, ↓reduceIte, List.getD_cons_zero, List.getD_cons_succ, fillL, splice, List.take_zero, List.drop_zero, List.drop_succ_cons, List.take_succ_cons, List.drop_nil, List.take_nil, f0, f1, f5, hlt, decide_true, r3, s3, c0, c1, he', decide_false, i2, loopK_n]
      repeat refine And.intro (by omega) ?_
      have hee : l.getD i 0 = k.getD i 0 := UInt32.toNat_inj.1 (by omega)
      exact ⟨n - (i + 1), by omega, i + 1, rfl, by omega, by rw [take_next (by omega), take_next (by omega), hlk, hee], rfl⟩
    · simp only [↓gaW, ↓gaV, ↓gaC, ↓gaN, gaP, Nat.reduceEqDiff, Nat.reduceLeDiff, Nat.reduceAdd, Nat.reduceSub, Nat.reduceMul, Int.reduceLT, Int.reduceLE, Int.reduceEq, Int.reduceToNat, Int.reduceAdd, Int.reduceSub, Int.reduceMul, reduceCtorEq, ↓reduceIte, gaE, implies_true, Nat.le_refl, Int.sub_zero, Nat.sub_zero, Int.le_refl, true_or, or_true, List.getD_cons_zero, List.getD_cons_succ, fillL, splice, List.take_zero, List.drop_zero, List.drop_succ_cons, List.take_succ_cons, List.drop_nil, List.take_nil, f0, f1, f5, hlt, decide_true, r3, s3, c0, c1, he, not_false_eq_true]
      have e : decide (l = k) = false := decide_eq_false fun h => he (by rw [h])
      rw [e]
      repeat refine And.intro (by omega) ?_
      first | exact ⟨fun _ _ => rfl, rfl⟩ | exact rfl
  · have hin : i = n := by omega
    subst hin
    have e : decide (l = k) = true := decide_eq_true (by rw [← List.take_length (l := l), hl, hlk, ← (show k.length = i by omega), List.take_length])
    simp only [↓gaW, ↓gaV, ↓gaC, ↓gaN, gaP, Nat.reduceEqDiff, Nat.reduceLeDiff, Nat.reduceAdd, Nat.reduceSub, Nat.reduceMul, Int.reduceLT, Int.reduceLE, Int.reduceEq, Int.reduceToNat, Int.reduceAdd, Int.reduceSub, Int.reduceMul, reduceCtorEq, ↓reduceIte, gaE, implies_true, Nat.le_refl, Int.sub_zero, Nat.sub_zero, Int.le_refl, true_or, or_true, List.getD_cons_zero, List.getD_cons_succ, fillL, splice, List.take_zero, List.drop_zero, List.drop_succ_cons, List.take_succ_cons, List.drop_nil, List.take_nil, f0, f1, f5, hlt, decide_false, e]
end
end Go.Ga

/- The numbers of an element. -/
namespace Go.Ga
open Go Go.Proofs
set_option linter.unusedSimpArgs false
set_option linter.unusedVariables false
set_option maxRecDepth 100000
attribute [local irreducible] appendK

theorem u32M (n : Nat) : Value.int .u32 (IntKind.u32.wrap (n : Int)) = u32V (UInt32.ofNat n) :=
  congrArg (Value.int .u32) (by rw [u32_w, UInt32.toNat_ofNat']; omega)
theorem Own.off {nx b x : Nat} {g g' : Nat → Option Blk} {e : Nat} {A : Option Addr} {n : Nat} {l : List Value} (h : Own nx b x g e A n l) (h2 : ∀ i, nx ≤ i → g' i = g i) : Own nx b x g' e A n l := by
  refine ⟨h.1, ?_⟩
  rcases h.2 with h | ⟨q, e1, e2, e3, e4, e5⟩
  · exact .inl h
  · exact .inr ⟨q, e1, e2, e3, e4, by rw [h2 q e2, e5]⟩

section
variable {nx : Nat} {gt : Nat → Option Blk}

set_option maxHeartbeats 1000000 in
theorem ct_Arcs {x : Fo.El} {B : Option Addr} {m d : Nat} {A : Option Addr} {n c : Nat} {ks : List Value} (h : NdR nx gt x B m d A n c ks) (hxw : x.f.ws < 900000) :
    Ct Tryd.prog 30 [nodeV x.t B m d A n c] nx gt fun v x' g => UErr x' g v (arcsR x) := by
  refine Ct.of hmx r_scalar_Arcs (by simp [c_scalar_Arcs]) fun b hb => ?_
  have hF : ∀ q, q < nx → upd gt nx (some (.cells (nodeL x.t B m d A n c) false)) q = gt q := fun q hq => by simp only [upd_e]; rw [if_neg (by omega)]
  have hb0 : upd gt nx (some (.cells (nodeL x.t B m d A n c) false)) nx = some (.cells (nodeL x.t B m d A n c) false) := by simp only [upd_e, if_true]
  have xw : x.f.ws = 1 + x.b.length + x.k.ws := by simp only [Fo.El.f, Fo.ws]; omega
  have lw := Fo.len_ws x.k
  have hl := h.blen
  have hkl := h.len
  simp only [c_scalar_Arcs, ↓gaW, ↓gaV, ↓gaC, ↓gaN, gaP, Nat.reduceEqDiff, Nat.reduceLeDiff, Nat.reduceAdd, Nat.reduceSub, Nat.reduceMul, Int.reduceLT, Int.reduceLE, Int.reduceEq, Int.reduceToNat, Int.reduceAdd, Int.reduceSub, Int.reduceMul, reduceCtorEq, ↓reduceIte, List.getD_cons_zero, List.getD_cons_succ, fillL, splice, List.take_zero, List.drop_zero, List.drop_succ_cons, List.take_succ_cons, List.drop_nil, List.take_nil, gaU]
  generalize upd gt nx (some (.cells (nodeL x.t B m d A n c) false)) = g0 at *
  repeat refine And.intro (by omega) ?_
  have h0 := h.keep (x' := nx + 1) (by omega) hF
  refine callK_of (ct_numbers h0.body h.md (by omega)) (fun v x1 g1 l1 k1 hC => ?_) (by omega)
  obtain ⟨u, rfl, A1, n1, rfl, hn1, r1⟩ := hC
  have F1 : ∀ p, p < nx → g1 p = gt p := fun p hp => by rw [k1 p (by omega), hF p hp]
  have hb1 : g1 nx = some (.cells (nodeL x.t B m d A n c) false) := by rw [k1 nx (by omega), hb0]
  have hlt1 := numsR_lt (b := x.b)
  have hle1 := numsR_len (b := x.b)
  generalize hR : numsR x.b = R at *
  obtain ⟨L, is0⟩ := R
  simp only at *
  have hZ : ∀ p, p < x1 → upd g1 x1 (some (.cells [Value.slice none 0 0] false)) p = g1 p := fun p hp => by rw [upd_e, if_neg (by omega)]
  have hz : upd g1 x1 (some (.cells [Value.slice none 0 0] false)) x1 = some (.cells [Value.slice none 0 0] false) := by rw [upd_e, if_pos rfl]
  simp only [↓gaW, ↓gaV, ↓gaC, ↓gaN, gaP, Nat.reduceEqDiff, Nat.reduceLeDiff, Nat.reduceAdd, Nat.reduceSub, Nat.reduceMul, Int.reduceLT, Int.reduceLE, Int.reduceEq, Int.reduceToNat, Int.reduceAdd, Int.reduceSub, Int.reduceMul, reduceCtorEq, ↓reduceIte, List.getD_cons_zero, List.getD_cons_succ, fillL, splice, List.take_zero, List.drop_zero, List.drop_succ_cons, List.take_succ_cons, List.drop_nil, List.take_nil]
  generalize upd g1 x1 (some (.cells [Value.slice none 0 0] false)) = g2 at *
  repeat refine And.intro (by omega) ?_
  refine loop_of (fun j f mm => ∃ (i x2 : Nat) (g : Nat → Option Blk) (A' : Option Addr) (o : List UInt32), j = n1 - i ∧ i ≤ n1 ∧ o = ao (L.take i) ∧ f 1 = .pointer (some ⟨nx, 0, none⟩) ∧ f 5 = .bool (is0 && okA (L.take i)) ∧ f 6 = .pointer (some ⟨x1, 0, none⟩) ∧ f 16 = .slice A1 n1 n1 ∧ f 17 = .int .i64 (n1 : Nat) ∧ f 18 = .int .i64 (i : Nat) ∧
    mm = ⟨x2, b, g⟩ ∧ x1 + 1 ≤ x2 ∧ (∀ p, p < x1 → g p = g1 p) ∧ g x1 = some (.cells [.slice A' o.length o.length] false) ∧ Own (x1 + 1) b x2 g 1 A' o.length (o.map u32V)) n1
    ⟨0, x1 + 1, g2, none, [], by omega, by omega, rfl, (by first | (simp only [↓gaW, ↓gaV, ↓gaC, ↓gaN, gaP, Nat.reduceEqDiff, Nat.reduceLeDiff, Nat.reduceAdd, Nat.reduceSub, Nat.reduceMul, Int.reduceLT, Int.reduceLE, Int.reduceEq, Int.reduceToNat, Int.reduceAdd, Int.reduceSub, Int.reduceMul, reduceCtorEq, ↓reduceIte]; done) | (simp only [↓gaW, ↓gaV, ↓gaC, ↓gaN, gaP, Nat.reduceEqDiff, Nat.reduceLeDiff, Nat.reduceAdd, Nat.reduceSub, Nat.reduceMul, Int.reduceLT, Int.reduceLE, Int.reduceEq, Int.reduceToNat, Int.reduceAdd, Int.reduceSub, Int.reduceMul, reduceCtorEq, ↓reduceIte]; rfl)), (by simp only [↓gaW, ↓gaV, ↓gaC, ↓gaN, gaP, Nat.reduceEqDiff, Nat.reduceLeDiff, Nat.reduceAdd, Nat.reduceSub, Nat.reduceMul, Int.reduceLT, Int.reduceLE, Int.reduceEq, Int.reduceToNat, Int.reduceAdd, Int.reduceSub, Int.reduceMul, reduceCtorEq, ↓reduceIte, okA, List.take_zero, Bool.and_true]), (by first | (simp only [↓gaW, ↓gaV, ↓gaC, ↓gaN, gaP, Nat.reduceEqDiff, Nat.reduceLeDiff, Nat.reduceAdd, Nat.reduceSub, Nat.reduceMul, Int.reduceLT, Int.reduceLE, Int.reduceEq, Int.reduceToNat, Int.reduceAdd, Int.reduceSub, Int.reduceMul, reduceCtorEq, ↓reduceIte]; done) | (simp only [↓gaW, ↓gaV, ↓gaC, ↓gaN, gaP, Nat.reduceEqDiff, Nat.reduceLeDiff, Nat.reduceAdd, Nat.reduceSub, Nat.reduceMul, Int.reduceLT, Int.reduceLE, Int.reduceEq, Int.reduceToNat, Int.reduceAdd, Int.reduceSub, Int.reduceMul, reduceCtorEq, ↓reduceIte]; rfl)), (by first | (simp only [↓gaW, ↓gaV, ↓gaC, ↓gaN, gaP, Nat.reduceEqDiff, Nat.reduceLeDiff, Nat.reduceAdd, Nat.reduceSub, Nat.reduceMul, Int.reduceLT, Int.reduceLE, Int.reduceEq, Int.reduceToNat, Int.reduceAdd, Int.reduceSub, Int.reduceMul, reduceCtorEq, ↓reduceIte]; done) | (simp only [↓gaW, ↓gaV, ↓gaC, ↓gaN, gaP, Nat.reduceEqDiff, Nat.reduceLeDiff, Nat.reduceAdd, Nat.reduceSub, Nat.reduceMul, Int.reduceLT, Int.reduceLE, Int.reduceEq, Int.reduceToNat, Int.reduceAdd, Int.reduceSub, Int.reduceMul, reduceCtorEq, ↓reduceIte]; rfl)), (by first | (simp only [↓gaW, ↓gaV, ↓gaC, ↓gaN, gaP, Nat.reduceEqDiff, Nat.reduceLeDiff, Nat.reduceAdd, Nat.reduceSub, Nat.reduceMul, Int.reduceLT, Int.reduceLE, Int.reduceEq, Int.reduceToNat, Int.reduceAdd, Int.reduceSub, Int.reduceMul, reduceCtorEq, ↓reduceIte]; done) | (simp only [↓gaW, ↓gaV, ↓gaC, ↓gaN, gaP, Nat.reduceEqDiff, Nat.reduceLeDiff, Nat.reduceAdd, Nat.reduceSub, Nat.reduceMul, Int.reduceLT, Int.reduceLE, Int.reduceEq, Int.reduceToNat, Int.reduceAdd, Int.reduceSub, Int.reduceMul, reduceCtorEq, ↓reduceIte]; rfl)), (by first | (simp only [↓gaW, ↓gaV, ↓gaC, ↓gaN, gaP, Nat.reduceEqDiff, Nat.reduceLeDiff, Nat.reduceAdd, Nat.reduceSub, Nat.reduceMul, Int.reduceLT, Int.reduceLE, Int.reduceEq, Int.reduceToNat, Int.reduceAdd, Int.reduceSub, Int.reduceMul, reduceCtorEq, ↓reduceIte]; done) | (simp only [↓gaW, ↓gaV, ↓gaC, ↓gaN, gaP, Nat.reduceEqDiff, Nat.reduceLeDiff, Nat.reduceAdd, Nat.reduceSub, Nat.reduceMul, Int.reduceLT, Int.reduceLE, Int.reduceEq, Int.reduceToNat, Int.reduceAdd, Int.reduceSub, Int.reduceMul, reduceCtorEq, ↓reduceIte]; rfl)), rfl, by omega, hZ, hz, Own.nil⟩ ?_
  rintro j f mm ⟨i, x2, g3, A3, o, hj, hi, ho, f1, f5, f6, f16, f17, f18, rfl, hx2, F3, hbx, hO⟩
  by_cases hlt : (i : Int) < (n1 : Int)
  · obtain ⟨a, cl, ro, rfl, r2, r3, r4, r5⟩ := r1.cells (by omega)
    obtain ⟨y, hy⟩ : ∃ y, y = L.getD i 0 := ⟨_, rfl⟩
    have hyl : L[i]? = some y := by rw [hy, List.getD_eq_getElem?_getD, List.getElem?_eq_getElem (by omega)]; rfl
    have hy40 : y < 1099511627776 := hlt1 y (List.mem_of_getElem? hyl)
    have c0 : cl.getD (a.off + i) undef = .int .u64 (y : Nat) := by
      rw [r5 i (by omega), List.getD_eq_getElem?_getD, List.getElem?_map, hyl]; rfl
    have h3q : g3 a.block = some (.cells cl ro) := by rw [F3 _ r2, r3]
    have htk : L.take (i + 1) = L.take i ++ [y] := by rw [List.take_add_one, hyl]; rfl
    have hol : o.length ≤ i + 1 := by
      rw [ho]; have := ao_len (L := L.take i); rw [List.length_take] at this; omega
    have i2 : IntKind.i64.wrap ((i : Int) + 1) = ((i + 1 : Nat) : Int) := by rw [i64_w _ (by omega)]; omega
    obtain ⟨e, he⟩ : ∃ e, e = (is0 && okA (L.take i)) := ⟨_, rfl⟩
    rw [← he] at f5
    by_cases hi0 : (i : Int) = 0
    · have hi00 : i = 0 := by omega
      have hi1 : ((i : Int) = 0) = True := eq_true hi0
      have ho0 : o = [] := by rw [ho, hi00]; rfl
      obtain ⟨q, hq⟩ : ∃ q, q = min (y / 40) 2 := ⟨_, rfl⟩
      have j1 : (if (2 : Int) < IntKind.u64.wrap ((y : Int).tdiv 40) then (2 : Int) else IntKind.u64.wrap ((y : Int).tdiv 40)) = (q : Nat) := by
        rw [Int.tdiv_eq_ediv_of_nonneg (by omega), u64_w, hq]
        split <;> omega
      have j2 : Value.int .u32 (IntKind.u32.wrap (q : Int)) = u32V (UInt32.ofNat q) := u32_of q (by omega)
      have j3 : IntKind.u64.wrap ((y : Int) - IntKind.u64.wrap ((q : Int) * 40)) = ((y - 40 * q : Nat) : Int) := by simp only [u64_w]; omega
      obtain ⟨z, hzz⟩ : ∃ z, z = y - 40 * q := ⟨_, rfl⟩
      rw [← hzz] at j3
      have j4 : Value.int .u32 (IntKind.u32.wrap (z : Int)) = u32V (UInt32.ofNat z) := u32M z
      obtain ⟨w, hw⟩ : ∃ w, w = UInt32.ofNat q := ⟨_, rfl⟩
      obtain ⟨w2, hw2⟩ : ∃ w2, w2 = UInt32.ofNat z := ⟨_, rfl⟩
      rw [← hw] at j2
      rw [← hw2] at j4
      have hao : ao (L.take (i + 1)) = o ++ [w] ++ [w2] := by rw [htk, hi00, ho0, hw, hw2, hzz, hq]; rfl
      have hokA : okA (L.take (i + 1)) = decide (z < 4294967296) := by rw [htk, hi00, hzz, hq]; simp [okA]
      have he2 : e = is0 := by rw [he, hi00]; simp [okA]
      simp only [↓gaW, ↓gaV, ↓gaC, ↓gaN, gaP, Nat.reduceEqDiff, Nat.reduceLeDiff, Nat.reduceAdd, Nat.reduceSub, Nat.reduceMul, Int.reduceLT, Int.reduceLE, Int.reduceEq, Int.reduceToNat, Int.reduceAdd, Int.reduceSub, Int.reduceMul, reduceCtorEq, ↓reduceIte, List.getD_cons_zero, List.getD_cons_succ, fillL, splice, List.take_zero, List.drop_zero, List.drop_succ_cons, List.take_succ_cons, List.drop_nil, List.take_nil, f1, f5, f6, f16, f17, f18, hlt, decide_true, h3q, c0, hi1, j1, j2, hbx, Bool.false_eq_true, if_false, gaU]
      repeat refine And.intro (by omega) ?_
      have hZw : ∀ p, p < x2 → upd g3 x2 (some (.cells [u32V w] false)) p = g3 p := fun p hp => by rw [upd_e, if_neg (by omega)]
      have erw : rowOf ⟨x2 + 1, b, upd g3 x2 (some (.cells [u32V w] false))⟩ (some ⟨x2, 0, none⟩) 1 = some [u32V w] := row_new (l := [u32V w]) (by simp)
      rw [erw]
      simp only [asO_e]
      refine own_append (nx := x1 + 1) (k := 1) (hO.keep (Nat.le_succ _) hZw) (by omega) (by omega) (by omega) (by omega) rfl (all1 rfl) (by omega) (by omega) fun gw hgw how => ?_
      have hbgw : gw x1 = some (.cells [.slice A3 o.length o.length] false) := by rw [hgw x1 (by omega), hZw x1 (by omega), hbx]
      simp only [↓gaW, ↓gaV, ↓gaC, ↓gaN, gaP, Nat.reduceEqDiff, Nat.reduceLeDiff, Nat.reduceAdd, Nat.reduceSub, Nat.reduceMul, Int.reduceLT, Int.reduceLE, Int.reduceEq, Int.reduceToNat, Int.reduceAdd, Int.reduceSub, Int.reduceMul, reduceCtorEq, ↓reduceIte, List.getD_cons_zero, List.getD_cons_succ, fillL, splice, List.take_zero, List.drop_zero, List.drop_succ_cons, List.take_succ_cons, List.drop_nil, List.take_nil, gaU, hbgw, f5, f6, j3]
      repeat refine And.intro (by omega) ?_
      refine And.intro (all1 rfl) ?_
      repeat refine And.intro (by omega) ?_
      have ho2w : Own (x1 + 1) b (x2 + 1 + 1) gw 1 (some ⟨x2 + 1, 0, some 1⟩) (o ++ [w]).length ((o ++ [w]).map u32V) := by
        rw [List.length_append, List.map_append]; exact how
      have elnw : o.length + 1 = (o ++ [w]).length := by simp
      rw [elnw]
      obtain ⟨g4, egw⟩ : ∃ g', g' = upd gw x1 (some (.cells [Value.slice (some ⟨x2 + 1, 0, some 1⟩) (o ++ [w]).length (o ++ [w]).length] false)) := ⟨_, rfl⟩
      have hbx4 : g4 x1 = some (.cells [Value.slice (some ⟨x2 + 1, 0, some 1⟩) (o ++ [w]).length (o ++ [w]).length] false) := by rw [egw, upd_e, if_pos rfl]
      have F4 : ∀ p, p < x1 → g4 p = g1 p := fun p hp => by rw [egw, upd_e, if_neg (by omega), hgw p (by omega), hZw p (by omega), F3 p hp]
      have hO4 : Own (x1 + 1) b (x2 + 1 + 1) g4 1 (some ⟨x2 + 1, 0, some 1⟩) (o ++ [w]).length ((o ++ [w]).map u32V) := ho2w.off fun p hp => by rw [egw, upd_e, if_neg (by omega)]
      obtain ⟨x4, exw⟩ : ∃ y, y = x2 + 1 + 1 := ⟨_, rfl⟩
      rw [← exw] at hO4 ⊢
      try rw [← egw]
      clear egw
      cases e with
      | true =>
        simp only [↓gaW, ↓gaV, ↓gaC, ↓gaN, gaP, Nat.reduceEqDiff, Nat.reduceLeDiff, Nat.reduceAdd, Nat.reduceSub, Nat.reduceMul, Int.reduceLT, Int.reduceLE, Int.reduceEq, Int.reduceToNat, Int.reduceAdd, Int.reduceSub, Int.reduceMul, reduceCtorEq, ↓reduceIte, List.getD_cons_zero, List.getD_cons_succ, fillL, splice, List.take_zero, List.drop_zero, List.drop_succ_cons, List.take_succ_cons, List.drop_nil, List.take_nil, hbx4, j4, f6, shr32, gaU]
        repeat refine And.intro (by omega) ?_
        have hZw2 : ∀ p, p < x4 → upd g4 x4 (some (.cells [u32V w2] false)) p = g4 p := fun p hp => by rw [upd_e, if_neg (by omega)]
        have erw2 : rowOf ⟨x4 + 1, b, upd g4 x4 (some (.cells [u32V w2] false))⟩ (some ⟨x4, 0, none⟩) 1 = some [u32V w2] := row_new (l := [u32V w2]) (by simp)
        rw [erw2]
        simp only [asO_e]
        refine own_append (nx := x1 + 1) (k := 1) (hO4.keep (Nat.le_succ _) hZw2) (by omega) (by omega) (by omega) (by omega) rfl (all1 rfl) (by omega) (by omega) fun gw2 hgw2 how2 => ?_
        have hbgw2 : gw2 x1 = some (.cells [.slice (some ⟨x2 + 1, 0, some 1⟩) (o ++ [w]).length (o ++ [w]).length] false) := by rw [hgw2 x1 (by omega), hZw2 x1 (by omega), hbx4]
        simp only [↓gaW, ↓gaV, ↓gaC, ↓gaN, gaP, Nat.reduceEqDiff, Nat.reduceLeDiff, Nat.reduceAdd, Nat.reduceSub, Nat.reduceMul, Int.reduceLT, Int.reduceLE, Int.reduceEq, Int.reduceToNat, Int.reduceAdd, Int.reduceSub, Int.reduceMul, reduceCtorEq, ↓reduceIte, List.getD_cons_zero, List.getD_cons_succ, fillL, splice, List.take_zero, List.drop_zero, List.drop_succ_cons, List.take_succ_cons, List.drop_nil, List.take_nil, gaU, hbgw2, f18, i2, loopK_n]
        repeat refine And.intro (by omega) ?_
        refine And.intro (all1 rfl) ?_
        repeat refine And.intro (by omega) ?_
        have ho2w2 : Own (x1 + 1) b (x4 + 1 + 1) gw2 1 (some ⟨x4 + 1, 0, some 1⟩) ((o ++ [w]) ++ [w2]).length (((o ++ [w]) ++ [w2]).map u32V) := by
          rw [List.length_append, List.map_append]; exact how2
        have elnw2 : (o ++ [w]).length + 1 = ((o ++ [w]) ++ [w2]).length := by simp
        rw [elnw2]
        obtain ⟨g6, egw2⟩ : ∃ g', g' = upd gw2 x1 (some (.cells [Value.slice (some ⟨x4 + 1, 0, some 1⟩) ((o ++ [w]) ++ [w2]).length ((o ++ [w]) ++ [w2]).length] false)) := ⟨_, rfl⟩
        have hbx6 : g6 x1 = some (.cells [Value.slice (some ⟨x4 + 1, 0, some 1⟩) ((o ++ [w]) ++ [w2]).length ((o ++ [w]) ++ [w2]).length] false) := by rw [egw2, upd_e, if_pos rfl]
        have F6 : ∀ p, p < x1 → g6 p = g1 p := fun p hp => by rw [egw2, upd_e, if_neg (by omega), hgw2 p (by omega), hZw2 p (by omega), F4 p hp]
        have hO6 : Own (x1 + 1) b (x4 + 1 + 1) g6 1 (some ⟨x4 + 1, 0, some 1⟩) ((o ++ [w]) ++ [w2]).length (((o ++ [w]) ++ [w2]).map u32V) := ho2w2.off fun p hp => by rw [egw2, upd_e, if_neg (by omega)]
        obtain ⟨x6, exw2⟩ : ∃ y, y = x4 + 1 + 1 := ⟨_, rfl⟩
        rw [← exw2] at hO6 ⊢
        try rw [← egw2]
        clear egw2
        refine ⟨n1 - (i + 1), by omega, i + 1, x6, g6, some ⟨x4 + 1, 0, some 1⟩, o ++ [w] ++ [w2], rfl, by omega, hao.symm, f1, by rw [hokA, ← he2, Bool.true_and]; exact congrArg Value.bool (decide_eq_decide.2 (by omega)), f6, f16, f17, rfl, rfl, by omega, F6, hbx6, hO6⟩
      | false =>
        simp only [↓gaW, ↓gaV, ↓gaC, ↓gaN, gaP, Nat.reduceEqDiff, Nat.reduceLeDiff, Nat.reduceAdd, Nat.reduceSub, Nat.reduceMul, Int.reduceLT, Int.reduceLE, Int.reduceEq, Int.reduceToNat, Int.reduceAdd, Int.reduceSub, Int.reduceMul, reduceCtorEq, ↓reduceIte, List.getD_cons_zero, List.getD_cons_succ, fillL, splice, List.take_zero, List.drop_zero, List.drop_succ_cons, List.take_succ_cons, List.drop_nil, List.take_nil, hbx4, j4, f6, gaU]
        repeat refine And.intro (by omega) ?_
        have hZw2 : ∀ p, p < x4 → upd g4 x4 (some (.cells [u32V w2] false)) p = g4 p := fun p hp => by rw [upd_e, if_neg (by omega)]
        have erw2 : rowOf ⟨x4 + 1, b, upd g4 x4 (some (.cells [u32V w2] false))⟩ (some ⟨x4, 0, none⟩) 1 = some [u32V w2] := row_new (l := [u32V w2]) (by simp)
        rw [erw2]
        simp only [asO_e]
        refine own_append (nx := x1 + 1) (k := 1) (hO4.keep (Nat.le_succ _) hZw2) (by omega) (by omega) (by omega) (by omega) rfl (all1 rfl) (by omega) (by omega) fun gw2 hgw2 how2 => ?_
        have hbgw2 : gw2 x1 = some (.cells [.slice (some ⟨x2 + 1, 0, some 1⟩) (o ++ [w]).length (o ++ [w]).length] false) := by rw [hgw2 x1 (by omega), hZw2 x1 (by omega), hbx4]
        simp only [↓gaW, ↓gaV, ↓gaC, ↓gaN, gaP, Nat.reduceEqDiff, Nat.reduceLeDiff, Nat.reduceAdd, Nat.reduceSub, Nat.reduceMul, Int.reduceLT, Int.reduceLE, Int.reduceEq, Int.reduceToNat, Int.reduceAdd, Int.reduceSub, Int.reduceMul, reduceCtorEq, ↓reduceIte, List.getD_cons_zero, List.getD_cons_succ, fillL, splice, List.take_zero, List.drop_zero, List.drop_succ_cons, List.take_succ_cons, List.drop_nil, List.take_nil, gaU, hbgw2, f18, i2, loopK_n]
        repeat refine And.intro (by omega) ?_
        refine And.intro (all1 rfl) ?_
        repeat refine And.intro (by omega) ?_
        have ho2w2 : Own (x1 + 1) b (x4 + 1 + 1) gw2 1 (some ⟨x4 + 1, 0, some 1⟩) ((o ++ [w]) ++ [w2]).length (((o ++ [w]) ++ [w2]).map u32V) := by
          rw [List.length_append, List.map_append]; exact how2
        have elnw2 : (o ++ [w]).length + 1 = ((o ++ [w]) ++ [w2]).length := by simp
        rw [elnw2]
        obtain ⟨g6, egw2⟩ : ∃ g', g' = upd gw2 x1 (some (.cells [Value.slice (some ⟨x4 + 1, 0, some 1⟩) ((o ++ [w]) ++ [w2]).length ((o ++ [w]) ++ [w2]).length] false)) := ⟨_, rfl⟩
        have hbx6 : g6 x1 = some (.cells [Value.slice (some ⟨x4 + 1, 0, some 1⟩) ((o ++ [w]) ++ [w2]).length ((o ++ [w]) ++ [w2]).length] false) := by rw [egw2, upd_e, if_pos rfl]
        have F6 : ∀ p, p < x1 → g6 p = g1 p := fun p hp => by rw [egw2, upd_e, if_neg (by omega), hgw2 p (by omega), hZw2 p (by omega), F4 p hp]
        have hO6 : Own (x1 + 1) b (x4 + 1 + 1) g6 1 (some ⟨x4 + 1, 0, some 1⟩) ((o ++ [w]) ++ [w2]).length (((o ++ [w]) ++ [w2]).map u32V) := ho2w2.off fun p hp => by rw [egw2, upd_e, if_neg (by omega)]
        obtain ⟨x6, exw2⟩ : ∃ y, y = x4 + 1 + 1 := ⟨_, rfl⟩
        rw [← exw2] at hO6 ⊢
        try rw [← egw2]
        clear egw2
        refine ⟨n1 - (i + 1), by omega, i + 1, x6, g6, some ⟨x4 + 1, 0, some 1⟩, o ++ [w] ++ [w2], rfl, by omega, hao.symm, f1, by rw [hokA, ← he2, Bool.false_and], f6, f16, f17, rfl, rfl, by omega, F6, hbx6, hO6⟩
    · have hi1 : ((i : Int) = 0) = False := eq_false hi0
      have hne : L.take i ≠ [] := fun h => by
        have := congrArg List.length h
        rw [List.length_take, List.length_nil] at this; omega
      obtain ⟨w, hw⟩ : ∃ w, w = UInt32.ofNat y := ⟨_, rfl⟩
      have j4 : Value.int .u32 (IntKind.u32.wrap (y : Int)) = u32V w := by rw [hw]; exact u32M y
      have hao : ao (L.take (i + 1)) = o ++ [w] := by rw [htk, ao_snoc hne, ← ho, hw]
      have hokA : okA (L.take (i + 1)) = (okA (L.take i) && decide (y < 4294967296)) := by rw [htk, okA_snoc hne]
      cases e with
      | true =>
        simp only [↓gaW, ↓gaV, ↓gaC, ↓gaN, gaP, Nat.reduceEqDiff, Nat.reduceLeDiff, Nat.reduceAdd, Nat.reduceSub, Nat.reduceMul, Int.reduceLT, Int.reduceLE, Int.reduceEq, Int.reduceToNat, Int.reduceAdd, Int.reduceSub, Int.reduceMul, reduceCtorEq, ↓reduceIte, List.getD_cons_zero, List.getD_cons_succ, fillL, splice, List.take_zero, List.drop_zero, List.drop_succ_cons, List.take_succ_cons, List.drop_nil, List.take_nil, f1, f5, f6, f16, f17, f18, hlt, decide_true, decide_false, h3q, c0, hi1, hbx, j4, shr32, gaU]
        repeat refine And.intro (by omega) ?_
        have hZw : ∀ p, p < x2 → upd g3 x2 (some (.cells [u32V w] false)) p = g3 p := fun p hp => by rw [upd_e, if_neg (by omega)]
        have erw : rowOf ⟨x2 + 1, b, upd g3 x2 (some (.cells [u32V w] false))⟩ (some ⟨x2, 0, none⟩) 1 = some [u32V w] := row_new (l := [u32V w]) (by simp)
        rw [erw]
        simp only [asO_e]
        refine own_append (nx := x1 + 1) (k := 1) (hO.keep (Nat.le_succ _) hZw) (by omega) (by omega) (by omega) (by omega) rfl (all1 rfl) (by omega) (by omega) fun gw hgw how => ?_
        have hbgw : gw x1 = some (.cells [.slice A3 o.length o.length] false) := by rw [hgw x1 (by omega), hZw x1 (by omega), hbx]
        simp only [↓gaW, ↓gaV, ↓gaC, ↓gaN, gaP, Nat.reduceEqDiff, Nat.reduceLeDiff, Nat.reduceAdd, Nat.reduceSub, Nat.reduceMul, Int.reduceLT, Int.reduceLE, Int.reduceEq, Int.reduceToNat, Int.reduceAdd, Int.reduceSub, Int.reduceMul, reduceCtorEq, ↓reduceIte, List.getD_cons_zero, List.getD_cons_succ, fillL, splice, List.take_zero, List.drop_zero, List.drop_succ_cons, List.take_succ_cons, List.drop_nil, List.take_nil, gaU, hbgw, f18, i2, loopK_n]
        repeat refine And.intro (by omega) ?_
        refine And.intro (all1 rfl) ?_
        repeat refine And.intro (by omega) ?_
        have ho2w : Own (x1 + 1) b (x2 + 1 + 1) gw 1 (some ⟨x2 + 1, 0, some 1⟩) (o ++ [w]).length ((o ++ [w]).map u32V) := by
          rw [List.length_append, List.map_append]; exact how
        have elnw : o.length + 1 = (o ++ [w]).length := by simp
        rw [elnw]
        obtain ⟨g4, egw⟩ : ∃ g', g' = upd gw x1 (some (.cells [Value.slice (some ⟨x2 + 1, 0, some 1⟩) (o ++ [w]).length (o ++ [w]).length] false)) := ⟨_, rfl⟩
        have hbx4 : g4 x1 = some (.cells [Value.slice (some ⟨x2 + 1, 0, some 1⟩) (o ++ [w]).length (o ++ [w]).length] false) := by rw [egw, upd_e, if_pos rfl]
        have F4 : ∀ p, p < x1 → g4 p = g1 p := fun p hp => by rw [egw, upd_e, if_neg (by omega), hgw p (by omega), hZw p (by omega), F3 p hp]
        have hO4 : Own (x1 + 1) b (x2 + 1 + 1) g4 1 (some ⟨x2 + 1, 0, some 1⟩) (o ++ [w]).length ((o ++ [w]).map u32V) := ho2w.off fun p hp => by rw [egw, upd_e, if_neg (by omega)]
        obtain ⟨x4, exw⟩ : ∃ y, y = x2 + 1 + 1 := ⟨_, rfl⟩
        rw [← exw] at hO4 ⊢
        try rw [← egw]
        clear egw
        refine ⟨n1 - (i + 1), by omega, i + 1, x4, g4, some ⟨x2 + 1, 0, some 1⟩, o ++ [w], rfl, by omega, hao.symm, f1, by rw [hokA, ← Bool.and_assoc, ← he, Bool.true_and]; exact congrArg Value.bool (decide_eq_decide.2 (by omega)), f6, f16, f17, rfl, rfl, by omega, F4, hbx4, hO4⟩
      | false =>
        simp only [↓gaW, ↓gaV, ↓gaC, ↓gaN, gaP, Nat.reduceEqDiff, Nat.reduceLeDiff, Nat.reduceAdd, Nat.reduceSub, Nat.reduceMul, Int.reduceLT, Int.reduceLE, Int.reduceEq, Int.reduceToNat, Int.reduceAdd, Int.reduceSub, Int.reduceMul, reduceCtorEq, ↓reduceIte, List.getD_cons_zero, List.getD_cons_succ, fillL, splice, List.take_zero, List.drop_zero, List.drop_succ_cons, List.take_succ_cons, List.drop_nil, List.take_nil, f1, f5, f6, f16, f17, f18, hlt, decide_true, decide_false, h3q, c0, hi1, hbx, j4, gaU]
        repeat refine And.intro (by omega) ?_
        have hZw : ∀ p, p < x2 → upd g3 x2 (some (.cells [u32V w] false)) p = g3 p := fun p hp => by rw [upd_e, if_neg (by omega)]
        have erw : rowOf ⟨x2 + 1, b, upd g3 x2 (some (.cells [u32V w] false))⟩ (some ⟨x2, 0, none⟩) 1 = some [u32V w] := row_new (l := [u32V w]) (by simp)
        rw [erw]
        simp only [asO_e]
        refine own_append (nx := x1 + 1) (k := 1) (hO.keep (Nat.le_succ _) hZw) (by omega) (by omega) (by omega) (by omega) rfl (all1 rfl) (by omega) (by omega) fun gw hgw how => ?_
        have hbgw : gw x1 = some (.cells [.slice A3 o.length o.length] false) := by rw [hgw x1 (by omega), hZw x1 (by omega), hbx]
        simp only [↓gaW, ↓gaV, ↓gaC, ↓gaN, gaP, Nat.reduceEqDiff, Nat.reduceLeDiff, Nat.reduceAdd, Nat.reduceSub, Nat.reduceMul, Int.reduceLT, Int.reduceLE, Int.reduceEq, Int.reduceToNat, Int.reduceAdd, Int.reduceSub, Int.reduceMul, reduceCtorEq, ↓reduceIte, List.getD_cons_zero, List.getD_cons_succ, fillL, splice, List.take_zero, List.drop_zero, List.drop_succ_cons, List.take_succ_cons, List.drop_nil, List.take_nil, gaU, hbgw, f18, i2, loopK_n]
        repeat refine And.intro (by omega) ?_
        refine And.intro (all1 rfl) ?_
        repeat refine And.intro (by omega) ?_
        have ho2w : Own (x1 + 1) b (x2 + 1 + 1) gw 1 (some ⟨x2 + 1, 0, some 1⟩) (o ++ [w]).length ((o ++ [w]).map u32V) := by
          rw [List.length_append, List.map_append]; exact how
        have elnw : o.length + 1 = (o ++ [w]).length := by simp
        rw [elnw]
        obtain ⟨g4, egw⟩ : ∃ g', g' = upd gw x1 (some (.cells [Value.slice (some ⟨x2 + 1, 0, some 1⟩) (o ++ [w]).length (o ++ [w]).length] false)) := ⟨_, rfl⟩
        have hbx4 : g4 x1 = some (.cells [Value.slice (some ⟨x2 + 1, 0, some 1⟩) (o ++ [w]).length (o ++ [w]).length] false) := by rw [egw, upd_e, if_pos rfl]
        have F4 : ∀ p, p < x1 → g4 p = g1 p := fun p hp => by rw [egw, upd_e, if_neg (by omega), hgw p (by omega), hZw p (by omega), F3 p hp]
        have hO4 : Own (x1 + 1) b (x2 + 1 + 1) g4 1 (some ⟨x2 + 1, 0, some 1⟩) (o ++ [w]).length ((o ++ [w]).map u32V) := ho2w.off fun p hp => by rw [egw, upd_e, if_neg (by omega)]
        obtain ⟨x4, exw⟩ : ∃ y, y = x2 + 1 + 1 := ⟨_, rfl⟩
        rw [← exw] at hO4 ⊢
        try rw [← egw]
        clear egw
        refine ⟨n1 - (i + 1), by omega, i + 1, x4, g4, some ⟨x2 + 1, 0, some 1⟩, o ++ [w], rfl, by omega, hao.symm, f1, by rw [hokA, ← Bool.and_assoc, ← he, Bool.false_and], f6, f16, f17, rfl, rfl, by omega, F4, hbx4, hO4⟩
  · have hin : i = n1 := by omega
    have hb3 : g3 nx = some (.cells (nodeL x.t B m d A n c) false) := by rw [F3 nx (by omega), hb1]
    have htl : L.take i = L := by rw [hin, hn1, List.take_length]
    rw [htl] at ho f5
    have hol : o.length ≤ n1 + 1 := by rw [ho]; have := ao_len (L := L); omega
    obtain ⟨e, he⟩ : ∃ e, e = (is0 && okA L) := ⟨_, rfl⟩
    rw [← he] at f5
    have hrw := hO.row
    rw [Nat.mul_one] at hrw
    have F3' : ∀ p, p < nx → g3 p = gt p := fun p hp => by rw [F3 p (by omega), F1 p hp]
    simp only [↓gaW, ↓gaV, ↓gaC, ↓gaN, gaP, Nat.reduceEqDiff, Nat.reduceLeDiff, Nat.reduceAdd, Nat.reduceSub, Nat.reduceMul, Int.reduceLT, Int.reduceLE, Int.reduceEq, Int.reduceToNat, Int.reduceAdd, Int.reduceSub, Int.reduceMul, reduceCtorEq, ↓reduceIte, List.getD_cons_zero, List.getD_cons_succ, fillL, splice, List.take_zero, List.drop_zero, List.drop_succ_cons, List.take_succ_cons, List.drop_nil, List.take_nil, f1, f5, f6, f16, f17, f18, hlt, decide_false, hbx, hb3]
    repeat refine And.intro (by omega) ?_
    refine callK_of (ct_justU (r := oidR o) (h.keep (x' := x2) (by omega) F3') (by omega) (fun y' hy' => by have := oidR_ws hy'; omega) (fun nx' g h1 h2 => ct_Arcs1 (q := x1) (by omega) (by rw [h2 x1 (by omega), hbx]) (hrw.keep h1 h2) (Nat.le_refl _) (by omega))) (fun v x4 g4 l4 k4 hC => ?_) (by omega)
    obtain ⟨bb, hbb, rfl⟩ := hC
    have F4 : ∀ p, p < nx → g4 p = gt p := fun p hp => by rw [k4 p (by omega), F3' p hp]
    have hj : justP e x (oidR o) ↔ (e = true ∧ oidR o = .ok x) := by
      unfold justP
      constructor
      · rintro ⟨h1, z, h2, h3⟩
        exact ⟨h1, by rw [h2, (alike_eq (oidR_k h2)).1 h3]⟩
      · rintro ⟨h1, h2⟩
        exact ⟨h1, x, h2, (alike_eq (oidR_k h2)).2 rfl⟩
    cases bb with
    | true =>
      have hc := hj.1 (hbb.1 rfl)
      simp only [↓gaW, ↓gaV, ↓gaC, ↓gaN, gaP, Nat.reduceEqDiff, Nat.reduceLeDiff, Nat.reduceAdd, Nat.reduceSub, Nat.reduceMul, Int.reduceLT, Int.reduceLE, Int.reduceEq, Int.reduceToNat, Int.reduceAdd, Int.reduceSub, Int.reduceMul, reduceCtorEq, ↓reduceIte, gaE, implies_true, Nat.le_refl, Int.sub_zero, Nat.sub_zero, Int.le_refl, true_or, or_true, List.getD_cons_zero, List.getD_cons_succ, fillL, splice, List.take_zero, List.drop_zero, List.drop_succ_cons, List.take_succ_cons, List.drop_nil, List.take_nil, if_true, arcsR_ok hc.2]
      repeat refine And.intro (by omega) ?_
      have hfin : UErr x4 g4 (.tuple #[.slice A3 o.length o.length, .int .i64 0]) (o, 0) := ⟨_, rfl, A3, _, rfl, rfl, hrw.keep l4 k4⟩
      first | exact ⟨F4, hfin⟩ | exact hfin
    | false =>
      have er : arcsR x = ([], 2) := arcsR_no fun l hl => by
        obtain ⟨q1, q2⟩ := oidR_ok hl
        obtain ⟨L', p1, p2, p3, p4⟩ := nums_oid q1
        have hxb : x.b = oidB l := by rw [q2]
        have hLp : 0 < L'.length := List.length_pos_iff.2 p2
        have e2 : numsR x.b = (L', true) := by unfold numsR; rw [hxb, p1]; simp [hLp]
        rw [hR] at e2
        injection e2 with e3 e4
        have : false = true := hbb.2 (hj.2 ⟨by rw [he, e4, e3, p4]; rfl, by rw [ho, e3, p3]; exact hl⟩)
        cases this
      simp only [↓gaW, ↓gaV, ↓gaC, ↓gaN, gaP, Nat.reduceEqDiff, Nat.reduceLeDiff, Nat.reduceAdd, Nat.reduceSub, Nat.reduceMul, Int.reduceLT, Int.reduceLE, Int.reduceEq, Int.reduceToNat, Int.reduceAdd, Int.reduceSub, Int.reduceMul, reduceCtorEq, ↓reduceIte, gaE, implies_true, Nat.le_refl, Int.sub_zero, Nat.sub_zero, Int.le_refl, true_or, or_true, List.getD_cons_zero, List.getD_cons_succ, fillL, splice, List.take_zero, List.drop_zero, List.drop_succ_cons, List.take_succ_cons, List.drop_nil, List.take_nil, Bool.false_eq_true, if_false, er]
      repeat refine And.intro (by omega) ?_
      have hfin : UErr x4 g4 (.tuple #[.slice none 0 0, .int .i64 2]) ([], 2) := ⟨_, rfl, none, 0, rfl, rfl, .nil⟩
      first | exact ⟨F4, hfin⟩ | exact hfin
end
end Go.Ga

/- The document's numbers of an element. -/
namespace Go.Ga
open Go Go.Proofs
set_option linter.unusedSimpArgs false
set_option linter.unusedVariables false
set_option maxRecDepth 100000
attribute [local irreducible] appendK

section
variable {nx : Nat} {gt : Nat → Option Blk}

end
end Go.Ga

/- The document's numbers; a number and an object's name. -/
namespace Go.Ga
open Go Go.Proofs
set_option linter.unusedSimpArgs false
set_option linter.unusedVariables false
set_option maxRecDepth 100000
attribute [local irreducible] appendK

theorem valFrom_be (n : Nat) : ∀ k x, valFrom x (be k n) = x * 256 ^ k + n % 256 ^ k := by
  intro k
  induction k with
  | zero => intro x; simp [be, valFrom, Nat.mod_one]
  | succ k ih =>
    intro x
    have hb : be (k + 1) n = UInt8.ofNat (n / 256 ^ k) :: be k n := by
      unfold be
      rw [List.range_succ_eq_map, List.map_cons, List.map_map]
      congr 1
      refine List.map_congr_left fun i hi => ?_
      have := List.mem_range.1 hi
      show UInt8.ofNat (n / 256 ^ (k + 1 - 1 - (i + 1))) = _
      rw [show k + 1 - 1 - (i + 1) = k - 1 - i by omega]
    rw [hb, valFrom_cons, ih]
    have e1 : (UInt8.ofNat (n / 256 ^ k)).toNat = n / 256 ^ k % 256 := UInt8.toNat_ofNat'
    rw [e1, Nat.pow_succ, Nat.mod_mul, Nat.add_mul, Nat.mul_assoc, Nat.mul_comm 256 (256 ^ k), Nat.mul_comm (n / 256 ^ k % 256)]
    omega
theorem val_be {k n : Nat} (h : n < 256 ^ k) : val (be k n) = n := by
  show valFrom 0 (be k n) = n
  rw [valFrom_be, Nat.zero_mul, Nat.zero_add, Nat.mod_eq_of_lt h]
theorem val_bare (l : List UInt8) : val (bare l) = val l := by
  induction l with
  | nil => rfl
  | cons x t ih =>
    by_cases h : x = 0
    · subst h
      rw [bare_0, ih]
      show _ = valFrom 0 (0 :: t)
      rw [valFrom_cons]; rfl
    · rw [bare_n h]
theorem val_bigB (l : List UInt8) : val (bigB l) = val l := by
  cases l with
  | nil => rfl
  | cons x t =>
    show val (if 128 ≤ x.toNat then 0 :: x :: t else x :: t) = _
    by_cases h : 128 ≤ x.toNat
    · rw [if_pos h]
      show valFrom 0 (0 :: x :: t) = _
      rw [valFrom_cons]; rfl
    · rw [if_neg h]
theorem val_int {n : Nat} {y : Fo.El} (h : intE n y) : val y.b = n := by
  obtain ⟨k, hk, rfl⟩ := h
  show val (bigB (bare (be k n))) = n
  rw [val_bigB, val_bare, val_be hk.2.2.1]
theorem uint_int {n : Nat} {y : Fo.El} (hn : n < 18446744073709551616) (h : intE n y) : uintR y = (n, 0) := by
  unfold uintR
  rw [val_int h, if_pos ⟨hn, h⟩]

section
variable {nx : Nat} {gt : Nat → Option Blk}

theorem oid_awake : oidR [1, 2, 840] = .ok ⟨6, [42, 134, 72], .nil⟩ := by
  have e1 : sv 42 = [42] := by unfold sv le7; rw [show 42 / 128 = 0 by decide, sg_0]; rfl
  have e2 : sv 840 = [134, 72] := by unfold sv le7; rw [show 840 / 128 = 6 by decide, sg_s (by decide), show 6 / 128 = 0 by decide, sg_0]; rfl
  have e3 : oidB [1, 2, 840] = [42, 134, 72] := by
    show sv 42 ++ (sv 840 ++ []) = _
    rw [e1, e2]; rfl
  unfold oidR
  rw [if_pos (by rfl), e3]
theorem ct_awake05 : Ct Tryd.prog 9 [] nx gt fun v _ _ => v = .bool true := by
  refine Ct.of hmx r_lanyardlaw05_awake (by simp [c_lanyardlaw05_awake]) fun b hb => ?_
  simp only [c_lanyardlaw05_awake, ↓gaW, ↓gaV, ↓gaC, ↓gaN, gaP, Nat.reduceEqDiff, Nat.reduceLeDiff, Nat.reduceAdd, Nat.reduceSub, Nat.reduceMul, Int.reduceLT, Int.reduceLE, Int.reduceEq, Int.reduceToNat, Int.reduceAdd, Int.reduceSub, Int.reduceMul, reduceCtorEq, ↓reduceIte, List.getD_cons_zero, List.getD_cons_succ, fillL, splice, List.take_zero, List.drop_zero, List.drop_succ_cons, List.take_succ_cons, List.drop_nil, List.take_nil, gaU]
  refine callK_of (ct_Int (n := 128) (by omega)) (fun v x1 g1 l1 k1 hC => ?_) (by omega)
  obtain ⟨y, hy, B, m, d, A, n, c, ks, rfl, hN⟩ := hC
  have hyw := intE_ws hy
  simp only [↓gaW, ↓gaV, ↓gaC, ↓gaN, gaP, Nat.reduceEqDiff, Nat.reduceLeDiff, Nat.reduceAdd, Nat.reduceSub, Nat.reduceMul, Int.reduceLT, Int.reduceLE, Int.reduceEq, Int.reduceToNat, Int.reduceAdd, Int.reduceSub, Int.reduceMul, reduceCtorEq, ↓reduceIte, List.getD_cons_zero, List.getD_cons_succ, fillL, splice, List.take_zero, List.drop_zero, List.drop_succ_cons, List.take_succ_cons, List.drop_nil, List.take_nil]
  refine callK_of (ct_Uint hN.r (by omega)) (fun v x2 g2 l2 k2 hC => ?_) (by omega)
  rw [uint_int (by omega) hy] at hC
  subst hC
  simp only [↓gaW, ↓gaV, ↓gaC, ↓gaN, gaP, Nat.reduceEqDiff, Nat.reduceLeDiff, Nat.reduceAdd, Nat.reduceSub, Nat.reduceMul, Int.reduceLT, Int.reduceLE, Int.reduceEq, Int.reduceToNat, Int.reduceAdd, Int.reduceSub, Int.reduceMul, reduceCtorEq, ↓reduceIte, List.getD_cons_zero, List.getD_cons_succ, fillL, splice, List.take_zero, List.drop_zero, List.drop_succ_cons, List.take_succ_cons, List.drop_nil, List.take_nil]
  repeat refine And.intro (by omega) ?_
  have hZ : ∀ p, p < x2 → upd g2 x2 (some (.cells [Value.int .u32 1, .int .u32 2, .int .u32 840] false)) p = g2 p := fun p hp => by simp only [upd_e]; rw [if_neg (by omega)]
  have hz : upd g2 x2 (some (.cells [Value.int .u32 1, .int .u32 2, .int .u32 840] false)) x2 = some (.cells [Value.int .u32 1, .int .u32 2, .int .u32 840] false) := by simp only [upd_e, if_true]
  generalize upd g2 x2 (some (.cells [Value.int .u32 1, .int .u32 2, .int .u32 840] false)) = g3 at *
  have rO : Row (x2 + 1) g3 1 (some ⟨x2, 0, none⟩) 3 (([1, 2, 840] : List UInt32).map u32V) := ⟨fun a h => by injection h with h; subst h; exact .inl rfl, rfl, fun _ => ⟨⟨x2, 0, none⟩, _, _, rfl, Nat.lt_succ_self _, hz, by simp, fun i _ => by simp only [Nat.zero_add]; rfl⟩⟩
  refine callK_of (ct_Oid rO (Nat.le_refl _) (by omega)) (fun v x4 g4 l4 k4 hC => ?_) (by omega)
  rw [oid_awake] at hC
  obtain ⟨u, rfl, B', m', d', A', n', c', ks', rfl, hN'⟩ := hC
  have hm := hN'.r.blen
  simp only [List.length_cons, List.length_nil] at hm
  have e6 : ∀ (cs : List Value), rowOf ⟨x4 + 1, b, upd (upd g4 x4 (some (.cells [Value.int .i64 0, .slice none 0 0, .slice none 0 0] false))) x4 (some (.cells cs false))⟩ B' m' = some (([42, 134, 72] : List UInt8).map u8V) := fun cs => (hN'.r.body.keep (nx' := x4 + 1) (by omega) fun p hp => by simp only [upd_e]; rw [if_neg (by omega), if_neg (by omega)]).rowOf
  have e7 : bytesOf [u8V 42, u8V 134, u8V 72] = some [42, 134, 72] := bytesOf_map [42, 134, 72]
  have e8 : ((⟨([42, 134, 72] : List UInt8).toArray⟩ : ByteArray).toList == (⟨#[42, 134, 72]⟩ : ByteArray).toList) = true := by rw [show (#[42, 134, 72] : Array UInt8) = ([42, 134, 72] : List UInt8).toArray from rfl, str_eq]; rfl
  simp only [↓gaW, ↓gaV, ↓gaC, ↓gaN, gaP, Nat.reduceEqDiff, Nat.reduceLeDiff, Nat.reduceAdd, Nat.reduceSub, Nat.reduceMul, Int.reduceLT, Int.reduceLE, Int.reduceEq, Int.reduceToNat, Int.reduceAdd, Int.reduceSub, Int.reduceMul, reduceCtorEq, ↓reduceIte, gaE, implies_true, Nat.le_refl, Int.sub_zero, Nat.sub_zero, Int.le_refl, true_or, or_true, List.getD_cons_zero, List.getD_cons_succ, fillL, splice, List.take_zero, List.drop_zero, List.drop_succ_cons, List.take_succ_cons, List.drop_nil, List.take_nil, e6, e7, e8]
  repeat refine And.intro (by omega) ?_
  refine And.intro (node_cells _ _ _ _ _ _ _) ?_
  exact ⟨by omega, by omega, fun p hp => by rw [if_neg (by omega), if_neg (by omega), k4 p (by omega), hZ p (by omega), k2 p (by omega), k1 p hp]⟩
end
end Go.Ga

/- An array of whole numbers that a law is given. -/
namespace Go.Ga
open Go

section
variable {P : Program} {H : Type} {enc : TypeId × Value → H} {w : World} {base : Nat} {sp : Nat → Bool} {held : Bool} {t e : TypeId} {n : Nat} {k : IntKind}

def intOf : Option Value → Int
  | some (.int _ z) => z
  | _ => 0
def arrD (k : IntKind) (zs : List Int) : DataW H := .agg (zs.map fun z => .lit (.int k z))

end

end Go.Ga

/- A slice of words that a law is given. -/
namespace Go.Ga
open Go

theorem wf_u32 {n : Int} (h : (Lit.int .u32 n).wf = true) : 0 ≤ n ∧ n ≤ 4294967295 := by
  have := (Lit.wf_int_iff _ _).1 h
  simpa [IntKind.min, IntKind.max, IntKind.signed, IntKind.bits] using this
/-- A row's slice of words. -/
theorem absV_words {w : World} {a : Option Addr} {len cap : Nat} {zs : List Int} (h : IsRow .u32 w a len cap zs) :
    ∃ A, absV w (.slice a len cap) = .slice A len cap ∧ len ≤ cap ∧ ∃ l : List UInt32, Row w.heap.size (m0 w).get 1 A len (l.map u32V) := by
  rcases h with ⟨rfl, rfl, rfl, rfl⟩ | ⟨x, rfl, h1, h2, h3, h4, h5⟩
  · exact ⟨none, rfl, Nat.le_refl _, [], .nil⟩
  by_cases hc : cap = 0
  · subst hc
    have : len = 0 := by omega
    subst this
    exact ⟨some ⟨x.block, x.off, none⟩, by simp [absV, absC], Nat.le_refl _, [], ⟨fun a ha => by injection ha with ha; subst ha; exact .inl rfl, rfl, fun h => absurd h (Nat.lt_irrefl 0)⟩⟩
  have c0 := h4 0 (by omega)
  have hx : x.add 0 = x := by simp [Addr.add]
  rw [hx] at c0
  unfold World.cell? at c0
  split at c0
  · rename_i ce el fr hb
    have hsp : x.spot = none := by
      by_cases h : x.spot.isSome
      · rw [if_pos h] at c0; cases c0
      · simpa using h
    have hlt : x.block < w.heap.size := by
      rcases Nat.lt_or_ge x.block w.heap.size with h | h
      · exact h
      · rw [Array.getElem?_eq_none h] at hb; cases hb
    have hcell : ∀ i, i < cap → ce[x.off + i]? = some (.int .u32 (zs.getD i 0)) := by
      intro i hi
      have := h4 i (by omega)
      unfold World.cell? Addr.add at this
      by_cases h0 : i = 0
      · subst h0
        simp only [if_true, hb, hsp] at this
        simpa using this
      · simp only [if_neg h0, hb] at this
        simpa using this
    have hsz : x.off + cap ≤ ce.size := by
      have := hcell (cap - 1) (by omega)
      rcases Nat.lt_or_ge (x.off + (cap - 1)) ce.size with h | h
      · omega
      · rw [Array.getElem?_eq_none h] at this; cases this
    refine ⟨some x, ?_, h1, (zs.take len).map fun n => UInt32.ofNat n.toNat, ⟨fun a ha => by injection ha with ha; subst ha; exact .inl hsp, ?_, fun hN => ⟨x, ce.toList.map (absC w), true, rfl, hlt, ?_, ?_, fun i hi => ?_⟩⟩⟩
    · have : isCells w x.block = true := by simp [isCells, hb]
      simp [absV, absC, hc, hsp, h1, this]
    · simp; omega
    · simp [m0, hb]
    · simp; omega
    · have e1 := hcell i (by omega)
      have hz : i < zs.length := by omega
      have hw := wf_u32 (h5 (zs.getD i 0) (by rw [List.getD_eq_getElem?_getD, List.getElem?_eq_getElem hz]; exact List.getElem_mem hz))
      have e2 : ce.toList[x.off + i]? = some (.int .u32 (zs.getD i 0)) := by simpa using e1
      have e3 : (ce.toList.map (absC w)).getD (x.off + i) undef = .int .u32 (zs.getD i 0) := by
        rw [List.getD_eq_getElem?_getD, List.getElem?_map, e2]
        rfl
      rw [e3, getD_u32 (by simp; omega)]
      congr 1
      have e4 : ((zs.take len).map fun n => UInt32.ofNat n.toNat).getD i 0 = UInt32.ofNat (zs.getD i 0).toNat := by
        simp [List.getD_eq_getElem?_getD, List.getElem?_map, hi, List.getElem?_eq_getElem hz]
      rw [e4, UInt32.toNat_ofNat']
      omega
  · cases c0

end Go.Ga

/- What a law is given: what its values are made of, in the abstract memory. -/
namespace Go.Ga
open Go

section
variable {H : Type} {enc : TypeId × Value → H} {P : Program} {w : World} {held : Bool} {f : Nat} {t : TypeId} {cs : List Value}

/-- These cells are a value of this type. -/
def Shp (enc : TypeId × Value → H) (P : Program) (w : World) (held : Bool) (f : Nat) (t : TypeId) (cs : List Value) : Prop := ∃ x, DataW.trod enc P w 0 (fun _ => true) held f t cs = some x

theorem Shp.int {k : IntKind} (ht : P.underlying t = some (.int k)) (h : Shp enc P w held f t cs) : ∃ n, cs = [.int k n] ∧ (Lit.int k n).wf = true := by
  obtain ⟨x, hx⟩ := h
  obtain ⟨n, h1, _, h2⟩ := DataW.trod_int ht hx
  exact ⟨n, h1, h2⟩
theorem Shp.bool (ht : P.underlying t = some .bool) (h : Shp enc P w held f t cs) : ∃ b, cs = [.bool b] := by
  obtain ⟨x, hx⟩ := h
  obtain ⟨n, h1, _⟩ := DataW.trod_bool ht hx
  exact ⟨n, h1⟩
theorem Shp.string (ht : P.underlying t = some .string) (h : Shp enc P w held f t cs) : ∃ s : ByteArray, cs = [.string s] ∧ s.size ≤ maxLen := by
  obtain ⟨x, hx⟩ := h
  obtain ⟨n, h1, _, h2⟩ := DataW.trod_string ht hx
  exact ⟨n, h1, h2⟩
theorem Shp.struct {fs : Array Field} (ht : P.underlying t = some (.struct fs)) (h : Shp enc P w held f t cs) :
    ∃ n, f = n + 1 ∧ cs.length = P.cellsOf t ∧ ∀ (i : Nat) (fl : Field), fs[i]? = some fl → Shp enc P w held n fl.type ((cs.drop fl.offset).take (P.cellsOf fl.type)) := by
  obtain ⟨x, hx⟩ := h
  obtain ⟨xs, n, h1, _, h2, h3, h4⟩ := DataW.trod_struct ht hx
  refine ⟨n, h1, h2, fun i fl hi => ?_⟩
  have hlt : i < xs.length := by
    rw [h3]
    exact (Array.getElem?_eq_some_iff.1 hi).1
  exact ⟨xs[i], by rw [h4 i fl hi, List.getElem?_eq_getElem hlt]⟩
theorem Shp.array {m : Nat} {e : TypeId} (ht : P.underlying t = some (.array m e)) (h : Shp enc P w held f t cs) :
    ∃ n, f = n + 1 ∧ cs.length = P.cellsOf t ∧ ∀ i, i < m → Shp enc P w held n e ((cs.drop (i * P.cellsOf e)).take (P.cellsOf e)) := by
  obtain ⟨x, hx⟩ := h
  obtain ⟨xs, n, h1, _, h2, h3, h4⟩ := DataW.trod_array ht hx
  exact ⟨n, h1, h2, fun i hi => ⟨xs[i]'(by omega), by rw [h4 i hi, List.getElem?_eq_getElem (by omega)]⟩⟩

theorem cells_all {w : World} {a : Addr} {N : Nat} {g : Nat → Value} (hN : 0 < N) (h : ∀ i, i < N → w.cell? (a.add i) = some (g i)) :
    a.spot = none ∧ isCells w a.block = true ∧ a.block < w.heap.size ∧ ∃ ce : List Value, (m0 w).get a.block = some (.cells (ce.map (absC w)) true) ∧ a.off + N ≤ ce.length ∧ ∀ i, i < N → ce[a.off + i]? = some (g i) := by
  have c0 := h 0 hN
  have hx : a.add 0 = a := by simp [Addr.add]
  rw [hx] at c0
  unfold World.cell? at c0
  split at c0
  · rename_i ce el fr hb
    have hsp : a.spot = none := by
      by_cases h : a.spot.isSome
      · rw [if_pos h] at c0; cases c0
      · simpa using h
    have hlt : a.block < w.heap.size := by
      rcases Nat.lt_or_ge a.block w.heap.size with h | h
      · exact h
      · rw [Array.getElem?_eq_none h] at hb; cases hb
    have hcell : ∀ i, i < N → ce.toList[a.off + i]? = some (g i) := by
      intro i hi
      have := h i hi
      unfold World.cell? Addr.add at this
      by_cases h0 : i = 0
      · subst h0
        simp only [if_true, hb, hsp] at this
        simpa using this
      · simp only [if_neg h0, hb] at this
        simpa using this
    refine ⟨hsp, by simp [isCells, hb], hlt, ce.toList, by simp [m0, hb], ?_, hcell⟩
    have := hcell (N - 1) (by omega)
    rcases Nat.lt_or_ge (a.off + (N - 1)) ce.toList.length with h | h
    · omega
    · rw [List.getElem?_eq_none h] at this; cases this
  · cases c0

theorem add_addr {a : Addr} {i j : Nat} (_ : a.spot = none) : (a.add i).add j = a.add (i + j) := by
  unfold Addr.add
  by_cases h1 : i = 0 <;> by_cases h2 : j = 0 <;> simp [h1, h2, Nat.add_assoc]

theorem Shp.slice {e : TypeId} (ht : P.underlying t = some (.slice e)) (hc : 0 < P.cellsOf e) (h : Shp enc P w held f t cs) :
    ∃ n v A len cap, ∃ l : List Value, f = n + 1 ∧ cs = [v] ∧ absC w v = .slice A len cap ∧ len ≤ cap ∧ Row w.heap.size (m0 w).get (P.cellsOf e) A (len * P.cellsOf e) (l.map (absC w)) ∧ l.length = len * P.cellsOf e ∧
      ∀ i, i < len → Shp enc P w held n e ((l.drop (i * P.cellsOf e)).take (P.cellsOf e)) := by
  obtain ⟨x, hx⟩ := h
  rcases DataW.trod_slice ht hx with ⟨rfl, _⟩ | ⟨a, len, cap, elems, rest, n, rfl, rfl, _, _, hl, hm, he, hel, hsp, _⟩
  · cases f with
    | zero => simp [DataW.trod] at hx
    | succ n => exact ⟨n, _, none, 0, 0, [], rfl, rfl, rfl, Nat.le_refl _, by rw [Nat.zero_mul]; exact .nil, by simp, fun i hi => absurd hi (Nat.not_lt_zero i)⟩
  · obtain ⟨hr, hrest⟩ := hsp rfl
    have one : ∀ i, i < cap → ∃ cs', w.cells? 0 (a.add (i * P.cellsOf e)) (P.cellsOf e) = some cs' ∧ Shp enc P w held n e cs' := by
      intro i hi
      rcases Nat.lt_or_ge i len with h | h
      · have h1 := hel i h
        rw [List.getElem?_eq_getElem (by omega), Option.bind_eq_some_iff] at h1
        obtain ⟨cs', h1, h2⟩ := h1
        exact ⟨cs', h1, _, h2⟩
      · have h1 := hrest (i - len) (by omega)
        rw [List.getElem?_eq_getElem (by omega), Option.bind_eq_some_iff, show len + (i - len) = i by omega] at h1
        obtain ⟨cs', h1, h2⟩ := h1
        exact ⟨cs', h1, _, h2⟩
    rcases Nat.eq_zero_or_pos cap with h0 | h0
    · subst h0
      have : len = 0 := by omega
      subst this
      exact ⟨n, _, some ⟨a.block, a.off, none⟩, 0, 0, [], rfl, rfl, by simp [absC], Nat.le_refl _, ⟨fun a ha => by injection ha with ha; subst ha; exact .inl rfl, by simp, fun h => by rw [Nat.zero_mul] at h; exact absurd h (Nat.lt_irrefl 0)⟩, by simp, fun i hi => absurd hi (Nat.not_lt_zero i)⟩
    · obtain ⟨cs0, hc0, ht0⟩ := one 0 h0
      obtain ⟨_, hl0, hg0⟩ := World.cells?_some hc0
      have hx0 : a.add (0 * P.cellsOf e) = a := by simp [Addr.add]
      rw [hx0] at hg0
      have hspot : a.spot = none := by
        refine (cells_all (w := w) (a := a) (N := 1) (g := fun i => cs0.getD 0 undef) (by omega) fun i hi => ?_).1
        have : i = 0 := by omega
        subst this
        rw [hg0 0 hc, List.getD_eq_getElem?_getD, List.getElem?_eq_getElem (by omega)]
        rfl
      have hpos : 0 < cap * P.cellsOf e := Nat.mul_pos h0 hc
      have hall : ∀ j, j < cap * P.cellsOf e → ∃ v, w.cell? (a.add j) = some v := by
        intro j hj
        have hd := Nat.div_add_mod j (P.cellsOf e)
        have hm := Nat.mod_lt j hc
        obtain ⟨cs', h1, _⟩ := one (j / P.cellsOf e) ((Nat.div_lt_iff_lt_mul hc).2 hj)
        obtain ⟨_, h2, h3⟩ := World.cells?_some h1
        have h4 := h3 (j % P.cellsOf e) hm
        rw [add_addr hspot, show j / P.cellsOf e * P.cellsOf e + j % P.cellsOf e = j by rw [Nat.mul_comm]; exact hd, List.getElem?_eq_getElem (by omega)] at h4
        exact ⟨_, h4⟩
      obtain ⟨g, hg⟩ : ∃ g : Nat → Value, ∀ j, j < cap * P.cellsOf e → w.cell? (a.add j) = some (g j) := by
        refine ⟨fun j => (w.cell? (a.add j)).getD undef, fun j hj => ?_⟩
        obtain ⟨v, hv⟩ := hall j hj
        simp only [hv, Option.getD_some]
      obtain ⟨h1, h2, h3, ce, h4, h5, h6⟩ := cells_all hpos hg
      have hle : len * P.cellsOf e ≤ cap * P.cellsOf e := Nat.mul_le_mul_right _ hl
      refine ⟨n, _, some a, len, cap, (ce.drop a.off).take (len * P.cellsOf e), rfl, rfl, ?_, hl, ⟨fun a' ha => by injection ha with ha; subst ha; exact .inl h1, by simp; omega, fun _ => ⟨a, _, true, rfl, h3, h4, by simp; omega, fun i hi => ?_⟩⟩, by simp; omega, fun i hi => ?_⟩
      · obtain ⟨ab, ao, asp⟩ := a
        simp only at h1
        subst h1
        simp [absC, show cap ≠ 0 by omega, hl, h2]
      · rw [List.getD_eq_getElem?_getD, List.getD_eq_getElem?_getD, List.getElem?_map, List.getElem?_map, List.getElem?_take_of_lt hi, List.getElem?_drop]
      · obtain ⟨cs', e1, e2⟩ := one i (by omega)
        obtain ⟨_, e3, e4⟩ := World.cells?_some e1
        have hik : i * P.cellsOf e + P.cellsOf e ≤ len * P.cellsOf e := by
          have := Nat.mul_le_mul_right (P.cellsOf e) (show i + 1 ≤ len by omega)
          rw [Nat.add_mul, Nat.one_mul] at this
          exact this
        have : ((((ce.drop a.off).take (len * P.cellsOf e)).drop (i * P.cellsOf e)).take (P.cellsOf e)) = cs' := by
          refine List.ext_getElem? fun k => ?_
          rcases Nat.lt_or_ge k (P.cellsOf e) with hk | hk
          · rw [List.getElem?_take_of_lt hk, List.getElem?_drop, List.getElem?_take_of_lt (by omega), List.getElem?_drop, h6 _ (by omega), ← hg _ (by omega), ← add_addr h1, e4 k hk]
          · rw [List.getElem?_eq_none (by simp; omega), List.getElem?_eq_none (by omega)]
        rw [this]
        exact e2

theorem Shp.bytes {e : TypeId} (ht : P.underlying t = some (.slice e)) (he : P.underlying e = some (.int .u8)) (hc : P.cellsOf e = 1) (h : Shp enc P w held f t cs) :
    ∃ v A len cap, ∃ l : List UInt8, cs = [v] ∧ absC w v = .slice A len cap ∧ len ≤ cap ∧ Row w.heap.size (m0 w).get 1 A len (l.map u8V) := by
  obtain ⟨n, v, A, len, cap, l, rfl, h1, h2, h3, h4, h5, h6⟩ := h.slice ht (by omega)
  rw [hc, Nat.mul_one] at h4 h5
  refine ⟨v, A, len, cap, l.map fun v => UInt8.ofNat (intOf (some v)).toNat, h1, h2, h3, ?_⟩
  have : (l.map fun v => UInt8.ofNat (intOf (some v)).toNat).map u8V = l.map (absC w) := by
    rw [List.map_map]
    refine List.map_congr_left fun v hv => ?_
    obtain ⟨i, hi, rfl⟩ := List.getElem_of_mem hv
    obtain ⟨z, e1, e2⟩ := (h6 i (by omega)).int he
    have e1' : l[i] = .int .u8 z := by
      rw [hc, Nat.mul_one, List.drop_eq_getElem_cons hi] at e1
      simp only [List.take_succ_cons, List.take_zero, List.cons.injEq, and_true] at e1
      exact e1
    rw [e1']
    obtain ⟨b1, b2⟩ := wf_u8 e2
    simp only [Function.comp, intOf, u8V, absC, goodV, if_true]
    rw [UInt8.toNat_ofNat']
    congr 1
    omega
  rw [this]
  exact h4
theorem Shp.words {e : TypeId} (ht : P.underlying t = some (.slice e)) (he : P.underlying e = some (.int .u32)) (hc : P.cellsOf e = 1) (h : Shp enc P w held f t cs) :
    ∃ v A len cap, ∃ l : List UInt32, cs = [v] ∧ absC w v = .slice A len cap ∧ len ≤ cap ∧ Row w.heap.size (m0 w).get 1 A len (l.map u32V) := by
  obtain ⟨n, v, A, len, cap, l, rfl, h1, h2, h3, h4, h5, h6⟩ := h.slice ht (by omega)
  rw [hc, Nat.mul_one] at h4 h5
  refine ⟨v, A, len, cap, l.map fun v => UInt32.ofNat (intOf (some v)).toNat, h1, h2, h3, ?_⟩
  have : (l.map fun v => UInt32.ofNat (intOf (some v)).toNat).map u32V = l.map (absC w) := by
    rw [List.map_map]
    refine List.map_congr_left fun v hv => ?_
    obtain ⟨i, hi, rfl⟩ := List.getElem_of_mem hv
    obtain ⟨z, e1, e2⟩ := (h6 i (by omega)).int he
    have e1' : l[i] = .int .u32 z := by
      rw [hc, Nat.mul_one, List.drop_eq_getElem_cons hi] at e1
      simp only [List.take_succ_cons, List.take_zero, List.cons.injEq, and_true] at e1
      exact e1
    rw [e1']
    obtain ⟨b1, b2⟩ := wf_u32 e2
    simp only [Function.comp, intOf, u32V, absC, goodV, if_true]
    rw [UInt32.toNat_ofNat']
    congr 1
    omega
  rw [this]
  exact h4

theorem take_one {cs : List Value} {i : Nat} (h : i < cs.length) : (cs.drop i).take 1 = [cs[i]] := by
  rw [List.drop_eq_getElem_cons h]; rfl

end
end Go.Ga

/- A slice of slices of bytes that a law is given. -/
namespace Go.Ga
open Go

/-- Slices of bytes in a row. -/
def RowB (nx : Nat) (gt : Nat → Option Blk) (A : Option Addr) (n : Nat) (ls : List (List UInt8)) : Prop := ls.length = n ∧ (∀ a, A = some a → a.spot = none ∨ a.spot = some 1) ∧ (0 < n → ∃ a ce ro, A = some a ∧ a.block < nx ∧ gt a.block = some (.cells ce ro) ∧ a.off + n ≤ ce.length ∧
  ∀ i, i < n → ∃ B m d, ce.getD (a.off + i) undef = .slice B m d ∧ m ≤ d ∧ Row nx gt 1 B m ((ls.getD i []).map u8V))
theorem RowB.keep {nx gt A n ls nx' gt'} (h : RowB nx gt A n ls) (h1 : nx ≤ nx') (h2 : ∀ p, p < nx → gt' p = gt p) : RowB nx' gt' A n ls := by
  refine ⟨h.1, h.2.1, fun h0 => ?_⟩
  obtain ⟨a, ce, ro, e1, e2, e3, e4, e5⟩ := h.2.2 h0
  refine ⟨a, ce, ro, e1, by omega, by rw [h2 _ e2, e3], e4, fun i hi => ?_⟩
  obtain ⟨B, m, d, f1, f2, f3⟩ := e5 i hi
  exact ⟨B, m, d, f1, f2, f3.keep h1 h2⟩

section
variable {H : Type} {enc : TypeId × Value → H} {P : Program} {w : World} {held : Bool} {t : TypeId}

end
end Go.Ga

/- A key and a hash that a law is given. -/
namespace Go.Ga
open Go

section
variable {H : Type} {enc : TypeId × Value → H} {P : Program} {w : World} {held : Bool} {t : TypeId}

end
end Go.Ga

/- An element that a law is given. -/
namespace Go.Ga
open Go

theorem list_three {cs : List Value} {a b c : Value} (hl : cs.length = 3) (h0 : (cs.drop 0).take 1 = [a]) (h1 : (cs.drop 1).take 1 = [b]) (h2 : (cs.drop 2).take 1 = [c]) : cs = [a, b, c] := by
  match cs, hl with
  | [x, y, z], _ =>
    simp at h0 h1 h2
    rw [h0, h1, h2]

section
variable {H : Type} {enc : TypeId × Value → H} {P : Program} {w : World} {held : Bool} {t : TypeId}

/-- The types of a node, as the program has them. -/
structure NodeT (P : Program) (t ti tb tk te : TypeId) : Prop where
  str : ∃ fs : Array Field, P.underlying t = some (.struct fs) ∧ (fs[0]?).map (fun f => (f.type, f.offset)) = some (ti, 0) ∧ (fs[1]?).map (fun f => (f.type, f.offset)) = some (tb, 1) ∧ (fs[2]?).map (fun f => (f.type, f.offset)) = some (tk, 2)
  int : P.underlying ti = some (.int .i64)
  bytes : P.underlying tb = some (.slice te)
  byte : P.underlying te = some (.int .u8)
  kids : P.underlying tk = some (.slice t)
  ct : P.cellsOf t = 3
  ci : P.cellsOf ti = 1
  cb : P.cellsOf tb = 1
  ce : P.cellsOf te = 1
  ck : P.cellsOf tk = 1

theorem Shp.nodes {f : Nat} {t ti tb tk te : TypeId} (hT : NodeT P t ti tb tk te) (hnode : ∀ cs, Shp enc P w held f t cs → ∃ (x : Fo.El) (B : Option Addr) (m d : Nat) (A : Option Addr) (n c : Nat) (ks : List Value), cs.map (absC w) = nodeL x.t B m d A n c ∧ NdR w.heap.size (m0 w).get x B m d A n c ks)
    {cs : List Value} {tk' : TypeId} (hk : P.underlying tk' = some (.slice t)) (h : Shp enc P w held (f + 1) tk' cs) :
    ∃ (v : Value) (A : Option Addr) (n c : Nat) (F : Fo) (ks : List Value), cs = [v] ∧ absC w v = .slice A n c ∧ n ≤ c ∧ n = F.len ∧ Row w.heap.size (m0 w).get 3 A (n * 3) ks ∧ FoR w.heap.size (m0 w).get F ks := by
  obtain ⟨n, v, A, len, cap, l, hf, rfl, h2, h3, h4, h5, h6⟩ := h.slice hk (by rw [hT.ct]; omega)
  injection hf with hf
  subst hf
  rw [hT.ct] at h4 h5 h6
  have key : ∀ i, i ≤ len → ∃ F : Fo, F.len = i ∧ FoR w.heap.size (m0 w).get F ((l.map (absC w)).take (i * 3)) := by
    intro i
    induction i with
    | zero => intro _; exact ⟨.nil, rfl, by rw [Nat.zero_mul]; rfl⟩
    | succ i ih =>
      intro hi
      obtain ⟨F, e1, e2⟩ := ih (by omega)
      obtain ⟨x, B, m, d, A', n', c', ks', g1, g2⟩ := hnode _ (h6 i (by omega))
      refine ⟨F.app x.f, by rw [Fo.len_app, e1]; rfl, ?_⟩
      have e : (l.map (absC w)).take ((i + 1) * 3) = (l.map (absC w)).take (i * 3) ++ nodeL x.t B m d A' n' c' := by
        rw [← g1, Nat.add_mul, Nat.one_mul, List.take_add, List.map_take, List.map_drop]
      rw [e]
      exact e2.app g2.one
  obtain ⟨F, e1, e2⟩ := key len (Nat.le_refl _)
  rw [List.take_of_length_le (by simp; omega)] at e2
  exact ⟨v, A, len, cap, F, _, rfl, h2, h3, e1.symm, h4, e2⟩

theorem Shp.node {t ti tb tk te : TypeId} (hT : NodeT P t ti tb tk te) : ∀ (f : Nat) (cs : List Value), Shp enc P w held f t cs →
    ∃ (x : Fo.El) (B : Option Addr) (m d : Nat) (A : Option Addr) (n c : Nat) (ks : List Value), cs.map (absC w) = nodeL x.t B m d A n c ∧ NdR w.heap.size (m0 w).get x B m d A n c ks := by
  intro f
  induction f using Nat.strongRecOn with
  | ind f ih =>
    intro cs h
    obtain ⟨fs, hs, h0, h1, h2⟩ := hT.str
    obtain ⟨k, rfl, hl, hfl⟩ := h.struct hs
    simp only [Option.map_eq_some_iff] at h0 h1 h2
    obtain ⟨f0, e0, e0'⟩ := h0
    obtain ⟨f1, e1, e1'⟩ := h1
    obtain ⟨f2, e2, e2'⟩ := h2
    injection e0' with a0 b0
    injection e1' with a1 b1
    injection e2' with a2 b2
    have g0 := hfl 0 f0 e0
    have g1 := hfl 1 f1 e1
    have g2 := hfl 2 f2 e2
    rw [hT.ct] at hl
    rw [a0, b0, hT.ci, take_one (by omega)] at g0
    rw [a1, b1, hT.cb, take_one (by omega)] at g1
    rw [a2, b2, hT.ck, take_one (by omega)] at g2
    obtain ⟨z, z1, z2⟩ := g0.int hT.int
    obtain ⟨vb, B, m, d, lb, q0, q1, q2, q3⟩ := g1.bytes hT.bytes hT.byte hT.ce
    cases k with
    | zero =>
      obtain ⟨y, hy⟩ := g2
      rcases DataW.trod_slice hT.kids hy with ⟨_, h⟩ | ⟨a, len, cap, elems, rest, n, h, _⟩
      · simp [DataW.trod] at hy
      · simp [DataW.trod] at hy
    | succ k =>
      obtain ⟨vk, A, n, c, F, ks, p0, p1, p2, p3, p4, p5⟩ := g2.nodes hT (ih k (by omega)) hT.kids
      injection z1 with z1
      injection q0 with q0
      injection p0 with p0
      refine ⟨⟨z, lb, F⟩, B, m, d, A, n, c, ks, ?_, ⟨wf_i64 z2, q3, q2, p4, p2, p3, p5⟩⟩
      have hcs : cs = [cs[0], cs[1], cs[2]] := list_three hl (take_one (by omega)) (take_one (by omega)) (take_one (by omega))
      rw [hcs, z1, q0, p0]
      simp only [List.map_cons, List.map_nil, q1, p1]
      simp [absC, goodV]

end
end Go.Ga

/- The law ScalarNumbers. -/
namespace Go.Ga
open Go Go.Proofs
set_option linter.unusedSimpArgs false
set_option linter.unusedVariables false
set_option maxRecDepth 100000
attribute [local irreducible] appendK

def fieldsOf : Option TypeDesc → Array Field
  | some (.struct fs) => fs
  | _ => #[]
section
variable {nx : Nat} {gt : Nat → Option Blk}


end
end Go.Ga

/- Bits as an element. -/
namespace Go.Ga
open Go Go.Proofs
set_option linter.unusedSimpArgs false
set_option linter.unusedVariables false
set_option maxRecDepth 100000
attribute [local irreducible] appendK

def bitsOk (l : List UInt8) (many : Int) : Bool := decide (0 ≤ many) && decide (many ≤ 8 * (l.length : Int)) && decide (8 * (l.length : Int) - many ≤ 7) && decide ((l.getD (l.length - 1) 0).toNat % 2 ^ (8 * (l.length : Int) - many).toNat = 0)
def bitsR (l : List UInt8) (many : Int) : Except Nat Fo.El := if bitsOk l many then .ok ⟨3, UInt8.ofNat (8 * (l.length : Int) - many).toNat :: l, .nil⟩ else .error 1
theorem bits_err {l : List UInt8} {many : Int} (h : ¬ bitsOk l many = true) : bitsR l many = .error 1 := if_neg h

theorem lt8 {k : Nat} (h : k ≤ 7) : k = 0 ∨ k = 1 ∨ k = 2 ∨ k = 3 ∨ k = 4 ∨ k = 5 ∨ k = 6 ∨ k = 7 := by omega
theorem shl8 {k : Nat} (h : k ≤ 7) : shlV .u8 1 (k : Int) = ((2 ^ k : Nat) : Int) := by
  rcases lt8 h with rfl | rfl | rfl | rfl | rfl | rfl | rfl | rfl <;> decide
theorem pow8 {k : Nat} (h : k ≤ 7) : 1 ≤ 2 ^ k ∧ 2 ^ k ≤ 128 := by
  rcases lt8 h with rfl | rfl | rfl | rfl | rfl | rfl | rfl | rfl <;> decide
theorem mask8 {x k : Nat} (hx : x < 256) (h : k ≤ 7) : bitsV .and .u8 (x : Int) (IntKind.u8.wrap (shlV .u8 1 (k : Int) - 1)) = ((x % 2 ^ k : Nat) : Int) := by
  have hp := pow8 h
  have e0 : IntKind.u8.wrap (shlV .u8 1 (k : Int) - 1) = ((2 ^ k - 1 : Nat) : Int) := by
    rw [shl8 h, u8_w]
    generalize 2 ^ k = y at *
    omega
  have e : x &&& (2 ^ k - 1) = x % 2 ^ k := Nat.and_two_pow_sub_one_eq_mod x k
  have hm : x % 2 ^ k < 2 ^ k := Nat.mod_lt _ (by omega)
  rw [e0]
  show IntKind.u8.wrap ((BitVec.ofInt 8 (x : Int) &&& BitVec.ofInt 8 ((2 ^ k - 1 : Nat) : Int)).toNat : Int) = _
  simp only [BitVec.ofInt_natCast, BitVec.toNat_and, BitVec.toNat_ofNat]
  rw [Nat.mod_eq_of_lt (by omega), Nat.mod_eq_of_lt (by omega), e, u8_w]
  generalize 2 ^ k = y at *
  omega

section
variable {nx : Nat} {gt : Nat → Option Blk}

theorem ct_Bits {A : Option Addr} {n c : Nat} {l : List UInt8} {many : Int} (hA : Row nx gt 1 A n (l.map u8V)) (hc : n ≤ c) (hn : n ≤ 1000000) (hm : -9223372036854775808 ≤ many ∧ many ≤ 9223372036854775807) :
    Ct Tryd.prog 20 [.slice A n c, .int .i64 many] nx gt fun v x g => NErr nx x g v (bitsR l many) := by
  have hl : l.length = n := by simpa using hA.len
  refine Ct.of hmx r_scalar_Bits (by simp [c_scalar_Bits]) fun b hb => ?_
  have hF : ∀ q, q < nx → upd gt nx (some (.cells [Value.int .i64 0, .slice none 0 0, .slice none 0 0] false)) q = gt q := fun q hq => by simp only [upd_e]; rw [if_neg (by omega)]
  have hb0 : upd gt nx (some (.cells [Value.int .i64 0, .slice none 0 0, .slice none 0 0] false)) nx = some (.cells [Value.int .i64 0, .slice none 0 0, .slice none 0 0] false) := by simp only [upd_e, if_true]
  by_cases h0 : many < 0
  · rw [bits_err (by unfold bitsOk; simp; omega)]
    simp only [c_scalar_Bits, ↓gaW, ↓gaV, ↓gaC, ↓gaN, gaP, Nat.reduceEqDiff, Nat.reduceLeDiff, Nat.reduceAdd, Nat.reduceSub, Nat.reduceMul, Int.reduceLT, Int.reduceLE, Int.reduceEq, Int.reduceToNat, Int.reduceAdd, Int.reduceSub, Int.reduceMul, reduceCtorEq, ↓reduceIte, List.getD_cons_zero, List.getD_cons_succ, fillL, splice, List.take_zero, List.drop_zero, List.drop_succ_cons, List.take_succ_cons, List.drop_nil, List.take_nil, gaU, h0, decide_true]
    repeat refine And.intro (by omega) ?_
    refine And.intro (node_cells _ _ _ _ _ _ _) ?_
    exact end_nT (q := nx) (t := 0) (B := none) (m := 0) (d := 0) (A := none) (n := 0) (c := 0) (ro := false) (w := .int .i64 1) (by first | (simp only [↓gaW, ↓gaV, ↓gaC, ↓gaN, gaP, Nat.reduceEqDiff, Nat.reduceLeDiff, Nat.reduceAdd, Nat.reduceSub, Nat.reduceMul, Int.reduceLT, Int.reduceLE, Int.reduceEq, Int.reduceToNat, Int.reduceAdd, Int.reduceSub, Int.reduceMul, reduceCtorEq, ↓reduceIte]; done) | (simp only [↓gaW, ↓gaV, ↓gaC, ↓gaN, gaP, Nat.reduceEqDiff, Nat.reduceLeDiff, Nat.reduceAdd, Nat.reduceSub, Nat.reduceMul, Int.reduceLT, Int.reduceLE, Int.reduceEq, Int.reduceToNat, Int.reduceAdd, Int.reduceSub, Int.reduceMul, reduceCtorEq, ↓reduceIte]; rfl)) (by first | (simp only [↓gaW, ↓gaV, ↓gaC, ↓gaN, gaP, Nat.reduceEqDiff, Nat.reduceLeDiff, Nat.reduceAdd, Nat.reduceSub, Nat.reduceMul, Int.reduceLT, Int.reduceLE, Int.reduceEq, Int.reduceToNat, Int.reduceAdd, Int.reduceSub, Int.reduceMul, reduceCtorEq, ↓reduceIte]; done) | (simp only [↓gaW, ↓gaV, ↓gaC, ↓gaN, gaP, Nat.reduceEqDiff, Nat.reduceLeDiff, Nat.reduceAdd, Nat.reduceSub, Nat.reduceMul, Int.reduceLT, Int.reduceLE, Int.reduceEq, Int.reduceToNat, Int.reduceAdd, Int.reduceSub, Int.reduceMul, reduceCtorEq, ↓reduceIte]; rfl)) (by simp only [upd_e, if_true]) (by omega) (fun p hp => by simp only [upd_e]; rw [if_neg (by omega), if_neg (by omega)]) ⟨rfl, by omega⟩
  have i1 : IntKind.i64.wrap (IntKind.i64.wrap (8 * (n : Int)) - many) = 8 * (n : Int) - many := by rw [i64_w (8 * (n : Int)) (by omega), i64_w _ (by omega)]
  obtain ⟨k, hk⟩ : ∃ k : Int, 8 * (n : Int) - many = k := ⟨_, rfl⟩
  rw [hk] at i1
  by_cases h1 : k < 0
  · rw [bits_err (by unfold bitsOk; simp; omega)]
    simp only [c_scalar_Bits, ↓gaW, ↓gaV, ↓gaC, ↓gaN, gaP, Nat.reduceEqDiff, Nat.reduceLeDiff, Nat.reduceAdd, Nat.reduceSub, Nat.reduceMul, Int.reduceLT, Int.reduceLE, Int.reduceEq, Int.reduceToNat, Int.reduceAdd, Int.reduceSub, Int.reduceMul, reduceCtorEq, ↓reduceIte, List.getD_cons_zero, List.getD_cons_succ, fillL, splice, List.take_zero, List.drop_zero, List.drop_succ_cons, List.take_succ_cons, List.drop_nil, List.take_nil, gaU, h0, decide_false, i1, h1, decide_true]
    repeat refine And.intro (by omega) ?_
    refine And.intro (node_cells _ _ _ _ _ _ _) ?_
    exact end_nT (q := nx) (t := 0) (B := none) (m := 0) (d := 0) (A := none) (n := 0) (c := 0) (ro := false) (w := .int .i64 1) (by first | (simp only [↓gaW, ↓gaV, ↓gaC, ↓gaN, gaP, Nat.reduceEqDiff, Nat.reduceLeDiff, Nat.reduceAdd, Nat.reduceSub, Nat.reduceMul, Int.reduceLT, Int.reduceLE, Int.reduceEq, Int.reduceToNat, Int.reduceAdd, Int.reduceSub, Int.reduceMul, reduceCtorEq, ↓reduceIte]; done) | (simp only [↓gaW, ↓gaV, ↓gaC, ↓gaN, gaP, Nat.reduceEqDiff, Nat.reduceLeDiff, Nat.reduceAdd, Nat.reduceSub, Nat.reduceMul, Int.reduceLT, Int.reduceLE, Int.reduceEq, Int.reduceToNat, Int.reduceAdd, Int.reduceSub, Int.reduceMul, reduceCtorEq, ↓reduceIte]; rfl)) (by first | (simp only [↓gaW, ↓gaV, ↓gaC, ↓gaN, gaP, Nat.reduceEqDiff, Nat.reduceLeDiff, Nat.reduceAdd, Nat.reduceSub, Nat.reduceMul, Int.reduceLT, Int.reduceLE, Int.reduceEq, Int.reduceToNat, Int.reduceAdd, Int.reduceSub, Int.reduceMul, reduceCtorEq, ↓reduceIte]; done) | (simp only [↓gaW, ↓gaV, ↓gaC, ↓gaN, gaP, Nat.reduceEqDiff, Nat.reduceLeDiff, Nat.reduceAdd, Nat.reduceSub, Nat.reduceMul, Int.reduceLT, Int.reduceLE, Int.reduceEq, Int.reduceToNat, Int.reduceAdd, Int.reduceSub, Int.reduceMul, reduceCtorEq, ↓reduceIte]; rfl)) (by simp only [upd_e, if_true]) (by omega) (fun p hp => by simp only [upd_e]; rw [if_neg (by omega), if_neg (by omega)]) ⟨rfl, by omega⟩
  by_cases h2 : 7 < k
  · rw [bits_err (by unfold bitsOk; simp; omega)]
    simp only [c_scalar_Bits, ↓gaW, ↓gaV, ↓gaC, ↓gaN, gaP, Nat.reduceEqDiff, Nat.reduceLeDiff, Nat.reduceAdd, Nat.reduceSub, Nat.reduceMul, Int.reduceLT, Int.reduceLE, Int.reduceEq, Int.reduceToNat, Int.reduceAdd, Int.reduceSub, Int.reduceMul, reduceCtorEq, ↓reduceIte, List.getD_cons_zero, List.getD_cons_succ, fillL, splice, List.take_zero, List.drop_zero, List.drop_succ_cons, List.take_succ_cons, List.drop_nil, List.take_nil, gaU, h0, decide_false, i1, h1, h2, decide_true]
    repeat refine And.intro (by omega) ?_
    refine And.intro (node_cells _ _ _ _ _ _ _) ?_
    exact end_nT (q := nx) (t := 0) (B := none) (m := 0) (d := 0) (A := none) (n := 0) (c := 0) (ro := false) (w := .int .i64 1) (by first | (simp only [↓gaW, ↓gaV, ↓gaC, ↓gaN, gaP, Nat.reduceEqDiff, Nat.reduceLeDiff, Nat.reduceAdd, Nat.reduceSub, Nat.reduceMul, Int.reduceLT, Int.reduceLE, Int.reduceEq, Int.reduceToNat, Int.reduceAdd, Int.reduceSub, Int.reduceMul, reduceCtorEq, ↓reduceIte]; done) | (simp only [↓gaW, ↓gaV, ↓gaC, ↓gaN, gaP, Nat.reduceEqDiff, Nat.reduceLeDiff, Nat.reduceAdd, Nat.reduceSub, Nat.reduceMul, Int.reduceLT, Int.reduceLE, Int.reduceEq, Int.reduceToNat, Int.reduceAdd, Int.reduceSub, Int.reduceMul, reduceCtorEq, ↓reduceIte]; rfl)) (by first | (simp only [↓gaW, ↓gaV, ↓gaC, ↓gaN, gaP, Nat.reduceEqDiff, Nat.reduceLeDiff, Nat.reduceAdd, Nat.reduceSub, Nat.reduceMul, Int.reduceLT, Int.reduceLE, Int.reduceEq, Int.reduceToNat, Int.reduceAdd, Int.reduceSub, Int.reduceMul, reduceCtorEq, ↓reduceIte]; done) | (simp only [↓gaW, ↓gaV, ↓gaC, ↓gaN, gaP, Nat.reduceEqDiff, Nat.reduceLeDiff, Nat.reduceAdd, Nat.reduceSub, Nat.reduceMul, Int.reduceLT, Int.reduceLE, Int.reduceEq, Int.reduceToNat, Int.reduceAdd, Int.reduceSub, Int.reduceMul, reduceCtorEq, ↓reduceIte]; rfl)) (by simp only [upd_e, if_true]) (by omega) (fun p hp => by simp only [upd_e]; rw [if_neg (by omega), if_neg (by omega)]) ⟨rfl, by omega⟩
  obtain ⟨k, rfl⟩ : ∃ j : Nat, k = (j : Int) := ⟨k.toNat, by omega⟩
  have hkt : (8 * (l.length : Int) - many).toNat = k := by rw [hl]; omega
  by_cases h3 : (0 : Int) < (k : Int)
  · obtain ⟨a, cl, ro, rfl, r2, r3, r4, r5⟩ := hA.cells (by omega)
    have i2 : IntKind.i64.wrap ((n : Int) - 1) = ((n - 1 : Nat) : Int) := by rw [i64_w _ (by omega)]; omega
    have hqn : (a.block = nx) = False := by simp; omega
    have c0 : cl.getD (a.off + (n - 1)) undef = .int .u8 ((l.getD (n - 1) 0).toNat : Nat) := by rw [r5 (n - 1) (by omega), getD_u8 (by omega)]
    have hx := (l.getD (n - 1) 0).toNat_lt
    have hp := pow8 (k := k) (by omega)
    by_cases h4 : (((l.getD (n - 1) 0).toNat % 2 ^ k : Nat) : Int) = 0
    · have hr : bitsR l many = .ok ⟨3, UInt8.ofNat k :: l, .nil⟩ := by
        unfold bitsR
        rw [hkt, if_pos]
        unfold bitsOk
        rw [hkt, hl]
        simp only [Bool.and_eq_true, decide_eq_true_eq]
        exact ⟨⟨⟨by omega, by omega⟩, by omega⟩, by omega⟩
      rw [hr]
      simp only [c_scalar_Bits, ↓gaW, ↓gaV, ↓gaC, ↓gaN, gaP, Nat.reduceEqDiff, Nat.reduceLeDiff, Nat.reduceAdd, Nat.reduceSub, Nat.reduceMul, Int.reduceLT, Int.reduceLE, Int.reduceEq, Int.reduceToNat, Int.reduceAdd, Int.reduceSub, Int.reduceMul, reduceCtorEq, ↓reduceIte, List.getD_cons_zero, List.getD_cons_succ, fillL, splice, List.take_zero, List.drop_zero, List.drop_succ_cons, List.take_succ_cons, List.drop_nil, List.take_nil, gaU, h0, decide_false, i1, i2, h1, h2, h3, decide_true, hqn, r3, c0, mask8 hx (show k ≤ 7 by omega), h4, not_true]
      obtain ⟨A, hAe⟩ : ∃ A : Option Addr, A = some a := ⟨_, rfl⟩
      rw [← hAe] at hA ⊢
      have e8 : Value.int .u8 (IntKind.u8.wrap (k : Int)) = u8V (UInt8.ofNat k) := by
        show _ = Value.int .u8 _
        exact congrArg (Value.int .u8) (by first | rfl | (rw [UInt8.toNat_ofNat', u8_w]; omega))
      rw [e8]
      have hZ : ∀ p, p < nx + 1 → upd (upd gt nx (some (.cells [Value.int .i64 0, .slice none 0 0, .slice none 0 0] false))) (nx + 1) (some (.cells [u8V (UInt8.ofNat k)] false)) p = upd gt nx (some (.cells [Value.int .i64 0, .slice none 0 0, .slice none 0 0] false)) p := fun p hp => by rw [upd_e, if_neg (by omega)]
      have hz : upd (upd gt nx (some (.cells [Value.int .i64 0, .slice none 0 0, .slice none 0 0] false))) (nx + 1) (some (.cells [u8V (UInt8.ofNat k)] false)) (nx + 1) = some (.cells [u8V (UInt8.ofNat k)] false) := by rw [upd_e, if_pos rfl]
      have e1 : rowOf ⟨nx + 1 + 1, b, upd (upd gt nx (some (.cells [Value.int .i64 0, .slice none 0 0, .slice none 0 0] false))) (nx + 1) (some (.cells [u8V (UInt8.ofNat k)] false))⟩ A n = some (l.map u8V) := (hA.keep (nx' := nx + 1 + 1) (by omega) fun p hp => by rw [hZ p (by omega), hF p hp]).rowOf
      repeat refine And.intro (by omega) ?_
      rw [e1]
      simp only [asO_e]
      refine app_litN (bytes := 1) (z := nx + 1) (n := 1) (e := 1) (by omega) hz rfl (by omega) (by simp [hl]) (all_u8 _) (by omega) (by omega) fun A6 x6 g6 l6 k6 r6 => ?_
      rw [Nat.mul_one] at r6
      have hb6 : g6 nx = some (.cells [Value.int .i64 0, .slice none 0 0, .slice none 0 0] false) := by rw [k6 nx (by omega), hZ nx (by omega), hb0]
      have ext : ∀ (g : Nat → Option Blk) (cs : List Value), (∀ p, p ≠ nx → upd g nx (some (.cells cs false)) p = g p) := fun g cs p hp => by simp only [upd_e]; rw [if_neg hp]
      simp only [↓gaW, ↓gaV, ↓gaC, ↓gaN, gaP, Nat.reduceEqDiff, Nat.reduceLeDiff, Nat.reduceAdd, Nat.reduceSub, Nat.reduceMul, Int.reduceLT, Int.reduceLE, Int.reduceEq, Int.reduceToNat, Int.reduceAdd, Int.reduceSub, Int.reduceMul, reduceCtorEq, ↓reduceIte, List.getD_cons_zero, List.getD_cons_succ, fillL, splice, List.take_zero, List.drop_zero, List.drop_succ_cons, List.take_succ_cons, List.drop_nil, List.take_nil, hb6]
      refine And.intro (by omega) (And.intro (node_cells _ _ _ _ _ _ _) ?_)
      refine end_nT (q := nx) (t := 3) (B := A6) (m := 1 + n) (d := 1 + n) (A := none) (n := 0) (c := 0) (ro := false) (w := .int .i64 0) (by first | (simp only [↓gaW, ↓gaV, ↓gaC, ↓gaN, gaP, Nat.reduceEqDiff, Nat.reduceLeDiff, Nat.reduceAdd, Nat.reduceSub, Nat.reduceMul, Int.reduceLT, Int.reduceLE, Int.reduceEq, Int.reduceToNat, Int.reduceAdd, Int.reduceSub, Int.reduceMul, reduceCtorEq, ↓reduceIte]; done) | (simp only [↓gaW, ↓gaV, ↓gaC, ↓gaN, gaP, Nat.reduceEqDiff, Nat.reduceLeDiff, Nat.reduceAdd, Nat.reduceSub, Nat.reduceMul, Int.reduceLT, Int.reduceLE, Int.reduceEq, Int.reduceToNat, Int.reduceAdd, Int.reduceSub, Int.reduceMul, reduceCtorEq, ↓reduceIte]; rfl)) (by first | (simp only [↓gaW, ↓gaV, ↓gaC, ↓gaN, gaP, Nat.reduceEqDiff, Nat.reduceLeDiff, Nat.reduceAdd, Nat.reduceSub, Nat.reduceMul, Int.reduceLT, Int.reduceLE, Int.reduceEq, Int.reduceToNat, Int.reduceAdd, Int.reduceSub, Int.reduceMul, reduceCtorEq, ↓reduceIte]; done) | (simp only [↓gaW, ↓gaV, ↓gaC, ↓gaN, gaP, Nat.reduceEqDiff, Nat.reduceLeDiff, Nat.reduceAdd, Nat.reduceSub, Nat.reduceMul, Int.reduceLT, Int.reduceLE, Int.reduceEq, Int.reduceToNat, Int.reduceAdd, Int.reduceSub, Int.reduceMul, reduceCtorEq, ↓reduceIte]; rfl)) (by simp only [upd_e, if_true]) (by omega) (fun p hp => by rw [ext _ _ p (by omega), k6 p (by omega), hZ p (by omega), hF p hp]) ⟨_, rfl, ?_⟩
      have r7 : RowL (nx + 1) x6 g6 1 A6 (1 + n) ((UInt8.ofNat k :: l).map u8V) := r6
      exact NodeIs.leaf (by omega) ((r7.keep (Nat.le_refl _) fun p hp _ => ext _ _ p (by omega)).wid (by omega)) (Nat.le_refl _)
    · rw [bits_err (by unfold bitsOk; rw [hkt, hl]; simp only [Bool.and_eq_true, decide_eq_true_eq]; omega)]
      simp only [c_scalar_Bits, ↓gaW, ↓gaV, ↓gaC, ↓gaN, gaP, Nat.reduceEqDiff, Nat.reduceLeDiff, Nat.reduceAdd, Nat.reduceSub, Nat.reduceMul, Int.reduceLT, Int.reduceLE, Int.reduceEq, Int.reduceToNat, Int.reduceAdd, Int.reduceSub, Int.reduceMul, reduceCtorEq, ↓reduceIte, List.getD_cons_zero, List.getD_cons_succ, fillL, splice, List.take_zero, List.drop_zero, List.drop_succ_cons, List.take_succ_cons, List.drop_nil, List.take_nil, gaU, h0, decide_false, i1, i2, h1, h2, h3, decide_true, hqn, r3, c0, mask8 hx (show k ≤ 7 by omega), h4, not_false_eq_true]
      repeat refine And.intro (by omega) ?_
      refine And.intro (node_cells _ _ _ _ _ _ _) ?_
      exact end_nT (q := nx) (t := 0) (B := none) (m := 0) (d := 0) (A := none) (n := 0) (c := 0) (ro := false) (w := .int .i64 1) (by first | (simp only [↓gaW, ↓gaV, ↓gaC, ↓gaN, gaP, Nat.reduceEqDiff, Nat.reduceLeDiff, Nat.reduceAdd, Nat.reduceSub, Nat.reduceMul, Int.reduceLT, Int.reduceLE, Int.reduceEq, Int.reduceToNat, Int.reduceAdd, Int.reduceSub, Int.reduceMul, reduceCtorEq, ↓reduceIte]; done) | (simp only [↓gaW, ↓gaV, ↓gaC, ↓gaN, gaP, Nat.reduceEqDiff, Nat.reduceLeDiff, Nat.reduceAdd, Nat.reduceSub, Nat.reduceMul, Int.reduceLT, Int.reduceLE, Int.reduceEq, Int.reduceToNat, Int.reduceAdd, Int.reduceSub, Int.reduceMul, reduceCtorEq, ↓reduceIte]; rfl)) (by first | (simp only [↓gaW, ↓gaV, ↓gaC, ↓gaN, gaP, Nat.reduceEqDiff, Nat.reduceLeDiff, Nat.reduceAdd, Nat.reduceSub, Nat.reduceMul, Int.reduceLT, Int.reduceLE, Int.reduceEq, Int.reduceToNat, Int.reduceAdd, Int.reduceSub, Int.reduceMul, reduceCtorEq, ↓reduceIte]; done) | (simp only [↓gaW, ↓gaV, ↓gaC, ↓gaN, gaP, Nat.reduceEqDiff, Nat.reduceLeDiff, Nat.reduceAdd, Nat.reduceSub, Nat.reduceMul, Int.reduceLT, Int.reduceLE, Int.reduceEq, Int.reduceToNat, Int.reduceAdd, Int.reduceSub, Int.reduceMul, reduceCtorEq, ↓reduceIte]; rfl)) (by simp only [upd_e, if_true]) (by omega) (fun p hp => by simp only [upd_e]; rw [if_neg (by omega), if_neg (by omega)]) ⟨rfl, by omega⟩
  · have hk0 : k = 0 := by omega
    have hr : bitsR l many = .ok ⟨3, UInt8.ofNat k :: l, .nil⟩ := by
      unfold bitsR
      rw [hkt, if_pos]
      unfold bitsOk
      rw [hkt, hl, hk0]
      simp only [Bool.and_eq_true, decide_eq_true_eq, Nat.pow_zero, Nat.mod_one]
      exact ⟨⟨⟨by omega, by omega⟩, by omega⟩, trivial⟩
    rw [hr]
    simp only [c_scalar_Bits, ↓gaW, ↓gaV, ↓gaC, ↓gaN, gaP, Nat.reduceEqDiff, Nat.reduceLeDiff, Nat.reduceAdd, Nat.reduceSub, Nat.reduceMul, Int.reduceLT, Int.reduceLE, Int.reduceEq, Int.reduceToNat, Int.reduceAdd, Int.reduceSub, Int.reduceMul, reduceCtorEq, ↓reduceIte, List.getD_cons_zero, List.getD_cons_succ, fillL, splice, List.take_zero, List.drop_zero, List.drop_succ_cons, List.take_succ_cons, List.drop_nil, List.take_nil, gaU, h0, decide_false, i1, h1, h2, h3, decide_true]
    have e8 : Value.int .u8 (IntKind.u8.wrap (k : Int)) = u8V (UInt8.ofNat k) := by
      show _ = Value.int .u8 _
      exact congrArg (Value.int .u8) (by first | rfl | (rw [UInt8.toNat_ofNat', u8_w]; omega))
    rw [e8]
    have hZ : ∀ p, p < nx + 1 → upd (upd gt nx (some (.cells [Value.int .i64 0, .slice none 0 0, .slice none 0 0] false))) (nx + 1) (some (.cells [u8V (UInt8.ofNat k)] false)) p = upd gt nx (some (.cells [Value.int .i64 0, .slice none 0 0, .slice none 0 0] false)) p := fun p hp => by rw [upd_e, if_neg (by omega)]
    have hz : upd (upd gt nx (some (.cells [Value.int .i64 0, .slice none 0 0, .slice none 0 0] false))) (nx + 1) (some (.cells [u8V (UInt8.ofNat k)] false)) (nx + 1) = some (.cells [u8V (UInt8.ofNat k)] false) := by rw [upd_e, if_pos rfl]
    have e1 : rowOf ⟨nx + 1 + 1, b, upd (upd gt nx (some (.cells [Value.int .i64 0, .slice none 0 0, .slice none 0 0] false))) (nx + 1) (some (.cells [u8V (UInt8.ofNat k)] false))⟩ A n = some (l.map u8V) := (hA.keep (nx' := nx + 1 + 1) (by omega) fun p hp => by rw [hZ p (by omega), hF p hp]).rowOf
    repeat refine And.intro (by omega) ?_
    rw [e1]
    simp only [asO_e]
    refine app_litN (bytes := 1) (z := nx + 1) (n := 1) (e := 1) (by omega) hz rfl (by omega) (by simp [hl]) (all_u8 _) (by omega) (by omega) fun A6 x6 g6 l6 k6 r6 => ?_
    rw [Nat.mul_one] at r6
    have hb6 : g6 nx = some (.cells [Value.int .i64 0, .slice none 0 0, .slice none 0 0] false) := by rw [k6 nx (by omega), hZ nx (by omega), hb0]
    have ext : ∀ (g : Nat → Option Blk) (cs : List Value), (∀ p, p ≠ nx → upd g nx (some (.cells cs false)) p = g p) := fun g cs p hp => by simp only [upd_e]; rw [if_neg hp]
    simp only [↓gaW, ↓gaV, ↓gaC, ↓gaN, gaP, Nat.reduceEqDiff, Nat.reduceLeDiff, Nat.reduceAdd, Nat.reduceSub, Nat.reduceMul, Int.reduceLT, Int.reduceLE, Int.reduceEq, Int.reduceToNat, Int.reduceAdd, Int.reduceSub, Int.reduceMul, reduceCtorEq, ↓reduceIte, List.getD_cons_zero, List.getD_cons_succ, fillL, splice, List.take_zero, List.drop_zero, List.drop_succ_cons, List.take_succ_cons, List.drop_nil, List.take_nil, hb6]
    refine And.intro (by omega) (And.intro (node_cells _ _ _ _ _ _ _) ?_)
    refine end_nT (q := nx) (t := 3) (B := A6) (m := 1 + n) (d := 1 + n) (A := none) (n := 0) (c := 0) (ro := false) (w := .int .i64 0) (by first | (simp only [↓gaW, ↓gaV, ↓gaC, ↓gaN, gaP, Nat.reduceEqDiff, Nat.reduceLeDiff, Nat.reduceAdd, Nat.reduceSub, Nat.reduceMul, Int.reduceLT, Int.reduceLE, Int.reduceEq, Int.reduceToNat, Int.reduceAdd, Int.reduceSub, Int.reduceMul, reduceCtorEq, ↓reduceIte]; done) | (simp only [↓gaW, ↓gaV, ↓gaC, ↓gaN, gaP, Nat.reduceEqDiff, Nat.reduceLeDiff, Nat.reduceAdd, Nat.reduceSub, Nat.reduceMul, Int.reduceLT, Int.reduceLE, Int.reduceEq, Int.reduceToNat, Int.reduceAdd, Int.reduceSub, Int.reduceMul, reduceCtorEq, ↓reduceIte]; rfl)) (by first | (simp only [↓gaW, ↓gaV, ↓gaC, ↓gaN, gaP, Nat.reduceEqDiff, Nat.reduceLeDiff, Nat.reduceAdd, Nat.reduceSub, Nat.reduceMul, Int.reduceLT, Int.reduceLE, Int.reduceEq, Int.reduceToNat, Int.reduceAdd, Int.reduceSub, Int.reduceMul, reduceCtorEq, ↓reduceIte]; done) | (simp only [↓gaW, ↓gaV, ↓gaC, ↓gaN, gaP, Nat.reduceEqDiff, Nat.reduceLeDiff, Nat.reduceAdd, Nat.reduceSub, Nat.reduceMul, Int.reduceLT, Int.reduceLE, Int.reduceEq, Int.reduceToNat, Int.reduceAdd, Int.reduceSub, Int.reduceMul, reduceCtorEq, ↓reduceIte]; rfl)) (by simp only [upd_e, if_true]) (by omega) (fun p hp => by rw [ext _ _ p (by omega), k6 p (by omega), hZ p (by omega), hF p hp]) ⟨_, rfl, ?_⟩
    have r7 : RowL (nx + 1) x6 g6 1 A6 (1 + n) ((UInt8.ofNat k :: l).map u8V) := r6
    exact NodeIs.leaf (by omega) ((r7.keep (Nat.le_refl _) fun p hp _ => ext _ _ p (by omega)).wid (by omega)) (Nat.le_refl _)
end
end Go.Ga

/- Truths, and the bits of an element. -/
namespace Go.Ga
open Go Go.Proofs
set_option linter.unusedSimpArgs false
set_option linter.unusedVariables false
set_option maxRecDepth 100000
attribute [local irreducible] appendK

def boolE (is : Bool) : Fo.El := ⟨1, [if is then 255 else 0], .nil⟩
noncomputable def trueR (x : Fo.El) : Bool × Nat := open Classical in if x = boolE true then (true, 0) else if x = boolE false then (false, 0) else (false, 2)
noncomputable def ofR (x : Fo.El) : List UInt8 × Int × Nat := open Classical in if x.b ≠ [] ∧ bitsR x.b.tail (8 * (x.b.tail.length : Int) - (x.b.headD 0).toNat) = .ok x then (x.b.tail, 8 * (x.b.tail.length : Int) - (x.b.headD 0).toNat, 0) else ([], 0, 2)
theorem bitsR_k {l : List UInt8} {many : Int} {y : Fo.El} (h : bitsR l many = .ok y) : y.k = .nil := by
  unfold bitsR at h
  split at h
  · injection h with h; rw [← h]
  · cases h
theorem bitsR_ws {l : List UInt8} {many : Int} {y : Fo.El} (h : bitsR l many = .ok y) : y.f.ws ≤ l.length + 2 := by
  unfold bitsR at h
  split at h
  · injection h with h; rw [← h]
    show 1 + (_ :: l).length + 0 + 0 ≤ _
    simp only [List.length_cons]; omega
  · cases h

section
variable {nx : Nat} {gt : Nat → Option Blk}



end
end Go.Ga

/- The truth of an element. -/
namespace Go.Ga
open Go Go.Proofs
set_option linter.unusedSimpArgs false
set_option linter.unusedVariables false
set_option maxRecDepth 100000
attribute [local irreducible] appendK

def isT (l : List UInt8) : Bool := match l with | [] => false | a :: _ => decide (¬ (a.toNat : Int) = 0)
section
variable {nx : Nat} {gt : Nat → Option Blk}

end
end Go.Ga

/- The document's truth; the bits of an element. -/
namespace Go.Ga
open Go Go.Proofs
set_option linter.unusedSimpArgs false
set_option linter.unusedVariables false
set_option maxRecDepth 100000
attribute [local irreducible] appendK

def OErr (nx : Nat) (g : Nat → Option Blk) (v : Value) (r : List UInt8 × Int × Nat) : Prop := ∃ u, v = .tuple #[u, .int .i64 r.2.1, .int .i64 (r.2.2 : Nat)] ∧ BySl nx g u r.1

section
variable {nx : Nat} {gt : Nat → Option Blk}


theorem ct_Of1 {q q2 : Nat} {ro ro2 : Bool} {A0 : Option Addr} {n0 c0 : Nat} {l : List UInt8} {many : Int} (hq : q < nx) (hg : gt q = some (.cells [.slice A0 n0 c0] ro)) (hq2 : q2 < nx) (hg2 : gt q2 = some (.cells [.int .i64 many] ro2)) (hA : Row nx gt 1 A0 n0 (l.map u8V)) (hc : n0 ≤ c0) (hn : n0 ≤ 1000000) (hm : -9223372036854775808 ≤ many ∧ many ≤ 9223372036854775807) :
    Ct Tryd.prog 53 [.pointer (some ⟨q, 0, none⟩), .pointer (some ⟨q2, 0, none⟩)] nx gt fun v x g => NErr nx x g v (bitsR l many) := by
  refine Ct.of hmx r_scalar_Of_1 (by simp [c_scalar_Of_1]) fun b hb => ?_
  have hF : ∀ q, q < nx → upd gt nx (some (.cells [Value.int .i64 0, .slice none 0 0, .slice none 0 0] false)) q = gt q := fun q hq => by simp only [upd_e]; rw [if_neg (by omega)]
  have hb0 : upd gt nx (some (.cells [Value.int .i64 0, .slice none 0 0, .slice none 0 0] false)) nx = some (.cells [Value.int .i64 0, .slice none 0 0, .slice none 0 0] false) := by simp only [upd_e, if_true]
  have hqn : (q = nx) = False := by simp; omega
  have hqn2 : (q2 = nx) = False := by simp; omega
  simp only [c_scalar_Of_1, ↓gaW, ↓gaV, ↓gaC, ↓gaN, gaP, Nat.reduceEqDiff, Nat.reduceLeDiff, Nat.reduceAdd, Nat.reduceSub, Nat.reduceMul, Int.reduceLT, Int.reduceLE, Int.reduceEq, Int.reduceToNat, Int.reduceAdd, Int.reduceSub, Int.reduceMul, reduceCtorEq, ↓reduceIte, List.getD_cons_zero, List.getD_cons_succ, fillL, splice, List.take_zero, List.drop_zero, List.drop_succ_cons, List.take_succ_cons, List.drop_nil, List.take_nil, gaU, hqn, hqn2, hg, hg2, List.getD_cons_zero]
  generalize upd gt nx (some (.cells [Value.int .i64 0, .slice none 0 0, .slice none 0 0] false)) = g0 at *
  repeat refine And.intro (by omega) ?_
  refine callK_of (ct_Bits (hA.keep (nx' := nx + 1) (by omega) hF) hc hn hm) (fun v x1 g1 l1 k1 hC => ?_) (by omega)
  have F1 : ∀ p, p < nx → g1 p = gt p := fun p hp => by rw [k1 p (by omega), hF p hp]
  have hb1 : g1 nx = some (.cells [Value.int .i64 0, .slice none 0 0, .slice none 0 0] false) := by rw [k1 nx (by omega), hb0]
  have ext : ∀ (cs : List Value), (∀ p, p ≠ nx → upd g1 nx (some (.cells cs false)) p = g1 p) := fun cs p hp => by simp only [upd_e]; rw [if_neg hp]
  cases hr : bitsR l many with
  | error e =>
    rw [hr] at hC
    obtain ⟨rfl, he⟩ := hC
    simp only [↓gaW, ↓gaV, ↓gaC, ↓gaN, gaP, Nat.reduceEqDiff, Nat.reduceLeDiff, Nat.reduceAdd, Nat.reduceSub, Nat.reduceMul, Int.reduceLT, Int.reduceLE, Int.reduceEq, Int.reduceToNat, Int.reduceAdd, Int.reduceSub, Int.reduceMul, reduceCtorEq, ↓reduceIte, List.getD_cons_zero, List.getD_cons_succ, fillL, splice, List.take_zero, List.drop_zero, List.drop_succ_cons, List.take_succ_cons, List.drop_nil, List.take_nil, hb1]
    refine And.intro (by omega) (And.intro (by omega) ?_)
    repeat refine And.intro (by omega) ?_
    refine And.intro (node_cells _ _ _ _ _ _ _) ?_
    exact end_nT (q := nx) (t := 0) (B := none) (m := 0) (d := 0) (A := none) (n := 0) (c := 0) (ro := false) (w := .int .i64 e) (by first | (simp only [↓gaW, ↓gaV, ↓gaC, ↓gaN, gaP, Nat.reduceEqDiff, Nat.reduceLeDiff, Nat.reduceAdd, Nat.reduceSub, Nat.reduceMul, Int.reduceLT, Int.reduceLE, Int.reduceEq, Int.reduceToNat, Int.reduceAdd, Int.reduceSub, Int.reduceMul, reduceCtorEq, ↓reduceIte]; done) | (simp only [↓gaW, ↓gaV, ↓gaC, ↓gaN, gaP, Nat.reduceEqDiff, Nat.reduceLeDiff, Nat.reduceAdd, Nat.reduceSub, Nat.reduceMul, Int.reduceLT, Int.reduceLE, Int.reduceEq, Int.reduceToNat, Int.reduceAdd, Int.reduceSub, Int.reduceMul, reduceCtorEq, ↓reduceIte]; rfl)) (by first | (simp only [↓gaW, ↓gaV, ↓gaC, ↓gaN, gaP, Nat.reduceEqDiff, Nat.reduceLeDiff, Nat.reduceAdd, Nat.reduceSub, Nat.reduceMul, Int.reduceLT, Int.reduceLE, Int.reduceEq, Int.reduceToNat, Int.reduceAdd, Int.reduceSub, Int.reduceMul, reduceCtorEq, ↓reduceIte]; done) | (simp only [↓gaW, ↓gaV, ↓gaC, ↓gaN, gaP, Nat.reduceEqDiff, Nat.reduceLeDiff, Nat.reduceAdd, Nat.reduceSub, Nat.reduceMul, Int.reduceLT, Int.reduceLE, Int.reduceEq, Int.reduceToNat, Int.reduceAdd, Int.reduceSub, Int.reduceMul, reduceCtorEq, ↓reduceIte]; rfl)) (by simp only [upd_e, if_true]) (by omega) (fun p hp => by rw [ext _ p (by omega), F1 p hp]) ⟨rfl, he⟩
  | ok y =>
    rw [hr] at hC
    obtain ⟨u, rfl, B, m, d, A, n, c, ks, rfl, hN⟩ := hC
    simp only [↓gaW, ↓gaV, ↓gaC, ↓gaN, gaP, Nat.reduceEqDiff, Nat.reduceLeDiff, Nat.reduceAdd, Nat.reduceSub, Nat.reduceMul, Int.reduceLT, Int.reduceLE, Int.reduceEq, Int.reduceToNat, Int.reduceAdd, Int.reduceSub, Int.reduceMul, reduceCtorEq, ↓reduceIte, List.getD_cons_zero, List.getD_cons_succ, fillL, splice, List.take_zero, List.drop_zero, List.drop_succ_cons, List.take_succ_cons, List.drop_nil, List.take_nil, hb1]
    repeat refine And.intro (by omega) ?_
    refine And.intro (node_cells _ _ _ _ _ _ _) ?_
    exact end_nT (q := nx) (t := y.t) (B := B) (m := m) (d := d) (A := A) (n := n) (c := c) (ro := false) (w := .int .i64 0) (by first | (simp only [↓gaW, ↓gaV, ↓gaC, ↓gaN, gaP, Nat.reduceEqDiff, Nat.reduceLeDiff, Nat.reduceAdd, Nat.reduceSub, Nat.reduceMul, Int.reduceLT, Int.reduceLE, Int.reduceEq, Int.reduceToNat, Int.reduceAdd, Int.reduceSub, Int.reduceMul, reduceCtorEq, ↓reduceIte]; done) | (simp only [↓gaW, ↓gaV, ↓gaC, ↓gaN, gaP, Nat.reduceEqDiff, Nat.reduceLeDiff, Nat.reduceAdd, Nat.reduceSub, Nat.reduceMul, Int.reduceLT, Int.reduceLE, Int.reduceEq, Int.reduceToNat, Int.reduceAdd, Int.reduceSub, Int.reduceMul, reduceCtorEq, ↓reduceIte]; rfl)) (by first | (simp only [↓gaW, ↓gaV, ↓gaC, ↓gaN, gaP, Nat.reduceEqDiff, Nat.reduceLeDiff, Nat.reduceAdd, Nat.reduceSub, Nat.reduceMul, Int.reduceLT, Int.reduceLE, Int.reduceEq, Int.reduceToNat, Int.reduceAdd, Int.reduceSub, Int.reduceMul, reduceCtorEq, ↓reduceIte]; done) | (simp only [↓gaW, ↓gaV, ↓gaC, ↓gaN, gaP, Nat.reduceEqDiff, Nat.reduceLeDiff, Nat.reduceAdd, Nat.reduceSub, Nat.reduceMul, Int.reduceLT, Int.reduceLE, Int.reduceEq, Int.reduceToNat, Int.reduceAdd, Int.reduceSub, Int.reduceMul, reduceCtorEq, ↓reduceIte]; rfl)) (by simp only [upd_e, if_true]) (by omega) (fun p hp => by rw [ext _ p (by omega), F1 p hp]) ⟨_, rfl, B, m, d, A, n, c, ks, rfl, (hN.keep (Nat.le_refl _) fun p hp _ => ext _ p (by omega)).wid (by omega)⟩
theorem ct_Of {x : Fo.El} {B : Option Addr} {m d : Nat} {A : Option Addr} {n c : Nat} {ks : List Value} (h : NdR nx gt x B m d A n c ks) (hxw : x.f.ws < 900000) :
    Ct Tryd.prog 22 [nodeV x.t B m d A n c] nx gt fun v x' g => OErr x' g v (ofR x) := by
  refine Ct.of hmx r_scalar_Of (by simp [c_scalar_Of]) fun b hb => ?_
  have hF : ∀ q, q < nx → upd gt nx (some (.cells (nodeL x.t B m d A n c) false)) q = gt q := fun q hq => by simp only [upd_e]; rw [if_neg (by omega)]
  have hb0 : upd gt nx (some (.cells (nodeL x.t B m d A n c) false)) nx = some (.cells (nodeL x.t B m d A n c) false) := by simp only [upd_e, if_true]
  have xw : x.f.ws = 1 + x.b.length + x.k.ws := by simp only [Fo.El.f, Fo.ws]; omega
  have lw := Fo.len_ws x.k
  have hl := h.blen
  have hkl := h.len
  cases hxb : x.b with
  | nil =>
    have hm0 : m = 0 := by rw [← hl, hxb]; rfl
    have hm : (m : Int) = 0 := by omega
    have er : ofR x = ([], 0, 2) := if_neg fun hc => hc.1 hxb
    simp only [c_scalar_Of, ↓gaW, ↓gaV, ↓gaC, ↓gaN, gaP, Nat.reduceEqDiff, Nat.reduceLeDiff, Nat.reduceAdd, Nat.reduceSub, Nat.reduceMul, Int.reduceLT, Int.reduceLE, Int.reduceEq, Int.reduceToNat, Int.reduceAdd, Int.reduceSub, Int.reduceMul, reduceCtorEq, ↓reduceIte, gaE, implies_true, Nat.le_refl, Int.sub_zero, Nat.sub_zero, Int.le_refl, true_or, or_true, List.getD_cons_zero, List.getD_cons_succ, fillL, splice, List.take_zero, List.drop_zero, List.drop_succ_cons, List.take_succ_cons, List.drop_nil, List.take_nil, gaU, hm, decide_true, er]
    repeat refine And.intro (by omega) ?_
    exact ⟨hF, _, rfl, .nil⟩
  | cons a t =>
    have hm : ¬ (m : Int) = 0 := by rw [hxb, List.length_cons] at hl; omega
    have hm' : 0 < m := by omega
    obtain ⟨a', cl, ro, e1, r2, r3, r4, r5⟩ := h.body.cells hm'
    subst e1
    have c0 : cl.getD a'.off undef = .int .u8 (a.toNat : Nat) := by
      have := r5 0 (by omega)
      rw [Nat.add_zero] at this
      rw [this, hxb]; rfl
    have hqn : (a'.block = nx) = False := by simp; omega
    have im1 : ((m : Int) - 1).toNat = m - 1 := by omega
    have hmd := h.md
    have id1 : ((d : Int) - 1).toNat = d - 1 := by omega
    have hspot := h.body.spot a' rfl
    have htl : t.length = m - 1 := by rw [hxb, List.length_cons] at hl; omega
    have ht := h.body.part (lo := 1) (hi := m) (by omega) (Nat.le_refl _) rfl
    have et : ((x.b.map u8V).drop 1).take (m - 1) = t.map u8V := by rw [hxb, ← htl]; simp [List.take_of_length_le]
    rw [et] at ht
    simp only [c_scalar_Of, ↓gaW, ↓gaV, ↓gaC, ↓gaN, gaP, Nat.reduceEqDiff, Nat.reduceLeDiff, Nat.reduceAdd, Nat.reduceSub, Nat.reduceMul, Int.reduceLT, Int.reduceLE, Int.reduceEq, Int.reduceToNat, Int.reduceAdd, Int.reduceSub, Int.reduceMul, reduceCtorEq, ↓reduceIte, List.getD_cons_zero, List.getD_cons_succ, fillL, splice, List.take_zero, List.drop_zero, List.drop_succ_cons, List.take_succ_cons, List.drop_nil, List.take_nil, gaU, hm, decide_false, im1, id1]
    generalize upd gt nx (some (.cells (nodeL x.t (some a') m d A n c) false)) = g0 at *
    repeat refine And.intro (by omega) ?_
    refine And.intro (by rcases hspot with h | h <;> simp [h]) ?_
    have h0 := h.keep (x' := nx + 1) (by omega) hF
    refine callK_of (ct_Clone (ht.keep (nx' := nx + 1) (by omega) hF) (by omega) (by omega)) (fun v x1 g1 l1 k1 hC => ?_) (by omega)
    obtain ⟨A2, n2, c2, rfl, hc2, hl2, rr2⟩ := hC
    have r2' := rr2.1
    have F1 : ∀ p, p < nx → g1 p = gt p := fun p hp => by rw [k1 p (by omega), hF p hp]
    have hb1 : g1 nx = some (.cells (nodeL x.t (some a') m d A n c) false) := by rw [k1 nx (by omega), hb0]
    have hx1 : (nx = x1) = False := by simp; omega
    have hx2 : (nx = x1 + 1) = False := by simp; omega
    have hx3 : (x1 = x1 + 1) = False := by simp
    have ha1 : (a'.block = x1) = False := by simp; omega
    have ha2 : (a'.block = x1 + 1) = False := by simp; omega
    have hga : g1 a'.block = some (.cells cl ro) := by rw [F1 _ r2, r3]
    have ha256 := a.toNat_lt
    obtain ⟨many, hmany⟩ : ∃ many : Int, many = 8 * (t.length : Int) - (a.toNat : Int) := ⟨_, rfl⟩
    have i1 : IntKind.i64.wrap (IntKind.i64.wrap (8 * (n2 : Int)) - IntKind.i64.wrap ((a.toNat : Nat) : Int)) = many := by rw [i64_w (8 * (n2 : Int)) (by omega), i64_w ((a.toNat : Nat) : Int) (by omega), i64_w _ (by omega)]; omega
    simp only [↓gaW, ↓gaV, ↓gaC, ↓gaN, gaP, Nat.reduceEqDiff, Nat.reduceLeDiff, Nat.reduceAdd, Nat.reduceSub, Nat.reduceMul, Int.reduceLT, Int.reduceLE, Int.reduceEq, Int.reduceToNat, Int.reduceAdd, Int.reduceSub, Int.reduceMul, reduceCtorEq, ↓reduceIte, List.getD_cons_zero, List.getD_cons_succ, fillL, splice, List.take_zero, List.drop_zero, List.drop_succ_cons, List.take_succ_cons, List.drop_nil, List.take_nil, gaU, hx1, hx2, hx3, hb1, hga, c0, ha1, ha2, nodeL, List.getD_cons_succ, List.getD_cons_zero, i1]
    repeat refine And.intro (by omega) ?_
    refine And.intro (all1 rfl) ?_
    repeat refine And.intro (by omega) ?_
    refine And.intro (all1 rfl) ?_
    repeat refine And.intro (by omega) ?_
    obtain ⟨g2, e2⟩ : ∃ g', g' = upd (upd (upd (upd g1 x1 (some (.cells [Value.slice none 0 0] false))) x1 (some (.cells [Value.slice A2 n2 c2] false))) (x1 + 1) (some (.cells [Value.int .i64 0] false))) (x1 + 1) (some (.cells [Value.int .i64 many] false)) := ⟨_, rfl⟩
    have G2 : ∀ p, p < x1 → g2 p = g1 p := fun p hp => by rw [e2]; simp only [upd_e]; rw [if_neg (by omega), if_neg (by omega), if_neg (by omega), if_neg (by omega)]
    have hbA : g2 x1 = some (.cells [Value.slice A2 n2 c2] false) := by rw [e2, upd_e, if_neg (by omega), upd_e, if_neg (by omega), upd_e, if_pos rfl]
    have hbB : g2 (x1 + 1) = some (.cells [Value.int .i64 many] false) := by rw [e2]; simp only [upd_e, if_true]
    rw [← e2]; clear e2
    have hN2 := h.keep (x' := x1 + 1 + 1) (g := g2) (by omega) fun p hp => by rw [G2 p (by omega), F1 p hp]
    have rA2 := r2'.keep (nx' := x1 + 1 + 1) (gt' := g2) (by omega) G2
    refine callK_of (ct_justB (r := bitsR t many) hN2 (by omega) (fun y' hy' => by have := bitsR_ws hy'; omega) (fun nx' g h1 h2 => ct_Of1 (q := x1) (q2 := x1 + 1) (by omega) (by rw [h2 x1 (by omega), hbA]) (by omega) (by rw [h2 (x1 + 1) (by omega), hbB]) (rA2.keep h1 h2) hc2 (by omega) (by omega))) (fun v x4 g4 l4 k4 hC => ?_) (by omega)
    obtain ⟨bb, hbb, rfl⟩ := hC
    have F4 : ∀ p, p < nx → g4 p = gt p := fun p hp => by rw [k4 p (by omega), G2 p (by omega), F1 p hp]
    have hj : justP true x (bitsR t many) ↔ bitsR t many = .ok x := by
      unfold justP
      constructor
      · rintro ⟨_, z, h2, h3⟩
        rw [h2, (alike_eq (bitsR_k h2)).1 h3]
      · intro h2
        exact ⟨rfl, x, h2, (alike_eq (bitsR_k h2)).2 rfl⟩
    have hb4 : g4 x1 = some (.cells [Value.slice A2 n2 c2] false) := by rw [k4 x1 (by omega), hbA]
    have hb5 : g4 (x1 + 1) = some (.cells [Value.int .i64 many] false) := by rw [k4 (x1 + 1) (by omega), hbB]
    have hx4 : (x1 + 1 = x1) = False := by simp
    have eo : x.b ≠ [] ∧ bitsR x.b.tail (8 * (x.b.tail.length : Int) - (x.b.headD 0).toNat) = .ok x ↔ bitsR t many = .ok x := by
      rw [hxb, hmany]
      exact ⟨fun h => h.2, fun h => ⟨by simp, h⟩⟩
    cases bb with
    | true =>
      have er : ofR x = (t, many, 0) := by
        unfold ofR
        rw [if_pos (eo.2 (hj.1 (hbb.1 rfl))), hxb, hmany]; rfl
      simp only [↓gaW, ↓gaV, ↓gaC, ↓gaN, gaP, Nat.reduceEqDiff, Nat.reduceLeDiff, Nat.reduceAdd, Nat.reduceSub, Nat.reduceMul, Int.reduceLT, Int.reduceLE, Int.reduceEq, Int.reduceToNat, Int.reduceAdd, Int.reduceSub, Int.reduceMul, reduceCtorEq, ↓reduceIte, gaE, implies_true, Nat.le_refl, Int.sub_zero, Nat.sub_zero, Int.le_refl, true_or, or_true, List.getD_cons_zero, List.getD_cons_succ, fillL, splice, List.take_zero, List.drop_zero, List.drop_succ_cons, List.take_succ_cons, List.drop_nil, List.take_nil, er, if_true, hb4, hb5, hx4]
      repeat refine And.intro (by omega) ?_
      refine And.intro (all1 rfl) ?_
      repeat refine And.intro (by omega) ?_
      have ext : ∀ (cs : List Value), (∀ p, p < x1 → upd g4 x1 (some (.cells cs false)) p = g4 p) := fun cs p hp => by simp only [upd_e]; rw [if_neg (by omega)]
      refine ⟨fun p hp => by rw [if_neg (by omega), F4 p hp], _, rfl, A2, n2, c2, rfl, hc2, hl2, ?_⟩
      have rA4 := (r2'.keep (Nat.le_refl _) (gt' := g4) fun p hp => by rw [k4 p (by omega), G2 p hp])
      exact rA4.keep (by omega) (ext _)
    | false =>
      have er : ofR x = ([], 0, 2) := if_neg fun hc => by have := hbb.2 (hj.2 (eo.1 hc)); cases this
      simp only [↓gaW, ↓gaV, ↓gaC, ↓gaN, gaP, Nat.reduceEqDiff, Nat.reduceLeDiff, Nat.reduceAdd, Nat.reduceSub, Nat.reduceMul, Int.reduceLT, Int.reduceLE, Int.reduceEq, Int.reduceToNat, Int.reduceAdd, Int.reduceSub, Int.reduceMul, reduceCtorEq, ↓reduceIte, gaE, implies_true, Nat.le_refl, Int.sub_zero, Nat.sub_zero, Int.le_refl, true_or, or_true, List.getD_cons_zero, List.getD_cons_succ, fillL, splice, List.take_zero, List.drop_zero, List.drop_succ_cons, List.take_succ_cons, List.drop_nil, List.take_nil, er, Bool.false_eq_true, if_false, hb4, hb5, hx4]
      repeat refine And.intro (by omega) ?_
      refine And.intro (all1 rfl) ?_
      repeat refine And.intro (by omega) ?_
      exact ⟨fun p hp => by rw [if_neg (by omega), F4 p hp], _, rfl, .nil⟩
end
end Go.Ga

/- The document's bits; the law ScalarBits. -/
namespace Go.Ga
open Go Go.Proofs
set_option linter.unusedSimpArgs false
set_option linter.unusedVariables false
set_option maxRecDepth 100000
attribute [local irreducible] appendK

section
variable {nx : Nat} {gt : Nat → Option Blk}

end
end Go.Ga

/- The law ScalarBits. -/
namespace Go.Ga
open Go Go.Proofs
set_option linter.unusedSimpArgs false
set_option linter.unusedVariables false
set_option maxRecDepth 100000
attribute [local irreducible] appendK

def nodeOf : Except Nat Fo.El → Fo.El
  | .ok y => y
  | .error _ => ⟨0, [], .nil⟩
def errOf : Except Nat Fo.El → Nat
  | .ok _ => 0
  | .error e => e
theorem NErr.any {lo nx : Nat} {g : Nat → Option Blk} {v : Value} {r : Except Nat Fo.El} (h : NErr lo nx g v r) : ∃ (B : Option Addr) (m d : Nat) (A : Option Addr) (n c : Nat) (ks : List Value), v = .tuple #[nodeV (nodeOf r).t B m d A n c, .int .i64 (errOf r : Nat)] ∧ NdL lo nx g (nodeOf r) B m d A n c ks := by
  cases r with
  | error e => exact ⟨none, 0, 0, none, 0, 0, [], h.1, NdL.zero⟩
  | ok y =>
    obtain ⟨u, rfl, B, m, d, A, n, c, ks, rfl, hN⟩ := h
    exact ⟨B, m, d, A, n, c, ks, rfl, hN⟩
section
variable {nx : Nat} {gt : Nat → Option Blk}


end
end Go.Ga

/- The law ScalarNames. -/
namespace Go.Ga
open Go Go.Proofs
set_option linter.unusedSimpArgs false
set_option linter.unusedVariables false
set_option maxRecDepth 100000
attribute [local irreducible] appendK

theorem oid_nws {l : List UInt32} : (nodeOf (oidR l)).f.ws ≤ 201 := by
  cases h : oidR l with
  | error e => show 1 + 0 + 0 + 0 ≤ _; omega
  | ok y => exact oidR_ws h

section
variable {nx : Nat} {gt : Nat → Option Blk}


end
end Go.Ga

/- The law ScalarBack. -/
namespace Go.Ga
open Go Go.Proofs
set_option linter.unusedSimpArgs false
set_option linter.unusedVariables false
set_option maxRecDepth 100000
attribute [local irreducible] appendK

theorem bare_bigB (l : List UInt8) : bare (bigB (bare l)) = bare l := by
  have hb := bare_bare l
  cases h : bare l with
  | nil => rfl
  | cons a t =>
    rw [h] at hb
    show bare (if 128 ≤ a.toNat then 0 :: a :: t else a :: t) = _
    by_cases h8 : 128 ≤ a.toNat
    · rw [if_pos h8, bare_0, hb]
    · rw [if_neg h8, hb]
theorem great_big (l : List UInt8) : greatR (big l) = (bare l, 0) := by
  have h : big l = big (big l).b := by
    show big l = (⟨2, bigB (bare (bigB (bare l))), .nil⟩ : Fo.El)
    rw [bare_bigB]; rfl
  unfold greatR
  rw [if_pos h]
  show (bare (bigB (bare l)), 0) = _
  rw [bare_bigB]
theorem bits_full (l : List UInt8) : bitsR l (8 * (l.length : Int)) = .ok ⟨3, 0 :: l, .nil⟩ := by
  have e : (8 * (l.length : Int) - 8 * (l.length : Int)).toNat = 0 := by omega
  unfold bitsR
  rw [e, if_pos]
  · rfl
  · unfold bitsOk
    rw [e]
    simp only [Bool.and_eq_true, decide_eq_true_eq, Nat.pow_zero, Nat.mod_one]
    exact ⟨⟨⟨by omega, by omega⟩, by omega⟩, trivial⟩
theorem of_full (l : List UInt8) : ofR ⟨3, 0 :: l, .nil⟩ = (l, 8 * (l.length : Int), 0) := by
  have e : (8 * (l.length : Int) - ((0 : UInt8).toNat : Nat)) = 8 * (l.length : Int) := by
    show 8 * (l.length : Int) - ((0 : Nat) : Int) = _
    omega
  unfold ofR
  rw [if_pos]
  · show (l, 8 * (l.length : Int) - ((0 : UInt8).toNat : Nat), 0) = _
    rw [e]
  · refine ⟨by simp, ?_⟩
    show bitsR l (8 * (l.length : Int) - ((0 : UInt8).toNat : Nat)) = _
    rw [e, bits_full]
theorem bare_drop (l : List UInt8) : l.drop (l.length - (bare l).length) = bare l := by
  induction l with
  | nil => rfl
  | cons x t ih =>
    by_cases h : x = 0
    · subst h
      have := bare_len t
      rw [bare_0, List.length_cons, show t.length + 1 - (bare t).length = (t.length - (bare t).length) + 1 by omega, List.drop_succ_cons, ih]
    · rw [bare_n h, List.length_cons, Nat.sub_self]; rfl

theorem oidR_err {l : List UInt32} {e : Nat} (h : oidR l = .error e) : e = 1 := by
  unfold oidR at h
  split at h
  · cases h
  · injection h with h; exact h.symm
theorem Row.none0 {nx : Nat} {gt : Nat → Option Blk} {e N : Nat} {l : List Value} (h : Row nx gt e none N l) : N = 0 := by
  rcases Nat.eq_zero_or_pos N with h0 | h0
  · exact h0
  · obtain ⟨a, _, _, h1, _⟩ := h.cells h0; cases h1

section
variable {nx : Nat} {gt : Nat → Option Blk}

theorem fn_Back {w : Nat} {A1 : Option Addr} {n1 c1 : Nat} {Lw : List UInt32} {A2 : Option Addr} {n2 c2 : Nat} {Lb : List UInt8} (hw : w < 18446744073709551616) (hr1 : Row nx gt 1 A1 n1 (Lw.map u32V)) (hc1 : n1 ≤ c1) (hr2 : Row nx gt 1 A2 n2 (Lb.map u8V)) (hc2 : n2 ≤ c2) :
    Ct Tryd.prog 6 [.int .u64 (w : Nat), .slice A1 n1 c1, .slice A2 n2 c2] nx gt fun v _ _ => v = .bool true := by
  refine Ct.of hmx r_lanyardlaw05_ScalarBack (by simp [c_lanyardlaw05_ScalarBack]) fun b hb => ?_
  have hl1 : Lw.length = n1 := by simpa using hr1.len
  have hl2 : Lb.length = n2 := by simpa using hr2.len
  simp only [c_lanyardlaw05_ScalarBack, ↓gaW, ↓gaV, ↓gaC, ↓gaN, gaP, Nat.reduceEqDiff, Nat.reduceLeDiff, Nat.reduceAdd, Nat.reduceSub, Nat.reduceMul, Int.reduceLT, Int.reduceLE, Int.reduceEq, Int.reduceToNat, Int.reduceAdd, Int.reduceSub, Int.reduceMul, reduceCtorEq, ↓reduceIte, List.getD_cons_zero, List.getD_cons_succ, fillL, splice, List.take_zero, List.drop_zero, List.drop_succ_cons, List.take_succ_cons, List.drop_nil, List.take_nil, gaU]
  refine callK_of ct_awake05 (fun v x1 g1 l1 k1 hC => ?_) (by omega)
  subst hC
  by_cases h100 : (100 : Int) < (n1 : Int)
  · simp only [↓gaW, ↓gaV, ↓gaC, ↓gaN, gaP, Nat.reduceEqDiff, Nat.reduceLeDiff, Nat.reduceAdd, Nat.reduceSub, Nat.reduceMul, Int.reduceLT, Int.reduceLE, Int.reduceEq, Int.reduceToNat, Int.reduceAdd, Int.reduceSub, Int.reduceMul, reduceCtorEq, ↓reduceIte, gaE, implies_true, Nat.le_refl, Int.sub_zero, Nat.sub_zero, Int.le_refl, true_or, or_true, List.getD_cons_zero, List.getD_cons_succ, fillL, splice, List.take_zero, List.drop_zero, List.drop_succ_cons, List.take_succ_cons, List.drop_nil, List.take_nil, h100, decide_true]
    exact ⟨by omega, k1⟩
  by_cases h500 : (500 : Int) < (n2 : Int)
  · simp only [↓gaW, ↓gaV, ↓gaC, ↓gaN, gaP, Nat.reduceEqDiff, Nat.reduceLeDiff, Nat.reduceAdd, Nat.reduceSub, Nat.reduceMul, Int.reduceLT, Int.reduceLE, Int.reduceEq, Int.reduceToNat, Int.reduceAdd, Int.reduceSub, Int.reduceMul, reduceCtorEq, ↓reduceIte, gaE, implies_true, Nat.le_refl, Int.sub_zero, Nat.sub_zero, Int.le_refl, true_or, or_true, List.getD_cons_zero, List.getD_cons_succ, fillL, splice, List.take_zero, List.drop_zero, List.drop_succ_cons, List.take_succ_cons, List.drop_nil, List.take_nil, h100, h500, decide_true, decide_false]
    exact ⟨by omega, k1⟩
  simp only [↓gaW, ↓gaV, ↓gaC, ↓gaN, gaP, Nat.reduceEqDiff, Nat.reduceLeDiff, Nat.reduceAdd, Nat.reduceSub, Nat.reduceMul, Int.reduceLT, Int.reduceLE, Int.reduceEq, Int.reduceToNat, Int.reduceAdd, Int.reduceSub, Int.reduceMul, reduceCtorEq, ↓reduceIte, List.getD_cons_zero, List.getD_cons_succ, fillL, splice, List.take_zero, List.drop_zero, List.drop_succ_cons, List.take_succ_cons, List.drop_nil, List.take_nil, h100, h500, decide_false]
  have F1 := k1
  refine callK_of (ct_Int hw) (fun v x2 g2 l2 k2 hC => ?_) (by omega)
  obtain ⟨y, hy, B2, m2, d2, A2', n2', c2', ks2, rfl, N2⟩ := hC
  have hyw := intE_ws hy
  have F2 : ∀ p, p < nx → g2 p = gt p := fun p hp => by rw [k2 p (by omega), F1 p hp]
  simp only [↓gaW, ↓gaV, ↓gaC, ↓gaN, gaP, Nat.reduceEqDiff, Nat.reduceLeDiff, Nat.reduceAdd, Nat.reduceSub, Nat.reduceMul, Int.reduceLT, Int.reduceLE, Int.reduceEq, Int.reduceToNat, Int.reduceAdd, Int.reduceSub, Int.reduceMul, reduceCtorEq, ↓reduceIte, List.getD_cons_zero, List.getD_cons_succ, fillL, splice, List.take_zero, List.drop_zero, List.drop_succ_cons, List.take_succ_cons, List.drop_nil, List.take_nil]
  repeat refine And.intro (by omega) ?_
  refine callK_of (ct_Uint N2.r (by omega)) (fun v x3 g3 l3 k3 hC => ?_) (by omega)
  rw [uint_int hw hy] at hC
  subst hC
  have F3 : ∀ p, p < nx → g3 p = gt p := fun p hp => by rw [k3 p (by omega), F2 p hp]
  simp only [↓gaW, ↓gaV, ↓gaC, ↓gaN, gaP, Nat.reduceEqDiff, Nat.reduceLeDiff, Nat.reduceAdd, Nat.reduceSub, Nat.reduceMul, Int.reduceLT, Int.reduceLE, Int.reduceEq, Int.reduceToNat, Int.reduceAdd, Int.reduceSub, Int.reduceMul, reduceCtorEq, ↓reduceIte, List.getD_cons_zero, List.getD_cons_succ, fillL, splice, List.take_zero, List.drop_zero, List.drop_succ_cons, List.take_succ_cons, List.drop_nil, List.take_nil, not_true, decide_false]
  repeat refine And.intro (by omega) ?_
  refine callK_of (ct_Oid (hr1.keep (nx' := x3) (by omega) F3) hc1 (by omega)) (fun v x4 g4 l4 k4 hC => ?_) (by omega)
  obtain ⟨B4, m4, d4, A4, n4, c4, ks4, rfl, N4⟩ := hC.any
  have hws := oid_nws (l := Lw)
  have F4 : ∀ p, p < nx → g4 p = gt p := fun p hp => by rw [k4 p (by omega), F3 p hp]
  simp only [↓gaW, ↓gaV, ↓gaC, ↓gaN, gaP, Nat.reduceEqDiff, Nat.reduceLeDiff, Nat.reduceAdd, Nat.reduceSub, Nat.reduceMul, Int.reduceLT, Int.reduceLE, Int.reduceEq, Int.reduceToNat, Int.reduceAdd, Int.reduceSub, Int.reduceMul, reduceCtorEq, ↓reduceIte, List.getD_cons_zero, List.getD_cons_succ, fillL, splice, List.take_zero, List.drop_zero, List.drop_succ_cons, List.take_succ_cons, List.drop_nil, List.take_nil, gaU]
  repeat refine And.intro (by omega) ?_
  refine And.intro (node_cells _ _ _ _ _ _ _) ?_
  repeat refine And.intro (by omega) ?_
  obtain ⟨g5, e5, G5, hq5⟩ := boxed (g := g4) (x := x4) (cs := [Value.int .i64 0, .slice none 0 0, .slice none 0 0]) (ds := nodeL (nodeOf (oidR Lw)).t B4 m4 d4 A4 n4 c4)
  rw [← e5]; clear e5
  obtain ⟨x5, ex5⟩ : ∃ y, y = x4 + 1 := ⟨_, rfl⟩
  rw [← ex5]
  have F5 : ∀ p, p < nx → g5 p = gt p := fun p hp => by rw [G5 p (by omega), F4 p hp]
  have N5 := N4.r.keep (x' := x5) (by omega) G5
  have hl2w : (big Lb).f.ws ≤ Lb.length + 2 := big_ws Lb
  have h9w : (⟨3, 0 :: Lb, .nil⟩ : Fo.El).f.ws ≤ Lb.length + 2 := by
    show 1 + (0 :: Lb).length + 0 + 0 ≤ _
    simp only [List.length_cons]; omega
  have hbl := bare_len Lb
  have i8 : IntKind.i64.wrap (8 * (n2 : Int)) = 8 * (Lb.length : Int) := by rw [i64_w _ (by omega), hl2]
  cases hoid : oidR Lw with
  | error e =>
    have he : ¬ ((errOf (.error e : Except Nat Fo.El) : Nat) : Int) = 0 := by
      have := oidR_err hoid
      show ¬ (e : Int) = 0
      omega
    simp only [↓gaW, ↓gaV, ↓gaC, ↓gaN, gaP, Nat.reduceEqDiff, Nat.reduceLeDiff, Nat.reduceAdd, Nat.reduceSub, Nat.reduceMul, Int.reduceLT, Int.reduceLE, Int.reduceEq, Int.reduceToNat, Int.reduceAdd, Int.reduceSub, Int.reduceMul, reduceCtorEq, ↓reduceIte, List.getD_cons_zero, List.getD_cons_succ, fillL, splice, List.take_zero, List.drop_zero, List.drop_succ_cons, List.take_succ_cons, List.drop_nil, List.take_nil, he, decide_false, i8]
    repeat refine And.intro (by omega) ?_
    refine callK_of (ct_Bits (many := 8 * (Lb.length : Int)) (hr2.keep (nx' := x5) (by omega) F5) hc2 (by omega) (by omega)) (fun v x8 g8 l8 k8 hC => ?_) (by omega)
    rw [bits_full] at hC
    obtain ⟨u, rfl, B8, m8, d8, A8, n8, c8, ks8, rfl, N8⟩ := hC
    have F8 : ∀ p, p < nx → g8 p = gt p := fun p hp => by rw [k8 p (by omega), F5 p hp]
    simp only [↓gaW, ↓gaV, ↓gaC, ↓gaN, gaP, Nat.reduceEqDiff, Nat.reduceLeDiff, Nat.reduceAdd, Nat.reduceSub, Nat.reduceMul, Int.reduceLT, Int.reduceLE, Int.reduceEq, Int.reduceToNat, Int.reduceAdd, Int.reduceSub, Int.reduceMul, reduceCtorEq, ↓reduceIte, List.getD_cons_zero, List.getD_cons_succ, fillL, splice, List.take_zero, List.drop_zero, List.drop_succ_cons, List.take_succ_cons, List.drop_nil, List.take_nil, gaU, i8]
    repeat refine And.intro (by omega) ?_
    refine And.intro (node_cells _ _ _ _ _ _ _) ?_
    repeat refine And.intro (by omega) ?_
    obtain ⟨g9, e9, G9, hq9⟩ := boxed (g := g8) (x := x8) (cs := [Value.int .i64 0, .slice none 0 0, .slice none 0 0]) (ds := nodeL ((⟨3, 0 :: Lb, .nil⟩ : Fo.El)).t B8 m8 d8 A8 n8 c8)
    rw [← e9]; clear e9
    obtain ⟨x9, ex9⟩ : ∃ y, y = x8 + 1 := ⟨_, rfl⟩
    rw [← ex9]
    have F9 : ∀ p, p < nx → g9 p = gt p := fun p hp => by rw [G9 p (by omega), F8 p hp]
    have N9 := N8.r.keep (x' := x9) (by omega) G9
    refine callK_of (ct_Of N9 (by omega)) (fun v xa ga la ka hC => ?_) (by omega)
    rw [of_full] at hC
    obtain ⟨u, rfl, Aa, na, ca, rfl, hca, hla, ra⟩ := hC
    have Fa : ∀ p, p < nx → ga p = gt p := fun p hp => by rw [ka p (by omega), F9 p hp]
    simp only [↓gaW, ↓gaV, ↓gaC, ↓gaN, gaP, Nat.reduceEqDiff, Nat.reduceLeDiff, Nat.reduceAdd, Nat.reduceSub, Nat.reduceMul, Int.reduceLT, Int.reduceLE, Int.reduceEq, Int.reduceToNat, Int.reduceAdd, Int.reduceSub, Int.reduceMul, reduceCtorEq, ↓reduceIte, List.getD_cons_zero, List.getD_cons_succ, fillL, splice, List.take_zero, List.drop_zero, List.drop_succ_cons, List.take_succ_cons, List.drop_nil, List.take_nil]
    repeat refine And.intro (by omega) ?_
    refine callK_of (ct_Big (hr2.keep (nx' := xa) (by omega) Fa) hc2 (by omega)) (fun v xb gb lb kb hC => ?_) (by omega)
    obtain ⟨Bb, mb, db, Ab, nb, cb, ksb, rfl, Nb⟩ := hC
    have Fb : ∀ p, p < nx → gb p = gt p := fun p hp => by rw [kb p (by omega), Fa p hp]
    simp only [↓gaW, ↓gaV, ↓gaC, ↓gaN, gaP, Nat.reduceEqDiff, Nat.reduceLeDiff, Nat.reduceAdd, Nat.reduceSub, Nat.reduceMul, Int.reduceLT, Int.reduceLE, Int.reduceEq, Int.reduceToNat, Int.reduceAdd, Int.reduceSub, Int.reduceMul, reduceCtorEq, ↓reduceIte, List.getD_cons_zero, List.getD_cons_succ, fillL, splice, List.take_zero, List.drop_zero, List.drop_succ_cons, List.take_succ_cons, List.drop_nil, List.take_nil]
    repeat refine And.intro (by omega) ?_
    refine callK_of (ct_Great Nb.r (by omega)) (fun v xc gc lc kc hC => ?_) (by omega)
    rw [great_big] at hC
    obtain ⟨u, rfl, Ac, nc, cc, rfl, hcc, hlc, rc⟩ := hC
    have Fc : ∀ p, p < nx → gc p = gt p := fun p hp => by rw [kc p (by omega), Fb p hp]
    simp only at hla hlc ra rc
    have rbk := hr2.keep (nx' := xc) (by omega) Fc
    have e3 : ∀ bb, rowOf ⟨xc, bb, gc⟩ Aa na = some (Lb.map u8V) := fun _ => ((ra.keep lb kb).keep lc kc).rowOf
    have e4 : ∀ bb, rowOf ⟨xc, bb, gc⟩ A2 n2 = some (Lb.map u8V) := fun _ => rbk.rowOf
    have e5 : ∀ bb, rowOf ⟨xc, bb, gc⟩ Ac nc = some ((bare Lb).map u8V) := fun _ => rc.rowOf
    have hle : (nc : Int) ≤ (n2 : Int) := by omega
    have j1 : IntKind.i64.wrap ((n2 : Int) - (nc : Int)) = ((n2 - nc : Nat) : Int) := by rw [i64_w _ (by omega)]; omega
    have j2 : ((n2 : Int) - ((n2 - nc : Nat) : Int)).toNat = nc := by omega
    cases A2 with
    | none =>
      have hn20 : n2 = 0 := rbk.none0
      have hl20 : Lb = [] := List.eq_nil_of_length_eq_zero (by omega)
      have hnc0 : nc = 0 := by omega
      have e6 : ∀ bb, rowOf ⟨xc, bb, gc⟩ none 0 = some (([] : List UInt8).map u8V) := by intro bb; rw [← hl20, ← hn20]; exact e4 bb
      rw [hl20] at e5
      simp only [↓gaW, ↓gaV, ↓gaC, ↓gaN, gaP, Nat.reduceEqDiff, Nat.reduceLeDiff, Nat.reduceAdd, Nat.reduceSub, Nat.reduceMul, Int.reduceLT, Int.reduceLE, Int.reduceEq, Int.reduceToNat, Int.reduceAdd, Int.reduceSub, Int.reduceMul, reduceCtorEq, ↓reduceIte, List.getD_cons_zero, List.getD_cons_succ, fillL, splice, List.take_zero, List.drop_zero, List.drop_succ_cons, List.take_succ_cons, List.drop_nil, List.take_nil, gaE, implies_true, Nat.le_refl, Int.sub_zero, Nat.sub_zero, Int.le_refl, true_or, or_true, e3, e4, e5, e6, i8, j1, j2, hle, bytesOf_map, str_eq, decide_true, beq_self_eq_true, show bytesOf ([] : List Value) = some [] from rfl, bare_nil]
      repeat refine And.intro (by omega) ?_
      exact Fc
    | some a =>
      have e6 : ∀ bb, rowOf ⟨xc, bb, gc⟩ (some ⟨a.block, a.off + (n2 - nc), a.spot⟩) nc = some ((bare Lb).map u8V) := by
        have := rbk.part (lo := n2 - nc) (hi := n2) (by omega) (Nat.le_refl _) rfl
        rw [show n2 - (n2 - nc) = nc by omega, ← List.map_drop, ← List.map_take, ← hl2, ← hlc, bare_drop, List.take_length] at this
        rw [← hl2, ← hlc]
        exact fun _ => this.rowOf
      have hspot := rbk.spot a rfl
      simp only [↓gaW, ↓gaV, ↓gaC, ↓gaN, gaP, Nat.reduceEqDiff, Nat.reduceLeDiff, Nat.reduceAdd, Nat.reduceSub, Nat.reduceMul, Int.reduceLT, Int.reduceLE, Int.reduceEq, Int.reduceToNat, Int.reduceAdd, Int.reduceSub, Int.reduceMul, reduceCtorEq, ↓reduceIte, List.getD_cons_zero, List.getD_cons_succ, fillL, splice, List.take_zero, List.drop_zero, List.drop_succ_cons, List.take_succ_cons, List.drop_nil, List.take_nil, gaE, implies_true, Nat.le_refl, Int.sub_zero, Nat.sub_zero, Int.le_refl, true_or, or_true, e3, e4, e5, e6, i8, j1, j2, hle, bytesOf_map, str_eq, decide_true, beq_self_eq_true]
      repeat refine And.intro (by omega) ?_
      refine And.intro (by rcases hspot with h | h <;> simp [h]) ?_
      repeat refine And.intro (by omega) ?_
      exact Fc
  | ok y2 =>
    have he : ((errOf (.ok y2 : Except Nat Fo.El) : Nat) : Int) = 0 := rfl
    have harc : arcsR y2 = (Lw, 0) := arcsR_ok hoid
    simp only [↓gaW, ↓gaV, ↓gaC, ↓gaN, gaP, Nat.reduceEqDiff, Nat.reduceLeDiff, Nat.reduceAdd, Nat.reduceSub, Nat.reduceMul, Int.reduceLT, Int.reduceLE, Int.reduceEq, Int.reduceToNat, Int.reduceAdd, Int.reduceSub, Int.reduceMul, reduceCtorEq, ↓reduceIte, List.getD_cons_zero, List.getD_cons_succ, fillL, splice, List.take_zero, List.drop_zero, List.drop_succ_cons, List.take_succ_cons, List.drop_nil, List.take_nil, he, decide_true, hq5, nodeL, List.length_cons, List.length_nil]
    repeat refine And.intro (by omega) ?_
    refine callK_of (ct_Arcs N5 (by omega)) (fun v x6 g6 l6 k6 hC => ?_) (by omega)
    have harc' : arcsR (nodeOf (oidR Lw)) = (Lw, 0) := by rw [hoid]; exact harc
    rw [harc'] at hC
    obtain ⟨u, rfl, A6, n6, rfl, hl6, r6⟩ := hC
    simp only at hl6 r6
    have F6 : ∀ p, p < nx → g6 p = gt p := fun p hp => by rw [k6 p (by omega), F5 p hp]
    simp only [↓gaW, ↓gaV, ↓gaC, ↓gaN, gaP, Nat.reduceEqDiff, Nat.reduceLeDiff, Nat.reduceAdd, Nat.reduceSub, Nat.reduceMul, Int.reduceLT, Int.reduceLE, Int.reduceEq, Int.reduceToNat, Int.reduceAdd, Int.reduceSub, Int.reduceMul, reduceCtorEq, ↓reduceIte, List.getD_cons_zero, List.getD_cons_succ, fillL, splice, List.take_zero, List.drop_zero, List.drop_succ_cons, List.take_succ_cons, List.drop_nil, List.take_nil]
    repeat refine And.intro (by omega) ?_
    refine callK_of (ct_sameL r6 (hr1.keep (nx' := x6) (by omega) F6) (by omega)) (fun v x7 g7 l7 k7 hC => ?_) (by omega)
    subst hC
    have F7 : ∀ p, p < nx → g7 p = gt p := fun p hp => by rw [k7 p (by omega), F6 p hp]
    simp only [↓gaW, ↓gaV, ↓gaC, ↓gaN, gaP, Nat.reduceEqDiff, Nat.reduceLeDiff, Nat.reduceAdd, Nat.reduceSub, Nat.reduceMul, Int.reduceLT, Int.reduceLE, Int.reduceEq, Int.reduceToNat, Int.reduceAdd, Int.reduceSub, Int.reduceMul, reduceCtorEq, ↓reduceIte, List.getD_cons_zero, List.getD_cons_succ, fillL, splice, List.take_zero, List.drop_zero, List.drop_succ_cons, List.take_succ_cons, List.drop_nil, List.take_nil, decide_true, not_true, decide_false, Bool.not_true, i8]
    repeat refine And.intro (by omega) ?_
    refine callK_of (ct_Bits (many := 8 * (Lb.length : Int)) (hr2.keep (nx' := x7) (by omega) F7) hc2 (by omega) (by omega)) (fun v x8 g8 l8 k8 hC => ?_) (by omega)
    rw [bits_full] at hC
    obtain ⟨u, rfl, B8, m8, d8, A8, n8, c8, ks8, rfl, N8⟩ := hC
    have F8 : ∀ p, p < nx → g8 p = gt p := fun p hp => by rw [k8 p (by omega), F7 p hp]
    simp only [↓gaW, ↓gaV, ↓gaC, ↓gaN, gaP, Nat.reduceEqDiff, Nat.reduceLeDiff, Nat.reduceAdd, Nat.reduceSub, Nat.reduceMul, Int.reduceLT, Int.reduceLE, Int.reduceEq, Int.reduceToNat, Int.reduceAdd, Int.reduceSub, Int.reduceMul, reduceCtorEq, ↓reduceIte, List.getD_cons_zero, List.getD_cons_succ, fillL, splice, List.take_zero, List.drop_zero, List.drop_succ_cons, List.take_succ_cons, List.drop_nil, List.take_nil, gaU, i8]
    repeat refine And.intro (by omega) ?_
    refine And.intro (node_cells _ _ _ _ _ _ _) ?_
    repeat refine And.intro (by omega) ?_
    obtain ⟨g9, e9, G9, hq9⟩ := boxed (g := g8) (x := x8) (cs := [Value.int .i64 0, .slice none 0 0, .slice none 0 0]) (ds := nodeL ((⟨3, 0 :: Lb, .nil⟩ : Fo.El)).t B8 m8 d8 A8 n8 c8)
    rw [← e9]; clear e9
    obtain ⟨x9, ex9⟩ : ∃ y, y = x8 + 1 := ⟨_, rfl⟩
    rw [← ex9]
    have F9 : ∀ p, p < nx → g9 p = gt p := fun p hp => by rw [G9 p (by omega), F8 p hp]
    have N9 := N8.r.keep (x' := x9) (by omega) G9
    refine callK_of (ct_Of N9 (by omega)) (fun v xa ga la ka hC => ?_) (by omega)
    rw [of_full] at hC
    obtain ⟨u, rfl, Aa, na, ca, rfl, hca, hla, ra⟩ := hC
    have Fa : ∀ p, p < nx → ga p = gt p := fun p hp => by rw [ka p (by omega), F9 p hp]
    simp only [↓gaW, ↓gaV, ↓gaC, ↓gaN, gaP, Nat.reduceEqDiff, Nat.reduceLeDiff, Nat.reduceAdd, Nat.reduceSub, Nat.reduceMul, Int.reduceLT, Int.reduceLE, Int.reduceEq, Int.reduceToNat, Int.reduceAdd, Int.reduceSub, Int.reduceMul, reduceCtorEq, ↓reduceIte, List.getD_cons_zero, List.getD_cons_succ, fillL, splice, List.take_zero, List.drop_zero, List.drop_succ_cons, List.take_succ_cons, List.drop_nil, List.take_nil]
    repeat refine And.intro (by omega) ?_
    refine callK_of (ct_Big (hr2.keep (nx' := xa) (by omega) Fa) hc2 (by omega)) (fun v xb gb lb kb hC => ?_) (by omega)
    obtain ⟨Bb, mb, db, Ab, nb, cb, ksb, rfl, Nb⟩ := hC
    have Fb : ∀ p, p < nx → gb p = gt p := fun p hp => by rw [kb p (by omega), Fa p hp]
    simp only [↓gaW, ↓gaV, ↓gaC, ↓gaN, gaP, Nat.reduceEqDiff, Nat.reduceLeDiff, Nat.reduceAdd, Nat.reduceSub, Nat.reduceMul, Int.reduceLT, Int.reduceLE, Int.reduceEq, Int.reduceToNat, Int.reduceAdd, Int.reduceSub, Int.reduceMul, reduceCtorEq, ↓reduceIte, List.getD_cons_zero, List.getD_cons_succ, fillL, splice, List.take_zero, List.drop_zero, List.drop_succ_cons, List.take_succ_cons, List.drop_nil, List.take_nil]
    repeat refine And.intro (by omega) ?_
    refine callK_of (ct_Great Nb.r (by omega)) (fun v xc gc lc kc hC => ?_) (by omega)
    rw [great_big] at hC
    obtain ⟨u, rfl, Ac, nc, cc, rfl, hcc, hlc, rc⟩ := hC
    have Fc : ∀ p, p < nx → gc p = gt p := fun p hp => by rw [kc p (by omega), Fb p hp]
    simp only at hla hlc ra rc
    have rbk := hr2.keep (nx' := xc) (by omega) Fc
    have e3 : ∀ bb, rowOf ⟨xc, bb, gc⟩ Aa na = some (Lb.map u8V) := fun _ => ((ra.keep lb kb).keep lc kc).rowOf
    have e4 : ∀ bb, rowOf ⟨xc, bb, gc⟩ A2 n2 = some (Lb.map u8V) := fun _ => rbk.rowOf
    have e5 : ∀ bb, rowOf ⟨xc, bb, gc⟩ Ac nc = some ((bare Lb).map u8V) := fun _ => rc.rowOf
    have hle : (nc : Int) ≤ (n2 : Int) := by omega
    have j1 : IntKind.i64.wrap ((n2 : Int) - (nc : Int)) = ((n2 - nc : Nat) : Int) := by rw [i64_w _ (by omega)]; omega
    have j2 : ((n2 : Int) - ((n2 - nc : Nat) : Int)).toNat = nc := by omega
    cases A2 with
    | none =>
      have hn20 : n2 = 0 := rbk.none0
      have hl20 : Lb = [] := List.eq_nil_of_length_eq_zero (by omega)
      have hnc0 : nc = 0 := by omega
      have e6 : ∀ bb, rowOf ⟨xc, bb, gc⟩ none 0 = some (([] : List UInt8).map u8V) := by intro bb; rw [← hl20, ← hn20]; exact e4 bb
      rw [hl20] at e5
      simp only [↓gaW, ↓gaV, ↓gaC, ↓gaN, gaP, Nat.reduceEqDiff, Nat.reduceLeDiff, Nat.reduceAdd, Nat.reduceSub, Nat.reduceMul, Int.reduceLT, Int.reduceLE, Int.reduceEq, Int.reduceToNat, Int.reduceAdd, Int.reduceSub, Int.reduceMul, reduceCtorEq, ↓reduceIte, List.getD_cons_zero, List.getD_cons_succ, fillL, splice, List.take_zero, List.drop_zero, List.drop_succ_cons, List.take_succ_cons, List.drop_nil, List.take_nil, gaE, implies_true, Nat.le_refl, Int.sub_zero, Nat.sub_zero, Int.le_refl, true_or, or_true, e3, e4, e5, e6, i8, j1, j2, hle, bytesOf_map, str_eq, decide_true, beq_self_eq_true, show bytesOf ([] : List Value) = some [] from rfl, bare_nil]
      repeat refine And.intro (by omega) ?_
      exact Fc
    | some a =>
      have e6 : ∀ bb, rowOf ⟨xc, bb, gc⟩ (some ⟨a.block, a.off + (n2 - nc), a.spot⟩) nc = some ((bare Lb).map u8V) := by
        have := rbk.part (lo := n2 - nc) (hi := n2) (by omega) (Nat.le_refl _) rfl
        rw [show n2 - (n2 - nc) = nc by omega, ← List.map_drop, ← List.map_take, ← hl2, ← hlc, bare_drop, List.take_length] at this
        rw [← hl2, ← hlc]
        exact fun _ => this.rowOf
      have hspot := rbk.spot a rfl
      simp only [↓gaW, ↓gaV, ↓gaC, ↓gaN, gaP, Nat.reduceEqDiff, Nat.reduceLeDiff, Nat.reduceAdd, Nat.reduceSub, Nat.reduceMul, Int.reduceLT, Int.reduceLE, Int.reduceEq, Int.reduceToNat, Int.reduceAdd, Int.reduceSub, Int.reduceMul, reduceCtorEq, ↓reduceIte, List.getD_cons_zero, List.getD_cons_succ, fillL, splice, List.take_zero, List.drop_zero, List.drop_succ_cons, List.take_succ_cons, List.drop_nil, List.take_nil, gaE, implies_true, Nat.le_refl, Int.sub_zero, Nat.sub_zero, Int.le_refl, true_or, or_true, e3, e4, e5, e6, i8, j1, j2, hle, bytesOf_map, str_eq, decide_true, beq_self_eq_true]
      repeat refine And.intro (by omega) ?_
      refine And.intro (by rcases hspot with h | h <;> simp [h]) ?_
      repeat refine And.intro (by omega) ?_
      exact Fc
end
end Go.Ga
