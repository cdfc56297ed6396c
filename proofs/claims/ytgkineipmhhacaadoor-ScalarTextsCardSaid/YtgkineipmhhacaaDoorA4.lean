/- Words and contracts of functions for the statement's proof. No condition. -/
import Derived.Test.YtgkineipmhhacaaDoorA3
import Derived.Test.YtgkineipmhhacaaDoorProg
import Derived.KernelRfl
set_option linter.all false

namespace Go.Ga
open Go Go.Proofs
set_option maxRecDepth 100000

def c_scalar_Bits : RFn :=
  ⟨46,
  (.seq
  (.ops [] [
  ⟨(some 4), (.op (.new [(.int .i64 0), (.slice none 0 0), (.slice none 0 0)])), none⟩,
  ⟨(some 5), (.op (.mv (.k (.int .i64 0)))), none⟩])
  (.seq
  (.ops [] [
  ⟨(some 7), (.op (.mv (.t 0))), none⟩,
  ⟨(some 8), (.op (.lenSl (.t 7))), none⟩,
  ⟨(some 9), (.op (.bin .mul (.k (.int .i64 8)) (.t 8))), none⟩,
  ⟨(some 10), (.op (.mv (.t 1))), none⟩,
  ⟨(some 11), (.op (.bin .sub (.t 9) (.t 10))), none⟩,
  ⟨(some 6), (.op (.mv (.t 11))), none⟩])
  (.seq
  (.seq
  (.ops [
  ⟨(some 12), (.op (.mv (.t 1))), none⟩,
  ⟨(some 13), (.op (.bin .lss (.t 12) (.k (.int .i64 0)))), none⟩,
  ⟨(some 14), (.op (.mv (.t 13))), none⟩,
  ⟨(some 15), (.op (.mv (.t 6))), (some (14, false))⟩,
  ⟨(some 16), (.op (.bin .lss (.t 15) (.k (.int .i64 0)))), (some (14, false))⟩,
  ⟨(some 17), (.op (.pick (.t 14) (.k (.bool true)) (.t 16))), none⟩,
  ⟨(some 18), (.op (.mv (.t 17))), none⟩,
  ⟨(some 19), (.op (.mv (.t 6))), (some (18, false))⟩,
  ⟨(some 20), (.op (.bin .gtr (.t 19) (.k (.int .i64 7)))), (some (18, false))⟩,
  ⟨(some 21), (.op (.pick (.t 18) (.k (.bool true)) (.t 20))), none⟩,
  ⟨(some 22), (.op (.mv (.t 21))), none⟩,
  ⟨(some 23), (.op (.mv (.t 6))), (some (22, false))⟩,
  ⟨(some 24), (.op (.bin .gtr (.t 23) (.k (.int .i64 0)))), (some (22, false))⟩,
  ⟨(some 25), (.op (.mv (.t 24))), (some (22, false))⟩,
  ⟨(some 26), (.op (.mv (.t 0))), (some (25, true))⟩,
  ⟨(some 27), (.op (.mv (.t 0))), (some (25, true))⟩,
  ⟨(some 28), (.op (.lenSl (.t 27))), (some (25, true))⟩,
  ⟨(some 29), (.op (.bin .sub (.t 28) (.k (.int .i64 1)))), (some (25, true))⟩,
  ⟨(some 30), (.op (.ixAddr 1 (.t 26) (.t 29))), (some (25, true))⟩,
  ⟨(some 31), (.op (.load1 (.t 30))), (some (25, true))⟩,
  ⟨(some 32), (.op (.mv (.t 6))), (some (25, true))⟩,
  ⟨(some 33), (.op (.bin .shl (.k (.int .u8 1)) (.t 32))), (some (25, true))⟩,
  ⟨(some 34), (.op (.bin .sub (.t 33) (.k (.int .u8 1)))), (some (25, true))⟩] [
  ⟨(some 35), (.op (.bin .and (.t 31) (.t 34))), (some (25, true))⟩,
  ⟨(some 36), (.op (.bin .neq (.t 35) (.k (.int .u8 0)))), (some (25, true))⟩,
  ⟨(some 37), (.op (.pick (.t 25) (.t 36) (.k (.bool false)))), (some (22, false))⟩,
  ⟨(some 38), (.op (.pick (.t 22) (.k (.bool true)) (.t 37))), none⟩])
  (.cond (.t 38)
  (.seq
  (.ops [] [
  ⟨(some 39), (.op (.build [(.int .i64 0), (.slice none 0 0), (.slice none 0 0)] [])), none⟩,
  ⟨none, (.op (.store 3 (.t 4) (.t 39))), none⟩,
  ⟨(some 5), (.op (.mv (.k (.int .i64 1)))), none⟩])
  .ret)
  .skip))
  (.seq
  (.ops [] [
  ⟨(some 40), (.op (.mv (.t 6))), none⟩,
  ⟨(some 41), (.op (.toInt .u8 (.t 40))), none⟩,
  ⟨(some 42), (.op (.mkSl 1 [(.int .u8 0)] [(0, (1, (.t 41)))])), none⟩,
  ⟨(some 43), (.op (.mv (.t 0))), none⟩,
  ⟨(some 44), (.op (.append 1 1 (.t 42) (.t 43))), none⟩,
  ⟨(some 45), (.op (.build [(.int .i64 0), (.slice none 0 0), (.slice none 0 0)] [(0, (1, (.k (.int .i64 3)))), (1, (1, (.t 44)))])), none⟩,
  ⟨none, (.op (.store 3 (.t 4) (.t 45))), none⟩,
  ⟨(some 5), (.op (.mv (.k (.int .i64 0)))), none⟩])
  .ret)))),
  [(.cN 4 3), (.t 5)]⟩
def c_lanyardref05_Bits : RFn :=
  ⟨51,
  (.seq
  (.ops [] [
  ⟨(some 4), (.op (.new [(.int .i64 0), (.slice none 0 0), (.slice none 0 0)])), none⟩,
  ⟨(some 5), (.op (.mv (.k (.int .i64 0)))), none⟩])
  (.seq
  (.seq
  (.ops [] [
  ⟨(some 7), (.op (.mv (.t 1))), none⟩,
  ⟨(some 8), (.op (.bin .lss (.t 7) (.k (.int .i64 0)))), none⟩,
  ⟨(some 9), (.op (.mv (.t 8))), none⟩,
  ⟨(some 10), (.op (.mv (.t 1))), (some (9, false))⟩,
  ⟨(some 11), (.op (.mv (.t 0))), (some (9, false))⟩,
  ⟨(some 12), (.op (.lenSl (.t 11))), (some (9, false))⟩,
  ⟨(some 13), (.op (.bin .mul (.k (.int .i64 8)) (.t 12))), (some (9, false))⟩,
  ⟨(some 14), (.op (.bin .gtr (.t 10) (.t 13))), (some (9, false))⟩,
  ⟨(some 15), (.op (.pick (.t 9) (.k (.bool true)) (.t 14))), none⟩,
  ⟨(some 16), (.op (.mv (.t 15))), none⟩,
  ⟨(some 17), (.op (.mv (.t 0))), (some (16, false))⟩,
  ⟨(some 18), (.op (.lenSl (.t 17))), (some (16, false))⟩,
  ⟨(some 19), (.op (.mv (.t 1))), (some (16, false))⟩,
  ⟨(some 20), (.op (.bin .add (.t 19) (.k (.int .i64 7)))), (some (16, false))⟩,
  ⟨(some 21), (.op (.bin .quo (.t 20) (.k (.int .i64 8)))), (some (16, false))⟩,
  ⟨(some 22), (.op (.bin .neq (.t 18) (.t 21))), (some (16, false))⟩,
  ⟨(some 23), (.op (.pick (.t 16) (.k (.bool true)) (.t 22))), none⟩])
  (.cond (.t 23)
  (.seq
  (.ops [] [
  ⟨(some 24), (.op (.build [(.int .i64 0), (.slice none 0 0), (.slice none 0 0)] [])), none⟩,
  ⟨none, (.op (.store 3 (.t 4) (.t 24))), none⟩,
  ⟨(some 5), (.op (.mv (.k (.int .i64 1)))), none⟩])
  .ret)
  .skip))
  (.seq
  (.ops [] [
  ⟨(some 25), (.op (.mv (.t 0))), none⟩,
  ⟨(some 26), (.op (.lenSl (.t 25))), none⟩,
  ⟨(some 27), (.op (.bin .mul (.k (.int .i64 8)) (.t 26))), none⟩,
  ⟨(some 28), (.op (.mv (.t 1))), none⟩,
  ⟨(some 29), (.op (.bin .sub (.t 27) (.t 28))), none⟩,
  ⟨(some 6), (.op (.mv (.t 29))), none⟩])
  (.seq
  (.seq
  (.ops [
  ⟨(some 30), (.op (.mv (.t 6))), none⟩,
  ⟨(some 31), (.op (.bin .gtr (.t 30) (.k (.int .i64 0)))), none⟩,
  ⟨(some 32), (.op (.mv (.t 31))), none⟩,
  ⟨(some 33), (.op (.mv (.t 0))), (some (32, true))⟩,
  ⟨(some 34), (.op (.mv (.t 0))), (some (32, true))⟩,
  ⟨(some 35), (.op (.lenSl (.t 34))), (some (32, true))⟩,
  ⟨(some 36), (.op (.bin .sub (.t 35) (.k (.int .i64 1)))), (some (32, true))⟩,
  ⟨(some 37), (.op (.ixAddr 1 (.t 33) (.t 36))), (some (32, true))⟩,
  ⟨(some 38), (.op (.load1 (.t 37))), (some (32, true))⟩,
  ⟨(some 39), (.op (.mv (.t 6))), (some (32, true))⟩,
  ⟨(some 40), (.op (.bin .shl (.k (.int .u8 1)) (.t 39))), (some (32, true))⟩] [
  ⟨(some 41), (.op (.bin .rem (.t 38) (.t 40))), (some (32, true))⟩,
  ⟨(some 42), (.op (.bin .neq (.t 41) (.k (.int .u8 0)))), (some (32, true))⟩,
  ⟨(some 43), (.op (.pick (.t 32) (.t 42) (.k (.bool false)))), none⟩])
  (.cond (.t 43)
  (.seq
  (.ops [] [
  ⟨(some 44), (.op (.build [(.int .i64 0), (.slice none 0 0), (.slice none 0 0)] [])), none⟩,
  ⟨none, (.op (.store 3 (.t 4) (.t 44))), none⟩,
  ⟨(some 5), (.op (.mv (.k (.int .i64 1)))), none⟩])
  .ret)
  .skip))
  (.seq
  (.ops [] [
  ⟨(some 45), (.op (.mv (.t 6))), none⟩,
  ⟨(some 46), (.op (.toInt .u8 (.t 45))), none⟩,
  ⟨(some 47), (.op (.mkSl 1 [(.int .u8 0)] [(0, (1, (.t 46)))])), none⟩,
  ⟨(some 48), (.op (.mv (.t 0))), none⟩,
  ⟨(some 49), (.op (.append 1 1 (.t 47) (.t 48))), none⟩,
  ⟨(some 50), (.op (.build [(.int .i64 0), (.slice none 0 0), (.slice none 0 0)] [(0, (1, (.k (.int .i64 3)))), (1, (1, (.t 49)))])), none⟩,
  ⟨none, (.op (.store 3 (.t 4) (.t 50))), none⟩,
  ⟨(some 5), (.op (.mv (.k (.int .i64 0)))), none⟩])
  .ret))))),
  [(.cN 4 3), (.t 5)]⟩
def c_scalar_Of : RFn :=
  ⟨37,
  (.seq
  (.ops [] [
  ⟨(some 1), (.op (.box (.t 0))), none⟩,
  ⟨(some 2), (.op (.mv (.k (.slice none 0 0)))), none⟩,
  ⟨(some 3), (.op (.mv (.k (.int .i64 0)))), none⟩,
  ⟨(some 4), (.op (.mv (.k (.int .i64 0)))), none⟩])
  (.seq
  (.seq
  (.ops [] [
  ⟨(some 8), (.op (.fieldAddr 1 (.t 1))), none⟩,
  ⟨(some 9), (.op (.load1 (.t 8))), none⟩,
  ⟨(some 10), (.op (.lenSl (.t 9))), none⟩,
  ⟨(some 11), (.op (.bin .eql (.t 10) (.k (.int .i64 0)))), none⟩])
  (.cond (.t 11)
  (.seq
  (.ops [] [
  ⟨(some 2), (.op (.mv (.k (.slice none 0 0)))), none⟩,
  ⟨(some 3), (.op (.mv (.k (.int .i64 0)))), none⟩,
  ⟨(some 4), (.op (.mv (.k (.int .i64 2)))), none⟩])
  .ret)
  .skip))
  (.seq
  (.ops [] [
  ⟨(some 12), (.op (.fieldAddr 1 (.t 1))), none⟩,
  ⟨(some 13), (.op (.load1 (.t 12))), none⟩,
  ⟨(some 14), (.op (.sl 1 (.t 13) (some (.k (.int .i64 1))) none none)), none⟩,
  ⟨(some 15), (.call (.k (.func (.func 45) #[] #[])) [(.t 14)]), none⟩,
  ⟨(some 5), (.op (.new [(.slice none 0 0)])), none⟩,
  ⟨none, (.op (.store 1 (.t 5) (.t 15))), none⟩])
  (.seq
  (.ops [
  ⟨(some 16), (.op (.load1 (.t 5))), none⟩,
  ⟨(some 17), (.op (.lenSl (.t 16))), none⟩,
  ⟨(some 18), (.op (.bin .mul (.k (.int .i64 8)) (.t 17))), none⟩,
  ⟨(some 19), (.op (.fieldAddr 1 (.t 1))), none⟩,
  ⟨(some 20), (.op (.load1 (.t 19))), none⟩,
  ⟨(some 21), (.op (.ixAddr 1 (.t 20) (.k (.int .i64 0)))), none⟩,
  ⟨(some 22), (.op (.load1 (.t 21))), none⟩,
  ⟨(some 23), (.op (.toInt .i64 (.t 22))), none⟩,
  ⟨(some 24), (.op (.bin .sub (.t 18) (.t 23))), none⟩,
  ⟨(some 6), (.op (.new [(.int .i64 0)])), none⟩] [
  ⟨none, (.op (.store 1 (.t 6) (.t 24))), none⟩])
  (.seq
  (.ops [] [
  ⟨(some 26), (.op (.load1 (.t 5))), none⟩,
  ⟨(some 27), (.op (.loadN 3 (.t 1))), none⟩,
  ⟨(some 28), (.op (.func 53 [(.t 5), (.t 6)])), none⟩,
  ⟨(some 29), (.call (.k (.func (.func 51) #[] #[])) [(.t 26), (.k (.bool true)), (.t 27), (.t 28)]), none⟩,
  ⟨(some 25), (.op (.mv (.t 29))), none⟩,
  ⟨(some 30), (.op (.extract (.t 25) 0)), none⟩,
  ⟨(some 31), (.op (.extract (.t 25) 1)), none⟩,
  ⟨none, (.op (.store 1 (.t 5) (.t 30))), none⟩,
  ⟨(some 7), (.op (.mv (.t 31))), none⟩])
  (.seq
  (.seq
  (.ops [] [
  ⟨(some 32), (.op (.mv (.t 7))), none⟩,
  ⟨(some 33), (.op (.bin .neq (.t 32) (.k (.int .i64 0)))), none⟩])
  (.cond (.t 33)
  (.seq
  (.ops [] [
  ⟨(some 34), (.op (.mv (.t 7))), none⟩,
  ⟨(some 2), (.op (.mv (.k (.slice none 0 0)))), none⟩,
  ⟨(some 3), (.op (.mv (.k (.int .i64 0)))), none⟩,
  ⟨(some 4), (.op (.mv (.t 34))), none⟩])
  .ret)
  .skip))
  (.seq
  (.ops [
  ⟨(some 35), (.op (.load1 (.t 5))), none⟩,
  ⟨(some 36), (.op (.load1 (.t 6))), none⟩,
  ⟨(some 2), (.op (.mv (.t 35))), none⟩] [
  ⟨(some 3), (.op (.mv (.t 36))), none⟩,
  ⟨(some 4), (.op (.mv (.k (.int .i64 0)))), none⟩])
  .ret))))))),
  [(.t 2), (.t 3), (.t 4)]⟩
def c_lanyardref05_Of : RFn :=
  ⟨50,
  (.seq
  (.ops [] [
  ⟨(some 1), (.op (.box (.t 0))), none⟩,
  ⟨(some 2), (.op (.mv (.k (.slice none 0 0)))), none⟩,
  ⟨(some 3), (.op (.mv (.k (.int .i64 0)))), none⟩,
  ⟨(some 4), (.op (.mv (.k (.int .i64 0)))), none⟩])
  (.seq
  (.seq
  (.ops [] [
  ⟨(some 9), (.op (.fieldAddr 1 (.t 1))), none⟩,
  ⟨(some 10), (.op (.load1 (.t 9))), none⟩,
  ⟨(some 11), (.op (.lenSl (.t 10))), none⟩,
  ⟨(some 12), (.op (.bin .eql (.t 11) (.k (.int .i64 0)))), none⟩,
  ⟨(some 13), (.op (.mv (.t 12))), none⟩,
  ⟨(some 14), (.op (.fieldAddr 1 (.t 1))), (some (13, false))⟩,
  ⟨(some 15), (.op (.load1 (.t 14))), (some (13, false))⟩,
  ⟨(some 16), (.op (.ixAddr 1 (.t 15) (.k (.int .i64 0)))), (some (13, false))⟩,
  ⟨(some 17), (.op (.load1 (.t 16))), (some (13, false))⟩,
  ⟨(some 18), (.op (.bin .gtr (.t 17) (.k (.int .u8 7)))), (some (13, false))⟩,
  ⟨(some 19), (.op (.pick (.t 13) (.k (.bool true)) (.t 18))), none⟩])
  (.cond (.t 19)
  (.seq
  (.ops [] [
  ⟨(some 2), (.op (.mv (.k (.slice none 0 0)))), none⟩,
  ⟨(some 3), (.op (.mv (.k (.int .i64 0)))), none⟩,
  ⟨(some 4), (.op (.mv (.k (.int .i64 2)))), none⟩])
  .ret)
  .skip))
  (.seq
  (.ops [] [
  ⟨(some 20), (.op (.mkSl 0 [] [])), none⟩,
  ⟨(some 21), (.op (.fieldAddr 1 (.t 1))), none⟩,
  ⟨(some 22), (.op (.load1 (.t 21))), none⟩,
  ⟨(some 23), (.op (.sl 1 (.t 22) (some (.k (.int .i64 1))) none none)), none⟩,
  ⟨(some 24), (.op (.append 1 1 (.t 20) (.t 23))), none⟩,
  ⟨(some 5), (.op (.mv (.t 24))), none⟩])
  (.seq
  (.ops [] [
  ⟨(some 25), (.op (.mv (.t 5))), none⟩,
  ⟨(some 26), (.op (.lenSl (.t 25))), none⟩,
  ⟨(some 27), (.op (.bin .mul (.k (.int .i64 8)) (.t 26))), none⟩,
  ⟨(some 28), (.op (.fieldAddr 1 (.t 1))), none⟩,
  ⟨(some 29), (.op (.load1 (.t 28))), none⟩,
  ⟨(some 30), (.op (.ixAddr 1 (.t 29) (.k (.int .i64 0)))), none⟩,
  ⟨(some 31), (.op (.load1 (.t 30))), none⟩,
  ⟨(some 32), (.op (.toInt .i64 (.t 31))), none⟩,
  ⟨(some 33), (.op (.bin .sub (.t 27) (.t 32))), none⟩,
  ⟨(some 6), (.op (.mv (.t 33))), none⟩])
  (.seq
  (.ops [] [
  ⟨(some 35), (.op (.mv (.t 5))), none⟩,
  ⟨(some 36), (.op (.mv (.t 6))), none⟩,
  ⟨(some 37), (.call (.k (.func (.func 21) #[] #[])) [(.t 35), (.t 36)]), none⟩,
  ⟨(some 34), (.op (.mv (.t 37))), none⟩,
  ⟨(some 38), (.op (.extract (.t 34) 0)), none⟩,
  ⟨(some 39), (.op (.extract (.t 34) 1)), none⟩,
  ⟨(some 7), (.op (.new [(.int .i64 0), (.slice none 0 0), (.slice none 0 0)])), none⟩,
  ⟨none, (.op (.store 3 (.t 7) (.t 38))), none⟩,
  ⟨(some 8), (.op (.mv (.t 39))), none⟩])
  (.seq
  (.seq
  (.ops [] [
  ⟨(some 40), (.op (.mv (.t 8))), none⟩,
  ⟨(some 41), (.op (.bin .neq (.t 40) (.k (.int .i64 0)))), none⟩,
  ⟨(some 42), (.op (.mv (.t 41))), none⟩,
  ⟨(some 43), (.op (.loadN 3 (.t 7))), (some (42, false))⟩,
  ⟨(some 44), (.op (.loadN 3 (.t 1))), (some (42, false))⟩,
  ⟨(some 45), (.call (.k (.func (.func 11) #[] #[])) [(.t 43), (.t 44)]), (some (42, false))⟩,
  ⟨(some 46), (.op (.un .not (.t 45))), (some (42, false))⟩,
  ⟨(some 47), (.op (.pick (.t 42) (.k (.bool true)) (.t 46))), none⟩])
  (.cond (.t 47)
  (.seq
  (.ops [] [
  ⟨(some 2), (.op (.mv (.k (.slice none 0 0)))), none⟩,
  ⟨(some 3), (.op (.mv (.k (.int .i64 0)))), none⟩,
  ⟨(some 4), (.op (.mv (.k (.int .i64 2)))), none⟩])
  .ret)
  .skip))
  (.seq
  (.ops [] [
  ⟨(some 48), (.op (.mv (.t 5))), none⟩,
  ⟨(some 49), (.op (.mv (.t 6))), none⟩,
  ⟨(some 2), (.op (.mv (.t 48))), none⟩,
  ⟨(some 3), (.op (.mv (.t 49))), none⟩,
  ⟨(some 4), (.op (.mv (.k (.int .i64 0)))), none⟩])
  .ret))))))),
  [(.t 2), (.t 3), (.t 4)]⟩
def c_scalar_True : RFn :=
  ⟨22,
  (.seq
  (.ops [] [
  ⟨(some 1), (.op (.box (.t 0))), none⟩,
  ⟨(some 2), (.op (.mv (.k (.bool false)))), none⟩,
  ⟨(some 3), (.op (.mv (.k (.int .i64 0)))), none⟩])
  (.seq
  (.ops [] [
  ⟨(some 5), (.op (.fieldAddr 1 (.t 1))), none⟩,
  ⟨(some 6), (.op (.load1 (.t 5))), none⟩,
  ⟨(some 7), (.op (.lenSl (.t 6))), none⟩,
  ⟨(some 8), (.op (.bin .gtr (.t 7) (.k (.int .i64 0)))), none⟩,
  ⟨(some 9), (.op (.mv (.t 8))), none⟩,
  ⟨(some 10), (.op (.fieldAddr 1 (.t 1))), (some (9, true))⟩,
  ⟨(some 11), (.op (.load1 (.t 10))), (some (9, true))⟩,
  ⟨(some 12), (.op (.ixAddr 1 (.t 11) (.k (.int .i64 0)))), (some (9, true))⟩,
  ⟨(some 13), (.op (.load1 (.t 12))), (some (9, true))⟩,
  ⟨(some 14), (.op (.bin .neq (.t 13) (.k (.int .u8 0)))), (some (9, true))⟩,
  ⟨(some 15), (.op (.pick (.t 9) (.t 14) (.k (.bool false)))), none⟩,
  ⟨(some 4), (.op (.new [(.bool false)])), none⟩,
  ⟨none, (.op (.store 1 (.t 4) (.t 15))), none⟩])
  (.seq
  (.ops [] [
  ⟨(some 16), (.op (.load1 (.t 4))), none⟩,
  ⟨(some 17), (.op (.loadN 3 (.t 1))), none⟩,
  ⟨(some 18), (.op (.func 55 [(.t 4)])), none⟩,
  ⟨(some 19), (.call (.k (.func (.func 54) #[] #[])) [(.t 16), (.k (.bool true)), (.t 17), (.t 18)]), none⟩,
  ⟨(some 20), (.op (.extract (.t 19) 0)), none⟩,
  ⟨(some 21), (.op (.extract (.t 19) 1)), none⟩,
  ⟨(some 2), (.op (.mv (.t 20))), none⟩,
  ⟨(some 3), (.op (.mv (.t 21))), none⟩])
  .ret))),
  [(.t 2), (.t 3)]⟩
def c_lanyardref05_True : RFn :=
  ⟨10,
  (.seq
  (.ops [] [
  ⟨(some 1), (.op (.box (.t 0))), none⟩,
  ⟨(some 2), (.op (.mv (.k (.bool false)))), none⟩,
  ⟨(some 3), (.op (.mv (.k (.int .i64 0)))), none⟩])
  (.seq
  (.seq
  (.ops [
  ⟨(some 4), (.op (.loadN 3 (.t 1))), none⟩,
  ⟨(some 5), (.call (.k (.func (.func 27) #[] #[])) [(.k (.bool true))]), none⟩] [
  ⟨(some 6), (.call (.k (.func (.func 11) #[] #[])) [(.t 4), (.t 5)]), none⟩])
  (.cond (.t 6)
  (.seq
  (.ops [] [
  ⟨(some 2), (.op (.mv (.k (.bool true)))), none⟩,
  ⟨(some 3), (.op (.mv (.k (.int .i64 0)))), none⟩])
  .ret)
  .skip))
  (.seq
  (.seq
  (.ops [
  ⟨(some 7), (.op (.loadN 3 (.t 1))), none⟩,
  ⟨(some 8), (.call (.k (.func (.func 27) #[] #[])) [(.k (.bool false))]), none⟩] [
  ⟨(some 9), (.call (.k (.func (.func 11) #[] #[])) [(.t 7), (.t 8)]), none⟩])
  (.cond (.t 9)
  (.seq
  (.ops [] [
  ⟨(some 2), (.op (.mv (.k (.bool false)))), none⟩,
  ⟨(some 3), (.op (.mv (.k (.int .i64 0)))), none⟩])
  .ret)
  .skip))
  (.seq
  (.ops [] [
  ⟨(some 2), (.op (.mv (.k (.bool false)))), none⟩,
  ⟨(some 3), (.op (.mv (.k (.int .i64 2)))), none⟩])
  .ret)))),
  [(.t 2), (.t 3)]⟩
def c_scalar_Bool : RFn :=
  ⟨8,
  (.seq
  (.ops [] [
  ⟨(some 2), (.op (.new [(.int .i64 0), (.slice none 0 0), (.slice none 0 0)])), none⟩])
  (.seq
  (.seq
  (.ops [] [
  ⟨(some 3), (.op (.mv (.t 0))), none⟩])
  (.cond (.t 3)
  (.seq
  (.ops [] [
  ⟨(some 4), (.op (.mkSl 1 [(.int .u8 0)] [(0, (1, (.k (.int .u8 255))))])), none⟩,
  ⟨(some 5), (.op (.build [(.int .i64 0), (.slice none 0 0), (.slice none 0 0)] [(0, (1, (.k (.int .i64 1)))), (1, (1, (.t 4)))])), none⟩,
  ⟨none, (.op (.store 3 (.t 2) (.t 5))), none⟩])
  .ret)
  .skip))
  (.seq
  (.ops [] [
  ⟨(some 6), (.op (.mkSl 1 [(.int .u8 0)] [(0, (1, (.k (.int .u8 0))))])), none⟩,
  ⟨(some 7), (.op (.build [(.int .i64 0), (.slice none 0 0), (.slice none 0 0)] [(0, (1, (.k (.int .i64 1)))), (1, (1, (.t 6)))])), none⟩,
  ⟨none, (.op (.store 3 (.t 2) (.t 7))), none⟩])
  .ret))),
  [(.cN 2 3)]⟩
def c_lanyardref05_Bool : RFn :=
  ⟨8,
  (.seq
  (.ops [] [
  ⟨(some 2), (.op (.new [(.int .i64 0), (.slice none 0 0), (.slice none 0 0)])), none⟩])
  (.seq
  (.seq
  (.ops [] [
  ⟨(some 3), (.op (.mv (.t 0))), none⟩])
  (.cond (.t 3)
  (.seq
  (.ops [] [
  ⟨(some 4), (.op (.mkSl 1 [(.int .u8 0)] [(0, (1, (.k (.int .u8 255))))])), none⟩,
  ⟨(some 5), (.op (.build [(.int .i64 0), (.slice none 0 0), (.slice none 0 0)] [(0, (1, (.k (.int .i64 1)))), (1, (1, (.t 4)))])), none⟩,
  ⟨none, (.op (.store 3 (.t 2) (.t 5))), none⟩])
  .ret)
  .skip))
  (.seq
  (.ops [] [
  ⟨(some 6), (.op (.mkSl 1 [(.int .u8 0)] [(0, (1, (.k (.int .u8 0))))])), none⟩,
  ⟨(some 7), (.op (.build [(.int .i64 0), (.slice none 0 0), (.slice none 0 0)] [(0, (1, (.k (.int .i64 1)))), (1, (1, (.t 6)))])), none⟩,
  ⟨none, (.op (.store 3 (.t 2) (.t 7))), none⟩])
  .ret))),
  [(.cN 2 3)]⟩
def c_scalar_Of_1 : RFn :=
  ⟨9,
  (.seq
  (.ops [] [
  ⟨(some 2), (.op (.new [(.int .i64 0), (.slice none 0 0), (.slice none 0 0)])), none⟩,
  ⟨(some 3), (.op (.mv (.k (.int .i64 0)))), none⟩])
  (.seq
  (.ops [] [
  ⟨(some 4), (.op (.load1 (.t 0))), none⟩,
  ⟨(some 5), (.op (.load1 (.t 1))), none⟩,
  ⟨(some 6), (.call (.k (.func (.func 20) #[] #[])) [(.t 4), (.t 5)]), none⟩,
  ⟨(some 7), (.op (.extract (.t 6) 0)), none⟩,
  ⟨(some 8), (.op (.extract (.t 6) 1)), none⟩,
  ⟨none, (.op (.store 3 (.t 2) (.t 7))), none⟩,
  ⟨(some 3), (.op (.mv (.t 8))), none⟩])
  .ret)),
  [(.cN 2 3), (.t 3)]⟩
def c_scalar_True_1 : RFn :=
  ⟨5,
  (.seq
  (.ops [] [
  ⟨(some 1), (.op (.new [(.int .i64 0), (.slice none 0 0), (.slice none 0 0)])), none⟩,
  ⟨(some 2), (.op (.mv (.k (.int .i64 0)))), none⟩])
  (.seq
  (.ops [] [
  ⟨(some 3), (.op (.load1 (.t 0))), none⟩,
  ⟨(some 4), (.call (.k (.func (.func 26) #[] #[])) [(.t 3)]), none⟩,
  ⟨none, (.op (.store 3 (.t 1) (.t 4))), none⟩,
  ⟨(some 2), (.op (.mv (.k (.int .i64 0)))), none⟩])
  .ret)),
  [(.cN 1 3), (.t 2)]⟩
def c_scalar_just_bool_ : RFn :=
  ⟨31,
  (.seq
  (.ops [] [
  ⟨(some 6), (.op (.box (.t 2))), none⟩,
  ⟨(some 8), (.op (.mv (.k (.bool false)))), none⟩,
  ⟨(some 9), (.op (.mv (.k (.int .i64 0)))), none⟩])
  (.seq
  (.ops [] [
  ⟨(some 10), (.op (.mv (.k (.bool false)))), none⟩])
  (.seq
  (.seq
  (.ops [] [
  ⟨(some 13), (.op (.mv (.t 1))), none⟩,
  ⟨(some 14), (.op (.un .not (.t 13))), none⟩])
  (.cond (.t 14)
  (.seq
  (.ops [] [
  ⟨(some 15), (.op (.mv (.t 10))), none⟩,
  ⟨(some 8), (.op (.mv (.t 15))), none⟩,
  ⟨(some 9), (.op (.mv (.k (.int .i64 2)))), none⟩])
  .ret)
  .skip))
  (.seq
  (.seq
  (.ops [] [
  ⟨(some 17), (.op (.mv (.t 3))), none⟩,
  ⟨(some 18), (.call (.t 17) []), none⟩,
  ⟨(some 16), (.op (.mv (.t 18))), none⟩,
  ⟨(some 19), (.op (.extract (.t 16) 0)), none⟩,
  ⟨(some 20), (.op (.extract (.t 16) 1)), none⟩,
  ⟨(some 11), (.op (.new [(.int .i64 0), (.slice none 0 0), (.slice none 0 0)])), none⟩,
  ⟨none, (.op (.store 3 (.t 11) (.t 19))), none⟩,
  ⟨(some 12), (.op (.mv (.t 20))), none⟩])
  (.seq
  (.ops [] [
  ⟨(some 21), (.op (.mv (.t 12))), none⟩,
  ⟨(some 22), (.op (.bin .neq (.t 21) (.k (.int .i64 0)))), none⟩,
  ⟨(some 23), (.op (.mv (.t 22))), none⟩,
  ⟨(some 24), (.op (.loadN 3 (.t 11))), (some (23, false))⟩,
  ⟨(some 25), (.op (.loadN 3 (.t 6))), (some (23, false))⟩,
  ⟨(some 26), (.call (.k (.func (.func 75) #[] #[])) [(.t 24), (.t 25)]), (some (23, false))⟩,
  ⟨(some 27), (.op (.un .not (.t 26))), (some (23, false))⟩,
  ⟨(some 28), (.op (.pick (.t 23) (.k (.bool true)) (.t 27))), none⟩])
  (.cond (.t 28)
  (.seq
  (.ops [] [
  ⟨(some 29), (.op (.mv (.t 10))), none⟩,
  ⟨(some 8), (.op (.mv (.t 29))), none⟩,
  ⟨(some 9), (.op (.mv (.k (.int .i64 2)))), none⟩])
  .ret)
  .skip)))
  (.seq
  (.ops [] [
  ⟨(some 30), (.op (.mv (.t 0))), none⟩,
  ⟨(some 8), (.op (.mv (.t 30))), none⟩,
  ⟨(some 9), (.op (.mv (.k (.int .i64 0)))), none⟩])
  .ret))))),
  [(.t 8), (.t 9)]⟩
def c_lanyardlaw05_ScalarBits : RFn :=
  ⟨119,
  (.seq
  (.ops [] [
  ⟨(some 5), (.op (.box (.t 2))), none⟩,
  ⟨(some 6), (.op (.mv (.k (.bool false)))), none⟩])
  (.seq
  (.ops [] [
  ⟨(some 25), (.call (.k (.func (.func 9) #[] #[])) []), none⟩,
  ⟨(some 7), (.op (.mv (.t 25))), none⟩])
  (.seq
  (.ops [] [
  ⟨(some 26), (.op (.loadN 3 (.t 5))), none⟩,
  ⟨(some 27), (.call (.k (.func (.func 10) #[] #[])) [(.t 26)]), none⟩,
  ⟨(some 8), (.op (.mv (.t 27))), none⟩])
  (.seq
  (.seq
  (.ops [] [
  ⟨(some 28), (.op (.mv (.t 8))), none⟩,
  ⟨(some 29), (.op (.un .not (.t 28))), none⟩,
  ⟨(some 30), (.op (.mv (.t 29))), none⟩,
  ⟨(some 31), (.op (.mv (.t 0))), (some (30, false))⟩,
  ⟨(some 32), (.op (.lenSl (.t 31))), (some (30, false))⟩,
  ⟨(some 33), (.op (.bin .gtr (.t 32) (.k (.int .i64 1000)))), (some (30, false))⟩,
  ⟨(some 34), (.op (.pick (.t 30) (.k (.bool true)) (.t 33))), none⟩])
  (.cond (.t 34)
  (.seq
  (.ops [] [
  ⟨(some 35), (.op (.mv (.t 7))), none⟩,
  ⟨(some 6), (.op (.mv (.t 35))), none⟩])
  .ret)
  .skip))
  (.seq
  (.ops [] [
  ⟨(some 37), (.op (.mv (.t 0))), none⟩,
  ⟨(some 38), (.op (.mv (.t 1))), none⟩,
  ⟨(some 39), (.call (.k (.func (.func 20) #[] #[])) [(.t 37), (.t 38)]), none⟩,
  ⟨(some 36), (.op (.mv (.t 39))), none⟩,
  ⟨(some 40), (.op (.extract (.t 36) 0)), none⟩,
  ⟨(some 41), (.op (.extract (.t 36) 1)), none⟩,
  ⟨(some 9), (.op (.new [(.int .i64 0), (.slice none 0 0), (.slice none 0 0)])), none⟩,
  ⟨none, (.op (.store 3 (.t 9) (.t 40))), none⟩,
  ⟨(some 10), (.op (.mv (.t 41))), none⟩])
  (.seq
  (.ops [] [
  ⟨(some 43), (.op (.mv (.t 0))), none⟩,
  ⟨(some 44), (.op (.mv (.t 1))), none⟩,
  ⟨(some 45), (.call (.k (.func (.func 21) #[] #[])) [(.t 43), (.t 44)]), none⟩,
  ⟨(some 42), (.op (.mv (.t 45))), none⟩,
  ⟨(some 46), (.op (.extract (.t 42) 0)), none⟩,
  ⟨(some 47), (.op (.extract (.t 42) 1)), none⟩,
  ⟨(some 11), (.op (.new [(.int .i64 0), (.slice none 0 0), (.slice none 0 0)])), none⟩,
  ⟨none, (.op (.store 3 (.t 11) (.t 46))), none⟩,
  ⟨(some 12), (.op (.mv (.t 47))), none⟩])
  (.seq
  (.ops [] [
  ⟨(some 48), (.op (.loadN 3 (.t 9))), none⟩,
  ⟨(some 49), (.op (.loadN 3 (.t 11))), none⟩,
  ⟨(some 50), (.call (.k (.func (.func 11) #[] #[])) [(.t 48), (.t 49)]), none⟩,
  ⟨(some 13), (.op (.mv (.t 50))), none⟩])
  (.seq
  (.ops [] [
  ⟨(some 52), (.op (.loadN 3 (.t 5))), none⟩,
  ⟨(some 53), (.call (.k (.func (.func 22) #[] #[])) [(.t 52)]), none⟩,
  ⟨(some 51), (.op (.mv (.t 53))), none⟩,
  ⟨(some 54), (.op (.extract (.t 51) 0)), none⟩,
  ⟨(some 55), (.op (.extract (.t 51) 1)), none⟩,
  ⟨(some 56), (.op (.extract (.t 51) 2)), none⟩,
  ⟨(some 14), (.op (.mv (.t 54))), none⟩,
  ⟨(some 15), (.op (.mv (.t 55))), none⟩,
  ⟨(some 16), (.op (.mv (.t 56))), none⟩])
  (.seq
  (.ops [] [
  ⟨(some 58), (.op (.loadN 3 (.t 5))), none⟩,
  ⟨(some 59), (.call (.k (.func (.func 23) #[] #[])) [(.t 58)]), none⟩,
  ⟨(some 57), (.op (.mv (.t 59))), none⟩,
  ⟨(some 60), (.op (.extract (.t 57) 0)), none⟩,
  ⟨(some 61), (.op (.extract (.t 57) 1)), none⟩,
  ⟨(some 62), (.op (.extract (.t 57) 2)), none⟩,
  ⟨(some 17), (.op (.mv (.t 60))), none⟩,
  ⟨(some 18), (.op (.mv (.t 61))), none⟩,
  ⟨(some 19), (.op (.mv (.t 62))), none⟩])
  (.seq
  (.ops [] [
  ⟨(some 64), (.op (.loadN 3 (.t 5))), none⟩,
  ⟨(some 65), (.call (.k (.func (.func 24) #[] #[])) [(.t 64)]), none⟩,
  ⟨(some 63), (.op (.mv (.t 65))), none⟩,
  ⟨(some 66), (.op (.extract (.t 63) 0)), none⟩,
  ⟨(some 67), (.op (.extract (.t 63) 1)), none⟩,
  ⟨(some 20), (.op (.mv (.t 66))), none⟩,
  ⟨(some 21), (.op (.mv (.t 67))), none⟩])
  (.seq
  (.ops [] [
  ⟨(some 69), (.op (.loadN 3 (.t 5))), none⟩,
  ⟨(some 70), (.call (.k (.func (.func 25) #[] #[])) [(.t 69)]), none⟩,
  ⟨(some 68), (.op (.mv (.t 70))), none⟩,
  ⟨(some 71), (.op (.extract (.t 68) 0)), none⟩,
  ⟨(some 72), (.op (.extract (.t 68) 1)), none⟩,
  ⟨(some 22), (.op (.mv (.t 71))), none⟩,
  ⟨(some 23), (.op (.mv (.t 72))), none⟩])
  (.seq
  (.ops [] [
  ⟨(some 73), (.op (.mv (.t 1))), none⟩,
  ⟨(some 74), (.op (.bin .gtr (.t 73) (.k (.int .i64 3)))), none⟩,
  ⟨(some 75), (.call (.k (.func (.func 26) #[] #[])) [(.t 74)]), none⟩,
  ⟨(some 76), (.op (.mv (.t 1))), none⟩,
  ⟨(some 77), (.op (.bin .gtr (.t 76) (.k (.int .i64 3)))), none⟩,
  ⟨(some 78), (.call (.k (.func (.func 27) #[] #[])) [(.t 77)]), none⟩,
  ⟨(some 79), (.call (.k (.func (.func 11) #[] #[])) [(.t 75), (.t 78)]), none⟩,
  ⟨(some 24), (.op (.mv (.t 79))), none⟩])
  (.seq
  (.ops [] [
  ⟨(some 80), (.op (.mv (.t 7))), none⟩,
  ⟨(some 81), (.op (.mv (.t 80))), none⟩,
  ⟨(some 82), (.op (.mv (.t 13))), (some (81, true))⟩,
  ⟨(some 83), (.op (.pick (.t 81) (.t 82) (.k (.bool false)))), none⟩,
  ⟨(some 84), (.op (.mv (.t 83))), none⟩,
  ⟨(some 85), (.op (.mv (.t 10))), (some (84, true))⟩,
  ⟨(some 86), (.op (.mv (.t 12))), (some (84, true))⟩,
  ⟨(some 87), (.op (.bin .eql (.t 85) (.t 86))), (some (84, true))⟩,
  ⟨(some 88), (.op (.pick (.t 84) (.t 87) (.k (.bool false)))), none⟩,
  ⟨(some 89), (.op (.mv (.t 88))), none⟩,
  ⟨(some 90), (.op (.mv (.t 14))), (some (89, true))⟩,
  ⟨(some 91), (.op (.b2s (.t 90))), (some (89, true))⟩,
  ⟨(some 92), (.op (.mv (.t 17))), (some (89, true))⟩,
  ⟨(some 93), (.op (.b2s (.t 92))), (some (89, true))⟩,
  ⟨(some 94), (.op (.bin .eql (.t 91) (.t 93))), (some (89, true))⟩,
  ⟨(some 95), (.op (.pick (.t 89) (.t 94) (.k (.bool false)))), none⟩,
  ⟨(some 96), (.op (.mv (.t 95))), none⟩,
  ⟨(some 97), (.op (.mv (.t 15))), (some (96, true))⟩,
  ⟨(some 98), (.op (.mv (.t 18))), (some (96, true))⟩,
  ⟨(some 99), (.op (.bin .eql (.t 97) (.t 98))), (some (96, true))⟩,
  ⟨(some 100), (.op (.pick (.t 96) (.t 99) (.k (.bool false)))), none⟩,
  ⟨(some 101), (.op (.mv (.t 100))), none⟩,
  ⟨(some 102), (.op (.mv (.t 16))), (some (101, true))⟩,
  ⟨(some 103), (.op (.mv (.t 19))), (some (101, true))⟩,
  ⟨(some 104), (.op (.bin .eql (.t 102) (.t 103))), (some (101, true))⟩,
  ⟨(some 105), (.op (.pick (.t 101) (.t 104) (.k (.bool false)))), none⟩,
  ⟨(some 106), (.op (.mv (.t 105))), none⟩,
  ⟨(some 107), (.op (.mv (.t 20))), (some (106, true))⟩,
  ⟨(some 108), (.op (.mv (.t 22))), (some (106, true))⟩,
  ⟨(some 109), (.op (.eqB false (.t 107) (.t 108))), (some (106, true))⟩,
  ⟨(some 110), (.op (.pick (.t 106) (.t 109) (.k (.bool false)))), none⟩,
  ⟨(some 111), (.op (.mv (.t 110))), none⟩,
  ⟨(some 112), (.op (.mv (.t 21))), (some (111, true))⟩,
  ⟨(some 113), (.op (.mv (.t 23))), (some (111, true))⟩,
  ⟨(some 114), (.op (.bin .eql (.t 112) (.t 113))), (some (111, true))⟩,
  ⟨(some 115), (.op (.pick (.t 111) (.t 114) (.k (.bool false)))), none⟩,
  ⟨(some 116), (.op (.mv (.t 115))), none⟩,
  ⟨(some 117), (.op (.mv (.t 24))), (some (116, true))⟩,
  ⟨(some 118), (.op (.pick (.t 116) (.t 117) (.k (.bool false)))), none⟩,
  ⟨(some 6), (.op (.mv (.t 118))), none⟩])
  .ret))))))))))))),
  [(.t 6)]⟩
end Go.Ga

/- Bits as an element. -/
namespace Go.Ga
open Go Go.Proofs
set_option linter.unusedSimpArgs false
set_option linter.unusedVariables false
set_option maxRecDepth 100000
attribute [local irreducible] appendK

def bitsOk (l : List UInt8) (many : Int) : Bool := decide (0 ≤ many) && decide (many ≤ 8 * (l.length : Int)) && decide (8 * (l.length : Int) - many ≤ 7) && decide ((l.getD (l.length - 1) 0).toNat % 2 ^ (8 * (l.length : Int) - many).toNat = 0)
def bitsR (l : List UInt8) (many : Int) : Except Nat Fo.El := if bitsOk l many then .ok ⟨3, UInt8.ofNat (8 * (l.length : Int) - many).toNat :: l, .nil⟩ else .error 1
section
variable {nx : Nat} {gt : Nat → Option Blk}

end
end Go.Ga

/- Truths, and the bits of an element. -/
namespace Go.Ga
open Go Go.Proofs
set_option linter.unusedSimpArgs false
set_option linter.unusedVariables false
set_option maxRecDepth 100000
attribute [local irreducible] appendK

def boolE (is : Bool) : Fo.El := ⟨1, [if is then 255 else 0], .nil⟩
noncomputable def trueR (x : Fo.El) : Bool × Nat := open Classical in if x = boolE true then (true, 0) else if x = boolE false then (false, 0) else (false, 2)
noncomputable def ofR (x : Fo.El) : List UInt8 × Int × Nat := open Classical in if x.b ≠ [] ∧ bitsR x.b.tail (8 * (x.b.tail.length : Int) - (x.b.headD 0).toNat) = .ok x then (x.b.tail, 8 * (x.b.tail.length : Int) - (x.b.headD 0).toNat, 0) else ([], 0, 2)
section
variable {nx : Nat} {gt : Nat → Option Blk}



end
end Go.Ga

/- The truth of an element. -/
namespace Go.Ga
open Go Go.Proofs
set_option linter.unusedSimpArgs false
set_option linter.unusedVariables false
set_option maxRecDepth 100000
attribute [local irreducible] appendK

def isT (l : List UInt8) : Bool := match l with | [] => false | a :: _ => decide (¬ (a.toNat : Int) = 0)
section
variable {nx : Nat} {gt : Nat → Option Blk}

end
end Go.Ga

/- The document's truth; the bits of an element. -/
namespace Go.Ga
open Go Go.Proofs
set_option linter.unusedSimpArgs false
set_option linter.unusedVariables false
set_option maxRecDepth 100000
attribute [local irreducible] appendK

def OErr (nx : Nat) (g : Nat → Option Blk) (v : Value) (r : List UInt8 × Int × Nat) : Prop := ∃ u, v = .tuple #[u, .int .i64 r.2.1, .int .i64 (r.2.2 : Nat)] ∧ BySl nx g u r.1

section
variable {nx : Nat} {gt : Nat → Option Blk}


end
end Go.Ga

/- The document's bits; the law ScalarBits. -/
namespace Go.Ga
open Go Go.Proofs
set_option linter.unusedSimpArgs false
set_option linter.unusedVariables false
set_option maxRecDepth 100000
attribute [local irreducible] appendK

section
variable {nx : Nat} {gt : Nat → Option Blk}

end
end Go.Ga

/- The law ScalarBits. -/
namespace Go.Ga
open Go Go.Proofs
set_option linter.unusedSimpArgs false
set_option linter.unusedVariables false
set_option maxRecDepth 100000
attribute [local irreducible] appendK

def nodeOf : Except Nat Fo.El → Fo.El
  | .ok y => y
  | .error _ => ⟨0, [], .nil⟩
def errOf : Except Nat Fo.El → Nat
  | .ok _ => 0
  | .error e => e
theorem NErr.any {lo nx : Nat} {g : Nat → Option Blk} {v : Value} {r : Except Nat Fo.El} (h : NErr lo nx g v r) : ∃ (B : Option Addr) (m d : Nat) (A : Option Addr) (n c : Nat) (ks : List Value), v = .tuple #[nodeV (nodeOf r).t B m d A n c, .int .i64 (errOf r : Nat)] ∧ NdL lo nx g (nodeOf r) B m d A n c ks := by
  cases r with
  | error e => exact ⟨none, 0, 0, none, 0, 0, [], h.1, NdL.zero⟩
  | ok y =>
    obtain ⟨u, rfl, B, m, d, A, n, c, ks, rfl, hN⟩ := h
    exact ⟨B, m, d, A, n, c, ks, rfl, hN⟩
section
variable {nx : Nat} {gt : Nat → Option Blk}


end
end Go.Ga

namespace Go.Ga
open Go Go.Proofs
set_option maxRecDepth 100000

def c_scalar_Text : RFn :=
  ⟨29,
  (.seq
  (.ops [] [
  ⟨(some 2), (.op (.new [(.int .i64 0), (.slice none 0 0), (.slice none 0 0)])), none⟩,
  ⟨(some 3), (.op (.mv (.k (.int .i64 0)))), none⟩])
  (.seq
  (.seq
  (.ops [] [
  ⟨(some 5), (.op (.mv (.t 0))), none⟩,
  ⟨(some 6), (.op (.lenStr (.t 5))), none⟩,
  ⟨(some 7), (.op (.bin .gtr (.t 6) (.k (.int .i64 200)))), none⟩])
  (.cond (.t 7)
  (.seq
  (.ops [] [
  ⟨(some 8), (.op (.build [(.int .i64 0), (.slice none 0 0), (.slice none 0 0)] [])), none⟩,
  ⟨none, (.op (.store 3 (.t 2) (.t 8))), none⟩,
  ⟨(some 3), (.op (.mv (.k (.int .i64 1)))), none⟩])
  .ret)
  .skip))
  (.seq
  (.seq
  (.ops [] [
  ⟨(some 9), (.op (.mv (.t 0))), none⟩,
  ⟨(some 10), (.op (.lenStr (.t 9))), none⟩,
  ⟨(some 11), (.op (.mv (.k (.int .i64 0)))), none⟩])
  (.block 0
  (.loop
  (.seq
  (.ops [] [
  ⟨(some 12), (.op (.bin .lss (.t 11) (.t 10))), none⟩])
  (.seq
  (.cond (.t 12)
  .skip
  (.exit 0))
  (.seq
  (.block 1
  (.seq
  (.ops [] [
  ⟨(some 13), (.op (.mv (.t 11))), none⟩,
  ⟨(some 4), (.op (.mv (.t 13))), none⟩])
  (.seq
  (.ops [] [
  ⟨(some 14), (.op (.mv (.t 0))), none⟩,
  ⟨(some 15), (.op (.mv (.t 4))), none⟩,
  ⟨(some 16), (.op (.ixStr (.t 14) (.t 15))), none⟩,
  ⟨(some 17), (.op (.bin .lss (.t 16) (.k (.int .u8 32)))), none⟩,
  ⟨(some 18), (.op (.mv (.t 17))), none⟩,
  ⟨(some 19), (.op (.mv (.t 0))), (some (18, false))⟩,
  ⟨(some 20), (.op (.mv (.t 4))), (some (18, false))⟩,
  ⟨(some 21), (.op (.ixStr (.t 19) (.t 20))), (some (18, false))⟩,
  ⟨(some 22), (.op (.bin .gtr (.t 21) (.k (.int .u8 126)))), (some (18, false))⟩,
  ⟨(some 23), (.op (.pick (.t 18) (.k (.bool true)) (.t 22))), none⟩])
  (.cond (.t 23)
  (.seq
  (.ops [] [
  ⟨(some 24), (.op (.build [(.int .i64 0), (.slice none 0 0), (.slice none 0 0)] [])), none⟩,
  ⟨none, (.op (.store 3 (.t 2) (.t 24))), none⟩,
  ⟨(some 3), (.op (.mv (.k (.int .i64 1)))), none⟩])
  .ret)
  .skip))))
  (.ops [] [
  ⟨(some 25), (.op (.bin .add (.t 11) (.k (.int .i64 1)))), none⟩,
  ⟨(some 11), (.op (.mv (.t 25))), none⟩])))))))
  (.seq
  (.ops [] [
  ⟨(some 26), (.op (.mv (.t 0))), none⟩,
  ⟨(some 27), (.op (.s2b (.t 26))), none⟩,
  ⟨(some 28), (.op (.build [(.int .i64 0), (.slice none 0 0), (.slice none 0 0)] [(0, (1, (.k (.int .i64 22)))), (1, (1, (.t 27)))])), none⟩,
  ⟨none, (.op (.store 3 (.t 2) (.t 28))), none⟩,
  ⟨(some 3), (.op (.mv (.k (.int .i64 0)))), none⟩])
  .ret)))),
  [(.cN 2 3), (.t 3)]⟩
theorem r_scalar_Text : resolveFn Tryd.prog 33 = some c_scalar_Text := by kernel_rfl

def c_lanyardref05_Text : RFn :=
  ⟨30,
  (.seq
  (.ops [] [
  ⟨(some 2), (.op (.new [(.int .i64 0), (.slice none 0 0), (.slice none 0 0)])), none⟩,
  ⟨(some 3), (.op (.mv (.k (.int .i64 0)))), none⟩])
  (.seq
  (.seq
  (.ops [] [
  ⟨(some 4), (.op (.mv (.k (.int .i64 0)))), none⟩])
  (.block 0
  (.loop
  (.seq
  (.seq
  (.ops [] [
  ⟨(some 5), (.op (.mv (.t 4))), none⟩,
  ⟨(some 6), (.op (.mv (.t 0))), none⟩,
  ⟨(some 7), (.op (.lenStr (.t 6))), none⟩,
  ⟨(some 8), (.op (.bin .lss (.t 5) (.t 7))), none⟩])
  (.cond (.t 8)
  .skip
  (.exit 0)))
  (.seq
  (.block 1
  (.seq
  (.ops [] [
  ⟨(some 11), (.op (.mv (.t 0))), none⟩,
  ⟨(some 12), (.op (.mv (.t 4))), none⟩,
  ⟨(some 13), (.op (.ixStr (.t 11) (.t 12))), none⟩,
  ⟨(some 14), (.op (.bin .lss (.t 13) (.k (.int .u8 32)))), none⟩,
  ⟨(some 15), (.op (.mv (.t 14))), none⟩,
  ⟨(some 16), (.op (.mv (.t 0))), (some (15, false))⟩,
  ⟨(some 17), (.op (.mv (.t 4))), (some (15, false))⟩,
  ⟨(some 18), (.op (.ixStr (.t 16) (.t 17))), (some (15, false))⟩,
  ⟨(some 19), (.op (.bin .gtr (.t 18) (.k (.int .u8 126)))), (some (15, false))⟩,
  ⟨(some 20), (.op (.pick (.t 15) (.k (.bool true)) (.t 19))), none⟩,
  ⟨(some 21), (.op (.mv (.t 20))), none⟩,
  ⟨(some 22), (.op (.mv (.t 0))), (some (21, false))⟩,
  ⟨(some 23), (.op (.lenStr (.t 22))), (some (21, false))⟩,
  ⟨(some 24), (.op (.bin .gtr (.t 23) (.k (.int .i64 200)))), (some (21, false))⟩,
  ⟨(some 25), (.op (.pick (.t 21) (.k (.bool true)) (.t 24))), none⟩])
  (.cond (.t 25)
  (.seq
  (.ops [] [
  ⟨(some 26), (.op (.build [(.int .i64 0), (.slice none 0 0), (.slice none 0 0)] [])), none⟩,
  ⟨none, (.op (.store 3 (.t 2) (.t 26))), none⟩,
  ⟨(some 3), (.op (.mv (.k (.int .i64 1)))), none⟩])
  .ret)
  .skip)))
  (.ops [] [
  ⟨(some 9), (.op (.mv (.t 4))), none⟩,
  ⟨(some 10), (.op (.bin .add (.t 9) (.k (.int .i64 1)))), none⟩,
  ⟨(some 4), (.op (.mv (.t 10))), none⟩]))))))
  (.seq
  (.ops [] [
  ⟨(some 27), (.op (.mv (.t 0))), none⟩,
  ⟨(some 28), (.op (.s2b (.t 27))), none⟩,
  ⟨(some 29), (.op (.build [(.int .i64 0), (.slice none 0 0), (.slice none 0 0)] [(0, (1, (.k (.int .i64 22)))), (1, (1, (.t 28)))])), none⟩,
  ⟨none, (.op (.store 3 (.t 2) (.t 29))), none⟩,
  ⟨(some 3), (.op (.mv (.k (.int .i64 0)))), none⟩])
  .ret))),
  [(.cN 2 3), (.t 3)]⟩
theorem r_lanyardref05_Text : resolveFn Tryd.prog 34 = some c_lanyardref05_Text := by kernel_rfl

def c_scalar_Words : RFn :=
  ⟨14,
  (.seq
  (.ops [] [
  ⟨(some 1), (.op (.box (.t 0))), none⟩,
  ⟨(some 2), (.op (.mv (.k (.string ⟨#[]⟩)))), none⟩,
  ⟨(some 3), (.op (.mv (.k (.int .i64 0)))), none⟩])
  (.seq
  (.ops [] [
  ⟨(some 5), (.op (.fieldAddr 1 (.t 1))), none⟩,
  ⟨(some 6), (.op (.load1 (.t 5))), none⟩,
  ⟨(some 7), (.op (.b2s (.t 6))), none⟩,
  ⟨(some 4), (.op (.new [(.string ⟨#[]⟩)])), none⟩,
  ⟨none, (.op (.store 1 (.t 4) (.t 7))), none⟩])
  (.seq
  (.ops [] [
  ⟨(some 8), (.op (.load1 (.t 4))), none⟩,
  ⟨(some 9), (.op (.loadN 3 (.t 1))), none⟩,
  ⟨(some 10), (.op (.func 62 [(.t 4)])), none⟩,
  ⟨(some 11), (.call (.k (.func (.func 61) #[] #[])) [(.t 8), (.k (.bool true)), (.t 9), (.t 10)]), none⟩,
  ⟨(some 12), (.op (.extract (.t 11) 0)), none⟩,
  ⟨(some 13), (.op (.extract (.t 11) 1)), none⟩,
  ⟨(some 2), (.op (.mv (.t 12))), none⟩,
  ⟨(some 3), (.op (.mv (.t 13))), none⟩])
  .ret))),
  [(.t 2), (.t 3)]⟩
theorem r_scalar_Words : resolveFn Tryd.prog 35 = some c_scalar_Words := by kernel_rfl

def c_lanyardref05_Words : RFn :=
  ⟨24,
  (.seq
  (.ops [] [
  ⟨(some 1), (.op (.box (.t 0))), none⟩,
  ⟨(some 2), (.op (.mv (.k (.string ⟨#[]⟩)))), none⟩,
  ⟨(some 3), (.op (.mv (.k (.int .i64 0)))), none⟩])
  (.seq
  (.ops [] [
  ⟨(some 7), (.op (.fieldAddr 1 (.t 1))), none⟩,
  ⟨(some 8), (.op (.load1 (.t 7))), none⟩,
  ⟨(some 9), (.op (.b2s (.t 8))), none⟩,
  ⟨(some 10), (.call (.k (.func (.func 34) #[] #[])) [(.t 9)]), none⟩,
  ⟨(some 6), (.op (.mv (.t 10))), none⟩,
  ⟨(some 11), (.op (.extract (.t 6) 0)), none⟩,
  ⟨(some 12), (.op (.extract (.t 6) 1)), none⟩,
  ⟨(some 4), (.op (.new [(.int .i64 0), (.slice none 0 0), (.slice none 0 0)])), none⟩,
  ⟨none, (.op (.store 3 (.t 4) (.t 11))), none⟩,
  ⟨(some 5), (.op (.mv (.t 12))), none⟩])
  (.seq
  (.seq
  (.ops [] [
  ⟨(some 13), (.op (.mv (.t 5))), none⟩,
  ⟨(some 14), (.op (.bin .neq (.t 13) (.k (.int .i64 0)))), none⟩,
  ⟨(some 15), (.op (.mv (.t 14))), none⟩,
  ⟨(some 16), (.op (.loadN 3 (.t 4))), (some (15, false))⟩,
  ⟨(some 17), (.op (.loadN 3 (.t 1))), (some (15, false))⟩,
  ⟨(some 18), (.call (.k (.func (.func 11) #[] #[])) [(.t 16), (.t 17)]), (some (15, false))⟩,
  ⟨(some 19), (.op (.un .not (.t 18))), (some (15, false))⟩,
  ⟨(some 20), (.op (.pick (.t 15) (.k (.bool true)) (.t 19))), none⟩])
  (.cond (.t 20)
  (.seq
  (.ops [] [
  ⟨(some 2), (.op (.mv (.k (.string ⟨#[]⟩)))), none⟩,
  ⟨(some 3), (.op (.mv (.k (.int .i64 2)))), none⟩])
  .ret)
  .skip))
  (.seq
  (.ops [] [
  ⟨(some 21), (.op (.fieldAddr 1 (.t 1))), none⟩,
  ⟨(some 22), (.op (.load1 (.t 21))), none⟩,
  ⟨(some 23), (.op (.b2s (.t 22))), none⟩,
  ⟨(some 2), (.op (.mv (.t 23))), none⟩,
  ⟨(some 3), (.op (.mv (.k (.int .i64 0)))), none⟩])
  .ret)))),
  [(.t 2), (.t 3)]⟩
theorem r_lanyardref05_Words : resolveFn Tryd.prog 36 = some c_lanyardref05_Words := by kernel_rfl

def c_scalar_Words_1 : RFn :=
  ⟨7,
  (.seq
  (.ops [] [
  ⟨(some 1), (.op (.new [(.int .i64 0), (.slice none 0 0), (.slice none 0 0)])), none⟩,
  ⟨(some 2), (.op (.mv (.k (.int .i64 0)))), none⟩])
  (.seq
  (.ops [] [
  ⟨(some 3), (.op (.load1 (.t 0))), none⟩,
  ⟨(some 4), (.call (.k (.func (.func 33) #[] #[])) [(.t 3)]), none⟩,
  ⟨(some 5), (.op (.extract (.t 4) 0)), none⟩,
  ⟨(some 6), (.op (.extract (.t 4) 1)), none⟩,
  ⟨none, (.op (.store 3 (.t 1) (.t 5))), none⟩,
  ⟨(some 2), (.op (.mv (.t 6))), none⟩])
  .ret)),
  [(.cN 1 3), (.t 2)]⟩
theorem r_scalar_Words_1 : resolveFn Tryd.prog 62 = some c_scalar_Words_1 := by kernel_rfl

def c_scalar_Time : RFn :=
  ⟨25,
  (.seq
  (.ops [] [
  ⟨(some 2), (.op (.new [(.int .i64 0), (.slice none 0 0), (.slice none 0 0)])), none⟩,
  ⟨(some 3), (.op (.mv (.k (.int .i64 0)))), none⟩])
  (.seq
  (.ops [] [
  ⟨(some 7), (.op (.mv (.t 0))), none⟩,
  ⟨(some 8), (.call (.k (.func (.func 63) #[] #[])) [(.t 7)]), none⟩,
  ⟨(some 6), (.op (.mv (.t 8))), none⟩,
  ⟨(some 9), (.op (.extract (.t 6) 0)), none⟩,
  ⟨(some 10), (.op (.extract (.t 6) 1)), none⟩,
  ⟨(some 4), (.op (.mv (.t 9))), none⟩,
  ⟨(some 5), (.op (.mv (.t 10))), none⟩])
  (.seq
  (.block 0
  (.seq
  (.ops [] [
  ⟨(some 12), (.op (.mv (.t 5))), none⟩,
  ⟨(some 13), (.op (.un .not (.t 12))), none⟩,
  ⟨(some 11), (.op (.mv (.t 13))), none⟩])
  (.cond (.t 11)
  (.seq
  (.ops [] [
  ⟨(some 14), (.op (.build [(.int .i64 0), (.slice none 0 0), (.slice none 0 0)] [])), none⟩,
  ⟨none, (.op (.store 3 (.t 2) (.t 14))), none⟩,
  ⟨(some 3), (.op (.mv (.k (.int .i64 1)))), none⟩])
  .ret)
  (.seq
  (.ops [] [
  ⟨(some 16), (.op (.mv (.t 4))), none⟩,
  ⟨(some 17), (.op (.lenStr (.t 16))), none⟩,
  ⟨(some 18), (.op (.bin .eql (.t 17) (.k (.int .i64 13)))), none⟩,
  ⟨(some 15), (.op (.mv (.t 18))), none⟩])
  (.cond (.t 15)
  (.seq
  (.ops [] [
  ⟨(some 19), (.op (.mv (.t 4))), none⟩,
  ⟨(some 20), (.op (.s2b (.t 19))), none⟩,
  ⟨(some 21), (.op (.build [(.int .i64 0), (.slice none 0 0), (.slice none 0 0)] [(0, (1, (.k (.int .i64 23)))), (1, (1, (.t 20)))])), none⟩,
  ⟨none, (.op (.store 3 (.t 2) (.t 21))), none⟩,
  ⟨(some 3), (.op (.mv (.k (.int .i64 0)))), none⟩])
  .ret)
  .skip)))))
  (.seq
  (.ops [] [
  ⟨(some 22), (.op (.mv (.t 4))), none⟩,
  ⟨(some 23), (.op (.s2b (.t 22))), none⟩,
  ⟨(some 24), (.op (.build [(.int .i64 0), (.slice none 0 0), (.slice none 0 0)] [(0, (1, (.k (.int .i64 24)))), (1, (1, (.t 23)))])), none⟩,
  ⟨none, (.op (.store 3 (.t 2) (.t 24))), none⟩,
  ⟨(some 3), (.op (.mv (.k (.int .i64 0)))), none⟩])
  .ret)))),
  [(.cN 2 3), (.t 3)]⟩
theorem r_scalar_Time : resolveFn Tryd.prog 37 = some c_scalar_Time := by kernel_rfl

def c_lanyardref05_Time : RFn :=
  ⟨22,
  (.seq
  (.ops [] [
  ⟨(some 2), (.op (.new [(.int .i64 0), (.slice none 0 0), (.slice none 0 0)])), none⟩,
  ⟨(some 3), (.op (.mv (.k (.int .i64 0)))), none⟩])
  (.seq
  (.ops [] [
  ⟨(some 8), (.op (.mv (.t 0))), none⟩,
  ⟨(some 9), (.call (.k (.func (.func 64) #[] #[])) [(.t 8)]), none⟩,
  ⟨(some 7), (.op (.mv (.t 9))), none⟩,
  ⟨(some 10), (.op (.extract (.t 7) 0)), none⟩,
  ⟨(some 11), (.op (.extract (.t 7) 1)), none⟩,
  ⟨(some 4), (.op (.mv (.t 10))), none⟩,
  ⟨(some 5), (.op (.mv (.t 11))), none⟩])
  (.seq
  (.seq
  (.ops [] [
  ⟨(some 12), (.op (.mv (.t 5))), none⟩,
  ⟨(some 13), (.op (.un .not (.t 12))), none⟩])
  (.cond (.t 13)
  (.seq
  (.ops [] [
  ⟨(some 14), (.op (.build [(.int .i64 0), (.slice none 0 0), (.slice none 0 0)] [])), none⟩,
  ⟨none, (.op (.store 3 (.t 2) (.t 14))), none⟩,
  ⟨(some 3), (.op (.mv (.k (.int .i64 1)))), none⟩])
  .ret)
  .skip))
  (.seq
  (.ops [] [
  ⟨(some 6), (.op (.mv (.k (.int .i64 23)))), none⟩])
  (.seq
  (.seq
  (.ops [] [
  ⟨(some 15), (.op (.mv (.t 4))), none⟩,
  ⟨(some 16), (.op (.lenStr (.t 15))), none⟩,
  ⟨(some 17), (.op (.bin .neq (.t 16) (.k (.int .i64 13)))), none⟩])
  (.cond (.t 17)
  (.ops [] [
  ⟨(some 6), (.op (.mv (.k (.int .i64 24)))), none⟩])
  .skip))
  (.seq
  (.ops [] [
  ⟨(some 18), (.op (.mv (.t 6))), none⟩,
  ⟨(some 19), (.op (.mv (.t 4))), none⟩,
  ⟨(some 20), (.op (.s2b (.t 19))), none⟩,
  ⟨(some 21), (.op (.build [(.int .i64 0), (.slice none 0 0), (.slice none 0 0)] [(0, (1, (.t 18))), (1, (1, (.t 20)))])), none⟩,
  ⟨none, (.op (.store 3 (.t 2) (.t 21))), none⟩,
  ⟨(some 3), (.op (.mv (.k (.int .i64 0)))), none⟩])
  .ret)))))),
  [(.cN 2 3), (.t 3)]⟩
theorem r_lanyardref05_Time : resolveFn Tryd.prog 38 = some c_lanyardref05_Time := by kernel_rfl

def c_scalar_When : RFn :=
  ⟨23,
  (.seq
  (.ops [] [
  ⟨(some 1), (.op (.box (.t 0))), none⟩,
  ⟨(some 2), (.op (.mv (.k (.int .i64 0)))), none⟩,
  ⟨(some 3), (.op (.mv (.k (.int .i64 0)))), none⟩])
  (.seq
  (.ops [] [
  ⟨(some 7), (.op (.fieldAddr 1 (.t 1))), none⟩,
  ⟨(some 8), (.op (.load1 (.t 7))), none⟩,
  ⟨(some 9), (.op (.b2s (.t 8))), none⟩,
  ⟨(some 10), (.op (.fieldAddr 0 (.t 1))), none⟩,
  ⟨(some 11), (.op (.load1 (.t 10))), none⟩,
  ⟨(some 12), (.op (.bin .eql (.t 11) (.k (.int .i64 24)))), none⟩,
  ⟨(some 13), (.call (.k (.func (.func 65) #[] #[])) [(.t 9), (.t 12)]), none⟩,
  ⟨(some 6), (.op (.mv (.t 13))), none⟩,
  ⟨(some 14), (.op (.extract (.t 6) 0)), none⟩,
  ⟨(some 15), (.op (.extract (.t 6) 1)), none⟩,
  ⟨(some 4), (.op (.new [(.int .i64 0)])), none⟩,
  ⟨none, (.op (.store 1 (.t 4) (.t 14))), none⟩,
  ⟨(some 5), (.op (.mv (.t 15))), none⟩])
  (.seq
  (.ops [] [
  ⟨(some 16), (.op (.load1 (.t 4))), none⟩,
  ⟨(some 17), (.op (.mv (.t 5))), none⟩,
  ⟨(some 18), (.op (.loadN 3 (.t 1))), none⟩,
  ⟨(some 19), (.op (.func 67 [(.t 4)])), none⟩,
  ⟨(some 20), (.call (.k (.func (.func 66) #[] #[])) [(.t 16), (.t 17), (.t 18), (.t 19)]), none⟩,
  ⟨(some 21), (.op (.extract (.t 20) 0)), none⟩,
  ⟨(some 22), (.op (.extract (.t 20) 1)), none⟩,
  ⟨(some 2), (.op (.mv (.t 21))), none⟩,
  ⟨(some 3), (.op (.mv (.t 22))), none⟩])
  .ret))),
  [(.t 2), (.t 3)]⟩
theorem r_scalar_When : resolveFn Tryd.prog 39 = some c_scalar_When := by kernel_rfl

def c_lanyardref05_When : RFn :=
  ⟨36,
  (.seq
  (.ops [] [
  ⟨(some 1), (.op (.box (.t 0))), none⟩,
  ⟨(some 2), (.op (.mv (.k (.int .i64 0)))), none⟩,
  ⟨(some 3), (.op (.mv (.k (.int .i64 0)))), none⟩])
  (.seq
  (.ops [] [
  ⟨(some 9), (.op (.fieldAddr 1 (.t 1))), none⟩,
  ⟨(some 10), (.op (.load1 (.t 9))), none⟩,
  ⟨(some 11), (.op (.b2s (.t 10))), none⟩,
  ⟨(some 12), (.op (.fieldAddr 0 (.t 1))), none⟩,
  ⟨(some 13), (.op (.load1 (.t 12))), none⟩,
  ⟨(some 14), (.op (.bin .eql (.t 13) (.k (.int .i64 24)))), none⟩,
  ⟨(some 15), (.call (.k (.func (.func 68) #[] #[])) [(.t 11), (.t 14)]), none⟩,
  ⟨(some 8), (.op (.mv (.t 15))), none⟩,
  ⟨(some 16), (.op (.extract (.t 8) 0)), none⟩,
  ⟨(some 17), (.op (.extract (.t 8) 1)), none⟩,
  ⟨(some 4), (.op (.mv (.t 16))), none⟩,
  ⟨(some 5), (.op (.mv (.t 17))), none⟩])
  (.seq
  (.ops [] [
  ⟨(some 19), (.op (.mv (.t 4))), none⟩,
  ⟨(some 20), (.call (.k (.func (.func 38) #[] #[])) [(.t 19)]), none⟩,
  ⟨(some 18), (.op (.mv (.t 20))), none⟩,
  ⟨(some 21), (.op (.extract (.t 18) 0)), none⟩,
  ⟨(some 22), (.op (.extract (.t 18) 1)), none⟩,
  ⟨(some 6), (.op (.new [(.int .i64 0), (.slice none 0 0), (.slice none 0 0)])), none⟩,
  ⟨none, (.op (.store 3 (.t 6) (.t 21))), none⟩,
  ⟨(some 7), (.op (.mv (.t 22))), none⟩])
  (.seq
  (.seq
  (.ops [] [
  ⟨(some 23), (.op (.mv (.t 5))), none⟩,
  ⟨(some 24), (.op (.un .not (.t 23))), none⟩,
  ⟨(some 25), (.op (.mv (.t 24))), none⟩,
  ⟨(some 26), (.op (.mv (.t 7))), (some (25, false))⟩,
  ⟨(some 27), (.op (.bin .neq (.t 26) (.k (.int .i64 0)))), (some (25, false))⟩,
  ⟨(some 28), (.op (.pick (.t 25) (.k (.bool true)) (.t 27))), none⟩,
  ⟨(some 29), (.op (.mv (.t 28))), none⟩,
  ⟨(some 30), (.op (.loadN 3 (.t 6))), (some (29, false))⟩,
  ⟨(some 31), (.op (.loadN 3 (.t 1))), (some (29, false))⟩,
  ⟨(some 32), (.call (.k (.func (.func 11) #[] #[])) [(.t 30), (.t 31)]), (some (29, false))⟩,
  ⟨(some 33), (.op (.un .not (.t 32))), (some (29, false))⟩,
  ⟨(some 34), (.op (.pick (.t 29) (.k (.bool true)) (.t 33))), none⟩])
  (.cond (.t 34)
  (.seq
  (.ops [] [
  ⟨(some 2), (.op (.mv (.k (.int .i64 0)))), none⟩,
  ⟨(some 3), (.op (.mv (.k (.int .i64 2)))), none⟩])
  .ret)
  .skip))
  (.seq
  (.ops [] [
  ⟨(some 35), (.op (.mv (.t 4))), none⟩,
  ⟨(some 2), (.op (.mv (.t 35))), none⟩,
  ⟨(some 3), (.op (.mv (.k (.int .i64 0)))), none⟩])
  .ret))))),
  [(.t 2), (.t 3)]⟩
theorem r_lanyardref05_When : resolveFn Tryd.prog 40 = some c_lanyardref05_When := by kernel_rfl

def c_scalar_When_1 : RFn :=
  ⟨7,
  (.seq
  (.ops [] [
  ⟨(some 1), (.op (.new [(.int .i64 0), (.slice none 0 0), (.slice none 0 0)])), none⟩,
  ⟨(some 2), (.op (.mv (.k (.int .i64 0)))), none⟩])
  (.seq
  (.ops [] [
  ⟨(some 3), (.op (.load1 (.t 0))), none⟩,
  ⟨(some 4), (.call (.k (.func (.func 37) #[] #[])) [(.t 3)]), none⟩,
  ⟨(some 5), (.op (.extract (.t 4) 0)), none⟩,
  ⟨(some 6), (.op (.extract (.t 4) 1)), none⟩,
  ⟨none, (.op (.store 3 (.t 1) (.t 5))), none⟩,
  ⟨(some 2), (.op (.mv (.t 6))), none⟩])
  .ret)),
  [(.cN 1 3), (.t 2)]⟩
theorem r_scalar_When_1 : resolveFn Tryd.prog 67 = some c_scalar_When_1 := by kernel_rfl

def c_scalar_just_string_ : RFn :=
  ⟨31,
  (.seq
  (.ops [] [
  ⟨(some 6), (.op (.box (.t 2))), none⟩,
  ⟨(some 8), (.op (.mv (.k (.string ⟨#[]⟩)))), none⟩,
  ⟨(some 9), (.op (.mv (.k (.int .i64 0)))), none⟩])
  (.seq
  (.ops [] [
  ⟨(some 10), (.op (.mv (.k (.string ⟨#[]⟩)))), none⟩])
  (.seq
  (.seq
  (.ops [] [
  ⟨(some 13), (.op (.mv (.t 1))), none⟩,
  ⟨(some 14), (.op (.un .not (.t 13))), none⟩])
  (.cond (.t 14)
  (.seq
  (.ops [] [
  ⟨(some 15), (.op (.mv (.t 10))), none⟩,
  ⟨(some 8), (.op (.mv (.t 15))), none⟩,
  ⟨(some 9), (.op (.mv (.k (.int .i64 2)))), none⟩])
  .ret)
  .skip))
  (.seq
  (.seq
  (.ops [] [
  ⟨(some 17), (.op (.mv (.t 3))), none⟩,
  ⟨(some 18), (.call (.t 17) []), none⟩,
  ⟨(some 16), (.op (.mv (.t 18))), none⟩,
  ⟨(some 19), (.op (.extract (.t 16) 0)), none⟩,
  ⟨(some 20), (.op (.extract (.t 16) 1)), none⟩,
  ⟨(some 11), (.op (.new [(.int .i64 0), (.slice none 0 0), (.slice none 0 0)])), none⟩,
  ⟨none, (.op (.store 3 (.t 11) (.t 19))), none⟩,
  ⟨(some 12), (.op (.mv (.t 20))), none⟩])
  (.seq
  (.ops [] [
  ⟨(some 21), (.op (.mv (.t 12))), none⟩,
  ⟨(some 22), (.op (.bin .neq (.t 21) (.k (.int .i64 0)))), none⟩,
  ⟨(some 23), (.op (.mv (.t 22))), none⟩,
  ⟨(some 24), (.op (.loadN 3 (.t 11))), (some (23, false))⟩,
  ⟨(some 25), (.op (.loadN 3 (.t 6))), (some (23, false))⟩,
  ⟨(some 26), (.call (.k (.func (.func 75) #[] #[])) [(.t 24), (.t 25)]), (some (23, false))⟩,
  ⟨(some 27), (.op (.un .not (.t 26))), (some (23, false))⟩,
  ⟨(some 28), (.op (.pick (.t 23) (.k (.bool true)) (.t 27))), none⟩])
  (.cond (.t 28)
  (.seq
  (.ops [] [
  ⟨(some 29), (.op (.mv (.t 10))), none⟩,
  ⟨(some 8), (.op (.mv (.t 29))), none⟩,
  ⟨(some 9), (.op (.mv (.k (.int .i64 2)))), none⟩])
  .ret)
  .skip)))
  (.seq
  (.ops [] [
  ⟨(some 30), (.op (.mv (.t 0))), none⟩,
  ⟨(some 8), (.op (.mv (.t 30))), none⟩,
  ⟨(some 9), (.op (.mv (.k (.int .i64 0)))), none⟩])
  .ret))))),
  [(.t 8), (.t 9)]⟩
theorem r_scalar_just_string_ : resolveFn Tryd.prog 61 = some c_scalar_just_string_ := by kernel_rfl

def c_scalar_just_int64_ : RFn :=
  ⟨31,
  (.seq
  (.ops [] [
  ⟨(some 6), (.op (.box (.t 2))), none⟩,
  ⟨(some 8), (.op (.mv (.k (.int .i64 0)))), none⟩,
  ⟨(some 9), (.op (.mv (.k (.int .i64 0)))), none⟩])
  (.seq
  (.ops [] [
  ⟨(some 10), (.op (.mv (.k (.int .i64 0)))), none⟩])
  (.seq
  (.seq
  (.ops [] [
  ⟨(some 13), (.op (.mv (.t 1))), none⟩,
  ⟨(some 14), (.op (.un .not (.t 13))), none⟩])
  (.cond (.t 14)
  (.seq
  (.ops [] [
  ⟨(some 15), (.op (.mv (.t 10))), none⟩,
  ⟨(some 8), (.op (.mv (.t 15))), none⟩,
  ⟨(some 9), (.op (.mv (.k (.int .i64 2)))), none⟩])
  .ret)
  .skip))
  (.seq
  (.seq
  (.ops [] [
  ⟨(some 17), (.op (.mv (.t 3))), none⟩,
  ⟨(some 18), (.call (.t 17) []), none⟩,
  ⟨(some 16), (.op (.mv (.t 18))), none⟩,
  ⟨(some 19), (.op (.extract (.t 16) 0)), none⟩,
  ⟨(some 20), (.op (.extract (.t 16) 1)), none⟩,
  ⟨(some 11), (.op (.new [(.int .i64 0), (.slice none 0 0), (.slice none 0 0)])), none⟩,
  ⟨none, (.op (.store 3 (.t 11) (.t 19))), none⟩,
  ⟨(some 12), (.op (.mv (.t 20))), none⟩])
  (.seq
  (.ops [] [
  ⟨(some 21), (.op (.mv (.t 12))), none⟩,
  ⟨(some 22), (.op (.bin .neq (.t 21) (.k (.int .i64 0)))), none⟩,
  ⟨(some 23), (.op (.mv (.t 22))), none⟩,
  ⟨(some 24), (.op (.loadN 3 (.t 11))), (some (23, false))⟩,
  ⟨(some 25), (.op (.loadN 3 (.t 6))), (some (23, false))⟩,
  ⟨(some 26), (.call (.k (.func (.func 75) #[] #[])) [(.t 24), (.t 25)]), (some (23, false))⟩,
  ⟨(some 27), (.op (.un .not (.t 26))), (some (23, false))⟩,
  ⟨(some 28), (.op (.pick (.t 23) (.k (.bool true)) (.t 27))), none⟩])
  (.cond (.t 28)
  (.seq
  (.ops [] [
  ⟨(some 29), (.op (.mv (.t 10))), none⟩,
  ⟨(some 8), (.op (.mv (.t 29))), none⟩,
  ⟨(some 9), (.op (.mv (.k (.int .i64 2)))), none⟩])
  .ret)
  .skip)))
  (.seq
  (.ops [] [
  ⟨(some 30), (.op (.mv (.t 0))), none⟩,
  ⟨(some 8), (.op (.mv (.t 30))), none⟩,
  ⟨(some 9), (.op (.mv (.k (.int .i64 0)))), none⟩])
  .ret))))),
  [(.t 8), (.t 9)]⟩
theorem r_scalar_just_int64_ : resolveFn Tryd.prog 66 = some c_scalar_just_int64_ := by kernel_rfl

def c_lanyardlaw05_ScalarTexts : RFn :=
  ⟨121,
  (.seq
  (.ops [] [
  ⟨(some 5), (.op (.box (.t 2))), none⟩,
  ⟨(some 6), (.op (.mv (.k (.bool false)))), none⟩])
  (.seq
  (.ops [] [
  ⟨(some 27), (.call (.k (.func (.func 9) #[] #[])) []), none⟩,
  ⟨(some 7), (.op (.mv (.t 27))), none⟩])
  (.seq
  (.ops [] [
  ⟨(some 28), (.op (.loadN 3 (.t 5))), none⟩,
  ⟨(some 29), (.call (.k (.func (.func 10) #[] #[])) [(.t 28)]), none⟩,
  ⟨(some 8), (.op (.mv (.t 29))), none⟩])
  (.seq
  (.seq
  (.ops [] [
  ⟨(some 30), (.op (.mv (.t 8))), none⟩,
  ⟨(some 31), (.op (.un .not (.t 30))), none⟩,
  ⟨(some 32), (.op (.mv (.t 31))), none⟩,
  ⟨(some 33), (.op (.mv (.t 0))), (some (32, false))⟩,
  ⟨(some 34), (.op (.lenStr (.t 33))), (some (32, false))⟩,
  ⟨(some 35), (.op (.bin .gtr (.t 34) (.k (.int .i64 1000)))), (some (32, false))⟩,
  ⟨(some 36), (.op (.pick (.t 32) (.k (.bool true)) (.t 35))), none⟩])
  (.cond (.t 36)
  (.seq
  (.ops [] [
  ⟨(some 37), (.op (.mv (.t 7))), none⟩,
  ⟨(some 6), (.op (.mv (.t 37))), none⟩])
  .ret)
  .skip))
  (.seq
  (.ops [] [
  ⟨(some 39), (.op (.mv (.t 0))), none⟩,
  ⟨(some 40), (.call (.k (.func (.func 33) #[] #[])) [(.t 39)]), none⟩,
  ⟨(some 38), (.op (.mv (.t 40))), none⟩,
  ⟨(some 41), (.op (.extract (.t 38) 0)), none⟩,
  ⟨(some 42), (.op (.extract (.t 38) 1)), none⟩,
  ⟨(some 9), (.op (.new [(.int .i64 0), (.slice none 0 0), (.slice none 0 0)])), none⟩,
  ⟨none, (.op (.store 3 (.t 9) (.t 41))), none⟩,
  ⟨(some 10), (.op (.mv (.t 42))), none⟩])
  (.seq
  (.ops [] [
  ⟨(some 44), (.op (.mv (.t 0))), none⟩,
  ⟨(some 45), (.call (.k (.func (.func 34) #[] #[])) [(.t 44)]), none⟩,
  ⟨(some 43), (.op (.mv (.t 45))), none⟩,
  ⟨(some 46), (.op (.extract (.t 43) 0)), none⟩,
  ⟨(some 47), (.op (.extract (.t 43) 1)), none⟩,
  ⟨(some 11), (.op (.new [(.int .i64 0), (.slice none 0 0), (.slice none 0 0)])), none⟩,
  ⟨none, (.op (.store 3 (.t 11) (.t 46))), none⟩,
  ⟨(some 12), (.op (.mv (.t 47))), none⟩])
  (.seq
  (.ops [] [
  ⟨(some 48), (.op (.loadN 3 (.t 9))), none⟩,
  ⟨(some 49), (.op (.loadN 3 (.t 11))), none⟩,
  ⟨(some 50), (.call (.k (.func (.func 11) #[] #[])) [(.t 48), (.t 49)]), none⟩,
  ⟨(some 13), (.op (.mv (.t 50))), none⟩])
  (.seq
  (.ops [] [
  ⟨(some 52), (.op (.loadN 3 (.t 5))), none⟩,
  ⟨(some 53), (.call (.k (.func (.func 35) #[] #[])) [(.t 52)]), none⟩,
  ⟨(some 51), (.op (.mv (.t 53))), none⟩,
  ⟨(some 54), (.op (.extract (.t 51) 0)), none⟩,
  ⟨(some 55), (.op (.extract (.t 51) 1)), none⟩,
  ⟨(some 14), (.op (.mv (.t 54))), none⟩,
  ⟨(some 15), (.op (.mv (.t 55))), none⟩])
  (.seq
  (.ops [] [
  ⟨(some 57), (.op (.loadN 3 (.t 5))), none⟩,
  ⟨(some 58), (.call (.k (.func (.func 36) #[] #[])) [(.t 57)]), none⟩,
  ⟨(some 56), (.op (.mv (.t 58))), none⟩,
  ⟨(some 59), (.op (.extract (.t 56) 0)), none⟩,
  ⟨(some 60), (.op (.extract (.t 56) 1)), none⟩,
  ⟨(some 16), (.op (.mv (.t 59))), none⟩,
  ⟨(some 17), (.op (.mv (.t 60))), none⟩])
  (.seq
  (.ops [] [
  ⟨(some 62), (.op (.mv (.t 1))), none⟩,
  ⟨(some 63), (.call (.k (.func (.func 37) #[] #[])) [(.t 62)]), none⟩,
  ⟨(some 61), (.op (.mv (.t 63))), none⟩,
  ⟨(some 64), (.op (.extract (.t 61) 0)), none⟩,
  ⟨(some 65), (.op (.extract (.t 61) 1)), none⟩,
  ⟨(some 18), (.op (.new [(.int .i64 0), (.slice none 0 0), (.slice none 0 0)])), none⟩,
  ⟨none, (.op (.store 3 (.t 18) (.t 64))), none⟩,
  ⟨(some 19), (.op (.mv (.t 65))), none⟩])
  (.seq
  (.ops [] [
  ⟨(some 67), (.op (.mv (.t 1))), none⟩,
  ⟨(some 68), (.call (.k (.func (.func 38) #[] #[])) [(.t 67)]), none⟩,
  ⟨(some 66), (.op (.mv (.t 68))), none⟩,
  ⟨(some 69), (.op (.extract (.t 66) 0)), none⟩,
  ⟨(some 70), (.op (.extract (.t 66) 1)), none⟩,
  ⟨(some 20), (.op (.new [(.int .i64 0), (.slice none 0 0), (.slice none 0 0)])), none⟩,
  ⟨none, (.op (.store 3 (.t 20) (.t 69))), none⟩,
  ⟨(some 21), (.op (.mv (.t 70))), none⟩])
  (.seq
  (.ops [] [
  ⟨(some 71), (.op (.loadN 3 (.t 18))), none⟩,
  ⟨(some 72), (.op (.loadN 3 (.t 20))), none⟩,
  ⟨(some 73), (.call (.k (.func (.func 11) #[] #[])) [(.t 71), (.t 72)]), none⟩,
  ⟨(some 22), (.op (.mv (.t 73))), none⟩])
  (.seq
  (.ops [] [
  ⟨(some 75), (.op (.loadN 3 (.t 5))), none⟩,
  ⟨(some 76), (.call (.k (.func (.func 39) #[] #[])) [(.t 75)]), none⟩,
  ⟨(some 74), (.op (.mv (.t 76))), none⟩,
  ⟨(some 77), (.op (.extract (.t 74) 0)), none⟩,
  ⟨(some 78), (.op (.extract (.t 74) 1)), none⟩,
  ⟨(some 23), (.op (.mv (.t 77))), none⟩,
  ⟨(some 24), (.op (.mv (.t 78))), none⟩])
  (.seq
  (.ops [] [
  ⟨(some 80), (.op (.loadN 3 (.t 5))), none⟩,
  ⟨(some 81), (.call (.k (.func (.func 40) #[] #[])) [(.t 80)]), none⟩,
  ⟨(some 79), (.op (.mv (.t 81))), none⟩,
  ⟨(some 82), (.op (.extract (.t 79) 0)), none⟩,
  ⟨(some 83), (.op (.extract (.t 79) 1)), none⟩,
  ⟨(some 25), (.op (.mv (.t 82))), none⟩,
  ⟨(some 26), (.op (.mv (.t 83))), none⟩])
  (.seq
  (.ops [] [
  ⟨(some 84), (.op (.mv (.t 7))), none⟩,
  ⟨(some 85), (.op (.mv (.t 84))), none⟩,
  ⟨(some 86), (.op (.mv (.t 13))), (some (85, true))⟩,
  ⟨(some 87), (.op (.pick (.t 85) (.t 86) (.k (.bool false)))), none⟩,
  ⟨(some 88), (.op (.mv (.t 87))), none⟩,
  ⟨(some 89), (.op (.mv (.t 10))), (some (88, true))⟩,
  ⟨(some 90), (.op (.mv (.t 12))), (some (88, true))⟩,
  ⟨(some 91), (.op (.bin .eql (.t 89) (.t 90))), (some (88, true))⟩,
  ⟨(some 92), (.op (.pick (.t 88) (.t 91) (.k (.bool false)))), none⟩,
  ⟨(some 93), (.op (.mv (.t 92))), none⟩,
  ⟨(some 94), (.op (.mv (.t 14))), (some (93, true))⟩,
  ⟨(some 95), (.op (.mv (.t 16))), (some (93, true))⟩,
  ⟨(some 96), (.op (.bin .eql (.t 94) (.t 95))), (some (93, true))⟩,
  ⟨(some 97), (.op (.pick (.t 93) (.t 96) (.k (.bool false)))), none⟩,
  ⟨(some 98), (.op (.mv (.t 97))), none⟩,
  ⟨(some 99), (.op (.mv (.t 15))), (some (98, true))⟩,
  ⟨(some 100), (.op (.mv (.t 17))), (some (98, true))⟩,
  ⟨(some 101), (.op (.bin .eql (.t 99) (.t 100))), (some (98, true))⟩,
  ⟨(some 102), (.op (.pick (.t 98) (.t 101) (.k (.bool false)))), none⟩,
  ⟨(some 103), (.op (.mv (.t 102))), none⟩,
  ⟨(some 104), (.op (.mv (.t 22))), (some (103, true))⟩,
  ⟨(some 105), (.op (.pick (.t 103) (.t 104) (.k (.bool false)))), none⟩,
  ⟨(some 106), (.op (.mv (.t 105))), none⟩,
  ⟨(some 107), (.op (.mv (.t 19))), (some (106, true))⟩,
  ⟨(some 108), (.op (.mv (.t 21))), (some (106, true))⟩,
  ⟨(some 109), (.op (.bin .eql (.t 107) (.t 108))), (some (106, true))⟩,
  ⟨(some 110), (.op (.pick (.t 106) (.t 109) (.k (.bool false)))), none⟩,
  ⟨(some 111), (.op (.mv (.t 110))), none⟩,
  ⟨(some 112), (.op (.mv (.t 23))), (some (111, true))⟩,
  ⟨(some 113), (.op (.mv (.t 25))), (some (111, true))⟩,
  ⟨(some 114), (.op (.bin .eql (.t 112) (.t 113))), (some (111, true))⟩,
  ⟨(some 115), (.op (.pick (.t 111) (.t 114) (.k (.bool false)))), none⟩,
  ⟨(some 116), (.op (.mv (.t 115))), none⟩,
  ⟨(some 117), (.op (.mv (.t 24))), (some (116, true))⟩,
  ⟨(some 118), (.op (.mv (.t 26))), (some (116, true))⟩,
  ⟨(some 119), (.op (.bin .eql (.t 117) (.t 118))), (some (116, true))⟩,
  ⟨(some 120), (.op (.pick (.t 116) (.t 119) (.k (.bool false)))), none⟩,
  ⟨(some 6), (.op (.mv (.t 120))), none⟩])
  .ret))))))))))))))),
  [(.t 6)]⟩
theorem r_lanyardlaw05_ScalarTexts : resolveFn Tryd.prog 7 = some c_lanyardlaw05_ScalarTexts := by kernel_rfl

end Go.Ga

/- Texts as elements. -/
namespace Go.Ga
open Go Go.Proofs
set_option linter.unusedSimpArgs false
set_option linter.unusedVariables false
set_option maxRecDepth 100000
attribute [local irreducible] appendK

def okC (z : UInt8) : Bool := decide (32 ≤ z.toNat) && decide (z.toNat ≤ 126)
def textR (l : List UInt8) : Except Nat Fo.El := if l.length ≤ 200 ∧ l.all okC = true then .ok ⟨22, l, .nil⟩ else .error 1
theorem text_bad {l : List UInt8} (h : ¬ l.all okC = true) : textR l = .error 1 := if_neg fun hc => h hc.2
theorem text_long {l : List UInt8} (h : 200 < l.length) : textR l = .error 1 := if_neg fun hc => by omega
theorem take_snoc {l : List UInt8} {i : Nat} (h : i < l.length) : l.take (i + 1) = l.take i ++ [l.getD i 0] := by
  rw [List.take_add_one, List.getElem?_eq_getElem h, List.getD_eq_getElem?_getD, List.getElem?_eq_getElem h]; rfl
noncomputable def wordsR (x : Fo.El) : List UInt8 × Nat := open Classical in if textR x.b = .ok x then (x.b, 0) else ([], 2)
def strV (l : List UInt8) : Value := .string ⟨l.toArray⟩
theorem textR_ok {l : List UInt8} {y : Fo.El} (h : textR l = .ok y) : l.length ≤ 200 ∧ y = ⟨22, l, .nil⟩ := by
  unfold textR at h
  split at h
  · rename_i hc; injection h with h; exact ⟨hc.1, h.symm⟩
  · cases h
theorem textR_ws {l : List UInt8} {y : Fo.El} (h : textR l = .ok y) : y.f.ws ≤ 201 := by
  obtain ⟨h1, rfl⟩ := textR_ok h
  show 1 + l.length + 0 + 0 ≤ _
  omega
theorem textR_k {l : List UInt8} {y : Fo.El} (h : textR l = .ok y) : y.k = .nil := by rw [(textR_ok h).2]

section
variable {nx : Nat} {gt : Nat → Option Blk}

theorem ct_TextE {s : ByteArray} (hs : s.size ≤ 1000000) : Ct Tryd.prog 33 [.string s] nx gt fun v x g => NErr nx x g v (textR s.data.toList) := by
  refine Ct.of hmx r_scalar_Text (by simp [c_scalar_Text]) fun b hb => ?_
  have hlen : s.data.toList.length = s.size := by simp
  obtain ⟨L, hL⟩ : ∃ L, s.data.toList = L := ⟨_, rfl⟩
  rw [hL] at hlen ⊢
  have hF : ∀ q, q < nx → upd gt nx (some (.cells [Value.int .i64 0, .slice none 0 0, .slice none 0 0] false)) q = gt q := fun q hq => by simp only [upd_e]; rw [if_neg (by omega)]
  have hb0 : upd gt nx (some (.cells [Value.int .i64 0, .slice none 0 0, .slice none 0 0] false)) nx = some (.cells [Value.int .i64 0, .slice none 0 0, .slice none 0 0] false) := by simp only [upd_e, if_true]
  have ext : ∀ (g : Nat → Option Blk) (cs : List Value), (∀ p, p ≠ nx → upd g nx (some (.cells cs false)) p = g p) := fun g cs p hp => by simp only [upd_e]; rw [if_neg hp]
  have hnn : (nx = nx + 1) = False := by simp
  by_cases h200 : (200 : Int) < (s.size : Int)
  · rw [text_long (by omega)]
    simp only [c_scalar_Text, ↓gaW, ↓gaV, ↓gaC, ↓gaN, gaP, Nat.reduceEqDiff, Nat.reduceLeDiff, Nat.reduceAdd, Nat.reduceSub, Nat.reduceMul, Int.reduceLT, Int.reduceLE, Int.reduceEq, Int.reduceToNat, Int.reduceAdd, Int.reduceSub, Int.reduceMul, reduceCtorEq, ↓reduceIte, List.getD_cons_zero, List.getD_cons_succ, fillL, splice, List.take_zero, List.drop_zero, List.drop_succ_cons, List.take_succ_cons, List.drop_nil, List.take_nil, gaU, h200, decide_true]
    repeat refine And.intro (by omega) ?_
    refine And.intro (node_cells _ _ _ _ _ _ _) ?_
    exact end_nT (q := nx) (t := 0) (B := none) (m := 0) (d := 0) (A := none) (n := 0) (c := 0) (ro := false) (w := .int .i64 1) (by first | (simp only [↓gaW, ↓gaV, ↓gaC, ↓gaN, gaP, Nat.reduceEqDiff, Nat.reduceLeDiff, Nat.reduceAdd, Nat.reduceSub, Nat.reduceMul, Int.reduceLT, Int.reduceLE, Int.reduceEq, Int.reduceToNat, Int.reduceAdd, Int.reduceSub, Int.reduceMul, reduceCtorEq, ↓reduceIte]; done) | (simp only [↓gaW, ↓gaV, ↓gaC, ↓gaN, gaP, Nat.reduceEqDiff, Nat.reduceLeDiff, Nat.reduceAdd, Nat.reduceSub, Nat.reduceMul, Int.reduceLT, Int.reduceLE, Int.reduceEq, Int.reduceToNat, Int.reduceAdd, Int.reduceSub, Int.reduceMul, reduceCtorEq, ↓reduceIte]; rfl)) (by first | (simp only [↓gaW, ↓gaV, ↓gaC, ↓gaN, gaP, Nat.reduceEqDiff, Nat.reduceLeDiff, Nat.reduceAdd, Nat.reduceSub, Nat.reduceMul, Int.reduceLT, Int.reduceLE, Int.reduceEq, Int.reduceToNat, Int.reduceAdd, Int.reduceSub, Int.reduceMul, reduceCtorEq, ↓reduceIte]; done) | (simp only [↓gaW, ↓gaV, ↓gaC, ↓gaN, gaP, Nat.reduceEqDiff, Nat.reduceLeDiff, Nat.reduceAdd, Nat.reduceSub, Nat.reduceMul, Int.reduceLT, Int.reduceLE, Int.reduceEq, Int.reduceToNat, Int.reduceAdd, Int.reduceSub, Int.reduceMul, reduceCtorEq, ↓reduceIte]; rfl)) (by simp only [upd_e, if_true]) (by omega) (fun p hp => by rw [ext _ _ p (by omega), hF p hp]) ⟨rfl, by omega⟩
  simp only [c_scalar_Text, ↓gaW, ↓gaV, ↓gaC, ↓gaN, gaP, Nat.reduceEqDiff, Nat.reduceLeDiff, Nat.reduceAdd, Nat.reduceSub, Nat.reduceMul, Int.reduceLT, Int.reduceLE, Int.reduceEq, Int.reduceToNat, Int.reduceAdd, Int.reduceSub, Int.reduceMul, reduceCtorEq, ↓reduceIte, List.getD_cons_zero, List.getD_cons_succ, fillL, splice, List.take_zero, List.drop_zero, List.drop_succ_cons, List.take_succ_cons, List.drop_nil, List.take_nil, gaU, h200, decide_false]
  generalize upd gt nx (some (.cells [Value.int .i64 0, .slice none 0 0, .slice none 0 0] false)) = g0 at *
  repeat refine And.intro (by omega) ?_
  refine loop_of (fun j f mm => ∃ i, j = s.size - i ∧ i ≤ s.size ∧ (L.take i).all okC = true ∧ f 0 = .string s ∧ f 2 = .pointer (some ⟨nx, 0, none⟩) ∧ f 10 = .int .i64 (s.size : Nat) ∧ f 11 = .int .i64 (i : Nat) ∧ mm = ⟨nx + 1, b, g0⟩) s.size ⟨0, by omega, by omega, by simp, (by first | (simp only [↓gaW, ↓gaV, ↓gaC, ↓gaN, gaP, Nat.reduceEqDiff, Nat.reduceLeDiff, Nat.reduceAdd, Nat.reduceSub, Nat.reduceMul, Int.reduceLT, Int.reduceLE, Int.reduceEq, Int.reduceToNat, Int.reduceAdd, Int.reduceSub, Int.reduceMul, reduceCtorEq, ↓reduceIte]; done) | (simp only [↓gaW, ↓gaV, ↓gaC, ↓gaN, gaP, Nat.reduceEqDiff, Nat.reduceLeDiff, Nat.reduceAdd, Nat.reduceSub, Nat.reduceMul, Int.reduceLT, Int.reduceLE, Int.reduceEq, Int.reduceToNat, Int.reduceAdd, Int.reduceSub, Int.reduceMul, reduceCtorEq, ↓reduceIte]; rfl)), (by first | (simp only [↓gaW, ↓gaV, ↓gaC, ↓gaN, gaP, Nat.reduceEqDiff, Nat.reduceLeDiff, Nat.reduceAdd, Nat.reduceSub, Nat.reduceMul, Int.reduceLT, Int.reduceLE, Int.reduceEq, Int.reduceToNat, Int.reduceAdd, Int.reduceSub, Int.reduceMul, reduceCtorEq, ↓reduceIte]; done) | (simp only [↓gaW, ↓gaV, ↓gaC, ↓gaN, gaP, Nat.reduceEqDiff, Nat.reduceLeDiff, Nat.reduceAdd, Nat.reduceSub, Nat.reduceMul, Int.reduceLT, Int.reduceLE, Int.reduceEq, Int.reduceToNat, Int.reduceAdd, Int.reduceSub, Int.reduceMul, reduceCtorEq, ↓reduceIte]; rfl)), (by first | (simp only [↓gaW, ↓gaV, ↓gaC, ↓gaN, gaP, Nat.reduceEqDiff, Nat.reduceLeDiff, Nat.reduceAdd, Nat.reduceSub, Nat.reduceMul, Int.reduceLT, Int.reduceLE, Int.reduceEq, Int.reduceToNat, Int.reduceAdd, Int.reduceSub, Int.reduceMul, reduceCtorEq, ↓reduceIte]; done) | (simp only [↓gaW, ↓gaV, ↓gaC, ↓gaN, gaP, Nat.reduceEqDiff, Nat.reduceLeDiff, Nat.reduceAdd, Nat.reduceSub, Nat.reduceMul, Int.reduceLT, Int.reduceLE, Int.reduceEq, Int.reduceToNat, Int.reduceAdd, Int.reduceSub, Int.reduceMul, reduceCtorEq, ↓reduceIte]; rfl)), (by first | (simp only [↓gaW, ↓gaV, ↓gaC, ↓gaN, gaP, Nat.reduceEqDiff, Nat.reduceLeDiff, Nat.reduceAdd, Nat.reduceSub, Nat.reduceMul, Int.reduceLT, Int.reduceLE, Int.reduceEq, Int.reduceToNat, Int.reduceAdd, Int.reduceSub, Int.reduceMul, reduceCtorEq, ↓reduceIte]; done) | (simp only [↓gaW, ↓gaV, ↓gaC, ↓gaN, gaP, Nat.reduceEqDiff, Nat.reduceLeDiff, Nat.reduceAdd, Nat.reduceSub, Nat.reduceMul, Int.reduceLT, Int.reduceLE, Int.reduceEq, Int.reduceToNat, Int.reduceAdd, Int.reduceSub, Int.reduceMul, reduceCtorEq, ↓reduceIte]; rfl)), rfl⟩ ?_
  rintro j f mm ⟨i, hj, hi, hal, f0, f2, f10, f11, rfl⟩
  by_cases hlt : (i : Int) < (s.size : Int)
  · obtain ⟨z, hz⟩ : ∃ z, z = L.getD i 0 := ⟨_, rfl⟩
    have hz8 := z.toNat_lt
    have hzl : z ∈ L := by rw [hz, List.getD_eq_getElem?_getD, List.getElem?_eq_getElem (by omega)]; exact List.getElem_mem _
    have c0 : u8V (L.getD i 0) = .int .u8 ((z.toNat : Nat) : Int) := by rw [hz]; rfl
    have i2 : IntKind.i64.wrap ((i : Int) + 1) = ((i + 1 : Nat) : Int) := by rw [i64_w _ (by omega)]; omega
    have hbad : okC z = false → textR L = .error 1 := fun h => text_bad (fun ha => by
      have := List.all_eq_true.1 ha z hzl
      rw [h] at this; cases this)
    by_cases h1 : (z.toNat : Int) < 32
    · rw [hbad (by simp [okC]; omega)]
      simp only [↓gaW, ↓gaV, ↓gaC, ↓gaN, gaP, Nat.reduceEqDiff, Nat.reduceLeDiff, Nat.reduceAdd, Nat.reduceSub, Nat.reduceMul, Int.reduceLT, Int.reduceLE, Int.reduceEq, Int.reduceToNat, Int.reduceAdd, Int.reduceSub, Int.reduceMul, reduceCtorEq, ↓reduceIte, List.getD_cons_zero, List.getD_cons_succ, fillL, splice, List.take_zero, List.drop_zero, List.drop_succ_cons, List.take_succ_cons, List.drop_nil, List.take_nil, gaU, f0, f2, f10, f11, hlt, decide_true, hL, c0, h1, hb0]
      repeat refine And.intro (by omega) ?_
      refine And.intro (node_cells _ _ _ _ _ _ _) ?_
      exact end_nT (q := nx) (t := 0) (B := none) (m := 0) (d := 0) (A := none) (n := 0) (c := 0) (ro := false) (w := .int .i64 1) (by simp only [↓gaW, ↓gaV, ↓gaC, ↓gaN, gaP, Nat.reduceEqDiff, Nat.reduceLeDiff, Nat.reduceAdd, Nat.reduceSub, Nat.reduceMul, Int.reduceLT, Int.reduceLE, Int.reduceEq, Int.reduceToNat, Int.reduceAdd, Int.reduceSub, Int.reduceMul, reduceCtorEq, ↓reduceIte, f2]) (by first | (simp only [↓gaW, ↓gaV, ↓gaC, ↓gaN, gaP, Nat.reduceEqDiff, Nat.reduceLeDiff, Nat.reduceAdd, Nat.reduceSub, Nat.reduceMul, Int.reduceLT, Int.reduceLE, Int.reduceEq, Int.reduceToNat, Int.reduceAdd, Int.reduceSub, Int.reduceMul, reduceCtorEq, ↓reduceIte]; done) | (simp only [↓gaW, ↓gaV, ↓gaC, ↓gaN, gaP, Nat.reduceEqDiff, Nat.reduceLeDiff, Nat.reduceAdd, Nat.reduceSub, Nat.reduceMul, Int.reduceLT, Int.reduceLE, Int.reduceEq, Int.reduceToNat, Int.reduceAdd, Int.reduceSub, Int.reduceMul, reduceCtorEq, ↓reduceIte]; rfl)) (by simp only [upd_e, if_true]) (by omega) (fun p hp => by rw [ext _ _ p (by omega), hF p hp]) ⟨rfl, by omega⟩
    by_cases h2 : (126 : Int) < (z.toNat : Int)
    · rw [hbad (by simp [okC]; omega)]
      simp only [↓gaW, ↓gaV, ↓gaC, ↓gaN, gaP, Nat.reduceEqDiff, Nat.reduceLeDiff, Nat.reduceAdd, Nat.reduceSub, Nat.reduceMul, Int.reduceLT, Int.reduceLE, Int.reduceEq, Int.reduceToNat, Int.reduceAdd, Int.reduceSub, Int.reduceMul, reduceCtorEq, ↓reduceIte, List.getD_cons_zero, List.getD_cons_succ, fillL, splice, List.take_zero, List.drop_zero, List.drop_succ_cons, List.take_succ_cons, List.drop_nil, List.take_nil, gaU, f0, f2, f10, f11, hlt, decide_true, decide_false, hL, c0, h1, h2, hb0]
      repeat refine And.intro (by omega) ?_
      refine And.intro (node_cells _ _ _ _ _ _ _) ?_
      exact end_nT (q := nx) (t := 0) (B := none) (m := 0) (d := 0) (A := none) (n := 0) (c := 0) (ro := false) (w := .int .i64 1) (by simp only [↓gaW, ↓gaV, ↓gaC, ↓gaN, gaP, Nat.reduceEqDiff, Nat.reduceLeDiff, Nat.reduceAdd, Nat.reduceSub, Nat.reduceMul, Int.reduceLT, Int.reduceLE, Int.reduceEq, Int.reduceToNat, Int.reduceAdd, Int.reduceSub, Int.reduceMul, reduceCtorEq, ↓reduceIte, f2]) (by first | (simp only [↓gaW, ↓gaV, ↓gaC, ↓gaN, gaP, Nat.reduceEqDiff, Nat.reduceLeDiff, Nat.reduceAdd, Nat.reduceSub, Nat.reduceMul, Int.reduceLT, Int.reduceLE, Int.reduceEq, Int.reduceToNat, Int.reduceAdd, Int.reduceSub, Int.reduceMul, reduceCtorEq, ↓reduceIte]; done) | (simp only [↓gaW, ↓gaV, ↓gaC, ↓gaN, gaP, Nat.reduceEqDiff, Nat.reduceLeDiff, Nat.reduceAdd, Nat.reduceSub, Nat.reduceMul, Int.reduceLT, Int.reduceLE, Int.reduceEq, Int.reduceToNat, Int.reduceAdd, Int.reduceSub, Int.reduceMul, reduceCtorEq, ↓reduceIte]; rfl)) (by simp only [upd_e, if_true]) (by omega) (fun p hp => by rw [ext _ _ p (by omega), hF p hp]) ⟨rfl, by omega⟩
    simp only [↓gaW, ↓gaV, ↓gaC, ↓gaN, gaP, Nat.reduceEqDiff, Nat.reduceLeDiff, Nat.reduceAdd, Nat.reduceSub, Nat.reduceMul, Int.reduceLT, Int.reduceLE, Int.reduceEq, Int.reduceToNat, Int.reduceAdd, Int.reduceSub, Int.reduceMul, reduceCtorEq, ↓reduceIte, List.getD_cons_zero, List.getD_cons_succ, fillL, splice, List.take_zero, List.drop_zero, List.drop_succ_cons, List.take_succ_cons, List.drop_nil, List.take_nil, gaU, f0, f2, f10, f11, hlt, decide_true, decide_false, hL, c0, h1, h2, i2, loopK_n]
    repeat refine And.intro (by omega) ?_
    exact ⟨s.size - (i + 1), by omega, i + 1, rfl, by omega, by rw [take_snoc (by omega), List.all_append, hal, ← hz]; simp [okC]; omega⟩
  · have hin : i = L.length := by omega
    rw [hin, List.take_length] at hal
    have hr : textR L = .ok ⟨22, L, .nil⟩ := if_pos ⟨by omega, hal⟩
    rw [hr]
    simp only [↓gaW, ↓gaV, ↓gaC, ↓gaN, gaP, Nat.reduceEqDiff, Nat.reduceLeDiff, Nat.reduceAdd, Nat.reduceSub, Nat.reduceMul, Int.reduceLT, Int.reduceLE, Int.reduceEq, Int.reduceToNat, Int.reduceAdd, Int.reduceSub, Int.reduceMul, reduceCtorEq, ↓reduceIte, List.getD_cons_zero, List.getD_cons_succ, fillL, splice, List.take_zero, List.drop_zero, List.drop_succ_cons, List.take_succ_cons, List.drop_nil, List.take_nil, gaU, f0, f2, f10, f11, hlt, decide_false, hL, hb0, hnn]
    repeat refine And.intro (by omega) ?_
    refine And.intro (node_cells _ _ _ _ _ _ _) ?_
    have hS : ∀ p, p < (nx + 1) → upd g0 (nx + 1) (some (.cells (L.map u8V) false)) p = g0 p := fun p hp => by rw [upd_e, if_neg (by omega)]
    refine end_nT (q := nx) (t := 22) (B := some ⟨(nx + 1), 0, some 1⟩) (m := s.size) (d := s.size) (A := none) (n := 0) (c := 0) (ro := false) (w := .int .i64 0) (by simp only [↓gaW, ↓gaV, ↓gaC, ↓gaN, gaP, Nat.reduceEqDiff, Nat.reduceLeDiff, Nat.reduceAdd, Nat.reduceSub, Nat.reduceMul, Int.reduceLT, Int.reduceLE, Int.reduceEq, Int.reduceToNat, Int.reduceAdd, Int.reduceSub, Int.reduceMul, reduceCtorEq, ↓reduceIte, f2]) (by first | (simp only [↓gaW, ↓gaV, ↓gaC, ↓gaN, gaP, Nat.reduceEqDiff, Nat.reduceLeDiff, Nat.reduceAdd, Nat.reduceSub, Nat.reduceMul, Int.reduceLT, Int.reduceLE, Int.reduceEq, Int.reduceToNat, Int.reduceAdd, Int.reduceSub, Int.reduceMul, reduceCtorEq, ↓reduceIte]; done) | (simp only [↓gaW, ↓gaV, ↓gaC, ↓gaN, gaP, Nat.reduceEqDiff, Nat.reduceLeDiff, Nat.reduceAdd, Nat.reduceSub, Nat.reduceMul, Int.reduceLT, Int.reduceLE, Int.reduceEq, Int.reduceToNat, Int.reduceAdd, Int.reduceSub, Int.reduceMul, reduceCtorEq, ↓reduceIte]; rfl)) (by simp only [upd_e, if_true]) (by omega) (fun p hp => by rw [ext _ _ p (by omega), hS p (by omega), hF p hp]) ⟨_, rfl, ?_⟩
    refine NodeIs.leaf (by omega) ⟨⟨fun a h => by injection h with h; subst h; exact .inr rfl, by simp [hlen], fun _ => ⟨⟨(nx + 1), 0, some 1⟩, L.map u8V, false, rfl, Nat.lt_succ_self _, by rw [ext _ _ (nx + 1) (by omega), upd_e, if_pos rfl], by simp [hlen], fun i _ => by rw [Nat.zero_add]⟩⟩, fun _ a ha => by injection ha with ha; subst ha; show nx ≤ (nx + 1); omega⟩ (Nat.le_refl _)
theorem ct_rTextE {s : ByteArray} (hs : s.size ≤ 1000000) : Ct Tryd.prog 34 [.string s] nx gt fun v x g => NErr nx x g v (textR s.data.toList) := by
  refine Ct.of hmx r_lanyardref05_Text (by simp [c_lanyardref05_Text]) fun b hb => ?_
  have hlen : s.data.toList.length = s.size := by simp
  obtain ⟨L, hL⟩ : ∃ L, s.data.toList = L := ⟨_, rfl⟩
  rw [hL] at hlen ⊢
  have hF : ∀ q, q < nx → upd gt nx (some (.cells [Value.int .i64 0, .slice none 0 0, .slice none 0 0] false)) q = gt q := fun q hq => by simp only [upd_e]; rw [if_neg (by omega)]
  have hb0 : upd gt nx (some (.cells [Value.int .i64 0, .slice none 0 0, .slice none 0 0] false)) nx = some (.cells [Value.int .i64 0, .slice none 0 0, .slice none 0 0] false) := by simp only [upd_e, if_true]
  have ext : ∀ (g : Nat → Option Blk) (cs : List Value), (∀ p, p ≠ nx → upd g nx (some (.cells cs false)) p = g p) := fun g cs p hp => by simp only [upd_e]; rw [if_neg hp]
  have hnn : (nx = nx + 1) = False := by simp
  simp only [c_lanyardref05_Text, ↓gaW, ↓gaV, ↓gaC, ↓gaN, gaP, Nat.reduceEqDiff, Nat.reduceLeDiff, Nat.reduceAdd, Nat.reduceSub, Nat.reduceMul, Int.reduceLT, Int.reduceLE, Int.reduceEq, Int.reduceToNat, Int.reduceAdd, Int.reduceSub, Int.reduceMul, reduceCtorEq, ↓reduceIte, List.getD_cons_zero, List.getD_cons_succ, fillL, splice, List.take_zero, List.drop_zero, List.drop_succ_cons, List.take_succ_cons, List.drop_nil, List.take_nil, gaU]
  generalize upd gt nx (some (.cells [Value.int .i64 0, .slice none 0 0, .slice none 0 0] false)) = g0 at *
  repeat refine And.intro (by omega) ?_
  refine loop_of (fun j f mm => ∃ i, j = s.size - i ∧ i ≤ s.size ∧ (L.take i).all okC = true ∧ (0 < i → s.size ≤ 200) ∧ f 0 = .string s ∧ f 2 = .pointer (some ⟨nx, 0, none⟩) ∧ f 4 = .int .i64 (i : Nat) ∧ mm = ⟨nx + 1, b, g0⟩) s.size ⟨0, by omega, by omega, by simp, by omega, (by first | (simp only [↓gaW, ↓gaV, ↓gaC, ↓gaN, gaP, Nat.reduceEqDiff, Nat.reduceLeDiff, Nat.reduceAdd, Nat.reduceSub, Nat.reduceMul, Int.reduceLT, Int.reduceLE, Int.reduceEq, Int.reduceToNat, Int.reduceAdd, Int.reduceSub, Int.reduceMul, reduceCtorEq, ↓reduceIte]; done) | (simp only [↓gaW, ↓gaV, ↓gaC, ↓gaN, gaP, Nat.reduceEqDiff, Nat.reduceLeDiff, Nat.reduceAdd, Nat.reduceSub, Nat.reduceMul, Int.reduceLT, Int.reduceLE, Int.reduceEq, Int.reduceToNat, Int.reduceAdd, Int.reduceSub, Int.reduceMul, reduceCtorEq, ↓reduceIte]; rfl)), (by first | (simp only [↓gaW, ↓gaV, ↓gaC, ↓gaN, gaP, Nat.reduceEqDiff, Nat.reduceLeDiff, Nat.reduceAdd, Nat.reduceSub, Nat.reduceMul, Int.reduceLT, Int.reduceLE, Int.reduceEq, Int.reduceToNat, Int.reduceAdd, Int.reduceSub, Int.reduceMul, reduceCtorEq, ↓reduceIte]; done) | (simp only [↓gaW, ↓gaV, ↓gaC, ↓gaN, gaP, Nat.reduceEqDiff, Nat.reduceLeDiff, Nat.reduceAdd, Nat.reduceSub, Nat.reduceMul, Int.reduceLT, Int.reduceLE, Int.reduceEq, Int.reduceToNat, Int.reduceAdd, Int.reduceSub, Int.reduceMul, reduceCtorEq, ↓reduceIte]; rfl)), (by first | (simp only [↓gaW, ↓gaV, ↓gaC, ↓gaN, gaP, Nat.reduceEqDiff, Nat.reduceLeDiff, Nat.reduceAdd, Nat.reduceSub, Nat.reduceMul, Int.reduceLT, Int.reduceLE, Int.reduceEq, Int.reduceToNat, Int.reduceAdd, Int.reduceSub, Int.reduceMul, reduceCtorEq, ↓reduceIte]; done) | (simp only [↓gaW, ↓gaV, ↓gaC, ↓gaN, gaP, Nat.reduceEqDiff, Nat.reduceLeDiff, Nat.reduceAdd, Nat.reduceSub, Nat.reduceMul, Int.reduceLT, Int.reduceLE, Int.reduceEq, Int.reduceToNat, Int.reduceAdd, Int.reduceSub, Int.reduceMul, reduceCtorEq, ↓reduceIte]; rfl)), rfl⟩ ?_
  rintro j f mm ⟨i, hj, hi, hal, h9, f0, f2, f4, rfl⟩
  by_cases hlt : (i : Int) < (s.size : Int)
  · obtain ⟨z, hz⟩ : ∃ z, z = L.getD i 0 := ⟨_, rfl⟩
    have hz8 := z.toNat_lt
    have hzl : z ∈ L := by rw [hz, List.getD_eq_getElem?_getD, List.getElem?_eq_getElem (by omega)]; exact List.getElem_mem _
    have c0 : u8V (L.getD i 0) = .int .u8 ((z.toNat : Nat) : Int) := by rw [hz]; rfl
    have i2 : IntKind.i64.wrap ((i : Int) + 1) = ((i + 1 : Nat) : Int) := by rw [i64_w _ (by omega)]; omega
    have hbad : okC z = false → textR L = .error 1 := fun h => text_bad (fun ha => by
      have := List.all_eq_true.1 ha z hzl
      rw [h] at this; cases this)
    by_cases h1 : (z.toNat : Int) < 32
    · rw [hbad (by simp [okC]; omega)]
      simp only [↓gaW, ↓gaV, ↓gaC, ↓gaN, gaP, Nat.reduceEqDiff, Nat.reduceLeDiff, Nat.reduceAdd, Nat.reduceSub, Nat.reduceMul, Int.reduceLT, Int.reduceLE, Int.reduceEq, Int.reduceToNat, Int.reduceAdd, Int.reduceSub, Int.reduceMul, reduceCtorEq, ↓reduceIte, List.getD_cons_zero, List.getD_cons_succ, fillL, splice, List.take_zero, List.drop_zero, List.drop_succ_cons, List.take_succ_cons, List.drop_nil, List.take_nil, gaU, f0, f2, f4, hlt, decide_true, hL, c0, h1, hb0]
      repeat refine And.intro (by omega) ?_
      refine And.intro (node_cells _ _ _ _ _ _ _) ?_
      exact end_nT (q := nx) (t := 0) (B := none) (m := 0) (d := 0) (A := none) (n := 0) (c := 0) (ro := false) (w := .int .i64 1) (by simp only [↓gaW, ↓gaV, ↓gaC, ↓gaN, gaP, Nat.reduceEqDiff, Nat.reduceLeDiff, Nat.reduceAdd, Nat.reduceSub, Nat.reduceMul, Int.reduceLT, Int.reduceLE, Int.reduceEq, Int.reduceToNat, Int.reduceAdd, Int.reduceSub, Int.reduceMul, reduceCtorEq, ↓reduceIte, f2]) (by first | (simp only [↓gaW, ↓gaV, ↓gaC, ↓gaN, gaP, Nat.reduceEqDiff, Nat.reduceLeDiff, Nat.reduceAdd, Nat.reduceSub, Nat.reduceMul, Int.reduceLT, Int.reduceLE, Int.reduceEq, Int.reduceToNat, Int.reduceAdd, Int.reduceSub, Int.reduceMul, reduceCtorEq, ↓reduceIte]; done) | (simp only [↓gaW, ↓gaV, ↓gaC, ↓gaN, gaP, Nat.reduceEqDiff, Nat.reduceLeDiff, Nat.reduceAdd, Nat.reduceSub, Nat.reduceMul, Int.reduceLT, Int.reduceLE, Int.reduceEq, Int.reduceToNat, Int.reduceAdd, Int.reduceSub, Int.reduceMul, reduceCtorEq, ↓reduceIte]; rfl)) (by simp only [upd_e, if_true]) (by omega) (fun p hp => by rw [ext _ _ p (by omega), hF p hp]) ⟨rfl, by omega⟩
    by_cases h2 : (126 : Int) < (z.toNat : Int)
    · rw [hbad (by simp [okC]; omega)]
      simp only [↓gaW, ↓gaV, ↓gaC, ↓gaN, gaP, Nat.reduceEqDiff, Nat.reduceLeDiff, Nat.reduceAdd, Nat.reduceSub, Nat.reduceMul, Int.reduceLT, Int.reduceLE, Int.reduceEq, Int.reduceToNat, Int.reduceAdd, Int.reduceSub, Int.reduceMul, reduceCtorEq, ↓reduceIte, List.getD_cons_zero, List.getD_cons_succ, fillL, splice, List.take_zero, List.drop_zero, List.drop_succ_cons, List.take_succ_cons, List.drop_nil, List.take_nil, gaU, f0, f2, f4, hlt, decide_true, decide_false, hL, c0, h1, h2, hb0]
      repeat refine And.intro (by omega) ?_
      refine And.intro (node_cells _ _ _ _ _ _ _) ?_
      exact end_nT (q := nx) (t := 0) (B := none) (m := 0) (d := 0) (A := none) (n := 0) (c := 0) (ro := false) (w := .int .i64 1) (by simp only [↓gaW, ↓gaV, ↓gaC, ↓gaN, gaP, Nat.reduceEqDiff, Nat.reduceLeDiff, Nat.reduceAdd, Nat.reduceSub, Nat.reduceMul, Int.reduceLT, Int.reduceLE, Int.reduceEq, Int.reduceToNat, Int.reduceAdd, Int.reduceSub, Int.reduceMul, reduceCtorEq, ↓reduceIte, f2]) (by first | (simp only [↓gaW, ↓gaV, ↓gaC, ↓gaN, gaP, Nat.reduceEqDiff, Nat.reduceLeDiff, Nat.reduceAdd, Nat.reduceSub, Nat.reduceMul, Int.reduceLT, Int.reduceLE, Int.reduceEq, Int.reduceToNat, Int.reduceAdd, Int.reduceSub, Int.reduceMul, reduceCtorEq, ↓reduceIte]; done) | (simp only [↓gaW, ↓gaV, ↓gaC, ↓gaN, gaP, Nat.reduceEqDiff, Nat.reduceLeDiff, Nat.reduceAdd, Nat.reduceSub, Nat.reduceMul, Int.reduceLT, Int.reduceLE, Int.reduceEq, Int.reduceToNat, Int.reduceAdd, Int.reduceSub, Int.reduceMul, reduceCtorEq, ↓reduceIte]; rfl)) (by simp only [upd_e, if_true]) (by omega) (fun p hp => by rw [ext _ _ p (by omega), hF p hp]) ⟨rfl, by omega⟩
    by_cases h200 : (200 : Int) < (s.size : Int)
    · rw [text_long (by omega)]
      simp only [↓gaW, ↓gaV, ↓gaC, ↓gaN, gaP, Nat.reduceEqDiff, Nat.reduceLeDiff, Nat.reduceAdd, Nat.reduceSub, Nat.reduceMul, Int.reduceLT, Int.reduceLE, Int.reduceEq, Int.reduceToNat, Int.reduceAdd, Int.reduceSub, Int.reduceMul, reduceCtorEq, ↓reduceIte, List.getD_cons_zero, List.getD_cons_succ, fillL, splice, List.take_zero, List.drop_zero, List.drop_succ_cons, List.take_succ_cons, List.drop_nil, List.take_nil, gaU, f0, f2, f4, hlt, decide_true, decide_false, hL, c0, h1, h2, h200, hb0]
      repeat refine And.intro (by omega) ?_
      refine And.intro (node_cells _ _ _ _ _ _ _) ?_
      exact end_nT (q := nx) (t := 0) (B := none) (m := 0) (d := 0) (A := none) (n := 0) (c := 0) (ro := false) (w := .int .i64 1) (by simp only [↓gaW, ↓gaV, ↓gaC, ↓gaN, gaP, Nat.reduceEqDiff, Nat.reduceLeDiff, Nat.reduceAdd, Nat.reduceSub, Nat.reduceMul, Int.reduceLT, Int.reduceLE, Int.reduceEq, Int.reduceToNat, Int.reduceAdd, Int.reduceSub, Int.reduceMul, reduceCtorEq, ↓reduceIte, f2]) (by first | (simp only [↓gaW, ↓gaV, ↓gaC, ↓gaN, gaP, Nat.reduceEqDiff, Nat.reduceLeDiff, Nat.reduceAdd, Nat.reduceSub, Nat.reduceMul, Int.reduceLT, Int.reduceLE, Int.reduceEq, Int.reduceToNat, Int.reduceAdd, Int.reduceSub, Int.reduceMul, reduceCtorEq, ↓reduceIte]; done) | (simp only [↓gaW, ↓gaV, ↓gaC, ↓gaN, gaP, Nat.reduceEqDiff, Nat.reduceLeDiff, Nat.reduceAdd, Nat.reduceSub, Nat.reduceMul, Int.reduceLT, Int.reduceLE, Int.reduceEq, Int.reduceToNat, Int.reduceAdd, Int.reduceSub, Int.reduceMul, reduceCtorEq, ↓reduceIte]; rfl)) (by simp only [upd_e, if_true]) (by omega) (fun p hp => by rw [ext _ _ p (by omega), hF p hp]) ⟨rfl, by omega⟩
    simp only [↓gaW, ↓gaV, ↓gaC, ↓gaN, gaP, Nat.reduceEqDiff, Nat.reduceLeDiff, Nat.reduceAdd, Nat.reduceSub, Nat.reduceMul, Int.reduceLT, Int.reduceLE, Int.reduceEq, Int.reduceToNat, Int.reduceAdd, Int.reduceSub, Int.reduceMul, reduceCtorEq, ↓reduceIte, List.getD_cons_zero, List.getD_cons_succ, fillL, splice, List.take_zero, List.drop_zero, List.drop_succ_cons, List.take_succ_cons, List.drop_nil, List.take_nil, gaU, f0, f2, f4, hlt, decide_true, decide_false, hL, c0, h1, h2, i2, loopK_n, h200]
    repeat refine And.intro (by omega) ?_
    exact ⟨s.size - (i + 1), by omega, i + 1, rfl, by omega, by rw [take_snoc (by omega), List.all_append, hal, ← hz]; simp [okC]; omega, fun _ => by omega, rfl⟩
  · have hin : i = L.length := by omega
    rw [hin, List.take_length] at hal
    have hr : textR L = .ok ⟨22, L, .nil⟩ := if_pos ⟨by omega, hal⟩
    rw [hr]
    simp only [↓gaW, ↓gaV, ↓gaC, ↓gaN, gaP, Nat.reduceEqDiff, Nat.reduceLeDiff, Nat.reduceAdd, Nat.reduceSub, Nat.reduceMul, Int.reduceLT, Int.reduceLE, Int.reduceEq, Int.reduceToNat, Int.reduceAdd, Int.reduceSub, Int.reduceMul, reduceCtorEq, ↓reduceIte, List.getD_cons_zero, List.getD_cons_succ, fillL, splice, List.take_zero, List.drop_zero, List.drop_succ_cons, List.take_succ_cons, List.drop_nil, List.take_nil, gaU, f0, f2, f4, hlt, decide_false, hL, hb0, hnn]
    repeat refine And.intro (by omega) ?_
    refine And.intro (node_cells _ _ _ _ _ _ _) ?_
    have hS : ∀ p, p < (nx + 1) → upd g0 (nx + 1) (some (.cells (L.map u8V) false)) p = g0 p := fun p hp => by rw [upd_e, if_neg (by omega)]
    refine end_nT (q := nx) (t := 22) (B := some ⟨(nx + 1), 0, some 1⟩) (m := s.size) (d := s.size) (A := none) (n := 0) (c := 0) (ro := false) (w := .int .i64 0) (by simp only [↓gaW, ↓gaV, ↓gaC, ↓gaN, gaP, Nat.reduceEqDiff, Nat.reduceLeDiff, Nat.reduceAdd, Nat.reduceSub, Nat.reduceMul, Int.reduceLT, Int.reduceLE, Int.reduceEq, Int.reduceToNat, Int.reduceAdd, Int.reduceSub, Int.reduceMul, reduceCtorEq, ↓reduceIte, f2]) (by first | (simp only [↓gaW, ↓gaV, ↓gaC, ↓gaN, gaP, Nat.reduceEqDiff, Nat.reduceLeDiff, Nat.reduceAdd, Nat.reduceSub, Nat.reduceMul, Int.reduceLT, Int.reduceLE, Int.reduceEq, Int.reduceToNat, Int.reduceAdd, Int.reduceSub, Int.reduceMul, reduceCtorEq, ↓reduceIte]; done) | (simp only [↓gaW, ↓gaV, ↓gaC, ↓gaN, gaP, Nat.reduceEqDiff, Nat.reduceLeDiff, Nat.reduceAdd, Nat.reduceSub, Nat.reduceMul, Int.reduceLT, Int.reduceLE, Int.reduceEq, Int.reduceToNat, Int.reduceAdd, Int.reduceSub, Int.reduceMul, reduceCtorEq, ↓reduceIte]; rfl)) (by simp only [upd_e, if_true]) (by omega) (fun p hp => by rw [ext _ _ p (by omega), hS p (by omega), hF p hp]) ⟨_, rfl, ?_⟩
    refine NodeIs.leaf (by omega) ⟨⟨fun a h => by injection h with h; subst h; exact .inr rfl, by simp [hlen], fun _ => ⟨⟨(nx + 1), 0, some 1⟩, L.map u8V, false, rfl, Nat.lt_succ_self _, by rw [ext _ _ (nx + 1) (by omega), upd_e, if_pos rfl], by simp [hlen], fun i _ => by rw [Nat.zero_add]⟩⟩, fun _ a ha => by injection ha with ha; subst ha; show nx ≤ (nx + 1); omega⟩ (Nat.le_refl _)
theorem ct_justS {x : Fo.El} {u : Value} {is : Bool} {clo : Nat} {caps : Array Value} {r : Except Nat Fo.El} {B : Option Addr} {m d : Nat} {A : Option Addr} {n c : Nat} {ks : List Value} (h : NdR nx gt x B m d A n c ks) (hxw : x.f.ws < 1000000000) (hyw : ∀ y, r = .ok y → y.f.ws < 1000000000)
    (hclo : ∀ (nx' : Nat) (g : Nat → Option Blk), nx ≤ nx' → (∀ p, p < nx → g p = gt p) → Ct Tryd.prog clo caps.toList nx' g fun v x g => NErr nx' x g v r) :
    Ct Tryd.prog 61 [u, .bool is, nodeV x.t B m d A n c, .func (.func clo) #[] caps] nx gt fun v _ _ => ∃ b : Bool, (b = true ↔ justP is x r) ∧ v = if b then .tuple #[u, .int .i64 0] else .tuple #[.string ⟨([] : List UInt8).toArray⟩, .int .i64 2] := by
  refine Ct.of hmx r_scalar_just_string_ (by simp [c_scalar_just_string_]) fun b hb => ?_
  have hF : ∀ q, q < nx → upd gt nx (some (.cells (nodeL x.t B m d A n c) false)) q = gt q := fun q hq => by simp only [upd_e]; rw [if_neg (by omega)]
  have hb0 : upd gt nx (some (.cells (nodeL x.t B m d A n c) false)) nx = some (.cells (nodeL x.t B m d A n c) false) := by simp only [upd_e, if_true]
  cases is with
  | false =>
    simp only [c_scalar_just_string_, ↓gaW, ↓gaV, ↓gaC, ↓gaN, gaP, Nat.reduceEqDiff, Nat.reduceLeDiff, Nat.reduceAdd, Nat.reduceSub, Nat.reduceMul, Int.reduceLT, Int.reduceLE, Int.reduceEq, Int.reduceToNat, Int.reduceAdd, Int.reduceSub, Int.reduceMul, reduceCtorEq, ↓reduceIte, gaE, implies_true, Nat.le_refl, Int.sub_zero, Nat.sub_zero, Int.le_refl, true_or, or_true, List.getD_cons_zero, List.getD_cons_succ, fillL, splice, List.take_zero, List.drop_zero, List.drop_succ_cons, List.take_succ_cons, List.drop_nil, List.take_nil, gaU, Bool.not_false]
    exact ⟨by omega, hF, false, by simp [justP], rfl⟩
  | true =>
    simp only [c_scalar_just_string_, ↓gaW, ↓gaV, ↓gaC, ↓gaN, gaP, Nat.reduceEqDiff, Nat.reduceLeDiff, Nat.reduceAdd, Nat.reduceSub, Nat.reduceMul, Int.reduceLT, Int.reduceLE, Int.reduceEq, Int.reduceToNat, Int.reduceAdd, Int.reduceSub, Int.reduceMul, reduceCtorEq, ↓reduceIte, List.getD_cons_zero, List.getD_cons_succ, fillL, splice, List.take_zero, List.drop_zero, List.drop_succ_cons, List.take_succ_cons, List.drop_nil, List.take_nil, gaU, Bool.not_true]
    generalize upd gt nx (some (.cells (nodeL x.t B m d A n c) false)) = g0 at *
    refine callK_of (hclo (nx + 1) g0 (by omega) hF) (fun v x1 g1 l1 k1 hC => ?_) (by omega)
    have F1 : ∀ p, p < nx → g1 p = gt p := fun p hp => by rw [k1 p (by omega), hF p hp]
    have hb1 : g1 nx = some (.cells (nodeL x.t B m d A n c) false) := by rw [k1 nx (by omega), hb0]
    have hnx1 : (nx = x1) = False := by simp; omega
    cases r with
    | error e =>
      obtain ⟨rfl, he⟩ := hC
      have he0 : ¬ (e : Int) = 0 := by omega
      simp only [↓gaW, ↓gaV, ↓gaC, ↓gaN, gaP, Nat.reduceEqDiff, Nat.reduceLeDiff, Nat.reduceAdd, Nat.reduceSub, Nat.reduceMul, Int.reduceLT, Int.reduceLE, Int.reduceEq, Int.reduceToNat, Int.reduceAdd, Int.reduceSub, Int.reduceMul, reduceCtorEq, ↓reduceIte, gaE, implies_true, Nat.le_refl, Int.sub_zero, Nat.sub_zero, Int.le_refl, true_or, or_true, List.getD_cons_zero, List.getD_cons_succ, fillL, splice, List.take_zero, List.drop_zero, List.drop_succ_cons, List.take_succ_cons, List.drop_nil, List.take_nil, gaU, he0, decide_false, Bool.not_false]
      repeat refine And.intro (by omega) ?_
      refine And.intro (node_cells _ _ _ _ _ _ _) ?_
      refine ⟨by omega, fun p hp => by rw [if_neg (by omega), if_neg (by omega), F1 p hp], false, by simp [justP], rfl⟩
    | ok y =>
      obtain ⟨u, rfl, B', m', d', A', n', c', ks', rfl, hN⟩ := hC
      obtain ⟨g2, e2⟩ : ∃ g', g' = upd (upd g1 x1 (some (.cells [Value.int .i64 0, .slice none 0 0, .slice none 0 0] false))) x1 (some (.cells (nodeL y.t B' m' d' A' n' c') false)) := ⟨_, rfl⟩
      have G2 : ∀ p, p < x1 → g2 p = g1 p := fun p hp => by rw [e2]; simp only [upd_e]; rw [if_neg (by omega), if_neg (by omega)]
      have hb2 : g2 nx = some (.cells (nodeL x.t B m d A n c) false) := by rw [G2 nx (by omega), hb1]
      have hy := hyw y rfl
      simp only [↓gaW, ↓gaV, ↓gaC, ↓gaN, gaP, Nat.reduceEqDiff, Nat.reduceLeDiff, Nat.reduceAdd, Nat.reduceSub, Nat.reduceMul, Int.reduceLT, Int.reduceLE, Int.reduceEq, Int.reduceToNat, Int.reduceAdd, Int.reduceSub, Int.reduceMul, reduceCtorEq, ↓reduceIte, List.getD_cons_zero, List.getD_cons_succ, fillL, splice, List.take_zero, List.drop_zero, List.drop_succ_cons, List.take_succ_cons, List.drop_nil, List.take_nil, gaU, hnx1, hb1, decide_true, decide_false, Bool.not_true]
      repeat refine And.intro (by omega) ?_
      refine And.intro (node_cells _ _ _ _ _ _ _) ?_
      repeat refine And.intro (by omega) ?_
      rw [← e2]; clear e2
      refine callK_of (ct_same (hN.r.keep (x' := x1 + 1) (by omega) G2) (h.keep (x' := x1 + 1) (by omega) fun p hp => by rw [G2 p (by omega), F1 p hp]) hy hxw) (fun v x3 g3 l3 k3 hC => ?_) (by omega)
      obtain ⟨s, rfl, hs⟩ := hC
      have F3 : ∀ p, p < nx → g3 p = gt p := fun p hp => by rw [k3 p (by omega), G2 p (by omega), F1 p hp]
      cases s with
      | false =>
        simp only [↓gaW, ↓gaV, ↓gaC, ↓gaN, gaP, Nat.reduceEqDiff, Nat.reduceLeDiff, Nat.reduceAdd, Nat.reduceSub, Nat.reduceMul, Int.reduceLT, Int.reduceLE, Int.reduceEq, Int.reduceToNat, Int.reduceAdd, Int.reduceSub, Int.reduceMul, reduceCtorEq, ↓reduceIte, gaE, implies_true, Nat.le_refl, Int.sub_zero, Nat.sub_zero, Int.le_refl, true_or, or_true, List.getD_cons_zero, List.getD_cons_succ, fillL, splice, List.take_zero, List.drop_zero, List.drop_succ_cons, List.take_succ_cons, List.drop_nil, List.take_nil, Bool.not_false]
        refine ⟨by omega, F3, false, ?_, rfl⟩
        simp only [Bool.false_eq_true, false_iff] at hs ⊢
        rintro ⟨_, z, hz, hal⟩
        injection hz with hz; subst hz
        exact hs hal
      | true =>
        simp only [↓gaW, ↓gaV, ↓gaC, ↓gaN, gaP, Nat.reduceEqDiff, Nat.reduceLeDiff, Nat.reduceAdd, Nat.reduceSub, Nat.reduceMul, Int.reduceLT, Int.reduceLE, Int.reduceEq, Int.reduceToNat, Int.reduceAdd, Int.reduceSub, Int.reduceMul, reduceCtorEq, ↓reduceIte, gaE, implies_true, Nat.le_refl, Int.sub_zero, Nat.sub_zero, Int.le_refl, true_or, or_true, List.getD_cons_zero, List.getD_cons_succ, fillL, splice, List.take_zero, List.drop_zero, List.drop_succ_cons, List.take_succ_cons, List.drop_nil, List.take_nil, Bool.not_true]
        exact ⟨by omega, F3, true, by simp only [true_iff]; exact ⟨rfl, y, rfl, hs.1 rfl⟩, rfl⟩
theorem ct_justI {x : Fo.El} {u : Value} {is : Bool} {clo : Nat} {caps : Array Value} {r : Except Nat Fo.El} {B : Option Addr} {m d : Nat} {A : Option Addr} {n c : Nat} {ks : List Value} (h : NdR nx gt x B m d A n c ks) (hxw : x.f.ws < 1000000000) (hyw : ∀ y, r = .ok y → y.f.ws < 1000000000)
    (hclo : ∀ (nx' : Nat) (g : Nat → Option Blk), nx ≤ nx' → (∀ p, p < nx → g p = gt p) → Ct Tryd.prog clo caps.toList nx' g fun v x g => NErr nx' x g v r) :
    Ct Tryd.prog 66 [u, .bool is, nodeV x.t B m d A n c, .func (.func clo) #[] caps] nx gt fun v _ _ => ∃ b : Bool, (b = true ↔ justP is x r) ∧ v = if b then .tuple #[u, .int .i64 0] else .tuple #[.int .i64 0, .int .i64 2] := by
  refine Ct.of hmx r_scalar_just_int64_ (by simp [c_scalar_just_int64_]) fun b hb => ?_
  have hF : ∀ q, q < nx → upd gt nx (some (.cells (nodeL x.t B m d A n c) false)) q = gt q := fun q hq => by simp only [upd_e]; rw [if_neg (by omega)]
  have hb0 : upd gt nx (some (.cells (nodeL x.t B m d A n c) false)) nx = some (.cells (nodeL x.t B m d A n c) false) := by simp only [upd_e, if_true]
  cases is with
  | false =>
    simp only [c_scalar_just_int64_, ↓gaW, ↓gaV, ↓gaC, ↓gaN, gaP, Nat.reduceEqDiff, Nat.reduceLeDiff, Nat.reduceAdd, Nat.reduceSub, Nat.reduceMul, Int.reduceLT, Int.reduceLE, Int.reduceEq, Int.reduceToNat, Int.reduceAdd, Int.reduceSub, Int.reduceMul, reduceCtorEq, ↓reduceIte, gaE, implies_true, Nat.le_refl, Int.sub_zero, Nat.sub_zero, Int.le_refl, true_or, or_true, List.getD_cons_zero, List.getD_cons_succ, fillL, splice, List.take_zero, List.drop_zero, List.drop_succ_cons, List.take_succ_cons, List.drop_nil, List.take_nil, gaU, Bool.not_false]
    exact ⟨by omega, hF, false, by simp [justP], rfl⟩
  | true =>
    simp only [c_scalar_just_int64_, ↓gaW, ↓gaV, ↓gaC, ↓gaN, gaP, Nat.reduceEqDiff, Nat.reduceLeDiff, Nat.reduceAdd, Nat.reduceSub, Nat.reduceMul, Int.reduceLT, Int.reduceLE, Int.reduceEq, Int.reduceToNat, Int.reduceAdd, Int.reduceSub, Int.reduceMul, reduceCtorEq, ↓reduceIte, List.getD_cons_zero, List.getD_cons_succ, fillL, splice, List.take_zero, List.drop_zero, List.drop_succ_cons, List.take_succ_cons, List.drop_nil, List.take_nil, gaU, Bool.not_true]
    generalize upd gt nx (some (.cells (nodeL x.t B m d A n c) false)) = g0 at *
    refine callK_of (hclo (nx + 1) g0 (by omega) hF) (fun v x1 g1 l1 k1 hC => ?_) (by omega)
    have F1 : ∀ p, p < nx → g1 p = gt p := fun p hp => by rw [k1 p (by omega), hF p hp]
    have hb1 : g1 nx = some (.cells (nodeL x.t B m d A n c) false) := by rw [k1 nx (by omega), hb0]
    have hnx1 : (nx = x1) = False := by simp; omega
    cases r with
    | error e =>
      obtain ⟨rfl, he⟩ := hC
      have he0 : ¬ (e : Int) = 0 := by omega
      simp only [↓gaW, ↓gaV, ↓gaC, ↓gaN, gaP, Nat.reduceEqDiff, Nat.reduceLeDiff, Nat.reduceAdd, Nat.reduceSub, Nat.reduceMul, Int.reduceLT, Int.reduceLE, Int.reduceEq, Int.reduceToNat, Int.reduceAdd, Int.reduceSub, Int.reduceMul, reduceCtorEq, ↓reduceIte, gaE, implies_true, Nat.le_refl, Int.sub_zero, Nat.sub_zero, Int.le_refl, true_or, or_true, List.getD_cons_zero, List.getD_cons_succ, fillL, splice, List.take_zero, List.drop_zero, List.drop_succ_cons, List.take_succ_cons, List.drop_nil, List.take_nil, gaU, he0, decide_false, Bool.not_false]
      repeat refine And.intro (by omega) ?_
      refine And.intro (node_cells _ _ _ _ _ _ _) ?_
      refine ⟨by omega, fun p hp => by rw [if_neg (by omega), if_neg (by omega), F1 p hp], false, by simp [justP], rfl⟩
    | ok y =>
      obtain ⟨u, rfl, B', m', d', A', n', c', ks', rfl, hN⟩ := hC
      obtain ⟨g2, e2⟩ : ∃ g', g' = upd (upd g1 x1 (some (.cells [Value.int .i64 0, .slice none 0 0, .slice none 0 0] false))) x1 (some (.cells (nodeL y.t B' m' d' A' n' c') false)) := ⟨_, rfl⟩
      have G2 : ∀ p, p < x1 → g2 p = g1 p := fun p hp => by rw [e2]; simp only [upd_e]; rw [if_neg (by omega), if_neg (by omega)]
      have hb2 : g2 nx = some (.cells (nodeL x.t B m d A n c) false) := by rw [G2 nx (by omega), hb1]
      have hy := hyw y rfl
      simp only [↓gaW, ↓gaV, ↓gaC, ↓gaN, gaP, Nat.reduceEqDiff, Nat.reduceLeDiff, Nat.reduceAdd, Nat.reduceSub, Nat.reduceMul, Int.reduceLT, Int.reduceLE, Int.reduceEq, Int.reduceToNat, Int.reduceAdd, Int.reduceSub, Int.reduceMul, reduceCtorEq, ↓reduceIte, List.getD_cons_zero, List.getD_cons_succ, fillL, splice, List.take_zero, List.drop_zero, List.drop_succ_cons, List.take_succ_cons, List.drop_nil, List.take_nil, gaU, hnx1, hb1, decide_true, decide_false, Bool.not_true]
      repeat refine And.intro (by omega) ?_
      refine And.intro (node_cells _ _ _ _ _ _ _) ?_
      repeat refine And.intro (by omega) ?_
      rw [← e2]; clear e2
      refine callK_of (ct_same (hN.r.keep (x' := x1 + 1) (by omega) G2) (h.keep (x' := x1 + 1) (by omega) fun p hp => by rw [G2 p (by omega), F1 p hp]) hy hxw) (fun v x3 g3 l3 k3 hC => ?_) (by omega)
      obtain ⟨s, rfl, hs⟩ := hC
      have F3 : ∀ p, p < nx → g3 p = gt p := fun p hp => by rw [k3 p (by omega), G2 p (by omega), F1 p hp]
      cases s with
      | false =>
        simp only [↓gaW, ↓gaV, ↓gaC, ↓gaN, gaP, Nat.reduceEqDiff, Nat.reduceLeDiff, Nat.reduceAdd, Nat.reduceSub, Nat.reduceMul, Int.reduceLT, Int.reduceLE, Int.reduceEq, Int.reduceToNat, Int.reduceAdd, Int.reduceSub, Int.reduceMul, reduceCtorEq, ↓reduceIte, gaE, implies_true, Nat.le_refl, Int.sub_zero, Nat.sub_zero, Int.le_refl, true_or, or_true, List.getD_cons_zero, List.getD_cons_succ, fillL, splice, List.take_zero, List.drop_zero, List.drop_succ_cons, List.take_succ_cons, List.drop_nil, List.take_nil, Bool.not_false]
        refine ⟨by omega, F3, false, ?_, rfl⟩
        simp only [Bool.false_eq_true, false_iff] at hs ⊢
        rintro ⟨_, z, hz, hal⟩
        injection hz with hz; subst hz
        exact hs hal
      | true =>
        simp only [↓gaW, ↓gaV, ↓gaC, ↓gaN, gaP, Nat.reduceEqDiff, Nat.reduceLeDiff, Nat.reduceAdd, Nat.reduceSub, Nat.reduceMul, Int.reduceLT, Int.reduceLE, Int.reduceEq, Int.reduceToNat, Int.reduceAdd, Int.reduceSub, Int.reduceMul, reduceCtorEq, ↓reduceIte, gaE, implies_true, Nat.le_refl, Int.sub_zero, Nat.sub_zero, Int.le_refl, true_or, or_true, List.getD_cons_zero, List.getD_cons_succ, fillL, splice, List.take_zero, List.drop_zero, List.drop_succ_cons, List.take_succ_cons, List.drop_nil, List.take_nil, Bool.not_true]
        exact ⟨by omega, F3, true, by simp only [true_iff]; exact ⟨rfl, y, rfl, hs.1 rfl⟩, rfl⟩
end
end Go.Ga

/- Words of elements. -/
namespace Go.Ga
open Go Go.Proofs
set_option linter.unusedSimpArgs false
set_option linter.unusedVariables false
set_option maxRecDepth 100000
attribute [local irreducible] appendK

section
variable {nx : Nat} {gt : Nat → Option Blk}

theorem ct_Words1 {q : Nat} {ro : Bool} {l : List UInt8} (hq : q < nx) (hg : gt q = some (.cells [strV l] ro)) (hl : l.length ≤ 1000000) :
    Ct Tryd.prog 62 [.pointer (some ⟨q, 0, none⟩)] nx gt fun v x g => NErr nx x g v (textR l) := by
  refine Ct.of hmx r_scalar_Words_1 (by simp [c_scalar_Words_1]) fun b hb => ?_
  have hF : ∀ q, q < nx → upd gt nx (some (.cells [Value.int .i64 0, .slice none 0 0, .slice none 0 0] false)) q = gt q := fun q hq => by simp only [upd_e]; rw [if_neg (by omega)]
  have hb0 : upd gt nx (some (.cells [Value.int .i64 0, .slice none 0 0, .slice none 0 0] false)) nx = some (.cells [Value.int .i64 0, .slice none 0 0, .slice none 0 0] false) := by simp only [upd_e, if_true]
  have hqn : (q = nx) = False := by simp; omega
  simp only [c_scalar_Words_1, ↓gaW, ↓gaV, ↓gaC, ↓gaN, gaP, Nat.reduceEqDiff, Nat.reduceLeDiff, Nat.reduceAdd, Nat.reduceSub, Nat.reduceMul, Int.reduceLT, Int.reduceLE, Int.reduceEq, Int.reduceToNat, Int.reduceAdd, Int.reduceSub, Int.reduceMul, reduceCtorEq, ↓reduceIte, List.getD_cons_zero, List.getD_cons_succ, fillL, splice, List.take_zero, List.drop_zero, List.drop_succ_cons, List.take_succ_cons, List.drop_nil, List.take_nil, gaU, hqn, hg, List.getD_cons_zero]
  generalize upd gt nx (some (.cells [Value.int .i64 0, .slice none 0 0, .slice none 0 0] false)) = g0 at *
  repeat refine And.intro (by omega) ?_
  refine callK_of (ct_TextE (s := ⟨l.toArray⟩) hl) (fun v x1 g1 l1 k1 hC => ?_) (by omega)
  have F1 : ∀ p, p < nx → g1 p = gt p := fun p hp => by rw [k1 p (by omega), hF p hp]
  have hb1 : g1 nx = some (.cells [Value.int .i64 0, .slice none 0 0, .slice none 0 0] false) := by rw [k1 nx (by omega), hb0]
  have ext : ∀ (cs : List Value), (∀ p, p ≠ nx → upd g1 nx (some (.cells cs false)) p = g1 p) := fun cs p hp => by simp only [upd_e]; rw [if_neg hp]
  cases hr : textR l with
  | error e =>
    rw [hr] at hC
    obtain ⟨rfl, he⟩ := hC
    simp only [↓gaW, ↓gaV, ↓gaC, ↓gaN, gaP, Nat.reduceEqDiff, Nat.reduceLeDiff, Nat.reduceAdd, Nat.reduceSub, Nat.reduceMul, Int.reduceLT, Int.reduceLE, Int.reduceEq, Int.reduceToNat, Int.reduceAdd, Int.reduceSub, Int.reduceMul, reduceCtorEq, ↓reduceIte, List.getD_cons_zero, List.getD_cons_succ, fillL, splice, List.take_zero, List.drop_zero, List.drop_succ_cons, List.take_succ_cons, List.drop_nil, List.take_nil, hb1]
    repeat refine And.intro (by omega) ?_
    refine And.intro (node_cells _ _ _ _ _ _ _) ?_
    exact end_nT (q := nx) (t := 0) (B := none) (m := 0) (d := 0) (A := none) (n := 0) (c := 0) (ro := false) (w := .int .i64 e) (by first | (simp only [↓gaW, ↓gaV, ↓gaC, ↓gaN, gaP, Nat.reduceEqDiff, Nat.reduceLeDiff, Nat.reduceAdd, Nat.reduceSub, Nat.reduceMul, Int.reduceLT, Int.reduceLE, Int.reduceEq, Int.reduceToNat, Int.reduceAdd, Int.reduceSub, Int.reduceMul, reduceCtorEq, ↓reduceIte]; done) | (simp only [↓gaW, ↓gaV, ↓gaC, ↓gaN, gaP, Nat.reduceEqDiff, Nat.reduceLeDiff, Nat.reduceAdd, Nat.reduceSub, Nat.reduceMul, Int.reduceLT, Int.reduceLE, Int.reduceEq, Int.reduceToNat, Int.reduceAdd, Int.reduceSub, Int.reduceMul, reduceCtorEq, ↓reduceIte]; rfl)) (by first | (simp only [↓gaW, ↓gaV, ↓gaC, ↓gaN, gaP, Nat.reduceEqDiff, Nat.reduceLeDiff, Nat.reduceAdd, Nat.reduceSub, Nat.reduceMul, Int.reduceLT, Int.reduceLE, Int.reduceEq, Int.reduceToNat, Int.reduceAdd, Int.reduceSub, Int.reduceMul, reduceCtorEq, ↓reduceIte]; done) | (simp only [↓gaW, ↓gaV, ↓gaC, ↓gaN, gaP, Nat.reduceEqDiff, Nat.reduceLeDiff, Nat.reduceAdd, Nat.reduceSub, Nat.reduceMul, Int.reduceLT, Int.reduceLE, Int.reduceEq, Int.reduceToNat, Int.reduceAdd, Int.reduceSub, Int.reduceMul, reduceCtorEq, ↓reduceIte]; rfl)) (by simp only [upd_e, if_true]) (by omega) (fun p hp => by rw [ext _ p (by omega), F1 p hp]) ⟨rfl, he⟩
  | ok y =>
    rw [hr] at hC
    obtain ⟨u, rfl, B, m, d, A, n, c, ks, rfl, hN⟩ := hC
    simp only [↓gaW, ↓gaV, ↓gaC, ↓gaN, gaP, Nat.reduceEqDiff, Nat.reduceLeDiff, Nat.reduceAdd, Nat.reduceSub, Nat.reduceMul, Int.reduceLT, Int.reduceLE, Int.reduceEq, Int.reduceToNat, Int.reduceAdd, Int.reduceSub, Int.reduceMul, reduceCtorEq, ↓reduceIte, List.getD_cons_zero, List.getD_cons_succ, fillL, splice, List.take_zero, List.drop_zero, List.drop_succ_cons, List.take_succ_cons, List.drop_nil, List.take_nil, hb1]
    repeat refine And.intro (by omega) ?_
    refine And.intro (node_cells _ _ _ _ _ _ _) ?_
    exact end_nT (q := nx) (t := y.t) (B := B) (m := m) (d := d) (A := A) (n := n) (c := c) (ro := false) (w := .int .i64 0) (by first | (simp only [↓gaW, ↓gaV, ↓gaC, ↓gaN, gaP, Nat.reduceEqDiff, Nat.reduceLeDiff, Nat.reduceAdd, Nat.reduceSub, Nat.reduceMul, Int.reduceLT, Int.reduceLE, Int.reduceEq, Int.reduceToNat, Int.reduceAdd, Int.reduceSub, Int.reduceMul, reduceCtorEq, ↓reduceIte]; done) | (simp only [↓gaW, ↓gaV, ↓gaC, ↓gaN, gaP, Nat.reduceEqDiff, Nat.reduceLeDiff, Nat.reduceAdd, Nat.reduceSub, Nat.reduceMul, Int.reduceLT, Int.reduceLE, Int.reduceEq, Int.reduceToNat, Int.reduceAdd, Int.reduceSub, Int.reduceMul, reduceCtorEq, ↓reduceIte]; rfl)) (by first | (simp only [↓gaW, ↓gaV, ↓gaC, ↓gaN, gaP, Nat.reduceEqDiff, Nat.reduceLeDiff, Nat.reduceAdd, Nat.reduceSub, Nat.reduceMul, Int.reduceLT, Int.reduceLE, Int.reduceEq, Int.reduceToNat, Int.reduceAdd, Int.reduceSub, Int.reduceMul, reduceCtorEq, ↓reduceIte]; done) | (simp only [↓gaW, ↓gaV, ↓gaC, ↓gaN, gaP, Nat.reduceEqDiff, Nat.reduceLeDiff, Nat.reduceAdd, Nat.reduceSub, Nat.reduceMul, Int.reduceLT, Int.reduceLE, Int.reduceEq, Int.reduceToNat, Int.reduceAdd, Int.reduceSub, Int.reduceMul, reduceCtorEq, ↓reduceIte]; rfl)) (by simp only [upd_e, if_true]) (by omega) (fun p hp => by rw [ext _ p (by omega), F1 p hp]) ⟨_, rfl, B, m, d, A, n, c, ks, rfl, (hN.keep (Nat.le_refl _) fun p hp _ => ext _ p (by omega)).wid (by omega)⟩

theorem ct_Words {x : Fo.El} {B : Option Addr} {m d : Nat} {A : Option Addr} {n c : Nat} {ks : List Value} (h : NdR nx gt x B m d A n c ks) (hxw : x.f.ws < 900000) :
    Ct Tryd.prog 35 [nodeV x.t B m d A n c] nx gt fun v _ _ => v = .tuple #[strV (wordsR x).1, .int .i64 ((wordsR x).2 : Nat)] := by
  refine Ct.of hmx r_scalar_Words (by simp [c_scalar_Words]) fun b hb => ?_
  have hF : ∀ q, q < nx → upd gt nx (some (.cells (nodeL x.t B m d A n c) false)) q = gt q := fun q hq => by simp only [upd_e]; rw [if_neg (by omega)]
  have hb0 : upd gt nx (some (.cells (nodeL x.t B m d A n c) false)) nx = some (.cells (nodeL x.t B m d A n c) false) := by simp only [upd_e, if_true]
  have xw : x.f.ws = 1 + x.b.length + x.k.ws := by simp only [Fo.El.f, Fo.ws]; omega
  have lw := Fo.len_ws x.k
  have hl := h.blen
  have hkl := h.len
  have hnn : (nx = nx + 1) = False := by simp
  have e1 : rowOf ⟨nx + 1, b, upd gt nx (some (.cells (nodeL x.t B m d A n c) false))⟩ B m = some (x.b.map u8V) := (h.body.keep (nx' := nx + 1) (by omega) hF).rowOf
  have e1' : rowOf ⟨nx + 1, b, upd gt nx (some (.cells [Value.int .i64 x.t, .slice B m d, .slice A n c] false))⟩ B m = some (x.b.map u8V) := e1
  simp only [c_scalar_Words, ↓gaW, ↓gaV, ↓gaC, ↓gaN, gaP, Nat.reduceEqDiff, Nat.reduceLeDiff, Nat.reduceAdd, Nat.reduceSub, Nat.reduceMul, Int.reduceLT, Int.reduceLE, Int.reduceEq, Int.reduceToNat, Int.reduceAdd, Int.reduceSub, Int.reduceMul, reduceCtorEq, ↓reduceIte, List.getD_cons_zero, List.getD_cons_succ, fillL, splice, List.take_zero, List.drop_zero, List.drop_succ_cons, List.take_succ_cons, List.drop_nil, List.take_nil, gaU, hnn, e1, e1', bytesOf_map]
  generalize upd gt nx (some (.cells (nodeL x.t B m d A n c) false)) = g0 at *
  repeat refine And.intro (by omega) ?_
  refine And.intro (all1 rfl) ?_
  repeat refine And.intro (by omega) ?_
  obtain ⟨g2, e2, G2, hb2⟩ := boxed (g := g0) (x := nx + 1) (cs := [Value.string ⟨#[]⟩]) (ds := [strV x.b])
  have e2' : upd (upd g0 (nx + 1) (some (.cells [Value.string ⟨#[]⟩] false))) (nx + 1) (some (.cells [Value.string ⟨x.b.toArray⟩] false)) = g2 := e2.symm
  rw [e2']; clear e2 e2'
  have hN2 := h.keep (x' := nx + 2) (g := g2) (by omega) fun p hp => by rw [G2 p (by omega), hF p hp]
  refine callK_of (ct_justS (r := textR x.b) hN2 (by omega) (fun y' hy' => by have := textR_ws hy'; omega) (fun nx' g h1 h2 => ct_Words1 (q := nx + 1) (by omega) (by rw [h2 (nx + 1) (by omega), hb2]) (by omega))) (fun v x3 g3 l3 k3 hC => ?_) (by omega)
  obtain ⟨bb, hbb, rfl⟩ := hC
  have F3 : ∀ p, p < nx → g3 p = gt p := fun p hp => by rw [k3 p (by omega), G2 p (by omega), hF p hp]
  have hj : justP true x (textR x.b) ↔ textR x.b = .ok x := by
    unfold justP
    constructor
    · rintro ⟨_, z, h2, h3⟩
      rw [h2, (alike_eq (textR_k h2)).1 h3]
    · intro h1
      exact ⟨rfl, x, h1, (alike_eq (textR_k h1)).2 rfl⟩
  cases bb with
  | true =>
    have er : wordsR x = (x.b, 0) := if_pos (hj.1 (hbb.1 rfl))
    simp only [↓gaW, ↓gaV, ↓gaC, ↓gaN, gaP, Nat.reduceEqDiff, Nat.reduceLeDiff, Nat.reduceAdd, Nat.reduceSub, Nat.reduceMul, Int.reduceLT, Int.reduceLE, Int.reduceEq, Int.reduceToNat, Int.reduceAdd, Int.reduceSub, Int.reduceMul, reduceCtorEq, ↓reduceIte, gaE, implies_true, Nat.le_refl, Int.sub_zero, Nat.sub_zero, Int.le_refl, true_or, or_true, List.getD_cons_zero, List.getD_cons_succ, fillL, splice, List.take_zero, List.drop_zero, List.drop_succ_cons, List.take_succ_cons, List.drop_nil, List.take_nil, if_true, er]
    repeat refine And.intro (by omega) ?_
    first | exact F3 | exact ⟨F3, rfl⟩ | exact rfl
  | false =>
    have er : wordsR x = ([], 2) := if_neg fun hc => by have := hbb.2 (hj.2 hc); cases this
    simp only [↓gaW, ↓gaV, ↓gaC, ↓gaN, gaP, Nat.reduceEqDiff, Nat.reduceLeDiff, Nat.reduceAdd, Nat.reduceSub, Nat.reduceMul, Int.reduceLT, Int.reduceLE, Int.reduceEq, Int.reduceToNat, Int.reduceAdd, Int.reduceSub, Int.reduceMul, reduceCtorEq, ↓reduceIte, gaE, implies_true, Nat.le_refl, Int.sub_zero, Nat.sub_zero, Int.le_refl, true_or, or_true, List.getD_cons_zero, List.getD_cons_succ, fillL, splice, List.take_zero, List.drop_zero, List.drop_succ_cons, List.take_succ_cons, List.drop_nil, List.take_nil, Bool.false_eq_true, if_false, er]
    repeat refine And.intro (by omega) ?_
    first | exact F3 | exact ⟨F3, rfl⟩ | exact rfl

theorem ct_rWords {x : Fo.El} {B : Option Addr} {m d : Nat} {A : Option Addr} {n c : Nat} {ks : List Value} (h : NdR nx gt x B m d A n c ks) (hxw : x.f.ws < 900000) :
    Ct Tryd.prog 36 [nodeV x.t B m d A n c] nx gt fun v _ _ => v = .tuple #[strV (wordsR x).1, .int .i64 ((wordsR x).2 : Nat)] := by
  refine Ct.of hmx r_lanyardref05_Words (by simp [c_lanyardref05_Words]) fun b hb => ?_
  have hF : ∀ q, q < nx → upd gt nx (some (.cells (nodeL x.t B m d A n c) false)) q = gt q := fun q hq => by simp only [upd_e]; rw [if_neg (by omega)]
  have hb0 : upd gt nx (some (.cells (nodeL x.t B m d A n c) false)) nx = some (.cells (nodeL x.t B m d A n c) false) := by simp only [upd_e, if_true]
  have xw : x.f.ws = 1 + x.b.length + x.k.ws := by simp only [Fo.El.f, Fo.ws]; omega
  have lw := Fo.len_ws x.k
  have hl := h.blen
  have hkl := h.len
  have e1 : rowOf ⟨nx + 1, b, upd gt nx (some (.cells (nodeL x.t B m d A n c) false))⟩ B m = some (x.b.map u8V) := (h.body.keep (nx' := nx + 1) (by omega) hF).rowOf
  have e1' : rowOf ⟨nx + 1, b, upd gt nx (some (.cells [Value.int .i64 x.t, .slice B m d, .slice A n c] false))⟩ B m = some (x.b.map u8V) := e1
  simp only [c_lanyardref05_Words, ↓gaW, ↓gaV, ↓gaC, ↓gaN, gaP, Nat.reduceEqDiff, Nat.reduceLeDiff, Nat.reduceAdd, Nat.reduceSub, Nat.reduceMul, Int.reduceLT, Int.reduceLE, Int.reduceEq, Int.reduceToNat, Int.reduceAdd, Int.reduceSub, Int.reduceMul, reduceCtorEq, ↓reduceIte, List.getD_cons_zero, List.getD_cons_succ, fillL, splice, List.take_zero, List.drop_zero, List.drop_succ_cons, List.take_succ_cons, List.drop_nil, List.take_nil, gaU, e1, e1', bytesOf_map]
  generalize upd gt nx (some (.cells (nodeL x.t B m d A n c) false)) = g0 at *
  repeat refine And.intro (by omega) ?_
  refine callK_of (ct_rTextE (s := ⟨x.b.toArray⟩) (by show x.b.length ≤ _; omega)) (fun v x7 g7 l7 k7 hC => ?_) (by omega)
  have hC' : NErr (nx + 1) x7 g7 v (textR x.b) := hC
  clear hC
  have F7 : ∀ p, p < nx → g7 p = gt p := fun p hp => by rw [k7 p (by omega), hF p hp]
  have hb7 : g7 nx = some (.cells (nodeL x.t B m d A n c) false) := by rw [k7 nx (by omega), hb0]
  have hx7 : (nx = x7) = False := by simp; omega
  cases hr : textR x.b with
  | error e =>
    rw [hr] at hC'
    obtain ⟨rfl, he⟩ := hC'
    have he0 : ¬ (e : Int) = 0 := by omega
    have er : wordsR x = ([], 2) := if_neg fun hc => by rw [hr] at hc; cases hc
    simp only [↓gaW, ↓gaV, ↓gaC, ↓gaN, gaP, Nat.reduceEqDiff, Nat.reduceLeDiff, Nat.reduceAdd, Nat.reduceSub, Nat.reduceMul, Int.reduceLT, Int.reduceLE, Int.reduceEq, Int.reduceToNat, Int.reduceAdd, Int.reduceSub, Int.reduceMul, reduceCtorEq, ↓reduceIte, gaE, implies_true, Nat.le_refl, Int.sub_zero, Nat.sub_zero, Int.le_refl, true_or, or_true, List.getD_cons_zero, List.getD_cons_succ, fillL, splice, List.take_zero, List.drop_zero, List.drop_succ_cons, List.take_succ_cons, List.drop_nil, List.take_nil, gaU, he0, decide_false, not_false_eq_true, decide_true, er]
    repeat refine And.intro (by omega) ?_
    refine And.intro (node_cells _ _ _ _ _ _ _) ?_
    exact ⟨by omega, fun p hp => by rw [if_neg (by omega), if_neg (by omega), F7 p hp], rfl⟩
  | ok y =>
    rw [hr] at hC'
    obtain ⟨u, rfl, B', m', d', A', n', c', ks', rfl, hN⟩ := hC'
    obtain ⟨g8, e8, G8, hb8⟩ := boxed (g := g7) (x := x7) (cs := [Value.int .i64 0, .slice none 0 0, .slice none 0 0]) (ds := nodeL y.t B' m' d' A' n' c')
    have hyw := textR_ws hr
    simp only [↓gaW, ↓gaV, ↓gaC, ↓gaN, gaP, Nat.reduceEqDiff, Nat.reduceLeDiff, Nat.reduceAdd, Nat.reduceSub, Nat.reduceMul, Int.reduceLT, Int.reduceLE, Int.reduceEq, Int.reduceToNat, Int.reduceAdd, Int.reduceSub, Int.reduceMul, reduceCtorEq, ↓reduceIte, List.getD_cons_zero, List.getD_cons_succ, fillL, splice, List.take_zero, List.drop_zero, List.drop_succ_cons, List.take_succ_cons, List.drop_nil, List.take_nil, gaU, hx7, hb7, decide_true, decide_false, not_true]
    repeat refine And.intro (by omega) ?_
    refine And.intro (node_cells _ _ _ _ _ _ _) ?_
    repeat refine And.intro (by omega) ?_
    rw [← e8]; clear e8
    have F8 : ∀ p, p < nx → g8 p = gt p := fun p hp => by rw [G8 p (by omega), F7 p hp]
    have hx8 := h.keep (x' := x7 + 1) (by omega) F8
    refine callK_of (ct_Same y (by omega) x _ _ _ _ _ _ _ _ _ _ _ _ _ _ _ _ (hN.r.keep (x' := x7 + 1) (by omega) G8) hx8) (fun v x9 g9 l9 k9 hC => ?_) (by omega)
    obtain ⟨s, rfl, hs⟩ := hC
    have F9 : ∀ p, p < nx → g9 p = gt p := fun p hp => by rw [k9 p (by omega), F8 p hp]
    have hb9 : g9 nx = some (.cells (nodeL x.t B m d A n c) false) := by rw [k9 nx (by omega), G8 nx (by omega), hb7]
    cases s with
    | true =>
      have hyx := hs.1 rfl
      have er : wordsR x = (x.b, 0) := if_pos (by rw [hr, hyx])
      have e3 : ∀ bb, rowOf ⟨x9, bb, g9⟩ B m = some (x.b.map u8V) := fun _ => (h.body.keep (nx' := x9) (by omega) F9).rowOf
      simp only [↓gaW, ↓gaV, ↓gaC, ↓gaN, gaP, Nat.reduceEqDiff, Nat.reduceLeDiff, Nat.reduceAdd, Nat.reduceSub, Nat.reduceMul, Int.reduceLT, Int.reduceLE, Int.reduceEq, Int.reduceToNat, Int.reduceAdd, Int.reduceSub, Int.reduceMul, reduceCtorEq, ↓reduceIte, gaE, implies_true, Nat.le_refl, Int.sub_zero, Nat.sub_zero, Int.le_refl, true_or, or_true, List.getD_cons_zero, List.getD_cons_succ, fillL, splice, List.take_zero, List.drop_zero, List.drop_succ_cons, List.take_succ_cons, List.drop_nil, List.take_nil, gaU, Bool.not_true, er, hb9, nodeL, List.getD_cons_succ, List.getD_cons_zero, e3, bytesOf_map]
      repeat refine And.intro (by omega) ?_
      first | exact F9 | exact ⟨F9, rfl⟩ | exact rfl
    | false =>
      have er : wordsR x = ([], 2) := if_neg fun hc => by
        rw [hr] at hc
        injection hc with hc
        have := hs.2 hc
        cases this
      simp only [↓gaW, ↓gaV, ↓gaC, ↓gaN, gaP, Nat.reduceEqDiff, Nat.reduceLeDiff, Nat.reduceAdd, Nat.reduceSub, Nat.reduceMul, Int.reduceLT, Int.reduceLE, Int.reduceEq, Int.reduceToNat, Int.reduceAdd, Int.reduceSub, Int.reduceMul, reduceCtorEq, ↓reduceIte, gaE, implies_true, Nat.le_refl, Int.sub_zero, Nat.sub_zero, Int.le_refl, true_or, or_true, List.getD_cons_zero, List.getD_cons_succ, fillL, splice, List.take_zero, List.drop_zero, List.drop_succ_cons, List.take_succ_cons, List.drop_nil, List.take_nil, Bool.not_false, er]
      repeat refine And.intro (by omega) ?_
      first | exact F9 | exact ⟨F9, rfl⟩ | exact rfl
end
end Go.Ga

namespace Go.Ga
open Go Go.Proofs
set_option maxRecDepth 100000

def c_clock_Seconds : RFn :=
  ⟨95,
  (.seq
  (.ops [] [
  ⟨(some 1), (.op (.box (.t 0))), none⟩,
  ⟨(some 2), (.op (.mv (.k (.int .i64 0)))), none⟩,
  ⟨(some 3), (.op (.mv (.k (.bool false)))), none⟩])
  (.seq
  (.seq
  (.ops [
  ⟨(some 9), (.op (.ixAddrA 6 1 (.t 1) (.k (.int .i64 0)))), none⟩,
  ⟨(some 10), (.op (.load1 (.t 9))), none⟩,
  ⟨(some 11), (.call (.k (.func (.func 91) #[] #[])) [(.t 10), (.k (.int .i64 1950)), (.k (.int .i64 2199))]), none⟩,
  ⟨(some 12), (.op (.un .not (.t 11))), none⟩,
  ⟨(some 13), (.op (.mv (.t 12))), none⟩,
  ⟨(some 14), (.op (.ixAddrA 6 1 (.t 1) (.k (.int .i64 1)))), (some (13, false))⟩,
  ⟨(some 15), (.op (.load1 (.t 14))), (some (13, false))⟩,
  ⟨(some 16), (.call (.k (.func (.func 91) #[] #[])) [(.t 15), (.k (.int .i64 1)), (.k (.int .i64 12))]), (some (13, false))⟩,
  ⟨(some 17), (.op (.un .not (.t 16))), (some (13, false))⟩,
  ⟨(some 18), (.op (.pick (.t 13) (.k (.bool true)) (.t 17))), none⟩,
  ⟨(some 19), (.op (.mv (.t 18))), none⟩,
  ⟨(some 20), (.op (.ixAddrA 6 1 (.t 1) (.k (.int .i64 2)))), (some (19, false))⟩,
  ⟨(some 21), (.op (.load1 (.t 20))), (some (19, false))⟩,
  ⟨(some 22), (.op (.ixAddrA 6 1 (.t 1) (.k (.int .i64 0)))), (some (19, false))⟩,
  ⟨(some 23), (.op (.load1 (.t 22))), (some (19, false))⟩,
  ⟨(some 24), (.op (.ixAddrA 6 1 (.t 1) (.k (.int .i64 1)))), (some (19, false))⟩,
  ⟨(some 25), (.op (.load1 (.t 24))), (some (19, false))⟩,
  ⟨(some 26), (.call (.k (.func (.func 92) #[] #[])) [(.t 23), (.t 25)]), (some (19, false))⟩] [
  ⟨(some 27), (.call (.k (.func (.func 91) #[] #[])) [(.t 21), (.k (.int .i64 1)), (.t 26)]), (some (19, false))⟩,
  ⟨(some 28), (.op (.un .not (.t 27))), (some (19, false))⟩,
  ⟨(some 29), (.op (.pick (.t 19) (.k (.bool true)) (.t 28))), none⟩])
  (.cond (.t 29)
  (.seq
  (.ops [] [
  ⟨(some 2), (.op (.mv (.k (.int .i64 0)))), none⟩,
  ⟨(some 3), (.op (.mv (.k (.bool false)))), none⟩])
  .ret)
  .skip))
  (.seq
  (.seq
  (.ops [] [
  ⟨(some 30), (.op (.ixAddrA 6 1 (.t 1) (.k (.int .i64 3)))), none⟩,
  ⟨(some 31), (.op (.load1 (.t 30))), none⟩,
  ⟨(some 32), (.call (.k (.func (.func 91) #[] #[])) [(.t 31), (.k (.int .i64 0)), (.k (.int .i64 23))]), none⟩,
  ⟨(some 33), (.op (.un .not (.t 32))), none⟩,
  ⟨(some 34), (.op (.mv (.t 33))), none⟩,
  ⟨(some 35), (.op (.ixAddrA 6 1 (.t 1) (.k (.int .i64 4)))), (some (34, false))⟩,
  ⟨(some 36), (.op (.load1 (.t 35))), (some (34, false))⟩,
  ⟨(some 37), (.call (.k (.func (.func 91) #[] #[])) [(.t 36), (.k (.int .i64 0)), (.k (.int .i64 59))]), (some (34, false))⟩,
  ⟨(some 38), (.op (.un .not (.t 37))), (some (34, false))⟩,
  ⟨(some 39), (.op (.pick (.t 34) (.k (.bool true)) (.t 38))), none⟩,
  ⟨(some 40), (.op (.mv (.t 39))), none⟩,
  ⟨(some 41), (.op (.ixAddrA 6 1 (.t 1) (.k (.int .i64 5)))), (some (40, false))⟩,
  ⟨(some 42), (.op (.load1 (.t 41))), (some (40, false))⟩,
  ⟨(some 43), (.call (.k (.func (.func 91) #[] #[])) [(.t 42), (.k (.int .i64 0)), (.k (.int .i64 59))]), (some (40, false))⟩,
  ⟨(some 44), (.op (.un .not (.t 43))), (some (40, false))⟩,
  ⟨(some 45), (.op (.pick (.t 40) (.k (.bool true)) (.t 44))), none⟩])
  (.cond (.t 45)
  (.seq
  (.ops [] [
  ⟨(some 2), (.op (.mv (.k (.int .i64 0)))), none⟩,
  ⟨(some 3), (.op (.mv (.k (.bool false)))), none⟩])
  .ret)
  .skip))
  (.seq
  (.ops [
  ⟨(some 46), (.op (.ixAddrA 6 1 (.t 1) (.k (.int .i64 0)))), none⟩,
  ⟨(some 47), (.op (.load1 (.t 46))), none⟩,
  ⟨(some 48), (.op (.ixAddrA 6 1 (.t 1) (.k (.int .i64 1)))), none⟩,
  ⟨(some 49), (.op (.load1 (.t 48))), none⟩,
  ⟨(some 50), (.op (.bin .sub (.t 49) (.k (.int .i64 3)))), none⟩,
  ⟨(some 4), (.op (.mv (.t 47))), none⟩] [
  ⟨(some 5), (.op (.mv (.t 50))), none⟩])
  (.seq
  (.seq
  (.ops [] [
  ⟨(some 51), (.op (.mv (.t 5))), none⟩,
  ⟨(some 52), (.op (.bin .lss (.t 51) (.k (.int .i64 0)))), none⟩])
  (.cond (.t 52)
  (.ops [] [
  ⟨(some 53), (.op (.mv (.t 4))), none⟩,
  ⟨(some 54), (.op (.bin .sub (.t 53) (.k (.int .i64 1)))), none⟩,
  ⟨(some 55), (.op (.mv (.t 5))), none⟩,
  ⟨(some 56), (.op (.bin .add (.t 55) (.k (.int .i64 12)))), none⟩,
  ⟨(some 4), (.op (.mv (.t 54))), none⟩,
  ⟨(some 5), (.op (.mv (.t 56))), none⟩])
  .skip))
  (.seq
  (.ops [] [
  ⟨(some 57), (.op (.mv (.t 4))), none⟩,
  ⟨(some 58), (.op (.bin .quo (.t 57) (.k (.int .i64 400)))), none⟩,
  ⟨(some 59), (.op (.mv (.t 4))), none⟩,
  ⟨(some 60), (.op (.bin .rem (.t 59) (.k (.int .i64 400)))), none⟩,
  ⟨(some 6), (.op (.mv (.t 58))), none⟩,
  ⟨(some 7), (.op (.mv (.t 60))), none⟩])
  (.seq
  (.ops [] [
  ⟨(some 61), (.op (.mv (.t 6))), none⟩,
  ⟨(some 62), (.op (.bin .mul (.t 61) (.k (.int .i64 146097)))), none⟩,
  ⟨(some 63), (.op (.mv (.t 7))), none⟩,
  ⟨(some 64), (.op (.bin .mul (.t 63) (.k (.int .i64 365)))), none⟩,
  ⟨(some 65), (.op (.bin .add (.t 62) (.t 64))), none⟩,
  ⟨(some 66), (.op (.mv (.t 7))), none⟩,
  ⟨(some 67), (.op (.bin .quo (.t 66) (.k (.int .i64 4)))), none⟩,
  ⟨(some 68), (.op (.bin .add (.t 65) (.t 67))), none⟩,
  ⟨(some 69), (.op (.mv (.t 7))), none⟩,
  ⟨(some 70), (.op (.bin .quo (.t 69) (.k (.int .i64 100)))), none⟩,
  ⟨(some 71), (.op (.bin .sub (.t 68) (.t 70))), none⟩,
  ⟨(some 72), (.op (.mv (.t 5))), none⟩,
  ⟨(some 73), (.op (.bin .mul (.k (.int .i64 153)) (.t 72))), none⟩,
  ⟨(some 74), (.op (.bin .add (.t 73) (.k (.int .i64 2)))), none⟩,
  ⟨(some 75), (.op (.bin .quo (.t 74) (.k (.int .i64 5)))), none⟩,
  ⟨(some 76), (.op (.bin .add (.t 71) (.t 75))), none⟩,
  ⟨(some 77), (.op (.ixAddrA 6 1 (.t 1) (.k (.int .i64 2)))), none⟩,
  ⟨(some 78), (.op (.load1 (.t 77))), none⟩,
  ⟨(some 79), (.op (.bin .add (.t 76) (.t 78))), none⟩,
  ⟨(some 80), (.op (.bin .sub (.t 79) (.k (.int .i64 1)))), none⟩,
  ⟨(some 81), (.op (.bin .sub (.t 80) (.k (.int .i64 719468)))), none⟩,
  ⟨(some 8), (.op (.mv (.t 81))), none⟩])
  (.seq
  (.ops [] [
  ⟨(some 82), (.op (.mv (.t 8))), none⟩,
  ⟨(some 83), (.op (.bin .mul (.t 82) (.k (.int .i64 86400)))), none⟩,
  ⟨(some 84), (.op (.ixAddrA 6 1 (.t 1) (.k (.int .i64 3)))), none⟩,
  ⟨(some 85), (.op (.load1 (.t 84))), none⟩,
  ⟨(some 86), (.op (.bin .mul (.t 85) (.k (.int .i64 3600)))), none⟩,
  ⟨(some 87), (.op (.ixAddrA 6 1 (.t 1) (.k (.int .i64 4)))), none⟩,
  ⟨(some 88), (.op (.load1 (.t 87))), none⟩,
  ⟨(some 89), (.op (.bin .mul (.t 88) (.k (.int .i64 60)))), none⟩,
  ⟨(some 90), (.op (.bin .add (.t 86) (.t 89))), none⟩,
  ⟨(some 91), (.op (.ixAddrA 6 1 (.t 1) (.k (.int .i64 5)))), none⟩,
  ⟨(some 92), (.op (.load1 (.t 91))), none⟩,
  ⟨(some 93), (.op (.bin .add (.t 90) (.t 92))), none⟩,
  ⟨(some 94), (.op (.bin .add (.t 83) (.t 93))), none⟩,
  ⟨(some 2), (.op (.mv (.t 94))), none⟩,
  ⟨(some 3), (.op (.mv (.k (.bool true)))), none⟩])
  .ret)))))))),
  [(.t 2), (.t 3)]⟩
theorem r_clock_Seconds : resolveFn Tryd.prog 80 = some c_clock_Seconds := by kernel_rfl

def c_lanyardref03_Seconds : RFn :=
  ⟨30,
  (.seq
  (.ops [] [
  ⟨(some 1), (.op (.box (.t 0))), none⟩,
  ⟨(some 2), (.op (.mv (.k (.int .i64 0)))), none⟩,
  ⟨(some 3), (.op (.mv (.k (.bool false)))), none⟩])
  (.seq
  (.seq
  (.ops [] [
  ⟨(some 5), (.op (.loadN 6 (.t 1))), none⟩,
  ⟨(some 6), (.call (.k (.func (.func 93) #[] #[])) [(.t 5)]), none⟩,
  ⟨(some 7), (.op (.un .not (.t 6))), none⟩])
  (.cond (.t 7)
  (.seq
  (.ops [] [
  ⟨(some 2), (.op (.mv (.k (.int .i64 0)))), none⟩,
  ⟨(some 3), (.op (.mv (.k (.bool false)))), none⟩])
  .ret)
  .skip))
  (.seq
  (.ops [] [
  ⟨(some 8), (.op (.ixAddrA 6 1 (.t 1) (.k (.int .i64 0)))), none⟩,
  ⟨(some 9), (.op (.load1 (.t 8))), none⟩,
  ⟨(some 10), (.op (.ixAddrA 6 1 (.t 1) (.k (.int .i64 1)))), none⟩,
  ⟨(some 11), (.op (.load1 (.t 10))), none⟩,
  ⟨(some 12), (.op (.ixAddrA 6 1 (.t 1) (.k (.int .i64 2)))), none⟩,
  ⟨(some 13), (.op (.load1 (.t 12))), none⟩,
  ⟨(some 14), (.call (.k (.func (.func 94) #[] #[])) [(.t 9), (.t 11), (.t 13)]), none⟩,
  ⟨(some 15), (.call (.k (.func (.func 94) #[] #[])) [(.k (.int .i64 1970)), (.k (.int .i64 1)), (.k (.int .i64 1))]), none⟩,
  ⟨(some 16), (.op (.bin .sub (.t 14) (.t 15))), none⟩,
  ⟨(some 4), (.op (.mv (.t 16))), none⟩])
  (.seq
  (.ops [] [
  ⟨(some 17), (.op (.mv (.t 4))), none⟩,
  ⟨(some 18), (.op (.bin .mul (.t 17) (.k (.int .i64 86400)))), none⟩,
  ⟨(some 19), (.op (.ixAddrA 6 1 (.t 1) (.k (.int .i64 3)))), none⟩,
  ⟨(some 20), (.op (.load1 (.t 19))), none⟩,
  ⟨(some 21), (.op (.bin .mul (.t 20) (.k (.int .i64 3600)))), none⟩,
  ⟨(some 22), (.op (.ixAddrA 6 1 (.t 1) (.k (.int .i64 4)))), none⟩,
  ⟨(some 23), (.op (.load1 (.t 22))), none⟩,
  ⟨(some 24), (.op (.bin .mul (.t 23) (.k (.int .i64 60)))), none⟩,
  ⟨(some 25), (.op (.bin .add (.t 21) (.t 24))), none⟩,
  ⟨(some 26), (.op (.ixAddrA 6 1 (.t 1) (.k (.int .i64 5)))), none⟩,
  ⟨(some 27), (.op (.load1 (.t 26))), none⟩,
  ⟨(some 28), (.op (.bin .add (.t 25) (.t 27))), none⟩,
  ⟨(some 29), (.op (.bin .add (.t 18) (.t 28))), none⟩,
  ⟨(some 2), (.op (.mv (.t 29))), none⟩,
  ⟨(some 3), (.op (.mv (.k (.bool true)))), none⟩])
  .ret)))),
  [(.t 2), (.t 3)]⟩
theorem r_lanyardref03_Seconds : resolveFn Tryd.prog 82 = some c_lanyardref03_Seconds := by kernel_rfl

def c_clock_Date : RFn :=
  ⟨105,
  (.seq
  (.ops [] [
  ⟨(some 2), (.op (.new [(.int .i64 0), (.int .i64 0), (.int .i64 0), (.int .i64 0), (.int .i64 0), (.int .i64 0)])), none⟩,
  ⟨(some 3), (.op (.mv (.k (.bool false)))), none⟩])
  (.seq
  (.ops [] [
  ⟨(some 16), (.op (.build [(.int .i64 0), (.int .i64 0), (.int .i64 0), (.int .i64 0), (.int .i64 0), (.int .i64 0)] [(0, (1, (.k (.int .i64 1950)))), (1, (1, (.k (.int .i64 1)))), (2, (1, (.k (.int .i64 1))))])), none⟩,
  ⟨(some 17), (.call (.k (.func (.func 80) #[] #[])) [(.t 16)]), none⟩,
  ⟨(some 15), (.op (.mv (.t 17))), none⟩,
  ⟨(some 18), (.op (.extract (.t 15) 0)), none⟩,
  ⟨(some 19), (.op (.extract (.t 15) 1)), none⟩,
  ⟨(some 4), (.op (.mv (.t 18))), none⟩,
  ⟨(some 5), (.op (.mv (.t 19))), none⟩])
  (.seq
  (.ops [] [
  ⟨(some 21), (.op (.build [(.int .i64 0), (.int .i64 0), (.int .i64 0), (.int .i64 0), (.int .i64 0), (.int .i64 0)] [(0, (1, (.k (.int .i64 2199)))), (1, (1, (.k (.int .i64 12)))), (2, (1, (.k (.int .i64 31)))), (3, (1, (.k (.int .i64 23)))), (4, (1, (.k (.int .i64 59)))), (5, (1, (.k (.int .i64 59))))])), none⟩,
  ⟨(some 22), (.call (.k (.func (.func 80) #[] #[])) [(.t 21)]), none⟩,
  ⟨(some 20), (.op (.mv (.t 22))), none⟩,
  ⟨(some 23), (.op (.extract (.t 20) 0)), none⟩,
  ⟨(some 24), (.op (.extract (.t 20) 1)), none⟩,
  ⟨(some 6), (.op (.mv (.t 23))), none⟩,
  ⟨(some 7), (.op (.mv (.t 24))), none⟩])
  (.seq
  (.seq
  (.ops [] [
  ⟨(some 25), (.op (.mv (.t 0))), none⟩,
  ⟨(some 26), (.op (.mv (.t 4))), none⟩,
  ⟨(some 27), (.op (.bin .lss (.t 25) (.t 26))), none⟩,
  ⟨(some 28), (.op (.mv (.t 27))), none⟩,
  ⟨(some 29), (.op (.mv (.t 0))), (some (28, false))⟩,
  ⟨(some 30), (.op (.mv (.t 6))), (some (28, false))⟩,
  ⟨(some 31), (.op (.bin .gtr (.t 29) (.t 30))), (some (28, false))⟩,
  ⟨(some 32), (.op (.pick (.t 28) (.k (.bool true)) (.t 31))), none⟩])
  (.cond (.t 32)
  (.seq
  (.ops [] [
  ⟨(some 33), (.op (.build [(.int .i64 0), (.int .i64 0), (.int .i64 0), (.int .i64 0), (.int .i64 0), (.int .i64 0)] [])), none⟩,
  ⟨none, (.op (.store 6 (.t 2) (.t 33))), none⟩,
  ⟨(some 3), (.op (.mv (.k (.bool false)))), none⟩])
  .ret)
  .skip))
  (.seq
  (.ops [] [
  ⟨(some 34), (.op (.mv (.t 0))), none⟩,
  ⟨(some 35), (.op (.bin .quo (.t 34) (.k (.int .i64 86400)))), none⟩,
  ⟨(some 36), (.op (.mv (.t 0))), none⟩,
  ⟨(some 37), (.op (.bin .rem (.t 36) (.k (.int .i64 86400)))), none⟩,
  ⟨(some 8), (.op (.mv (.t 35))), none⟩,
  ⟨(some 9), (.op (.mv (.t 37))), none⟩])
  (.seq
  (.seq
  (.ops [] [
  ⟨(some 38), (.op (.mv (.t 9))), none⟩,
  ⟨(some 39), (.op (.bin .lss (.t 38) (.k (.int .i64 0)))), none⟩])
  (.cond (.t 39)
  (.ops [] [
  ⟨(some 40), (.op (.mv (.t 8))), none⟩,
  ⟨(some 41), (.op (.bin .sub (.t 40) (.k (.int .i64 1)))), none⟩,
  ⟨(some 42), (.op (.mv (.t 9))), none⟩,
  ⟨(some 43), (.op (.bin .add (.t 42) (.k (.int .i64 86400)))), none⟩,
  ⟨(some 8), (.op (.mv (.t 41))), none⟩,
  ⟨(some 9), (.op (.mv (.t 43))), none⟩])
  .skip))
  (.seq
  (.ops [] [
  ⟨(some 44), (.op (.mv (.t 8))), none⟩,
  ⟨(some 45), (.op (.bin .add (.t 44) (.k (.int .i64 719468)))), none⟩,
  ⟨(some 8), (.op (.mv (.t 45))), none⟩])
  (.seq
  (.ops [] [
  ⟨(some 46), (.op (.mv (.t 8))), none⟩,
  ⟨(some 47), (.op (.bin .quo (.t 46) (.k (.int .i64 146097)))), none⟩,
  ⟨(some 10), (.op (.mv (.t 47))), none⟩])
  (.seq
  (.ops [] [
  ⟨(some 48), (.op (.mv (.t 8))), none⟩,
  ⟨(some 49), (.op (.bin .rem (.t 48) (.k (.int .i64 146097)))), none⟩,
  ⟨(some 8), (.op (.mv (.t 49))), none⟩])
  (.seq
  (.ops [] [
  ⟨(some 50), (.op (.mv (.t 8))), none⟩,
  ⟨(some 51), (.op (.mv (.t 8))), none⟩,
  ⟨(some 52), (.op (.bin .quo (.t 51) (.k (.int .i64 1460)))), none⟩,
  ⟨(some 53), (.op (.bin .sub (.t 50) (.t 52))), none⟩,
  ⟨(some 54), (.op (.mv (.t 8))), none⟩,
  ⟨(some 55), (.op (.bin .quo (.t 54) (.k (.int .i64 36524)))), none⟩,
  ⟨(some 56), (.op (.bin .add (.t 53) (.t 55))), none⟩,
  ⟨(some 57), (.op (.mv (.t 8))), none⟩,
  ⟨(some 58), (.op (.bin .quo (.t 57) (.k (.int .i64 146096)))), none⟩,
  ⟨(some 59), (.op (.bin .sub (.t 56) (.t 58))), none⟩,
  ⟨(some 60), (.op (.bin .quo (.t 59) (.k (.int .i64 365)))), none⟩,
  ⟨(some 11), (.op (.mv (.t 60))), none⟩])
  (.seq
  (.ops [] [
  ⟨(some 61), (.op (.mv (.t 8))), none⟩,
  ⟨(some 62), (.op (.mv (.t 11))), none⟩,
  ⟨(some 63), (.op (.bin .mul (.t 62) (.k (.int .i64 365)))), none⟩,
  ⟨(some 64), (.op (.mv (.t 11))), none⟩,
  ⟨(some 65), (.op (.bin .quo (.t 64) (.k (.int .i64 4)))), none⟩,
  ⟨(some 66), (.op (.bin .add (.t 63) (.t 65))), none⟩,
  ⟨(some 67), (.op (.mv (.t 11))), none⟩,
  ⟨(some 68), (.op (.bin .quo (.t 67) (.k (.int .i64 100)))), none⟩,
  ⟨(some 69), (.op (.bin .sub (.t 66) (.t 68))), none⟩,
  ⟨(some 70), (.op (.bin .sub (.t 61) (.t 69))), none⟩,
  ⟨(some 8), (.op (.mv (.t 70))), none⟩])
  (.seq
  (.ops [] [
  ⟨(some 71), (.op (.mv (.t 8))), none⟩,
  ⟨(some 72), (.op (.bin .mul (.k (.int .i64 5)) (.t 71))), none⟩,
  ⟨(some 73), (.op (.bin .add (.t 72) (.k (.int .i64 2)))), none⟩,
  ⟨(some 74), (.op (.bin .quo (.t 73) (.k (.int .i64 153)))), none⟩,
  ⟨(some 12), (.op (.mv (.t 74))), none⟩])
  (.seq
  (.ops [] [
  ⟨(some 75), (.op (.mv (.t 8))), none⟩,
  ⟨(some 76), (.op (.mv (.t 12))), none⟩,
  ⟨(some 77), (.op (.bin .mul (.k (.int .i64 153)) (.t 76))), none⟩,
  ⟨(some 78), (.op (.bin .add (.t 77) (.k (.int .i64 2)))), none⟩,
  ⟨(some 79), (.op (.bin .quo (.t 78) (.k (.int .i64 5)))), none⟩,
  ⟨(some 80), (.op (.bin .sub (.t 75) (.t 79))), none⟩,
  ⟨(some 81), (.op (.bin .add (.t 80) (.k (.int .i64 1)))), none⟩,
  ⟨(some 13), (.op (.mv (.t 81))), none⟩])
  (.seq
  (.ops [] [
  ⟨(some 82), (.op (.mv (.t 10))), none⟩,
  ⟨(some 83), (.op (.bin .mul (.t 82) (.k (.int .i64 400)))), none⟩,
  ⟨(some 84), (.op (.mv (.t 11))), none⟩,
  ⟨(some 85), (.op (.bin .add (.t 83) (.t 84))), none⟩,
  ⟨(some 14), (.op (.mv (.t 85))), none⟩])
  (.seq
  (.ops [] [
  ⟨(some 86), (.op (.mv (.t 12))), none⟩,
  ⟨(some 87), (.op (.bin .add (.t 86) (.k (.int .i64 3)))), none⟩,
  ⟨(some 12), (.op (.mv (.t 87))), none⟩])
  (.seq
  (.seq
  (.ops [] [
  ⟨(some 88), (.op (.mv (.t 12))), none⟩,
  ⟨(some 89), (.op (.bin .gtr (.t 88) (.k (.int .i64 12)))), none⟩])
  (.cond (.t 89)
  (.ops [] [
  ⟨(some 90), (.op (.mv (.t 14))), none⟩,
  ⟨(some 91), (.op (.bin .add (.t 90) (.k (.int .i64 1)))), none⟩,
  ⟨(some 92), (.op (.mv (.t 12))), none⟩,
  ⟨(some 93), (.op (.bin .sub (.t 92) (.k (.int .i64 12)))), none⟩,
  ⟨(some 14), (.op (.mv (.t 91))), none⟩,
  ⟨(some 12), (.op (.mv (.t 93))), none⟩])
  .skip))
  (.seq
  (.ops [] [
  ⟨(some 94), (.op (.mv (.t 14))), none⟩,
  ⟨(some 95), (.op (.mv (.t 12))), none⟩,
  ⟨(some 96), (.op (.mv (.t 13))), none⟩,
  ⟨(some 97), (.op (.mv (.t 9))), none⟩,
  ⟨(some 98), (.op (.bin .quo (.t 97) (.k (.int .i64 3600)))), none⟩,
  ⟨(some 99), (.op (.mv (.t 9))), none⟩,
  ⟨(some 100), (.op (.bin .quo (.t 99) (.k (.int .i64 60)))), none⟩,
  ⟨(some 101), (.op (.bin .rem (.t 100) (.k (.int .i64 60)))), none⟩,
  ⟨(some 102), (.op (.mv (.t 9))), none⟩,
  ⟨(some 103), (.op (.bin .rem (.t 102) (.k (.int .i64 60)))), none⟩,
  ⟨(some 104), (.op (.build [(.int .i64 0), (.int .i64 0), (.int .i64 0), (.int .i64 0), (.int .i64 0), (.int .i64 0)] [(0, (1, (.t 94))), (1, (1, (.t 95))), (2, (1, (.t 96))), (3, (1, (.t 98))), (4, (1, (.t 101))), (5, (1, (.t 103)))])), none⟩,
  ⟨none, (.op (.store 6 (.t 2) (.t 104))), none⟩,
  ⟨(some 3), (.op (.mv (.k (.bool true)))), none⟩])
  .ret))))))))))))))))),
  [(.cN 2 6), (.t 3)]⟩
theorem r_clock_Date : resolveFn Tryd.prog 96 = some c_clock_Date := by kernel_rfl

def c_lanyardref03_Date : RFn :=
  ⟨70,
  (.seq
  (.ops [] [
  ⟨(some 2), (.op (.new [(.int .i64 0), (.int .i64 0), (.int .i64 0), (.int .i64 0), (.int .i64 0), (.int .i64 0)])), none⟩,
  ⟨(some 3), (.op (.mv (.k (.bool false)))), none⟩])
  (.seq
  (.ops [] [
  ⟨(some 9), (.call (.k (.func (.func 94) #[] #[])) [(.k (.int .i64 1970)), (.k (.int .i64 1)), (.k (.int .i64 1))]), none⟩,
  ⟨(some 10), (.op (.un .neg (.t 9))), none⟩,
  ⟨(some 11), (.op (.bin .mul (.t 10) (.k (.int .i64 86400)))), none⟩,
  ⟨(some 4), (.op (.mv (.t 11))), none⟩])
  (.seq
  (.seq
  (.ops [] [
  ⟨(some 12), (.op (.mv (.t 0))), none⟩,
  ⟨(some 13), (.op (.mv (.t 4))), none⟩,
  ⟨(some 14), (.op (.bin .lss (.t 12) (.t 13))), none⟩,
  ⟨(some 15), (.op (.mv (.t 14))), none⟩,
  ⟨(some 16), (.op (.mv (.t 0))), (some (15, false))⟩,
  ⟨(some 17), (.op (.bin .gtr (.t 16) (.k (.int .i64 7258118399)))), (some (15, false))⟩,
  ⟨(some 18), (.op (.pick (.t 15) (.k (.bool true)) (.t 17))), none⟩])
  (.cond (.t 18)
  (.seq
  (.ops [] [
  ⟨(some 19), (.op (.build [(.int .i64 0), (.int .i64 0), (.int .i64 0), (.int .i64 0), (.int .i64 0), (.int .i64 0)] [])), none⟩,
  ⟨none, (.op (.store 6 (.t 2) (.t 19))), none⟩,
  ⟨(some 3), (.op (.mv (.k (.bool false)))), none⟩])
  .ret)
  .skip))
  (.seq
  (.ops [] [
  ⟨(some 20), (.op (.mv (.t 0))), none⟩,
  ⟨(some 21), (.op (.mv (.t 4))), none⟩,
  ⟨(some 22), (.op (.bin .sub (.t 20) (.t 21))), none⟩,
  ⟨(some 23), (.op (.bin .quo (.t 22) (.k (.int .i64 86400)))), none⟩,
  ⟨(some 5), (.op (.mv (.t 23))), none⟩])
  (.seq
  (.ops [] [
  ⟨(some 24), (.op (.mv (.t 0))), none⟩,
  ⟨(some 25), (.op (.mv (.t 4))), none⟩,
  ⟨(some 26), (.op (.bin .sub (.t 24) (.t 25))), none⟩,
  ⟨(some 27), (.op (.bin .rem (.t 26) (.k (.int .i64 86400)))), none⟩,
  ⟨(some 6), (.op (.mv (.t 27))), none⟩])
  (.seq
  (.ops [] [
  ⟨(some 7), (.op (.mv (.k (.int .i64 1950)))), none⟩])
  (.seq
  (.block 0
  (.loop
  (.seq
  (.seq
  (.ops [] [
  ⟨(some 28), (.op (.mv (.t 5))), none⟩,
  ⟨(some 29), (.op (.mv (.t 7))), none⟩,
  ⟨(some 30), (.op (.bin .add (.t 29) (.k (.int .i64 1)))), none⟩,
  ⟨(some 31), (.call (.k (.func (.func 94) #[] #[])) [(.t 30), (.k (.int .i64 1)), (.k (.int .i64 1))]), none⟩,
  ⟨(some 32), (.op (.mv (.t 7))), none⟩,
  ⟨(some 33), (.call (.k (.func (.func 94) #[] #[])) [(.t 32), (.k (.int .i64 1)), (.k (.int .i64 1))]), none⟩,
  ⟨(some 34), (.op (.bin .sub (.t 31) (.t 33))), none⟩,
  ⟨(some 35), (.op (.bin .geq (.t 28) (.t 34))), none⟩])
  (.cond (.t 35)
  .skip
  (.exit 0)))
  (.block 1
  (.seq
  (.ops [] [
  ⟨(some 36), (.op (.mv (.t 5))), none⟩,
  ⟨(some 37), (.op (.mv (.t 7))), none⟩,
  ⟨(some 38), (.op (.bin .add (.t 37) (.k (.int .i64 1)))), none⟩,
  ⟨(some 39), (.call (.k (.func (.func 94) #[] #[])) [(.t 38), (.k (.int .i64 1)), (.k (.int .i64 1))]), none⟩,
  ⟨(some 40), (.op (.mv (.t 7))), none⟩,
  ⟨(some 41), (.call (.k (.func (.func 94) #[] #[])) [(.t 40), (.k (.int .i64 1)), (.k (.int .i64 1))]), none⟩,
  ⟨(some 42), (.op (.bin .sub (.t 39) (.t 41))), none⟩,
  ⟨(some 43), (.op (.bin .sub (.t 36) (.t 42))), none⟩,
  ⟨(some 5), (.op (.mv (.t 43))), none⟩])
  (.ops [] [
  ⟨(some 44), (.op (.mv (.t 7))), none⟩,
  ⟨(some 45), (.op (.bin .add (.t 44) (.k (.int .i64 1)))), none⟩,
  ⟨(some 7), (.op (.mv (.t 45))), none⟩]))))))
  (.seq
  (.ops [] [
  ⟨(some 8), (.op (.mv (.k (.int .i64 1)))), none⟩])
  (.seq
  (.block 2
  (.loop
  (.seq
  (.seq
  (.ops [] [
  ⟨(some 46), (.op (.mv (.t 5))), none⟩,
  ⟨(some 47), (.op (.mv (.t 7))), none⟩,
  ⟨(some 48), (.op (.mv (.t 8))), none⟩,
  ⟨(some 49), (.call (.k (.func (.func 97) #[] #[])) [(.t 47), (.t 48)]), none⟩,
  ⟨(some 50), (.op (.bin .geq (.t 46) (.t 49))), none⟩])
  (.cond (.t 50)
  .skip
  (.exit 2)))
  (.block 3
  (.seq
  (.ops [] [
  ⟨(some 51), (.op (.mv (.t 5))), none⟩,
  ⟨(some 52), (.op (.mv (.t 7))), none⟩,
  ⟨(some 53), (.op (.mv (.t 8))), none⟩,
  ⟨(some 54), (.call (.k (.func (.func 97) #[] #[])) [(.t 52), (.t 53)]), none⟩,
  ⟨(some 55), (.op (.bin .sub (.t 51) (.t 54))), none⟩,
  ⟨(some 5), (.op (.mv (.t 55))), none⟩])
  (.ops [] [
  ⟨(some 56), (.op (.mv (.t 8))), none⟩,
  ⟨(some 57), (.op (.bin .add (.t 56) (.k (.int .i64 1)))), none⟩,
  ⟨(some 8), (.op (.mv (.t 57))), none⟩]))))))
  (.seq
  (.ops [] [
  ⟨(some 58), (.op (.mv (.t 7))), none⟩,
  ⟨(some 59), (.op (.mv (.t 8))), none⟩,
  ⟨(some 60), (.op (.mv (.t 5))), none⟩,
  ⟨(some 61), (.op (.bin .add (.t 60) (.k (.int .i64 1)))), none⟩,
  ⟨(some 62), (.op (.mv (.t 6))), none⟩,
  ⟨(some 63), (.op (.bin .quo (.t 62) (.k (.int .i64 3600)))), none⟩,
  ⟨(some 64), (.op (.mv (.t 6))), none⟩,
  ⟨(some 65), (.op (.bin .quo (.t 64) (.k (.int .i64 60)))), none⟩,
  ⟨(some 66), (.op (.bin .rem (.t 65) (.k (.int .i64 60)))), none⟩,
  ⟨(some 67), (.op (.mv (.t 6))), none⟩,
  ⟨(some 68), (.op (.bin .rem (.t 67) (.k (.int .i64 60)))), none⟩,
  ⟨(some 69), (.op (.build [(.int .i64 0), (.int .i64 0), (.int .i64 0), (.int .i64 0), (.int .i64 0), (.int .i64 0)] [(0, (1, (.t 58))), (1, (1, (.t 59))), (2, (1, (.t 61))), (3, (1, (.t 63))), (4, (1, (.t 66))), (5, (1, (.t 68)))])), none⟩,
  ⟨none, (.op (.store 6 (.t 2) (.t 69))), none⟩,
  ⟨(some 3), (.op (.mv (.k (.bool true)))), none⟩])
  .ret)))))))))),
  [(.cN 2 6), (.t 3)]⟩
theorem r_lanyardref03_Date : resolveFn Tryd.prog 88 = some c_lanyardref03_Date := by kernel_rfl

def c_clock_Long : RFn :=
  ⟨16,
  (.seq
  (.ops [] [
  ⟨(some 2), (.op (.mv (.k (.string ⟨#[]⟩)))), none⟩,
  ⟨(some 3), (.op (.mv (.k (.bool false)))), none⟩])
  (.seq
  (.ops [] [
  ⟨(some 8), (.op (.mv (.t 0))), none⟩,
  ⟨(some 9), (.call (.k (.func (.func 87) #[] #[])) [(.t 8)]), none⟩,
  ⟨(some 7), (.op (.mv (.t 9))), none⟩,
  ⟨(some 10), (.op (.extract (.t 7) 0)), none⟩,
  ⟨(some 11), (.op (.extract (.t 7) 1)), none⟩,
  ⟨(some 12), (.op (.extract (.t 7) 2)), none⟩,
  ⟨(some 4), (.op (.mv (.t 10))), none⟩,
  ⟨(some 5), (.op (.mv (.t 11))), none⟩,
  ⟨(some 6), (.op (.mv (.t 12))), none⟩])
  (.seq
  (.ops [] [
  ⟨(some 13), (.op (.mv (.t 4))), none⟩,
  ⟨(some 14), (.op (.b2s (.t 13))), none⟩,
  ⟨(some 15), (.op (.mv (.t 6))), none⟩,
  ⟨(some 2), (.op (.mv (.t 14))), none⟩,
  ⟨(some 3), (.op (.mv (.t 15))), none⟩])
  .ret))),
  [(.t 2), (.t 3)]⟩
theorem r_clock_Long : resolveFn Tryd.prog 77 = some c_clock_Long := by kernel_rfl

def c_clock_Short : RFn :=
  ⟨22,
  (.seq
  (.ops [] [
  ⟨(some 2), (.op (.mv (.k (.string ⟨#[]⟩)))), none⟩,
  ⟨(some 3), (.op (.mv (.k (.bool false)))), none⟩])
  (.seq
  (.ops [] [
  ⟨(some 8), (.op (.mv (.t 0))), none⟩,
  ⟨(some 9), (.call (.k (.func (.func 87) #[] #[])) [(.t 8)]), none⟩,
  ⟨(some 7), (.op (.mv (.t 9))), none⟩,
  ⟨(some 10), (.op (.extract (.t 7) 0)), none⟩,
  ⟨(some 11), (.op (.extract (.t 7) 1)), none⟩,
  ⟨(some 12), (.op (.extract (.t 7) 2)), none⟩,
  ⟨(some 4), (.op (.mv (.t 10))), none⟩,
  ⟨(some 5), (.op (.mv (.t 11))), none⟩,
  ⟨(some 6), (.op (.mv (.t 12))), none⟩])
  (.seq
  (.seq
  (.ops [] [
  ⟨(some 13), (.op (.mv (.t 6))), none⟩,
  ⟨(some 14), (.op (.un .not (.t 13))), none⟩,
  ⟨(some 15), (.op (.mv (.t 14))), none⟩,
  ⟨(some 16), (.op (.mv (.t 5))), (some (15, false))⟩,
  ⟨(some 17), (.op (.bin .geq (.t 16) (.k (.int .i64 2050)))), (some (15, false))⟩,
  ⟨(some 18), (.op (.pick (.t 15) (.k (.bool true)) (.t 17))), none⟩])
  (.cond (.t 18)
  (.seq
  (.ops [] [
  ⟨(some 2), (.op (.mv (.k (.string ⟨#[]⟩)))), none⟩,
  ⟨(some 3), (.op (.mv (.k (.bool false)))), none⟩])
  .ret)
  .skip))
  (.seq
  (.ops [] [
  ⟨(some 19), (.op (.mv (.t 4))), none⟩,
  ⟨(some 20), (.op (.sl 1 (.t 19) (some (.k (.int .i64 2))) none none)), none⟩,
  ⟨(some 21), (.op (.b2s (.t 20))), none⟩,
  ⟨(some 2), (.op (.mv (.t 21))), none⟩,
  ⟨(some 3), (.op (.mv (.k (.bool true)))), none⟩])
  .ret)))),
  [(.t 2), (.t 3)]⟩
theorem r_clock_Short : resolveFn Tryd.prog 76 = some c_clock_Short := by kernel_rfl

def c_lanyardref03_Short : RFn :=
  ⟨24,
  (.seq
  (.ops [] [
  ⟨(some 2), (.op (.mv (.k (.string ⟨#[]⟩)))), none⟩,
  ⟨(some 3), (.op (.mv (.k (.bool false)))), none⟩])
  (.seq
  (.ops [] [
  ⟨(some 7), (.op (.mv (.t 0))), none⟩,
  ⟨(some 8), (.call (.k (.func (.func 88) #[] #[])) [(.t 7)]), none⟩,
  ⟨(some 6), (.op (.mv (.t 8))), none⟩,
  ⟨(some 9), (.op (.extract (.t 6) 0)), none⟩,
  ⟨(some 10), (.op (.extract (.t 6) 1)), none⟩,
  ⟨(some 4), (.op (.new [(.int .i64 0), (.int .i64 0), (.int .i64 0), (.int .i64 0), (.int .i64 0), (.int .i64 0)])), none⟩,
  ⟨none, (.op (.store 6 (.t 4) (.t 9))), none⟩,
  ⟨(some 5), (.op (.mv (.t 10))), none⟩])
  (.seq
  (.seq
  (.ops [] [
  ⟨(some 11), (.op (.mv (.t 5))), none⟩,
  ⟨(some 12), (.op (.un .not (.t 11))), none⟩,
  ⟨(some 13), (.op (.mv (.t 12))), none⟩,
  ⟨(some 14), (.op (.ixAddrA 6 1 (.t 4) (.k (.int .i64 0)))), (some (13, false))⟩,
  ⟨(some 15), (.op (.load1 (.t 14))), (some (13, false))⟩,
  ⟨(some 16), (.op (.bin .gtr (.t 15) (.k (.int .i64 2049)))), (some (13, false))⟩,
  ⟨(some 17), (.op (.pick (.t 13) (.k (.bool true)) (.t 16))), none⟩])
  (.cond (.t 17)
  (.seq
  (.ops [] [
  ⟨(some 2), (.op (.mv (.k (.string ⟨#[]⟩)))), none⟩,
  ⟨(some 3), (.op (.mv (.k (.bool false)))), none⟩])
  .ret)
  .skip))
  (.seq
  (.ops [
  ⟨(some 18), (.op (.ixAddrA 6 1 (.t 4) (.k (.int .i64 0)))), none⟩,
  ⟨(some 19), (.op (.load1 (.t 18))), none⟩,
  ⟨(some 20), (.call (.k (.func (.func 89) #[] #[])) [(.t 19)]), none⟩,
  ⟨(some 21), (.op (.loadN 6 (.t 4))), none⟩] [
  ⟨(some 22), (.call (.k (.func (.func 90) #[] #[])) [(.t 21)]), none⟩,
  ⟨(some 23), (.op (.bin .add (.t 20) (.t 22))), none⟩,
  ⟨(some 2), (.op (.mv (.t 23))), none⟩,
  ⟨(some 3), (.op (.mv (.k (.bool true)))), none⟩])
  .ret)))),
  [(.t 2), (.t 3)]⟩
theorem r_lanyardref03_Short : resolveFn Tryd.prog 78 = some c_lanyardref03_Short := by kernel_rfl

def c_lanyardref03_Long : RFn :=
  ⟨24,
  (.seq
  (.ops [] [
  ⟨(some 2), (.op (.mv (.k (.string ⟨#[]⟩)))), none⟩,
  ⟨(some 3), (.op (.mv (.k (.bool false)))), none⟩])
  (.seq
  (.ops [] [
  ⟨(some 7), (.op (.mv (.t 0))), none⟩,
  ⟨(some 8), (.call (.k (.func (.func 88) #[] #[])) [(.t 7)]), none⟩,
  ⟨(some 6), (.op (.mv (.t 8))), none⟩,
  ⟨(some 9), (.op (.extract (.t 6) 0)), none⟩,
  ⟨(some 10), (.op (.extract (.t 6) 1)), none⟩,
  ⟨(some 4), (.op (.new [(.int .i64 0), (.int .i64 0), (.int .i64 0), (.int .i64 0), (.int .i64 0), (.int .i64 0)])), none⟩,
  ⟨none, (.op (.store 6 (.t 4) (.t 9))), none⟩,
  ⟨(some 5), (.op (.mv (.t 10))), none⟩])
  (.seq
  (.seq
  (.ops [] [
  ⟨(some 11), (.op (.mv (.t 5))), none⟩,
  ⟨(some 12), (.op (.un .not (.t 11))), none⟩])
  (.cond (.t 12)
  (.seq
  (.ops [] [
  ⟨(some 2), (.op (.mv (.k (.string ⟨#[]⟩)))), none⟩,
  ⟨(some 3), (.op (.mv (.k (.bool false)))), none⟩])
  .ret)
  .skip))
  (.seq
  (.ops [
  ⟨(some 13), (.op (.ixAddrA 6 1 (.t 4) (.k (.int .i64 0)))), none⟩,
  ⟨(some 14), (.op (.load1 (.t 13))), none⟩,
  ⟨(some 15), (.op (.bin .quo (.t 14) (.k (.int .i64 100)))), none⟩,
  ⟨(some 16), (.call (.k (.func (.func 89) #[] #[])) [(.t 15)]), none⟩,
  ⟨(some 17), (.op (.ixAddrA 6 1 (.t 4) (.k (.int .i64 0)))), none⟩,
  ⟨(some 18), (.op (.load1 (.t 17))), none⟩,
  ⟨(some 19), (.call (.k (.func (.func 89) #[] #[])) [(.t 18)]), none⟩,
  ⟨(some 20), (.op (.bin .add (.t 16) (.t 19))), none⟩,
  ⟨(some 21), (.op (.loadN 6 (.t 4))), none⟩,
  ⟨(some 22), (.call (.k (.func (.func 90) #[] #[])) [(.t 21)]), none⟩] [
  ⟨(some 23), (.op (.bin .add (.t 20) (.t 22))), none⟩,
  ⟨(some 2), (.op (.mv (.t 23))), none⟩,
  ⟨(some 3), (.op (.mv (.k (.bool true)))), none⟩])
  .ret)))),
  [(.t 2), (.t 3)]⟩
theorem r_lanyardref03_Long : resolveFn Tryd.prog 79 = some c_lanyardref03_Long := by kernel_rfl

def c_clock_Text : RFn :=
  ⟨17,
  (.seq
  (.ops [] [
  ⟨(some 2), (.op (.mv (.k (.string ⟨#[]⟩)))), none⟩,
  ⟨(some 3), (.op (.mv (.k (.bool false)))), none⟩])
  (.seq
  (.seq
  (.ops [] [
  ⟨(some 7), (.op (.mv (.t 0))), none⟩,
  ⟨(some 8), (.call (.k (.func (.func 76) #[] #[])) [(.t 7)]), none⟩,
  ⟨(some 6), (.op (.mv (.t 8))), none⟩,
  ⟨(some 9), (.op (.extract (.t 6) 0)), none⟩,
  ⟨(some 10), (.op (.extract (.t 6) 1)), none⟩,
  ⟨(some 4), (.op (.mv (.t 9))), none⟩,
  ⟨(some 5), (.op (.mv (.t 10))), none⟩])
  (.seq
  (.ops [] [
  ⟨(some 11), (.op (.mv (.t 5))), none⟩])
  (.cond (.t 11)
  (.seq
  (.ops [] [
  ⟨(some 12), (.op (.mv (.t 4))), none⟩,
  ⟨(some 2), (.op (.mv (.t 12))), none⟩,
  ⟨(some 3), (.op (.mv (.k (.bool true)))), none⟩])
  .ret)
  .skip)))
  (.seq
  (.ops [] [
  ⟨(some 13), (.op (.mv (.t 0))), none⟩,
  ⟨(some 14), (.call (.k (.func (.func 77) #[] #[])) [(.t 13)]), none⟩,
  ⟨(some 15), (.op (.extract (.t 14) 0)), none⟩,
  ⟨(some 16), (.op (.extract (.t 14) 1)), none⟩,
  ⟨(some 2), (.op (.mv (.t 15))), none⟩,
  ⟨(some 3), (.op (.mv (.t 16))), none⟩])
  .ret))),
  [(.t 2), (.t 3)]⟩
theorem r_clock_Text : resolveFn Tryd.prog 63 = some c_clock_Text := by kernel_rfl

def c_lanyardref03_Text : RFn :=
  ⟨17,
  (.seq
  (.ops [] [
  ⟨(some 2), (.op (.mv (.k (.string ⟨#[]⟩)))), none⟩,
  ⟨(some 3), (.op (.mv (.k (.bool false)))), none⟩])
  (.seq
  (.ops [] [
  ⟨(some 7), (.op (.mv (.t 0))), none⟩,
  ⟨(some 8), (.call (.k (.func (.func 78) #[] #[])) [(.t 7)]), none⟩,
  ⟨(some 6), (.op (.mv (.t 8))), none⟩,
  ⟨(some 9), (.op (.extract (.t 6) 0)), none⟩,
  ⟨(some 10), (.op (.extract (.t 6) 1)), none⟩,
  ⟨(some 4), (.op (.mv (.t 9))), none⟩,
  ⟨(some 5), (.op (.mv (.t 10))), none⟩])
  (.seq
  (.seq
  (.ops [] [
  ⟨(some 11), (.op (.mv (.t 5))), none⟩])
  (.cond (.t 11)
  (.seq
  (.ops [] [
  ⟨(some 12), (.op (.mv (.t 4))), none⟩,
  ⟨(some 2), (.op (.mv (.t 12))), none⟩,
  ⟨(some 3), (.op (.mv (.k (.bool true)))), none⟩])
  .ret)
  .skip))
  (.seq
  (.ops [] [
  ⟨(some 13), (.op (.mv (.t 0))), none⟩,
  ⟨(some 14), (.call (.k (.func (.func 79) #[] #[])) [(.t 13)]), none⟩,
  ⟨(some 15), (.op (.extract (.t 14) 0)), none⟩,
  ⟨(some 16), (.op (.extract (.t 14) 1)), none⟩,
  ⟨(some 2), (.op (.mv (.t 15))), none⟩,
  ⟨(some 3), (.op (.mv (.t 16))), none⟩])
  .ret)))),
  [(.t 2), (.t 3)]⟩
theorem r_lanyardref03_Text : resolveFn Tryd.prog 64 = some c_lanyardref03_Text := by kernel_rfl

def c_lanyardref03_Read : RFn :=
  ⟨76,
  (.seq
  (.ops [] [
  ⟨(some 4), (.op (.mv (.k (.int .i64 0)))), none⟩,
  ⟨(some 5), (.op (.mv (.k (.bool false)))), none⟩])
  (.seq
  (.seq
  (.ops [] [
  ⟨(some 8), (.op (.mv (.t 1))), none⟩,
  ⟨(some 9), (.op (.mv (.t 8))), none⟩,
  ⟨(some 10), (.op (.mv (.t 0))), (some (9, true))⟩,
  ⟨(some 11), (.op (.lenStr (.t 10))), (some (9, true))⟩,
  ⟨(some 12), (.op (.bin .neq (.t 11) (.k (.int .i64 15)))), (some (9, true))⟩,
  ⟨(some 13), (.op (.pick (.t 9) (.t 12) (.k (.bool false)))), none⟩,
  ⟨(some 14), (.op (.mv (.t 13))), none⟩,
  ⟨(some 15), (.op (.mv (.t 1))), (some (14, false))⟩,
  ⟨(some 16), (.op (.un .not (.t 15))), (some (14, false))⟩,
  ⟨(some 17), (.op (.mv (.t 16))), (some (14, false))⟩,
  ⟨(some 18), (.op (.mv (.t 0))), (some (17, true))⟩,
  ⟨(some 19), (.op (.lenStr (.t 18))), (some (17, true))⟩,
  ⟨(some 20), (.op (.bin .neq (.t 19) (.k (.int .i64 13)))), (some (17, true))⟩,
  ⟨(some 21), (.op (.pick (.t 17) (.t 20) (.k (.bool false)))), (some (14, false))⟩,
  ⟨(some 22), (.op (.pick (.t 14) (.k (.bool true)) (.t 21))), none⟩,
  ⟨(some 23), (.op (.mv (.t 22))), none⟩,
  ⟨(some 24), (.op (.mv (.t 0))), (some (23, false))⟩,
  ⟨(some 25), (.op (.mv (.t 0))), (some (23, false))⟩,
  ⟨(some 26), (.op (.lenStr (.t 25))), (some (23, false))⟩,
  ⟨(some 27), (.op (.bin .sub (.t 26) (.k (.int .i64 1)))), (some (23, false))⟩,
  ⟨(some 28), (.op (.ixStr (.t 24) (.t 27))), (some (23, false))⟩,
  ⟨(some 29), (.op (.bin .neq (.t 28) (.k (.int .u8 90)))), (some (23, false))⟩,
  ⟨(some 30), (.op (.pick (.t 23) (.k (.bool true)) (.t 29))), none⟩])
  (.cond (.t 30)
  (.seq
  (.ops [] [
  ⟨(some 4), (.op (.mv (.k (.int .i64 0)))), none⟩,
  ⟨(some 5), (.op (.mv (.k (.bool false)))), none⟩])
  .ret)
  .skip))
  (.seq
  (.ops [] [
  ⟨(some 6), (.op (.mv (.k (.int .i64 2)))), none⟩])
  (.seq
  (.ops [] [
  ⟨(some 31), (.op (.mv (.t 0))), none⟩,
  ⟨(some 32), (.call (.k (.func (.func 81) #[] #[])) [(.t 31), (.k (.int .i64 0))]), none⟩,
  ⟨(some 7), (.op (.mv (.t 32))), none⟩])
  (.seq
  (.seq
  (.ops [] [
  ⟨(some 33), (.op (.mv (.t 1))), none⟩])
  (.cond (.t 33)
  (.seq
  (.seq
  (.ops [] [
  ⟨(some 34), (.op (.mv (.t 7))), none⟩,
  ⟨(some 35), (.op (.bin .eql (.t 34) (.k (.int .i64 999)))), none⟩,
  ⟨(some 36), (.op (.mv (.t 35))), none⟩,
  ⟨(some 37), (.op (.mv (.t 0))), (some (36, false))⟩,
  ⟨(some 38), (.call (.k (.func (.func 81) #[] #[])) [(.t 37), (.k (.int .i64 2))]), (some (36, false))⟩,
  ⟨(some 39), (.op (.bin .eql (.t 38) (.k (.int .i64 999)))), (some (36, false))⟩,
  ⟨(some 40), (.op (.pick (.t 36) (.k (.bool true)) (.t 39))), none⟩])
  (.cond (.t 40)
  (.seq
  (.ops [] [
  ⟨(some 4), (.op (.mv (.k (.int .i64 0)))), none⟩,
  ⟨(some 5), (.op (.mv (.k (.bool false)))), none⟩])
  .ret)
  .skip))
  (.seq
  (.ops [] [
  ⟨(some 41), (.op (.mv (.t 7))), none⟩,
  ⟨(some 42), (.op (.bin .mul (.t 41) (.k (.int .i64 100)))), none⟩,
  ⟨(some 43), (.op (.mv (.t 0))), none⟩,
  ⟨(some 44), (.call (.k (.func (.func 81) #[] #[])) [(.t 43), (.k (.int .i64 2))]), none⟩,
  ⟨(some 45), (.op (.bin .add (.t 42) (.t 44))), none⟩,
  ⟨(some 7), (.op (.mv (.t 45))), none⟩])
  (.ops [] [
  ⟨(some 6), (.op (.mv (.k (.int .i64 4)))), none⟩])))
  (.seq
  (.ops [] [
  ⟨(some 46), (.op (.mv (.t 7))), none⟩,
  ⟨(some 47), (.op (.bin .lss (.t 46) (.k (.int .i64 50)))), none⟩])
  (.cond (.t 47)
  (.ops [] [
  ⟨(some 48), (.op (.mv (.t 7))), none⟩,
  ⟨(some 49), (.op (.bin .add (.t 48) (.k (.int .i64 2000)))), none⟩,
  ⟨(some 7), (.op (.mv (.t 49))), none⟩])
  (.ops [] [
  ⟨(some 50), (.op (.mv (.t 7))), none⟩,
  ⟨(some 51), (.op (.bin .add (.t 50) (.k (.int .i64 1900)))), none⟩,
  ⟨(some 7), (.op (.mv (.t 51))), none⟩])))))
  (.seq
  (.ops [] [
  ⟨(some 52), (.op (.mv (.t 7))), none⟩,
  ⟨(some 53), (.op (.mv (.t 0))), none⟩,
  ⟨(some 54), (.op (.mv (.t 6))), none⟩,
  ⟨(some 55), (.call (.k (.func (.func 81) #[] #[])) [(.t 53), (.t 54)]), none⟩,
  ⟨(some 56), (.op (.mv (.t 0))), none⟩,
  ⟨(some 57), (.op (.mv (.t 6))), none⟩,
  ⟨(some 58), (.op (.bin .add (.t 57) (.k (.int .i64 2)))), none⟩,
  ⟨(some 59), (.call (.k (.func (.func 81) #[] #[])) [(.t 56), (.t 58)]), none⟩,
  ⟨(some 60), (.op (.mv (.t 0))), none⟩,
  ⟨(some 61), (.op (.mv (.t 6))), none⟩,
  ⟨(some 62), (.op (.bin .add (.t 61) (.k (.int .i64 4)))), none⟩,
  ⟨(some 63), (.call (.k (.func (.func 81) #[] #[])) [(.t 60), (.t 62)]), none⟩,
  ⟨(some 64), (.op (.mv (.t 0))), none⟩,
  ⟨(some 65), (.op (.mv (.t 6))), none⟩,
  ⟨(some 66), (.op (.bin .add (.t 65) (.k (.int .i64 6)))), none⟩,
  ⟨(some 67), (.call (.k (.func (.func 81) #[] #[])) [(.t 64), (.t 66)]), none⟩,
  ⟨(some 68), (.op (.mv (.t 0))), none⟩,
  ⟨(some 69), (.op (.mv (.t 6))), none⟩,
  ⟨(some 70), (.op (.bin .add (.t 69) (.k (.int .i64 8)))), none⟩,
  ⟨(some 71), (.call (.k (.func (.func 81) #[] #[])) [(.t 68), (.t 70)]), none⟩,
  ⟨(some 72), (.op (.build [(.int .i64 0), (.int .i64 0), (.int .i64 0), (.int .i64 0), (.int .i64 0), (.int .i64 0)] [(0, (1, (.t 52))), (1, (1, (.t 55))), (2, (1, (.t 59))), (3, (1, (.t 63))), (4, (1, (.t 67))), (5, (1, (.t 71)))])), none⟩,
  ⟨(some 73), (.call (.k (.func (.func 82) #[] #[])) [(.t 72)]), none⟩,
  ⟨(some 74), (.op (.extract (.t 73) 0)), none⟩,
  ⟨(some 75), (.op (.extract (.t 73) 1)), none⟩,
  ⟨(some 4), (.op (.mv (.t 74))), none⟩,
  ⟨(some 5), (.op (.mv (.t 75))), none⟩])
  .ret)))))),
  [(.t 4), (.t 5)]⟩
theorem r_lanyardref03_Read : resolveFn Tryd.prog 68 = some c_lanyardref03_Read := by kernel_rfl

def c_clock_within : RFn :=
  ⟨15,
  (.seq
  (.ops [] [
  ⟨(some 6), (.op (.mv (.k (.bool false)))), none⟩])
  (.seq
  (.ops [] [
  ⟨(some 7), (.op (.mv (.t 0))), none⟩,
  ⟨(some 8), (.op (.mv (.t 1))), none⟩,
  ⟨(some 9), (.op (.bin .geq (.t 7) (.t 8))), none⟩,
  ⟨(some 10), (.op (.mv (.t 9))), none⟩,
  ⟨(some 11), (.op (.mv (.t 0))), (some (10, true))⟩,
  ⟨(some 12), (.op (.mv (.t 2))), (some (10, true))⟩,
  ⟨(some 13), (.op (.bin .leq (.t 11) (.t 12))), (some (10, true))⟩,
  ⟨(some 14), (.op (.pick (.t 10) (.t 13) (.k (.bool false)))), none⟩,
  ⟨(some 6), (.op (.mv (.t 14))), none⟩])
  .ret)),
  [(.t 6)]⟩
theorem r_clock_within : resolveFn Tryd.prog 91 = some c_clock_within := by kernel_rfl

def c_clock_last : RFn :=
  ⟨26,
  (.seq
  (.ops [] [
  ⟨(some 4), (.op (.mv (.k (.int .i64 0)))), none⟩])
  (.seq
  (.seq
  (.ops [] [
  ⟨(some 5), (.op (.mv (.t 1))), none⟩,
  ⟨(some 6), (.op (.bin .eql (.t 5) (.k (.int .i64 2)))), none⟩,
  ⟨(some 7), (.op (.mv (.t 6))), none⟩,
  ⟨(some 8), (.op (.mv (.t 0))), (some (7, true))⟩,
  ⟨(some 9), (.op (.bin .rem (.t 8) (.k (.int .i64 4)))), (some (7, true))⟩,
  ⟨(some 10), (.op (.bin .eql (.t 9) (.k (.int .i64 0)))), (some (7, true))⟩,
  ⟨(some 11), (.op (.mv (.t 10))), (some (7, true))⟩,
  ⟨(some 12), (.op (.mv (.t 0))), (some (11, true))⟩,
  ⟨(some 13), (.op (.bin .rem (.t 12) (.k (.int .i64 100)))), (some (11, true))⟩,
  ⟨(some 14), (.op (.bin .neq (.t 13) (.k (.int .i64 0)))), (some (11, true))⟩,
  ⟨(some 15), (.op (.pick (.t 11) (.t 14) (.k (.bool false)))), (some (7, true))⟩,
  ⟨(some 16), (.op (.mv (.t 15))), (some (7, true))⟩,
  ⟨(some 17), (.op (.mv (.t 0))), (some (16, false))⟩,
  ⟨(some 18), (.op (.bin .rem (.t 17) (.k (.int .i64 400)))), (some (16, false))⟩,
  ⟨(some 19), (.op (.bin .eql (.t 18) (.k (.int .i64 0)))), (some (16, false))⟩,
  ⟨(some 20), (.op (.pick (.t 16) (.k (.bool true)) (.t 19))), (some (7, true))⟩,
  ⟨(some 21), (.op (.pick (.t 7) (.t 20) (.k (.bool false)))), none⟩])
  (.cond (.t 21)
  (.seq
  (.ops [] [
  ⟨(some 4), (.op (.mv (.k (.int .i64 29)))), none⟩])
  .ret)
  .skip))
  (.seq
  (.ops [] [
  ⟨(some 22), (.op (.build [(.int .i64 0), (.int .i64 0), (.int .i64 0), (.int .i64 0), (.int .i64 0), (.int .i64 0), (.int .i64 0), (.int .i64 0), (.int .i64 0), (.int .i64 0), (.int .i64 0), (.int .i64 0)] [(0, (1, (.k (.int .i64 31)))), (1, (1, (.k (.int .i64 28)))), (2, (1, (.k (.int .i64 31)))), (3, (1, (.k (.int .i64 30)))), (4, (1, (.k (.int .i64 31)))), (5, (1, (.k (.int .i64 30)))), (6, (1, (.k (.int .i64 31)))), (7, (1, (.k (.int .i64 31)))), (8, (1, (.k (.int .i64 30)))), (9, (1, (.k (.int .i64 31)))), (10, (1, (.k (.int .i64 30)))), (11, (1, (.k (.int .i64 31))))])), none⟩,
  ⟨(some 23), (.op (.mv (.t 1))), none⟩,
  ⟨(some 24), (.op (.bin .sub (.t 23) (.k (.int .i64 1)))), none⟩,
  ⟨(some 25), (.op (.ixArr 12 (.t 22) (.t 24))), none⟩,
  ⟨(some 4), (.op (.mv (.t 25))), none⟩])
  .ret))),
  [(.t 4)]⟩
theorem r_clock_last : resolveFn Tryd.prog 92 = some c_clock_last := by kernel_rfl

def c_lanyardref03_right : RFn :=
  ⟨64,
  (.seq
  (.ops [] [
  ⟨(some 1), (.op (.box (.t 0))), none⟩,
  ⟨(some 2), (.op (.mv (.k (.bool false)))), none⟩])
  (.seq
  (.seq
  (.ops [] [
  ⟨(some 3), (.op (.ixAddrA 6 1 (.t 1) (.k (.int .i64 0)))), none⟩,
  ⟨(some 4), (.op (.load1 (.t 3))), none⟩,
  ⟨(some 5), (.op (.bin .lss (.t 4) (.k (.int .i64 1950)))), none⟩,
  ⟨(some 6), (.op (.mv (.t 5))), none⟩,
  ⟨(some 7), (.op (.ixAddrA 6 1 (.t 1) (.k (.int .i64 0)))), (some (6, false))⟩,
  ⟨(some 8), (.op (.load1 (.t 7))), (some (6, false))⟩,
  ⟨(some 9), (.op (.bin .gtr (.t 8) (.k (.int .i64 2199)))), (some (6, false))⟩,
  ⟨(some 10), (.op (.pick (.t 6) (.k (.bool true)) (.t 9))), none⟩,
  ⟨(some 11), (.op (.mv (.t 10))), none⟩,
  ⟨(some 12), (.op (.ixAddrA 6 1 (.t 1) (.k (.int .i64 1)))), (some (11, false))⟩,
  ⟨(some 13), (.op (.load1 (.t 12))), (some (11, false))⟩,
  ⟨(some 14), (.op (.bin .lss (.t 13) (.k (.int .i64 1)))), (some (11, false))⟩,
  ⟨(some 15), (.op (.pick (.t 11) (.k (.bool true)) (.t 14))), none⟩,
  ⟨(some 16), (.op (.mv (.t 15))), none⟩,
  ⟨(some 17), (.op (.ixAddrA 6 1 (.t 1) (.k (.int .i64 1)))), (some (16, false))⟩,
  ⟨(some 18), (.op (.load1 (.t 17))), (some (16, false))⟩,
  ⟨(some 19), (.op (.bin .gtr (.t 18) (.k (.int .i64 12)))), (some (16, false))⟩,
  ⟨(some 20), (.op (.pick (.t 16) (.k (.bool true)) (.t 19))), none⟩])
  (.cond (.t 20)
  (.seq
  (.ops [] [
  ⟨(some 2), (.op (.mv (.k (.bool false)))), none⟩])
  .ret)
  .skip))
  (.seq
  (.ops [
  ⟨(some 21), (.op (.ixAddrA 6 1 (.t 1) (.k (.int .i64 2)))), none⟩,
  ⟨(some 22), (.op (.load1 (.t 21))), none⟩,
  ⟨(some 23), (.op (.bin .geq (.t 22) (.k (.int .i64 1)))), none⟩,
  ⟨(some 24), (.op (.mv (.t 23))), none⟩,
  ⟨(some 25), (.op (.ixAddrA 6 1 (.t 1) (.k (.int .i64 2)))), (some (24, true))⟩,
  ⟨(some 26), (.op (.load1 (.t 25))), (some (24, true))⟩,
  ⟨(some 27), (.op (.ixAddrA 6 1 (.t 1) (.k (.int .i64 0)))), (some (24, true))⟩,
  ⟨(some 28), (.op (.load1 (.t 27))), (some (24, true))⟩,
  ⟨(some 29), (.op (.ixAddrA 6 1 (.t 1) (.k (.int .i64 1)))), (some (24, true))⟩,
  ⟨(some 30), (.op (.load1 (.t 29))), (some (24, true))⟩,
  ⟨(some 31), (.call (.k (.func (.func 97) #[] #[])) [(.t 28), (.t 30)]), (some (24, true))⟩] [
  ⟨(some 32), (.op (.bin .leq (.t 26) (.t 31))), (some (24, true))⟩,
  ⟨(some 33), (.op (.pick (.t 24) (.t 32) (.k (.bool false)))), none⟩,
  ⟨(some 34), (.op (.mv (.t 33))), none⟩,
  ⟨(some 35), (.op (.ixAddrA 6 1 (.t 1) (.k (.int .i64 3)))), (some (34, true))⟩,
  ⟨(some 36), (.op (.load1 (.t 35))), (some (34, true))⟩,
  ⟨(some 37), (.op (.bin .geq (.t 36) (.k (.int .i64 0)))), (some (34, true))⟩,
  ⟨(some 38), (.op (.pick (.t 34) (.t 37) (.k (.bool false)))), none⟩,
  ⟨(some 39), (.op (.mv (.t 38))), none⟩,
  ⟨(some 40), (.op (.ixAddrA 6 1 (.t 1) (.k (.int .i64 3)))), (some (39, true))⟩,
  ⟨(some 41), (.op (.load1 (.t 40))), (some (39, true))⟩,
  ⟨(some 42), (.op (.bin .lss (.t 41) (.k (.int .i64 24)))), (some (39, true))⟩,
  ⟨(some 43), (.op (.pick (.t 39) (.t 42) (.k (.bool false)))), none⟩,
  ⟨(some 44), (.op (.mv (.t 43))), none⟩,
  ⟨(some 45), (.op (.ixAddrA 6 1 (.t 1) (.k (.int .i64 4)))), (some (44, true))⟩,
  ⟨(some 46), (.op (.load1 (.t 45))), (some (44, true))⟩,
  ⟨(some 47), (.op (.bin .geq (.t 46) (.k (.int .i64 0)))), (some (44, true))⟩,
  ⟨(some 48), (.op (.pick (.t 44) (.t 47) (.k (.bool false)))), none⟩,
  ⟨(some 49), (.op (.mv (.t 48))), none⟩,
  ⟨(some 50), (.op (.ixAddrA 6 1 (.t 1) (.k (.int .i64 4)))), (some (49, true))⟩,
  ⟨(some 51), (.op (.load1 (.t 50))), (some (49, true))⟩,
  ⟨(some 52), (.op (.bin .lss (.t 51) (.k (.int .i64 60)))), (some (49, true))⟩,
  ⟨(some 53), (.op (.pick (.t 49) (.t 52) (.k (.bool false)))), none⟩,
  ⟨(some 54), (.op (.mv (.t 53))), none⟩,
  ⟨(some 55), (.op (.ixAddrA 6 1 (.t 1) (.k (.int .i64 5)))), (some (54, true))⟩,
  ⟨(some 56), (.op (.load1 (.t 55))), (some (54, true))⟩,
  ⟨(some 57), (.op (.bin .geq (.t 56) (.k (.int .i64 0)))), (some (54, true))⟩,
  ⟨(some 58), (.op (.pick (.t 54) (.t 57) (.k (.bool false)))), none⟩,
  ⟨(some 59), (.op (.mv (.t 58))), none⟩,
  ⟨(some 60), (.op (.ixAddrA 6 1 (.t 1) (.k (.int .i64 5)))), (some (59, true))⟩,
  ⟨(some 61), (.op (.load1 (.t 60))), (some (59, true))⟩,
  ⟨(some 62), (.op (.bin .lss (.t 61) (.k (.int .i64 60)))), (some (59, true))⟩,
  ⟨(some 63), (.op (.pick (.t 59) (.t 62) (.k (.bool false)))), none⟩,
  ⟨(some 2), (.op (.mv (.t 63))), none⟩])
  .ret))),
  [(.t 2)]⟩
theorem r_lanyardref03_right : resolveFn Tryd.prog 93 = some c_lanyardref03_right := by kernel_rfl

def c_lanyardref03_days : RFn :=
  ⟨34,
  (.seq
  (.ops [] [
  ⟨(some 6), (.op (.mv (.k (.int .i64 0)))), none⟩])
  (.seq
  (.ops [] [
  ⟨(some 10), (.op (.mv (.t 2))), none⟩,
  ⟨(some 11), (.op (.bin .sub (.t 10) (.k (.int .i64 1)))), none⟩,
  ⟨(some 7), (.op (.mv (.t 11))), none⟩])
  (.seq
  (.seq
  (.ops [] [
  ⟨(some 8), (.op (.mv (.k (.int .i64 1950)))), none⟩])
  (.block 0
  (.loop
  (.seq
  (.seq
  (.ops [] [
  ⟨(some 12), (.op (.mv (.t 8))), none⟩,
  ⟨(some 13), (.op (.mv (.t 0))), none⟩,
  ⟨(some 14), (.op (.bin .lss (.t 12) (.t 13))), none⟩])
  (.cond (.t 14)
  .skip
  (.exit 0)))
  (.seq
  (.block 1
  (.seq
  (.ops [] [
  ⟨(some 17), (.op (.mv (.t 7))), none⟩,
  ⟨(some 18), (.op (.bin .add (.t 17) (.k (.int .i64 365)))), none⟩,
  ⟨(some 7), (.op (.mv (.t 18))), none⟩])
  (.seq
  (.ops [] [
  ⟨(some 19), (.op (.mv (.t 8))), none⟩,
  ⟨(some 20), (.call (.k (.func (.func 98) #[] #[])) [(.t 19)]), none⟩])
  (.cond (.t 20)
  (.ops [] [
  ⟨(some 21), (.op (.mv (.t 7))), none⟩,
  ⟨(some 22), (.op (.bin .add (.t 21) (.k (.int .i64 1)))), none⟩,
  ⟨(some 7), (.op (.mv (.t 22))), none⟩])
  .skip))))
  (.ops [] [
  ⟨(some 15), (.op (.mv (.t 8))), none⟩,
  ⟨(some 16), (.op (.bin .add (.t 15) (.k (.int .i64 1)))), none⟩,
  ⟨(some 8), (.op (.mv (.t 16))), none⟩]))))))
  (.seq
  (.seq
  (.ops [] [
  ⟨(some 9), (.op (.mv (.k (.int .i64 1)))), none⟩])
  (.block 2
  (.loop
  (.seq
  (.seq
  (.ops [] [
  ⟨(some 23), (.op (.mv (.t 9))), none⟩,
  ⟨(some 24), (.op (.mv (.t 1))), none⟩,
  ⟨(some 25), (.op (.bin .lss (.t 23) (.t 24))), none⟩])
  (.cond (.t 25)
  .skip
  (.exit 2)))
  (.seq
  (.block 3
  (.ops [] [
  ⟨(some 28), (.op (.mv (.t 7))), none⟩,
  ⟨(some 29), (.op (.mv (.t 0))), none⟩,
  ⟨(some 30), (.op (.mv (.t 9))), none⟩,
  ⟨(some 31), (.call (.k (.func (.func 97) #[] #[])) [(.t 29), (.t 30)]), none⟩,
  ⟨(some 32), (.op (.bin .add (.t 28) (.t 31))), none⟩,
  ⟨(some 7), (.op (.mv (.t 32))), none⟩]))
  (.ops [] [
  ⟨(some 26), (.op (.mv (.t 9))), none⟩,
  ⟨(some 27), (.op (.bin .add (.t 26) (.k (.int .i64 1)))), none⟩,
  ⟨(some 9), (.op (.mv (.t 27))), none⟩]))))))
  (.seq
  (.ops [] [
  ⟨(some 33), (.op (.mv (.t 7))), none⟩,
  ⟨(some 6), (.op (.mv (.t 33))), none⟩])
  .ret))))),
  [(.t 6)]⟩
theorem r_lanyardref03_days : resolveFn Tryd.prog 94 = some c_lanyardref03_days := by kernel_rfl

def c_lanyardref03_last : RFn :=
  ⟨16,
  (.seq
  (.ops [] [
  ⟨(some 4), (.op (.mv (.k (.int .i64 0)))), none⟩])
  (.seq
  (.seq
  (.ops [] [
  ⟨(some 5), (.op (.mv (.t 1))), none⟩,
  ⟨(some 6), (.op (.bin .eql (.t 5) (.k (.int .i64 2)))), none⟩,
  ⟨(some 7), (.op (.mv (.t 6))), none⟩,
  ⟨(some 8), (.op (.mv (.t 0))), (some (7, true))⟩,
  ⟨(some 9), (.call (.k (.func (.func 98) #[] #[])) [(.t 8)]), (some (7, true))⟩,
  ⟨(some 10), (.op (.pick (.t 7) (.t 9) (.k (.bool false)))), none⟩])
  (.cond (.t 10)
  (.seq
  (.ops [] [
  ⟨(some 4), (.op (.mv (.k (.int .i64 29)))), none⟩])
  .ret)
  .skip))
  (.seq
  (.ops [] [
  ⟨(some 11), (.op (.mkSl 12 [(.int .i64 0), (.int .i64 0), (.int .i64 0), (.int .i64 0), (.int .i64 0), (.int .i64 0), (.int .i64 0), (.int .i64 0), (.int .i64 0), (.int .i64 0), (.int .i64 0), (.int .i64 0)] [(0, (1, (.k (.int .i64 31)))), (1, (1, (.k (.int .i64 28)))), (2, (1, (.k (.int .i64 31)))), (3, (1, (.k (.int .i64 30)))), (4, (1, (.k (.int .i64 31)))), (5, (1, (.k (.int .i64 30)))), (6, (1, (.k (.int .i64 31)))), (7, (1, (.k (.int .i64 31)))), (8, (1, (.k (.int .i64 30)))), (9, (1, (.k (.int .i64 31)))), (10, (1, (.k (.int .i64 30)))), (11, (1, (.k (.int .i64 31))))])), none⟩,
  ⟨(some 12), (.op (.mv (.t 1))), none⟩,
  ⟨(some 13), (.op (.bin .sub (.t 12) (.k (.int .i64 1)))), none⟩,
  ⟨(some 14), (.op (.ixAddr 1 (.t 11) (.t 13))), none⟩,
  ⟨(some 15), (.op (.load1 (.t 14))), none⟩,
  ⟨(some 4), (.op (.mv (.t 15))), none⟩])
  .ret))),
  [(.t 4)]⟩
theorem r_lanyardref03_last : resolveFn Tryd.prog 97 = some c_lanyardref03_last := by kernel_rfl

def c_lanyardref03_two : RFn :=
  ⟨14,
  (.seq
  (.ops [] [
  ⟨(some 2), (.op (.mv (.k (.string ⟨#[]⟩)))), none⟩])
  (.seq
  (.ops [] [
  ⟨(some 3), (.op (.mv (.t 0))), none⟩,
  ⟨(some 4), (.op (.bin .quo (.t 3) (.k (.int .i64 10)))), none⟩,
  ⟨(some 5), (.op (.bin .rem (.t 4) (.k (.int .i64 10)))), none⟩,
  ⟨(some 6), (.op (.bin .add (.k (.int .i64 48)) (.t 5))), none⟩,
  ⟨(some 7), (.op (.toInt .u8 (.t 6))), none⟩,
  ⟨(some 8), (.op (.mv (.t 0))), none⟩,
  ⟨(some 9), (.op (.bin .rem (.t 8) (.k (.int .i64 10)))), none⟩,
  ⟨(some 10), (.op (.bin .add (.k (.int .i64 48)) (.t 9))), none⟩,
  ⟨(some 11), (.op (.toInt .u8 (.t 10))), none⟩,
  ⟨(some 12), (.op (.mkSl 2 [(.int .u8 0), (.int .u8 0)] [(0, (1, (.t 7))), (1, (1, (.t 11)))])), none⟩,
  ⟨(some 13), (.op (.b2s (.t 12))), none⟩,
  ⟨(some 2), (.op (.mv (.t 13))), none⟩])
  .ret)),
  [(.t 2)]⟩
theorem r_lanyardref03_two : resolveFn Tryd.prog 89 = some c_lanyardref03_two := by kernel_rfl

def c_lanyardref03_behind : RFn :=
  ⟨23,
  (.seq
  (.ops [] [
  ⟨(some 1), (.op (.box (.t 0))), none⟩,
  ⟨(some 2), (.op (.mv (.k (.string ⟨#[]⟩)))), none⟩])
  (.seq
  (.ops [
  ⟨(some 3), (.op (.ixAddrA 6 1 (.t 1) (.k (.int .i64 1)))), none⟩,
  ⟨(some 4), (.op (.load1 (.t 3))), none⟩,
  ⟨(some 5), (.call (.k (.func (.func 89) #[] #[])) [(.t 4)]), none⟩,
  ⟨(some 6), (.op (.ixAddrA 6 1 (.t 1) (.k (.int .i64 2)))), none⟩,
  ⟨(some 7), (.op (.load1 (.t 6))), none⟩,
  ⟨(some 8), (.call (.k (.func (.func 89) #[] #[])) [(.t 7)]), none⟩,
  ⟨(some 9), (.op (.bin .add (.t 5) (.t 8))), none⟩,
  ⟨(some 10), (.op (.ixAddrA 6 1 (.t 1) (.k (.int .i64 3)))), none⟩,
  ⟨(some 11), (.op (.load1 (.t 10))), none⟩,
  ⟨(some 12), (.call (.k (.func (.func 89) #[] #[])) [(.t 11)]), none⟩,
  ⟨(some 13), (.op (.bin .add (.t 9) (.t 12))), none⟩,
  ⟨(some 14), (.op (.ixAddrA 6 1 (.t 1) (.k (.int .i64 4)))), none⟩,
  ⟨(some 15), (.op (.load1 (.t 14))), none⟩,
  ⟨(some 16), (.call (.k (.func (.func 89) #[] #[])) [(.t 15)]), none⟩,
  ⟨(some 17), (.op (.bin .add (.t 13) (.t 16))), none⟩,
  ⟨(some 18), (.op (.ixAddrA 6 1 (.t 1) (.k (.int .i64 5)))), none⟩,
  ⟨(some 19), (.op (.load1 (.t 18))), none⟩,
  ⟨(some 20), (.call (.k (.func (.func 89) #[] #[])) [(.t 19)]), none⟩] [
  ⟨(some 21), (.op (.bin .add (.t 17) (.t 20))), none⟩,
  ⟨(some 22), (.op (.bin .add (.t 21) (.k (.string ⟨#[90]⟩)))), none⟩,
  ⟨(some 2), (.op (.mv (.t 22))), none⟩])
  .ret)),
  [(.t 2)]⟩
theorem r_lanyardref03_behind : resolveFn Tryd.prog 90 = some c_lanyardref03_behind := by kernel_rfl

def c_lanyardref03_part : RFn :=
  ⟨42,
  (.seq
  (.ops [] [
  ⟨(some 4), (.op (.mv (.k (.int .i64 0)))), none⟩])
  (.seq
  (.seq
  (.ops [] [
  ⟨(some 5), (.op (.mv (.t 0))), none⟩,
  ⟨(some 6), (.op (.mv (.t 1))), none⟩,
  ⟨(some 7), (.op (.ixStr (.t 5) (.t 6))), none⟩,
  ⟨(some 8), (.op (.bin .lss (.t 7) (.k (.int .u8 48)))), none⟩,
  ⟨(some 9), (.op (.mv (.t 8))), none⟩,
  ⟨(some 10), (.op (.mv (.t 0))), (some (9, false))⟩,
  ⟨(some 11), (.op (.mv (.t 1))), (some (9, false))⟩,
  ⟨(some 12), (.op (.ixStr (.t 10) (.t 11))), (some (9, false))⟩,
  ⟨(some 13), (.op (.bin .gtr (.t 12) (.k (.int .u8 57)))), (some (9, false))⟩,
  ⟨(some 14), (.op (.pick (.t 9) (.k (.bool true)) (.t 13))), none⟩,
  ⟨(some 15), (.op (.mv (.t 14))), none⟩,
  ⟨(some 16), (.op (.mv (.t 0))), (some (15, false))⟩,
  ⟨(some 17), (.op (.mv (.t 1))), (some (15, false))⟩,
  ⟨(some 18), (.op (.bin .add (.t 17) (.k (.int .i64 1)))), (some (15, false))⟩,
  ⟨(some 19), (.op (.ixStr (.t 16) (.t 18))), (some (15, false))⟩,
  ⟨(some 20), (.op (.bin .lss (.t 19) (.k (.int .u8 48)))), (some (15, false))⟩,
  ⟨(some 21), (.op (.pick (.t 15) (.k (.bool true)) (.t 20))), none⟩,
  ⟨(some 22), (.op (.mv (.t 21))), none⟩,
  ⟨(some 23), (.op (.mv (.t 0))), (some (22, false))⟩,
  ⟨(some 24), (.op (.mv (.t 1))), (some (22, false))⟩,
  ⟨(some 25), (.op (.bin .add (.t 24) (.k (.int .i64 1)))), (some (22, false))⟩,
  ⟨(some 26), (.op (.ixStr (.t 23) (.t 25))), (some (22, false))⟩,
  ⟨(some 27), (.op (.bin .gtr (.t 26) (.k (.int .u8 57)))), (some (22, false))⟩,
  ⟨(some 28), (.op (.pick (.t 22) (.k (.bool true)) (.t 27))), none⟩])
  (.cond (.t 28)
  (.seq
  (.ops [] [
  ⟨(some 4), (.op (.mv (.k (.int .i64 999)))), none⟩])
  .ret)
  .skip))
  (.seq
  (.ops [
  ⟨(some 29), (.op (.mv (.t 0))), none⟩,
  ⟨(some 30), (.op (.mv (.t 1))), none⟩,
  ⟨(some 31), (.op (.ixStr (.t 29) (.t 30))), none⟩,
  ⟨(some 32), (.op (.bin .sub (.t 31) (.k (.int .u8 48)))), none⟩,
  ⟨(some 33), (.op (.toInt .i64 (.t 32))), none⟩,
  ⟨(some 34), (.op (.bin .mul (.t 33) (.k (.int .i64 10)))), none⟩,
  ⟨(some 35), (.op (.mv (.t 0))), none⟩,
  ⟨(some 36), (.op (.mv (.t 1))), none⟩,
  ⟨(some 37), (.op (.bin .add (.t 36) (.k (.int .i64 1)))), none⟩,
  ⟨(some 38), (.op (.ixStr (.t 35) (.t 37))), none⟩,
  ⟨(some 39), (.op (.bin .sub (.t 38) (.k (.int .u8 48)))), none⟩,
  ⟨(some 40), (.op (.toInt .i64 (.t 39))), none⟩] [
  ⟨(some 41), (.op (.bin .add (.t 34) (.t 40))), none⟩,
  ⟨(some 4), (.op (.mv (.t 41))), none⟩])
  .ret))),
  [(.t 4)]⟩
theorem r_lanyardref03_part : resolveFn Tryd.prog 81 = some c_lanyardref03_part := by kernel_rfl

def c_lanyardref03_leap : RFn :=
  ⟨16,
  (.seq
  (.ops [] [
  ⟨(some 2), (.op (.mv (.k (.bool false)))), none⟩])
  (.seq
  (.ops [] [
  ⟨(some 3), (.op (.mv (.t 0))), none⟩,
  ⟨(some 4), (.op (.bin .rem (.t 3) (.k (.int .i64 4)))), none⟩,
  ⟨(some 5), (.op (.bin .eql (.t 4) (.k (.int .i64 0)))), none⟩,
  ⟨(some 6), (.op (.mv (.t 5))), none⟩,
  ⟨(some 7), (.op (.mv (.t 0))), (some (6, true))⟩,
  ⟨(some 8), (.op (.bin .rem (.t 7) (.k (.int .i64 100)))), (some (6, true))⟩,
  ⟨(some 9), (.op (.bin .neq (.t 8) (.k (.int .i64 0)))), (some (6, true))⟩,
  ⟨(some 10), (.op (.pick (.t 6) (.t 9) (.k (.bool false)))), none⟩,
  ⟨(some 11), (.op (.mv (.t 10))), none⟩,
  ⟨(some 12), (.op (.mv (.t 0))), (some (11, false))⟩,
  ⟨(some 13), (.op (.bin .rem (.t 12) (.k (.int .i64 400)))), (some (11, false))⟩,
  ⟨(some 14), (.op (.bin .eql (.t 13) (.k (.int .i64 0)))), (some (11, false))⟩,
  ⟨(some 15), (.op (.pick (.t 11) (.k (.bool true)) (.t 14))), none⟩,
  ⟨(some 2), (.op (.mv (.t 15))), none⟩])
  .ret)),
  [(.t 2)]⟩
theorem r_lanyardref03_leap : resolveFn Tryd.prog 98 = some c_lanyardref03_leap := by kernel_rfl

def d_clock_digits : List (List Nat) := [[], [], [0, 1], [], [3], [2, 2, 0, 1, 2], [4, 5, 0, 1, 2, 3, 4, 5], [6, 0, 1, 2, 3, 4, 5, 6]]
def q_clock_digits : List (Option (List Nat)) := [(some []), none, none, none, none, (some [2]), (some [4]), (some [])]
def c_clock_digits : RFn :=
  ⟨63,
  (.seq
  (.ops [] [
  ⟨(some 2), (.op (.mv (.k (.slice none 0 0)))), none⟩,
  ⟨(some 3), (.op (.mv (.k (.int .i64 0)))), none⟩,
  ⟨(some 4), (.op (.mv (.k (.bool false)))), none⟩])
  (.seq
  (.ops [] [
  ⟨(some 11), (.op (.mv (.t 0))), none⟩,
  ⟨(some 12), (.call (.k (.func (.func 96) #[] #[])) [(.t 11)]), none⟩,
  ⟨(some 10), (.op (.mv (.t 12))), none⟩,
  ⟨(some 13), (.op (.extract (.t 10) 0)), none⟩,
  ⟨(some 14), (.op (.extract (.t 10) 1)), none⟩,
  ⟨(some 5), (.op (.new [(.int .i64 0), (.int .i64 0), (.int .i64 0), (.int .i64 0), (.int .i64 0), (.int .i64 0)])), none⟩,
  ⟨none, (.op (.store 6 (.t 5) (.t 13))), none⟩,
  ⟨(some 6), (.op (.mv (.t 14))), none⟩])
  (.seq
  (.seq
  (.ops [] [
  ⟨(some 15), (.op (.mv (.t 6))), none⟩,
  ⟨(some 16), (.op (.un .not (.t 15))), none⟩])
  (.cond (.t 16)
  (.seq
  (.ops [] [
  ⟨(some 2), (.op (.mv (.k (.slice none 0 0)))), none⟩,
  ⟨(some 3), (.op (.mv (.k (.int .i64 0)))), none⟩,
  ⟨(some 4), (.op (.mv (.k (.bool false)))), none⟩])
  .ret)
  .skip))
  (.seq
  (.ops [] [
  ⟨(some 17), (.op (.ixAddrA 6 1 (.t 5) (.k (.int .i64 0)))), none⟩,
  ⟨(some 18), (.op (.load1 (.t 17))), none⟩,
  ⟨(some 19), (.op (.bin .quo (.t 18) (.k (.int .i64 1000)))), none⟩,
  ⟨(some 20), (.op (.bin .add (.k (.int .i64 48)) (.t 19))), none⟩,
  ⟨(some 21), (.op (.toInt .u8 (.t 20))), none⟩,
  ⟨(some 22), (.op (.ixAddrA 6 1 (.t 5) (.k (.int .i64 0)))), none⟩,
  ⟨(some 23), (.op (.load1 (.t 22))), none⟩,
  ⟨(some 24), (.op (.bin .quo (.t 23) (.k (.int .i64 100)))), none⟩,
  ⟨(some 25), (.op (.bin .rem (.t 24) (.k (.int .i64 10)))), none⟩,
  ⟨(some 26), (.op (.bin .add (.k (.int .i64 48)) (.t 25))), none⟩,
  ⟨(some 27), (.op (.toInt .u8 (.t 26))), none⟩,
  ⟨(some 28), (.op (.ixAddrA 6 1 (.t 5) (.k (.int .i64 0)))), none⟩,
  ⟨(some 29), (.op (.load1 (.t 28))), none⟩,
  ⟨(some 30), (.op (.bin .quo (.t 29) (.k (.int .i64 10)))), none⟩,
  ⟨(some 31), (.op (.bin .rem (.t 30) (.k (.int .i64 10)))), none⟩,
  ⟨(some 32), (.op (.bin .add (.k (.int .i64 48)) (.t 31))), none⟩,
  ⟨(some 33), (.op (.toInt .u8 (.t 32))), none⟩,
  ⟨(some 34), (.op (.ixAddrA 6 1 (.t 5) (.k (.int .i64 0)))), none⟩,
  ⟨(some 35), (.op (.load1 (.t 34))), none⟩,
  ⟨(some 36), (.op (.bin .rem (.t 35) (.k (.int .i64 10)))), none⟩,
  ⟨(some 37), (.op (.bin .add (.k (.int .i64 48)) (.t 36))), none⟩,
  ⟨(some 38), (.op (.toInt .u8 (.t 37))), none⟩,
  ⟨(some 39), (.op (.mkSl 4 [(.int .u8 0), (.int .u8 0), (.int .u8 0), (.int .u8 0)] [(0, (1, (.t 21))), (1, (1, (.t 27))), (2, (1, (.t 33))), (3, (1, (.t 38)))])), none⟩,
  ⟨(some 7), (.op (.mv (.t 39))), none⟩])
  (.seq
  (.seq
  (.ops [] [
  ⟨(some 40), (.op (.slArr 6 1 (.t 5) (some (.k (.int .i64 1))) none none)), none⟩,
  ⟨(some 41), (.op (.lenSl (.t 40))), none⟩,
  ⟨(some 42), (.op (.mv (.k (.int .i64 0)))), none⟩])
  (.block 0
  (.loop
  (.seq
  (.ops [] [
  ⟨(some 43), (.op (.bin .lss (.t 42) (.t 41))), none⟩])
  (.seq
  (.cond (.t 43)
  .skip
  (.exit 0))
  (.seq
  (.block 1
  (.seq
  (.ops [] [
  ⟨(some 44), (.op (.ixAddr 1 (.t 40) (.t 42))), none⟩,
  ⟨(some 45), (.op (.load1 (.t 44))), none⟩,
  ⟨(some 9), (.op (.mv (.t 45))), none⟩])
  (.ops [] [
  ⟨(some 46), (.op (.mv (.t 7))), none⟩,
  ⟨(some 47), (.op (.mv (.t 9))), none⟩,
  ⟨(some 48), (.op (.bin .quo (.t 47) (.k (.int .i64 10)))), none⟩,
  ⟨(some 49), (.op (.bin .add (.k (.int .i64 48)) (.t 48))), none⟩,
  ⟨(some 50), (.op (.toInt .u8 (.t 49))), none⟩,
  ⟨(some 51), (.op (.mv (.t 9))), none⟩,
  ⟨(some 52), (.op (.bin .rem (.t 51) (.k (.int .i64 10)))), none⟩,
  ⟨(some 53), (.op (.bin .add (.k (.int .i64 48)) (.t 52))), none⟩,
  ⟨(some 54), (.op (.toInt .u8 (.t 53))), none⟩,
  ⟨(some 55), (.op (.mkSl 2 [(.int .u8 0), (.int .u8 0)] [(0, (1, (.t 50))), (1, (1, (.t 54)))])), none⟩,
  ⟨(some 56), (.op (.append 1 1 (.t 46) (.t 55))), none⟩,
  ⟨(some 7), (.op (.mv (.t 56))), none⟩])))
  (.ops [] [
  ⟨(some 57), (.op (.bin .add (.t 42) (.k (.int .i64 1)))), none⟩,
  ⟨(some 42), (.op (.mv (.t 57))), none⟩])))))))
  (.seq
  (.tree [
  ⟨(some 58), (.op (.mv (.t 7))), none⟩,
  ⟨(some 59), (.op (.mkSl 1 [(.int .u8 0)] [(0, (1, (.k (.int .u8 90))))])), none⟩,
  ⟨(some 60), (.op (.append 1 1 (.t 58) (.t 59))), none⟩,
  ⟨(some 61), (.op (.ixAddrA 6 1 (.t 5) (.k (.int .i64 0)))), none⟩,
  ⟨(some 62), (.op (.load1 (.t 61))), none⟩,
  ⟨(some 2), (.op (.mv (.t 60))), none⟩,
  ⟨(some 3), (.op (.mv (.t 62))), none⟩,
  ⟨(some 4), (.op (.mv (.k (.bool true)))), none⟩] d_clock_digits q_clock_digits)
  .ret)))))),
  [(.t 2), (.t 3), (.t 4)]⟩
theorem r_clock_digits : resolveFn Tryd.prog 87 [10] = some c_clock_digits := by kernel_rfl

theorem t_clock_digits : nextL d_clock_digits q_clock_digits 0 = [0] ∧ nextL d_clock_digits q_clock_digits 1 = [1, 3] ∧ nextL d_clock_digits q_clock_digits 3 = [2, 3] ∧ nextL d_clock_digits q_clock_digits 7 = [5] ∧ nextL d_clock_digits q_clock_digits 9 = [1, 4] ∧ nextL d_clock_digits q_clock_digits 11 = [2, 4] ∧ nextL d_clock_digits q_clock_digits 15 = [5] ∧ nextL d_clock_digits q_clock_digits 25 = [1] ∧ nextL d_clock_digits q_clock_digits 27 = [2] ∧ nextL d_clock_digits q_clock_digits 31 = [5] ∧ nextL d_clock_digits q_clock_digits 39 = [3] ∧ nextL d_clock_digits q_clock_digits 47 = [4] ∧ nextL d_clock_digits q_clock_digits 63 = [6] ∧ nextL d_clock_digits q_clock_digits 127 = [7] ∧ nextL d_clock_digits q_clock_digits 255 = [] := by decide +kernel

def c_clock_Read : RFn :=
  ⟨105,
  (.seq
  (.ops [] [
  ⟨(some 4), (.op (.mv (.k (.int .i64 0)))), none⟩,
  ⟨(some 5), (.op (.mv (.k (.bool false)))), none⟩])
  (.seq
  (.ops [] [
  ⟨(some 6), (.op (.mv (.k (.int .i64 13)))), none⟩])
  (.seq
  (.seq
  (.ops [] [
  ⟨(some 9), (.op (.mv (.t 1))), none⟩])
  (.cond (.t 9)
  (.ops [] [
  ⟨(some 6), (.op (.mv (.k (.int .i64 15)))), none⟩])
  .skip))
  (.seq
  (.seq
  (.ops [] [
  ⟨(some 10), (.op (.mv (.t 0))), none⟩,
  ⟨(some 11), (.op (.lenStr (.t 10))), none⟩,
  ⟨(some 12), (.op (.mv (.t 6))), none⟩,
  ⟨(some 13), (.op (.bin .neq (.t 11) (.t 12))), none⟩,
  ⟨(some 14), (.op (.mv (.t 13))), none⟩,
  ⟨(some 15), (.op (.mv (.t 0))), (some (14, false))⟩,
  ⟨(some 16), (.op (.mv (.t 6))), (some (14, false))⟩,
  ⟨(some 17), (.op (.bin .sub (.t 16) (.k (.int .i64 1)))), (some (14, false))⟩,
  ⟨(some 18), (.op (.ixStr (.t 15) (.t 17))), (some (14, false))⟩,
  ⟨(some 19), (.op (.bin .neq (.t 18) (.k (.int .u8 90)))), (some (14, false))⟩,
  ⟨(some 20), (.op (.pick (.t 14) (.k (.bool true)) (.t 19))), none⟩])
  (.cond (.t 20)
  (.seq
  (.ops [] [
  ⟨(some 4), (.op (.mv (.k (.int .i64 0)))), none⟩,
  ⟨(some 5), (.op (.mv (.k (.bool false)))), none⟩])
  .ret)
  .skip))
  (.seq
  (.ops [] [
  ⟨(some 21), (.op (.mv (.t 0))), none⟩,
  ⟨(some 22), (.op (.s2b (.t 21))), none⟩,
  ⟨(some 23), (.op (.mv (.t 6))), none⟩,
  ⟨(some 24), (.op (.bin .sub (.t 23) (.k (.int .i64 1)))), none⟩,
  ⟨(some 25), (.op (.mv (.t 6))), none⟩,
  ⟨(some 26), (.op (.bin .sub (.t 25) (.k (.int .i64 1)))), none⟩,
  ⟨(some 27), (.op (.sl 1 (.t 22) none (some (.t 24)) (some (.t 26)))), none⟩,
  ⟨(some 7), (.op (.mv (.t 27))), none⟩])
  (.seq
  (.ops [] [
  ⟨(some 8), (.op (.mv (.k (.slice none 0 0)))), none⟩])
  (.seq
  (.block 0
  (.loop
  (.seq
  (.seq
  (.ops [] [
  ⟨(some 28), (.op (.mv (.t 7))), none⟩,
  ⟨(some 29), (.op (.lenSl (.t 28))), none⟩,
  ⟨(some 30), (.op (.bin .gtr (.t 29) (.k (.int .i64 0)))), none⟩])
  (.cond (.t 30)
  .skip
  (.exit 0)))
  (.seq
  (.block 1
  (.seq
  (.seq
  (.ops [] [
  ⟨(some 33), (.op (.mv (.t 7))), none⟩,
  ⟨(some 34), (.op (.ixAddr 1 (.t 33) (.k (.int .i64 0)))), none⟩,
  ⟨(some 35), (.op (.load1 (.t 34))), none⟩,
  ⟨(some 36), (.op (.bin .lss (.t 35) (.k (.int .u8 48)))), none⟩,
  ⟨(some 37), (.op (.mv (.t 36))), none⟩,
  ⟨(some 38), (.op (.mv (.t 7))), (some (37, false))⟩,
  ⟨(some 39), (.op (.ixAddr 1 (.t 38) (.k (.int .i64 0)))), (some (37, false))⟩,
  ⟨(some 40), (.op (.load1 (.t 39))), (some (37, false))⟩,
  ⟨(some 41), (.op (.bin .gtr (.t 40) (.k (.int .u8 57)))), (some (37, false))⟩,
  ⟨(some 42), (.op (.pick (.t 37) (.k (.bool true)) (.t 41))), none⟩,
  ⟨(some 43), (.op (.mv (.t 42))), none⟩,
  ⟨(some 44), (.op (.mv (.t 7))), (some (43, false))⟩,
  ⟨(some 45), (.op (.ixAddr 1 (.t 44) (.k (.int .i64 1)))), (some (43, false))⟩,
  ⟨(some 46), (.op (.load1 (.t 45))), (some (43, false))⟩,
  ⟨(some 47), (.op (.bin .lss (.t 46) (.k (.int .u8 48)))), (some (43, false))⟩,
  ⟨(some 48), (.op (.pick (.t 43) (.k (.bool true)) (.t 47))), none⟩,
  ⟨(some 49), (.op (.mv (.t 48))), none⟩,
  ⟨(some 50), (.op (.mv (.t 7))), (some (49, false))⟩,
  ⟨(some 51), (.op (.ixAddr 1 (.t 50) (.k (.int .i64 1)))), (some (49, false))⟩,
  ⟨(some 52), (.op (.load1 (.t 51))), (some (49, false))⟩,
  ⟨(some 53), (.op (.bin .gtr (.t 52) (.k (.int .u8 57)))), (some (49, false))⟩,
  ⟨(some 54), (.op (.pick (.t 49) (.k (.bool true)) (.t 53))), none⟩])
  (.cond (.t 54)
  (.seq
  (.ops [] [
  ⟨(some 4), (.op (.mv (.k (.int .i64 0)))), none⟩,
  ⟨(some 5), (.op (.mv (.k (.bool false)))), none⟩])
  .ret)
  .skip))
  (.ops [
  ⟨(some 55), (.op (.mv (.t 8))), none⟩,
  ⟨(some 56), (.op (.mv (.t 7))), none⟩,
  ⟨(some 57), (.op (.ixAddr 1 (.t 56) (.k (.int .i64 0)))), none⟩,
  ⟨(some 58), (.op (.load1 (.t 57))), none⟩,
  ⟨(some 59), (.op (.bin .sub (.t 58) (.k (.int .u8 48)))), none⟩,
  ⟨(some 60), (.op (.toInt .i64 (.t 59))), none⟩,
  ⟨(some 61), (.op (.bin .mul (.t 60) (.k (.int .i64 10)))), none⟩,
  ⟨(some 62), (.op (.mv (.t 7))), none⟩,
  ⟨(some 63), (.op (.ixAddr 1 (.t 62) (.k (.int .i64 1)))), none⟩,
  ⟨(some 64), (.op (.load1 (.t 63))), none⟩,
  ⟨(some 65), (.op (.bin .sub (.t 64) (.k (.int .u8 48)))), none⟩,
  ⟨(some 66), (.op (.toInt .i64 (.t 65))), none⟩,
  ⟨(some 67), (.op (.bin .add (.t 61) (.t 66))), none⟩,
  ⟨(some 68), (.op (.mkSl 1 [(.int .i64 0)] [(0, (1, (.t 67)))])), none⟩] [
  ⟨(some 69), (.op (.append 1 8 (.t 55) (.t 68))), none⟩,
  ⟨(some 8), (.op (.mv (.t 69))), none⟩])))
  (.ops [] [
  ⟨(some 31), (.op (.mv (.t 7))), none⟩,
  ⟨(some 32), (.op (.sl 1 (.t 31) (some (.k (.int .i64 2))) none none)), none⟩,
  ⟨(some 7), (.op (.mv (.t 32))), none⟩])))))
  (.seq
  (.block 2
  (.seq
  (.ops [] [
  ⟨(some 76), (.op (.mv (.t 1))), none⟩,
  ⟨(some 75), (.op (.mv (.t 76))), none⟩])
  (.cond (.t 75)
  (.ops [
  ⟨(some 77), (.op (.mv (.t 8))), none⟩,
  ⟨(some 78), (.op (.ixAddr 1 (.t 77) (.k (.int .i64 0)))), none⟩,
  ⟨(some 79), (.op (.load1 (.t 78))), none⟩,
  ⟨(some 80), (.op (.bin .mul (.t 79) (.k (.int .i64 100)))), none⟩,
  ⟨(some 81), (.op (.mv (.t 8))), none⟩,
  ⟨(some 82), (.op (.ixAddr 1 (.t 81) (.k (.int .i64 1)))), none⟩,
  ⟨(some 83), (.op (.load1 (.t 82))), none⟩,
  ⟨(some 84), (.op (.bin .add (.t 80) (.t 83))), none⟩,
  ⟨(some 85), (.op (.mkSl 1 [(.int .i64 0)] [(0, (1, (.t 84)))])), none⟩,
  ⟨(some 86), (.op (.mv (.t 8))), none⟩,
  ⟨(some 87), (.op (.sl 1 (.t 86) (some (.k (.int .i64 2))) none none)), none⟩] [
  ⟨(some 88), (.op (.append 1 8 (.t 85) (.t 87))), none⟩,
  ⟨(some 8), (.op (.mv (.t 88))), none⟩])
  (.seq
  (.ops [] [
  ⟨(some 90), (.op (.mv (.t 8))), none⟩,
  ⟨(some 91), (.op (.ixAddr 1 (.t 90) (.k (.int .i64 0)))), none⟩,
  ⟨(some 92), (.op (.load1 (.t 91))), none⟩,
  ⟨(some 93), (.op (.bin .lss (.t 92) (.k (.int .i64 50)))), none⟩,
  ⟨(some 89), (.op (.mv (.t 93))), none⟩])
  (.cond (.t 89)
  (.ops [] [
  ⟨(some 94), (.op (.mv (.t 8))), none⟩,
  ⟨(some 95), (.op (.ixAddr 1 (.t 94) (.k (.int .i64 0)))), none⟩,
  ⟨(some 96), (.op (.load1 (.t 95))), none⟩,
  ⟨(some 97), (.op (.bin .add (.t 96) (.k (.int .i64 2000)))), none⟩,
  ⟨(some 98), (.op (.ixAddr 1 (.t 94) (.k (.int .i64 0)))), none⟩,
  ⟨none, (.op (.store 1 (.t 98) (.t 97))), none⟩])
  (.ops [] [
  ⟨(some 70), (.op (.mv (.t 8))), none⟩,
  ⟨(some 71), (.op (.ixAddr 1 (.t 70) (.k (.int .i64 0)))), none⟩,
  ⟨(some 72), (.op (.load1 (.t 71))), none⟩,
  ⟨(some 73), (.op (.bin .add (.t 72) (.k (.int .i64 1900)))), none⟩,
  ⟨(some 74), (.op (.ixAddr 1 (.t 70) (.k (.int .i64 0)))), none⟩,
  ⟨none, (.op (.store 1 (.t 74) (.t 73))), none⟩]))))))
  (.seq
  (.ops [] [
  ⟨(some 99), (.op (.mv (.t 8))), none⟩,
  ⟨(some 100), (.xop (.s2a 6 (.t 99))), none⟩,
  ⟨(some 101), (.op (.loadN 6 (.t 100))), none⟩,
  ⟨(some 102), (.call (.k (.func (.func 80) #[] #[])) [(.t 101)]), none⟩,
  ⟨(some 103), (.op (.extract (.t 102) 0)), none⟩,
  ⟨(some 104), (.op (.extract (.t 102) 1)), none⟩,
  ⟨(some 4), (.op (.mv (.t 103))), none⟩,
  ⟨(some 5), (.op (.mv (.t 104))), none⟩])
  .ret))))))))),
  [(.t 4), (.t 5)]⟩
theorem r_clock_Read : resolveFn Tryd.prog 65 = some c_clock_Read := by kernel_rfl

end Go.Ga

namespace Go.Ga
open Go Go.Proofs
set_option linter.unusedSimpArgs false
set_option linter.unusedVariables false

def leapB (y : Int) : Bool := (decide (y.tmod 4 = 0) && !decide (y.tmod 100 = 0)) || decide (y.tmod 400 = 0)
def mtab : List Int := [31, 28, 31, 30, 31, 30, 31, 31, 30, 31, 30, 31]
/-- A month's last day. -/
def lastI (y m : Int) : Int := if m = 2 ∧ leapB y = true then 29 else mtab.getD (m - 1).toNat 0

theorem ct_within {nx : Nat} {gt : Nat → Option Blk} {n a z : Int} : Ct Tryd.prog 91 [.int .i64 n, .int .i64 a, .int .i64 z] nx gt fun v _ _ => v = .bool (decide (a ≤ n) && decide (n ≤ z)) := by
  refine Ct.of hmx r_clock_within (by simp [c_clock_within]) fun b hb => ?_
  by_cases h : a ≤ n <;> by_cases h' : n ≤ z <;> simp only [c_clock_within, ↓gaW, ↓gaC, ↓gaN, gaP, Nat.reduceEqDiff, Nat.reduceLeDiff, Nat.reduceAdd, Nat.reduceSub, Nat.reduceMul, Int.reduceLT, Int.reduceLE, Int.reduceEq, Int.reduceToNat, Int.reduceAdd, Int.reduceSub, Int.reduceMul, reduceCtorEq, ↓reduceIte, gaE, h, h', decide_true, decide_false, Bool.and_true, Bool.and_false, Bool.true_and, Bool.false_and] <;> exact ⟨by omega, fun _ _ => trivial⟩

theorem ct_leap {nx : Nat} {gt : Nat → Option Blk} {y : Int} : Ct Tryd.prog 98 [.int .i64 y] nx gt fun v _ _ => v = .bool (leapB y) := by
  refine Ct.of hmx r_lanyardref03_leap (by simp [c_lanyardref03_leap]) fun b hb => ?_
  by_cases h4 : y.tmod 4 = 0 <;> by_cases h100 : y.tmod 100 = 0 <;> by_cases h400 : y.tmod 400 = 0 <;>
    simp only [c_lanyardref03_leap, ↓gaW, ↓gaC, ↓gaN, gaP, Nat.reduceEqDiff, Nat.reduceLeDiff, Nat.reduceAdd, Nat.reduceSub, Nat.reduceMul, Int.reduceLT, Int.reduceLE, Int.reduceEq, Int.reduceToNat, Int.reduceAdd, Int.reduceSub, Int.reduceMul, reduceCtorEq, ↓reduceIte, gaE, h4, h100, h400, decide_true, decide_false, leapB, Bool.and_true, Bool.and_false, Bool.true_and, Bool.false_and, Bool.or_true, Bool.or_false, Bool.true_or, Bool.false_or] <;> exact ⟨by omega, fun _ _ => trivial⟩

theorem ct_last {nx : Nat} {gt : Nat → Option Blk} {y m : Int} (h1 : 1 ≤ m) (h2 : m ≤ 12) : Ct Tryd.prog 92 [.int .i64 y, .int .i64 m] nx gt fun v _ _ => v = .int .i64 (lastI y m) := by
  refine Ct.of hmx r_clock_last (by simp [c_clock_last]) fun b hb => ?_
  have hm : m = 2 ∨ m = 1 ∨ m = 3 ∨ m = 4 ∨ m = 5 ∨ m = 6 ∨ m = 7 ∨ m = 8 ∨ m = 9 ∨ m = 10 ∨ m = 11 ∨ m = 12 := by omega
  rcases hm with rfl | hm
  · by_cases h4 : y.tmod 4 = 0 <;> by_cases h100 : y.tmod 100 = 0 <;> by_cases h400 : y.tmod 400 = 0 <;>
      simp only [c_clock_last, ↓gaW, ↓gaC, ↓gaN, gaP, Nat.reduceEqDiff, Nat.reduceLeDiff, Nat.reduceAdd, Nat.reduceSub, Nat.reduceMul, Int.reduceLT, Int.reduceLE, Int.reduceEq, Int.reduceToNat, Int.reduceAdd, Int.reduceSub, Int.reduceMul, reduceCtorEq, ↓reduceIte, gaE, List.getD_cons_zero, List.getD_cons_succ, fillL, splice, List.take_zero, List.drop_zero, List.drop_succ_cons, List.take_succ_cons, List.drop_nil, List.take_nil, h4, h100, h400, decide_true, decide_false, i64_w 1 (by omega), u8V] <;>
      (repeat refine And.intro (by first | omega | simp) ?_) <;> (try exact ⟨by omega, fun _ _ => trivial, by simp [lastI, leapB, h4, h100, h400, mtab]⟩) <;> (try exact ⟨fun _ _ => trivial, by simp [lastI, leapB, h4, h100, h400, mtab]⟩) <;> simp [lastI, leapB, h4, h100, h400, mtab]
  · rcases hm with rfl | rfl | rfl | rfl | rfl | rfl | rfl | rfl | rfl | rfl | rfl <;>
      simp only [c_clock_last, ↓gaW, ↓gaC, ↓gaN, gaP, Nat.reduceEqDiff, Nat.reduceLeDiff, Nat.reduceAdd, Nat.reduceSub, Nat.reduceMul, Int.reduceLT, Int.reduceLE, Int.reduceEq, Int.reduceToNat, Int.reduceAdd, Int.reduceSub, Int.reduceMul, reduceCtorEq, ↓reduceIte, gaE, List.getD_cons_zero, List.getD_cons_succ, fillL, splice, List.take_zero, List.drop_zero, List.drop_succ_cons, List.take_succ_cons, List.drop_nil, List.take_nil, i64_w _ (show (-9223372036854775808 : Int) ≤ 0 ∧ (0 : Int) ≤ 9223372036854775807 by omega), i64_w 2 (by omega), i64_w 3 (by omega), i64_w 4 (by omega), i64_w 5 (by omega), i64_w 6 (by omega), i64_w 7 (by omega), i64_w 8 (by omega), i64_w 9 (by omega), i64_w 10 (by omega), i64_w 11 (by omega)] <;>
      (repeat refine And.intro (by first | omega | simp) ?_) <;> simp [lastI, mtab]
end Go.Ga

namespace Go.Ga
open Go Go.Proofs
set_option linter.unusedSimpArgs false
set_option linter.unusedVariables false

theorem ct_rlast {nx : Nat} {gt : Nat → Option Blk} {y m : Int} (h1 : 1 ≤ m) (h2 : m ≤ 12) : Ct Tryd.prog 97 [.int .i64 y, .int .i64 m] nx gt fun v _ _ => v = .int .i64 (lastI y m) := by
  refine Ct.of hmx r_lanyardref03_last (by simp [c_lanyardref03_last]) fun b hb => ?_
  have e2 : ∀ k, k < 12 → ([Value.int .i64 31, .int .i64 28, .int .i64 31, .int .i64 30, .int .i64 31, .int .i64 30, .int .i64 31, .int .i64 31, .int .i64 30, .int .i64 31, .int .i64 30, .int .i64 31] : List Value).getD k undef = .int .i64 (mtab.getD k 0) := by
    intro j hj
    rcases j with _ | _ | _ | _ | _ | _ | _ | _ | _ | _ | _ | _ | j <;> first | rfl | omega
  by_cases hm : m = 2
  · subst hm
    simp only [c_lanyardref03_last, ↓gaW, ↓gaC, ↓gaN, gaP, Nat.reduceEqDiff, Nat.reduceLeDiff, Nat.reduceAdd, Nat.reduceSub, Nat.reduceMul, Int.reduceLT, Int.reduceLE, Int.reduceEq, Int.reduceToNat, Int.reduceAdd, Int.reduceSub, Int.reduceMul, reduceCtorEq, ↓reduceIte]
    refine callK_of ct_leap (fun v nx1 gt1 hle1 hk1 hC => ?_) (by omega)
    subst hC
    simp only [↓gaW, ↓gaC, ↓gaN, gaP, Nat.reduceEqDiff, Nat.reduceLeDiff, Nat.reduceAdd, Nat.reduceSub, Nat.reduceMul, Int.reduceLT, Int.reduceLE, Int.reduceEq, Int.reduceToNat, Int.reduceAdd, Int.reduceSub, Int.reduceMul, reduceCtorEq, ↓reduceIte]
    refine condK_of (fun h => ?_) fun h => ?_
    · simp only [↓gaW, ↓gaC, ↓gaN, gaP, Nat.reduceEqDiff, Nat.reduceLeDiff, Nat.reduceAdd, Nat.reduceSub, Nat.reduceMul, Int.reduceLT, Int.reduceLE, Int.reduceEq, Int.reduceToNat, Int.reduceAdd, Int.reduceSub, Int.reduceMul, reduceCtorEq, ↓reduceIte, gaE]
      exact ⟨by omega, hk1, by simp [lastI, h]⟩
    · simp only [↓gaW, ↓gaC, ↓gaN, gaP, Nat.reduceEqDiff, Nat.reduceLeDiff, Nat.reduceAdd, Nat.reduceSub, Nat.reduceMul, Int.reduceLT, Int.reduceLE, Int.reduceEq, Int.reduceToNat, Int.reduceAdd, Int.reduceSub, Int.reduceMul, reduceCtorEq, ↓reduceIte, gaE, List.getD_cons_zero, List.getD_cons_succ, fillL, splice, List.take_zero, List.drop_zero, List.drop_succ_cons, List.take_succ_cons, List.drop_nil, List.take_nil, i64_w 1 (by omega), e2 1 (by omega)]
      repeat refine And.intro (by omega) ?_
      refine ⟨fun i hi => by rw [if_neg (by omega), hk1 i hi], ?_⟩
      simp [lastI, h]
  · obtain ⟨k, hk⟩ : ∃ k : Nat, m = (k : Int) + 1 := ⟨(m - 1).toNat, by omega⟩
    subst hk
    have e1 : ((k : Int) + 1 - 1) = (k : Int) := by omega
    simp only [c_lanyardref03_last, ↓gaW, ↓gaC, ↓gaN, gaP, Nat.reduceEqDiff, Nat.reduceLeDiff, Nat.reduceAdd, Nat.reduceSub, Nat.reduceMul, Int.reduceLT, Int.reduceLE, Int.reduceEq, Int.reduceToNat, Int.reduceAdd, Int.reduceSub, Int.reduceMul, reduceCtorEq, ↓reduceIte, gaE, List.getD_cons_zero, List.getD_cons_succ, fillL, splice, List.take_zero, List.drop_zero, List.drop_succ_cons, List.take_succ_cons, List.drop_nil, List.take_nil, hm, decide_false, e1, i64_w (k : Int) (by omega), e2 k (by omega)]
    repeat refine And.intro (by omega) ?_
    refine ⟨fun i hi => by rw [if_neg (by omega)], ?_⟩
    rw [lastI, if_neg (by simp [hm]), e1, Int.toNat_natCast]

/-! ### Days by counting -/
def yearsR : Nat → Int
  | 0 => 0
  | k + 1 => yearsR k + 365 + (if leapB (1950 + (k : Nat)) then 1 else 0)
def monthsR (y : Int) : Nat → Int
  | 0 => 0
  | k + 1 => monthsR y k + lastI y ((k : Nat) + 1)
def dayR (y m d : Int) : Int := d - 1 + yearsR (y - 1950).toNat + monthsR y (m - 1).toNat
theorem yearsR_bd (k : Nat) : 0 ≤ yearsR k ∧ yearsR k ≤ 366 * (k : Int) := by
  induction k with
  | zero => exact ⟨by decide, by decide⟩
  | succ k ih => simp only [yearsR]; split <;> omega
theorem lastI_bd {y m : Int} (h1 : 1 ≤ m) (h2 : m ≤ 12) : 28 ≤ lastI y m ∧ lastI y m ≤ 31 := by
  unfold lastI
  split
  · omega
  · have : ∀ k, k < 12 → 28 ≤ mtab.getD k 0 ∧ mtab.getD k 0 ≤ 31 := by decide
    exact this _ (by omega)
theorem monthsR_bd (y : Int) (k : Nat) (h : k ≤ 12) : 0 ≤ monthsR y k ∧ monthsR y k ≤ 31 * (k : Int) := by
  induction k with
  | zero => exact ⟨by simp [monthsR], by simp [monthsR]⟩
  | succ k ih =>
    have := lastI_bd (y := y) (m := (k : Nat) + 1) (by omega) (by omega)
    have := ih (by omega)
    simp only [monthsR]; omega

theorem ct_days {nx : Nat} {gt : Nat → Option Blk} {y m d : Int} (hy : 1950 ≤ y ∧ y ≤ 2200) (hm : 1 ≤ m ∧ m ≤ 12) (hd : 1 ≤ d ∧ d ≤ 31) : Ct Tryd.prog 94 [.int .i64 y, .int .i64 m, .int .i64 d] nx gt fun v _ _ => v = .int .i64 (dayR y m d) := by
  refine Ct.of hmx r_lanyardref03_days (by simp [c_lanyardref03_days]) fun b hb => ?_
  simp only [c_lanyardref03_days, ↓gaW, ↓gaC, ↓gaN, gaP, Nat.reduceEqDiff, Nat.reduceLeDiff, Nat.reduceAdd, Nat.reduceSub, Nat.reduceMul, Int.reduceLT, Int.reduceLE, Int.reduceEq, Int.reduceToNat, Int.reduceAdd, Int.reduceSub, Int.reduceMul, reduceCtorEq, ↓reduceIte, i64_w (d - 1) (by omega)]
  refine loop_of (fun j f m0 => ∃ (k x : Nat) (g : Nat → Option Blk), j = 300 - k ∧ 1950 + (k : Int) ≤ y ∧ f 0 = .int .i64 y ∧ f 1 = .int .i64 m ∧ f 8 = .int .i64 (1950 + (k : Nat)) ∧ f 7 = .int .i64 (d - 1 + yearsR k) ∧ m0 = ⟨x, b, g⟩ ∧ nx ≤ x ∧ ∀ i, i < nx → g i = gt i) 300
    ⟨0, nx, gt, by omega, by omega, rfl, rfl, rfl, by simp [putR, yearsR], rfl, by omega, fun _ _ => rfl⟩ ?_
  rintro j f m0 ⟨k, x, g, rfl, hk, h0, h1, h8, h7, rfl, hx, hg⟩
  have yb := yearsR_bd k
  simp only [↓gaW, ↓gaC, ↓gaN, gaP, Nat.reduceEqDiff, Nat.reduceLeDiff, Nat.reduceAdd, Nat.reduceSub, Nat.reduceMul, Int.reduceLT, Int.reduceLE, Int.reduceEq, Int.reduceToNat, Int.reduceAdd, Int.reduceSub, Int.reduceMul, reduceCtorEq, ↓reduceIte, h0, h8]
  refine condK_dec (fun hlt => ?_) fun hge => ?_
  · simp only [↓gaW, ↓gaC, ↓gaN, gaP, Nat.reduceEqDiff, Nat.reduceLeDiff, Nat.reduceAdd, Nat.reduceSub, Nat.reduceMul, Int.reduceLT, Int.reduceLE, Int.reduceEq, Int.reduceToNat, Int.reduceAdd, Int.reduceSub, Int.reduceMul, reduceCtorEq, ↓reduceIte, h0, h7, h8, i64_w (d - 1 + yearsR k + 365) (by omega)]
    refine callK_of ct_leap (fun v nx1 gt1 hle1 hk1 hC => ?_) (by omega)
    subst hC
    simp only [↓gaW, ↓gaC, ↓gaN, gaP, Nat.reduceEqDiff, Nat.reduceLeDiff, Nat.reduceAdd, Nat.reduceSub, Nat.reduceMul, Int.reduceLT, Int.reduceLE, Int.reduceEq, Int.reduceToNat, Int.reduceAdd, Int.reduceSub, Int.reduceMul, reduceCtorEq, ↓reduceIte]
    refine condK_of (fun hL => ?_) fun hL => ?_
    · simp only [↓gaW, ↓gaC, ↓gaN, gaP, Nat.reduceEqDiff, Nat.reduceLeDiff, Nat.reduceAdd, Nat.reduceSub, Nat.reduceMul, Int.reduceLT, Int.reduceLE, Int.reduceEq, Int.reduceToNat, Int.reduceAdd, Int.reduceSub, Int.reduceMul, reduceCtorEq, ↓reduceIte, h8, i64_w (d - 1 + yearsR k + 365 + 1) (by omega), i64_w (1950 + (k : Int) + 1) (by omega)]
      refine ⟨300 - (k + 1), by omega, k + 1, nx1, gt1, rfl, by omega, h0, h1, ?_, ?_, rfl, by omega, fun i hi => by rw [hk1 i (by omega), hg i hi]⟩
      · simp [putR]; omega
      · simp [putR, yearsR, hL]; omega
    · simp only [↓gaW, ↓gaC, ↓gaN, gaP, Nat.reduceEqDiff, Nat.reduceLeDiff, Nat.reduceAdd, Nat.reduceSub, Nat.reduceMul, Int.reduceLT, Int.reduceLE, Int.reduceEq, Int.reduceToNat, Int.reduceAdd, Int.reduceSub, Int.reduceMul, reduceCtorEq, ↓reduceIte, h8, i64_w (1950 + (k : Int) + 1) (by omega)]
      refine ⟨300 - (k + 1), by omega, k + 1, nx1, gt1, rfl, by omega, h0, h1, ?_, ?_, rfl, by omega, fun i hi => by rw [hk1 i (by omega), hg i hi]⟩
      · simp [putR]; omega
      · simp [putR, yearsR, hL]; omega
  · have hky : (y - 1950).toNat = k := by omega
    simp only [↓gaW, ↓gaC, ↓gaN, gaP, Nat.reduceEqDiff, Nat.reduceLeDiff, Nat.reduceAdd, Nat.reduceSub, Nat.reduceMul, Int.reduceLT, Int.reduceLE, Int.reduceEq, Int.reduceToNat, Int.reduceAdd, Int.reduceSub, Int.reduceMul, reduceCtorEq, ↓reduceIte]
    refine loop_of (fun j f m0 => ∃ (t x : Nat) (g : Nat → Option Blk), j = 20 - t ∧ 1 + (t : Int) ≤ m ∧ f 0 = .int .i64 y ∧ f 1 = .int .i64 m ∧ f 9 = .int .i64 (1 + (t : Nat)) ∧ f 7 = .int .i64 (d - 1 + yearsR k + monthsR y t) ∧ m0 = ⟨x, b, g⟩ ∧ nx ≤ x ∧ ∀ i, i < nx → g i = gt i) 20
      ⟨0, x, g, by omega, by omega, h0, h1, rfl, by simpa [putR, monthsR] using h7, rfl, hx, hg⟩ ?_
    rintro j f m0 ⟨t, x, g, rfl, ht, h0, h1, h9, h7, rfl, hx, hg⟩
    have mb := monthsR_bd y t (by omega)
    simp only [↓gaW, ↓gaC, ↓gaN, gaP, Nat.reduceEqDiff, Nat.reduceLeDiff, Nat.reduceAdd, Nat.reduceSub, Nat.reduceMul, Int.reduceLT, Int.reduceLE, Int.reduceEq, Int.reduceToNat, Int.reduceAdd, Int.reduceSub, Int.reduceMul, reduceCtorEq, ↓reduceIte, h1, h9]
    refine condK_dec (fun hlt => ?_) fun hge => ?_
    · simp only [↓gaW, ↓gaC, ↓gaN, gaP, Nat.reduceEqDiff, Nat.reduceLeDiff, Nat.reduceAdd, Nat.reduceSub, Nat.reduceMul, Int.reduceLT, Int.reduceLE, Int.reduceEq, Int.reduceToNat, Int.reduceAdd, Int.reduceSub, Int.reduceMul, reduceCtorEq, ↓reduceIte, h0, h7, h9]
      have lb := lastI_bd (y := y) (m := 1 + (t : Nat)) (by omega) (by omega)
      refine callK_of (ct_rlast (y := y) (m := 1 + (t : Nat)) (by omega) (by omega)) (fun v nx1 gt1 hle1 hk1 hC => ?_) (by omega)
      subst hC
      simp only [↓gaW, ↓gaC, ↓gaN, gaP, Nat.reduceEqDiff, Nat.reduceLeDiff, Nat.reduceAdd, Nat.reduceSub, Nat.reduceMul, Int.reduceLT, Int.reduceLE, Int.reduceEq, Int.reduceToNat, Int.reduceAdd, Int.reduceSub, Int.reduceMul, reduceCtorEq, ↓reduceIte, h9, i64_w (d - 1 + yearsR k + monthsR y t + lastI y (1 + (t : Int))) (by omega), i64_w (1 + (t : Int) + 1) (by omega)]
      refine ⟨20 - (t + 1), by omega, t + 1, nx1, gt1, rfl, by omega, h0, h1, ?_, ?_, rfl, by omega, fun i hi => by rw [hk1 i (by omega), hg i hi]⟩
      · simp [putR]; omega
      · simp [putR, monthsR]
        rw [Int.add_comm (t : Int) 1]; omega
    · have htm : (m - 1).toNat = t := by omega
      simp only [↓gaW, ↓gaC, ↓gaN, gaP, Nat.reduceEqDiff, Nat.reduceLeDiff, Nat.reduceAdd, Nat.reduceSub, Nat.reduceMul, Int.reduceLT, Int.reduceLE, Int.reduceEq, Int.reduceToNat, Int.reduceAdd, Int.reduceSub, Int.reduceMul, reduceCtorEq, ↓reduceIte, gaE, h7]
      exact ⟨by omega, hg, by rw [dayR, hky, htm]⟩
end Go.Ga

namespace Go.Ga
open Go Go.Proofs
set_option linter.unusedSimpArgs false
set_option linter.unusedVariables false
set_option maxRecDepth 100000

def inB (n a z : Int) : Bool := decide (a ≤ n) && decide (n ≤ z)
theorem inB_true {n a z : Int} (h : inB n a z = true) : a ≤ n ∧ n ≤ z := by simpa [inB] using h
/-- Is it a moment? -/
def okD (d0 d1 d2 d3 d4 d5 : Int) : Bool := inB d0 1950 2199 && (inB d1 1 12 && (inB d2 1 (lastI d0 d1) && (inB d3 0 23 && (inB d4 0 59 && inB d5 0 59))))
/-- Days from 1970, as the code has them. -/
def dayF (y m d : Int) : Int := y.tdiv 400 * 146097 + y.tmod 400 * 365 + (y.tmod 400).tdiv 4 - (y.tmod 400).tdiv 100 + (153 * m + 2).tdiv 5 + d - 1 - 719468
def dayC (y m d : Int) : Int := if m - 3 < 0 then dayF (y - 1) (m - 3 + 12) d else dayF y (m - 3) d
def secI (d0 d1 d2 d3 d4 d5 : Int) : Int := dayC d0 d1 d2 * 86400 + (d3 * 3600 + d4 * 60 + d5)
def SecV (d0 d1 d2 d3 d4 d5 : Int) : Value := if okD d0 d1 d2 d3 d4 d5 = true then .tuple #[.int .i64 (secI d0 d1 d2 d3 d4 d5), .bool true] else .tuple #[.int .i64 0, .bool false]

theorem ct_within' {nx : Nat} {gt : Nat → Option Blk} {n a z : Int} : Ct Tryd.prog 91 [.int .i64 n, .int .i64 a, .int .i64 z] nx gt fun v _ _ => v = .bool (inB n a z) := ct_within

theorem ct_Seconds {nx : Nat} {gt : Nat → Option Blk} {d0 d1 d2 d3 d4 d5 : Int} :
    Ct Tryd.prog 80 [.agg #[.int .i64 d0, .int .i64 d1, .int .i64 d2, .int .i64 d3, .int .i64 d4, .int .i64 d5]] nx gt fun v _ _ => v = SecV d0 d1 d2 d3 d4 d5 := by
  refine Ct.of hmx r_clock_Seconds (by simp [c_clock_Seconds]) fun b hb => ?_
  have bad : ∀ {nx' : Nat} {gt' : Nat → Option Blk}, nx ≤ nx' → (∀ i, i < nx → gt' i = gt i) → okD d0 d1 d2 d3 d4 d5 = false → nx ≤ nx' ∧ (∀ i, i < nx → gt' i = gt i) ∧ (Value.tuple #[.int .i64 0, .bool false]) = SecV d0 d1 d2 d3 d4 d5 :=
    fun h1 h2 h3 => ⟨h1, h2, by rw [SecV, h3, if_neg (by decide)]⟩
  simp only [c_clock_Seconds, ↓gaW, ↓gaC, ↓gaN, gaP, Nat.reduceEqDiff, Nat.reduceLeDiff, Nat.reduceAdd, Nat.reduceSub, Nat.reduceMul, Int.reduceLT, Int.reduceLE, Int.reduceEq, Int.reduceToNat, Int.reduceAdd, Int.reduceSub, Int.reduceMul, reduceCtorEq, ↓reduceIte, List.getD_cons_zero, List.getD_cons_succ]
  repeat refine And.intro (by omega) ?_
  refine callQ_of ct_within' (fun v n1 g1 l1 k1 hC => ?_)
  subst hC
  have c1 : g1 nx = some (.cells [.int .i64 d0, .int .i64 d1, .int .i64 d2, .int .i64 d3, .int .i64 d4, .int .i64 d5] false) := by rw [k1 nx (by omega)]; simp only [upd_e, if_true]
  have o1 : ∀ i, i < nx → g1 i = gt i := fun i hi => by rw [k1 i (by omega)]; simp only [upd_e]; rw [if_neg (by omega)]
  cases t0 : inB d0 1950 2199 with
  | false =>
    simp only [↓gaW, ↓gaC, ↓gaN, gaP, Nat.reduceEqDiff, Nat.reduceLeDiff, Nat.reduceAdd, Nat.reduceSub, Nat.reduceMul, Int.reduceLT, Int.reduceLE, Int.reduceEq, Int.reduceToNat, Int.reduceAdd, Int.reduceSub, Int.reduceMul, reduceCtorEq, ↓reduceIte, gaE]
    exact bad (by omega) o1 (by simp [okD, t0])
  | true =>
  simp only [↓gaW, ↓gaC, ↓gaN, gaP, Nat.reduceEqDiff, Nat.reduceLeDiff, Nat.reduceAdd, Nat.reduceSub, Nat.reduceMul, Int.reduceLT, Int.reduceLE, Int.reduceEq, Int.reduceToNat, Int.reduceAdd, Int.reduceSub, Int.reduceMul, reduceCtorEq, ↓reduceIte, c1, List.getD_cons_zero, List.getD_cons_succ]
  repeat refine And.intro (by omega) ?_
  refine callQ_of ct_within' (fun v n2 g2 l2 k2 hC => ?_)
  subst hC
  have c2 : g2 nx = _ := (k2 nx (by omega)).trans c1
  have o2 : ∀ i, i < nx → g2 i = gt i := fun i hi => by rw [k2 i (by omega), o1 i hi]
  cases t1 : inB d1 1 12 with
  | false =>
    simp only [↓gaW, ↓gaC, ↓gaN, gaP, Nat.reduceEqDiff, Nat.reduceLeDiff, Nat.reduceAdd, Nat.reduceSub, Nat.reduceMul, Int.reduceLT, Int.reduceLE, Int.reduceEq, Int.reduceToNat, Int.reduceAdd, Int.reduceSub, Int.reduceMul, reduceCtorEq, ↓reduceIte, gaE]
    exact bad (by omega) o2 (by simp [okD, t1])
  | true =>
  simp only [↓gaW, ↓gaC, ↓gaN, gaP, Nat.reduceEqDiff, Nat.reduceLeDiff, Nat.reduceAdd, Nat.reduceSub, Nat.reduceMul, Int.reduceLT, Int.reduceLE, Int.reduceEq, Int.reduceToNat, Int.reduceAdd, Int.reduceSub, Int.reduceMul, reduceCtorEq, ↓reduceIte, c2, List.getD_cons_zero, List.getD_cons_succ]
  repeat refine And.intro (by omega) ?_
  have b0 := inB_true t0
  have b1 := inB_true t1
  refine callQ_of (ct_last b1.1 b1.2) (fun v n3 g3 l3 k3 hC => ?_)
  subst hC
  have c3 : g3 nx = _ := (k3 nx (by omega)).trans c2
  have o3 : ∀ i, i < nx → g3 i = gt i := fun i hi => by rw [k3 i (by omega), o2 i hi]
  simp only [↓gaW, ↓gaC, ↓gaN, gaP, Nat.reduceEqDiff, Nat.reduceLeDiff, Nat.reduceAdd, Nat.reduceSub, Nat.reduceMul, Int.reduceLT, Int.reduceLE, Int.reduceEq, Int.reduceToNat, Int.reduceAdd, Int.reduceSub, Int.reduceMul, reduceCtorEq, ↓reduceIte]
  refine callK_of ct_within' (fun v n4 g4 l4 k4 hC => ?_) (by omega)
  subst hC
  have c4 : g4 nx = _ := (k4 nx (by omega)).trans c3
  have o4 : ∀ i, i < nx → g4 i = gt i := fun i hi => by rw [k4 i (by omega), o3 i hi]
  cases t2 : inB d2 1 (lastI d0 d1) with
  | false =>
    simp only [↓gaW, ↓gaC, ↓gaN, gaP, Nat.reduceEqDiff, Nat.reduceLeDiff, Nat.reduceAdd, Nat.reduceSub, Nat.reduceMul, Int.reduceLT, Int.reduceLE, Int.reduceEq, Int.reduceToNat, Int.reduceAdd, Int.reduceSub, Int.reduceMul, reduceCtorEq, ↓reduceIte, gaE]
    exact bad (by omega) o4 (by simp [okD, t2])
  | true =>
  simp only [↓gaW, ↓gaC, ↓gaN, gaP, Nat.reduceEqDiff, Nat.reduceLeDiff, Nat.reduceAdd, Nat.reduceSub, Nat.reduceMul, Int.reduceLT, Int.reduceLE, Int.reduceEq, Int.reduceToNat, Int.reduceAdd, Int.reduceSub, Int.reduceMul, reduceCtorEq, ↓reduceIte, c4, List.getD_cons_zero, List.getD_cons_succ]
  repeat refine And.intro (by omega) ?_
  refine callK_of ct_within' (fun v n5 g5 l5 k5 hC => ?_) (by omega)
  subst hC
  have c5 : g5 nx = _ := (k5 nx (by omega)).trans c4
  have o5 : ∀ i, i < nx → g5 i = gt i := fun i hi => by rw [k5 i (by omega), o4 i hi]
  cases t3 : inB d3 0 23 with
  | false =>
    simp only [↓gaW, ↓gaC, ↓gaN, gaP, Nat.reduceEqDiff, Nat.reduceLeDiff, Nat.reduceAdd, Nat.reduceSub, Nat.reduceMul, Int.reduceLT, Int.reduceLE, Int.reduceEq, Int.reduceToNat, Int.reduceAdd, Int.reduceSub, Int.reduceMul, reduceCtorEq, ↓reduceIte, gaE]
    exact bad (by omega) o5 (by simp [okD, t3])
  | true =>
  simp only [↓gaW, ↓gaC, ↓gaN, gaP, Nat.reduceEqDiff, Nat.reduceLeDiff, Nat.reduceAdd, Nat.reduceSub, Nat.reduceMul, Int.reduceLT, Int.reduceLE, Int.reduceEq, Int.reduceToNat, Int.reduceAdd, Int.reduceSub, Int.reduceMul, reduceCtorEq, ↓reduceIte, c5, List.getD_cons_zero, List.getD_cons_succ]
  repeat refine And.intro (by omega) ?_
  refine callK_of ct_within' (fun v n6 g6 l6 k6 hC => ?_) (by omega)
  subst hC
  have c6 : g6 nx = _ := (k6 nx (by omega)).trans c5
  have o6 : ∀ i, i < nx → g6 i = gt i := fun i hi => by rw [k6 i (by omega), o5 i hi]
  cases t4 : inB d4 0 59 with
  | false =>
    simp only [↓gaW, ↓gaC, ↓gaN, gaP, Nat.reduceEqDiff, Nat.reduceLeDiff, Nat.reduceAdd, Nat.reduceSub, Nat.reduceMul, Int.reduceLT, Int.reduceLE, Int.reduceEq, Int.reduceToNat, Int.reduceAdd, Int.reduceSub, Int.reduceMul, reduceCtorEq, ↓reduceIte, gaE]
    exact bad (by omega) o6 (by simp [okD, t4])
  | true =>
  simp only [↓gaW, ↓gaC, ↓gaN, gaP, Nat.reduceEqDiff, Nat.reduceLeDiff, Nat.reduceAdd, Nat.reduceSub, Nat.reduceMul, Int.reduceLT, Int.reduceLE, Int.reduceEq, Int.reduceToNat, Int.reduceAdd, Int.reduceSub, Int.reduceMul, reduceCtorEq, ↓reduceIte, c6, List.getD_cons_zero, List.getD_cons_succ]
  repeat refine And.intro (by omega) ?_
  refine callK_of ct_within' (fun v n7 g7 l7 k7 hC => ?_) (by omega)
  subst hC
  have c7 : g7 nx = _ := (k7 nx (by omega)).trans c6
  have o7 : ∀ i, i < nx → g7 i = gt i := fun i hi => by rw [k7 i (by omega), o6 i hi]
  cases t5 : inB d5 0 59 with
  | false =>
    simp only [↓gaW, ↓gaC, ↓gaN, gaP, Nat.reduceEqDiff, Nat.reduceLeDiff, Nat.reduceAdd, Nat.reduceSub, Nat.reduceMul, Int.reduceLT, Int.reduceLE, Int.reduceEq, Int.reduceToNat, Int.reduceAdd, Int.reduceSub, Int.reduceMul, reduceCtorEq, ↓reduceIte, gaE]
    exact bad (by omega) o7 (by simp [okD, t5])
  | true =>
  have b2 := inB_true t2
  have b3 := inB_true t3
  have b4 := inB_true t4
  have b5 := inB_true t5
  have lb := lastI_bd (y := d0) b1.1 b1.2
  have hok : okD d0 d1 d2 d3 d4 d5 = true := by simp [okD, t0, t1, t2, t3, t4, t5]
  have q : ∀ (Y M : Int), 1949 ≤ Y ∧ Y ≤ 2199 → 0 ≤ M ∧ M ≤ 11 → dayF Y M d2 = dayC d0 d1 d2 → Y.tdiv 400 = Y / 400 ∧ Y.tmod 400 = Y % 400 ∧ (Y % 400).tdiv 4 = Y % 400 / 4 ∧ (Y % 400).tdiv 100 = Y % 400 / 100 ∧ (153 * M + 2).tdiv 5 = (153 * M + 2) / 5 ∧
      dayC d0 d1 d2 = Y / 400 * 146097 + Y % 400 * 365 + Y % 400 / 4 - Y % 400 / 100 + (153 * M + 2) / 5 + d2 - 1 - 719468 := by
    intro Y M hY hM hE
    have q1 : Y.tdiv 400 = Y / 400 := Int.tdiv_eq_ediv_of_nonneg (by omega)
    have q2 : Y.tmod 400 = Y % 400 := Int.tmod_eq_emod_of_nonneg (by omega)
    have q3 : (Y % 400).tdiv 4 = Y % 400 / 4 := Int.tdiv_eq_ediv_of_nonneg (by omega)
    have q4 : (Y % 400).tdiv 100 = Y % 400 / 100 := Int.tdiv_eq_ediv_of_nonneg (by omega)
    have q5 : (153 * M + 2).tdiv 5 = (153 * M + 2) / 5 := Int.tdiv_eq_ediv_of_nonneg (by omega)
    exact ⟨q1, q2, q3, q4, q5, by rw [← hE, dayF, q1, q2, q3, q4, q5]⟩
  by_cases hm : d1 - 3 < 0
  · obtain ⟨q1, q2, q3, q4, q5, hday⟩ := q (d0 - 1) (d1 - 3 + 12) (by omega) (by omega) (by rw [dayC, if_pos hm])
    simp (disch := omega) only [↓gaW, ↓gaC, ↓gaN, gaP, Nat.reduceEqDiff, Nat.reduceLeDiff, Nat.reduceAdd, Nat.reduceSub, Nat.reduceMul, Int.reduceLT, Int.reduceLE, Int.reduceEq, Int.reduceToNat, Int.reduceAdd, Int.reduceSub, Int.reduceMul, reduceCtorEq, ↓reduceIte, gaE, t5, c7, List.getD_cons_zero, List.getD_cons_succ, hm, decide_true, q1, q2, q3, q4, q5, i64_w]
    repeat refine And.intro (by omega) ?_
    rw [SecV, if_pos hok, secI, hday]
  · obtain ⟨q1, q2, q3, q4, q5, hday⟩ := q d0 (d1 - 3) (by omega) (by omega) (by rw [dayC, if_neg hm])
    simp (disch := omega) only [↓gaW, ↓gaC, ↓gaN, gaP, Nat.reduceEqDiff, Nat.reduceLeDiff, Nat.reduceAdd, Nat.reduceSub, Nat.reduceMul, Int.reduceLT, Int.reduceLE, Int.reduceEq, Int.reduceToNat, Int.reduceAdd, Int.reduceSub, Int.reduceMul, reduceCtorEq, ↓reduceIte, gaE, t5, c7, List.getD_cons_zero, List.getD_cons_succ, hm, decide_false, q1, q2, q3, q4, q5, i64_w]
    repeat refine And.intro (by omega) ?_
    rw [SecV, if_pos hok, secI, hday]

/-! ### The two ways to count days agree -/
theorem dayC_d (y m d : Int) : dayC y m d = dayC y m 1 + (d - 1) := by
  unfold dayC dayF; split <;> omega
theorem month_step : ∀ y, y < 250 → ∀ m, m < 12 → dayC (1950 + (y : Nat)) ((m : Nat) + 2) 1 = dayC (1950 + (y : Nat)) ((m : Nat) + 1) 1 + lastI (1950 + (y : Nat)) ((m : Nat) + 1) ∨ m = 11 := by decide +kernel
theorem year_step : ∀ y, y < 250 → dayC (1950 + ((y + 1 : Nat) : Int)) 1 1 = dayC (1950 + (y : Nat)) 1 1 + 365 + (if leapB (1950 + (y : Nat)) then 1 else 0) := by decide +kernel
theorem dayC_year : ∀ y, y ≤ 250 → dayC (1950 + (y : Nat)) 1 1 = yearsR y - 7305 := by
  intro y
  induction y with
  | zero => intro _; decide +kernel
  | succ y ih =>
    intro h
    rw [year_step y (by omega), ih (by omega), yearsR]
    omega
theorem dayC_month (y : Nat) (hy : y < 250) : ∀ m, m < 12 → dayC (1950 + (y : Nat)) ((m : Nat) + 1) 1 = yearsR y + monthsR (1950 + (y : Nat)) m - 7305 := by
  intro m
  induction m with
  | zero =>
    intro _
    have := dayC_year y (by omega)
    simp only [monthsR]
    have e : (((0 : Nat) : Int) + 1) = 1 := by omega
    rw [e, this]; omega
  | succ m ih =>
    intro h
    rcases month_step y hy m (by omega) with e | e
    · have e2 : (((m + 1 : Nat) : Int) + 1) = (m : Int) + 2 := by omega
      rw [e2, e, ih (by omega), monthsR]
      omega
    · omega
theorem dayC_eq {y m d : Int} (hy : 1950 ≤ y ∧ y ≤ 2199) (hm : 1 ≤ m ∧ m ≤ 12) : dayC y m d = dayR y m d - 7305 := by
  have h := dayC_month (y - 1950).toNat (by omega) (m - 1).toNat (by omega)
  have e1 : 1950 + ((y - 1950).toNat : Int) = y := by omega
  have e2 : ((m - 1).toNat : Int) + 1 = m := by omega
  rw [e1, e2] at h
  rw [dayC_d, h, dayR]
  omega
theorem dayR_1970 : dayR 1970 1 1 = 7305 := by decide +kernel
end Go.Ga

namespace Go.Ga
open Go Go.Proofs
set_option linter.unusedSimpArgs false
set_option linter.unusedVariables false
set_option maxRecDepth 100000

theorem ct_right {nx : Nat} {gt : Nat → Option Blk} {d0 d1 d2 d3 d4 d5 : Int} :
    Ct Tryd.prog 93 [.agg #[.int .i64 d0, .int .i64 d1, .int .i64 d2, .int .i64 d3, .int .i64 d4, .int .i64 d5]] nx gt fun v _ _ => v = .bool (okD d0 d1 d2 d3 d4 d5) := by
  refine Ct.of hmx r_lanyardref03_right (by simp [c_lanyardref03_right]) fun b hb => ?_
  have bad : ∀ {nx' : Nat} {gt' : Nat → Option Blk}, nx ≤ nx' → (∀ i, i < nx → gt' i = gt i) → okD d0 d1 d2 d3 d4 d5 = false → nx ≤ nx' ∧ (∀ i, i < nx → gt' i = gt i) ∧ (Value.bool false) = .bool (okD d0 d1 d2 d3 d4 d5) :=
    fun h1 h2 h3 => ⟨h1, h2, by rw [h3]⟩
  have old : ∀ (l : Option Blk) i, i < nx → (if i = nx then l else gt i) = gt i := fun l i hi => by rw [if_neg (by omega)]
  by_cases a0 : d0 < 1950
  · have hf : okD d0 d1 d2 d3 d4 d5 = false := by simp only [okD, inB, Bool.and_eq_false_iff, decide_eq_false_iff_not]; omega
    simp only [c_lanyardref03_right, ↓gaW, ↓gaC, ↓gaN, gaP, Nat.reduceEqDiff, Nat.reduceLeDiff, Nat.reduceAdd, Nat.reduceSub, Nat.reduceMul, Int.reduceLT, Int.reduceLE, Int.reduceEq, Int.reduceToNat, Int.reduceAdd, Int.reduceSub, Int.reduceMul, reduceCtorEq, ↓reduceIte, gaE, List.getD_cons_zero, List.getD_cons_succ, a0, decide_true, decide_false, hf]
    repeat refine And.intro (by omega) ?_
    exact old _
  by_cases a1 : 2199 < d0
  · have hf : okD d0 d1 d2 d3 d4 d5 = false := by simp only [okD, inB, Bool.and_eq_false_iff, decide_eq_false_iff_not]; omega
    simp only [c_lanyardref03_right, ↓gaW, ↓gaC, ↓gaN, gaP, Nat.reduceEqDiff, Nat.reduceLeDiff, Nat.reduceAdd, Nat.reduceSub, Nat.reduceMul, Int.reduceLT, Int.reduceLE, Int.reduceEq, Int.reduceToNat, Int.reduceAdd, Int.reduceSub, Int.reduceMul, reduceCtorEq, ↓reduceIte, gaE, List.getD_cons_zero, List.getD_cons_succ, a0, a1, decide_true, decide_false, hf]
    repeat refine And.intro (by omega) ?_
    exact old _
  by_cases a2 : d1 < 1
  · have hf : okD d0 d1 d2 d3 d4 d5 = false := by simp only [okD, inB, Bool.and_eq_false_iff, decide_eq_false_iff_not]; omega
    simp only [c_lanyardref03_right, ↓gaW, ↓gaC, ↓gaN, gaP, Nat.reduceEqDiff, Nat.reduceLeDiff, Nat.reduceAdd, Nat.reduceSub, Nat.reduceMul, Int.reduceLT, Int.reduceLE, Int.reduceEq, Int.reduceToNat, Int.reduceAdd, Int.reduceSub, Int.reduceMul, reduceCtorEq, ↓reduceIte, gaE, List.getD_cons_zero, List.getD_cons_succ, a0, a1, a2, decide_true, decide_false, hf]
    repeat refine And.intro (by omega) ?_
    exact old _
  by_cases a3 : 12 < d1
  · have hf : okD d0 d1 d2 d3 d4 d5 = false := by simp only [okD, inB, Bool.and_eq_false_iff, decide_eq_false_iff_not]; omega
    simp only [c_lanyardref03_right, ↓gaW, ↓gaC, ↓gaN, gaP, Nat.reduceEqDiff, Nat.reduceLeDiff, Nat.reduceAdd, Nat.reduceSub, Nat.reduceMul, Int.reduceLT, Int.reduceLE, Int.reduceEq, Int.reduceToNat, Int.reduceAdd, Int.reduceSub, Int.reduceMul, reduceCtorEq, ↓reduceIte, gaE, List.getD_cons_zero, List.getD_cons_succ, a0, a1, a2, a3, decide_true, decide_false, hf]
    repeat refine And.intro (by omega) ?_
    exact old _
  by_cases b0 : 1 ≤ d2
  rotate_left
  · have hf : okD d0 d1 d2 d3 d4 d5 = false := by simp only [okD, inB, Bool.and_eq_false_iff, decide_eq_false_iff_not]; omega
    simp only [c_lanyardref03_right, ↓gaW, ↓gaC, ↓gaN, gaP, Nat.reduceEqDiff, Nat.reduceLeDiff, Nat.reduceAdd, Nat.reduceSub, Nat.reduceMul, Int.reduceLT, Int.reduceLE, Int.reduceEq, Int.reduceToNat, Int.reduceAdd, Int.reduceSub, Int.reduceMul, reduceCtorEq, ↓reduceIte, gaE, List.getD_cons_zero, List.getD_cons_succ, a0, a1, a2, a3, b0, decide_true, decide_false, hf]
    repeat refine And.intro (by omega) ?_
    exact old _
  simp only [c_lanyardref03_right, ↓gaW, ↓gaC, ↓gaN, gaP, Nat.reduceEqDiff, Nat.reduceLeDiff, Nat.reduceAdd, Nat.reduceSub, Nat.reduceMul, Int.reduceLT, Int.reduceLE, Int.reduceEq, Int.reduceToNat, Int.reduceAdd, Int.reduceSub, Int.reduceMul, reduceCtorEq, ↓reduceIte, List.getD_cons_zero, List.getD_cons_succ, a0, a1, a2, a3, b0, decide_true, decide_false]
  repeat refine And.intro (by omega) ?_
  refine callQ_of (ct_rlast (by omega) (by omega)) (fun v n1 g1 l1 k1 hC => ?_)
  subst hC
  have c1 : g1 nx = some (.cells [.int .i64 d0, .int .i64 d1, .int .i64 d2, .int .i64 d3, .int .i64 d4, .int .i64 d5] false) := by rw [k1 nx (by omega)]; simp only [upd_e, if_true]
  have o1 : ∀ i, i < nx → g1 i = gt i := fun i hi => by rw [k1 i (by omega)]; simp only [upd_e]; rw [if_neg (by omega)]
  by_cases b1 : d2 ≤ lastI d0 d1
  rotate_left
  · have hf : okD d0 d1 d2 d3 d4 d5 = false := by simp only [okD, inB, Bool.and_eq_false_iff, decide_eq_false_iff_not]; omega
    simp only [↓gaW, ↓gaC, ↓gaN, gaP, Nat.reduceEqDiff, Nat.reduceLeDiff, Nat.reduceAdd, Nat.reduceSub, Nat.reduceMul, Int.reduceLT, Int.reduceLE, Int.reduceEq, Int.reduceToNat, Int.reduceAdd, Int.reduceSub, Int.reduceMul, reduceCtorEq, ↓reduceIte, gaE, List.getD_cons_zero, List.getD_cons_succ, c1, b0, b1, decide_true, decide_false, hf]
    repeat refine And.intro (by omega) ?_
    first | done | exact o1 | exact ⟨by omega, o1⟩
  by_cases b2 : 0 ≤ d3
  rotate_left
  · have hf : okD d0 d1 d2 d3 d4 d5 = false := by simp only [okD, inB, Bool.and_eq_false_iff, decide_eq_false_iff_not]; omega
    simp only [↓gaW, ↓gaC, ↓gaN, gaP, Nat.reduceEqDiff, Nat.reduceLeDiff, Nat.reduceAdd, Nat.reduceSub, Nat.reduceMul, Int.reduceLT, Int.reduceLE, Int.reduceEq, Int.reduceToNat, Int.reduceAdd, Int.reduceSub, Int.reduceMul, reduceCtorEq, ↓reduceIte, gaE, List.getD_cons_zero, List.getD_cons_succ, c1, b0, b1, b2, decide_true, decide_false, hf]
    repeat refine And.intro (by omega) ?_
    first | done | exact o1 | exact ⟨by omega, o1⟩
  by_cases b3 : d3 < 24
  rotate_left
  · have hf : okD d0 d1 d2 d3 d4 d5 = false := by simp only [okD, inB, Bool.and_eq_false_iff, decide_eq_false_iff_not]; omega
    simp only [↓gaW, ↓gaC, ↓gaN, gaP, Nat.reduceEqDiff, Nat.reduceLeDiff, Nat.reduceAdd, Nat.reduceSub, Nat.reduceMul, Int.reduceLT, Int.reduceLE, Int.reduceEq, Int.reduceToNat, Int.reduceAdd, Int.reduceSub, Int.reduceMul, reduceCtorEq, ↓reduceIte, gaE, List.getD_cons_zero, List.getD_cons_succ, c1, b0, b1, b2, b3, decide_true, decide_false, hf]
    repeat refine And.intro (by omega) ?_
    first | done | exact o1 | exact ⟨by omega, o1⟩
  by_cases b4 : 0 ≤ d4
  rotate_left
  · have hf : okD d0 d1 d2 d3 d4 d5 = false := by simp only [okD, inB, Bool.and_eq_false_iff, decide_eq_false_iff_not]; omega
    simp only [↓gaW, ↓gaC, ↓gaN, gaP, Nat.reduceEqDiff, Nat.reduceLeDiff, Nat.reduceAdd, Nat.reduceSub, Nat.reduceMul, Int.reduceLT, Int.reduceLE, Int.reduceEq, Int.reduceToNat, Int.reduceAdd, Int.reduceSub, Int.reduceMul, reduceCtorEq, ↓reduceIte, gaE, List.getD_cons_zero, List.getD_cons_succ, c1, b0, b1, b2, b3, b4, decide_true, decide_false, hf]
    repeat refine And.intro (by omega) ?_
    first | done | exact o1 | exact ⟨by omega, o1⟩
  by_cases b5 : d4 < 60
  rotate_left
  · have hf : okD d0 d1 d2 d3 d4 d5 = false := by simp only [okD, inB, Bool.and_eq_false_iff, decide_eq_false_iff_not]; omega
    simp only [↓gaW, ↓gaC, ↓gaN, gaP, Nat.reduceEqDiff, Nat.reduceLeDiff, Nat.reduceAdd, Nat.reduceSub, Nat.reduceMul, Int.reduceLT, Int.reduceLE, Int.reduceEq, Int.reduceToNat, Int.reduceAdd, Int.reduceSub, Int.reduceMul, reduceCtorEq, ↓reduceIte, gaE, List.getD_cons_zero, List.getD_cons_succ, c1, b0, b1, b2, b3, b4, b5, decide_true, decide_false, hf]
    repeat refine And.intro (by omega) ?_
    first | done | exact o1 | exact ⟨by omega, o1⟩
  by_cases b6 : 0 ≤ d5
  rotate_left
  · have hf : okD d0 d1 d2 d3 d4 d5 = false := by simp only [okD, inB, Bool.and_eq_false_iff, decide_eq_false_iff_not]; omega
    simp only [↓gaW, ↓gaC, ↓gaN, gaP, Nat.reduceEqDiff, Nat.reduceLeDiff, Nat.reduceAdd, Nat.reduceSub, Nat.reduceMul, Int.reduceLT, Int.reduceLE, Int.reduceEq, Int.reduceToNat, Int.reduceAdd, Int.reduceSub, Int.reduceMul, reduceCtorEq, ↓reduceIte, gaE, List.getD_cons_zero, List.getD_cons_succ, c1, b0, b1, b2, b3, b4, b5, b6, decide_true, decide_false, hf]
    repeat refine And.intro (by omega) ?_
    first | done | exact o1 | exact ⟨by omega, o1⟩
  by_cases b7 : d5 < 60
  rotate_left
  · have hf : okD d0 d1 d2 d3 d4 d5 = false := by simp only [okD, inB, Bool.and_eq_false_iff, decide_eq_false_iff_not]; omega
    simp only [↓gaW, ↓gaC, ↓gaN, gaP, Nat.reduceEqDiff, Nat.reduceLeDiff, Nat.reduceAdd, Nat.reduceSub, Nat.reduceMul, Int.reduceLT, Int.reduceLE, Int.reduceEq, Int.reduceToNat, Int.reduceAdd, Int.reduceSub, Int.reduceMul, reduceCtorEq, ↓reduceIte, gaE, List.getD_cons_zero, List.getD_cons_succ, c1, b0, b1, b2, b3, b4, b5, b6, b7, decide_true, decide_false, hf]
    repeat refine And.intro (by omega) ?_
    first | done | exact o1 | exact ⟨by omega, o1⟩
  have hf : okD d0 d1 d2 d3 d4 d5 = true := by simp only [okD, inB, Bool.and_eq_true, decide_eq_true_eq]; omega
  simp only [↓gaW, ↓gaC, ↓gaN, gaP, Nat.reduceEqDiff, Nat.reduceLeDiff, Nat.reduceAdd, Nat.reduceSub, Nat.reduceMul, Int.reduceLT, Int.reduceLE, Int.reduceEq, Int.reduceToNat, Int.reduceAdd, Int.reduceSub, Int.reduceMul, reduceCtorEq, ↓reduceIte, gaE, List.getD_cons_zero, List.getD_cons_succ, c1, b0, b1, b2, b3, b4, b5, b6, b7, decide_true, decide_false, hf]
  repeat refine And.intro (by omega) ?_
  first | done | exact o1 | exact ⟨by omega, o1⟩

theorem ct_rSeconds {nx : Nat} {gt : Nat → Option Blk} {d0 d1 d2 d3 d4 d5 : Int} :
    Ct Tryd.prog 82 [.agg #[.int .i64 d0, .int .i64 d1, .int .i64 d2, .int .i64 d3, .int .i64 d4, .int .i64 d5]] nx gt fun v _ _ => v = SecV d0 d1 d2 d3 d4 d5 := by
  refine Ct.of hmx r_lanyardref03_Seconds (by simp [c_lanyardref03_Seconds]) fun b hb => ?_
  simp only [c_lanyardref03_Seconds, ↓gaW, ↓gaC, ↓gaN, gaP, Nat.reduceEqDiff, Nat.reduceLeDiff, Nat.reduceAdd, Nat.reduceSub, Nat.reduceMul, Int.reduceLT, Int.reduceLE, Int.reduceEq, Int.reduceToNat, Int.reduceAdd, Int.reduceSub, Int.reduceMul, reduceCtorEq, ↓reduceIte, List.drop_zero, List.take_succ_cons, List.take_zero]
  refine callK_of ct_right (fun v n1 g1 l1 k1 hC => ?_) (by omega)
  subst hC
  have c1 : g1 nx = some (.cells [.int .i64 d0, .int .i64 d1, .int .i64 d2, .int .i64 d3, .int .i64 d4, .int .i64 d5] false) := by rw [k1 nx (by omega)]; simp only [upd_e, if_true]
  have o1 : ∀ i, i < nx → g1 i = gt i := fun i hi => by rw [k1 i (by omega)]; simp only [upd_e]; rw [if_neg (by omega)]
  cases hf : okD d0 d1 d2 d3 d4 d5 with
  | false =>
    simp only [↓gaW, ↓gaC, ↓gaN, gaP, Nat.reduceEqDiff, Nat.reduceLeDiff, Nat.reduceAdd, Nat.reduceSub, Nat.reduceMul, Int.reduceLT, Int.reduceLE, Int.reduceEq, Int.reduceToNat, Int.reduceAdd, Int.reduceSub, Int.reduceMul, reduceCtorEq, ↓reduceIte, gaE]
    exact ⟨by omega, o1, by rw [SecV, hf, if_neg (by decide)]⟩
  | true =>
  have hf' := hf
  simp only [okD, inB, Bool.and_eq_true, decide_eq_true_eq] at hf'
  obtain ⟨⟨a0, a1⟩, ⟨a2, a3⟩, ⟨a4, a5⟩, ⟨a6, a7⟩, ⟨a8, a9⟩, a10, a11⟩ := hf'
  have lb := lastI_bd (y := d0) a2 a3
  simp only [↓gaW, ↓gaC, ↓gaN, gaP, Nat.reduceEqDiff, Nat.reduceLeDiff, Nat.reduceAdd, Nat.reduceSub, Nat.reduceMul, Int.reduceLT, Int.reduceLE, Int.reduceEq, Int.reduceToNat, Int.reduceAdd, Int.reduceSub, Int.reduceMul, reduceCtorEq, ↓reduceIte, c1, List.getD_cons_zero, List.getD_cons_succ]
  repeat refine And.intro (by omega) ?_
  refine callK_of (ct_days (by omega) (by omega) (by omega)) (fun v n2 g2 l2 k2 hC => ?_) (by omega)
  subst hC
  simp only [↓gaW, ↓gaC, ↓gaN, gaP, Nat.reduceEqDiff, Nat.reduceLeDiff, Nat.reduceAdd, Nat.reduceSub, Nat.reduceMul, Int.reduceLT, Int.reduceLE, Int.reduceEq, Int.reduceToNat, Int.reduceAdd, Int.reduceSub, Int.reduceMul, reduceCtorEq, ↓reduceIte]
  refine callK_of (ct_days (by omega) (by omega) (by omega)) (fun v n3 g3 l3 k3 hC => ?_) (by omega)
  subst hC
  have c3 : g3 nx = _ := (k3 nx (by omega)).trans ((k2 nx (by omega)).trans c1)
  have o3 : ∀ i, i < nx → g3 i = gt i := fun i hi => by rw [k3 i (by omega), k2 i (by omega), o1 i hi]
  have yb := yearsR_bd (d0 - 1950).toNat
  have mb := monthsR_bd d0 (d1 - 1).toNat (by omega)
  have db : 0 ≤ dayR d0 d1 d2 ∧ dayR d0 d1 d2 ≤ 100000 := by rw [dayR]; omega
  have hc := dayC_eq (d := d2) ⟨a0, a1⟩ ⟨a2, a3⟩
  rw [dayR_1970]
  simp (disch := omega) only [↓gaW, ↓gaC, ↓gaN, gaP, Nat.reduceEqDiff, Nat.reduceLeDiff, Nat.reduceAdd, Nat.reduceSub, Nat.reduceMul, Int.reduceLT, Int.reduceLE, Int.reduceEq, Int.reduceToNat, Int.reduceAdd, Int.reduceSub, Int.reduceMul, reduceCtorEq, ↓reduceIte, gaE, c3, List.getD_cons_zero, List.getD_cons_succ, i64_w]
  repeat refine And.intro (by omega) ?_
  rw [SecV, if_pos hf, secI, hc]
end Go.Ga

namespace Go.Ga
open Go Go.Proofs
set_option linter.unusedSimpArgs false
set_option linter.unusedVariables false
set_option maxRecDepth 100000

/-! ### The date of a day, in whole numbers from the first of March of the year 0 -/
def yearN (r : Nat) : Nat := (r - r / 1460 + r / 36524 - r / 146096) / 365
def restN (r : Nat) : Nat := r - (yearN r * 365 + yearN r / 4 - yearN r / 100)
def monN (r : Nat) : Nat := (5 * restN r + 2) / 153
def dN (r : Nat) : Nat := restN r - (153 * monN r + 2) / 5 + 1
def lastN (y m : Nat) : Nat := if m = 2 ∧ (y % 4 = 0 ∧ y % 100 ≠ 0 ∨ y % 400 = 0) then 29 else [31, 28, 31, 30, 31, 30, 31, 31, 30, 31, 30, 31].getD (m - 1) 0
def yN (n : Nat) : Nat := if 9 < monN (n % 146097) then n / 146097 * 400 + yearN (n % 146097) + 1 else n / 146097 * 400 + yearN (n % 146097)
def mN (n : Nat) : Nat := if 9 < monN (n % 146097) then monN (n % 146097) - 9 else monN (n % 146097) + 3
def dayN (y m d : Nat) : Nat := if m < 3 then (y - 1) / 400 * 146097 + (y - 1) % 400 * 365 + (y - 1) % 400 / 4 - (y - 1) % 400 / 100 + (153 * (m + 9) + 2) / 5 + d - 1 else y / 400 * 146097 + y % 400 * 365 + y % 400 / 4 - y % 400 / 100 + (153 * (m - 3) + 2) / 5 + d - 1
def checkN (n : Nat) : Bool :=
  let r := n % 146097
  Nat.ble (yearN r / 4) (yearN r * 365 + yearN r / 4) && Nat.ble (yearN r * 365 + yearN r / 4 - yearN r / 100) r && Nat.ble ((153 * monN r + 2) / 5) (restN r) &&
  Nat.ble 1950 (yN n) && Nat.ble (yN n) 2199 && Nat.ble 1 (mN n) && Nat.ble (mN n) 12 && Nat.ble 1 (dN r) && Nat.ble (dN r) (lastN (yN n) (mN n)) && Nat.beq (dayN (yN n) (mN n) (dN r)) n
def checkAll : Nat → Nat → Bool
  | 0, _ => true
  | k + 1, n => checkN n && checkAll k (n + 1)
theorem checkAll_get : ∀ k n, checkAll k n = true → ∀ i, i < k → checkN (n + i) = true := by
  intro k
  induction k with
  | zero => intro n _ i hi; omega
  | succ k ih =>
    intro n h i hi
    simp only [checkAll, Bool.and_eq_true] at h
    rcases i with _ | i
    · exact h.1
    · have := ih (n + 1) h.2 i (by omega)
      rwa [show n + 1 + i = n + (i + 1) by omega] at this
def checkM : Nat → Nat → Bool
  | 0, _ => true
  | a + 1, n => checkAll 1000 n && checkM a (n + 1000)
theorem checkM_get : ∀ k n, checkM k n = true → ∀ i, i < 1000 * k → checkN (n + i) = true := by
  intro k
  induction k with
  | zero => intro n _ i h; omega
  | succ k ih =>
    intro n h i hi
    simp only [checkM, Bool.and_eq_true] at h
    by_cases e : i < 1000
    · exact checkAll_get 1000 n h.1 i e
    · have := ih (n + 1000) h.2 (i - 1000) (by omega)
      rwa [show n + 1000 + (i - 1000) = n + i by omega] at this
theorem check_0 : checkM 10 712163 = true := by decide +kernel
theorem check_1 : checkM 10 722163 = true := by decide +kernel
theorem check_2 : checkM 10 732163 = true := by decide +kernel
theorem check_3 : checkM 10 742163 = true := by decide +kernel
theorem check_4 : checkM 10 752163 = true := by decide +kernel
theorem check_5 : checkM 10 762163 = true := by decide +kernel
theorem check_6 : checkM 10 772163 = true := by decide +kernel
theorem check_7 : checkM 10 782163 = true := by decide +kernel
theorem check_8 : checkM 10 792163 = true := by decide +kernel
theorem check_9 : checkM 1 802163 = true := by decide +kernel
theorem check_r : checkAll 311 803163 = true := by decide +kernel
theorem check_get {n : Nat} (h1 : 712163 ≤ n) (h2 : n < 803474) : checkN n = true := by
  obtain ⟨i, rfl⟩ : ∃ i, n = 712163 + i := ⟨n - 712163, by omega⟩
  by_cases h10 : i < 10000
  · have := checkM_get 10 712163 check_0 (i - 0) (by omega)
    rwa [show 712163 + (i - 0) = 712163 + i by omega] at this
  by_cases h11 : i < 20000
  · have := checkM_get 10 722163 check_1 (i - 10000) (by omega)
    rwa [show 722163 + (i - 10000) = 712163 + i by omega] at this
  by_cases h12 : i < 30000
  · have := checkM_get 10 732163 check_2 (i - 20000) (by omega)
    rwa [show 732163 + (i - 20000) = 712163 + i by omega] at this
  by_cases h13 : i < 40000
  · have := checkM_get 10 742163 check_3 (i - 30000) (by omega)
    rwa [show 742163 + (i - 30000) = 712163 + i by omega] at this
  by_cases h14 : i < 50000
  · have := checkM_get 10 752163 check_4 (i - 40000) (by omega)
    rwa [show 752163 + (i - 40000) = 712163 + i by omega] at this
  by_cases h15 : i < 60000
  · have := checkM_get 10 762163 check_5 (i - 50000) (by omega)
    rwa [show 762163 + (i - 50000) = 712163 + i by omega] at this
  by_cases h16 : i < 70000
  · have := checkM_get 10 772163 check_6 (i - 60000) (by omega)
    rwa [show 772163 + (i - 60000) = 712163 + i by omega] at this
  by_cases h17 : i < 80000
  · have := checkM_get 10 782163 check_7 (i - 70000) (by omega)
    rwa [show 782163 + (i - 70000) = 712163 + i by omega] at this
  by_cases h18 : i < 90000
  · have := checkM_get 10 792163 check_8 (i - 80000) (by omega)
    rwa [show 792163 + (i - 80000) = 712163 + i by omega] at this
  by_cases h19 : i < 91000
  · have := checkM_get 1 802163 check_9 (i - 90000) (by omega)
    rwa [show 802163 + (i - 90000) = 712163 + i by omega] at this
  · have := checkAll_get 311 _ check_r (i - 91000) (by omega)
    rwa [show 803163 + (i - 91000) = 712163 + i by omega] at this
end Go.Ga
