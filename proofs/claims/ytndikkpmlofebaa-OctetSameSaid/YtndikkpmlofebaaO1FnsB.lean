import Derived.Test.YtndikkpmlofebaaProg
import Derived.Test.YtndikkpmlofebaaGaStep
import Derived.KernelRfl
namespace Go.Ga
open Go Go.Proofs
set_option maxRecDepth 100000

def c_octet_Unhex : RFn :=
  ⟨48,
    (.seq
    (.ops [] [
        ⟨(some 2), (.op (.mv (.k (.slice none 0 0)))), none⟩,
        ⟨(some 3), (.op (.mv (.k (.bool false)))), none⟩])
    (.seq
      (.seq
        (.ops [] [
            ⟨(some 8), (.op (.mv (.t 0))), none⟩,
            ⟨(some 9), (.op (.lenStr (.t 8))), none⟩,
            ⟨(some 10), (.op (.bin .rem (.t 9) (.k (.int .i64 2)))), none⟩,
            ⟨(some 11), (.op (.bin .neq (.t 10) (.k (.int .i64 0)))), none⟩])
        (.cond (.t 11)
          (.seq
            (.ops [] [
                ⟨(some 2), (.op (.mv (.k (.slice none 0 0)))), none⟩,
                ⟨(some 3), (.op (.mv (.k (.bool false)))), none⟩])
            .ret)
          .skip))
      (.seq
        (.ops [] [
            ⟨(some 12), (.op (.mv (.t 0))), none⟩,
            ⟨(some 13), (.op (.lenStr (.t 12))), none⟩,
            ⟨(some 14), (.op (.bin .quo (.t 13) (.k (.int .i64 2)))), none⟩,
            ⟨(some 15), (.op (.make 1 1 [(.int .u8 0)] (.t 14) (.t 14))), none⟩,
            ⟨(some 4), (.op (.mv (.t 15))), none⟩])
        (.seq
          (.seq
            (.ops [] [
                ⟨(some 16), (.op (.mv (.t 4))), none⟩,
                ⟨(some 17), (.op (.lenSl (.t 16))), none⟩,
                ⟨(some 18), (.op (.mv (.k (.int .i64 0)))), none⟩])
            (.block 0
              (.loop
                (.seq
                  (.ops [] [
                      ⟨(some 19), (.op (.bin .lss (.t 18) (.t 17))), none⟩])
                  (.seq
                    (.cond (.t 19)
                      .skip
                      (.exit 0))
                    (.seq
                      (.block 1
                        (.seq
                          (.ops [] [
                              ⟨(some 20), (.op (.mv (.t 18))), none⟩,
                              ⟨(some 5), (.op (.mv (.t 20))), none⟩])
                          (.seq
                            (.ops [
                                ⟨(some 21), (.op (.mv (.t 0))), none⟩,
                                ⟨(some 22), (.op (.mv (.t 5))), none⟩,
                                ⟨(some 23), (.op (.bin .mul (.k (.int .i64 2)) (.t 22))), none⟩,
                                ⟨(some 24), (.op (.ixStr (.t 21) (.t 23))), none⟩,
                                ⟨(some 25), (.call (.k (.func (.func 39) #[] #[])) [(.t 24)]), none⟩,
                                ⟨(some 26), (.op (.mv (.t 0))), none⟩,
                                ⟨(some 27), (.op (.mv (.t 5))), none⟩,
                                ⟨(some 28), (.op (.bin .mul (.k (.int .i64 2)) (.t 27))), none⟩,
                                ⟨(some 29), (.op (.bin .add (.t 28) (.k (.int .i64 1)))), none⟩,
                                ⟨(some 30), (.op (.ixStr (.t 26) (.t 29))), none⟩] [
                                ⟨(some 31), (.call (.k (.func (.func 39) #[] #[])) [(.t 30)]), none⟩,
                                ⟨(some 6), (.op (.mv (.t 25))), none⟩,
                                ⟨(some 7), (.op (.mv (.t 31))), none⟩])
                            (.seq
                              (.seq
                                (.ops [] [
                                    ⟨(some 32), (.op (.mv (.t 6))), none⟩,
                                    ⟨(some 33), (.op (.bin .lss (.t 32) (.k (.int .i64 0)))), none⟩,
                                    ⟨(some 34), (.op (.mv (.t 33))), none⟩,
                                    ⟨(some 35), (.op (.mv (.t 7))), (some (34, false))⟩,
                                    ⟨(some 36), (.op (.bin .lss (.t 35) (.k (.int .i64 0)))), (some (34, false))⟩,
                                    ⟨(some 37), (.op (.pick (.t 34) (.k (.bool true)) (.t 36))), none⟩])
                                (.cond (.t 37)
                                  (.seq
                                    (.ops [] [
                                        ⟨(some 2), (.op (.mv (.k (.slice none 0 0)))), none⟩,
                                        ⟨(some 3), (.op (.mv (.k (.bool false)))), none⟩])
                                    .ret)
                                  .skip))
                              (.ops [] [
                                  ⟨(some 38), (.op (.mv (.t 4))), none⟩,
                                  ⟨(some 39), (.op (.mv (.t 5))), none⟩,
                                  ⟨(some 40), (.op (.mv (.t 6))), none⟩,
                                  ⟨(some 41), (.op (.bin .shl (.t 40) (.k (.int .u64 4)))), none⟩,
                                  ⟨(some 42), (.op (.mv (.t 7))), none⟩,
                                  ⟨(some 43), (.op (.bin .or (.t 41) (.t 42))), none⟩,
                                  ⟨(some 44), (.op (.toInt .u8 (.t 43))), none⟩,
                                  ⟨(some 45), (.op (.ixAddr 1 (.t 38) (.t 39))), none⟩,
                                  ⟨none, (.op (.store 1 (.t 45) (.t 44))), none⟩])))))
                      (.ops [] [
                          ⟨(some 46), (.op (.bin .add (.t 18) (.k (.int .i64 1)))), none⟩,
                          ⟨(some 18), (.op (.mv (.t 46))), none⟩])))))))
          (.seq
            (.ops [] [
                ⟨(some 47), (.op (.mv (.t 4))), none⟩,
                ⟨(some 2), (.op (.mv (.t 47))), none⟩,
                ⟨(some 3), (.op (.mv (.k (.bool true)))), none⟩])
            .ret))))),
    [(.t 2), (.t 3)]⟩
theorem r_octet_Unhex : resolveFn Try.prog 20 = some c_octet_Unhex := by kernel_rfl

def c_lanyardref01_Unhex : RFn :=
  ⟨47,
    (.seq
    (.ops [] [
        ⟨(some 2), (.op (.mv (.k (.slice none 0 0)))), none⟩,
        ⟨(some 3), (.op (.mv (.k (.bool false)))), none⟩])
    (.seq
      (.ops [] [
          ⟨(some 4), (.op (.mv (.k (.slice none 0 0)))), none⟩])
      (.seq
        (.seq
          (.ops [] [
              ⟨(some 5), (.op (.mv (.k (.int .i64 0)))), none⟩])
          (.block 0
            (.loop
              (.seq
                (.seq
                  (.ops [] [
                      ⟨(some 6), (.op (.mv (.t 5))), none⟩,
                      ⟨(some 7), (.op (.mv (.t 0))), none⟩,
                      ⟨(some 8), (.op (.lenStr (.t 7))), none⟩,
                      ⟨(some 9), (.op (.bin .lss (.t 6) (.t 8))), none⟩])
                  (.cond (.t 9)
                    .skip
                    (.exit 0)))
                (.seq
                  (.block 1
                    (.seq
                      (.seq
                        (.ops [] [
                            ⟨(some 12), (.op (.mv (.t 5))), none⟩,
                            ⟨(some 13), (.op (.bin .add (.t 12) (.k (.int .i64 1)))), none⟩,
                            ⟨(some 14), (.op (.mv (.t 0))), none⟩,
                            ⟨(some 15), (.op (.lenStr (.t 14))), none⟩,
                            ⟨(some 16), (.op (.bin .eql (.t 13) (.t 15))), none⟩,
                            ⟨(some 17), (.op (.mv (.t 16))), none⟩,
                            ⟨(some 18), (.op (.mv (.t 0))), (some (17, false))⟩,
                            ⟨(some 19), (.op (.mv (.t 5))), (some (17, false))⟩,
                            ⟨(some 20), (.op (.ixStr (.t 18) (.t 19))), (some (17, false))⟩,
                            ⟨(some 21), (.call (.k (.func (.func 40) #[] #[])) [(.t 20)]), (some (17, false))⟩,
                            ⟨(some 22), (.op (.bin .eql (.t 21) (.k (.int .u8 16)))), (some (17, false))⟩,
                            ⟨(some 23), (.op (.pick (.t 17) (.k (.bool true)) (.t 22))), none⟩,
                            ⟨(some 24), (.op (.mv (.t 23))), none⟩,
                            ⟨(some 25), (.op (.mv (.t 0))), (some (24, false))⟩,
                            ⟨(some 26), (.op (.mv (.t 5))), (some (24, false))⟩,
                            ⟨(some 27), (.op (.bin .add (.t 26) (.k (.int .i64 1)))), (some (24, false))⟩,
                            ⟨(some 28), (.op (.ixStr (.t 25) (.t 27))), (some (24, false))⟩,
                            ⟨(some 29), (.call (.k (.func (.func 40) #[] #[])) [(.t 28)]), (some (24, false))⟩,
                            ⟨(some 30), (.op (.bin .eql (.t 29) (.k (.int .u8 16)))), (some (24, false))⟩,
                            ⟨(some 31), (.op (.pick (.t 24) (.k (.bool true)) (.t 30))), none⟩])
                        (.cond (.t 31)
                          (.seq
                            (.ops [] [
                                ⟨(some 2), (.op (.mv (.k (.slice none 0 0)))), none⟩,
                                ⟨(some 3), (.op (.mv (.k (.bool false)))), none⟩])
                            .ret)
                          .skip))
                      (.ops [
                          ⟨(some 32), (.op (.mv (.t 4))), none⟩,
                          ⟨(some 33), (.op (.mv (.t 0))), none⟩,
                          ⟨(some 34), (.op (.mv (.t 5))), none⟩,
                          ⟨(some 35), (.op (.ixStr (.t 33) (.t 34))), none⟩,
                          ⟨(some 36), (.call (.k (.func (.func 40) #[] #[])) [(.t 35)]), none⟩,
                          ⟨(some 37), (.op (.bin .mul (.t 36) (.k (.int .u8 16)))), none⟩,
                          ⟨(some 38), (.op (.mv (.t 0))), none⟩,
                          ⟨(some 39), (.op (.mv (.t 5))), none⟩,
                          ⟨(some 40), (.op (.bin .add (.t 39) (.k (.int .i64 1)))), none⟩,
                          ⟨(some 41), (.op (.ixStr (.t 38) (.t 40))), none⟩,
                          ⟨(some 42), (.call (.k (.func (.func 40) #[] #[])) [(.t 41)]), none⟩,
                          ⟨(some 43), (.op (.bin .add (.t 37) (.t 42))), none⟩,
                          ⟨(some 44), (.op (.mkSl 1 [(.int .u8 0)] [(0, (1, (.t 43)))])), none⟩] [
                          ⟨(some 45), (.op (.append 1 1 (.t 32) (.t 44))), none⟩,
                          ⟨(some 4), (.op (.mv (.t 45))), none⟩])))
                  (.ops [] [
                      ⟨(some 10), (.op (.mv (.t 5))), none⟩,
                      ⟨(some 11), (.op (.bin .add (.t 10) (.k (.int .i64 2)))), none⟩,
                      ⟨(some 5), (.op (.mv (.t 11))), none⟩]))))))
        (.seq
          (.ops [] [
              ⟨(some 46), (.op (.mv (.t 4))), none⟩,
              ⟨(some 2), (.op (.mv (.t 46))), none⟩,
              ⟨(some 3), (.op (.mv (.k (.bool true)))), none⟩])
          .ret)))),
    [(.t 2), (.t 3)]⟩
theorem r_lanyardref01_Unhex : resolveFn Try.prog 21 = some c_lanyardref01_Unhex := by kernel_rfl

def c_octet_worth : RFn :=
  ⟨24,
    (.seq
    (.ops [] [
        ⟨(some 2), (.op (.mv (.k (.int .i64 0)))), none⟩])
    (.seq
      (.block 0
        (.seq
          (.ops [] [
              ⟨(some 4), (.op (.mv (.t 0))), none⟩,
              ⟨(some 5), (.op (.bin .geq (.t 4) (.k (.int .u8 48)))), none⟩,
              ⟨(some 6), (.op (.mv (.t 5))), none⟩,
              ⟨(some 7), (.op (.mv (.t 0))), (some (6, true))⟩,
              ⟨(some 8), (.op (.bin .leq (.t 7) (.k (.int .u8 57)))), (some (6, true))⟩,
              ⟨(some 9), (.op (.pick (.t 6) (.t 8) (.k (.bool false)))), none⟩,
              ⟨(some 3), (.op (.mv (.t 9))), none⟩])
          (.cond (.t 3)
            (.seq
              (.ops [] [
                  ⟨(some 10), (.op (.mv (.t 0))), none⟩,
                  ⟨(some 11), (.op (.bin .sub (.t 10) (.k (.int .u8 48)))), none⟩,
                  ⟨(some 12), (.op (.toInt .i64 (.t 11))), none⟩,
                  ⟨(some 2), (.op (.mv (.t 12))), none⟩])
              .ret)
            (.seq
              (.ops [] [
                  ⟨(some 14), (.op (.mv (.t 0))), none⟩,
                  ⟨(some 15), (.op (.bin .geq (.t 14) (.k (.int .u8 97)))), none⟩,
                  ⟨(some 16), (.op (.mv (.t 15))), none⟩,
                  ⟨(some 17), (.op (.mv (.t 0))), (some (16, true))⟩,
                  ⟨(some 18), (.op (.bin .leq (.t 17) (.k (.int .u8 102)))), (some (16, true))⟩,
                  ⟨(some 19), (.op (.pick (.t 16) (.t 18) (.k (.bool false)))), none⟩,
                  ⟨(some 13), (.op (.mv (.t 19))), none⟩])
              (.cond (.t 13)
                (.seq
                  (.ops [] [
                      ⟨(some 20), (.op (.mv (.t 0))), none⟩,
                      ⟨(some 21), (.op (.bin .sub (.t 20) (.k (.int .u8 97)))), none⟩,
                      ⟨(some 22), (.op (.toInt .i64 (.t 21))), none⟩,
                      ⟨(some 23), (.op (.bin .add (.t 22) (.k (.int .i64 10)))), none⟩,
                      ⟨(some 2), (.op (.mv (.t 23))), none⟩])
                  .ret)
                .skip)))))
      (.seq
        (.ops [] [
            ⟨(some 2), (.op (.mv (.k (.int .i64 (-1))))), none⟩])
        .ret))),
    [(.t 2)]⟩
theorem r_octet_worth : resolveFn Try.prog 39 = some c_octet_worth := by kernel_rfl

def c_lanyardref01_worth : RFn :=
  ⟨20,
    (.seq
    (.ops [] [
        ⟨(some 2), (.op (.mv (.k (.int .u8 0)))), none⟩])
    (.seq
      (.seq
        (.ops [] [
            ⟨(some 3), (.op (.mv (.t 0))), none⟩,
            ⟨(some 4), (.op (.bin .geq (.t 3) (.k (.int .u8 48)))), none⟩,
            ⟨(some 5), (.op (.mv (.t 4))), none⟩,
            ⟨(some 6), (.op (.mv (.t 0))), (some (5, true))⟩,
            ⟨(some 7), (.op (.bin .leq (.t 6) (.k (.int .u8 57)))), (some (5, true))⟩,
            ⟨(some 8), (.op (.pick (.t 5) (.t 7) (.k (.bool false)))), none⟩])
        (.cond (.t 8)
          (.seq
            (.ops [] [
                ⟨(some 9), (.op (.mv (.t 0))), none⟩,
                ⟨(some 10), (.op (.bin .sub (.t 9) (.k (.int .u8 48)))), none⟩,
                ⟨(some 2), (.op (.mv (.t 10))), none⟩])
            .ret)
          .skip))
      (.seq
        (.seq
          (.ops [] [
              ⟨(some 11), (.op (.mv (.t 0))), none⟩,
              ⟨(some 12), (.op (.bin .geq (.t 11) (.k (.int .u8 97)))), none⟩,
              ⟨(some 13), (.op (.mv (.t 12))), none⟩,
              ⟨(some 14), (.op (.mv (.t 0))), (some (13, true))⟩,
              ⟨(some 15), (.op (.bin .leq (.t 14) (.k (.int .u8 102)))), (some (13, true))⟩,
              ⟨(some 16), (.op (.pick (.t 13) (.t 15) (.k (.bool false)))), none⟩])
          (.cond (.t 16)
            (.seq
              (.ops [] [
                  ⟨(some 17), (.op (.mv (.t 0))), none⟩,
                  ⟨(some 18), (.op (.bin .sub (.t 17) (.k (.int .u8 97)))), none⟩,
                  ⟨(some 19), (.op (.bin .add (.t 18) (.k (.int .u8 10)))), none⟩,
                  ⟨(some 2), (.op (.mv (.t 19))), none⟩])
              .ret)
            .skip))
        (.seq
          (.ops [] [
              ⟨(some 2), (.op (.mv (.k (.int .u8 16)))), none⟩])
          .ret)))),
    [(.t 2)]⟩
theorem r_lanyardref01_worth : resolveFn Try.prog 40 = some c_lanyardref01_worth := by kernel_rfl

def c_lanyardref01_Hex : RFn :=
  ⟨27,
    (.seq
    (.ops [] [
        ⟨(some 2), (.op (.mv (.k (.string ⟨#[]⟩)))), none⟩])
    (.seq
      (.ops [] [
          ⟨(some 3), (.op (.mv (.k (.string ⟨#[]⟩)))), none⟩])
      (.seq
        (.seq
          (.ops [] [
              ⟨(some 4), (.op (.mv (.k (.int .i64 0)))), none⟩])
          (.block 0
            (.loop
              (.seq
                (.seq
                  (.ops [] [
                      ⟨(some 5), (.op (.mv (.t 4))), none⟩,
                      ⟨(some 6), (.op (.mv (.t 0))), none⟩,
                      ⟨(some 7), (.op (.lenSl (.t 6))), none⟩,
                      ⟨(some 8), (.op (.bin .lss (.t 5) (.t 7))), none⟩])
                  (.cond (.t 8)
                    .skip
                    (.exit 0)))
                (.seq
                  (.block 1
                    (.ops [
                        ⟨(some 11), (.op (.mv (.t 3))), none⟩,
                        ⟨(some 12), (.op (.mv (.t 0))), none⟩,
                        ⟨(some 13), (.op (.mv (.t 4))), none⟩,
                        ⟨(some 14), (.op (.ixAddr 1 (.t 12) (.t 13))), none⟩,
                        ⟨(some 15), (.op (.load1 (.t 14))), none⟩,
                        ⟨(some 16), (.op (.bin .quo (.t 15) (.k (.int .u8 16)))), none⟩,
                        ⟨(some 17), (.call (.k (.func (.func 42) #[] #[])) [(.t 16)]), none⟩,
                        ⟨(some 18), (.op (.bin .add (.t 11) (.t 17))), none⟩,
                        ⟨(some 19), (.op (.mv (.t 0))), none⟩,
                        ⟨(some 20), (.op (.mv (.t 4))), none⟩,
                        ⟨(some 21), (.op (.ixAddr 1 (.t 19) (.t 20))), none⟩,
                        ⟨(some 22), (.op (.load1 (.t 21))), none⟩,
                        ⟨(some 23), (.op (.bin .rem (.t 22) (.k (.int .u8 16)))), none⟩,
                        ⟨(some 24), (.call (.k (.func (.func 42) #[] #[])) [(.t 23)]), none⟩] [
                        ⟨(some 25), (.op (.bin .add (.t 18) (.t 24))), none⟩,
                        ⟨(some 3), (.op (.mv (.t 25))), none⟩]))
                  (.ops [] [
                      ⟨(some 9), (.op (.mv (.t 4))), none⟩,
                      ⟨(some 10), (.op (.bin .add (.t 9) (.k (.int .i64 1)))), none⟩,
                      ⟨(some 4), (.op (.mv (.t 10))), none⟩]))))))
        (.seq
          (.ops [] [
              ⟨(some 26), (.op (.mv (.t 3))), none⟩,
              ⟨(some 2), (.op (.mv (.t 26))), none⟩])
          .ret)))),
    [(.t 2)]⟩
theorem r_lanyardref01_Hex : resolveFn Try.prog 23 = some c_lanyardref01_Hex := by kernel_rfl

def c_lanyardref01_digit : RFn :=
  ⟨7,
    (.seq
    (.ops [] [
        ⟨(some 2), (.op (.mv (.k (.string ⟨#[]⟩)))), none⟩])
    (.seq
      (.ops [] [
          ⟨(some 3), (.op (.mv (.t 0))), none⟩,
          ⟨(some 4), (.op (.mv (.t 0))), none⟩,
          ⟨(some 5), (.op (.bin .add (.t 4) (.k (.int .u8 1)))), none⟩,
          ⟨(some 6), (.op (.slStr (.k (.string ⟨#[48, 49, 50, 51, 52, 53, 54, 55, 56, 57, 97, 98, 99, 100, 101, 102]⟩)) (some (.t 3)) (some (.t 5)))), none⟩,
          ⟨(some 2), (.op (.mv (.t 6))), none⟩])
      .ret)),
    [(.t 2)]⟩
theorem r_lanyardref01_digit : resolveFn Try.prog 42 = some c_lanyardref01_digit := by kernel_rfl

def c_lanyardlaw01_OctetDigits : RFn :=
  ⟨50,
    (.seq
    (.ops [] [
        ⟨(some 4), (.op (.mv (.k (.bool false)))), none⟩])
    (.seq
      (.ops [] [
          ⟨(some 10), (.call (.k (.func (.func 13) #[] #[])) []), none⟩,
          ⟨(some 5), (.op (.mv (.t 10))), none⟩])
      (.seq
        (.seq
          (.ops [] [
              ⟨(some 11), (.op (.mv (.t 0))), none⟩,
              ⟨(some 12), (.op (.lenSl (.t 11))), none⟩,
              ⟨(some 13), (.op (.bin .gtr (.t 12) (.k (.int .i64 1000)))), none⟩,
              ⟨(some 14), (.op (.mv (.t 13))), none⟩,
              ⟨(some 15), (.op (.mv (.t 1))), (some (14, false))⟩,
              ⟨(some 16), (.op (.lenStr (.t 15))), (some (14, false))⟩,
              ⟨(some 17), (.op (.bin .gtr (.t 16) (.k (.int .i64 2000)))), (some (14, false))⟩,
              ⟨(some 18), (.op (.pick (.t 14) (.k (.bool true)) (.t 17))), none⟩])
          (.cond (.t 18)
            (.seq
              (.ops [] [
                  ⟨(some 19), (.op (.mv (.t 5))), none⟩,
                  ⟨(some 4), (.op (.mv (.t 19))), none⟩])
              .ret)
            .skip))
        (.seq
          (.ops [] [
              ⟨(some 21), (.op (.mv (.t 1))), none⟩,
              ⟨(some 22), (.call (.k (.func (.func 20) #[] #[])) [(.t 21)]), none⟩,
              ⟨(some 20), (.op (.mv (.t 22))), none⟩,
              ⟨(some 23), (.op (.extract (.t 20) 0)), none⟩,
              ⟨(some 24), (.op (.extract (.t 20) 1)), none⟩,
              ⟨(some 6), (.op (.mv (.t 23))), none⟩,
              ⟨(some 7), (.op (.mv (.t 24))), none⟩])
          (.seq
            (.ops [] [
                ⟨(some 26), (.op (.mv (.t 1))), none⟩,
                ⟨(some 27), (.call (.k (.func (.func 21) #[] #[])) [(.t 26)]), none⟩,
                ⟨(some 25), (.op (.mv (.t 27))), none⟩,
                ⟨(some 28), (.op (.extract (.t 25) 0)), none⟩,
                ⟨(some 29), (.op (.extract (.t 25) 1)), none⟩,
                ⟨(some 8), (.op (.mv (.t 28))), none⟩,
                ⟨(some 9), (.op (.mv (.t 29))), none⟩])
            (.seq
              (.ops [] [
                  ⟨(some 30), (.op (.mv (.t 5))), none⟩,
                  ⟨(some 31), (.op (.mv (.t 30))), none⟩,
                  ⟨(some 32), (.op (.mv (.t 0))), (some (31, true))⟩,
                  ⟨(some 33), (.call (.k (.func (.func 22) #[] #[])) [(.t 32)]), (some (31, true))⟩,
                  ⟨(some 34), (.op (.mv (.t 0))), (some (31, true))⟩,
                  ⟨(some 35), (.call (.k (.func (.func 23) #[] #[])) [(.t 34)]), (some (31, true))⟩,
                  ⟨(some 36), (.op (.bin .eql (.t 33) (.t 35))), (some (31, true))⟩,
                  ⟨(some 37), (.op (.pick (.t 31) (.t 36) (.k (.bool false)))), none⟩,
                  ⟨(some 38), (.op (.mv (.t 37))), none⟩,
                  ⟨(some 39), (.op (.mv (.t 6))), (some (38, true))⟩,
                  ⟨(some 40), (.op (.b2s (.t 39))), (some (38, true))⟩,
                  ⟨(some 41), (.op (.mv (.t 8))), (some (38, true))⟩,
                  ⟨(some 42), (.op (.b2s (.t 41))), (some (38, true))⟩,
                  ⟨(some 43), (.op (.bin .eql (.t 40) (.t 42))), (some (38, true))⟩,
                  ⟨(some 44), (.op (.pick (.t 38) (.t 43) (.k (.bool false)))), none⟩,
                  ⟨(some 45), (.op (.mv (.t 44))), none⟩,
                  ⟨(some 46), (.op (.mv (.t 7))), (some (45, true))⟩,
                  ⟨(some 47), (.op (.mv (.t 9))), (some (45, true))⟩,
                  ⟨(some 48), (.op (.eqB false (.t 46) (.t 47))), (some (45, true))⟩,
                  ⟨(some 49), (.op (.pick (.t 45) (.t 48) (.k (.bool false)))), none⟩,
                  ⟨(some 4), (.op (.mv (.t 49))), none⟩])
              .ret)))))),
    [(.t 4)]⟩
theorem r_lanyardlaw01_OctetDigits : resolveFn Try.prog 4 = some c_lanyardlaw01_OctetDigits := by kernel_rfl

def c_octet_Cmp : RFn :=
  ⟨8,
    (.seq
    (.ops [] [
        ⟨(some 4), (.op (.mv (.k (.int .i64 0)))), none⟩])
    (.seq
      (.ops [] [
          ⟨(some 5), (.op (.mv (.t 0))), none⟩,
          ⟨(some 6), (.op (.mv (.t 1))), none⟩,
          ⟨(some 7), (.call (.k (.func (.func 43) #[] #[])) [(.t 5), (.t 6)]), none⟩,
          ⟨(some 4), (.op (.mv (.t 7))), none⟩])
      .ret)),
    [(.t 4)]⟩
theorem r_octet_Cmp : resolveFn Try.prog 24 = some c_octet_Cmp := by kernel_rfl

def c_lanyardref01_Cmp : RFn :=
  ⟨46,
    (.seq
    (.ops [] [
        ⟨(some 4), (.op (.mv (.k (.int .i64 0)))), none⟩])
    (.seq
      (.seq
        (.ops [] [
            ⟨(some 5), (.op (.mv (.k (.int .i64 0)))), none⟩])
        (.block 0
          (.loop
            (.seq
              (.seq
                (.ops [] [
                    ⟨(some 6), (.op (.mv (.t 5))), none⟩,
                    ⟨(some 7), (.op (.mv (.t 0))), none⟩,
                    ⟨(some 8), (.op (.lenSl (.t 7))), none⟩,
                    ⟨(some 9), (.op (.bin .lss (.t 6) (.t 8))), none⟩,
                    ⟨(some 10), (.op (.mv (.t 9))), none⟩,
                    ⟨(some 11), (.op (.mv (.t 5))), (some (10, true))⟩,
                    ⟨(some 12), (.op (.mv (.t 1))), (some (10, true))⟩,
                    ⟨(some 13), (.op (.lenSl (.t 12))), (some (10, true))⟩,
                    ⟨(some 14), (.op (.bin .lss (.t 11) (.t 13))), (some (10, true))⟩,
                    ⟨(some 15), (.op (.pick (.t 10) (.t 14) (.k (.bool false)))), none⟩])
                (.cond (.t 15)
                  .skip
                  (.exit 0)))
              (.seq
                (.block 1
                  (.seq
                    (.seq
                      (.ops [
                          ⟨(some 18), (.op (.mv (.t 0))), none⟩,
                          ⟨(some 19), (.op (.mv (.t 5))), none⟩,
                          ⟨(some 20), (.op (.ixAddr 1 (.t 18) (.t 19))), none⟩,
                          ⟨(some 21), (.op (.load1 (.t 20))), none⟩,
                          ⟨(some 22), (.op (.mv (.t 1))), none⟩,
                          ⟨(some 23), (.op (.mv (.t 5))), none⟩,
                          ⟨(some 24), (.op (.ixAddr 1 (.t 22) (.t 23))), none⟩,
                          ⟨(some 25), (.op (.load1 (.t 24))), none⟩] [
                          ⟨(some 26), (.op (.bin .lss (.t 21) (.t 25))), none⟩])
                      (.cond (.t 26)
                        (.seq
                          (.ops [] [
                              ⟨(some 4), (.op (.mv (.k (.int .i64 (-1))))), none⟩])
                          .ret)
                        .skip))
                    (.seq
                      (.ops [
                          ⟨(some 27), (.op (.mv (.t 0))), none⟩,
                          ⟨(some 28), (.op (.mv (.t 5))), none⟩,
                          ⟨(some 29), (.op (.ixAddr 1 (.t 27) (.t 28))), none⟩,
                          ⟨(some 30), (.op (.load1 (.t 29))), none⟩,
                          ⟨(some 31), (.op (.mv (.t 1))), none⟩,
                          ⟨(some 32), (.op (.mv (.t 5))), none⟩,
                          ⟨(some 33), (.op (.ixAddr 1 (.t 31) (.t 32))), none⟩,
                          ⟨(some 34), (.op (.load1 (.t 33))), none⟩] [
                          ⟨(some 35), (.op (.bin .gtr (.t 30) (.t 34))), none⟩])
                      (.cond (.t 35)
                        (.seq
                          (.ops [] [
                              ⟨(some 4), (.op (.mv (.k (.int .i64 1)))), none⟩])
                          .ret)
                        .skip))))
                (.ops [] [
                    ⟨(some 16), (.op (.mv (.t 5))), none⟩,
                    ⟨(some 17), (.op (.bin .add (.t 16) (.k (.int .i64 1)))), none⟩,
                    ⟨(some 5), (.op (.mv (.t 17))), none⟩]))))))
      (.seq
        (.seq
          (.ops [] [
              ⟨(some 36), (.op (.mv (.t 0))), none⟩,
              ⟨(some 37), (.op (.lenSl (.t 36))), none⟩,
              ⟨(some 38), (.op (.mv (.t 1))), none⟩,
              ⟨(some 39), (.op (.lenSl (.t 38))), none⟩,
              ⟨(some 40), (.op (.bin .lss (.t 37) (.t 39))), none⟩])
          (.cond (.t 40)
            (.seq
              (.ops [] [
                  ⟨(some 4), (.op (.mv (.k (.int .i64 (-1))))), none⟩])
              .ret)
            .skip))
        (.seq
          (.seq
            (.ops [] [
                ⟨(some 41), (.op (.mv (.t 0))), none⟩,
                ⟨(some 42), (.op (.lenSl (.t 41))), none⟩,
                ⟨(some 43), (.op (.mv (.t 1))), none⟩,
                ⟨(some 44), (.op (.lenSl (.t 43))), none⟩,
                ⟨(some 45), (.op (.bin .gtr (.t 42) (.t 44))), none⟩])
            (.cond (.t 45)
              (.seq
                (.ops [] [
                    ⟨(some 4), (.op (.mv (.k (.int .i64 1)))), none⟩])
                .ret)
              .skip))
          (.seq
            (.ops [] [
                ⟨(some 4), (.op (.mv (.k (.int .i64 0)))), none⟩])
            .ret))))),
    [(.t 4)]⟩
theorem r_lanyardref01_Cmp : resolveFn Try.prog 25 = some c_lanyardref01_Cmp := by kernel_rfl

def c_slices_Compare___byte_byte_ : RFn :=
  ⟨36,
    (.seq
    (.ops [] [
        ⟨(some 4), (.op (.mv (.k (.int .i64 0)))), none⟩])
    (.seq
      (.seq
        (.ops [] [
            ⟨(some 9), (.op (.mv (.t 0))), none⟩,
            ⟨(some 10), (.op (.lenSl (.t 9))), none⟩,
            ⟨(some 11), (.op (.mv (.k (.int .i64 0)))), none⟩])
        (.block 0
          (.loop
            (.seq
              (.ops [] [
                  ⟨(some 12), (.op (.bin .lss (.t 11) (.t 10))), none⟩])
              (.seq
                (.cond (.t 12)
                  .skip
                  (.exit 0))
                (.seq
                  (.block 1
                    (.seq
                      (.ops [] [
                          ⟨(some 13), (.op (.mv (.t 11))), none⟩,
                          ⟨(some 14), (.op (.ixAddr 1 (.t 9) (.t 11))), none⟩,
                          ⟨(some 15), (.op (.load1 (.t 14))), none⟩,
                          ⟨(some 5), (.op (.mv (.t 13))), none⟩,
                          ⟨(some 6), (.op (.mv (.t 15))), none⟩])
                      (.seq
                        (.seq
                          (.ops [] [
                              ⟨(some 16), (.op (.mv (.t 5))), none⟩,
                              ⟨(some 17), (.op (.mv (.t 1))), none⟩,
                              ⟨(some 18), (.op (.lenSl (.t 17))), none⟩,
                              ⟨(some 19), (.op (.bin .geq (.t 16) (.t 18))), none⟩])
                          (.cond (.t 19)
                            (.seq
                              (.ops [] [
                                  ⟨(some 4), (.op (.mv (.k (.int .i64 1)))), none⟩])
                              .ret)
                            .skip))
                        (.seq
                          (.ops [] [
                              ⟨(some 20), (.op (.mv (.t 1))), none⟩,
                              ⟨(some 21), (.op (.mv (.t 5))), none⟩,
                              ⟨(some 22), (.op (.ixAddr 1 (.t 20) (.t 21))), none⟩,
                              ⟨(some 23), (.op (.load1 (.t 22))), none⟩,
                              ⟨(some 7), (.op (.mv (.t 23))), none⟩])
                          (.seq
                            (.ops [] [
                                ⟨(some 24), (.op (.mv (.t 6))), none⟩,
                                ⟨(some 25), (.op (.mv (.t 7))), none⟩,
                                ⟨(some 26), (.call (.k (.func (.func 53) #[] #[])) [(.t 24), (.t 25)]), none⟩,
                                ⟨(some 8), (.op (.mv (.t 26))), none⟩])
                            (.seq
                              (.ops [] [
                                  ⟨(some 27), (.op (.mv (.t 8))), none⟩,
                                  ⟨(some 28), (.op (.bin .neq (.t 27) (.k (.int .i64 0)))), none⟩])
                              (.cond (.t 28)
                                (.seq
                                  (.ops [] [
                                      ⟨(some 29), (.op (.mv (.t 8))), none⟩,
                                      ⟨(some 4), (.op (.mv (.t 29))), none⟩])
                                  .ret)
                                .skip)))))))
                  (.ops [] [
                      ⟨(some 30), (.op (.bin .add (.t 11) (.k (.int .i64 1)))), none⟩,
                      ⟨(some 11), (.op (.mv (.t 30))), none⟩])))))))
      (.seq
        (.seq
          (.ops [] [
              ⟨(some 31), (.op (.mv (.t 0))), none⟩,
              ⟨(some 32), (.op (.lenSl (.t 31))), none⟩,
              ⟨(some 33), (.op (.mv (.t 1))), none⟩,
              ⟨(some 34), (.op (.lenSl (.t 33))), none⟩,
              ⟨(some 35), (.op (.bin .lss (.t 32) (.t 34))), none⟩])
          (.cond (.t 35)
            (.seq
              (.ops [] [
                  ⟨(some 4), (.op (.mv (.k (.int .i64 (-1))))), none⟩])
              .ret)
            .skip))
        (.seq
          (.ops [] [
              ⟨(some 4), (.op (.mv (.k (.int .i64 0)))), none⟩])
          .ret)))),
    [(.t 4)]⟩
theorem r_slices_Compare___byte_byte_ : resolveFn Try.prog 43 = some c_slices_Compare___byte_byte_ := by kernel_rfl

def c_cmp_Compare_byte_ : RFn :=
  ⟨20,
    (.seq
    (.ops [] [
        ⟨(some 4), (.op (.mv (.k (.int .i64 0)))), none⟩])
    (.seq
      (.ops [] [
          ⟨(some 7), (.op (.mv (.t 0))), none⟩,
          ⟨(some 8), (.call (.k (.func (.func 55) #[] #[])) [(.t 7)]), none⟩,
          ⟨(some 5), (.op (.mv (.t 8))), none⟩])
      (.seq
        (.ops [] [
            ⟨(some 9), (.op (.mv (.t 1))), none⟩,
            ⟨(some 10), (.call (.k (.func (.func 55) #[] #[])) [(.t 9)]), none⟩,
            ⟨(some 6), (.op (.mv (.t 10))), none⟩])
        (.seq
          (.seq
            (.ops [] [
                ⟨(some 11), (.op (.mv (.t 5))), none⟩])
            (.cond (.t 11)
              (.seq
                (.seq
                  (.ops [] [
                      ⟨(some 12), (.op (.mv (.t 6))), none⟩])
                  (.cond (.t 12)
                    (.seq
                      (.ops [] [
                          ⟨(some 4), (.op (.mv (.k (.int .i64 0)))), none⟩])
                      .ret)
                    .skip))
                (.seq
                  (.ops [] [
                      ⟨(some 4), (.op (.mv (.k (.int .i64 (-1))))), none⟩])
                  .ret))
              .skip))
          (.seq
            (.seq
              (.ops [] [
                  ⟨(some 13), (.op (.mv (.t 6))), none⟩])
              (.cond (.t 13)
                (.seq
                  (.ops [] [
                      ⟨(some 4), (.op (.mv (.k (.int .i64 1)))), none⟩])
                  .ret)
                .skip))
            (.seq
              (.seq
                (.ops [] [
                    ⟨(some 14), (.op (.mv (.t 0))), none⟩,
                    ⟨(some 15), (.op (.mv (.t 1))), none⟩,
                    ⟨(some 16), (.op (.bin .lss (.t 14) (.t 15))), none⟩])
                (.cond (.t 16)
                  (.seq
                    (.ops [] [
                        ⟨(some 4), (.op (.mv (.k (.int .i64 (-1))))), none⟩])
                    .ret)
                  .skip))
              (.seq
                (.seq
                  (.ops [] [
                      ⟨(some 17), (.op (.mv (.t 0))), none⟩,
                      ⟨(some 18), (.op (.mv (.t 1))), none⟩,
                      ⟨(some 19), (.op (.bin .gtr (.t 17) (.t 18))), none⟩])
                  (.cond (.t 19)
                    (.seq
                      (.ops [] [
                          ⟨(some 4), (.op (.mv (.k (.int .i64 1)))), none⟩])
                      .ret)
                    .skip))
                (.seq
                  (.ops [] [
                      ⟨(some 4), (.op (.mv (.k (.int .i64 0)))), none⟩])
                  .ret)))))))),
    [(.t 4)]⟩
theorem r_cmp_Compare_byte_ : resolveFn Try.prog 53 = some c_cmp_Compare_byte_ := by kernel_rfl

def c_cmp_isNaN_byte_ : RFn :=
  ⟨6,
    (.seq
    (.ops [] [
        ⟨(some 2), (.op (.mv (.k (.bool false)))), none⟩])
    (.seq
      (.ops [] [
          ⟨(some 3), (.op (.mv (.t 0))), none⟩,
          ⟨(some 4), (.op (.mv (.t 0))), none⟩,
          ⟨(some 5), (.op (.bin .neq (.t 3) (.t 4))), none⟩,
          ⟨(some 2), (.op (.mv (.t 5))), none⟩])
      .ret)),
    [(.t 2)]⟩
theorem r_cmp_isNaN_byte_ : resolveFn Try.prog 55 = some c_cmp_isNaN_byte_ := by kernel_rfl

def c_lanyardlaw01_OctetOrders : RFn :=
  ⟨26,
    (.seq
    (.ops [] [
        ⟨(some 4), (.op (.mv (.k (.bool false)))), none⟩])
    (.seq
      (.ops [] [
          ⟨(some 6), (.call (.k (.func (.func 13) #[] #[])) []), none⟩,
          ⟨(some 5), (.op (.mv (.t 6))), none⟩])
      (.seq
        (.seq
          (.ops [] [
              ⟨(some 7), (.op (.mv (.t 0))), none⟩,
              ⟨(some 8), (.op (.lenSl (.t 7))), none⟩,
              ⟨(some 9), (.op (.bin .gtr (.t 8) (.k (.int .i64 1000)))), none⟩,
              ⟨(some 10), (.op (.mv (.t 9))), none⟩,
              ⟨(some 11), (.op (.mv (.t 1))), (some (10, false))⟩,
              ⟨(some 12), (.op (.lenSl (.t 11))), (some (10, false))⟩,
              ⟨(some 13), (.op (.bin .gtr (.t 12) (.k (.int .i64 1000)))), (some (10, false))⟩,
              ⟨(some 14), (.op (.pick (.t 10) (.k (.bool true)) (.t 13))), none⟩])
          (.cond (.t 14)
            (.seq
              (.ops [] [
                  ⟨(some 15), (.op (.mv (.t 5))), none⟩,
                  ⟨(some 4), (.op (.mv (.t 15))), none⟩])
              .ret)
            .skip))
        (.seq
          (.ops [] [
              ⟨(some 16), (.op (.mv (.t 5))), none⟩,
              ⟨(some 17), (.op (.mv (.t 16))), none⟩,
              ⟨(some 18), (.op (.mv (.t 0))), (some (17, true))⟩,
              ⟨(some 19), (.op (.mv (.t 1))), (some (17, true))⟩,
              ⟨(some 20), (.call (.k (.func (.func 24) #[] #[])) [(.t 18), (.t 19)]), (some (17, true))⟩,
              ⟨(some 21), (.op (.mv (.t 0))), (some (17, true))⟩,
              ⟨(some 22), (.op (.mv (.t 1))), (some (17, true))⟩,
              ⟨(some 23), (.call (.k (.func (.func 25) #[] #[])) [(.t 21), (.t 22)]), (some (17, true))⟩,
              ⟨(some 24), (.op (.bin .eql (.t 20) (.t 23))), (some (17, true))⟩,
              ⟨(some 25), (.op (.pick (.t 17) (.t 24) (.k (.bool false)))), none⟩,
              ⟨(some 4), (.op (.mv (.t 25))), none⟩])
          .ret)))),
    [(.t 4)]⟩
theorem r_lanyardlaw01_OctetOrders : resolveFn Try.prog 6 = some c_lanyardlaw01_OctetOrders := by kernel_rfl

def c_lanyardlaw01_OctetBack : RFn :=
  ⟨90,
    (.seq
    (.ops [] [
        ⟨(some 6), (.op (.mv (.k (.bool false)))), none⟩])
    (.seq
      (.ops [] [
          ⟨(some 15), (.call (.k (.func (.func 13) #[] #[])) []), none⟩,
          ⟨(some 7), (.op (.mv (.t 15))), none⟩])
      (.seq
        (.seq
          (.ops [] [
              ⟨(some 16), (.op (.mv (.t 0))), none⟩,
              ⟨(some 17), (.op (.lenSl (.t 16))), none⟩,
              ⟨(some 18), (.op (.bin .gtr (.t 17) (.k (.int .i64 1000)))), none⟩,
              ⟨(some 19), (.op (.mv (.t 18))), none⟩,
              ⟨(some 20), (.op (.mv (.t 1))), (some (19, false))⟩,
              ⟨(some 21), (.op (.lenStr (.t 20))), (some (19, false))⟩,
              ⟨(some 22), (.op (.bin .gtr (.t 21) (.k (.int .i64 1000)))), (some (19, false))⟩,
              ⟨(some 23), (.op (.pick (.t 19) (.k (.bool true)) (.t 22))), none⟩])
          (.cond (.t 23)
            (.seq
              (.ops [] [
                  ⟨(some 24), (.op (.mv (.t 7))), none⟩,
                  ⟨(some 6), (.op (.mv (.t 24))), none⟩])
              .ret)
            .skip))
        (.seq
          (.ops [] [
              ⟨(some 26), (.op (.mv (.t 0))), none⟩,
              ⟨(some 27), (.call (.k (.func (.func 22) #[] #[])) [(.t 26)]), none⟩,
              ⟨(some 28), (.call (.k (.func (.func 20) #[] #[])) [(.t 27)]), none⟩,
              ⟨(some 25), (.op (.mv (.t 28))), none⟩,
              ⟨(some 29), (.op (.extract (.t 25) 0)), none⟩,
              ⟨(some 30), (.op (.extract (.t 25) 1)), none⟩,
              ⟨(some 8), (.op (.mv (.t 29))), none⟩,
              ⟨(some 9), (.op (.mv (.t 30))), none⟩])
          (.seq
            (.ops [] [
                ⟨(some 32), (.op (.mv (.t 1))), none⟩,
                ⟨(some 33), (.call (.k (.func (.func 20) #[] #[])) [(.t 32)]), none⟩,
                ⟨(some 31), (.op (.mv (.t 33))), none⟩,
                ⟨(some 34), (.op (.extract (.t 31) 0)), none⟩,
                ⟨(some 35), (.op (.extract (.t 31) 1)), none⟩,
                ⟨(some 10), (.op (.mv (.t 34))), none⟩,
                ⟨(some 11), (.op (.mv (.t 35))), none⟩])
            (.seq
              (.ops [] [
                  ⟨(some 36), (.op (.mv (.t 2))), none⟩,
                  ⟨(some 37), (.call (.k (.func (.func 18) #[] #[])) [(.t 36)]), none⟩,
                  ⟨(some 12), (.op (.mv (.t 37))), none⟩])
              (.seq
                (.ops [] [
                    ⟨(some 39), (.op (.mv (.t 12))), none⟩,
                    ⟨(some 40), (.call (.k (.func (.func 14) #[] #[])) [(.t 39)]), none⟩,
                    ⟨(some 38), (.op (.mv (.t 40))), none⟩,
                    ⟨(some 41), (.op (.extract (.t 38) 0)), none⟩,
                    ⟨(some 42), (.op (.extract (.t 38) 1)), none⟩,
                    ⟨(some 13), (.op (.mv (.t 41))), none⟩,
                    ⟨(some 14), (.op (.mv (.t 42))), none⟩])
                (.seq
                  (.seq
                    (.ops [] [
                        ⟨(some 43), (.op (.mv (.t 11))), none⟩,
                        ⟨(some 44), (.op (.mv (.t 43))), none⟩,
                        ⟨(some 45), (.op (.mv (.t 10))), (some (44, true))⟩,
                        ⟨(some 46), (.call (.k (.func (.func 22) #[] #[])) [(.t 45)]), (some (44, true))⟩,
                        ⟨(some 47), (.op (.mv (.t 1))), (some (44, true))⟩,
                        ⟨(some 48), (.op (.bin .neq (.t 46) (.t 47))), (some (44, true))⟩,
                        ⟨(some 49), (.op (.pick (.t 44) (.t 48) (.k (.bool false)))), none⟩])
                    (.cond (.t 49)
                      (.seq
                        (.ops [] [
                            ⟨(some 6), (.op (.mv (.k (.bool false)))), none⟩])
                        .ret)
                      .skip))
                  (.seq
                    (.ops [] [
                        ⟨(some 50), (.op (.mv (.t 7))), none⟩,
                        ⟨(some 51), (.op (.mv (.t 50))), none⟩,
                        ⟨(some 52), (.op (.mv (.t 9))), (some (51, true))⟩,
                        ⟨(some 53), (.op (.pick (.t 51) (.t 52) (.k (.bool false)))), none⟩,
                        ⟨(some 54), (.op (.mv (.t 53))), none⟩,
                        ⟨(some 55), (.op (.mv (.t 8))), (some (54, true))⟩,
                        ⟨(some 56), (.op (.b2s (.t 55))), (some (54, true))⟩,
                        ⟨(some 57), (.op (.mv (.t 0))), (some (54, true))⟩,
                        ⟨(some 58), (.op (.b2s (.t 57))), (some (54, true))⟩,
                        ⟨(some 59), (.op (.bin .eql (.t 56) (.t 58))), (some (54, true))⟩,
                        ⟨(some 60), (.op (.pick (.t 54) (.t 59) (.k (.bool false)))), none⟩,
                        ⟨(some 61), (.op (.mv (.t 60))), none⟩,
                        ⟨(some 62), (.op (.mv (.t 13))), (some (61, true))⟩,
                        ⟨(some 63), (.op (.mv (.t 2))), (some (61, true))⟩,
                        ⟨(some 64), (.op (.bin .eql (.t 62) (.t 63))), (some (61, true))⟩,
                        ⟨(some 65), (.op (.pick (.t 61) (.t 64) (.k (.bool false)))), none⟩,
                        ⟨(some 66), (.op (.mv (.t 65))), none⟩,
                        ⟨(some 67), (.op (.mv (.t 14))), (some (66, true))⟩,
                        ⟨(some 68), (.op (.pick (.t 66) (.t 67) (.k (.bool false)))), none⟩,
                        ⟨(some 69), (.op (.mv (.t 68))), none⟩,
                        ⟨(some 70), (.op (.mv (.t 12))), (some (69, true))⟩,
                        ⟨(some 71), (.op (.lenSl (.t 70))), (some (69, true))⟩,
                        ⟨(some 72), (.op (.bin .geq (.t 71) (.k (.int .i64 1)))), (some (69, true))⟩,
                        ⟨(some 73), (.op (.pick (.t 69) (.t 72) (.k (.bool false)))), none⟩,
                        ⟨(some 74), (.op (.mv (.t 73))), none⟩,
                        ⟨(some 75), (.op (.mv (.t 12))), (some (74, true))⟩,
                        ⟨(some 76), (.op (.lenSl (.t 75))), (some (74, true))⟩,
                        ⟨(some 77), (.op (.bin .leq (.t 76) (.k (.int .i64 8)))), (some (74, true))⟩,
                        ⟨(some 78), (.op (.pick (.t 74) (.t 77) (.k (.bool false)))), none⟩,
                        ⟨(some 79), (.op (.mv (.t 78))), none⟩,
                        ⟨(some 80), (.op (.mv (.t 12))), (some (79, true))⟩,
                        ⟨(some 81), (.op (.lenSl (.t 80))), (some (79, true))⟩,
                        ⟨(some 82), (.op (.bin .eql (.t 81) (.k (.int .i64 1)))), (some (79, true))⟩,
                        ⟨(some 83), (.op (.mv (.t 82))), (some (79, true))⟩,
                        ⟨(some 84), (.op (.mv (.t 12))), (some (83, false))⟩,
                        ⟨(some 85), (.op (.ixAddr 1 (.t 84) (.k (.int .i64 0)))), (some (83, false))⟩,
                        ⟨(some 86), (.op (.load1 (.t 85))), (some (83, false))⟩,
                        ⟨(some 87), (.op (.bin .neq (.t 86) (.k (.int .u8 0)))), (some (83, false))⟩,
                        ⟨(some 88), (.op (.pick (.t 83) (.k (.bool true)) (.t 87))), (some (79, true))⟩,
                        ⟨(some 89), (.op (.pick (.t 79) (.t 88) (.k (.bool false)))), none⟩,
                        ⟨(some 6), (.op (.mv (.t 89))), none⟩])
                    .ret))))))))),
    [(.t 6)]⟩
theorem r_lanyardlaw01_OctetBack : resolveFn Try.prog 5 = some c_lanyardlaw01_OctetBack := by kernel_rfl

def c_lanyardlaw01_OctetSame : RFn :=
  ⟨73,
    (.seq
    (.ops [] [
        ⟨(some 6), (.op (.mv (.k (.bool false)))), none⟩])
    (.seq
      (.ops [] [
          ⟨(some 13), (.call (.k (.func (.func 13) #[] #[])) []), none⟩,
          ⟨(some 7), (.op (.mv (.t 13))), none⟩])
      (.seq
        (.ops [] [
            ⟨(some 15), (.op (.mv (.t 0))), none⟩,
            ⟨(some 16), (.op (.mv (.t 2))), none⟩,
            ⟨(some 17), (.call (.k (.func (.func 16) #[] #[])) [(.t 15), (.t 16)]), none⟩,
            ⟨(some 14), (.op (.mv (.t 17))), none⟩,
            ⟨(some 18), (.op (.extract (.t 14) 0)), none⟩,
            ⟨(some 19), (.op (.extract (.t 14) 1)), none⟩,
            ⟨(some 8), (.op (.mv (.t 18))), none⟩,
            ⟨(some 9), (.op (.mv (.t 19))), none⟩])
        (.seq
          (.ops [] [
              ⟨(some 21), (.op (.mv (.t 1))), none⟩,
              ⟨(some 22), (.op (.mv (.t 2))), none⟩,
              ⟨(some 23), (.call (.k (.func (.func 16) #[] #[])) [(.t 21), (.t 22)]), none⟩,
              ⟨(some 20), (.op (.mv (.t 23))), none⟩,
              ⟨(some 24), (.op (.extract (.t 20) 0)), none⟩,
              ⟨(some 25), (.op (.extract (.t 20) 1)), none⟩,
              ⟨(some 10), (.op (.mv (.t 24))), none⟩,
              ⟨(some 11), (.op (.mv (.t 25))), none⟩])
          (.seq
            (.seq
              (.ops [] [
                  ⟨(some 26), (.op (.mv (.t 9))), none⟩,
                  ⟨(some 27), (.op (.un .not (.t 26))), none⟩,
                  ⟨(some 28), (.op (.mv (.t 27))), none⟩,
                  ⟨(some 29), (.op (.mv (.t 11))), (some (28, false))⟩,
                  ⟨(some 30), (.op (.un .not (.t 29))), (some (28, false))⟩,
                  ⟨(some 31), (.op (.pick (.t 28) (.k (.bool true)) (.t 30))), none⟩])
              (.cond (.t 31)
                (.seq
                  (.ops [] [
                      ⟨(some 32), (.op (.mv (.t 7))), none⟩,
                      ⟨(some 6), (.op (.mv (.t 32))), none⟩])
                  .ret)
                .skip))
            (.seq
              (.ops [] [
                  ⟨(some 33), (.op (.mv (.t 8))), none⟩,
                  ⟨(some 34), (.op (.mv (.t 10))), none⟩,
                  ⟨(some 35), (.call (.k (.func (.func 24) #[] #[])) [(.t 33), (.t 34)]), none⟩,
                  ⟨(some 12), (.op (.mv (.t 35))), none⟩])
              (.seq
                (.ops [] [
                    ⟨(some 36), (.op (.mv (.t 7))), none⟩,
                    ⟨(some 37), (.op (.mv (.t 36))), none⟩,
                    ⟨(some 38), (.op (.mv (.t 8))), (some (37, true))⟩,
                    ⟨(some 39), (.op (.lenSl (.t 38))), (some (37, true))⟩,
                    ⟨(some 40), (.op (.mv (.t 2))), (some (37, true))⟩,
                    ⟨(some 41), (.op (.bin .eql (.t 39) (.t 40))), (some (37, true))⟩,
                    ⟨(some 42), (.op (.pick (.t 37) (.t 41) (.k (.bool false)))), none⟩,
                    ⟨(some 43), (.op (.mv (.t 42))), none⟩,
                    ⟨(some 44), (.op (.mv (.t 10))), (some (43, true))⟩,
                    ⟨(some 45), (.op (.lenSl (.t 44))), (some (43, true))⟩,
                    ⟨(some 46), (.op (.mv (.t 2))), (some (43, true))⟩,
                    ⟨(some 47), (.op (.bin .eql (.t 45) (.t 46))), (some (43, true))⟩,
                    ⟨(some 48), (.op (.pick (.t 43) (.t 47) (.k (.bool false)))), none⟩,
                    ⟨(some 49), (.op (.mv (.t 48))), none⟩,
                    ⟨(some 50), (.op (.mv (.t 12))), (some (49, true))⟩,
                    ⟨(some 51), (.op (.bin .lss (.t 50) (.k (.int .i64 0)))), (some (49, true))⟩,
                    ⟨(some 52), (.op (.mv (.t 0))), (some (49, true))⟩,
                    ⟨(some 53), (.op (.mv (.t 1))), (some (49, true))⟩,
                    ⟨(some 54), (.op (.bin .lss (.t 52) (.t 53))), (some (49, true))⟩,
                    ⟨(some 55), (.op (.eqB false (.t 51) (.t 54))), (some (49, true))⟩,
                    ⟨(some 56), (.op (.pick (.t 49) (.t 55) (.k (.bool false)))), none⟩,
                    ⟨(some 57), (.op (.mv (.t 56))), none⟩,
                    ⟨(some 58), (.op (.mv (.t 12))), (some (57, true))⟩,
                    ⟨(some 59), (.op (.bin .eql (.t 58) (.k (.int .i64 0)))), (some (57, true))⟩,
                    ⟨(some 60), (.op (.mv (.t 0))), (some (57, true))⟩,
                    ⟨(some 61), (.op (.mv (.t 1))), (some (57, true))⟩,
                    ⟨(some 62), (.op (.bin .eql (.t 60) (.t 61))), (some (57, true))⟩,
                    ⟨(some 63), (.op (.eqB false (.t 59) (.t 62))), (some (57, true))⟩,
                    ⟨(some 64), (.op (.pick (.t 57) (.t 63) (.k (.bool false)))), none⟩,
                    ⟨(some 65), (.op (.mv (.t 64))), none⟩,
                    ⟨(some 66), (.op (.mv (.t 10))), (some (65, true))⟩,
                    ⟨(some 67), (.op (.mv (.t 8))), (some (65, true))⟩,
                    ⟨(some 68), (.call (.k (.func (.func 24) #[] #[])) [(.t 66), (.t 67)]), (some (65, true))⟩,
                    ⟨(some 69), (.op (.mv (.t 12))), (some (65, true))⟩,
                    ⟨(some 70), (.op (.un .neg (.t 69))), (some (65, true))⟩,
                    ⟨(some 71), (.op (.bin .eql (.t 68) (.t 70))), (some (65, true))⟩,
                    ⟨(some 72), (.op (.pick (.t 65) (.t 71) (.k (.bool false)))), none⟩,
                    ⟨(some 6), (.op (.mv (.t 72))), none⟩])
                .ret))))))),
    [(.t 6)]⟩
theorem r_lanyardlaw01_OctetSame : resolveFn Try.prog 7 = some c_lanyardlaw01_OctetSame := by kernel_rfl

end Go.Ga
