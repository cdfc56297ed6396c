import Derived.Test.YtndikkpmlofebaaProg
import Derived.Test.YtndikkpmlofebaaGaStep
import Derived.KernelRfl
namespace Go.Ga
open Go Go.Proofs
set_option maxRecDepth 100000

def c_octet_Num : RFn :=
  ⟨29,
    (.seq
    (.ops [] [
        ⟨(some 2), (.op (.mv (.k (.int .u64 0)))), none⟩,
        ⟨(some 3), (.op (.mv (.k (.bool false)))), none⟩])
    (.seq
      (.block 0
        (.loop
          (.seq
            (.seq
              (.ops [] [
                  ⟨(some 7), (.op (.mv (.t 0))), none⟩,
                  ⟨(some 8), (.op (.lenSl (.t 7))), none⟩,
                  ⟨(some 9), (.op (.bin .gtr (.t 8) (.k (.int .i64 8)))), none⟩])
              (.cond (.t 9)
                .skip
                (.exit 0)))
            (.block 1
              (.seq
                (.seq
                  (.ops [] [
                      ⟨(some 10), (.op (.mv (.t 0))), none⟩,
                      ⟨(some 11), (.op (.ixAddr 1 (.t 10) (.k (.int .i64 0)))), none⟩,
                      ⟨(some 12), (.op (.load1 (.t 11))), none⟩,
                      ⟨(some 13), (.op (.bin .neq (.t 12) (.k (.int .u8 0)))), none⟩])
                  (.cond (.t 13)
                    (.seq
                      (.ops [] [
                          ⟨(some 2), (.op (.mv (.k (.int .u64 0)))), none⟩,
                          ⟨(some 3), (.op (.mv (.k (.bool false)))), none⟩])
                      .ret)
                    .skip))
                (.ops [] [
                    ⟨(some 14), (.op (.mv (.t 0))), none⟩,
                    ⟨(some 15), (.op (.sl 1 (.t 14) (some (.k (.int .i64 1))) none none)), none⟩,
                    ⟨(some 0), (.op (.mv (.t 15))), none⟩]))))))
      (.seq
        (.ops [] [
            ⟨(some 4), (.op (.mv (.k (.int .u64 0)))), none⟩])
        (.seq
          (.seq
            (.ops [] [
                ⟨(some 16), (.op (.mv (.t 0))), none⟩,
                ⟨(some 17), (.op (.lenSl (.t 16))), none⟩,
                ⟨(some 18), (.op (.mv (.k (.int .i64 0)))), none⟩])
            (.block 2
              (.loop
                (.seq
                  (.ops [] [
                      ⟨(some 19), (.op (.bin .lss (.t 18) (.t 17))), none⟩])
                  (.seq
                    (.cond (.t 19)
                      .skip
                      (.exit 2))
                    (.seq
                      (.block 3
                        (.seq
                          (.ops [] [
                              ⟨(some 20), (.op (.ixAddr 1 (.t 16) (.t 18))), none⟩,
                              ⟨(some 21), (.op (.load1 (.t 20))), none⟩,
                              ⟨(some 6), (.op (.mv (.t 21))), none⟩])
                          (.ops [] [
                              ⟨(some 22), (.op (.mv (.t 4))), none⟩,
                              ⟨(some 23), (.op (.bin .shl (.t 22) (.k (.int .u64 8)))), none⟩,
                              ⟨(some 24), (.op (.mv (.t 6))), none⟩,
                              ⟨(some 25), (.op (.toInt .u64 (.t 24))), none⟩,
                              ⟨(some 26), (.op (.bin .or (.t 23) (.t 25))), none⟩,
                              ⟨(some 4), (.op (.mv (.t 26))), none⟩])))
                      (.ops [] [
                          ⟨(some 27), (.op (.bin .add (.t 18) (.k (.int .i64 1)))), none⟩,
                          ⟨(some 18), (.op (.mv (.t 27))), none⟩])))))))
          (.seq
            (.ops [] [
                ⟨(some 28), (.op (.mv (.t 4))), none⟩,
                ⟨(some 2), (.op (.mv (.t 28))), none⟩,
                ⟨(some 3), (.op (.mv (.k (.bool true)))), none⟩])
            .ret))))),
    [(.t 2), (.t 3)]⟩
theorem r_octet_Num : resolveFn Try.prog 14 = some c_octet_Num := by kernel_rfl

def c_lanyardref01_Num : RFn :=
  ⟨23,
    (.seq
    (.ops [] [
        ⟨(some 2), (.op (.mv (.k (.int .u64 0)))), none⟩,
        ⟨(some 3), (.op (.mv (.k (.bool false)))), none⟩])
    (.seq
      (.ops [] [
          ⟨(some 4), (.op (.mv (.k (.int .u64 0)))), none⟩])
      (.seq
        (.seq
          (.ops [] [
              ⟨(some 5), (.op (.mv (.k (.int .i64 0)))), none⟩])
          (.block 0
            (.loop
              (.seq
                (.seq
                  (.ops [] [
                      ⟨(some 6), (.op (.mv (.t 5))), none⟩,
                      ⟨(some 7), (.op (.mv (.t 0))), none⟩,
                      ⟨(some 8), (.op (.lenSl (.t 7))), none⟩,
                      ⟨(some 9), (.op (.bin .lss (.t 6) (.t 8))), none⟩])
                  (.cond (.t 9)
                    .skip
                    (.exit 0)))
                (.seq
                  (.block 1
                    (.seq
                      (.seq
                        (.ops [] [
                            ⟨(some 12), (.op (.mv (.t 4))), none⟩,
                            ⟨(some 13), (.op (.bin .geq (.t 12) (.k (.int .u64 72057594037927936)))), none⟩])
                        (.cond (.t 13)
                          (.seq
                            (.ops [] [
                                ⟨(some 2), (.op (.mv (.k (.int .u64 0)))), none⟩,
                                ⟨(some 3), (.op (.mv (.k (.bool false)))), none⟩])
                            .ret)
                          .skip))
                      (.ops [] [
                          ⟨(some 14), (.op (.mv (.t 4))), none⟩,
                          ⟨(some 15), (.op (.bin .mul (.t 14) (.k (.int .u64 256)))), none⟩,
                          ⟨(some 16), (.op (.mv (.t 0))), none⟩,
                          ⟨(some 17), (.op (.mv (.t 5))), none⟩,
                          ⟨(some 18), (.op (.ixAddr 1 (.t 16) (.t 17))), none⟩,
                          ⟨(some 19), (.op (.load1 (.t 18))), none⟩,
                          ⟨(some 20), (.op (.toInt .u64 (.t 19))), none⟩,
                          ⟨(some 21), (.op (.bin .add (.t 15) (.t 20))), none⟩,
                          ⟨(some 4), (.op (.mv (.t 21))), none⟩])))
                  (.ops [] [
                      ⟨(some 10), (.op (.mv (.t 5))), none⟩,
                      ⟨(some 11), (.op (.bin .add (.t 10) (.k (.int .i64 1)))), none⟩,
                      ⟨(some 5), (.op (.mv (.t 11))), none⟩]))))))
        (.seq
          (.ops [] [
              ⟨(some 22), (.op (.mv (.t 4))), none⟩,
              ⟨(some 2), (.op (.mv (.t 22))), none⟩,
              ⟨(some 3), (.op (.mv (.k (.bool true)))), none⟩])
          .ret)))),
    [(.t 2), (.t 3)]⟩
theorem r_lanyardref01_Num : resolveFn Try.prog 15 = some c_lanyardref01_Num := by kernel_rfl

def c_octet_Bytes : RFn :=
  ⟨45,
    (.seq
    (.ops [] [
        ⟨(some 4), (.op (.mv (.k (.slice none 0 0)))), none⟩,
        ⟨(some 5), (.op (.mv (.k (.bool false)))), none⟩])
    (.seq
      (.seq
        (.ops [] [
            ⟨(some 8), (.op (.mv (.t 1))), none⟩,
            ⟨(some 9), (.op (.bin .lss (.t 8) (.k (.int .i64 0)))), none⟩,
            ⟨(some 10), (.op (.mv (.t 9))), none⟩,
            ⟨(some 11), (.op (.mv (.t 1))), (some (10, false))⟩,
            ⟨(some 12), (.op (.bin .gtr (.t 11) (.k (.int .i64 64)))), (some (10, false))⟩,
            ⟨(some 13), (.op (.pick (.t 10) (.k (.bool true)) (.t 12))), none⟩,
            ⟨(some 14), (.op (.mv (.t 13))), none⟩,
            ⟨(some 15), (.op (.mv (.t 1))), (some (14, false))⟩,
            ⟨(some 16), (.op (.bin .lss (.t 15) (.k (.int .i64 8)))), (some (14, false))⟩,
            ⟨(some 17), (.op (.mv (.t 16))), (some (14, false))⟩,
            ⟨(some 18), (.op (.mv (.t 0))), (some (17, true))⟩,
            ⟨(some 19), (.op (.mv (.t 1))), (some (17, true))⟩,
            ⟨(some 20), (.op (.bin .mul (.k (.int .i64 8)) (.t 19))), (some (17, true))⟩,
            ⟨(some 21), (.op (.bin .shr (.t 18) (.t 20))), (some (17, true))⟩,
            ⟨(some 22), (.op (.bin .neq (.t 21) (.k (.int .u64 0)))), (some (17, true))⟩,
            ⟨(some 23), (.op (.pick (.t 17) (.t 22) (.k (.bool false)))), (some (14, false))⟩,
            ⟨(some 24), (.op (.pick (.t 14) (.k (.bool true)) (.t 23))), none⟩])
        (.cond (.t 24)
          (.seq
            (.ops [] [
                ⟨(some 4), (.op (.mv (.k (.slice none 0 0)))), none⟩,
                ⟨(some 5), (.op (.mv (.k (.bool false)))), none⟩])
            .ret)
          .skip))
      (.seq
        (.ops [] [
            ⟨(some 25), (.op (.mv (.t 1))), none⟩,
            ⟨(some 26), (.op (.make 1 1 [(.int .u8 0)] (.t 25) (.t 25))), none⟩,
            ⟨(some 6), (.op (.mv (.t 26))), none⟩])
        (.seq
          (.seq
            (.ops [] [
                ⟨(some 27), (.op (.mv (.t 1))), none⟩,
                ⟨(some 28), (.op (.mm false (.t 27) [(.k (.int .i64 8))])), none⟩,
                ⟨(some 29), (.op (.mv (.k (.int .i64 0)))), none⟩])
            (.block 0
              (.loop
                (.seq
                  (.ops [] [
                      ⟨(some 30), (.op (.bin .lss (.t 29) (.t 28))), none⟩])
                  (.seq
                    (.cond (.t 30)
                      .skip
                      (.exit 0))
                    (.seq
                      (.block 1
                        (.seq
                          (.ops [] [
                              ⟨(some 31), (.op (.mv (.t 29))), none⟩,
                              ⟨(some 7), (.op (.mv (.t 31))), none⟩])
                          (.ops [] [
                              ⟨(some 32), (.op (.mv (.t 6))), none⟩,
                              ⟨(some 33), (.op (.mv (.t 1))), none⟩,
                              ⟨(some 34), (.op (.bin .sub (.t 33) (.k (.int .i64 1)))), none⟩,
                              ⟨(some 35), (.op (.mv (.t 7))), none⟩,
                              ⟨(some 36), (.op (.bin .sub (.t 34) (.t 35))), none⟩,
                              ⟨(some 37), (.op (.mv (.t 0))), none⟩,
                              ⟨(some 38), (.op (.mv (.t 7))), none⟩,
                              ⟨(some 39), (.op (.bin .mul (.k (.int .i64 8)) (.t 38))), none⟩,
                              ⟨(some 40), (.op (.bin .shr (.t 37) (.t 39))), none⟩,
                              ⟨(some 41), (.op (.toInt .u8 (.t 40))), none⟩,
                              ⟨(some 42), (.op (.ixAddr 1 (.t 32) (.t 36))), none⟩,
                              ⟨none, (.op (.store 1 (.t 42) (.t 41))), none⟩])))
                      (.ops [] [
                          ⟨(some 43), (.op (.bin .add (.t 29) (.k (.int .i64 1)))), none⟩,
                          ⟨(some 29), (.op (.mv (.t 43))), none⟩])))))))
          (.seq
            (.ops [] [
                ⟨(some 44), (.op (.mv (.t 6))), none⟩,
                ⟨(some 4), (.op (.mv (.t 44))), none⟩,
                ⟨(some 5), (.op (.mv (.k (.bool true)))), none⟩])
            .ret))))),
    [(.t 4), (.t 5)]⟩
theorem r_octet_Bytes : resolveFn Try.prog 16 = some c_octet_Bytes := by kernel_rfl

def c_lanyardref01_Bytes : RFn :=
  ⟨33,
    (.seq
    (.ops [] [
        ⟨(some 4), (.op (.mv (.k (.slice none 0 0)))), none⟩,
        ⟨(some 5), (.op (.mv (.k (.bool false)))), none⟩])
    (.seq
      (.seq
        (.ops [] [
            ⟨(some 8), (.op (.mv (.t 1))), none⟩,
            ⟨(some 9), (.op (.bin .lss (.t 8) (.k (.int .i64 0)))), none⟩,
            ⟨(some 10), (.op (.mv (.t 9))), none⟩,
            ⟨(some 11), (.op (.mv (.t 1))), (some (10, false))⟩,
            ⟨(some 12), (.op (.bin .gtr (.t 11) (.k (.int .i64 64)))), (some (10, false))⟩,
            ⟨(some 13), (.op (.pick (.t 10) (.k (.bool true)) (.t 12))), none⟩])
        (.cond (.t 13)
          (.seq
            (.ops [] [
                ⟨(some 4), (.op (.mv (.k (.slice none 0 0)))), none⟩,
                ⟨(some 5), (.op (.mv (.k (.bool false)))), none⟩])
            .ret)
          .skip))
      (.seq
        (.ops [] [
            ⟨(some 14), (.op (.mv (.t 1))), none⟩,
            ⟨(some 15), (.op (.make 1 1 [(.int .u8 0)] (.t 14) (.t 14))), none⟩,
            ⟨(some 6), (.op (.mv (.t 15))), none⟩])
        (.seq
          (.seq
            (.ops [] [
                ⟨(some 16), (.op (.mv (.t 1))), none⟩,
                ⟨(some 17), (.op (.bin .sub (.t 16) (.k (.int .i64 1)))), none⟩,
                ⟨(some 7), (.op (.mv (.t 17))), none⟩])
            (.block 0
              (.loop
                (.seq
                  (.seq
                    (.ops [] [
                        ⟨(some 18), (.op (.mv (.t 7))), none⟩,
                        ⟨(some 19), (.op (.bin .geq (.t 18) (.k (.int .i64 0)))), none⟩])
                    (.cond (.t 19)
                      .skip
                      (.exit 0)))
                  (.seq
                    (.block 1
                      (.seq
                        (.ops [] [
                            ⟨(some 22), (.op (.mv (.t 6))), none⟩,
                            ⟨(some 23), (.op (.mv (.t 7))), none⟩,
                            ⟨(some 24), (.op (.mv (.t 0))), none⟩,
                            ⟨(some 25), (.op (.bin .rem (.t 24) (.k (.int .u64 256)))), none⟩,
                            ⟨(some 26), (.op (.toInt .u8 (.t 25))), none⟩,
                            ⟨(some 27), (.op (.ixAddr 1 (.t 22) (.t 23))), none⟩,
                            ⟨none, (.op (.store 1 (.t 27) (.t 26))), none⟩])
                        (.ops [] [
                            ⟨(some 28), (.op (.mv (.t 0))), none⟩,
                            ⟨(some 29), (.op (.bin .quo (.t 28) (.k (.int .u64 256)))), none⟩,
                            ⟨(some 0), (.op (.mv (.t 29))), none⟩])))
                    (.ops [] [
                        ⟨(some 20), (.op (.mv (.t 7))), none⟩,
                        ⟨(some 21), (.op (.bin .sub (.t 20) (.k (.int .i64 1)))), none⟩,
                        ⟨(some 7), (.op (.mv (.t 21))), none⟩]))))))
          (.seq
            (.seq
              (.ops [] [
                  ⟨(some 30), (.op (.mv (.t 0))), none⟩,
                  ⟨(some 31), (.op (.bin .gtr (.t 30) (.k (.int .u64 0)))), none⟩])
              (.cond (.t 31)
                (.seq
                  (.ops [] [
                      ⟨(some 4), (.op (.mv (.k (.slice none 0 0)))), none⟩,
                      ⟨(some 5), (.op (.mv (.k (.bool false)))), none⟩])
                  .ret)
                .skip))
            (.seq
              (.ops [] [
                  ⟨(some 32), (.op (.mv (.t 6))), none⟩,
                  ⟨(some 4), (.op (.mv (.t 32))), none⟩,
                  ⟨(some 5), (.op (.mv (.k (.bool true)))), none⟩])
              .ret)))))),
    [(.t 4), (.t 5)]⟩
theorem r_lanyardref01_Bytes : resolveFn Try.prog 17 = some c_lanyardref01_Bytes := by kernel_rfl

def c_octet_Least : RFn :=
  ⟨24,
    (.seq
    (.ops [] [
        ⟨(some 2), (.op (.mv (.k (.slice none 0 0)))), none⟩])
    (.seq
      (.ops [] [
          ⟨(some 3), (.op (.mv (.k (.int .i64 1)))), none⟩])
      (.seq
        (.block 0
          (.loop
            (.seq
              (.seq
                (.ops [] [
                    ⟨(some 6), (.op (.mv (.t 3))), none⟩,
                    ⟨(some 7), (.op (.bin .lss (.t 6) (.k (.int .i64 8)))), none⟩,
                    ⟨(some 8), (.op (.mv (.t 7))), none⟩,
                    ⟨(some 9), (.op (.mv (.t 0))), (some (8, true))⟩,
                    ⟨(some 10), (.op (.mv (.t 3))), (some (8, true))⟩,
                    ⟨(some 11), (.op (.bin .mul (.k (.int .i64 8)) (.t 10))), (some (8, true))⟩,
                    ⟨(some 12), (.op (.bin .shr (.t 9) (.t 11))), (some (8, true))⟩,
                    ⟨(some 13), (.op (.bin .neq (.t 12) (.k (.int .u64 0)))), (some (8, true))⟩,
                    ⟨(some 14), (.op (.pick (.t 8) (.t 13) (.k (.bool false)))), none⟩])
                (.cond (.t 14)
                  .skip
                  (.exit 0)))
              (.block 1
                (.ops [] [
                    ⟨(some 15), (.op (.mv (.t 3))), none⟩,
                    ⟨(some 16), (.op (.bin .add (.t 15) (.k (.int .i64 1)))), none⟩,
                    ⟨(some 3), (.op (.mv (.t 16))), none⟩])))))
        (.seq
          (.ops [] [
              ⟨(some 18), (.op (.mv (.t 0))), none⟩,
              ⟨(some 19), (.op (.mv (.t 3))), none⟩,
              ⟨(some 20), (.call (.k (.func (.func 16) #[] #[])) [(.t 18), (.t 19)]), none⟩,
              ⟨(some 17), (.op (.mv (.t 20))), none⟩,
              ⟨(some 21), (.op (.extract (.t 17) 0)), none⟩,
              ⟨(some 22), (.op (.extract (.t 17) 1)), none⟩,
              ⟨(some 4), (.op (.mv (.t 21))), none⟩,
              ⟨(some 5), (.op (.mv (.t 22))), none⟩])
          (.seq
            (.ops [] [
                ⟨(some 23), (.op (.mv (.t 4))), none⟩,
                ⟨(some 2), (.op (.mv (.t 23))), none⟩])
            .ret))))),
    [(.t 2)]⟩
theorem r_octet_Least : resolveFn Try.prog 18 = some c_octet_Least := by kernel_rfl

def c_lanyardref01_Least : RFn :=
  ⟨26,
    (.seq
    (.ops [] [
        ⟨(some 2), (.op (.mv (.k (.slice none 0 0)))), none⟩])
    (.seq
      (.seq
        (.ops [] [
            ⟨(some 3), (.op (.mv (.k (.int .i64 1)))), none⟩])
        (.block 0
          (.loop
            (.seq
              (.seq
                (.ops [] [
                    ⟨(some 8), (.op (.mv (.t 3))), none⟩,
                    ⟨(some 9), (.op (.bin .lss (.t 8) (.k (.int .i64 8)))), none⟩])
                (.cond (.t 9)
                  .skip
                  (.exit 0)))
              (.seq
                (.block 1
                  (.seq
                    (.ops [] [
                        ⟨(some 13), (.op (.mv (.t 0))), none⟩,
                        ⟨(some 14), (.op (.mv (.t 3))), none⟩,
                        ⟨(some 15), (.call (.k (.func (.func 17) #[] #[])) [(.t 13), (.t 14)]), none⟩,
                        ⟨(some 12), (.op (.mv (.t 15))), none⟩,
                        ⟨(some 16), (.op (.extract (.t 12) 0)), none⟩,
                        ⟨(some 17), (.op (.extract (.t 12) 1)), none⟩,
                        ⟨(some 4), (.op (.mv (.t 16))), none⟩,
                        ⟨(some 5), (.op (.mv (.t 17))), none⟩])
                    (.seq
                      (.ops [] [
                          ⟨(some 18), (.op (.mv (.t 5))), none⟩])
                      (.cond (.t 18)
                        (.seq
                          (.ops [] [
                              ⟨(some 19), (.op (.mv (.t 4))), none⟩,
                              ⟨(some 2), (.op (.mv (.t 19))), none⟩])
                          .ret)
                        .skip))))
                (.ops [] [
                    ⟨(some 10), (.op (.mv (.t 3))), none⟩,
                    ⟨(some 11), (.op (.bin .add (.t 10) (.k (.int .i64 1)))), none⟩,
                    ⟨(some 3), (.op (.mv (.t 11))), none⟩]))))))
      (.seq
        (.ops [] [
            ⟨(some 21), (.op (.mv (.t 0))), none⟩,
            ⟨(some 22), (.call (.k (.func (.func 17) #[] #[])) [(.t 21), (.k (.int .i64 8))]), none⟩,
            ⟨(some 20), (.op (.mv (.t 22))), none⟩,
            ⟨(some 23), (.op (.extract (.t 20) 0)), none⟩,
            ⟨(some 24), (.op (.extract (.t 20) 1)), none⟩,
            ⟨(some 6), (.op (.mv (.t 23))), none⟩,
            ⟨(some 7), (.op (.mv (.t 24))), none⟩])
        (.seq
          (.ops [] [
              ⟨(some 25), (.op (.mv (.t 6))), none⟩,
              ⟨(some 2), (.op (.mv (.t 25))), none⟩])
          .ret)))),
    [(.t 2)]⟩
theorem r_lanyardref01_Least : resolveFn Try.prog 19 = some c_lanyardref01_Least := by kernel_rfl

def c_octet_Hex : RFn :=
  ⟨33,
    (.seq
    (.ops [] [
        ⟨(some 2), (.op (.mv (.k (.string ⟨#[]⟩)))), none⟩])
    (.seq
      (.ops [] [
          ⟨(some 6), (.op (.mv (.t 0))), none⟩,
          ⟨(some 7), (.op (.lenSl (.t 6))), none⟩,
          ⟨(some 8), (.op (.bin .mul (.k (.int .i64 2)) (.t 7))), none⟩,
          ⟨(some 9), (.op (.make 1 1 [(.int .u8 0)] (.k (.int .i64 0)) (.t 8))), none⟩,
          ⟨(some 3), (.op (.new [(.slice none 0 0)])), none⟩,
          ⟨none, (.op (.store 1 (.t 3) (.t 9))), none⟩])
      (.seq
        (.ops [] [
            ⟨(some 10), (.op (.func 41 [(.t 3)])), none⟩,
            ⟨(some 4), (.op (.mv (.t 10))), none⟩])
        (.seq
          (.seq
            (.ops [] [
                ⟨(some 11), (.op (.mv (.t 0))), none⟩,
                ⟨(some 12), (.op (.lenSl (.t 11))), none⟩,
                ⟨(some 13), (.op (.mv (.k (.int .i64 0)))), none⟩])
            (.block 0
              (.loop
                (.seq
                  (.ops [] [
                      ⟨(some 14), (.op (.bin .lss (.t 13) (.t 12))), none⟩])
                  (.seq
                    (.cond (.t 14)
                      .skip
                      (.exit 0))
                    (.seq
                      (.block 1
                        (.seq
                          (.ops [] [
                              ⟨(some 15), (.op (.mv (.t 13))), none⟩,
                              ⟨(some 5), (.op (.mv (.t 15))), none⟩])
                          (.seq
                            (.ops [] [
                                ⟨(some 16), (.op (.mv (.t 4))), none⟩,
                                ⟨(some 17), (.op (.mv (.t 0))), none⟩,
                                ⟨(some 18), (.op (.mv (.t 5))), none⟩,
                                ⟨(some 19), (.op (.ixAddr 1 (.t 17) (.t 18))), none⟩,
                                ⟨(some 20), (.op (.load1 (.t 19))), none⟩,
                                ⟨(some 21), (.op (.bin .shr (.t 20) (.k (.int .u64 4)))), none⟩,
                                ⟨(some 22), (.call (.t 16) [(.t 21)]), none⟩])
                            (.ops [] [
                                ⟨(some 23), (.op (.mv (.t 4))), none⟩,
                                ⟨(some 24), (.op (.mv (.t 0))), none⟩,
                                ⟨(some 25), (.op (.mv (.t 5))), none⟩,
                                ⟨(some 26), (.op (.ixAddr 1 (.t 24) (.t 25))), none⟩,
                                ⟨(some 27), (.op (.load1 (.t 26))), none⟩,
                                ⟨(some 28), (.op (.bin .and (.t 27) (.k (.int .u8 15)))), none⟩,
                                ⟨(some 29), (.call (.t 23) [(.t 28)]), none⟩]))))
                      (.ops [] [
                          ⟨(some 30), (.op (.bin .add (.t 13) (.k (.int .i64 1)))), none⟩,
                          ⟨(some 13), (.op (.mv (.t 30))), none⟩])))))))
          (.seq
            (.ops [] [
                ⟨(some 31), (.op (.load1 (.t 3))), none⟩,
                ⟨(some 32), (.op (.b2s (.t 31))), none⟩,
                ⟨(some 2), (.op (.mv (.t 32))), none⟩])
            .ret))))),
    [(.t 2)]⟩
theorem r_octet_Hex : resolveFn Try.prog 22 = some c_octet_Hex := by kernel_rfl

def c_octet_Hex_1 : RFn :=
  ⟨8,
    (.ops [
      ⟨(some 3), (.op (.load1 (.t 1))), none⟩,
      ⟨(some 4), (.op (.mv (.t 0))), none⟩,
      ⟨(some 5), (.op (.ixStr (.k (.string ⟨#[48, 49, 50, 51, 52, 53, 54, 55, 56, 57, 97, 98, 99, 100, 101, 102]⟩)) (.t 4))), none⟩,
      ⟨(some 6), (.op (.mkSl 1 [(.int .u8 0)] [(0, (1, (.t 5)))])), none⟩] [
      ⟨(some 7), (.op (.append 1 1 (.t 3) (.t 6))), none⟩,
      ⟨none, (.op (.store 1 (.t 1) (.t 7))), none⟩]),
    []⟩
theorem r_octet_Hex_1 : resolveFn Try.prog 41 = some c_octet_Hex_1 := by kernel_rfl

def c_lanyardlaw01_awake : RFn :=
  ⟨27,
    (.seq
    (.ops [] [
        ⟨(some 0), (.op (.mv (.k (.bool false)))), none⟩])
    (.seq
      (.ops [] [
          ⟨(some 6), (.op (.mkSl 2 [(.int .u8 0), (.int .u8 0)] [(0, (1, (.k (.int .u8 1)))), (1, (1, (.k (.int .u8 0))))])), none⟩,
          ⟨(some 7), (.call (.k (.func (.func 14) #[] #[])) [(.t 6)]), none⟩,
          ⟨(some 5), (.op (.mv (.t 7))), none⟩,
          ⟨(some 8), (.op (.extract (.t 5) 0)), none⟩,
          ⟨(some 9), (.op (.extract (.t 5) 1)), none⟩,
          ⟨(some 1), (.op (.mv (.t 8))), none⟩,
          ⟨(some 2), (.op (.mv (.t 9))), none⟩])
      (.seq
        (.ops [] [
            ⟨(some 11), (.call (.k (.func (.func 16) #[] #[])) [(.k (.int .u64 256)), (.k (.int .i64 3))]), none⟩,
            ⟨(some 10), (.op (.mv (.t 11))), none⟩,
            ⟨(some 12), (.op (.extract (.t 10) 0)), none⟩,
            ⟨(some 13), (.op (.extract (.t 10) 1)), none⟩,
            ⟨(some 3), (.op (.mv (.t 12))), none⟩,
            ⟨(some 4), (.op (.mv (.t 13))), none⟩])
        (.seq
          (.ops [] [
              ⟨(some 14), (.op (.mv (.t 1))), none⟩,
              ⟨(some 15), (.op (.bin .eql (.t 14) (.k (.int .u64 256)))), none⟩,
              ⟨(some 16), (.op (.mv (.t 15))), none⟩,
              ⟨(some 17), (.op (.mv (.t 2))), (some (16, true))⟩,
              ⟨(some 18), (.op (.pick (.t 16) (.t 17) (.k (.bool false)))), none⟩,
              ⟨(some 19), (.op (.mv (.t 18))), none⟩,
              ⟨(some 20), (.op (.mv (.t 4))), (some (19, true))⟩,
              ⟨(some 21), (.op (.pick (.t 19) (.t 20) (.k (.bool false)))), none⟩,
              ⟨(some 22), (.op (.mv (.t 21))), none⟩,
              ⟨(some 23), (.op (.mv (.t 3))), (some (22, true))⟩,
              ⟨(some 24), (.call (.k (.func (.func 22) #[] #[])) [(.t 23)]), (some (22, true))⟩,
              ⟨(some 25), (.op (.bin .eql (.t 24) (.k (.string ⟨#[48, 48, 48, 49, 48, 48]⟩)))), (some (22, true))⟩,
              ⟨(some 26), (.op (.pick (.t 22) (.t 25) (.k (.bool false)))), none⟩,
              ⟨(some 0), (.op (.mv (.t 26))), none⟩])
          .ret)))),
    [(.t 0)]⟩
theorem r_lanyardlaw01_awake : resolveFn Try.prog 13 = some c_lanyardlaw01_awake := by kernel_rfl

def c_lanyardlaw01_OctetNumbers : RFn :=
  ⟨75,
    (.seq
    (.ops [] [
        ⟨(some 6), (.op (.mv (.k (.bool false)))), none⟩])
    (.seq
      (.ops [] [
          ⟨(some 16), (.call (.k (.func (.func 13) #[] #[])) []), none⟩,
          ⟨(some 7), (.op (.mv (.t 16))), none⟩])
      (.seq
        (.seq
          (.ops [] [
              ⟨(some 17), (.op (.mv (.t 0))), none⟩,
              ⟨(some 18), (.op (.lenSl (.t 17))), none⟩,
              ⟨(some 19), (.op (.bin .gtr (.t 18) (.k (.int .i64 1000)))), none⟩])
          (.cond (.t 19)
            (.seq
              (.ops [] [
                  ⟨(some 20), (.op (.mv (.t 7))), none⟩,
                  ⟨(some 6), (.op (.mv (.t 20))), none⟩])
              .ret)
            .skip))
        (.seq
          (.ops [] [
              ⟨(some 22), (.op (.mv (.t 0))), none⟩,
              ⟨(some 23), (.call (.k (.func (.func 14) #[] #[])) [(.t 22)]), none⟩,
              ⟨(some 21), (.op (.mv (.t 23))), none⟩,
              ⟨(some 24), (.op (.extract (.t 21) 0)), none⟩,
              ⟨(some 25), (.op (.extract (.t 21) 1)), none⟩,
              ⟨(some 8), (.op (.mv (.t 24))), none⟩,
              ⟨(some 9), (.op (.mv (.t 25))), none⟩])
          (.seq
            (.ops [] [
                ⟨(some 27), (.op (.mv (.t 0))), none⟩,
                ⟨(some 28), (.call (.k (.func (.func 15) #[] #[])) [(.t 27)]), none⟩,
                ⟨(some 26), (.op (.mv (.t 28))), none⟩,
                ⟨(some 29), (.op (.extract (.t 26) 0)), none⟩,
                ⟨(some 30), (.op (.extract (.t 26) 1)), none⟩,
                ⟨(some 10), (.op (.mv (.t 29))), none⟩,
                ⟨(some 11), (.op (.mv (.t 30))), none⟩])
            (.seq
              (.ops [] [
                  ⟨(some 32), (.op (.mv (.t 1))), none⟩,
                  ⟨(some 33), (.op (.mv (.t 2))), none⟩,
                  ⟨(some 34), (.call (.k (.func (.func 16) #[] #[])) [(.t 32), (.t 33)]), none⟩,
                  ⟨(some 31), (.op (.mv (.t 34))), none⟩,
                  ⟨(some 35), (.op (.extract (.t 31) 0)), none⟩,
                  ⟨(some 36), (.op (.extract (.t 31) 1)), none⟩,
                  ⟨(some 12), (.op (.mv (.t 35))), none⟩,
                  ⟨(some 13), (.op (.mv (.t 36))), none⟩])
              (.seq
                (.ops [] [
                    ⟨(some 38), (.op (.mv (.t 1))), none⟩,
                    ⟨(some 39), (.op (.mv (.t 2))), none⟩,
                    ⟨(some 40), (.call (.k (.func (.func 17) #[] #[])) [(.t 38), (.t 39)]), none⟩,
                    ⟨(some 37), (.op (.mv (.t 40))), none⟩,
                    ⟨(some 41), (.op (.extract (.t 37) 0)), none⟩,
                    ⟨(some 42), (.op (.extract (.t 37) 1)), none⟩,
                    ⟨(some 14), (.op (.mv (.t 41))), none⟩,
                    ⟨(some 15), (.op (.mv (.t 42))), none⟩])
                (.seq
                  (.ops [
                      ⟨(some 43), (.op (.mv (.t 7))), none⟩,
                      ⟨(some 44), (.op (.mv (.t 43))), none⟩,
                      ⟨(some 45), (.op (.mv (.t 8))), (some (44, true))⟩,
                      ⟨(some 46), (.op (.mv (.t 10))), (some (44, true))⟩,
                      ⟨(some 47), (.op (.bin .eql (.t 45) (.t 46))), (some (44, true))⟩,
                      ⟨(some 48), (.op (.pick (.t 44) (.t 47) (.k (.bool false)))), none⟩,
                      ⟨(some 49), (.op (.mv (.t 48))), none⟩,
                      ⟨(some 50), (.op (.mv (.t 9))), (some (49, true))⟩,
                      ⟨(some 51), (.op (.mv (.t 11))), (some (49, true))⟩,
                      ⟨(some 52), (.op (.eqB false (.t 50) (.t 51))), (some (49, true))⟩,
                      ⟨(some 53), (.op (.pick (.t 49) (.t 52) (.k (.bool false)))), none⟩,
                      ⟨(some 54), (.op (.mv (.t 53))), none⟩,
                      ⟨(some 55), (.op (.mv (.t 12))), (some (54, true))⟩,
                      ⟨(some 56), (.op (.b2s (.t 55))), (some (54, true))⟩,
                      ⟨(some 57), (.op (.mv (.t 14))), (some (54, true))⟩,
                      ⟨(some 58), (.op (.b2s (.t 57))), (some (54, true))⟩,
                      ⟨(some 59), (.op (.bin .eql (.t 56) (.t 58))), (some (54, true))⟩,
                      ⟨(some 60), (.op (.pick (.t 54) (.t 59) (.k (.bool false)))), none⟩,
                      ⟨(some 61), (.op (.mv (.t 60))), none⟩,
                      ⟨(some 62), (.op (.mv (.t 13))), (some (61, true))⟩,
                      ⟨(some 63), (.op (.mv (.t 15))), (some (61, true))⟩,
                      ⟨(some 64), (.op (.eqB false (.t 62) (.t 63))), (some (61, true))⟩,
                      ⟨(some 65), (.op (.pick (.t 61) (.t 64) (.k (.bool false)))), none⟩,
                      ⟨(some 66), (.op (.mv (.t 65))), none⟩,
                      ⟨(some 67), (.op (.mv (.t 1))), (some (66, true))⟩,
                      ⟨(some 68), (.call (.k (.func (.func 18) #[] #[])) [(.t 67)]), (some (66, true))⟩,
                      ⟨(some 69), (.op (.b2s (.t 68))), (some (66, true))⟩,
                      ⟨(some 70), (.op (.mv (.t 1))), (some (66, true))⟩,
                      ⟨(some 71), (.call (.k (.func (.func 19) #[] #[])) [(.t 70)]), (some (66, true))⟩,
                      ⟨(some 72), (.op (.b2s (.t 71))), (some (66, true))⟩] [
                      ⟨(some 73), (.op (.bin .eql (.t 69) (.t 72))), (some (66, true))⟩,
                      ⟨(some 74), (.op (.pick (.t 66) (.t 73) (.k (.bool false)))), none⟩,
                      ⟨(some 6), (.op (.mv (.t 74))), none⟩])
                  .ret)))))))),
    [(.t 6)]⟩
theorem r_lanyardlaw01_OctetNumbers : resolveFn Try.prog 3 = some c_lanyardlaw01_OctetNumbers := by kernel_rfl

end Go.Ga
