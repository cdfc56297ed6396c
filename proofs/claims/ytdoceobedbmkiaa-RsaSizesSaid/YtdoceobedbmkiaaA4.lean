/- Words and contracts of functions for the statement's proof. No condition. -/
import Derived.Test.YtdoceobedbmkiaaA3
import Derived.Test.YtdoceobedbmkiaaProg
import Derived.KernelRfl
set_option linter.all false

namespace Go.Ga
open Go Go.Proofs
set_option linter.unusedSimpArgs false
set_option linter.unusedVariables false
set_option maxRecDepth 100000
attribute [local irreducible] appendK endK endW sch comp rs

def thrA : RC :=
  (.seq
  (.ops [] [
  ⟨(some 6), (.op (.mv (.k (.int .i64 0)))), none⟩])
  (.block 0
  (.loop
  (.seq
  (.seq
  (.ops [] [
  ⟨(some 20), (.op (.mv (.t 6))), none⟩,
  ⟨(some 21), (.op (.bin .lss (.t 20) (.k (.int .i64 16)))), none⟩])
  (.cond (.t 21)
  .skip
  (.exit 0)))
  (.seq
  (.block 1
  (.seq
  (.ops [] [
  ⟨(some 25), (.op (.mv (.t 1))), none⟩,
  ⟨(some 26), (.op (.mv (.t 6))), none⟩,
  ⟨(some 27), (.op (.bin .mul (.k (.int .i64 4)) (.t 26))), none⟩,
  ⟨(some 28), (.op (.mv (.t 6))), none⟩,
  ⟨(some 29), (.op (.bin .mul (.k (.int .i64 4)) (.t 28))), none⟩,
  ⟨(some 30), (.op (.bin .add (.t 29) (.k (.int .i64 4)))), none⟩,
  ⟨(some 31), (.op (.sl 1 (.t 25) (some (.t 27)) (some (.t 30)) none)), none⟩,
  ⟨(some 32), (.call (.k (.func (.func 63) #[] #[])) [(.t 31)]), none⟩,
  ⟨(some 24), (.op (.mv (.t 32))), none⟩,
  ⟨(some 33), (.op (.extract (.t 24) 0)), none⟩,
  ⟨(some 34), (.op (.extract (.t 24) 1)), none⟩,
  ⟨(some 7), (.op (.mv (.t 33))), none⟩,
  ⟨(some 8), (.op (.mv (.t 34))), none⟩])
  (.ops [] [
  ⟨(some 35), (.op (.mv (.t 6))), none⟩,
  ⟨(some 36), (.op (.mv (.t 7))), none⟩,
  ⟨(some 37), (.op (.toInt .u32 (.t 36))), none⟩,
  ⟨(some 38), (.op (.ixAddrA 64 1 (.t 5) (.t 35))), none⟩,
  ⟨none, (.op (.store 1 (.t 38) (.t 37))), none⟩])))
  (.ops [] [
  ⟨(some 22), (.op (.mv (.t 6))), none⟩,
  ⟨(some 23), (.op (.bin .add (.t 22) (.k (.int .i64 1)))), none⟩,
  ⟨(some 6), (.op (.mv (.t 23))), none⟩]))))))
def thrB : RC :=
  (.seq
  (.ops [] [
  ⟨(some 9), (.op (.mv (.k (.int .i64 16)))), none⟩])
  (.block 2
  (.loop
  (.seq
  (.seq
  (.ops [] [
  ⟨(some 39), (.op (.mv (.t 9))), none⟩,
  ⟨(some 40), (.op (.bin .lss (.t 39) (.k (.int .i64 64)))), none⟩])
  (.cond (.t 40)
  .skip
  (.exit 2)))
  (.seq
  (.block 3
  (.seq
  (.ops [] [
  ⟨(some 43), (.op (.mv (.t 9))), none⟩,
  ⟨(some 44), (.op (.bin .sub (.t 43) (.k (.int .i64 15)))), none⟩,
  ⟨(some 45), (.op (.ixAddrA 64 1 (.t 5) (.t 44))), none⟩,
  ⟨(some 46), (.op (.load1 (.t 45))), none⟩,
  ⟨(some 10), (.op (.mv (.t 46))), none⟩])
  (.seq
  (.ops [] [
  ⟨(some 47), (.op (.mv (.t 9))), none⟩,
  ⟨(some 48), (.op (.bin .sub (.t 47) (.k (.int .i64 2)))), none⟩,
  ⟨(some 49), (.op (.ixAddrA 64 1 (.t 5) (.t 48))), none⟩,
  ⟨(some 50), (.op (.load1 (.t 49))), none⟩,
  ⟨(some 11), (.op (.mv (.t 50))), none⟩])
  (.ops [
  ⟨(some 51), (.op (.mv (.t 9))), none⟩,
  ⟨(some 52), (.op (.mv (.t 9))), none⟩,
  ⟨(some 53), (.op (.bin .sub (.t 52) (.k (.int .i64 16)))), none⟩,
  ⟨(some 54), (.op (.ixAddrA 64 1 (.t 5) (.t 53))), none⟩,
  ⟨(some 55), (.op (.load1 (.t 54))), none⟩,
  ⟨(some 56), (.op (.mv (.t 10))), none⟩,
  ⟨(some 57), (.call (.k (.func (.func 64) #[] #[])) [(.t 56), (.k (.int .i64 7))]), none⟩,
  ⟨(some 58), (.op (.mv (.t 10))), none⟩,
  ⟨(some 59), (.call (.k (.func (.func 64) #[] #[])) [(.t 58), (.k (.int .i64 18))]), none⟩,
  ⟨(some 60), (.op (.bin .xor (.t 57) (.t 59))), none⟩,
  ⟨(some 61), (.op (.mv (.t 10))), none⟩,
  ⟨(some 62), (.op (.bin .shr (.t 61) (.k (.int .u64 3)))), none⟩,
  ⟨(some 63), (.op (.bin .xor (.t 60) (.t 62))), none⟩,
  ⟨(some 64), (.op (.bin .add (.t 55) (.t 63))), none⟩,
  ⟨(some 65), (.op (.mv (.t 9))), none⟩,
  ⟨(some 66), (.op (.bin .sub (.t 65) (.k (.int .i64 7)))), none⟩,
  ⟨(some 67), (.op (.ixAddrA 64 1 (.t 5) (.t 66))), none⟩,
  ⟨(some 68), (.op (.load1 (.t 67))), none⟩,
  ⟨(some 69), (.op (.bin .add (.t 64) (.t 68))), none⟩,
  ⟨(some 70), (.op (.mv (.t 11))), none⟩,
  ⟨(some 71), (.call (.k (.func (.func 64) #[] #[])) [(.t 70), (.k (.int .i64 17))]), none⟩,
  ⟨(some 72), (.op (.mv (.t 11))), none⟩,
  ⟨(some 73), (.call (.k (.func (.func 64) #[] #[])) [(.t 72), (.k (.int .i64 19))]), none⟩,
  ⟨(some 74), (.op (.bin .xor (.t 71) (.t 73))), none⟩,
  ⟨(some 75), (.op (.mv (.t 11))), none⟩,
  ⟨(some 76), (.op (.bin .shr (.t 75) (.k (.int .u64 10)))), none⟩,
  ⟨(some 77), (.op (.bin .xor (.t 74) (.t 76))), none⟩,
  ⟨(some 78), (.op (.bin .add (.t 69) (.t 77))), none⟩] [
  ⟨(some 79), (.op (.ixAddrA 64 1 (.t 5) (.t 51))), none⟩,
  ⟨none, (.op (.store 1 (.t 79) (.t 78))), none⟩]))))
  (.ops [] [
  ⟨(some 41), (.op (.mv (.t 9))), none⟩,
  ⟨(some 42), (.op (.bin .add (.t 41) (.k (.int .i64 1)))), none⟩,
  ⟨(some 9), (.op (.mv (.t 42))), none⟩]))))))
def thrC : RC :=
  (.seq
  (.ops [] [
  ⟨(some 14), (.op (.mv (.k (.int .i64 0)))), none⟩])
  (.block 4
  (.loop
  (.seq
  (.seq
  (.ops [] [
  ⟨(some 84), (.op (.mv (.t 14))), none⟩,
  ⟨(some 85), (.op (.bin .lss (.t 84) (.k (.int .i64 64)))), none⟩])
  (.cond (.t 85)
  .skip
  (.exit 4)))
  (.seq
  (.block 5
  (.seq
  (.ops [] [
  ⟨(some 88), (.op (.mv (.t 13))), none⟩,
  ⟨(some 89), (.op (.ixAddr 1 (.t 88) (.k (.int .i64 4)))), none⟩,
  ⟨(some 90), (.op (.load1 (.t 89))), none⟩,
  ⟨(some 15), (.op (.mv (.t 90))), none⟩])
  (.seq
  (.ops [] [
  ⟨(some 91), (.op (.mv (.t 13))), none⟩,
  ⟨(some 92), (.op (.ixAddr 1 (.t 91) (.k (.int .i64 0)))), none⟩,
  ⟨(some 93), (.op (.load1 (.t 92))), none⟩,
  ⟨(some 16), (.op (.mv (.t 93))), none⟩])
  (.seq
  (.ops [
  ⟨(some 94), (.op (.mv (.t 13))), none⟩,
  ⟨(some 95), (.op (.ixAddr 1 (.t 94) (.k (.int .i64 7)))), none⟩,
  ⟨(some 96), (.op (.load1 (.t 95))), none⟩,
  ⟨(some 97), (.op (.mv (.t 15))), none⟩,
  ⟨(some 98), (.call (.k (.func (.func 64) #[] #[])) [(.t 97), (.k (.int .i64 6))]), none⟩,
  ⟨(some 99), (.op (.mv (.t 15))), none⟩,
  ⟨(some 100), (.call (.k (.func (.func 64) #[] #[])) [(.t 99), (.k (.int .i64 11))]), none⟩,
  ⟨(some 101), (.op (.bin .xor (.t 98) (.t 100))), none⟩,
  ⟨(some 102), (.op (.mv (.t 15))), none⟩,
  ⟨(some 103), (.call (.k (.func (.func 64) #[] #[])) [(.t 102), (.k (.int .i64 25))]), none⟩,
  ⟨(some 104), (.op (.bin .xor (.t 101) (.t 103))), none⟩,
  ⟨(some 105), (.op (.bin .add (.t 96) (.t 104))), none⟩,
  ⟨(some 106), (.op (.mv (.t 15))), none⟩,
  ⟨(some 107), (.op (.mv (.t 13))), none⟩,
  ⟨(some 108), (.op (.ixAddr 1 (.t 107) (.k (.int .i64 5)))), none⟩,
  ⟨(some 109), (.op (.load1 (.t 108))), none⟩,
  ⟨(some 110), (.op (.bin .and (.t 106) (.t 109))), none⟩,
  ⟨(some 111), (.op (.mv (.t 15))), none⟩,
  ⟨(some 112), (.op (.un .xor (.t 111))), none⟩,
  ⟨(some 113), (.op (.mv (.t 13))), none⟩,
  ⟨(some 114), (.op (.ixAddr 1 (.t 113) (.k (.int .i64 6)))), none⟩,
  ⟨(some 115), (.op (.load1 (.t 114))), none⟩,
  ⟨(some 116), (.op (.bin .and (.t 112) (.t 115))), none⟩,
  ⟨(some 117), (.op (.bin .or (.t 110) (.t 116))), none⟩,
  ⟨(some 118), (.op (.bin .add (.t 105) (.t 117))), none⟩,
  ⟨(some 119), (.op (.mv (.t 12))), none⟩,
  ⟨(some 120), (.op (.mv (.t 14))), none⟩,
  ⟨(some 121), (.op (.ixAddr 1 (.t 119) (.t 120))), none⟩,
  ⟨(some 122), (.op (.load1 (.t 121))), none⟩,
  ⟨(some 123), (.op (.bin .add (.t 118) (.t 122))), none⟩,
  ⟨(some 124), (.op (.mv (.t 14))), none⟩,
  ⟨(some 125), (.op (.ixAddrA 64 1 (.t 5) (.t 124))), none⟩,
  ⟨(some 126), (.op (.load1 (.t 125))), none⟩] [
  ⟨(some 127), (.op (.bin .add (.t 123) (.t 126))), none⟩,
  ⟨(some 17), (.op (.mv (.t 127))), none⟩])
  (.seq
  (.ops [
  ⟨(some 128), (.op (.mv (.t 16))), none⟩,
  ⟨(some 129), (.call (.k (.func (.func 64) #[] #[])) [(.t 128), (.k (.int .i64 2))]), none⟩,
  ⟨(some 130), (.op (.mv (.t 16))), none⟩,
  ⟨(some 131), (.call (.k (.func (.func 64) #[] #[])) [(.t 130), (.k (.int .i64 13))]), none⟩,
  ⟨(some 132), (.op (.bin .xor (.t 129) (.t 131))), none⟩,
  ⟨(some 133), (.op (.mv (.t 16))), none⟩,
  ⟨(some 134), (.call (.k (.func (.func 64) #[] #[])) [(.t 133), (.k (.int .i64 22))]), none⟩,
  ⟨(some 135), (.op (.bin .xor (.t 132) (.t 134))), none⟩,
  ⟨(some 136), (.op (.mv (.t 16))), none⟩,
  ⟨(some 137), (.op (.mv (.t 13))), none⟩,
  ⟨(some 138), (.op (.ixAddr 1 (.t 137) (.k (.int .i64 1)))), none⟩,
  ⟨(some 139), (.op (.load1 (.t 138))), none⟩,
  ⟨(some 140), (.op (.bin .and (.t 136) (.t 139))), none⟩,
  ⟨(some 141), (.op (.mv (.t 16))), none⟩,
  ⟨(some 142), (.op (.mv (.t 13))), none⟩,
  ⟨(some 143), (.op (.ixAddr 1 (.t 142) (.k (.int .i64 2)))), none⟩,
  ⟨(some 144), (.op (.load1 (.t 143))), none⟩,
  ⟨(some 145), (.op (.bin .and (.t 141) (.t 144))), none⟩,
  ⟨(some 146), (.op (.bin .or (.t 140) (.t 145))), none⟩,
  ⟨(some 147), (.op (.mv (.t 13))), none⟩,
  ⟨(some 148), (.op (.ixAddr 1 (.t 147) (.k (.int .i64 1)))), none⟩,
  ⟨(some 149), (.op (.load1 (.t 148))), none⟩,
  ⟨(some 150), (.op (.mv (.t 13))), none⟩,
  ⟨(some 151), (.op (.ixAddr 1 (.t 150) (.k (.int .i64 2)))), none⟩,
  ⟨(some 152), (.op (.load1 (.t 151))), none⟩,
  ⟨(some 153), (.op (.bin .and (.t 149) (.t 152))), none⟩,
  ⟨(some 154), (.op (.bin .or (.t 146) (.t 153))), none⟩] [
  ⟨(some 155), (.op (.bin .add (.t 135) (.t 154))), none⟩,
  ⟨(some 18), (.op (.mv (.t 155))), none⟩])
  (.ops [
  ⟨(some 156), (.op (.mv (.t 17))), none⟩,
  ⟨(some 157), (.op (.mv (.t 18))), none⟩,
  ⟨(some 158), (.op (.bin .add (.t 156) (.t 157))), none⟩,
  ⟨(some 159), (.op (.mv (.t 13))), none⟩,
  ⟨(some 160), (.op (.ixAddr 1 (.t 159) (.k (.int .i64 0)))), none⟩,
  ⟨(some 161), (.op (.load1 (.t 160))), none⟩,
  ⟨(some 162), (.op (.mv (.t 13))), none⟩,
  ⟨(some 163), (.op (.ixAddr 1 (.t 162) (.k (.int .i64 1)))), none⟩,
  ⟨(some 164), (.op (.load1 (.t 163))), none⟩,
  ⟨(some 165), (.op (.mv (.t 13))), none⟩,
  ⟨(some 166), (.op (.ixAddr 1 (.t 165) (.k (.int .i64 2)))), none⟩,
  ⟨(some 167), (.op (.load1 (.t 166))), none⟩,
  ⟨(some 168), (.op (.mv (.t 13))), none⟩,
  ⟨(some 169), (.op (.ixAddr 1 (.t 168) (.k (.int .i64 3)))), none⟩,
  ⟨(some 170), (.op (.load1 (.t 169))), none⟩,
  ⟨(some 171), (.op (.mv (.t 17))), none⟩,
  ⟨(some 172), (.op (.bin .add (.t 170) (.t 171))), none⟩,
  ⟨(some 173), (.op (.mv (.t 13))), none⟩,
  ⟨(some 174), (.op (.ixAddr 1 (.t 173) (.k (.int .i64 4)))), none⟩,
  ⟨(some 175), (.op (.load1 (.t 174))), none⟩,
  ⟨(some 176), (.op (.mv (.t 13))), none⟩,
  ⟨(some 177), (.op (.ixAddr 1 (.t 176) (.k (.int .i64 5)))), none⟩,
  ⟨(some 178), (.op (.load1 (.t 177))), none⟩,
  ⟨(some 179), (.op (.mv (.t 13))), none⟩,
  ⟨(some 180), (.op (.ixAddr 1 (.t 179) (.k (.int .i64 6)))), none⟩,
  ⟨(some 181), (.op (.load1 (.t 180))), none⟩] [
  ⟨(some 182), (.op (.mkSl 8 [(.int .u32 0), (.int .u32 0), (.int .u32 0), (.int .u32 0), (.int .u32 0), (.int .u32 0), (.int .u32 0), (.int .u32 0)] [(0, (1, (.t 158))), (1, (1, (.t 161))), (2, (1, (.t 164))), (3, (1, (.t 167))), (4, (1, (.t 172))), (5, (1, (.t 175))), (6, (1, (.t 178))), (7, (1, (.t 181)))])), none⟩,
  ⟨(some 13), (.op (.mv (.t 182))), none⟩]))))))
  (.ops [] [
  ⟨(some 86), (.op (.mv (.t 14))), none⟩,
  ⟨(some 87), (.op (.bin .add (.t 86) (.k (.int .i64 1)))), none⟩,
  ⟨(some 14), (.op (.mv (.t 87))), none⟩]))))))
def thrD : RC :=
  (.seq
  (.ops [] [
  ⟨(some 19), (.op (.mv (.k (.int .i64 0)))), none⟩])
  (.block 6
  (.loop
  (.seq
  (.seq
  (.ops [] [
  ⟨(some 183), (.op (.mv (.t 19))), none⟩,
  ⟨(some 184), (.op (.bin .lss (.t 183) (.k (.int .i64 8)))), none⟩])
  (.cond (.t 184)
  .skip
  (.exit 6)))
  (.seq
  (.block 7
  (.ops [
  ⟨(some 187), (.op (.mv (.t 13))), none⟩,
  ⟨(some 188), (.op (.mv (.t 19))), none⟩,
  ⟨(some 189), (.op (.mv (.t 13))), none⟩,
  ⟨(some 190), (.op (.mv (.t 19))), none⟩,
  ⟨(some 191), (.op (.ixAddr 1 (.t 189) (.t 190))), none⟩,
  ⟨(some 192), (.op (.load1 (.t 191))), none⟩,
  ⟨(some 193), (.op (.mv (.t 0))), none⟩,
  ⟨(some 194), (.op (.mv (.t 19))), none⟩,
  ⟨(some 195), (.op (.ixAddr 1 (.t 193) (.t 194))), none⟩,
  ⟨(some 196), (.op (.load1 (.t 195))), none⟩,
  ⟨(some 197), (.op (.bin .add (.t 192) (.t 196))), none⟩] [
  ⟨(some 198), (.op (.ixAddr 1 (.t 187) (.t 188))), none⟩,
  ⟨none, (.op (.store 1 (.t 198) (.t 197))), none⟩]))
  (.ops [] [
  ⟨(some 185), (.op (.mv (.t 19))), none⟩,
  ⟨(some 186), (.op (.bin .add (.t 185) (.k (.int .i64 1)))), none⟩,
  ⟨(some 19), (.op (.mv (.t 186))), none⟩]))))))

theorem sch_succ (R : List UInt8) (t : Nat) : sch R (t + 1) = sch R t ++ [wnext R t (sch R t)] := by
  conv => lhs; unfold sch

theorem four {R : List UInt8} {t : Nat} (h : 4 * t + 4 ≤ R.length) : (R.drop (4 * t)).take 4 = [R.getD (4 * t) 0, R.getD (4 * t + 1) 0, R.getD (4 * t + 2) 0, R.getD (4 * t + 3) 0] := by
  have g : ∀ i, i < R.length → R.drop i = R.getD i 0 :: R.drop (i + 1) := fun i hi => by
    rw [List.drop_eq_getElem_cons hi, List.getD_eq_getElem?_getD, List.getElem?_eq_getElem hi]; rfl
  rw [g _ (by omega), g _ (by omega), g _ (by omega), g _ (by omega)]
  rfl

section
variable {f : Regs} {x b q : Nat} {g : Nat → Option Blk} {s : Stk}

theorem thrA_of {B : Option Addr} {d : Nat} {R : List UInt8} (hbx : b ≤ x) (hb : b ≤ q) (hq : q < x) (f1 : f 1 = .slice B 64 d) (hd : 64 ≤ d) (hB : Row x g 1 B 64 (R.map u8V)) (hBq : ∀ a, B = some a → a.block ≠ q) (f5 : f 5 = .pointer (some ⟨q, 0, none⟩)) (gq : g q = some (.cells ((List.replicate 64 (0 : UInt32)).map u32V) false))
    (K : ∀ (f' : Regs) (x' : Nat) (g' : Nat → Option Blk), f' 0 = f 0 → f' 5 = f 5 → x ≤ x' → (∀ p, p < x → p ≠ q → g' p = g p) → g' q = some (.cells ((sch R 16 ++ List.replicate (64 - 16) 0).map u32V) false) → D Try.prog s .normal f' ⟨x', b, g'⟩) :
    RC.vc Try.prog thrA f ⟨x, b, g⟩ (D Try.prog s) := by
  have hR : R.length = 64 := by simpa using hB.len
  simp only [thrA, ↓gaW, ↓gaV, ↓gaC, ↓gaN, gaP, Nat.reduceEqDiff, Nat.reduceLeDiff, Nat.reduceAdd, Nat.reduceSub, Nat.reduceMul, Int.reduceLT, Int.reduceLE, Int.reduceEq, Int.reduceToNat, Int.reduceAdd, Int.reduceSub, Int.reduceMul, reduceCtorEq, ↓reduceIte]
  refine loop_of (fun j f' m => ∃ (t x' : Nat) (g' : Nat → Option Blk), j = 16 - t ∧ t ≤ 16 ∧ f' 0 = f 0 ∧ f' 1 = .slice B 64 d ∧ f' 5 = .pointer (some ⟨q, 0, none⟩) ∧ f' 6 = .int .i64 (t : Nat) ∧ m = ⟨x', b, g'⟩ ∧ x ≤ x' ∧ (∀ p, p < x → p ≠ q → g' p = g p) ∧ g' q = some (.cells ((sch R t ++ List.replicate (64 - t) 0).map u32V) false)) 16
    ⟨0, x, g, by omega, by omega, by simp only [↓gaW, ↓gaV, ↓gaC, ↓gaN, gaP, Nat.reduceEqDiff, Nat.reduceLeDiff, Nat.reduceAdd, Nat.reduceSub, Nat.reduceMul, Int.reduceLT, Int.reduceLE, Int.reduceEq, Int.reduceToNat, Int.reduceAdd, Int.reduceSub, Int.reduceMul, reduceCtorEq, ↓reduceIte], by simp only [↓gaW, ↓gaV, ↓gaC, ↓gaN, gaP, Nat.reduceEqDiff, Nat.reduceLeDiff, Nat.reduceAdd, Nat.reduceSub, Nat.reduceMul, Int.reduceLT, Int.reduceLE, Int.reduceEq, Int.reduceToNat, Int.reduceAdd, Int.reduceSub, Int.reduceMul, reduceCtorEq, ↓reduceIte, f1], by simp only [↓gaW, ↓gaV, ↓gaC, ↓gaN, gaP, Nat.reduceEqDiff, Nat.reduceLeDiff, Nat.reduceAdd, Nat.reduceSub, Nat.reduceMul, Int.reduceLT, Int.reduceLE, Int.reduceEq, Int.reduceToNat, Int.reduceAdd, Int.reduceSub, Int.reduceMul, reduceCtorEq, ↓reduceIte, f5], by simp only [↓gaW, ↓gaV, ↓gaC, ↓gaN, gaP, Nat.reduceEqDiff, Nat.reduceLeDiff, Nat.reduceAdd, Nat.reduceSub, Nat.reduceMul, Int.reduceLT, Int.reduceLE, Int.reduceEq, Int.reduceToNat, Int.reduceAdd, Int.reduceSub, Int.reduceMul, reduceCtorEq, ↓reduceIte], rfl, by omega, fun _ _ _ => rfl, by unfold sch; exact gq⟩ ?_
  rintro j f' m ⟨t, x', g', rfl, ht, f0', f1', f5', f6', rfl, hx, hF, hgq⟩
  have hsl := sch_len R t
  by_cases hlt : (t : Int) < 16
  · have e0 : (4 : Int) * (t : Int) = ((4 * t : Nat) : Int) := by omega
    have e1 : ((4 * t : Nat) : Int) + 4 = ((4 * t + 4 : Nat) : Int) := by omega
    obtain ⟨a, ce, ro, rfl, p1, p2, _⟩ := hB.cells (by omega)
    have hsp := hB.spot a rfl
    have hB' := hB.keepA hx (gt' := g') (fun _ a' ha => by injection ha with ha; subst ha; exact hF _ p1 (hBq a rfl))
    have hpart := hB'.part (lo := 4 * t) (hi := 4 * t + 4) (by omega) (by omega) rfl
    rw [show 4 * t + 4 - 4 * t = 4 by omega, ← List.map_drop, ← List.map_take, four (by omega)] at hpart
    have e2 : (((4 * t + 4 : Nat) : Int) - ((4 * t : Nat) : Int)).toNat = 4 := by omega
    have b0 := (R.getD (4 * t) 0).toNat_lt
    have b1 := (R.getD (4 * t + 1) 0).toNat_lt
    have b2 := (R.getD (4 * t + 2) 0).toNat_lt
    have b3 := (R.getD (4 * t + 3) 0).toNat_lt
    have hw : wnext R t (sch R t) = UInt32.ofNat ((((R.getD (4 * t) 0).toNat * 256 + (R.getD (4 * t + 1) 0).toNat) * 256 + (R.getD (4 * t + 2) 0).toNat) * 256 + (R.getD (4 * t + 3) 0).toNat) := by
      rw [wnext, if_pos (by omega)]; rfl
    have hval : val [R.getD (4 * t) 0, R.getD (4 * t + 1) 0, R.getD (4 * t + 2) 0, R.getD (4 * t + 3) 0] = (((R.getD (4 * t) 0).toNat * 256 + (R.getD (4 * t + 1) 0).toNat) * 256 + (R.getD (4 * t + 2) 0).toNat) * 256 + (R.getD (4 * t + 3) 0).toNat := by
      simp [val, valFrom]
    simp only [↓gaW, ↓gaV, ↓gaC, ↓gaN, gaP, Nat.reduceEqDiff, Nat.reduceLeDiff, Nat.reduceAdd, Nat.reduceSub, Nat.reduceMul, Int.reduceLT, Int.reduceLE, Int.reduceEq, Int.reduceToNat, Int.reduceAdd, Int.reduceSub, Int.reduceMul, reduceCtorEq, ↓reduceIte, gaU, f1', f6', hlt, decide_true, e0, e1, i64_w ((4 * t : Nat) : Int) (by omega), i64_w ((4 * t + 4 : Nat) : Int) (by omega), Int.toNat_natCast, Nat.mul_one, e2]
    repeat refine And.intro (by first | omega | (rcases hsp with h | h <;> simp [h]; done)) ?_
    refine callK_of (ct_rNum hpart (by omega)) (fun v x2 g2 l2 k2 hC => ?_) (by omega)
    rw [numV, hval, if_pos (by omega)] at hC
    subst hC
    have hst := fill_step (w := wnext R t (sch R t)) hsl (by omega)
    obtain ⟨N, hN⟩ : ∃ N, (((R.getD (4 * t) 0).toNat * 256 + (R.getD (4 * t + 1) 0).toNat) * 256 + (R.getD (4 * t + 2) 0).toNat) * 256 + (R.getD (4 * t + 3) 0).toNat = N := ⟨_, rfl⟩
    have hN32 : N < 4294967296 := by omega
    rw [hN] at hw
    have hv : Value.int .u32 ((N : Nat) : Int) = u32V (wnext R t (sch R t)) := by rw [hw, ← u32V_lt hN32]
    have q1 : (t : Int) + 1 = ((t + 1 : Nat) : Int) := by omega
    have hgq2 : g2 q = some (.cells ((sch R t ++ List.replicate (64 - t) 0).map u32V) false) := by rw [k2 q (by omega), hgq]
    simp only [↓gaW, ↓gaV, ↓gaC, ↓gaN, gaP, Nat.reduceEqDiff, Nat.reduceLeDiff, Nat.reduceAdd, Nat.reduceSub, Nat.reduceMul, Int.reduceLT, Int.reduceLE, Int.reduceEq, Int.reduceToNat, Int.reduceAdd, Int.reduceSub, Int.reduceMul, reduceCtorEq, ↓reduceIte, gaU, f5', f6', hN, u32_i (N : Int) (by omega), hv, hgq2, Int.toNat_natCast, Nat.mul_one, Nat.zero_add, hst]
    repeat refine And.intro (by first | omega | (simp; done) | (simp; omega) | exact all1 rfl) ?_
    simp only [↓gaW, ↓gaV, ↓gaC, ↓gaN, gaP, Nat.reduceEqDiff, Nat.reduceLeDiff, Nat.reduceAdd, Nat.reduceSub, Nat.reduceMul, Int.reduceLT, Int.reduceLE, Int.reduceEq, Int.reduceToNat, Int.reduceAdd, Int.reduceSub, Int.reduceMul, reduceCtorEq, ↓reduceIte, f6', q1, i64_w ((t + 1 : Nat) : Int) (by omega), loopK_n]
    refine ⟨16 - (t + 1), by omega, t + 1, x2, _, rfl, by omega, f0', f1', f5', rfl, rfl, by omega, fun p hp hpq => ?_, by simp only [upd_e, if_true]; rw [sch_succ]⟩
    simp only [upd_e]; rw [if_neg hpq, k2 p (by omega), hF p hp hpq]
  · have h16 : t = 16 := by omega
    subst h16
    simp only [↓gaW, ↓gaV, ↓gaC, ↓gaN, gaP, Nat.reduceEqDiff, Nat.reduceLeDiff, Nat.reduceAdd, Nat.reduceSub, Nat.reduceMul, Int.reduceLT, Int.reduceLE, Int.reduceEq, Int.reduceToNat, Int.reduceAdd, Int.reduceSub, Int.reduceMul, reduceCtorEq, ↓reduceIte, f6', hlt, decide_false, loopK_e]
    exact K _ _ _ (by simp only [↓gaW, ↓gaV, ↓gaC, ↓gaN, gaP, Nat.reduceEqDiff, Nat.reduceLeDiff, Nat.reduceAdd, Nat.reduceSub, Nat.reduceMul, Int.reduceLT, Int.reduceLE, Int.reduceEq, Int.reduceToNat, Int.reduceAdd, Int.reduceSub, Int.reduceMul, reduceCtorEq, ↓reduceIte, f0']) (by simp only [↓gaW, ↓gaV, ↓gaC, ↓gaN, gaP, Nat.reduceEqDiff, Nat.reduceLeDiff, Nat.reduceAdd, Nat.reduceSub, Nat.reduceMul, Int.reduceLT, Int.reduceLE, Int.reduceEq, Int.reduceToNat, Int.reduceAdd, Int.reduceSub, Int.reduceMul, reduceCtorEq, ↓reduceIte, f5', f5]) hx hF hgq

theorem thrB_of {R : List UInt8} (hbx : b ≤ x) (hb : b ≤ q) (hq : q < x) (f5 : f 5 = .pointer (some ⟨q, 0, none⟩)) (gq : g q = some (.cells ((sch R 16 ++ List.replicate (64 - 16) 0).map u32V) false))
    (K : ∀ (f' : Regs) (g' : Nat → Option Blk), f' 0 = f 0 → f' 5 = f 5 → (∀ p, p ≠ q → g' p = g p) → g' q = some (.cells ((sch R 64).map u32V) false) → D Try.prog s .normal f' ⟨x, b, g'⟩) :
    RC.vc Try.prog thrB f ⟨x, b, g⟩ (D Try.prog s) := by
  simp only [thrB, ↓gaW, ↓gaV, ↓gaC, ↓gaN, gaP, Nat.reduceEqDiff, Nat.reduceLeDiff, Nat.reduceAdd, Nat.reduceSub, Nat.reduceMul, Int.reduceLT, Int.reduceLE, Int.reduceEq, Int.reduceToNat, Int.reduceAdd, Int.reduceSub, Int.reduceMul, reduceCtorEq, ↓reduceIte]
  refine loop_of (fun j f' m => ∃ (t : Nat) (g' : Nat → Option Blk), j = 64 - t ∧ 16 ≤ t ∧ t ≤ 64 ∧ f' 0 = f 0 ∧ f' 5 = .pointer (some ⟨q, 0, none⟩) ∧ f' 9 = .int .i64 (t : Nat) ∧ m = ⟨x, b, g'⟩ ∧ (∀ p, p ≠ q → g' p = g p) ∧ g' q = some (.cells ((sch R t ++ List.replicate (64 - t) 0).map u32V) false)) 48
    ⟨16, g, by omega, by omega, by omega, by simp only [↓gaW, ↓gaV, ↓gaC, ↓gaN, gaP, Nat.reduceEqDiff, Nat.reduceLeDiff, Nat.reduceAdd, Nat.reduceSub, Nat.reduceMul, Int.reduceLT, Int.reduceLE, Int.reduceEq, Int.reduceToNat, Int.reduceAdd, Int.reduceSub, Int.reduceMul, reduceCtorEq, ↓reduceIte], by simp only [↓gaW, ↓gaV, ↓gaC, ↓gaN, gaP, Nat.reduceEqDiff, Nat.reduceLeDiff, Nat.reduceAdd, Nat.reduceSub, Nat.reduceMul, Int.reduceLT, Int.reduceLE, Int.reduceEq, Int.reduceToNat, Int.reduceAdd, Int.reduceSub, Int.reduceMul, reduceCtorEq, ↓reduceIte, f5], by simp only [↓gaW, ↓gaV, ↓gaC, ↓gaN, gaP, Nat.reduceEqDiff, Nat.reduceLeDiff, Nat.reduceAdd, Nat.reduceSub, Nat.reduceMul, Int.reduceLT, Int.reduceLE, Int.reduceEq, Int.reduceToNat, Int.reduceAdd, Int.reduceSub, Int.reduceMul, reduceCtorEq, ↓reduceIte], rfl, fun _ _ => rfl, gq⟩ ?_
  rintro j f' m ⟨t, g', rfl, ht16, ht, f0', f5', f9', rfl, hF, hgn⟩
  have hsl := sch_len R t
  by_cases hlt : (t : Int) < 64
  · have hw : wnext R t (sch R t) = (sch R t).getD (t - 16) 0 + sg0 ((sch R t).getD (t - 15) 0) + (sch R t).getD (t - 7) 0 + sg1 ((sch R t).getD (t - 2) 0) := by
      rw [wnext, if_neg (by omega)]
    have hst := fill_step (w := wnext R t (sch R t)) hsl (by omega)
    have c15 := fill_get hsl (show t - 15 < t by omega)
    have c2 := fill_get hsl (show t - 2 < t by omega)
    have c16 := fill_get hsl (show t - 16 < t by omega)
    have c7 := fill_get hsl (show t - 7 < t by omega)
    have e15 : (t : Int) - 15 = ((t - 15 : Nat) : Int) := by omega
    have e2 : (t : Int) - 2 = ((t - 2 : Nat) : Int) := by omega
    have e16 : (t : Int) - 16 = ((t - 16 : Nat) : Int) := by omega
    have e7 : (t : Int) - 7 = ((t - 7 : Nat) : Int) := by omega
    have hsch := sch_succ R t
    rw [hw] at hst hsch
    generalize (sch R t).getD (t - 15) 0 = X15 at *
    generalize (sch R t).getD (t - 2) 0 = X2 at *
    generalize (sch R t).getD (t - 16) 0 = X16 at *
    generalize (sch R t).getD (t - 7) 0 = X7 at *
    have w3 : ∀ (K : Value → Prop), binK .shr (u32V X15) (.int .u64 3) K = K (u32V (UInt32.ofNat (X15.toNat / 2 ^ 3))) := fun K => w_shr (k := .u64) (s := 3) (by decide)
    have w10 : ∀ (K : Value → Prop), binK .shr (u32V X2) (.int .u64 10) K = K (u32V (UInt32.ofNat (X2.toNat / 2 ^ 10))) := fun K => w_shr (k := .u64) (s := 10) (by decide)
    have q1 : (t : Int) + 1 = ((t + 1 : Nat) : Int) := by omega
    simp only [↓gaW, ↓gaV, ↓gaC, ↓gaN, gaP, Nat.reduceEqDiff, Nat.reduceLeDiff, Nat.reduceAdd, Nat.reduceSub, Nat.reduceMul, Int.reduceLT, Int.reduceLE, Int.reduceEq, Int.reduceToNat, Int.reduceAdd, Int.reduceSub, Int.reduceMul, reduceCtorEq, ↓reduceIte, gaU, f5', f9', hlt, decide_true, decide_false, hgn, Nat.zero_add, Nat.mul_one, e15, e2, e16, e7, i64_w ((t - 15 : Nat) : Int) (by omega), i64_w ((t - 2 : Nat) : Int) (by omega), i64_w ((t - 16 : Nat) : Int) (by omega), Int.toNat_natCast, c15, c2, c16]
    repeat refine And.intro (by first | omega | (simp; done) | (simp; omega) | exact all1 rfl) ?_
    refine callQ_of (ct_turned (n := 7) (by decide) (by decide)) (fun v n1 g1 l1 k1 hC => ?_)
    obtain ⟨rfl, rfl, rfl⟩ := hC
    simp only [↓gaW, ↓gaV, ↓gaC, ↓gaN, gaP, Nat.reduceEqDiff, Nat.reduceLeDiff, Nat.reduceAdd, Nat.reduceSub, Nat.reduceMul, Int.reduceLT, Int.reduceLE, Int.reduceEq, Int.reduceToNat, Int.reduceAdd, Int.reduceSub, Int.reduceMul, reduceCtorEq, ↓reduceIte, gaU]
    refine callQ_of (ct_turned (n := 18) (by decide) (by decide)) (fun v n1 g1 l1 k1 hC => ?_)
    obtain ⟨rfl, rfl, rfl⟩ := hC
    simp only [↓gaW, ↓gaV, ↓gaC, ↓gaN, gaP, Nat.reduceEqDiff, Nat.reduceLeDiff, Nat.reduceAdd, Nat.reduceSub, Nat.reduceMul, Int.reduceLT, Int.reduceLE, Int.reduceEq, Int.reduceToNat, Int.reduceAdd, Int.reduceSub, Int.reduceMul, reduceCtorEq, ↓reduceIte, gaU, w3, f5', f9', e7, hgn, Nat.zero_add, Nat.mul_one, i64_w ((t - 7 : Nat) : Int) (by omega), Int.toNat_natCast, c7]
    repeat refine And.intro (by first | omega | (simp; done) | (simp; omega) | exact all1 rfl) ?_
    refine callQ_of (ct_turned (n := 17) (by decide) (by decide)) (fun v n1 g1 l1 k1 hC => ?_)
    obtain ⟨rfl, rfl, rfl⟩ := hC
    simp only [↓gaW, ↓gaV, ↓gaC, ↓gaN, gaP, Nat.reduceEqDiff, Nat.reduceLeDiff, Nat.reduceAdd, Nat.reduceSub, Nat.reduceMul, Int.reduceLT, Int.reduceLE, Int.reduceEq, Int.reduceToNat, Int.reduceAdd, Int.reduceSub, Int.reduceMul, reduceCtorEq, ↓reduceIte, gaU]
    refine callQ_of (ct_turned (n := 19) (by decide) (by decide)) (fun v n1 g1 l1 k1 hC => ?_)
    obtain ⟨rfl, rfl, rfl⟩ := hC
    simp only [sg0, sg1] at hst hsch
    simp only [↓gaW, ↓gaV, ↓gaC, ↓gaN, gaP, Nat.reduceEqDiff, Nat.reduceLeDiff, Nat.reduceAdd, Nat.reduceSub, Nat.reduceMul, Int.reduceLT, Int.reduceLE, Int.reduceEq, Int.reduceToNat, Int.reduceAdd, Int.reduceSub, Int.reduceMul, reduceCtorEq, ↓reduceIte, gaU, w10, f5', hgn, Nat.zero_add, Nat.mul_one, Int.toNat_natCast, hst]
    repeat refine And.intro (by first | omega | (simp; done) | (simp; omega) | exact all1 rfl) ?_
    simp only [↓gaW, ↓gaV, ↓gaC, ↓gaN, gaP, Nat.reduceEqDiff, Nat.reduceLeDiff, Nat.reduceAdd, Nat.reduceSub, Nat.reduceMul, Int.reduceLT, Int.reduceLE, Int.reduceEq, Int.reduceToNat, Int.reduceAdd, Int.reduceSub, Int.reduceMul, reduceCtorEq, ↓reduceIte, f9', q1, i64_w ((t + 1 : Nat) : Int) (by omega), loopK_n]
    refine ⟨64 - (t + 1), by omega, t + 1, _, rfl, by omega, by omega, f0', f5', rfl, rfl, fun p hp => ?_, by simp only [upd_e, if_true]; rw [hsch]⟩
    simp only [upd_e]; rw [if_neg hp, hF p hp]
  · have h64 : t = 64 := by omega
    subst h64
    rw [Nat.sub_self, List.replicate_zero, List.append_nil] at hgn
    simp only [↓gaW, ↓gaV, ↓gaC, ↓gaN, gaP, Nat.reduceEqDiff, Nat.reduceLeDiff, Nat.reduceAdd, Nat.reduceSub, Nat.reduceMul, Int.reduceLT, Int.reduceLE, Int.reduceEq, Int.reduceToNat, Int.reduceAdd, Int.reduceSub, Int.reduceMul, reduceCtorEq, ↓reduceIte, f9', hlt, decide_false, loopK_e]
    exact K _ _ (by simp only [↓gaW, ↓gaV, ↓gaC, ↓gaN, gaP, Nat.reduceEqDiff, Nat.reduceLeDiff, Nat.reduceAdd, Nat.reduceSub, Nat.reduceMul, Int.reduceLT, Int.reduceLE, Int.reduceEq, Int.reduceToNat, Int.reduceAdd, Int.reduceSub, Int.reduceMul, reduceCtorEq, ↓reduceIte, f0']) (by simp only [↓gaW, ↓gaV, ↓gaC, ↓gaN, gaP, Nat.reduceEqDiff, Nat.reduceLeDiff, Nat.reduceAdd, Nat.reduceSub, Nat.reduceMul, Int.reduceLT, Int.reduceLE, Int.reduceEq, Int.reduceToNat, Int.reduceAdd, Int.reduceSub, Int.reduceMul, reduceCtorEq, ↓reduceIte, f5', f5]) hF hgn

theorem thrC_of {A : Option Addr} {W : List UInt32} {R : List UInt8} {qk : Nat} (hbx : b ≤ x) (hq : q < x) (hk : qk < x) (f5 : f 5 = .pointer (some ⟨q, 0, none⟩)) (gq : g q = some (.cells ((sch R 64).map u32V) false)) (f12 : f 12 = .slice (some ⟨qk, 0, none⟩) 64 64) (gk : g qk = some (.cells (k256.map u32V) false))
    (f13 : f 13 = .slice A 8 8) (hA : Row x g 1 A 8 (W.map u32V))
    (K : ∀ (f' : Regs) (x' p : Nat) (g' : Nat → Option Blk), f' 0 = f 0 → f' 13 = .slice (some ⟨p, 0, none⟩) 8 8 → x ≤ x' → (∀ p, p < x → g' p = g p) → x ≤ p → p < x' → g' p = some (.cells ((rs W R 64).map u32V) false) → D Try.prog s .normal f' ⟨x', b, g'⟩) :
    RC.vc Try.prog thrC f ⟨x, b, g⟩ (D Try.prog s) := by
  have hW : W.length = 8 := by simpa using hA.len
  have hr0 := rs_len hW R
  obtain ⟨Lw, hLw⟩ : ∃ L, (sch R 64).map u32V = L := ⟨_, rfl⟩
  have hln := sch_len R 64
  have hLl : Lw.length = 64 := by rw [← hLw]; simp [hln]
  rw [hLw] at gq
  have hkl : (k256.map u32V).length = 64 := rfl
  have cK : ∀ t, t < 64 → (k256.map u32V).getD t undef = u32V (k256.getD t 0) := fun t ht => getD_w (by show t < 64; omega)
  generalize k256.map u32V = Kc at *
  simp only [thrC, ↓gaW, ↓gaV, ↓gaC, ↓gaN, gaP, Nat.reduceEqDiff, Nat.reduceLeDiff, Nat.reduceAdd, Nat.reduceSub, Nat.reduceMul, Int.reduceLT, Int.reduceLE, Int.reduceEq, Int.reduceToNat, Int.reduceAdd, Int.reduceSub, Int.reduceMul, reduceCtorEq, ↓reduceIte]
  refine loop_of (fun j f' m => ∃ (t x' : Nat) (g' : Nat → Option Blk) (a : Addr) (ce : List Value) (ro : Bool), j = 64 - t ∧ t ≤ 64 ∧ f' 0 = f 0 ∧ f' 5 = .pointer (some ⟨q, 0, none⟩) ∧ f' 12 = .slice (some ⟨qk, 0, none⟩) 64 64 ∧ f' 13 = .slice (some a) 8 8 ∧ f' 14 = .int .i64 (t : Nat) ∧ m = ⟨x', b, g'⟩ ∧ x ≤ x' ∧ (∀ p, p < x → g' p = g p) ∧
      a.block < x' ∧ g' a.block = some (.cells ce ro) ∧ a.off + 8 ≤ ce.length ∧ (∀ i, i < 8 → ce.getD (a.off + i) undef = u32V ((rs W R t).getD i 0)) ∧ (0 < t → x ≤ a.block ∧ a = ⟨a.block, 0, none⟩ ∧ ro = false ∧ ce = (rs W R t).map u32V)) 64 ?_ ?_
  · obtain ⟨a, ce, ro, rfl, p1, p2, p3, p4⟩ := hA.cells (by omega)
    refine ⟨0, x, g, a, ce, ro, by omega, by omega, by simp only [↓gaW, ↓gaV, ↓gaC, ↓gaN, gaP, Nat.reduceEqDiff, Nat.reduceLeDiff, Nat.reduceAdd, Nat.reduceSub, Nat.reduceMul, Int.reduceLT, Int.reduceLE, Int.reduceEq, Int.reduceToNat, Int.reduceAdd, Int.reduceSub, Int.reduceMul, reduceCtorEq, ↓reduceIte], by simp only [↓gaW, ↓gaV, ↓gaC, ↓gaN, gaP, Nat.reduceEqDiff, Nat.reduceLeDiff, Nat.reduceAdd, Nat.reduceSub, Nat.reduceMul, Int.reduceLT, Int.reduceLE, Int.reduceEq, Int.reduceToNat, Int.reduceAdd, Int.reduceSub, Int.reduceMul, reduceCtorEq, ↓reduceIte, f5], by simp only [↓gaW, ↓gaV, ↓gaC, ↓gaN, gaP, Nat.reduceEqDiff, Nat.reduceLeDiff, Nat.reduceAdd, Nat.reduceSub, Nat.reduceMul, Int.reduceLT, Int.reduceLE, Int.reduceEq, Int.reduceToNat, Int.reduceAdd, Int.reduceSub, Int.reduceMul, reduceCtorEq, ↓reduceIte, f12], by simp only [↓gaW, ↓gaV, ↓gaC, ↓gaN, gaP, Nat.reduceEqDiff, Nat.reduceLeDiff, Nat.reduceAdd, Nat.reduceSub, Nat.reduceMul, Int.reduceLT, Int.reduceLE, Int.reduceEq, Int.reduceToNat, Int.reduceAdd, Int.reduceSub, Int.reduceMul, reduceCtorEq, ↓reduceIte, f13], by simp only [↓gaW, ↓gaV, ↓gaC, ↓gaN, gaP, Nat.reduceEqDiff, Nat.reduceLeDiff, Nat.reduceAdd, Nat.reduceSub, Nat.reduceMul, Int.reduceLT, Int.reduceLE, Int.reduceEq, Int.reduceToNat, Int.reduceAdd, Int.reduceSub, Int.reduceMul, reduceCtorEq, ↓reduceIte], rfl, by omega, fun _ _ => rfl, p1, p2, p3, fun i hi => ?_, fun h => absurd h (Nat.lt_irrefl 0)⟩
    rw [p4 i hi]
    unfold rs
    exact getD_w (by omega)
  rintro j f' m ⟨t, x', g', a0, ce, ro, rfl, ht, f0', f5', f12', f13', f14', rfl, hx, hF, p1, p2, p3, p4, p5⟩
  by_cases hlt : (t : Int) < 64
  · have gq' := (hF q hq).trans gq
    have gk' := (hF qk hk).trans gk
    obtain ⟨a, b', c, d, e, f1, h, i, hv⟩ := list8 (hr0 t)
    rw [hv] at p4
    have c0 : ce.getD a0.off undef = u32V a := p4 0 (by omega)
    have c1 : ce.getD (a0.off + 1) undef = u32V b' := p4 1 (by omega)
    have c2 : ce.getD (a0.off + 2) undef = u32V c := p4 2 (by omega)
    have c3 : ce.getD (a0.off + 3) undef = u32V d := p4 3 (by omega)
    have c4 : ce.getD (a0.off + 4) undef = u32V e := p4 4 (by omega)
    have c5 : ce.getD (a0.off + 5) undef = u32V f1 := p4 5 (by omega)
    have c6 : ce.getD (a0.off + 6) undef = u32V h := p4 6 (by omega)
    have c7 : ce.getD (a0.off + 7) undef = u32V i := p4 7 (by omega)
    have cKt := cK t (by omega)
    have cW : Lw.getD t undef = u32V ((sch R 64).getD t 0) := by rw [← hLw]; exact getD_w (by omega)
    have hnx : rs W R (t + 1) = rnd (k256.getD t 0) ((sch R 64).getD t 0) (rs W R t) := by
      conv => lhs; unfold rs
    rw [hv] at hnx
    generalize k256.getD t 0 = Kt at *
    generalize (sch R 64).getD t 0 = Wt at *
    have q1 : (t : Int) + 1 = ((t + 1 : Nat) : Int) := by omega
    simp only [↓gaW, ↓gaV, ↓gaC, ↓gaN, gaP, Nat.reduceEqDiff, Nat.reduceLeDiff, Nat.reduceAdd, Nat.reduceSub, Nat.reduceMul, Int.reduceLT, Int.reduceLE, Int.reduceEq, Int.reduceToNat, Int.reduceAdd, Int.reduceSub, Int.reduceMul, reduceCtorEq, ↓reduceIte, List.getD_cons_zero, List.getD_cons_succ, fillL, splice, List.take_zero, List.drop_zero, List.drop_succ_cons, List.take_succ_cons, List.drop_nil, List.take_nil, gaU, f13', f14', hlt, decide_true, p2, c0, c4, c7, Nat.add_zero, Nat.mul_one]
    repeat refine And.intro (by first | omega | (simp; done) | (simp; omega) | exact all1 rfl) ?_
    refine callQ_of (ct_turned (n := 6) (by decide) (by decide)) (fun v n1 g1' l1 k1 hC => ?_)
    obtain ⟨rfl, rfl, rfl⟩ := hC
    simp only [↓gaW, ↓gaV, ↓gaC, ↓gaN, gaP, Nat.reduceEqDiff, Nat.reduceLeDiff, Nat.reduceAdd, Nat.reduceSub, Nat.reduceMul, Int.reduceLT, Int.reduceLE, Int.reduceEq, Int.reduceToNat, Int.reduceAdd, Int.reduceSub, Int.reduceMul, reduceCtorEq, ↓reduceIte, gaU]
    refine callQ_of (ct_turned (n := 11) (by decide) (by decide)) (fun v n1 g1' l1 k1 hC => ?_)
    obtain ⟨rfl, rfl, rfl⟩ := hC
    simp only [↓gaW, ↓gaV, ↓gaC, ↓gaN, gaP, Nat.reduceEqDiff, Nat.reduceLeDiff, Nat.reduceAdd, Nat.reduceSub, Nat.reduceMul, Int.reduceLT, Int.reduceLE, Int.reduceEq, Int.reduceToNat, Int.reduceAdd, Int.reduceSub, Int.reduceMul, reduceCtorEq, ↓reduceIte, gaU]
    refine callQ_of (ct_turned (n := 25) (by decide) (by decide)) (fun v n1 g1' l1 k1 hC => ?_)
    obtain ⟨rfl, rfl, rfl⟩ := hC
    simp only [↓gaW, ↓gaV, ↓gaC, ↓gaN, gaP, Nat.reduceEqDiff, Nat.reduceLeDiff, Nat.reduceAdd, Nat.reduceSub, Nat.reduceMul, Int.reduceLT, Int.reduceLE, Int.reduceEq, Int.reduceToNat, Int.reduceAdd, Int.reduceSub, Int.reduceMul, reduceCtorEq, ↓reduceIte, gaU, f5', f12', f13', f14', p2, gq', gk', c5, c6, cKt, cW, Nat.zero_add, Nat.mul_one, Int.toNat_natCast]
    repeat refine And.intro (by first | omega | (simp; done) | (simp; omega) | exact all1 rfl) ?_
    refine callQ_of (ct_turned (n := 2) (by decide) (by decide)) (fun v n1 g1' l1 k1 hC => ?_)
    obtain ⟨rfl, rfl, rfl⟩ := hC
    simp only [↓gaW, ↓gaV, ↓gaC, ↓gaN, gaP, Nat.reduceEqDiff, Nat.reduceLeDiff, Nat.reduceAdd, Nat.reduceSub, Nat.reduceMul, Int.reduceLT, Int.reduceLE, Int.reduceEq, Int.reduceToNat, Int.reduceAdd, Int.reduceSub, Int.reduceMul, reduceCtorEq, ↓reduceIte, gaU]
    refine callQ_of (ct_turned (n := 13) (by decide) (by decide)) (fun v n1 g1' l1 k1 hC => ?_)
    obtain ⟨rfl, rfl, rfl⟩ := hC
    simp only [↓gaW, ↓gaV, ↓gaC, ↓gaN, gaP, Nat.reduceEqDiff, Nat.reduceLeDiff, Nat.reduceAdd, Nat.reduceSub, Nat.reduceMul, Int.reduceLT, Int.reduceLE, Int.reduceEq, Int.reduceToNat, Int.reduceAdd, Int.reduceSub, Int.reduceMul, reduceCtorEq, ↓reduceIte, gaU]
    refine callQ_of (ct_turned (n := 22) (by decide) (by decide)) (fun v n1 g1' l1 k1 hC => ?_)
    obtain ⟨rfl, rfl, rfl⟩ := hC
    simp only [↓gaW, ↓gaV, ↓gaC, ↓gaN, gaP, Nat.reduceEqDiff, Nat.reduceLeDiff, Nat.reduceAdd, Nat.reduceSub, Nat.reduceMul, Int.reduceLT, Int.reduceLE, Int.reduceEq, Int.reduceToNat, Int.reduceAdd, Int.reduceSub, Int.reduceMul, reduceCtorEq, ↓reduceIte, List.getD_cons_zero, List.getD_cons_succ, fillL, splice, List.take_zero, List.drop_zero, List.drop_succ_cons, List.take_succ_cons, List.drop_nil, List.take_nil, gaU, f13', f14', p2, c0, c1, c2, c3, c4, c5, c6, Nat.add_zero, Nat.mul_one]
    repeat refine And.intro (by first | omega | (simp; done) | (simp; omega) | exact all1 rfl) ?_
    simp only [↓gaW, ↓gaV, ↓gaC, ↓gaN, gaP, Nat.reduceEqDiff, Nat.reduceLeDiff, Nat.reduceAdd, Nat.reduceSub, Nat.reduceMul, Int.reduceLT, Int.reduceLE, Int.reduceEq, Int.reduceToNat, Int.reduceAdd, Int.reduceSub, Int.reduceMul, reduceCtorEq, ↓reduceIte, List.getD_cons_zero, List.getD_cons_succ, fillL, splice, List.take_zero, List.drop_zero, List.drop_succ_cons, List.take_succ_cons, List.drop_nil, List.take_nil, gaU, f14', q1, i64_w ((t + 1 : Nat) : Int) (by omega), loopK_n, List.nil_append, List.cons_append]
    refine ⟨64 - (t + 1), by omega, t + 1, n1 + 1, _, ⟨n1, 0, none⟩, (rs W R (t + 1)).map u32V, false, rfl, by omega, f0', f5', f12', rfl, rfl, rfl, by omega, fun p hp => ?_, by show n1 < n1 + 1; omega, ?_, by simp [hr0], fun i hi => by rw [Nat.zero_add]; exact getD_w (by rw [hr0]; exact hi), fun _ => ⟨hx, rfl, rfl, rfl⟩⟩
    · simp only [upd_e]; rw [if_neg (by omega), hF p hp]
    · simp only [upd_e, if_true]; rw [hnx]; rfl
  · have h64 : t = 64 := by omega
    subst h64
    obtain ⟨r1, r2, rfl, rfl⟩ := p5 (by omega)
    simp only [↓gaW, ↓gaV, ↓gaC, ↓gaN, gaP, Nat.reduceEqDiff, Nat.reduceLeDiff, Nat.reduceAdd, Nat.reduceSub, Nat.reduceMul, Int.reduceLT, Int.reduceLE, Int.reduceEq, Int.reduceToNat, Int.reduceAdd, Int.reduceSub, Int.reduceMul, reduceCtorEq, ↓reduceIte, f14', hlt, decide_false, loopK_e]
    exact K _ _ a0.block _ (by simp only [↓gaW, ↓gaV, ↓gaC, ↓gaN, gaP, Nat.reduceEqDiff, Nat.reduceLeDiff, Nat.reduceAdd, Nat.reduceSub, Nat.reduceMul, Int.reduceLT, Int.reduceLE, Int.reduceEq, Int.reduceToNat, Int.reduceAdd, Int.reduceSub, Int.reduceMul, reduceCtorEq, ↓reduceIte, f0']) (by simp only [↓gaW, ↓gaV, ↓gaC, ↓gaN, gaP, Nat.reduceEqDiff, Nat.reduceLeDiff, Nat.reduceAdd, Nat.reduceSub, Nat.reduceMul, Int.reduceLT, Int.reduceLE, Int.reduceEq, Int.reduceToNat, Int.reduceAdd, Int.reduceSub, Int.reduceMul, reduceCtorEq, ↓reduceIte, f13']; rw [r2]) hx hF r1 p1 p2

theorem thrD_of {A : Option Addr} {d p : Nat} {W v : List UInt32} (hb : b ≤ p) (hp : p < x) (f13 : f 13 = .slice (some ⟨p, 0, none⟩) 8 8) (gp : g p = some (.cells (v.map u32V) false)) (hv : v.length = 8)
    (f0 : f 0 = .slice A 8 d) (hA : Row x g 1 A 8 (W.map u32V)) (hAp : ∀ a, A = some a → a.block ≠ p)
    (K : ∀ (f' : Regs) (g' : Nat → Option Blk), f' 13 = f 13 → (∀ q, q ≠ p → g' q = g q) → g' p = some (.cells ((List.zipWith (· + ·) W v).map u32V) false) → D Try.prog s .normal f' ⟨x, b, g'⟩) :
    RC.vc Try.prog thrD f ⟨x, b, g⟩ (D Try.prog s) := by
  have hW : W.length = 8 := by simpa using hA.len
  obtain ⟨a, ce, ro, rfl, a1, a2, a3, a4⟩ := hA.cells (by omega)
  have hap := hAp a rfl
  simp only [thrD, ↓gaW, ↓gaV, ↓gaC, ↓gaN, gaP, Nat.reduceEqDiff, Nat.reduceLeDiff, Nat.reduceAdd, Nat.reduceSub, Nat.reduceMul, Int.reduceLT, Int.reduceLE, Int.reduceEq, Int.reduceToNat, Int.reduceAdd, Int.reduceSub, Int.reduceMul, reduceCtorEq, ↓reduceIte]
  refine loop_of (fun j f' m => ∃ (t : Nat) (g' : Nat → Option Blk), j = 8 - t ∧ t ≤ 8 ∧ f' 0 = .slice (some a) 8 d ∧ f' 13 = .slice (some ⟨p, 0, none⟩) 8 8 ∧ f' 19 = .int .i64 (t : Nat) ∧ m = ⟨x, b, g'⟩ ∧ (∀ q, q ≠ p → g' q = g q) ∧ g' p = some (.cells ((addT v W t).map u32V) false)) 8
    ⟨0, g, by omega, by omega, by simp only [↓gaW, ↓gaV, ↓gaC, ↓gaN, gaP, Nat.reduceEqDiff, Nat.reduceLeDiff, Nat.reduceAdd, Nat.reduceSub, Nat.reduceMul, Int.reduceLT, Int.reduceLE, Int.reduceEq, Int.reduceToNat, Int.reduceAdd, Int.reduceSub, Int.reduceMul, reduceCtorEq, ↓reduceIte, f0], by simp only [↓gaW, ↓gaV, ↓gaC, ↓gaN, gaP, Nat.reduceEqDiff, Nat.reduceLeDiff, Nat.reduceAdd, Nat.reduceSub, Nat.reduceMul, Int.reduceLT, Int.reduceLE, Int.reduceEq, Int.reduceToNat, Int.reduceAdd, Int.reduceSub, Int.reduceMul, reduceCtorEq, ↓reduceIte, f13], by simp only [↓gaW, ↓gaV, ↓gaC, ↓gaN, gaP, Nat.reduceEqDiff, Nat.reduceLeDiff, Nat.reduceAdd, Nat.reduceSub, Nat.reduceMul, Int.reduceLT, Int.reduceLE, Int.reduceEq, Int.reduceToNat, Int.reduceAdd, Int.reduceSub, Int.reduceMul, reduceCtorEq, ↓reduceIte], rfl, fun _ _ => rfl, gp⟩ ?_
  rintro j f' m ⟨t, g', rfl, ht, f0', f13', f19', rfl, hF, hgp⟩
  have hal := addT_len hv hW ht
  by_cases hlt : (t : Int) < 8
  · have ht8 : t < 8 := by omega
    have c1 := getD_w (l := addT v W t) (i := t) (by omega)
    rw [addT_get hv hW ht8] at c1
    have c2 := (a4 t ht8).trans (getD_w (l := W) (i := t) (by omega))
    have ga' := (hF _ hap).trans a2
    have hst := splice_set (l := addT v W t) (i := t) (x := v.getD t 0 + W.getD t 0) (by omega)
    rw [addT_set hv hW ht8] at hst
    have q1 : (t : Int) + 1 = ((t + 1 : Nat) : Int) := by omega
    simp only [↓gaW, ↓gaV, ↓gaC, ↓gaN, gaP, Nat.reduceEqDiff, Nat.reduceLeDiff, Nat.reduceAdd, Nat.reduceSub, Nat.reduceMul, Int.reduceLT, Int.reduceLE, Int.reduceEq, Int.reduceToNat, Int.reduceAdd, Int.reduceSub, Int.reduceMul, reduceCtorEq, ↓reduceIte, gaU, f0', f13', f19', hlt, decide_true, hgp, ga', Int.toNat_natCast, Nat.mul_one, Nat.zero_add, c1, c2, hst]
    repeat refine And.intro (by first | omega | (simp; done) | (simp; omega) | exact all1 rfl) ?_
    simp only [↓gaW, ↓gaV, ↓gaC, ↓gaN, gaP, Nat.reduceEqDiff, Nat.reduceLeDiff, Nat.reduceAdd, Nat.reduceSub, Nat.reduceMul, Int.reduceLT, Int.reduceLE, Int.reduceEq, Int.reduceToNat, Int.reduceAdd, Int.reduceSub, Int.reduceMul, reduceCtorEq, ↓reduceIte, f19', q1, i64_w ((t + 1 : Nat) : Int) (by omega), loopK_n]
    refine ⟨8 - (t + 1), by omega, t + 1, _, rfl, by omega, f0', f13', rfl, rfl, fun q hq => ?_, by simp only [upd_e, if_true]⟩
    simp only [upd_e]; rw [if_neg hq, hF q hq]
  · have h8 : t = 8 := by omega
    subst h8
    rw [addT_full hv hW] at hgp
    have hcm : List.zipWith (· + ·) v W = List.zipWith (· + ·) W v := by
      refine List.ext_getElem? fun i => ?_
      rw [List.getElem?_zipWith, List.getElem?_zipWith]
      cases v[i]? <;> cases W[i]? <;> simp [UInt32.add_comm]
    rw [hcm] at hgp
    simp only [↓gaW, ↓gaV, ↓gaC, ↓gaN, gaP, Nat.reduceEqDiff, Nat.reduceLeDiff, Nat.reduceAdd, Nat.reduceSub, Nat.reduceMul, Int.reduceLT, Int.reduceLE, Int.reduceEq, Int.reduceToNat, Int.reduceAdd, Int.reduceSub, Int.reduceMul, reduceCtorEq, ↓reduceIte, f19', hlt, decide_false, loopK_e]
    exact K _ _ (by simp only [↓gaW, ↓gaV, ↓gaC, ↓gaN, gaP, Nat.reduceEqDiff, Nat.reduceLeDiff, Nat.reduceAdd, Nat.reduceSub, Nat.reduceMul, Int.reduceLT, Int.reduceLE, Int.reduceEq, Int.reduceToNat, Int.reduceAdd, Int.reduceSub, Int.reduceMul, reduceCtorEq, ↓reduceIte, f13', f13]) hF hgp
end

section
variable {nx : Nat} {gt : Nat → Option Blk}

theorem ct_rconstants : Ct Try.prog 65 [] nx gt fun v nx' gt' => v = .slice (some ⟨nx, 0, none⟩) 64 64 ∧ nx' = nx + 1 ∧ gt' nx = some (.cells (k256.map u32V) false) := by
  refine Ct.of hmx r_lanyardref06_constants (by simp [c_lanyardref06_constants]) fun b hb => ?_
  simp only [c_lanyardref06_constants, ↓gaW, ↓gaV, ↓gaC, ↓gaN, gaP, Nat.reduceEqDiff, Nat.reduceLeDiff, Nat.reduceAdd, Nat.reduceSub, Nat.reduceMul, Int.reduceLT, Int.reduceLE, Int.reduceEq, Int.reduceToNat, Int.reduceAdd, Int.reduceSub, Int.reduceMul, reduceCtorEq, ↓reduceIte, List.getD_cons_zero, List.getD_cons_succ, fillL, splice, List.take_zero, List.drop_zero, List.drop_succ_cons, List.take_succ_cons, List.drop_nil, List.take_nil, gaE, implies_true, Nat.le_refl, Int.sub_zero, Nat.sub_zero, Int.le_refl, true_or, or_true]
  refine ⟨by omega, fun q hq => by rw [if_neg (by omega)], ?_⟩
  rfl

theorem ct_through {A B : Option Addr} {c d : Nat} {W : List UInt32} {R : List UInt8} (hA : Row nx gt 1 A 8 (W.map u32V)) (hc : 8 ≤ c) (hB : Row nx gt 1 B 64 (R.map u8V)) (hd : 64 ≤ d) :
    Ct Try.prog 38 [.slice A 8 c, .slice B 64 d] nx gt fun v nx' gt' => ∃ p, v = .slice (some ⟨p, 0, none⟩) 8 8 ∧ nx ≤ p ∧ p < nx' ∧ gt' p = some (.cells ((comp W R).map u32V) false) := by
  have hW : W.length = 8 := by simpa using hA.len
  refine Ct.of hmx r_lanyardref06_through (by simp [c_lanyardref06_through]) fun b hb => ?_
  simp only [c_lanyardref06_through, ↓gaW, ↓gaV, ↓gaC, ↓gaN, gaP, Nat.reduceEqDiff, Nat.reduceLeDiff, Nat.reduceAdd, Nat.reduceSub, Nat.reduceMul, Int.reduceLT, Int.reduceLE, Int.reduceEq, Int.reduceToNat, Int.reduceAdd, Int.reduceSub, Int.reduceMul, reduceCtorEq, ↓reduceIte]
  refine (show RC.vc Try.prog thrA _ _ (D Try.prog (.thn (.seq thrB (.seq _ (.seq _ (.seq thrC (.seq thrD _))))) _)) from ?_)
  have hlow : ∀ {C : Option Addr} {n : Nat} {e : Nat} {l : List Value}, Row nx gt e C n l → 0 < n → ∀ a, C = some a → a.block < nx := fun h h0 a ha => by
    obtain ⟨a', _, _, e1, e2, _⟩ := h.cells h0
    rw [ha] at e1
    injection e1 with e1
    subst e1
    exact e2
  have hAl := hlow hA (by omega)
  have hBl := hlow hB (by omega)
  refine thrA_of (q := nx) (R := R) (B := B) (d := d) (by omega) (by omega) (by omega) (by simp only [↓gaW, ↓gaV, ↓gaC, ↓gaN, gaP, Nat.reduceEqDiff, Nat.reduceLeDiff, Nat.reduceAdd, Nat.reduceSub, Nat.reduceMul, Int.reduceLT, Int.reduceLE, Int.reduceEq, Int.reduceToNat, Int.reduceAdd, Int.reduceSub, Int.reduceMul, reduceCtorEq, ↓reduceIte]) hd (hB.keep (Nat.le_succ _) (fun p hp => by simp only [upd_e]; rw [if_neg (by omega)])) (fun a ha => by have := hBl a ha; omega) (by simp only [↓gaW, ↓gaV, ↓gaC, ↓gaN, gaP, Nat.reduceEqDiff, Nat.reduceLeDiff, Nat.reduceAdd, Nat.reduceSub, Nat.reduceMul, Int.reduceLT, Int.reduceLE, Int.reduceEq, Int.reduceToNat, Int.reduceAdd, Int.reduceSub, Int.reduceMul, reduceCtorEq, ↓reduceIte]) (by simp only [upd_e, if_true]; rfl) ?_
  intro f1 x1 g1 a0 a5 l1 k1 hw1
  simp only [↓gaW, ↓gaV, ↓gaC, ↓gaN, gaP, Nat.reduceEqDiff, Nat.reduceLeDiff, Nat.reduceAdd, Nat.reduceSub, Nat.reduceMul, Int.reduceLT, Int.reduceLE, Int.reduceEq, Int.reduceToNat, Int.reduceAdd, Int.reduceSub, Int.reduceMul, reduceCtorEq, ↓reduceIte] at a0 a5
  simp only [↓gaW, ↓gaV, ↓gaC, ↓gaN, gaP, Nat.reduceEqDiff, Nat.reduceLeDiff, Nat.reduceAdd, Nat.reduceSub, Nat.reduceMul, Int.reduceLT, Int.reduceLE, Int.reduceEq, Int.reduceToNat, Int.reduceAdd, Int.reduceSub, Int.reduceMul, reduceCtorEq, ↓reduceIte]
  refine thrB_of (q := nx) (R := R) (by omega) (by omega) (by omega) a5 hw1 ?_
  intro f2 g2 b0 b5 k2 hw2
  rw [a0] at b0
  rw [a5] at b5
  have F2 : ∀ p, p < nx → g2 p = gt p := fun p hp => by rw [k2 p (by omega), k1 p (by omega) (by omega)]; simp only [upd_e]; rw [if_neg (by omega)]
  simp only [↓gaW, ↓gaV, ↓gaC, ↓gaN, gaP, Nat.reduceEqDiff, Nat.reduceLeDiff, Nat.reduceAdd, Nat.reduceSub, Nat.reduceMul, Int.reduceLT, Int.reduceLE, Int.reduceEq, Int.reduceToNat, Int.reduceAdd, Int.reduceSub, Int.reduceMul, reduceCtorEq, ↓reduceIte]
  refine callK_of ct_rconstants (fun v x3 g3 l3 k3 hC => ?_) (by omega)
  obtain ⟨rfl, rfl, hk3⟩ := hC
  have F3 : ∀ p, p < nx → g3 p = gt p := fun p hp => by rw [k3 p (by omega), F2 p hp]
  have hw3 : g3 nx = some (.cells ((sch R 64).map u32V) false) := by rw [k3 nx (by omega)]; exact hw2
  simp only [↓gaW, ↓gaV, ↓gaC, ↓gaN, gaP, Nat.reduceEqDiff, Nat.reduceLeDiff, Nat.reduceAdd, Nat.reduceSub, Nat.reduceMul, Int.reduceLT, Int.reduceLE, Int.reduceEq, Int.reduceToNat, Int.reduceAdd, Int.reduceSub, Int.reduceMul, reduceCtorEq, ↓reduceIte, List.getD_cons_zero, List.getD_cons_succ, fillL, splice, List.take_zero, List.drop_zero, List.drop_succ_cons, List.take_succ_cons, List.drop_nil, List.take_nil, b0]
  have hA4 : Row (x1 + 1 + 1) (upd g3 (x1 + 1) (some (.cells [] false))) 1 A 8 (W.map u32V) := hA.keep (by omega) (fun p hp => by simp only [upd_e]; rw [if_neg (by omega), F3 p hp])
  have hrow : ∀ b, rowOf ⟨x1 + 1 + 1, b, upd g3 (x1 + 1) (some (.cells [] false))⟩ A 8 = some (W.map u32V) := fun b => hA4.rowOf
  simp only [hrow, asO_e]
  refine grow_app (nx := x1 + 1 + 1) (l := []) (Grow.lit (q := x1 + 1) (l := []) (ro := false) (by omega) (by simp only [upd_e, if_true]) rfl) (by omega) (by omega) (by omega) (by simp [hW]) (all_u32 _) (by omega) (by omega) fun A' x4 g4 l4 k4 hgr => ?_
  rw [List.nil_append] at hgr
  have hrA := hgr.row
  have F4 : ∀ p, p < nx → g4 p = gt p := fun p hp => by rw [k4 p (by omega)]; simp only [upd_e]; rw [if_neg (by omega), F3 p hp]
  have hw4 : g4 nx = some (.cells ((sch R 64).map u32V) false) := by rw [k4 nx (by omega)]; simp only [upd_e]; rw [if_neg (by omega), hw3]
  have hk4 : g4 x1 = some (.cells (k256.map u32V) false) := by rw [k4 x1 (by omega)]; simp only [upd_e]; rw [if_neg (by omega), hk3]
  refine thrC_of (q := nx) (qk := x1) (A := A') (W := W) (R := R) (by omega) (by omega) (by omega) (by simp only [↓gaW, ↓gaV, ↓gaC, ↓gaN, gaP, Nat.reduceEqDiff, Nat.reduceLeDiff, Nat.reduceAdd, Nat.reduceSub, Nat.reduceMul, Int.reduceLT, Int.reduceLE, Int.reduceEq, Int.reduceToNat, Int.reduceAdd, Int.reduceSub, Int.reduceMul, reduceCtorEq, ↓reduceIte, b5]) hw4 (by simp only [↓gaW, ↓gaV, ↓gaC, ↓gaN, gaP, Nat.reduceEqDiff, Nat.reduceLeDiff, Nat.reduceAdd, Nat.reduceSub, Nat.reduceMul, Int.reduceLT, Int.reduceLE, Int.reduceEq, Int.reduceToNat, Int.reduceAdd, Int.reduceSub, Int.reduceMul, reduceCtorEq, ↓reduceIte]) hk4 (by simp only [↓gaW, ↓gaV, ↓gaC, ↓gaN, gaP, Nat.reduceEqDiff, Nat.reduceLeDiff, Nat.reduceAdd, Nat.reduceSub, Nat.reduceMul, Int.reduceLT, Int.reduceLE, Int.reduceEq, Int.reduceToNat, Int.reduceAdd, Int.reduceSub, Int.reduceMul, reduceCtorEq, ↓reduceIte]) (by simpa using hrA) ?_
  intro f5 x5 p g5 c0 c13 l5 k5 p1 p2 hv5
  simp only [↓gaW, ↓gaV, ↓gaC, ↓gaN, gaP, Nat.reduceEqDiff, Nat.reduceLeDiff, Nat.reduceAdd, Nat.reduceSub, Nat.reduceMul, Int.reduceLT, Int.reduceLE, Int.reduceEq, Int.reduceToNat, Int.reduceAdd, Int.reduceSub, Int.reduceMul, reduceCtorEq, ↓reduceIte] at c0
  rw [b0] at c0
  have F5 : ∀ p, p < nx → g5 p = gt p := fun p hp => by rw [k5 p (by omega), F4 p hp]
  simp only [↓gaW, ↓gaV, ↓gaC, ↓gaN, gaP, Nat.reduceEqDiff, Nat.reduceLeDiff, Nat.reduceAdd, Nat.reduceSub, Nat.reduceMul, Int.reduceLT, Int.reduceLE, Int.reduceEq, Int.reduceToNat, Int.reduceAdd, Int.reduceSub, Int.reduceMul, reduceCtorEq, ↓reduceIte]
  refine thrD_of (p := p) (W := W) (A := A) (by omega) p2 c13 hv5 (rs_len hW R 64) c0 (hA.keep (by omega) F5) (fun a ha => by have := hAl a ha; omega) ?_
  intro f6 g6 d13 k6 hv6
  rw [c13] at d13
  simp only [↓gaW, ↓gaV, ↓gaC, ↓gaN, gaP, Nat.reduceEqDiff, Nat.reduceLeDiff, Nat.reduceAdd, Nat.reduceSub, Nat.reduceMul, Int.reduceLT, Int.reduceLE, Int.reduceEq, Int.reduceToNat, Int.reduceAdd, Int.reduceSub, Int.reduceMul, reduceCtorEq, ↓reduceIte, gaE, implies_true, Nat.le_refl, Int.sub_zero, Nat.sub_zero, Int.le_refl, true_or, or_true, d13]
  refine ⟨by omega, fun q hq => by rw [k6 q (by omega), F5 q hq], p, rfl, by omega, p2, ?_⟩
  rw [hv6]
  unfold comp
  rfl
end
end Go.Ga

namespace Go.Ga
open Go Go.Proofs
set_option linter.unusedSimpArgs false
set_option linter.unusedVariables false
set_option maxRecDepth 100000
attribute [local irreducible] appendK endK endW sch comp rs

theorem padS_len (l : List UInt8) : (padS l).length = l.length + 9 + zs l.length := by simp [padS, be8]; omega
theorem padS_mod (l : List UInt8) : (padS l).length % 64 = 0 := by
  rw [padS_len, zs]; omega

section
variable {nx : Nat} {gt : Nat → Option Blk}

theorem ct_filled {A : Option Addr} {n c : Nat} {l : List UInt8} (hA : Row nx gt 1 A n (l.map u8V)) (hc : n ≤ c) (hn : n < 10000000000) :
    Ct Try.prog 37 [.slice A n c] nx gt fun v nx' gt' => ∃ A', v = .slice A' (padS l).length (padS l).length ∧ Row nx' gt' 1 A' (padS l).length ((padS l).map u8V) := by
  have hl : l.length = n := by simpa using hA.len
  refine Ct.of hmx r_lanyardref06_filled (by simp [c_lanyardref06_filled]) fun b hb => ?_
  have hA0 : Row (nx + 1) (upd gt nx (some (.cells [] false))) 1 A n (l.map u8V) := hA.keep (by omega) (fun p hp => by simp only [upd_e]; rw [if_neg (by omega)])
  have hrow : ∀ b, rowOf ⟨nx + 1, b, upd gt nx (some (.cells [] false))⟩ A n = some (l.map u8V) := fun b => hA0.rowOf
  have hnil : ∀ v ∈ ([] : List Value), cellVal v = true := by simp
  simp only [c_lanyardref06_filled, ↓gaW, ↓gaV, ↓gaC, ↓gaN, gaP, Nat.reduceEqDiff, Nat.reduceLeDiff, Nat.reduceAdd, Nat.reduceSub, Nat.reduceMul, Int.reduceLT, Int.reduceLE, Int.reduceEq, Int.reduceToNat, Int.reduceAdd, Int.reduceSub, Int.reduceMul, reduceCtorEq, ↓reduceIte, List.getD_cons_zero, List.getD_cons_succ, fillL, splice, List.take_zero, List.drop_zero, List.drop_succ_cons, List.take_succ_cons, List.drop_nil, List.take_nil, hrow]
  refine grow_app (nx := nx) (l := []) (Grow.lit (q := nx) (l := []) (ro := false) (by omega) (by simp only [upd_e, if_true]) rfl) (by omega) (by omega) (by omega) (by simp [hl]) (all_u8 _) (by omega) (by omega) fun A1 x1 g1 l1 k1 hgr1 => ?_
  have F1 : ∀ p, p < nx → g1 p = gt p := fun p hp => by rw [k1 p hp]; simp only [upd_e]; rw [if_neg (by omega)]
  rw [List.nil_append, Nat.zero_add] at hgr1
  simp only [↓gaW, ↓gaV, ↓gaC, ↓gaN, gaP, Nat.reduceEqDiff, Nat.reduceLeDiff, Nat.reduceAdd, Nat.reduceSub, Nat.reduceMul, Int.reduceLT, Int.reduceLE, Int.reduceEq, Int.reduceToNat, Int.reduceAdd, Int.reduceSub, Int.reduceMul, reduceCtorEq, ↓reduceIte, List.getD_cons_zero, List.getD_cons_succ, fillL, splice, List.take_zero, List.drop_zero, List.drop_succ_cons, List.take_succ_cons, List.drop_nil, List.take_nil, Nat.zero_add]
  have hrow1 : ∀ b, rowOf ⟨x1 + 1, b, upd g1 x1 (some (.cells [.int .u8 128] false))⟩ (some ⟨x1, 0, none⟩) 1 = some [u8V 128] := fun b => by simp [rowOf, upd]; rfl
  simp only [hrow1, asO_e]
  refine grow_append (nx := nx) (k := 1) (hgr1.keep (Nat.le_succ _) (fun p hp => by simp only [upd_e]; rw [if_neg (by omega)])) (by omega) (by omega) (by omega) (by omega) rfl (all1 rfl) (by omega) (by omega) fun g2 k2 ho2 => ?_
  have F2 : ∀ p, p < nx → g2 p = gt p := fun p hp => by rw [k2 p hp]; simp only [upd_e]; rw [if_neg (by omega), F1 p hp]
  have ho2 : Grow nx b (x1 + 1 + 1) g2 1 (some ⟨x1 + 1, 0, some 1⟩) (n + 1) ((l ++ 128 :: List.replicate 0 0).map u8V) := .inl (by simpa using ho2)
  have hz : zs l.length = (119 - l.length % 64) % 64 := rfl
  have hq8 : (n : Int) * 8 = ((n * 8 : Nat) : Int) := by omega
  refine bloop_of (fun f m => ∃ (x : Nat) (g : Nat → Option Blk) (A' : Option Addr), f 0 = .slice A n c ∧ f 3 = .slice A' (n + 1 + zs n) (n + 1 + zs n) ∧ m = ⟨x, b, g⟩ ∧ nx ≤ x ∧ (∀ p, p < nx → g p = gt p) ∧ Grow nx b x g 1 A' (n + 1 + zs n) ((l ++ 128 :: List.replicate (zs n) 0).map u8V)) (fun _ _ => False)
    (fun j f m => ∃ (t x : Nat) (g : Nat → Option Blk) (A' : Option Addr), j = zs n - t ∧ t ≤ zs n ∧ f 0 = .slice A n c ∧ f 3 = .slice A' (n + 1 + t) (n + 1 + t) ∧ m = ⟨x, b, g⟩ ∧ nx ≤ x ∧ (∀ p, p < nx → g p = gt p) ∧ Grow nx b x g 1 A' (n + 1 + t) ((l ++ 128 :: List.replicate t 0).map u8V)) (zs n)
    ⟨0, x1 + 1 + 1, g2, some ⟨x1 + 1, 0, some 1⟩, by omega, by omega, by simp only [↓gaW, ↓gaV, ↓gaC, ↓gaN, gaP, Nat.reduceEqDiff, Nat.reduceLeDiff, Nat.reduceAdd, Nat.reduceSub, Nat.reduceMul, Int.reduceLT, Int.reduceLE, Int.reduceEq, Int.reduceToNat, Int.reduceAdd, Int.reduceSub, Int.reduceMul, reduceCtorEq, ↓reduceIte], by simp only [↓gaW, ↓gaV, ↓gaC, ↓gaN, gaP, Nat.reduceEqDiff, Nat.reduceLeDiff, Nat.reduceAdd, Nat.reduceSub, Nat.reduceMul, Int.reduceLT, Int.reduceLE, Int.reduceEq, Int.reduceToNat, Int.reduceAdd, Int.reduceSub, Int.reduceMul, reduceCtorEq, ↓reduceIte], rfl, by omega, F2, ho2⟩ ?_ ?_ (fun _ _ h => h.elim)
  · intro SS hJ _ j f m
    rintro ⟨t, x, g, A', rfl, ht, f0, f3, rfl, hx, hF, hgr⟩
    rw [hl] at hz
    have e1 : (((n + 1 + t : Nat) : Int)).tmod 64 = (((n + 1 + t) % 64 : Nat) : Int) := by rw [Int.tmod_eq_emod_of_nonneg (by omega)]; omega
    by_cases h56 : (((n + 1 + t) % 64 : Nat) : Int) = 56
    · have : t = zs n := by omega
      subst this
      simp only [↓gaW, ↓gaV, ↓gaC, ↓gaN, gaP, Nat.reduceEqDiff, Nat.reduceLeDiff, Nat.reduceAdd, Nat.reduceSub, Nat.reduceMul, Int.reduceLT, Int.reduceLE, Int.reduceEq, Int.reduceToNat, Int.reduceAdd, Int.reduceSub, Int.reduceMul, reduceCtorEq, ↓reduceIte, f3, e1, h56, decide_true, Bool.not_true]
      repeat refine And.intro (by first | omega | (simp; done) | (simp; omega) | exact all1 rfl) ?_
      exact hJ _ _ ⟨x, g, A', by simp only [↓gaW, ↓gaV, ↓gaC, ↓gaN, gaP, Nat.reduceEqDiff, Nat.reduceLeDiff, Nat.reduceAdd, Nat.reduceSub, Nat.reduceMul, Int.reduceLT, Int.reduceLE, Int.reduceEq, Int.reduceToNat, Int.reduceAdd, Int.reduceSub, Int.reduceMul, reduceCtorEq, ↓reduceIte, f0], by simp only [↓gaW, ↓gaV, ↓gaC, ↓gaN, gaP, Nat.reduceEqDiff, Nat.reduceLeDiff, Nat.reduceAdd, Nat.reduceSub, Nat.reduceMul, Int.reduceLT, Int.reduceLE, Int.reduceEq, Int.reduceToNat, Int.reduceAdd, Int.reduceSub, Int.reduceMul, reduceCtorEq, ↓reduceIte, f3], rfl, hx, hF, hgr⟩
    · have hrow2 : ∀ b, rowOf ⟨x + 1, b, upd g x (some (.cells [.int .u8 0] false))⟩ (some ⟨x, 0, none⟩) 1 = some [u8V 0] := fun b => by simp [rowOf, upd]; rfl
      simp only [↓gaW, ↓gaV, ↓gaC, ↓gaN, gaP, Nat.reduceEqDiff, Nat.reduceLeDiff, Nat.reduceAdd, Nat.reduceSub, Nat.reduceMul, Int.reduceLT, Int.reduceLE, Int.reduceEq, Int.reduceToNat, Int.reduceAdd, Int.reduceSub, Int.reduceMul, reduceCtorEq, ↓reduceIte, List.getD_cons_zero, List.getD_cons_succ, fillL, splice, List.take_zero, List.drop_zero, List.drop_succ_cons, List.take_succ_cons, List.drop_nil, List.take_nil, f3, e1, h56, decide_false, Bool.not_false, Nat.zero_add]
      repeat refine And.intro (by first | omega | (simp; done) | (simp; omega) | exact all1 rfl) ?_
      simp only [hrow2, asO_e]
      refine grow_append (nx := nx) (k := 1) (hgr.keep (Nat.le_succ _) (fun p hp => by simp only [upd_e]; rw [if_neg (by omega)])) (by omega) (by omega) (by omega) (by omega) rfl (all1 rfl) (by omega) (by omega) fun g3 k3 ho3 => ?_
      simp only [↓gaW, ↓gaV, ↓gaC, ↓gaN, gaP, Nat.reduceEqDiff, Nat.reduceLeDiff, Nat.reduceAdd, Nat.reduceSub, Nat.reduceMul, Int.reduceLT, Int.reduceLE, Int.reduceEq, Int.reduceToNat, Int.reduceAdd, Int.reduceSub, Int.reduceMul, reduceCtorEq, ↓reduceIte, loopK_n]
      refine ⟨zs n - (t + 1), by omega, t + 1, x + 1 + 1, g3, some ⟨x + 1, 0, some 1⟩, rfl, by omega, f0, rfl, rfl, by omega, fun p hp => by rw [k3 p hp]; simp only [upd_e]; rw [if_neg (by omega), hF p hp], .inl ?_⟩
      have e2 : (l ++ 128 :: List.replicate (t + 1) (0 : UInt8)).map u8V = (l ++ 128 :: List.replicate t 0).map u8V ++ [u8V 0] := by
        rw [List.replicate_succ']; simp
      rw [e2]
      exact ho3
  · rintro f m ⟨x, g, A', f0, f3, rfl, hx, hF, hgr⟩
    have hzn : zs n < 64 := Nat.mod_lt _ (by decide)
    simp only [↓gaW, ↓gaV, ↓gaC, ↓gaN, gaP, Nat.reduceEqDiff, Nat.reduceLeDiff, Nat.reduceAdd, Nat.reduceSub, Nat.reduceMul, Int.reduceLT, Int.reduceLE, Int.reduceEq, Int.reduceToNat, Int.reduceAdd, Int.reduceSub, Int.reduceMul, reduceCtorEq, ↓reduceIte, f0, u64_i (n : Int) (by omega), hq8, u64_i ((n * 8 : Nat) : Int) (by omega)]
    refine callK_of (ct_rBytes (n := n * 8) (many := 8) (by omega) (by omega)) (fun v x3 g3 l3 k3 hC => ?_) (by omega)
    obtain ⟨sl, rfl, hby⟩ := hC
    have hok : byOk (n * 8) 8 = true := by
      simp only [byOk]
      have : n * 8 < 256 ^ (8 : Int).toNat := by show _ < 256 ^ 8; omega
      simp [this]
      omega
    rw [hok] at hby ⊢
    obtain ⟨A8, n8, c8, rfl, hc8, hl8, hr8⟩ := hby
    have hn8 : n8 = 8 := by rw [← hl8]; simp [be]
    subst hn8
    have hrow8 : ∀ b, rowOf ⟨x3, b, g3⟩ A8 8 = some _ := fun b => hr8.rowOf
    simp only [↓gaW, ↓gaV, ↓gaC, ↓gaN, gaP, Nat.reduceEqDiff, Nat.reduceLeDiff, Nat.reduceAdd, Nat.reduceSub, Nat.reduceMul, Int.reduceLT, Int.reduceLE, Int.reduceEq, Int.reduceToNat, Int.reduceAdd, Int.reduceSub, Int.reduceMul, reduceCtorEq, ↓reduceIte, f3, hrow8]
    repeat refine And.intro (by first | omega | (simp; done) | (simp; omega) | exact all1 rfl) ?_
    refine grow_append (nx := nx) (k := 8) (hgr.keep l3 k3) (by omega) (by omega) (by omega) (by omega) (by simp [be]) (all_u8 _) (by omega) (by omega) fun g4 k4 ho4 => ?_
    have hpad : (l ++ 128 :: List.replicate (zs n) (0 : UInt8)).map u8V ++ (be 8 (n * 8)).map u8V = (padS l).map u8V := by
      rw [padS, hl, Nat.mod_eq_of_lt (by omega)]
      simp
      rfl
    have hlen : n + 1 + zs n + 8 = (padS l).length := by rw [padS_len, hl]; omega
    rw [hpad, hlen] at ho4
    rw [hlen]
    simp only [↓gaW, ↓gaV, ↓gaC, ↓gaN, gaP, Nat.reduceEqDiff, Nat.reduceLeDiff, Nat.reduceAdd, Nat.reduceSub, Nat.reduceMul, Int.reduceLT, Int.reduceLE, Int.reduceEq, Int.reduceToNat, Int.reduceAdd, Int.reduceSub, Int.reduceMul, reduceCtorEq, ↓reduceIte, gaE, implies_true, Nat.le_refl, Int.sub_zero, Nat.sub_zero, Int.le_refl, true_or, or_true]
    exact ⟨by omega, fun q hq => by rw [k4 q hq, k3 q (by omega), hF q hq], _, rfl, by simpa using ho4.row⟩

theorem ct_rOf {A : Option Addr} {n c : Nat} {l : List UInt8} (hA : Row nx gt 1 A n (l.map u8V)) (hc : n ≤ c) (hn : n < 10000000000) :
    Ct Try.prog 17 [.slice A n c] nx gt fun v _ _ => v = .agg ((sha l).map u8V).toArray := by
  have hl : l.length = n := by simpa using hA.len
  refine Ct.of hmx r_lanyardref06_Of (by simp [c_lanyardref06_Of]) fun b hb => ?_
  have kA : ∀ {v1 v2 : Blk}, ∀ p, p < nx → upd (upd gt nx (some v1)) (nx + 1) (some v2) p = gt p := fun p hp => by simp only [upd_e]; rw [if_neg (by omega), if_neg (by omega)]
  simp only [c_lanyardref06_Of, ↓gaW, ↓gaV, ↓gaC, ↓gaN, gaP, Nat.reduceEqDiff, Nat.reduceLeDiff, Nat.reduceAdd, Nat.reduceSub, Nat.reduceMul, Int.reduceLT, Int.reduceLE, Int.reduceEq, Int.reduceToNat, Int.reduceAdd, Int.reduceSub, Int.reduceMul, reduceCtorEq, ↓reduceIte, List.getD_cons_zero, List.getD_cons_succ, fillL, splice, List.take_zero, List.drop_zero, List.drop_succ_cons, List.take_succ_cons, List.drop_nil, List.take_nil]
  refine callK_of (ct_filled (hA.keep (by omega) kA) hc hn) (fun v x1 g1 l1 k1 hC => ?_) (by omega)
  obtain ⟨A', rfl, hF1⟩ := hC
  have F1 : ∀ p, p < nx → g1 p = gt p := fun p hp => by rw [k1 p (by omega)]; exact kA p hp
  have O1 : g1 nx = some (.cells ((List.replicate 32 (0 : UInt8)).map u8V) false) := by rw [k1 nx (by omega)]; simp only [upd_e]; rw [if_neg (by omega), if_true]; rfl
  have S1 : g1 (nx + 1) = some (.cells (ivs.map u32V) false) := by rw [k1 (nx + 1) (by omega)]; simp only [upd_e, if_true]; rfl
  obtain ⟨pd, hpd⟩ : ∃ pd, padS l = pd := ⟨_, rfl⟩
  have hsha : sha l = outS (goB (pd.length / 64) ivs pd) := by rw [sha, hpd]
  have hmod := padS_mod l
  have hplen := padS_len l
  have hzn : zs l.length < 64 := Nat.mod_lt _ (by decide)
  rw [hpd] at hF1 hmod hplen ⊢
  rw [hsha]
  obtain ⟨T, hT⟩ : ∃ T, pd.length / 64 = T := ⟨_, rfl⟩
  have hpT : pd.length = 64 * T := by omega
  rw [hT]
  rw [hpT] at hF1
  simp only [↓gaW, ↓gaV, ↓gaC, ↓gaN, gaP, Nat.reduceEqDiff, Nat.reduceLeDiff, Nat.reduceAdd, Nat.reduceSub, Nat.reduceMul, Int.reduceLT, Int.reduceLE, Int.reduceEq, Int.reduceToNat, Int.reduceAdd, Int.reduceSub, Int.reduceMul, reduceCtorEq, ↓reduceIte, hpT]
  refine bloop_of (fun f m => ∃ (x p : Nat) (g : Nat → Option Blk), f 2 = .pointer (some ⟨nx, 0, none⟩) ∧ f 3 = .slice (some ⟨p, 0, none⟩) 8 8 ∧ m = ⟨x, b, g⟩ ∧ nx + 2 ≤ x ∧ (∀ p, p < nx → g p = gt p) ∧ g nx = some (.cells ((List.replicate 32 (0 : UInt8)).map u8V) false) ∧ nx < p ∧ p < x ∧ g p = some (.cells ((goB T ivs pd).map u32V) false)) (fun _ _ => False)
    (fun j f m => ∃ (t x p : Nat) (g : Nat → Option Blk), j = T - t ∧ t ≤ T ∧ f 2 = .pointer (some ⟨nx, 0, none⟩) ∧ f 3 = .slice (some ⟨p, 0, none⟩) 8 8 ∧ f 4 = .slice A' (64 * T) (64 * T) ∧ f 5 = .int .i64 ((64 * t : Nat) : Int) ∧ m = ⟨x, b, g⟩ ∧ nx + 2 ≤ x ∧ (∀ p, p < nx → g p = gt p) ∧ g nx = some (.cells ((List.replicate 32 (0 : UInt8)).map u8V) false) ∧ nx < p ∧ p < x ∧ g p = some (.cells ((goB t ivs pd).map u32V) false) ∧ Row x g 1 A' (64 * T) (pd.map u8V)) T
    ⟨0, x1, nx + 1, g1, by omega, by omega, by simp only [↓gaW, ↓gaV, ↓gaC, ↓gaN, gaP, Nat.reduceEqDiff, Nat.reduceLeDiff, Nat.reduceAdd, Nat.reduceSub, Nat.reduceMul, Int.reduceLT, Int.reduceLE, Int.reduceEq, Int.reduceToNat, Int.reduceAdd, Int.reduceSub, Int.reduceMul, reduceCtorEq, ↓reduceIte], by simp only [↓gaW, ↓gaV, ↓gaC, ↓gaN, gaP, Nat.reduceEqDiff, Nat.reduceLeDiff, Nat.reduceAdd, Nat.reduceSub, Nat.reduceMul, Int.reduceLT, Int.reduceLE, Int.reduceEq, Int.reduceToNat, Int.reduceAdd, Int.reduceSub, Int.reduceMul, reduceCtorEq, ↓reduceIte], by simp only [↓gaW, ↓gaV, ↓gaC, ↓gaN, gaP, Nat.reduceEqDiff, Nat.reduceLeDiff, Nat.reduceAdd, Nat.reduceSub, Nat.reduceMul, Int.reduceLT, Int.reduceLE, Int.reduceEq, Int.reduceToNat, Int.reduceAdd, Int.reduceSub, Int.reduceMul, reduceCtorEq, ↓reduceIte], by simp only [↓gaW, ↓gaV, ↓gaC, ↓gaN, gaP, Nat.reduceEqDiff, Nat.reduceLeDiff, Nat.reduceAdd, Nat.reduceSub, Nat.reduceMul, Int.reduceLT, Int.reduceLE, Int.reduceEq, Int.reduceToNat, Int.reduceAdd, Int.reduceSub, Int.reduceMul, reduceCtorEq, ↓reduceIte], rfl, l1, F1, O1, by omega, by omega, S1, hF1⟩ ?_ ?_ (fun _ _ h => h.elim)
  · intro SS hJ _ j f m
    rintro ⟨t, x, p, g, rfl, ht, f2, f3, f4, f5, rfl, hx, hF, hO, p0, p1, p2, hP⟩
    by_cases hlt : ((64 * t : Nat) : Int) < ((64 * T : Nat) : Int)
    · obtain ⟨a, ce, ro, rfl, a1, a2, a3, a4⟩ := hP.cells (by omega)
      have hsp := hP.spot a rfl
      have hpart := hP.part (lo := 64 * t) (hi := 64 * t + 64) (by omega) (by omega) rfl
      rw [show 64 * t + 64 - 64 * t = 64 by omega, ← List.map_drop, ← List.map_take] at hpart
      have e1 : ((64 * t : Nat) : Int) + 64 = ((64 * t + 64 : Nat) : Int) := by omega
      have e2 : (((64 * t + 64 : Nat) : Int) - ((64 * t : Nat) : Int)).toNat = 64 := by omega
      have e3 : ((64 * T : Nat) : Int) - ((64 * t : Nat) : Int) = ((64 * T - 64 * t : Nat) : Int) := by omega
      have hgl : (goB t ivs pd).length = 8 := goB_len rfl _ _
      have hS : Row x g 1 (some ⟨p, 0, none⟩) 8 ((goB t ivs pd).map u32V) := ⟨fun a ha => by injection ha with ha; subst ha; exact .inl rfl, by simp [hgl], fun _ => ⟨_, _, false, rfl, p1, p2, by simp [hgl], fun i hi => by simp⟩⟩
      simp only [↓gaW, ↓gaV, ↓gaC, ↓gaN, gaP, Nat.reduceEqDiff, Nat.reduceLeDiff, Nat.reduceAdd, Nat.reduceSub, Nat.reduceMul, Int.reduceLT, Int.reduceLE, Int.reduceEq, Int.reduceToNat, Int.reduceAdd, Int.reduceSub, Int.reduceMul, reduceCtorEq, ↓reduceIte, f3, f4, f5, hlt, decide_true, e1, i64_w ((64 * t + 64 : Nat) : Int) (by omega), e2, e3, Int.toNat_natCast, Nat.mul_one]
      repeat refine And.intro (by first | omega | (rcases hsp with h | h <;> simp [h]; done)) ?_
      refine callK_of (ct_through hS (by omega) hpart (by omega)) (fun v x2 g2 l2 k2 hC => ?_) (by omega)
      obtain ⟨p', rfl, h1, h2, h3⟩ := hC
      simp only [↓gaW, ↓gaV, ↓gaC, ↓gaN, gaP, Nat.reduceEqDiff, Nat.reduceLeDiff, Nat.reduceAdd, Nat.reduceSub, Nat.reduceMul, Int.reduceLT, Int.reduceLE, Int.reduceEq, Int.reduceToNat, Int.reduceAdd, Int.reduceSub, Int.reduceMul, reduceCtorEq, ↓reduceIte, f5, e1, i64_w ((64 * t + 64 : Nat) : Int) (by omega), loopK_n]
      refine ⟨T - (t + 1), by omega, t + 1, x2, p', g2, rfl, by omega, f2, rfl, f4, by rw [show 64 * (t + 1) = 64 * t + 64 by omega], rfl, by omega, fun q hq => by rw [k2 q (by omega), hF q hq], by rw [k2 nx (by omega), hO], by omega, h2, by rw [h3, goB_succ], hP.keep l2 k2⟩
    · have hT : t = T := by omega
      subst hT
      simp only [↓gaW, ↓gaV, ↓gaC, ↓gaN, gaP, Nat.reduceEqDiff, Nat.reduceLeDiff, Nat.reduceAdd, Nat.reduceSub, Nat.reduceMul, Int.reduceLT, Int.reduceLE, Int.reduceEq, Int.reduceToNat, Int.reduceAdd, Int.reduceSub, Int.reduceMul, reduceCtorEq, ↓reduceIte, f4, f5, hlt, decide_false, loopK_e]
      exact hJ _ _ ⟨x, p, g, by simp only [↓gaW, ↓gaV, ↓gaC, ↓gaN, gaP, Nat.reduceEqDiff, Nat.reduceLeDiff, Nat.reduceAdd, Nat.reduceSub, Nat.reduceMul, Int.reduceLT, Int.reduceLE, Int.reduceEq, Int.reduceToNat, Int.reduceAdd, Int.reduceSub, Int.reduceMul, reduceCtorEq, ↓reduceIte, f2], by simp only [↓gaW, ↓gaV, ↓gaC, ↓gaN, gaP, Nat.reduceEqDiff, Nat.reduceLeDiff, Nat.reduceAdd, Nat.reduceSub, Nat.reduceMul, Int.reduceLT, Int.reduceLE, Int.reduceEq, Int.reduceToNat, Int.reduceAdd, Int.reduceSub, Int.reduceMul, reduceCtorEq, ↓reduceIte, f3], rfl, hx, hF, hO, p0, p1, p2⟩
  · rintro f m ⟨x, p, g, f2, f3, rfl, hx, hF, hO, p0, p1, p2⟩
    obtain ⟨W2, hW2⟩ : ∃ W, goB T ivs pd = W := ⟨_, rfl⟩
    have hwl : W2.length = 8 := by rw [← hW2]; exact goB_len rfl _ _
    rw [hW2] at p2 ⊢
    simp only [↓gaW, ↓gaV, ↓gaC, ↓gaN, gaP, Nat.reduceEqDiff, Nat.reduceLeDiff, Nat.reduceAdd, Nat.reduceSub, Nat.reduceMul, Int.reduceLT, Int.reduceLE, Int.reduceEq, Int.reduceToNat, Int.reduceAdd, Int.reduceSub, Int.reduceMul, reduceCtorEq, ↓reduceIte]
    refine loop_of (fun j f m => ∃ (t : Nat) (g : Nat → Option Blk), j = 32 - t ∧ t ≤ 32 ∧ f 2 = .pointer (some ⟨nx, 0, none⟩) ∧ f 3 = .slice (some ⟨p, 0, none⟩) 8 8 ∧ f 6 = .pointer (some ⟨x, 0, none⟩) ∧ f 7 = .int .i64 (t : Nat) ∧ m = ⟨x + 1, b, g⟩ ∧ (∀ p, p < nx → g p = gt p) ∧ g nx = some (.cells ((List.replicate 32 (0 : UInt8)).map u8V) false) ∧ g p = some (.cells (W2.map u32V) false) ∧ g x = some (.cells (((outS W2).take t ++ List.replicate (32 - t) 0).map u8V) false)) 32
      ⟨0, _, by omega, by omega, by simp only [↓gaW, ↓gaV, ↓gaC, ↓gaN, gaP, Nat.reduceEqDiff, Nat.reduceLeDiff, Nat.reduceAdd, Nat.reduceSub, Nat.reduceMul, Int.reduceLT, Int.reduceLE, Int.reduceEq, Int.reduceToNat, Int.reduceAdd, Int.reduceSub, Int.reduceMul, reduceCtorEq, ↓reduceIte, f2], by simp only [↓gaW, ↓gaV, ↓gaC, ↓gaN, gaP, Nat.reduceEqDiff, Nat.reduceLeDiff, Nat.reduceAdd, Nat.reduceSub, Nat.reduceMul, Int.reduceLT, Int.reduceLE, Int.reduceEq, Int.reduceToNat, Int.reduceAdd, Int.reduceSub, Int.reduceMul, reduceCtorEq, ↓reduceIte, f3], by simp only [↓gaW, ↓gaV, ↓gaC, ↓gaN, gaP, Nat.reduceEqDiff, Nat.reduceLeDiff, Nat.reduceAdd, Nat.reduceSub, Nat.reduceMul, Int.reduceLT, Int.reduceLE, Int.reduceEq, Int.reduceToNat, Int.reduceAdd, Int.reduceSub, Int.reduceMul, reduceCtorEq, ↓reduceIte], by simp only [↓gaW, ↓gaV, ↓gaC, ↓gaN, gaP, Nat.reduceEqDiff, Nat.reduceLeDiff, Nat.reduceAdd, Nat.reduceSub, Nat.reduceMul, Int.reduceLT, Int.reduceLE, Int.reduceEq, Int.reduceToNat, Int.reduceAdd, Int.reduceSub, Int.reduceMul, reduceCtorEq, ↓reduceIte], rfl, fun q hq => by simp only [upd_e]; rw [if_neg (by omega), hF q hq], by simp only [upd_e]; rw [if_neg (by omega), hO], by simp only [upd_e]; rw [if_neg (by omega), p2], by simp only [upd_e, if_true]; rfl⟩ ?_
    rintro j f m ⟨t, g, rfl, ht, f2, f3, f6, f7, rfl, hF, hO, hgH, hgx⟩
    have hol := outS_len W2
    by_cases hlt : (t : Int) < 32
    · have ht32 : t < 32 := by omega
      have hst := fill8_step (l := outS W2) (n := 32) hol ht32
      rw [outS_get ht32] at hst
      have d1 : (t : Int).tdiv 4 = ((t / 4 : Nat) : Int) := by rw [Int.tdiv_eq_ediv_of_nonneg (by omega)]; omega
      have d2 : (t : Int).tmod 4 = ((t % 4 : Nat) : Int) := by rw [Int.tmod_eq_emod_of_nonneg (by omega)]; omega
      have d3 : (8 : Int) * ((t % 4 : Nat) : Int) = ((8 * (t % 4) : Nat) : Int) := by omega
      have d4 : (24 : Int) - ((8 * (t % 4) : Nat) : Int) = ((24 - 8 * (t % 4) : Nat) : Int) := by omega
      have d5 : shrV .u32 ((((W2.getD (t / 4) 0).toNat : Nat)) : Int) ((24 - 8 * (t % 4) : Nat) : Int) = (((W2.getD (t / 4) 0).toNat / 2 ^ (24 - 8 * (t % 4)) : Nat) : Int) := shr_nat (k := .u32) _ _ (by show _ ≤ 32; omega)
      have hcw := getD_u32 (l := W2) (i := t / 4) (by omega)
      have q1 : (t : Int) + 1 = ((t + 1 : Nat) : Int) := by omega
      have hu : ∀ n : Nat, Value.int .u8 (IntKind.u8.wrap (n : Int)) = u8V (UInt8.ofNat n) := fun n => by rw [u8_of]; rfl
      have hcl : ∀ v : UInt8, cellsV (u8V v) = some [u8V v] := fun _ => rfl
      simp only [↓gaW, ↓gaV, ↓gaC, ↓gaN, gaP, Nat.reduceEqDiff, Nat.reduceLeDiff, Nat.reduceAdd, Nat.reduceSub, Nat.reduceMul, Int.reduceLT, Int.reduceLE, Int.reduceEq, Int.reduceToNat, Int.reduceAdd, Int.reduceSub, Int.reduceMul, reduceCtorEq, ↓reduceIte, f3, f6, f7, hlt, decide_true, hgH, hgx, d1, d2, d3, d4, d5, i64_w ((t / 4 : Nat) : Int) (by omega), i64_w ((8 * (t % 4) : Nat) : Int) (by omega), i64_w ((24 - 8 * (t % 4) : Nat) : Int) (by omega), Int.toNat_natCast, Nat.mul_one, Nat.zero_add, hcw, hu, hcl, hst]
      repeat refine And.intro (by first | omega | (simp [hol]; omega) | (simp [hwl]; omega) | exact all1 rfl) ?_
      simp only [↓gaW, ↓gaV, ↓gaC, ↓gaN, gaP, Nat.reduceEqDiff, Nat.reduceLeDiff, Nat.reduceAdd, Nat.reduceSub, Nat.reduceMul, Int.reduceLT, Int.reduceLE, Int.reduceEq, Int.reduceToNat, Int.reduceAdd, Int.reduceSub, Int.reduceMul, reduceCtorEq, ↓reduceIte, f7, q1, i64_w ((t + 1 : Nat) : Int) (by omega), loopK_n]
      refine ⟨32 - (t + 1), by omega, t + 1, _, rfl, by omega, f2, f3, f6, rfl, rfl, fun p hp => ?_, ?_, ?_, by simp only [upd_e, if_true]⟩
      · simp only [upd_e]; rw [if_neg (by omega), hF p hp]
      · simp only [upd_e]; rw [if_neg (by omega), hO]
      · simp only [upd_e]; rw [if_neg (by omega), hgH]
    · have h32 : t = 32 := by omega
      subst h32
      rw [Nat.sub_self, List.replicate_zero, List.append_nil, List.take_of_length_le (by omega)] at hgx
      have hLl : ((outS W2).map u8V).length = 32 := by simp [hol]
      have hLa : ∀ v ∈ (outS W2).map u8V, cellVal v = true := all_u8 _
      generalize (outS W2).map u8V = L at *
      have htk2 : List.take 32 L = L := List.take_of_length_le (by omega)
      have hsp2 : splice ((List.replicate 32 (0 : UInt8)).map u8V) 0 L = L := by simp [splice, hLl]
      simp only [↓gaW, ↓gaV, ↓gaC, ↓gaN, gaP, Nat.reduceEqDiff, Nat.reduceLeDiff, Nat.reduceAdd, Nat.reduceSub, Nat.reduceMul, Int.reduceLT, Int.reduceLE, Int.reduceEq, Int.reduceToNat, Int.reduceAdd, Int.reduceSub, Int.reduceMul, reduceCtorEq, ↓reduceIte, gaU, f2, f6, f7, hlt, decide_false, loopK_e, hgx, hO, List.drop_zero, htk2, Nat.add_zero, hsp2]
      repeat refine And.intro (by first | omega | (simp [hLl]; done) | exact hLa) ?_
      refine end_cN (q := nx) (ro := false) L (by simp only [↓gaW, ↓gaV, ↓gaC, ↓gaN, gaP, Nat.reduceEqDiff, Nat.reduceLeDiff, Nat.reduceAdd, Nat.reduceSub, Nat.reduceMul, Int.reduceLT, Int.reduceLE, Int.reduceEq, Int.reduceToNat, Int.reduceAdd, Int.reduceSub, Int.reduceMul, reduceCtorEq, ↓reduceIte, f2]) (by simp only [upd_e, if_true]) hLl ⟨rfl, by omega, fun p hp => ?_, rfl⟩
      simp only [upd_e]; rw [if_neg (by omega), hF p hp]
end
end Go.Ga

/- Equality of arrays of whole numbers. -/
namespace Go.Ga
open Go

theorem pr_bind {P : Program} {α β : Type} (s : Sem α) (f : α → Sem β) : pureRun P (s >>= f) = (pureRun P s).bind fun a => pureRun P (f a) := by
  show pureRun P (Sem.bind s f) = _
  induction s with
  | pure a => rfl
  | program k ih => simp only [Sem.bind, pureRun]; exact ih P
  | mark m k ih => simp only [Sem.bind, pureRun]; exact ih
  | _ => rfl
theorem pr_pure {P : Program} {α : Type} (a : α) : pureRun P (pure a : Sem α) = some a := rfl
theorem pr_prog {P : Program} : pureRun P program = some P := rfl
theorem pr_under {P : Program} {t : TypeId} {d : TypeDesc} (h : P.underlying t = some d) : pureRun P (underlying t) = some d := by
  simp only [underlying, pr_bind, pr_prog, Option.bind_some, h]; rfl
theorem pr_size {P : Program} {t : TypeId} {i : TypeInfo} (h : P.info? t = some i) : pureRun P (sizeOf t) = some i.size := by
  simp only [sizeOf, typeInfo, pr_bind, pr_prog, Option.bind_some, h]; rfl

def eqK (P : Program) (op : BinOp) (t : TypeId) (xs ys : Array Value) (K : Bool → Prop) : Prop :=
  xs.toList.all plain = true ∧ ys.toList.all plain = true ∧
  match pureRun P (do eqGuard op t (.tmp 0) (.tmp 0) (.agg xs) (.agg ys); binOp op t (.agg xs) (.agg ys)) with
  | some (.bool b) => K b
  | _ => False
theorem o_eqA {P : Program} {f : Regs} {m : Mem} {K : Value → Mem → Prop} (op : BinOp) (t : TypeId) (x y : Rv) : ROp.vc P f m K (.eqA op t x y) = asA (x.ev f) fun xs => asA (y.ev f) fun ys => eqK P op t xs ys fun b => K (.bool b) m := by
  dsimp only [ROp.vc, asA, eqK]
  cases x.ev f <;> first | rfl | (cases y.ev f <;> rfl)

theorem eq_ints {P : Program} {t e : TypeId} {len : Nat} {k k' : IntKind} {i : TypeInfo} (ht : P.underlying t = some (.array len e)) (he : P.underlying e = some (.int k')) (hi : P.info? e = some i) (hs : i.size = 1)
    (xs ys : List Int) (hx : xs.length = len) (hy : ys.length = len) (d : Nat) :
    pureRun P (Op.equalIn (d + 2) t (.agg (xs.map (Value.int k)).toArray) (.agg (ys.map (Value.int k)).toArray)) = some (decide (xs = ys)) := by
  have hpart : ∀ (l : List Int) j, j < l.length → pureRun P (part e (l.map (Value.int k)).toArray (j * 1)) = some (.int k (l.getD j 0)) := by
    intro l j hj
    simp only [part, isAgg, pr_bind, pr_under he, Option.bind_some, pr_pure, Nat.mul_one]
    simp [hj, List.getD_eq_getElem?_getD, pr_pure]
  have hel : ∀ a b : Int, pureRun P (Op.equalIn (d + 1) e (.int k a) (.int k b)) = some (a == b) := by
    intro a b
    rw [Op.equalIn]
    simp only [pr_bind, pr_under he, Option.bind_some, if_true]
    rfl
  have hdrop : ∀ (l : List Int) j, j < l.length → l.drop j = l.getD j 0 :: l.drop (j + 1) := fun l j hj => by
    rw [List.drop_eq_getElem_cons hj, List.getD_eq_getElem?_getD, List.getElem?_eq_getElem hj]; rfl
  have key : ∀ n s, s + n = len → pureRun P (forIn (List.range' s n) ((none, ()) : Option Bool × Unit) fun i __s => do
      let __do_lift ← part e (List.map (Value.int k) xs).toArray (i * 1)
      let __do_lift_1 ← part e (List.map (Value.int k) ys).toArray (i * 1)
      let __do_lift ← Op.equalIn (d + 1) e __do_lift __do_lift_1
      if (!__do_lift) = true then pure (ForInStep.done (some false, ())) else pure (ForInStep.yield (none, ()))) = some (if xs.drop s = ys.drop s then (none, ()) else (some false, ())) := by
    intro n
    induction n with
    | zero =>
      intro s hs
      rw [List.drop_eq_nil_of_le (by omega), List.drop_eq_nil_of_le (by omega)]
      rfl
    | succ n ih =>
      intro s hs
      rw [List.range'_succ, List.forIn_cons]
      simp only [pr_bind, hpart xs s (by omega), hpart ys s (by omega), Option.bind_some, hel]
      rw [hdrop xs s (by omega), hdrop ys s (by omega)]
      by_cases hab : xs.getD s 0 = ys.getD s 0
      · rw [hab]
        simp only [beq_self_eq_true, Bool.not_true, Bool.false_eq_true, if_false, pr_pure, Option.bind_some, List.cons.injEq, true_and]
        exact ih (s + 1) (by omega)
      · have : (xs.getD s 0 == ys.getD s 0) = false := by simpa using hab
        rw [this, if_neg (fun h => hab (List.cons.inj h).1)]
        simp only [Bool.not_false, if_true, pr_pure, Option.bind_some]
  rw [Op.equalIn]
  simp only [pr_bind, pr_under ht, Option.bind_some, pr_size hi, hs]
  simp only [Std.Legacy.Range.forIn_eq_forIn_range', Std.Legacy.Range.size]
  rw [show (len - 0 + 1 - 1) / 1 = len by omega, key len 0 (by omega), Option.bind_some]
  simp only [List.drop_zero]
  by_cases h : xs = ys <;> simp [h, pr_pure]

theorem plain_ints {k : IntKind} (xs : List Int) : (xs.map (Value.int k)).toArray.toList.all plain = true := by
  simp [plain]

theorem eqK_ints {P : Program} {t e : TypeId} {len : Nat} {k k' : IntKind} {i : TypeInfo} (ht : P.underlying t = some (.array len e)) (he : P.underlying e = some (.int k')) (hi : P.info? e = some i) (hs : i.size = 1) (hg : P.eqGuardType P.depth t = false)
    (xs ys : List Int) (hx : xs.length = len) (hy : ys.length = len) (K : Bool → Prop) :
    eqK P .eql t (xs.map (Value.int k)).toArray (ys.map (Value.int k)).toArray K = K (decide (xs = ys)) := by
  have h1 : pureRun P (do eqGuard .eql t (.tmp 0) (.tmp 0) (.agg (xs.map (Value.int k)).toArray) (.agg (ys.map (Value.int k)).toArray); binOp .eql t (.agg (xs.map (Value.int k)).toArray) (.agg (ys.map (Value.int k)).toArray)) = some (.bool (decide (xs = ys))) := by
    have e1 : pureRun P (eqGuard .eql t (.tmp 0) (.tmp 0) (.agg (xs.map (Value.int k)).toArray) (.agg (ys.map (Value.int k)).toArray)) = some () := by
      simp [eqGuard, pr_bind, pr_prog, hg, pr_pure]
    rw [pr_bind, e1, Option.bind_some]
    have := eq_ints (k := k) ht he hi hs xs ys hx hy 9998
    simp only [binOp, Op.equal, Op.maxDepth, pr_bind, this, Option.bind_some]
    rfl
  unfold eqK
  rw [h1]
  simp [plain]
theorem eqK_intsN {P : Program} {t e : TypeId} {len : Nat} {k k' : IntKind} {i : TypeInfo} (ht : P.underlying t = some (.array len e)) (he : P.underlying e = some (.int k')) (hi : P.info? e = some i) (hs : i.size = 1) (hg : P.eqGuardType P.depth t = false)
    (xs ys : List Int) (hx : xs.length = len) (hy : ys.length = len) (K : Bool → Prop) :
    eqK P .neq t (xs.map (Value.int k)).toArray (ys.map (Value.int k)).toArray K = K (!decide (xs = ys)) := by
  have h1 : pureRun P (do eqGuard .neq t (.tmp 0) (.tmp 0) (.agg (xs.map (Value.int k)).toArray) (.agg (ys.map (Value.int k)).toArray); binOp .neq t (.agg (xs.map (Value.int k)).toArray) (.agg (ys.map (Value.int k)).toArray)) = some (.bool (!decide (xs = ys))) := by
    have e1 : pureRun P (eqGuard .neq t (.tmp 0) (.tmp 0) (.agg (xs.map (Value.int k)).toArray) (.agg (ys.map (Value.int k)).toArray)) = some () := by
      simp [eqGuard, pr_bind, pr_prog, hg, pr_pure]
    rw [pr_bind, e1, Option.bind_some]
    have := eq_ints (k := k) ht he hi hs xs ys hx hy 9998
    simp only [binOp, Op.equal, Op.maxDepth, pr_bind, this, Option.bind_some]
    rfl
  unfold eqK
  rw [h1]
  simp [plain]
end Go.Ga

namespace Go.Ga
open Go Go.Proofs
set_option linter.unusedSimpArgs false
set_option linter.unusedVariables false
set_option maxRecDepth 100000
attribute [local irreducible] appendK endK endW sch comp rs sha

theorem bytes_ints (l : List UInt8) : l.map u8V = (l.map fun b => ((b.toNat : Nat) : Int)).map (Value.int .u8) := by
  rw [List.map_map]; rfl
theorem bytes_ints_inj {l l' : List UInt8} : (l.map fun b => ((b.toNat : Nat) : Int)) = (l'.map fun b => ((b.toNat : Nat) : Int)) ↔ l = l' := by
  constructor
  · intro h
    have := congrArg (List.map fun z : Int => UInt8.ofNat z.toNat) h
    rw [List.map_map, List.map_map] at this
    have e : ((fun z : Int => UInt8.ofNat z.toNat) ∘ fun b : UInt8 => ((b.toNat : Nat) : Int)) = id := by funext b; simp [Function.comp]
    rw [e, List.map_id, List.map_id] at this
    exact this
  · rintro rfl; rfl
theorem eq32 {l l' : List UInt8} (hx : l.length = 32) (hy : l'.length = 32) (K : Bool → Prop) : eqK Try.prog .eql 28 (l.map u8V).toArray (l'.map u8V).toArray K = K (decide (l = l')) := by
  rw [bytes_ints, bytes_ints, eqK_ints (P := Try.prog) (t := 28) (e := 5) (len := 32) (k' := .u8) (i := ((Try.prog).info? 5).get (by kernel_rfl)) (by kernel_rfl) (by kernel_rfl) (Option.some_get _).symm (by kernel_rfl) (by kernel_rfl) _ _ (by simpa using hx) (by simpa using hy) K]
  congr 1
  exact decide_eq_decide.2 bytes_ints_inj
theorem ne32 {l l' : List UInt8} (hx : l.length = 32) (hy : l'.length = 32) (K : Bool → Prop) : eqK Try.prog .neq 28 (l.map u8V).toArray (l'.map u8V).toArray K = K (!decide (l = l')) := by
  rw [bytes_ints, bytes_ints, eqK_intsN (P := Try.prog) (t := 28) (e := 5) (len := 32) (k' := .u8) (i := ((Try.prog).info? 5).get (by kernel_rfl)) (by kernel_rfl) (by kernel_rfl) (Option.some_get _).symm (by kernel_rfl) (by kernel_rfl) _ _ (by simpa using hx) (by simpa using hy) K]
  congr 2
  exact decide_eq_decide.2 bytes_ints_inj

theorem sha_len (l : List UInt8) : (sha l).length = 32 := by unfold sha; exact outS_len _

theorem asC_cvB {v : Value} : v = v := rfl
def cvK (m : Mem) (a : Addr) (n c : Nat) (K : Value → Mem → Prop) : Blk → Prop
  | .cells _ ro => ro = false ∧ m.bar ≤ a.block ∧ 0 < c ∧ K (.slice (some a) n c) m
  | .map _ => False
theorem o_cvB {P : Program} {f : Regs} {m : Mem} {K : Value → Mem → Prop} (x : Rv) : ROp.vc P f m K (.cvB x) = asS (x.ev f) fun A n c => asO A fun a => asC (m.get a.block) fun _ ro => ro = false ∧ m.bar ≤ a.block ∧ 0 < c ∧ K (.slice (some a) n c) m := by
  dsimp only [ROp.vc, asS, asO, asC]
  cases x.ev f with
  | slice A n c =>
    cases A with
    | none => rfl
    | some a =>
      dsimp only
      cases m.get a.block with
      | none => rfl
      | some b =>
        cases b with
        | map es => rfl
        | cells l ro =>
          cases ro with
          | false => exact propext ⟨fun h => ⟨rfl, h⟩, fun h => h.2⟩
          | true => exact propext ⟨fun h => h.elim, fun h => by cases h.1⟩
  | _ => rfl
end Go.Ga

namespace Go.Ga
open Go Go.Proofs
set_option maxRecDepth 100000

def d_bytes_Repeat : List (List Nat) := [[], [], [], [1, 2], [], [], [4, 5], [3, 6], [0, 7], [8, 7, 0, 1, 2, 3, 4, 5, 6, 7, 8]]
def q_bytes_Repeat : List (Option (List Nat)) := [(some []), (some []), (some []), none, (some []), (some []), none, none, none, (some [0, 2, 8])]
def c_bytes_Repeat : RFn :=
  ⟨77,
  (.seq
  (.ops [] [
  ⟨(some 4), (.op (.mv (.k (.slice none 0 0)))), none⟩])
  (.seq
  (.seq
  (.ops [] [
  ⟨(some 12), (.op (.mv (.t 1))), none⟩,
  ⟨(some 13), (.op (.bin .eql (.t 12) (.k (.int .i64 0)))), none⟩])
  (.cond (.t 13)
  (.seq
  (.ops [] [
  ⟨(some 14), (.op (.mkSl 0 [] [])), none⟩,
  ⟨(some 4), (.op (.mv (.t 14))), none⟩])
  .ret)
  .skip))
  (.seq
  (.seq
  (.ops [] [
  ⟨(some 15), (.op (.mv (.t 1))), none⟩,
  ⟨(some 16), (.op (.bin .lss (.t 15) (.k (.int .i64 0)))), none⟩])
  (.cond (.t 16)
  (.ops [] [
  ⟨(some 17), (.op (.iface 9 (.k (.string ⟨#[98, 121, 116, 101, 115, 58, 32, 110, 101, 103, 97, 116, 105, 118, 101, 32, 82, 101, 112, 101, 97, 116, 32, 99, 111, 117, 110, 116]⟩)))), none⟩,
  ⟨none, (.pan (.t 17)), none⟩])
  .skip))
  (.seq
  (.ops [] [
  ⟨(some 19), (.op (.mv (.t 0))), none⟩,
  ⟨(some 20), (.op (.lenSl (.t 19))), none⟩,
  ⟨(some 21), (.op (.toInt .u64 (.t 20))), none⟩,
  ⟨(some 22), (.op (.mv (.t 1))), none⟩,
  ⟨(some 23), (.op (.toInt .u64 (.t 22))), none⟩,
  ⟨(some 24), (.call (.k (.func (.func 68) #[] #[])) [(.t 21), (.t 23)]), none⟩,
  ⟨(some 18), (.op (.mv (.t 24))), none⟩,
  ⟨(some 25), (.op (.extract (.t 18) 0)), none⟩,
  ⟨(some 26), (.op (.extract (.t 18) 1)), none⟩,
  ⟨(some 5), (.op (.mv (.t 25))), none⟩,
  ⟨(some 6), (.op (.mv (.t 26))), none⟩])
  (.seq
  (.seq
  (.ops [] [
  ⟨(some 27), (.op (.mv (.t 5))), none⟩,
  ⟨(some 28), (.op (.bin .gtr (.t 27) (.k (.int .u64 0)))), none⟩,
  ⟨(some 29), (.op (.mv (.t 28))), none⟩,
  ⟨(some 30), (.op (.mv (.t 6))), (some (29, false))⟩,
  ⟨(some 31), (.op (.bin .gtr (.t 30) (.k (.int .u64 9223372036854775807)))), (some (29, false))⟩,
  ⟨(some 32), (.op (.pick (.t 29) (.k (.bool true)) (.t 31))), none⟩])
  (.cond (.t 32)
  (.ops [] [
  ⟨(some 33), (.op (.iface 9 (.k (.string ⟨#[98, 121, 116, 101, 115, 58, 32, 82, 101, 112, 101, 97, 116, 32, 111, 117, 116, 112, 117, 116, 32, 108, 101, 110, 103, 116, 104, 32, 111, 118, 101, 114, 102, 108, 111, 119]⟩)))), none⟩,
  ⟨none, (.pan (.t 33)), none⟩])
  .skip))
  (.seq
  (.ops [] [
  ⟨(some 34), (.op (.mv (.t 6))), none⟩,
  ⟨(some 35), (.op (.toInt .i64 (.t 34))), none⟩,
  ⟨(some 7), (.op (.mv (.t 35))), none⟩])
  (.seq
  (.seq
  (.ops [] [
  ⟨(some 36), (.op (.mv (.t 0))), none⟩,
  ⟨(some 37), (.op (.lenSl (.t 36))), none⟩,
  ⟨(some 38), (.op (.bin .eql (.t 37) (.k (.int .i64 0)))), none⟩])
  (.cond (.t 38)
  (.seq
  (.ops [] [
  ⟨(some 39), (.op (.mkSl 0 [] [])), none⟩,
  ⟨(some 4), (.op (.mv (.t 39))), none⟩])
  .ret)
  .skip))
  (.seq
  (.ops [] [
  ⟨(some 40), (.op (.mv (.t 7))), none⟩,
  ⟨(some 8), (.op (.mv (.t 40))), none⟩])
  (.seq
  (.seq
  (.ops [] [
  ⟨(some 41), (.op (.mv (.t 8))), none⟩,
  ⟨(some 42), (.op (.bin .gtr (.t 41) (.k (.int .i64 8192)))), none⟩])
  (.cond (.t 42)
  (.seq
  (.ops [] [
  ⟨(some 43), (.op (.mv (.t 0))), none⟩,
  ⟨(some 44), (.op (.lenSl (.t 43))), none⟩,
  ⟨(some 45), (.op (.bin .quo (.k (.int .i64 8192)) (.t 44))), none⟩,
  ⟨(some 46), (.op (.mv (.t 0))), none⟩,
  ⟨(some 47), (.op (.lenSl (.t 46))), none⟩,
  ⟨(some 48), (.op (.bin .mul (.t 45) (.t 47))), none⟩,
  ⟨(some 8), (.op (.mv (.t 48))), none⟩])
  (.seq
  (.ops [] [
  ⟨(some 49), (.op (.mv (.t 8))), none⟩,
  ⟨(some 50), (.op (.bin .eql (.t 49) (.k (.int .i64 0)))), none⟩])
  (.cond (.t 50)
  (.ops [] [
  ⟨(some 51), (.op (.mv (.t 0))), none⟩,
  ⟨(some 52), (.op (.lenSl (.t 51))), none⟩,
  ⟨(some 8), (.op (.mv (.t 52))), none⟩])
  .skip)))
  .skip))
  (.seq
  (.ops [] [
  ⟨(some 53), (.op (.mv (.t 7))), none⟩,
  ⟨(some 54), (.xop (.noZero (.t 53))), none⟩,
  ⟨(some 55), (.op (.mv (.t 7))), none⟩,
  ⟨(some 56), (.op (.mv (.t 7))), none⟩,
  ⟨(some 57), (.op (.sl 1 (.t 54) none (some (.t 55)) (some (.t 56)))), none⟩,
  ⟨(some 9), (.op (.mv (.t 57))), none⟩])
  (.seq
  (.ops [] [
  ⟨(some 58), (.op (.mv (.t 9))), none⟩,
  ⟨(some 59), (.op (.mv (.t 0))), none⟩,
  ⟨(some 60), (.op (.copy 1 (.t 58) (.t 59))), none⟩,
  ⟨(some 10), (.op (.mv (.t 60))), none⟩])
  (.seq
  (.block 0
  (.loop
  (.seq
  (.seq
  (.ops [] [
  ⟨(some 61), (.op (.mv (.t 10))), none⟩,
  ⟨(some 62), (.op (.mv (.t 7))), none⟩,
  ⟨(some 63), (.op (.bin .lss (.t 61) (.t 62))), none⟩])
  (.cond (.t 63)
  .skip
  (.exit 0)))
  (.block 1
  (.seq
  (.ops [] [
  ⟨(some 64), (.op (.mv (.t 10))), none⟩,
  ⟨(some 65), (.op (.mv (.t 8))), none⟩,
  ⟨(some 66), (.op (.mm false (.t 64) [(.t 65)])), none⟩,
  ⟨(some 11), (.op (.mv (.t 66))), none⟩])
  (.tree [
  ⟨(some 67), (.op (.mv (.t 10))), none⟩,
  ⟨(some 68), (.op (.mv (.t 9))), none⟩,
  ⟨(some 69), (.op (.mv (.t 10))), none⟩,
  ⟨(some 70), (.op (.sl 1 (.t 68) (some (.t 69)) none none)), none⟩,
  ⟨(some 71), (.op (.mv (.t 9))), none⟩,
  ⟨(some 72), (.op (.mv (.t 11))), none⟩,
  ⟨(some 73), (.op (.sl 1 (.t 71) none (some (.t 72)) none)), none⟩,
  ⟨(some 74), (.op (.copy 1 (.t 70) (.t 73))), none⟩,
  ⟨(some 75), (.op (.bin .add (.t 67) (.t 74))), none⟩,
  ⟨(some 10), (.op (.mv (.t 75))), none⟩] d_bytes_Repeat q_bytes_Repeat))))))
  (.seq
  (.ops [] [
  ⟨(some 76), (.op (.mv (.t 9))), none⟩,
  ⟨(some 4), (.op (.mv (.t 76))), none⟩])
  .ret))))))))))))),
  [(.t 4)]⟩
theorem r_bytes_Repeat : resolveFn Try.prog 41 [20] = some c_bytes_Repeat := by kernel_rfl

theorem t_bytes_Repeat : nextL d_bytes_Repeat q_bytes_Repeat 0 = [0] ∧ nextL d_bytes_Repeat q_bytes_Repeat 1 = [1] ∧ nextL d_bytes_Repeat q_bytes_Repeat 3 = [2] ∧ nextL d_bytes_Repeat q_bytes_Repeat 7 = [4] ∧ nextL d_bytes_Repeat q_bytes_Repeat 23 = [5] ∧ nextL d_bytes_Repeat q_bytes_Repeat 55 = [3, 6] ∧ nextL d_bytes_Repeat q_bytes_Repeat 63 = [6] ∧ nextL d_bytes_Repeat q_bytes_Repeat 119 = [3] ∧ nextL d_bytes_Repeat q_bytes_Repeat 127 = [7] ∧ nextL d_bytes_Repeat q_bytes_Repeat 255 = [8] ∧ nextL d_bytes_Repeat q_bytes_Repeat 511 = [9] ∧ nextL d_bytes_Repeat q_bytes_Repeat 1023 = [] := by decide +kernel

def c_rsa_Frame : RFn :=
  ⟨32,
  (.seq
  (.ops [] [
  ⟨(some 2), (.op (.box (.t 0))), none⟩,
  ⟨(some 4), (.op (.mv (.k (.slice none 0 0)))), none⟩,
  ⟨(some 5), (.op (.mv (.k (.int .i64 0)))), none⟩])
  (.seq
  (.seq
  (.ops [] [
  ⟨(some 10), (.op (.mv (.t 1))), none⟩,
  ⟨(some 11), (.op (.bin .lss (.t 10) (.k (.int .i64 62)))), none⟩,
  ⟨(some 12), (.op (.mv (.t 11))), none⟩,
  ⟨(some 13), (.op (.mv (.t 1))), (some (12, false))⟩,
  ⟨(some 14), (.op (.bin .gtr (.t 13) (.k (.int .i64 512)))), (some (12, false))⟩,
  ⟨(some 15), (.op (.pick (.t 12) (.k (.bool true)) (.t 14))), none⟩])
  (.cond (.t 15)
  (.seq
  (.ops [] [
  ⟨(some 4), (.op (.mv (.k (.slice none 0 0)))), none⟩,
  ⟨(some 5), (.op (.mv (.k (.int .i64 1)))), none⟩])
  .ret)
  .skip))
  (.seq
  (.ops [] [
  ⟨(some 16), (.op (.mkSl 1 [(.int .u8 0)] [(0, (1, (.k (.int .u8 255))))])), none⟩,
  ⟨(some 17), (.op (.mv (.t 1))), none⟩,
  ⟨(some 18), (.call (.k (.func (.func 41) #[] #[])) [(.t 16), (.t 17)]), none⟩,
  ⟨(some 6), (.op (.new [(.slice none 0 0)])), none⟩,
  ⟨none, (.op (.store 1 (.t 6) (.t 18))), none⟩])
  (.seq
  (.ops [] [
  ⟨(some 19), (.op (.mv (.t 1))), none⟩,
  ⟨(some 7), (.op (.new [(.int .i64 0)])), none⟩,
  ⟨none, (.op (.store 1 (.t 7) (.t 19))), none⟩])
  (.seq
  (.ops [] [
  ⟨(some 20), (.op (.func 42 [(.t 7), (.t 6)])), none⟩,
  ⟨(some 8), (.op (.mv (.t 20))), none⟩])
  (.seq
  (.ops [] [
  ⟨(some 21), (.op (.mv (.t 8))), none⟩,
  ⟨(some 22), (.op (.slArr 32 1 (.t 2) none none none)), none⟩,
  ⟨(some 23), (.call (.t 21) [(.t 22)]), none⟩])
  (.seq
  (.ops [] [
  ⟨(some 24), (.call (.k (.func (.func 43) #[] #[])) []), none⟩,
  ⟨(some 9), (.op (.new [(.int .u8 0), (.int .u8 0), (.int .u8 0), (.int .u8 0), (.int .u8 0), (.int .u8 0), (.int .u8 0), (.int .u8 0), (.int .u8 0), (.int .u8 0), (.int .u8 0), (.int .u8 0), (.int .u8 0), (.int .u8 0), (.int .u8 0), (.int .u8 0), (.int .u8 0), (.int .u8 0), (.int .u8 0), (.int .u8 0)])), none⟩,
  ⟨none, (.op (.store 20 (.t 9) (.t 24))), none⟩])
  (.seq
  (.ops [] [
  ⟨(some 25), (.op (.mv (.t 8))), none⟩,
  ⟨(some 26), (.op (.slArr 20 1 (.t 9) none none none)), none⟩,
  ⟨(some 27), (.call (.t 25) [(.t 26)]), none⟩])
  (.seq
  (.ops [] [
  ⟨(some 28), (.op (.load1 (.t 6))), none⟩,
  ⟨(some 29), (.op (.mkSl 2 [(.int .u8 0), (.int .u8 0)] [(0, (1, (.k (.int .u8 0)))), (1, (1, (.k (.int .u8 1))))])), none⟩,
  ⟨(some 30), (.op (.copy 1 (.t 28) (.t 29))), none⟩])
  (.seq
  (.ops [] [
  ⟨(some 31), (.op (.load1 (.t 6))), none⟩,
  ⟨(some 4), (.op (.mv (.t 31))), none⟩,
  ⟨(some 5), (.op (.mv (.k (.int .i64 0)))), none⟩])
  .ret)))))))))),
  [(.t 4), (.t 5)]⟩
theorem r_rsa_Frame : resolveFn Try.prog 22 = some c_rsa_Frame := by kernel_rfl

def c_rsa_Frame_1 : RFn :=
  ⟨13,
  (.seq
  (.ops [] [
  ⟨(some 4), (.op (.load1 (.t 1))), none⟩,
  ⟨(some 5), (.op (.mv (.t 0))), none⟩,
  ⟨(some 6), (.op (.lenSl (.t 5))), none⟩,
  ⟨(some 7), (.op (.bin .sub (.t 4) (.t 6))), none⟩,
  ⟨none, (.op (.store 1 (.t 1) (.t 7))), none⟩])
  (.ops [] [
  ⟨(some 8), (.op (.load1 (.t 2))), none⟩,
  ⟨(some 9), (.op (.load1 (.t 1))), none⟩,
  ⟨(some 10), (.op (.sl 1 (.t 8) (some (.t 9)) none none)), none⟩,
  ⟨(some 11), (.op (.mv (.t 0))), none⟩,
  ⟨(some 12), (.op (.copy 1 (.t 10) (.t 11))), none⟩])),
  []⟩
theorem r_rsa_Frame_1 : resolveFn Try.prog 42 = some c_rsa_Frame_1 := by kernel_rfl

def c_rsa_ahead : RFn :=
  ⟨2,
  (.seq
  (.ops [] [
  ⟨(some 0), (.op (.new [(.int .u8 0), (.int .u8 0), (.int .u8 0), (.int .u8 0), (.int .u8 0), (.int .u8 0), (.int .u8 0), (.int .u8 0), (.int .u8 0), (.int .u8 0), (.int .u8 0), (.int .u8 0), (.int .u8 0), (.int .u8 0), (.int .u8 0), (.int .u8 0), (.int .u8 0), (.int .u8 0), (.int .u8 0), (.int .u8 0)])), none⟩])
  (.seq
  (.ops [] [
  ⟨(some 1), (.op (.build [(.int .u8 0), (.int .u8 0), (.int .u8 0), (.int .u8 0), (.int .u8 0), (.int .u8 0), (.int .u8 0), (.int .u8 0), (.int .u8 0), (.int .u8 0), (.int .u8 0), (.int .u8 0), (.int .u8 0), (.int .u8 0), (.int .u8 0), (.int .u8 0), (.int .u8 0), (.int .u8 0), (.int .u8 0), (.int .u8 0)] [(0, (1, (.k (.int .u8 0)))), (1, (1, (.k (.int .u8 48)))), (2, (1, (.k (.int .u8 49)))), (3, (1, (.k (.int .u8 48)))), (4, (1, (.k (.int .u8 13)))), (5, (1, (.k (.int .u8 6)))), (6, (1, (.k (.int .u8 9)))), (7, (1, (.k (.int .u8 96)))), (8, (1, (.k (.int .u8 134)))), (9, (1, (.k (.int .u8 72)))), (10, (1, (.k (.int .u8 1)))), (11, (1, (.k (.int .u8 101)))), (12, (1, (.k (.int .u8 3)))), (13, (1, (.k (.int .u8 4)))), (14, (1, (.k (.int .u8 2)))), (15, (1, (.k (.int .u8 1)))), (16, (1, (.k (.int .u8 5)))), (17, (1, (.k (.int .u8 0)))), (18, (1, (.k (.int .u8 4)))), (19, (1, (.k (.int .u8 32))))])), none⟩,
  ⟨none, (.op (.store 20 (.t 0) (.t 1))), none⟩])
  .ret)),
  [(.cN 0 20)]⟩
theorem r_rsa_ahead : resolveFn Try.prog 43 = some c_rsa_ahead := by kernel_rfl

def c_rsa_Right : RFn :=
  ⟨41,
  (.seq
  (.ops [] [
  ⟨(some 1), (.op (.box (.t 0))), none⟩,
  ⟨(some 2), (.op (.mv (.k (.bool false)))), none⟩])
  (.seq
  (.ops [] [
  ⟨(some 4), (.op (.fieldAddr 0 (.t 1))), none⟩,
  ⟨(some 5), (.op (.load1 (.t 4))), none⟩,
  ⟨(some 6), (.op (.lenSl (.t 5))), none⟩,
  ⟨(some 3), (.op (.mv (.t 6))), none⟩])
  (.seq
  (.ops [] [
  ⟨(some 7), (.op (.mv (.t 3))), none⟩,
  ⟨(some 8), (.op (.bin .geq (.t 7) (.k (.int .i64 62)))), none⟩,
  ⟨(some 9), (.op (.mv (.t 8))), none⟩,
  ⟨(some 10), (.op (.mv (.t 3))), (some (9, true))⟩,
  ⟨(some 11), (.op (.bin .leq (.t 10) (.k (.int .i64 512)))), (some (9, true))⟩,
  ⟨(some 12), (.op (.pick (.t 9) (.t 11) (.k (.bool false)))), none⟩,
  ⟨(some 13), (.op (.mv (.t 12))), none⟩,
  ⟨(some 14), (.op (.fieldAddr 0 (.t 1))), (some (13, true))⟩,
  ⟨(some 15), (.op (.load1 (.t 14))), (some (13, true))⟩,
  ⟨(some 16), (.op (.ixAddr 1 (.t 15) (.k (.int .i64 0)))), (some (13, true))⟩,
  ⟨(some 17), (.op (.load1 (.t 16))), (some (13, true))⟩,
  ⟨(some 18), (.op (.bin .neq (.t 17) (.k (.int .u8 0)))), (some (13, true))⟩,
  ⟨(some 19), (.op (.pick (.t 13) (.t 18) (.k (.bool false)))), none⟩,
  ⟨(some 20), (.op (.mv (.t 19))), none⟩,
  ⟨(some 21), (.op (.fieldAddr 0 (.t 1))), (some (20, true))⟩,
  ⟨(some 22), (.op (.load1 (.t 21))), (some (20, true))⟩,
  ⟨(some 23), (.op (.mv (.t 3))), (some (20, true))⟩,
  ⟨(some 24), (.op (.bin .sub (.t 23) (.k (.int .i64 1)))), (some (20, true))⟩,
  ⟨(some 25), (.op (.ixAddr 1 (.t 22) (.t 24))), (some (20, true))⟩,
  ⟨(some 26), (.op (.load1 (.t 25))), (some (20, true))⟩,
  ⟨(some 27), (.op (.bin .and (.t 26) (.k (.int .u8 1)))), (some (20, true))⟩,
  ⟨(some 28), (.op (.bin .eql (.t 27) (.k (.int .u8 1)))), (some (20, true))⟩,
  ⟨(some 29), (.op (.pick (.t 20) (.t 28) (.k (.bool false)))), none⟩,
  ⟨(some 30), (.op (.mv (.t 29))), none⟩,
  ⟨(some 31), (.op (.fieldAddr 1 (.t 1))), (some (30, true))⟩,
  ⟨(some 32), (.op (.load1 (.t 31))), (some (30, true))⟩,
  ⟨(some 33), (.op (.bin .and (.t 32) (.k (.int .u32 1)))), (some (30, true))⟩,
  ⟨(some 34), (.op (.bin .eql (.t 33) (.k (.int .u32 1)))), (some (30, true))⟩,
  ⟨(some 35), (.op (.pick (.t 30) (.t 34) (.k (.bool false)))), none⟩,
  ⟨(some 36), (.op (.mv (.t 35))), none⟩,
  ⟨(some 37), (.op (.fieldAddr 1 (.t 1))), (some (36, true))⟩,
  ⟨(some 38), (.op (.load1 (.t 37))), (some (36, true))⟩,
  ⟨(some 39), (.op (.bin .geq (.t 38) (.k (.int .u32 3)))), (some (36, true))⟩,
  ⟨(some 40), (.op (.pick (.t 36) (.t 39) (.k (.bool false)))), none⟩,
  ⟨(some 2), (.op (.mv (.t 40))), none⟩])
  .ret))),
  [(.t 2)]⟩
theorem r_rsa_Right : resolveFn Try.prog 24 = some c_rsa_Right := by kernel_rfl

def c_rsa_Power : RFn :=
  ⟨50,
  (.seq
  (.ops [] [
  ⟨(some 2), (.op (.box (.t 0))), none⟩,
  ⟨(some 4), (.op (.mv (.k (.slice none 0 0)))), none⟩,
  ⟨(some 5), (.op (.mv (.k (.int .i64 0)))), none⟩])
  (.seq
  (.seq
  (.ops [] [
  ⟨(some 11), (.op (.loadN 2 (.t 2))), none⟩,
  ⟨(some 12), (.call (.k (.func (.func 24) #[] #[])) [(.t 11)]), none⟩,
  ⟨(some 13), (.op (.un .not (.t 12))), none⟩])
  (.cond (.t 13)
  (.seq
  (.ops [] [
  ⟨(some 4), (.op (.mv (.k (.slice none 0 0)))), none⟩,
  ⟨(some 5), (.op (.mv (.k (.int .i64 1)))), none⟩])
  .ret)
  .skip))
  (.seq
  (.ops [] [
  ⟨(some 14), (.op (.fieldAddr 0 (.t 2))), none⟩,
  ⟨(some 15), (.op (.load1 (.t 14))), none⟩,
  ⟨(some 16), (.call (.k (.func (.func 34) #[] #[])) [(.t 15)]), none⟩,
  ⟨(some 17), (.op (.mv (.t 1))), none⟩,
  ⟨(some 18), (.call (.k (.func (.func 34) #[] #[])) [(.t 17)]), none⟩,
  ⟨(some 6), (.op (.mv (.t 16))), none⟩,
  ⟨(some 7), (.op (.mv (.t 18))), none⟩])
  (.seq
  (.seq
  (.ops [] [
  ⟨(some 19), (.op (.mv (.t 1))), none⟩,
  ⟨(some 20), (.op (.lenSl (.t 19))), none⟩,
  ⟨(some 21), (.op (.fieldAddr 0 (.t 2))), none⟩,
  ⟨(some 22), (.op (.load1 (.t 21))), none⟩,
  ⟨(some 23), (.op (.lenSl (.t 22))), none⟩,
  ⟨(some 24), (.op (.bin .neq (.t 20) (.t 23))), none⟩,
  ⟨(some 25), (.op (.mv (.t 24))), none⟩,
  ⟨(some 26), (.op (.mv (.t 7))), (some (25, false))⟩,
  ⟨(some 27), (.op (.mv (.t 6))), (some (25, false))⟩,
  ⟨(some 28), (.call (.k (.func (.func 33) #[] #[])) [(.t 26), (.t 27)]), (some (25, false))⟩,
  ⟨(some 29), (.op (.bin .geq (.t 28) (.k (.int .i64 0)))), (some (25, false))⟩,
  ⟨(some 30), (.op (.pick (.t 25) (.k (.bool true)) (.t 29))), none⟩])
  (.cond (.t 30)
  (.seq
  (.ops [] [
  ⟨(some 4), (.op (.mv (.k (.slice none 0 0)))), none⟩,
  ⟨(some 5), (.op (.mv (.k (.int .i64 6)))), none⟩])
  .ret)
  .skip))
  (.seq
  (.ops [] [
  ⟨(some 32), (.op (.mv (.t 7))), none⟩,
  ⟨(some 33), (.op (.fieldAddr 1 (.t 2))), none⟩,
  ⟨(some 34), (.op (.load1 (.t 33))), none⟩,
  ⟨(some 35), (.op (.mkSl 1 [(.int .u32 0)] [(0, (1, (.t 34)))])), none⟩,
  ⟨(some 36), (.op (.mv (.t 6))), none⟩,
  ⟨(some 37), (.call (.k (.func (.func 45) #[] #[])) [(.t 32), (.t 35), (.t 36)]), none⟩,
  ⟨(some 31), (.op (.mv (.t 37))), none⟩,
  ⟨(some 38), (.op (.extract (.t 31) 0)), none⟩,
  ⟨(some 39), (.op (.extract (.t 31) 1)), none⟩,
  ⟨(some 8), (.op (.mv (.t 38))), none⟩,
  ⟨(some 9), (.op (.mv (.t 39))), none⟩])
  (.seq
  (.ops [] [
  ⟨(some 40), (.op (.mv (.t 8))), none⟩,
  ⟨(some 41), (.call (.k (.func (.func 46) #[] #[])) [(.t 40)]), none⟩,
  ⟨(some 10), (.op (.mv (.t 41))), none⟩])
  (.seq
  (.ops [] [
  ⟨(some 42), (.op (.mv (.t 1))), none⟩,
  ⟨(some 43), (.op (.lenSl (.t 42))), none⟩,
  ⟨(some 44), (.op (.mv (.t 10))), none⟩,
  ⟨(some 45), (.op (.lenSl (.t 44))), none⟩,
  ⟨(some 46), (.op (.bin .sub (.t 43) (.t 45))), none⟩,
  ⟨(some 47), (.op (.make 1 1 [(.int .u8 0)] (.t 46) (.t 46))), none⟩,
  ⟨(some 48), (.op (.mv (.t 10))), none⟩,
  ⟨(some 49), (.op (.append 1 1 (.t 47) (.t 48))), none⟩,
  ⟨(some 4), (.op (.mv (.t 49))), none⟩,
  ⟨(some 5), (.op (.mv (.k (.int .i64 0)))), none⟩])
  .ret))))))),
  [(.t 4), (.t 5)]⟩
theorem r_rsa_Power : resolveFn Try.prog 27 = some c_rsa_Power := by kernel_rfl

def c_rsa_Verify : RFn :=
  ⟨36,
  (.seq
  (.ops [] [
  ⟨(some 3), (.op (.box (.t 0))), none⟩,
  ⟨(some 6), (.op (.mv (.k (.int .i64 0)))), none⟩])
  (.seq
  (.ops [] [
  ⟨(some 11), (.op (.loadN 2 (.t 3))), none⟩,
  ⟨(some 12), (.op (.mv (.t 2))), none⟩,
  ⟨(some 13), (.call (.k (.func (.func 27) #[] #[])) [(.t 11), (.t 12)]), none⟩,
  ⟨(some 10), (.op (.mv (.t 13))), none⟩,
  ⟨(some 14), (.op (.extract (.t 10) 0)), none⟩,
  ⟨(some 15), (.op (.extract (.t 10) 1)), none⟩,
  ⟨(some 7), (.op (.mv (.t 14))), none⟩,
  ⟨(some 8), (.op (.mv (.t 15))), none⟩])
  (.seq
  (.seq
  (.ops [] [
  ⟨(some 16), (.op (.mv (.t 8))), none⟩,
  ⟨(some 17), (.op (.bin .neq (.t 16) (.k (.int .i64 0)))), none⟩])
  (.cond (.t 17)
  (.seq
  (.ops [] [
  ⟨(some 18), (.op (.mv (.t 8))), none⟩,
  ⟨(some 6), (.op (.mv (.t 18))), none⟩])
  .ret)
  .skip))
  (.seq
  (.ops [
  ⟨(some 20), (.op (.mv (.t 1))), none⟩,
  ⟨(some 21), (.call (.k (.func (.func 16) #[] #[])) [(.t 20)]), none⟩,
  ⟨(some 22), (.op (.fieldAddr 0 (.t 3))), none⟩,
  ⟨(some 23), (.op (.load1 (.t 22))), none⟩,
  ⟨(some 24), (.op (.lenSl (.t 23))), none⟩,
  ⟨(some 25), (.call (.k (.func (.func 22) #[] #[])) [(.t 21), (.t 24)]), none⟩,
  ⟨(some 19), (.op (.mv (.t 25))), none⟩,
  ⟨(some 26), (.op (.extract (.t 19) 0)), none⟩,
  ⟨(some 27), (.op (.extract (.t 19) 1)), none⟩,
  ⟨(some 9), (.op (.mv (.t 26))), none⟩] [
  ⟨(some 8), (.op (.mv (.t 27))), none⟩])
  (.seq
  (.seq
  (.ops [] [
  ⟨(some 28), (.op (.mv (.t 8))), none⟩,
  ⟨(some 29), (.op (.bin .neq (.t 28) (.k (.int .i64 0)))), none⟩,
  ⟨(some 30), (.op (.mv (.t 29))), none⟩,
  ⟨(some 31), (.op (.mv (.t 7))), (some (30, false))⟩,
  ⟨(some 32), (.op (.mv (.t 9))), (some (30, false))⟩,
  ⟨(some 33), (.call (.k (.func (.func 51) #[] #[])) [(.t 31), (.t 32)]), (some (30, false))⟩,
  ⟨(some 34), (.op (.un .not (.t 33))), (some (30, false))⟩,
  ⟨(some 35), (.op (.pick (.t 30) (.k (.bool true)) (.t 34))), none⟩])
  (.cond (.t 35)
  (.seq
  (.ops [] [
  ⟨(some 6), (.op (.mv (.k (.int .i64 6)))), none⟩])
  .ret)
  .skip))
  (.seq
  (.ops [] [
  ⟨(some 6), (.op (.mv (.k (.int .i64 0)))), none⟩])
  .ret)))))),
  [(.t 6)]⟩
theorem r_rsa_Verify : resolveFn Try.prog 29 = some c_rsa_Verify := by kernel_rfl

def c_bytes_Equal : RFn :=
  ⟨10,
  (.seq
  (.ops [] [
  ⟨(some 4), (.op (.mv (.k (.bool false)))), none⟩])
  (.seq
  (.ops [] [
  ⟨(some 5), (.op (.mv (.t 0))), none⟩,
  ⟨(some 6), (.op (.b2s (.t 5))), none⟩,
  ⟨(some 7), (.op (.mv (.t 1))), none⟩,
  ⟨(some 8), (.op (.b2s (.t 7))), none⟩,
  ⟨(some 9), (.op (.bin .eql (.t 6) (.t 8))), none⟩,
  ⟨(some 4), (.op (.mv (.t 9))), none⟩])
  .ret)),
  [(.t 4)]⟩
theorem r_bytes_Equal : resolveFn Try.prog 51 = some c_bytes_Equal := by kernel_rfl

def c_math_bits_Mul : RFn :=
  ⟨30,
  (.seq
  (.ops [] [
  ⟨(some 4), (.op (.mv (.k (.int .u64 0)))), none⟩,
  ⟨(some 5), (.op (.mv (.k (.int .u64 0)))), none⟩])
  (.seq
  (.cond (.k (.bool false))
  (.seq
  (.ops [] [
  ⟨(some 11), (.op (.mv (.t 0))), none⟩,
  ⟨(some 12), (.op (.toInt .u32 (.t 11))), none⟩,
  ⟨(some 13), (.op (.mv (.t 1))), none⟩,
  ⟨(some 14), (.op (.toInt .u32 (.t 13))), none⟩,
  ⟨(some 15), (.call (.k (.func (.func 82) #[] #[])) [(.t 12), (.t 14)]), none⟩,
  ⟨(some 10), (.op (.mv (.t 15))), none⟩,
  ⟨(some 16), (.op (.extract (.t 10) 0)), none⟩,
  ⟨(some 17), (.op (.extract (.t 10) 1)), none⟩,
  ⟨(some 6), (.op (.mv (.t 16))), none⟩,
  ⟨(some 7), (.op (.mv (.t 17))), none⟩])
  (.seq
  (.ops [] [
  ⟨(some 18), (.op (.mv (.t 6))), none⟩,
  ⟨(some 19), (.op (.toInt .u64 (.t 18))), none⟩,
  ⟨(some 20), (.op (.mv (.t 7))), none⟩,
  ⟨(some 21), (.op (.toInt .u64 (.t 20))), none⟩,
  ⟨(some 4), (.op (.mv (.t 19))), none⟩,
  ⟨(some 5), (.op (.mv (.t 21))), none⟩])
  .ret))
  .skip)
  (.seq
  (.ops [] [
  ⟨(some 23), (.op (.mv (.t 0))), none⟩,
  ⟨(some 24), (.op (.mv (.t 1))), none⟩,
  ⟨(some 25), (.call (.k (.func (.func 83) #[] #[])) [(.t 23), (.t 24)]), none⟩,
  ⟨(some 22), (.op (.mv (.t 25))), none⟩,
  ⟨(some 26), (.op (.extract (.t 22) 0)), none⟩,
  ⟨(some 27), (.op (.extract (.t 22) 1)), none⟩,
  ⟨(some 8), (.op (.mv (.t 26))), none⟩,
  ⟨(some 9), (.op (.mv (.t 27))), none⟩])
  (.seq
  (.ops [] [
  ⟨(some 28), (.op (.mv (.t 8))), none⟩,
  ⟨(some 29), (.op (.mv (.t 9))), none⟩,
  ⟨(some 4), (.op (.mv (.t 28))), none⟩,
  ⟨(some 5), (.op (.mv (.t 29))), none⟩])
  .ret)))),
  [(.t 4), (.t 5)]⟩
theorem r_math_bits_Mul : resolveFn Try.prog 68 = some c_math_bits_Mul := by kernel_rfl

def c_math_bits_Mul64 : RFn :=
  ⟨51,
  (.seq
  (.ops [] [
  ⟨(some 4), (.op (.mv (.k (.int .u64 0)))), none⟩,
  ⟨(some 5), (.op (.mv (.k (.int .u64 0)))), none⟩])
  (.seq
  (.ops [] [
  ⟨(some 14), (.op (.mv (.t 0))), none⟩,
  ⟨(some 15), (.op (.bin .and (.t 14) (.k (.int .u64 4294967295)))), none⟩,
  ⟨(some 6), (.op (.mv (.t 15))), none⟩])
  (.seq
  (.ops [] [
  ⟨(some 16), (.op (.mv (.t 0))), none⟩,
  ⟨(some 17), (.op (.bin .shr (.t 16) (.k (.int .u64 32)))), none⟩,
  ⟨(some 7), (.op (.mv (.t 17))), none⟩])
  (.seq
  (.ops [] [
  ⟨(some 18), (.op (.mv (.t 1))), none⟩,
  ⟨(some 19), (.op (.bin .and (.t 18) (.k (.int .u64 4294967295)))), none⟩,
  ⟨(some 8), (.op (.mv (.t 19))), none⟩])
  (.seq
  (.ops [] [
  ⟨(some 20), (.op (.mv (.t 1))), none⟩,
  ⟨(some 21), (.op (.bin .shr (.t 20) (.k (.int .u64 32)))), none⟩,
  ⟨(some 9), (.op (.mv (.t 21))), none⟩])
  (.seq
  (.ops [] [
  ⟨(some 22), (.op (.mv (.t 6))), none⟩,
  ⟨(some 23), (.op (.mv (.t 8))), none⟩,
  ⟨(some 24), (.op (.bin .mul (.t 22) (.t 23))), none⟩,
  ⟨(some 10), (.op (.mv (.t 24))), none⟩])
  (.seq
  (.ops [] [
  ⟨(some 25), (.op (.mv (.t 7))), none⟩,
  ⟨(some 26), (.op (.mv (.t 8))), none⟩,
  ⟨(some 27), (.op (.bin .mul (.t 25) (.t 26))), none⟩,
  ⟨(some 28), (.op (.mv (.t 10))), none⟩,
  ⟨(some 29), (.op (.bin .shr (.t 28) (.k (.int .u64 32)))), none⟩,
  ⟨(some 30), (.op (.bin .add (.t 27) (.t 29))), none⟩,
  ⟨(some 11), (.op (.mv (.t 30))), none⟩])
  (.seq
  (.ops [] [
  ⟨(some 31), (.op (.mv (.t 11))), none⟩,
  ⟨(some 32), (.op (.bin .and (.t 31) (.k (.int .u64 4294967295)))), none⟩,
  ⟨(some 12), (.op (.mv (.t 32))), none⟩])
  (.seq
  (.ops [] [
  ⟨(some 33), (.op (.mv (.t 11))), none⟩,
  ⟨(some 34), (.op (.bin .shr (.t 33) (.k (.int .u64 32)))), none⟩,
  ⟨(some 13), (.op (.mv (.t 34))), none⟩])
  (.seq
  (.ops [] [
  ⟨(some 35), (.op (.mv (.t 12))), none⟩,
  ⟨(some 36), (.op (.mv (.t 6))), none⟩,
  ⟨(some 37), (.op (.mv (.t 9))), none⟩,
  ⟨(some 38), (.op (.bin .mul (.t 36) (.t 37))), none⟩,
  ⟨(some 39), (.op (.bin .add (.t 35) (.t 38))), none⟩,
  ⟨(some 12), (.op (.mv (.t 39))), none⟩])
  (.seq
  (.ops [] [
  ⟨(some 40), (.op (.mv (.t 7))), none⟩,
  ⟨(some 41), (.op (.mv (.t 9))), none⟩,
  ⟨(some 42), (.op (.bin .mul (.t 40) (.t 41))), none⟩,
  ⟨(some 43), (.op (.mv (.t 13))), none⟩,
  ⟨(some 44), (.op (.bin .add (.t 42) (.t 43))), none⟩,
  ⟨(some 45), (.op (.mv (.t 12))), none⟩,
  ⟨(some 46), (.op (.bin .shr (.t 45) (.k (.int .u64 32)))), none⟩,
  ⟨(some 47), (.op (.bin .add (.t 44) (.t 46))), none⟩,
  ⟨(some 4), (.op (.mv (.t 47))), none⟩])
  (.seq
  (.ops [] [
  ⟨(some 48), (.op (.mv (.t 0))), none⟩,
  ⟨(some 49), (.op (.mv (.t 1))), none⟩,
  ⟨(some 50), (.op (.bin .mul (.t 48) (.t 49))), none⟩,
  ⟨(some 5), (.op (.mv (.t 50))), none⟩])
  .ret)))))))))))),
  [(.t 4), (.t 5)]⟩
theorem r_math_bits_Mul64 : resolveFn Try.prog 83 = some c_math_bits_Mul64 := by kernel_rfl

def c_lanyardref09_LightKey : RFn :=
  ⟨7,
  (.seq
  (.ops [] [
  ⟨(some 1), (.op (.box (.t 0))), none⟩,
  ⟨(some 2), (.op (.mv (.k (.bool false)))), none⟩])
  (.seq
  (.ops [] [
  ⟨(some 3), (.op (.fieldAddr 0 (.t 1))), none⟩,
  ⟨(some 4), (.op (.load1 (.t 3))), none⟩,
  ⟨(some 5), (.op (.lenSl (.t 4))), none⟩,
  ⟨(some 6), (.op (.bin .leq (.t 5) (.k (.int .i64 140)))), none⟩,
  ⟨(some 2), (.op (.mv (.t 6))), none⟩])
  .ret)),
  [(.t 2)]⟩
theorem r_lanyardref09_LightKey : resolveFn Try.prog 21 = some c_lanyardref09_LightKey := by kernel_rfl

def c_lanyardref09_Frame : RFn :=
  ⟨28,
  (.seq
  (.ops [] [
  ⟨(some 2), (.op (.box (.t 0))), none⟩,
  ⟨(some 4), (.op (.mv (.k (.slice none 0 0)))), none⟩,
  ⟨(some 5), (.op (.mv (.k (.int .i64 0)))), none⟩])
  (.seq
  (.seq
  (.ops [] [
  ⟨(some 7), (.op (.mv (.t 1))), none⟩,
  ⟨(some 8), (.op (.bin .lss (.t 7) (.k (.int .i64 62)))), none⟩,
  ⟨(some 9), (.op (.mv (.t 8))), none⟩,
  ⟨(some 10), (.op (.mv (.t 1))), (some (9, false))⟩,
  ⟨(some 11), (.op (.bin .gtr (.t 10) (.k (.int .i64 512)))), (some (9, false))⟩,
  ⟨(some 12), (.op (.pick (.t 9) (.k (.bool true)) (.t 11))), none⟩])
  (.cond (.t 12)
  (.seq
  (.ops [] [
  ⟨(some 4), (.op (.mv (.k (.slice none 0 0)))), none⟩,
  ⟨(some 5), (.op (.mv (.k (.int .i64 1)))), none⟩])
  .ret)
  .skip))
  (.seq
  (.ops [] [
  ⟨(some 13), (.op (.mkSl 2 [(.int .u8 0), (.int .u8 0)] [(0, (1, (.k (.int .u8 0)))), (1, (1, (.k (.int .u8 1))))])), none⟩,
  ⟨(some 6), (.op (.mv (.t 13))), none⟩])
  (.seq
  (.block 0
  (.loop
  (.seq
  (.seq
  (.ops [] [
  ⟨(some 14), (.op (.mv (.t 6))), none⟩,
  ⟨(some 15), (.op (.lenSl (.t 14))), none⟩,
  ⟨(some 16), (.op (.mv (.t 1))), none⟩,
  ⟨(some 17), (.op (.bin .sub (.t 16) (.k (.int .i64 52)))), none⟩,
  ⟨(some 18), (.op (.bin .lss (.t 15) (.t 17))), none⟩])
  (.cond (.t 18)
  .skip
  (.exit 0)))
  (.block 1
  (.ops [] [
  ⟨(some 19), (.op (.mv (.t 6))), none⟩,
  ⟨(some 20), (.op (.mkSl 1 [(.int .u8 0)] [(0, (1, (.k (.int .u8 255))))])), none⟩,
  ⟨(some 21), (.op (.append 1 1 (.t 19) (.t 20))), none⟩,
  ⟨(some 6), (.op (.mv (.t 21))), none⟩])))))
  (.seq
  (.ops [] [
  ⟨(some 22), (.op (.mv (.t 6))), none⟩,
  ⟨(some 23), (.op (.mkSl 20 [(.int .u8 0), (.int .u8 0), (.int .u8 0), (.int .u8 0), (.int .u8 0), (.int .u8 0), (.int .u8 0), (.int .u8 0), (.int .u8 0), (.int .u8 0), (.int .u8 0), (.int .u8 0), (.int .u8 0), (.int .u8 0), (.int .u8 0), (.int .u8 0), (.int .u8 0), (.int .u8 0), (.int .u8 0), (.int .u8 0)] [(0, (1, (.k (.int .u8 0)))), (1, (1, (.k (.int .u8 48)))), (2, (1, (.k (.int .u8 49)))), (3, (1, (.k (.int .u8 48)))), (4, (1, (.k (.int .u8 13)))), (5, (1, (.k (.int .u8 6)))), (6, (1, (.k (.int .u8 9)))), (7, (1, (.k (.int .u8 96)))), (8, (1, (.k (.int .u8 134)))), (9, (1, (.k (.int .u8 72)))), (10, (1, (.k (.int .u8 1)))), (11, (1, (.k (.int .u8 101)))), (12, (1, (.k (.int .u8 3)))), (13, (1, (.k (.int .u8 4)))), (14, (1, (.k (.int .u8 2)))), (15, (1, (.k (.int .u8 1)))), (16, (1, (.k (.int .u8 5)))), (17, (1, (.k (.int .u8 0)))), (18, (1, (.k (.int .u8 4)))), (19, (1, (.k (.int .u8 32))))])), none⟩,
  ⟨(some 24), (.op (.append 1 1 (.t 22) (.t 23))), none⟩,
  ⟨(some 6), (.op (.mv (.t 24))), none⟩])
  (.seq
  (.ops [] [
  ⟨(some 25), (.op (.mv (.t 6))), none⟩,
  ⟨(some 26), (.op (.slArr 32 1 (.t 2) none none none)), none⟩,
  ⟨(some 27), (.op (.append 1 1 (.t 25) (.t 26))), none⟩,
  ⟨(some 4), (.op (.mv (.t 27))), none⟩,
  ⟨(some 5), (.op (.mv (.k (.int .i64 0)))), none⟩])
  .ret)))))),
  [(.t 4), (.t 5)]⟩
theorem r_lanyardref09_Frame : resolveFn Try.prog 23 = some c_lanyardref09_Frame := by kernel_rfl

def c_lanyardref09_Right : RFn :=
  ⟨41,
  (.seq
  (.ops [] [
  ⟨(some 1), (.op (.box (.t 0))), none⟩,
  ⟨(some 2), (.op (.mv (.k (.bool false)))), none⟩])
  (.seq
  (.ops [] [
  ⟨(some 4), (.op (.fieldAddr 0 (.t 1))), none⟩,
  ⟨(some 5), (.op (.load1 (.t 4))), none⟩,
  ⟨(some 6), (.op (.lenSl (.t 5))), none⟩,
  ⟨(some 3), (.op (.mv (.t 6))), none⟩])
  (.seq
  (.ops [] [
  ⟨(some 7), (.op (.mv (.t 3))), none⟩,
  ⟨(some 8), (.op (.bin .geq (.t 7) (.k (.int .i64 62)))), none⟩,
  ⟨(some 9), (.op (.mv (.t 8))), none⟩,
  ⟨(some 10), (.op (.mv (.t 3))), (some (9, true))⟩,
  ⟨(some 11), (.op (.bin .leq (.t 10) (.k (.int .i64 512)))), (some (9, true))⟩,
  ⟨(some 12), (.op (.pick (.t 9) (.t 11) (.k (.bool false)))), none⟩,
  ⟨(some 13), (.op (.mv (.t 12))), none⟩,
  ⟨(some 14), (.op (.fieldAddr 0 (.t 1))), (some (13, true))⟩,
  ⟨(some 15), (.op (.load1 (.t 14))), (some (13, true))⟩,
  ⟨(some 16), (.op (.ixAddr 1 (.t 15) (.k (.int .i64 0)))), (some (13, true))⟩,
  ⟨(some 17), (.op (.load1 (.t 16))), (some (13, true))⟩,
  ⟨(some 18), (.op (.bin .neq (.t 17) (.k (.int .u8 0)))), (some (13, true))⟩,
  ⟨(some 19), (.op (.pick (.t 13) (.t 18) (.k (.bool false)))), none⟩,
  ⟨(some 20), (.op (.mv (.t 19))), none⟩,
  ⟨(some 21), (.op (.fieldAddr 0 (.t 1))), (some (20, true))⟩,
  ⟨(some 22), (.op (.load1 (.t 21))), (some (20, true))⟩,
  ⟨(some 23), (.op (.mv (.t 3))), (some (20, true))⟩,
  ⟨(some 24), (.op (.bin .sub (.t 23) (.k (.int .i64 1)))), (some (20, true))⟩,
  ⟨(some 25), (.op (.ixAddr 1 (.t 22) (.t 24))), (some (20, true))⟩,
  ⟨(some 26), (.op (.load1 (.t 25))), (some (20, true))⟩,
  ⟨(some 27), (.op (.bin .rem (.t 26) (.k (.int .u8 2)))), (some (20, true))⟩,
  ⟨(some 28), (.op (.bin .eql (.t 27) (.k (.int .u8 1)))), (some (20, true))⟩,
  ⟨(some 29), (.op (.pick (.t 20) (.t 28) (.k (.bool false)))), none⟩,
  ⟨(some 30), (.op (.mv (.t 29))), none⟩,
  ⟨(some 31), (.op (.fieldAddr 1 (.t 1))), (some (30, true))⟩,
  ⟨(some 32), (.op (.load1 (.t 31))), (some (30, true))⟩,
  ⟨(some 33), (.op (.bin .rem (.t 32) (.k (.int .u32 2)))), (some (30, true))⟩,
  ⟨(some 34), (.op (.bin .eql (.t 33) (.k (.int .u32 1)))), (some (30, true))⟩,
  ⟨(some 35), (.op (.pick (.t 30) (.t 34) (.k (.bool false)))), none⟩,
  ⟨(some 36), (.op (.mv (.t 35))), none⟩,
  ⟨(some 37), (.op (.fieldAddr 1 (.t 1))), (some (36, true))⟩,
  ⟨(some 38), (.op (.load1 (.t 37))), (some (36, true))⟩,
  ⟨(some 39), (.op (.bin .geq (.t 38) (.k (.int .u32 3)))), (some (36, true))⟩,
  ⟨(some 40), (.op (.pick (.t 36) (.t 39) (.k (.bool false)))), none⟩,
  ⟨(some 2), (.op (.mv (.t 40))), none⟩])
  .ret))),
  [(.t 2)]⟩
theorem r_lanyardref09_Right : resolveFn Try.prog 25 = some c_lanyardref09_Right := by kernel_rfl

def c_lanyardref09_Padded : RFn :=
  ⟨16,
  (.seq
  (.ops [] [
  ⟨(some 4), (.op (.mv (.k (.slice none 0 0)))), none⟩])
  (.seq
  (.ops [] [
  ⟨(some 6), (.op (.mv (.t 0))), none⟩,
  ⟨(some 7), (.call (.k (.func (.func 54) #[] #[])) [(.t 6)]), none⟩,
  ⟨(some 5), (.op (.mv (.t 7))), none⟩])
  (.seq
  (.ops [] [
  ⟨(some 8), (.op (.mv (.t 1))), none⟩,
  ⟨(some 9), (.op (.mv (.t 5))), none⟩,
  ⟨(some 10), (.op (.lenSl (.t 9))), none⟩,
  ⟨(some 11), (.op (.bin .sub (.t 8) (.t 10))), none⟩,
  ⟨(some 12), (.op (.mm true (.t 11) [(.k (.int .i64 0))])), none⟩,
  ⟨(some 13), (.op (.make 1 1 [(.int .u8 0)] (.t 12) (.t 12))), none⟩,
  ⟨(some 14), (.op (.mv (.t 5))), none⟩,
  ⟨(some 15), (.op (.append 1 1 (.t 13) (.t 14))), none⟩,
  ⟨(some 4), (.op (.mv (.t 15))), none⟩])
  .ret))),
  [(.t 4)]⟩
theorem r_lanyardref09_Padded : resolveFn Try.prog 50 = some c_lanyardref09_Padded := by kernel_rfl

def c_lanyardref09_Power : RFn :=
  ⟨44,
  (.seq
  (.ops [] [
  ⟨(some 2), (.op (.box (.t 0))), none⟩,
  ⟨(some 4), (.op (.mv (.k (.slice none 0 0)))), none⟩,
  ⟨(some 5), (.op (.mv (.k (.int .i64 0)))), none⟩])
  (.seq
  (.seq
  (.ops [] [
  ⟨(some 10), (.op (.loadN 2 (.t 2))), none⟩,
  ⟨(some 11), (.call (.k (.func (.func 25) #[] #[])) [(.t 10)]), none⟩,
  ⟨(some 12), (.op (.un .not (.t 11))), none⟩])
  (.cond (.t 12)
  (.seq
  (.ops [] [
  ⟨(some 4), (.op (.mv (.k (.slice none 0 0)))), none⟩,
  ⟨(some 5), (.op (.mv (.k (.int .i64 1)))), none⟩])
  .ret)
  .skip))
  (.seq
  (.ops [] [
  ⟨(some 13), (.op (.fieldAddr 0 (.t 2))), none⟩,
  ⟨(some 14), (.op (.load1 (.t 13))), none⟩,
  ⟨(some 15), (.call (.k (.func (.func 47) #[] #[])) [(.t 14)]), none⟩,
  ⟨(some 6), (.op (.mv (.t 15))), none⟩])
  (.seq
  (.ops [] [
  ⟨(some 16), (.op (.mv (.t 1))), none⟩,
  ⟨(some 17), (.call (.k (.func (.func 47) #[] #[])) [(.t 16)]), none⟩,
  ⟨(some 7), (.op (.mv (.t 17))), none⟩])
  (.seq
  (.seq
  (.ops [] [
  ⟨(some 18), (.op (.mv (.t 1))), none⟩,
  ⟨(some 19), (.op (.lenSl (.t 18))), none⟩,
  ⟨(some 20), (.op (.fieldAddr 0 (.t 2))), none⟩,
  ⟨(some 21), (.op (.load1 (.t 20))), none⟩,
  ⟨(some 22), (.op (.lenSl (.t 21))), none⟩,
  ⟨(some 23), (.op (.bin .neq (.t 19) (.t 22))), none⟩,
  ⟨(some 24), (.op (.mv (.t 23))), none⟩,
  ⟨(some 25), (.op (.mv (.t 7))), (some (24, false))⟩,
  ⟨(some 26), (.op (.mv (.t 6))), (some (24, false))⟩,
  ⟨(some 27), (.call (.k (.func (.func 48) #[] #[])) [(.t 25), (.t 26)]), (some (24, false))⟩,
  ⟨(some 28), (.op (.bin .geq (.t 27) (.k (.int .i64 0)))), (some (24, false))⟩,
  ⟨(some 29), (.op (.pick (.t 24) (.k (.bool true)) (.t 28))), none⟩])
  (.cond (.t 29)
  (.seq
  (.ops [] [
  ⟨(some 4), (.op (.mv (.k (.slice none 0 0)))), none⟩,
  ⟨(some 5), (.op (.mv (.k (.int .i64 6)))), none⟩])
  .ret)
  .skip))
  (.seq
  (.ops [] [
  ⟨(some 31), (.op (.mv (.t 7))), none⟩,
  ⟨(some 32), (.op (.fieldAddr 1 (.t 2))), none⟩,
  ⟨(some 33), (.op (.load1 (.t 32))), none⟩,
  ⟨(some 34), (.op (.mkSl 1 [(.int .u32 0)] [(0, (1, (.t 33)))])), none⟩,
  ⟨(some 35), (.op (.mv (.t 6))), none⟩,
  ⟨(some 36), (.call (.k (.func (.func 49) #[] #[])) [(.t 31), (.t 34), (.t 35)]), none⟩,
  ⟨(some 30), (.op (.mv (.t 36))), none⟩,
  ⟨(some 37), (.op (.extract (.t 30) 0)), none⟩,
  ⟨(some 38), (.op (.extract (.t 30) 1)), none⟩,
  ⟨(some 8), (.op (.mv (.t 37))), none⟩,
  ⟨(some 9), (.op (.mv (.t 38))), none⟩])
  (.seq
  (.ops [] [
  ⟨(some 39), (.op (.mv (.t 8))), none⟩,
  ⟨(some 40), (.op (.fieldAddr 0 (.t 2))), none⟩,
  ⟨(some 41), (.op (.load1 (.t 40))), none⟩,
  ⟨(some 42), (.op (.lenSl (.t 41))), none⟩,
  ⟨(some 43), (.call (.k (.func (.func 50) #[] #[])) [(.t 39), (.t 42)]), none⟩,
  ⟨(some 4), (.op (.mv (.t 43))), none⟩,
  ⟨(some 5), (.op (.mv (.k (.int .i64 0)))), none⟩])
  .ret))))))),
  [(.t 4), (.t 5)]⟩
theorem r_lanyardref09_Power : resolveFn Try.prog 28 = some c_lanyardref09_Power := by kernel_rfl

def c_lanyardref09_Verify : RFn :=
  ⟨34,
  (.seq
  (.ops [] [
  ⟨(some 3), (.op (.box (.t 0))), none⟩,
  ⟨(some 6), (.op (.mv (.k (.int .i64 0)))), none⟩])
  (.seq
  (.ops [] [
  ⟨(some 12), (.op (.loadN 2 (.t 3))), none⟩,
  ⟨(some 13), (.op (.mv (.t 2))), none⟩,
  ⟨(some 14), (.call (.k (.func (.func 28) #[] #[])) [(.t 12), (.t 13)]), none⟩,
  ⟨(some 11), (.op (.mv (.t 14))), none⟩,
  ⟨(some 15), (.op (.extract (.t 11) 0)), none⟩,
  ⟨(some 16), (.op (.extract (.t 11) 1)), none⟩,
  ⟨(some 7), (.op (.mv (.t 15))), none⟩,
  ⟨(some 8), (.op (.mv (.t 16))), none⟩])
  (.seq
  (.seq
  (.ops [] [
  ⟨(some 17), (.op (.mv (.t 8))), none⟩,
  ⟨(some 18), (.op (.bin .neq (.t 17) (.k (.int .i64 0)))), none⟩])
  (.cond (.t 18)
  (.seq
  (.ops [] [
  ⟨(some 19), (.op (.mv (.t 8))), none⟩,
  ⟨(some 6), (.op (.mv (.t 19))), none⟩])
  .ret)
  .skip))
  (.seq
  (.ops [
  ⟨(some 21), (.op (.mv (.t 1))), none⟩,
  ⟨(some 22), (.call (.k (.func (.func 17) #[] #[])) [(.t 21)]), none⟩,
  ⟨(some 23), (.op (.fieldAddr 0 (.t 3))), none⟩,
  ⟨(some 24), (.op (.load1 (.t 23))), none⟩,
  ⟨(some 25), (.op (.lenSl (.t 24))), none⟩,
  ⟨(some 26), (.call (.k (.func (.func 23) #[] #[])) [(.t 22), (.t 25)]), none⟩,
  ⟨(some 20), (.op (.mv (.t 26))), none⟩,
  ⟨(some 27), (.op (.extract (.t 20) 0)), none⟩,
  ⟨(some 28), (.op (.extract (.t 20) 1)), none⟩,
  ⟨(some 9), (.op (.mv (.t 27))), none⟩] [
  ⟨(some 10), (.op (.mv (.t 28))), none⟩])
  (.seq
  (.seq
  (.ops [] [
  ⟨(some 29), (.op (.mv (.t 7))), none⟩,
  ⟨(some 30), (.op (.b2s (.t 29))), none⟩,
  ⟨(some 31), (.op (.mv (.t 9))), none⟩,
  ⟨(some 32), (.op (.b2s (.t 31))), none⟩,
  ⟨(some 33), (.op (.bin .neq (.t 30) (.t 32))), none⟩])
  (.cond (.t 33)
  (.seq
  (.ops [] [
  ⟨(some 6), (.op (.mv (.k (.int .i64 6)))), none⟩])
  .ret)
  .skip))
  (.seq
  (.ops [] [
  ⟨(some 6), (.op (.mv (.k (.int .i64 0)))), none⟩])
  .ret)))))),
  [(.t 6)]⟩
theorem r_lanyardref09_Verify : resolveFn Try.prog 30 = some c_lanyardref09_Verify := by kernel_rfl

def c_lanyardlaw09_awake : RFn :=
  ⟨45,
  (.seq
  (.ops [] [
  ⟨(some 0), (.op (.mv (.k (.bool false)))), none⟩])
  (.seq
  (.ops [] [
  ⟨(some 4), (.op (.build [(.int .u8 0), (.int .u8 0), (.int .u8 0), (.int .u8 0), (.int .u8 0), (.int .u8 0), (.int .u8 0), (.int .u8 0), (.int .u8 0), (.int .u8 0), (.int .u8 0), (.int .u8 0), (.int .u8 0), (.int .u8 0), (.int .u8 0), (.int .u8 0), (.int .u8 0), (.int .u8 0), (.int .u8 0), (.int .u8 0), (.int .u8 0), (.int .u8 0), (.int .u8 0), (.int .u8 0), (.int .u8 0), (.int .u8 0), (.int .u8 0), (.int .u8 0), (.int .u8 0), (.int .u8 0), (.int .u8 0), (.int .u8 0)] [(0, (1, (.k (.int .u8 7))))])), none⟩,
  ⟨(some 5), (.call (.k (.func (.func 22) #[] #[])) [(.t 4), (.k (.int .i64 62))]), none⟩,
  ⟨(some 3), (.op (.mv (.t 5))), none⟩,
  ⟨(some 6), (.op (.extract (.t 3) 0)), none⟩,
  ⟨(some 7), (.op (.extract (.t 3) 1)), none⟩,
  ⟨(some 1), (.op (.mv (.t 6))), none⟩,
  ⟨(some 2), (.op (.mv (.t 7))), none⟩])
  (.seq
  (.ops [] [
  ⟨(some 8), (.op (.mv (.t 2))), none⟩,
  ⟨(some 9), (.op (.bin .eql (.t 8) (.k (.int .i64 0)))), none⟩,
  ⟨(some 10), (.op (.mv (.t 9))), none⟩,
  ⟨(some 11), (.op (.mv (.t 1))), (some (10, true))⟩,
  ⟨(some 12), (.op (.lenSl (.t 11))), (some (10, true))⟩,
  ⟨(some 13), (.op (.bin .eql (.t 12) (.k (.int .i64 62)))), (some (10, true))⟩,
  ⟨(some 14), (.op (.pick (.t 10) (.t 13) (.k (.bool false)))), none⟩,
  ⟨(some 15), (.op (.mv (.t 14))), none⟩,
  ⟨(some 16), (.op (.mv (.t 1))), (some (15, true))⟩,
  ⟨(some 17), (.op (.ixAddr 1 (.t 16) (.k (.int .i64 1)))), (some (15, true))⟩,
  ⟨(some 18), (.op (.load1 (.t 17))), (some (15, true))⟩,
  ⟨(some 19), (.op (.bin .eql (.t 18) (.k (.int .u8 1)))), (some (15, true))⟩,
  ⟨(some 20), (.op (.pick (.t 15) (.t 19) (.k (.bool false)))), none⟩,
  ⟨(some 21), (.op (.mv (.t 20))), none⟩,
  ⟨(some 22), (.op (.mv (.t 1))), (some (21, true))⟩,
  ⟨(some 23), (.op (.ixAddr 1 (.t 22) (.k (.int .i64 9)))), (some (21, true))⟩,
  ⟨(some 24), (.op (.load1 (.t 23))), (some (21, true))⟩,
  ⟨(some 25), (.op (.bin .eql (.t 24) (.k (.int .u8 255)))), (some (21, true))⟩,
  ⟨(some 26), (.op (.pick (.t 21) (.t 25) (.k (.bool false)))), none⟩,
  ⟨(some 27), (.op (.mv (.t 26))), none⟩,
  ⟨(some 28), (.op (.mv (.t 1))), (some (27, true))⟩,
  ⟨(some 29), (.op (.ixAddr 1 (.t 28) (.k (.int .i64 10)))), (some (27, true))⟩,
  ⟨(some 30), (.op (.load1 (.t 29))), (some (27, true))⟩,
  ⟨(some 31), (.op (.bin .eql (.t 30) (.k (.int .u8 0)))), (some (27, true))⟩,
  ⟨(some 32), (.op (.pick (.t 27) (.t 31) (.k (.bool false)))), none⟩,
  ⟨(some 33), (.op (.mv (.t 32))), none⟩,
  ⟨(some 34), (.op (.mv (.t 1))), (some (33, true))⟩,
  ⟨(some 35), (.op (.ixAddr 1 (.t 34) (.k (.int .i64 11)))), (some (33, true))⟩,
  ⟨(some 36), (.op (.load1 (.t 35))), (some (33, true))⟩,
  ⟨(some 37), (.op (.bin .eql (.t 36) (.k (.int .u8 48)))), (some (33, true))⟩,
  ⟨(some 38), (.op (.pick (.t 33) (.t 37) (.k (.bool false)))), none⟩,
  ⟨(some 39), (.op (.mv (.t 38))), none⟩,
  ⟨(some 40), (.op (.mv (.t 1))), (some (39, true))⟩,
  ⟨(some 41), (.op (.ixAddr 1 (.t 40) (.k (.int .i64 30)))), (some (39, true))⟩,
  ⟨(some 42), (.op (.load1 (.t 41))), (some (39, true))⟩,
  ⟨(some 43), (.op (.bin .eql (.t 42) (.k (.int .u8 7)))), (some (39, true))⟩,
  ⟨(some 44), (.op (.pick (.t 39) (.t 43) (.k (.bool false)))), none⟩,
  ⟨(some 0), (.op (.mv (.t 44))), none⟩])
  .ret))),
  [(.t 0)]⟩
theorem r_lanyardlaw09_awake : resolveFn Try.prog 20 = some c_lanyardlaw09_awake := by kernel_rfl

def c_lanyardlaw09_RsaFrames : RFn :=
  ⟨51,
  (.seq
  (.ops [] [
  ⟨(some 3), (.op (.box (.t 0))), none⟩,
  ⟨(some 5), (.op (.box (.t 2))), none⟩,
  ⟨(some 6), (.op (.mv (.k (.bool false)))), none⟩])
  (.seq
  (.ops [] [
  ⟨(some 13), (.call (.k (.func (.func 20) #[] #[])) []), none⟩,
  ⟨(some 7), (.op (.mv (.t 13))), none⟩])
  (.seq
  (.ops [] [
  ⟨(some 14), (.op (.loadN 2 (.t 5))), none⟩,
  ⟨(some 15), (.call (.k (.func (.func 21) #[] #[])) [(.t 14)]), none⟩,
  ⟨(some 8), (.op (.mv (.t 15))), none⟩])
  (.seq
  (.seq
  (.ops [] [
  ⟨(some 16), (.op (.mv (.t 8))), none⟩,
  ⟨(some 17), (.op (.un .not (.t 16))), none⟩])
  (.cond (.t 17)
  (.seq
  (.ops [] [
  ⟨(some 18), (.op (.mv (.t 7))), none⟩,
  ⟨(some 6), (.op (.mv (.t 18))), none⟩])
  .ret)
  .skip))
  (.seq
  (.ops [] [
  ⟨(some 20), (.op (.loadN 32 (.t 3))), none⟩,
  ⟨(some 21), (.op (.mv (.t 1))), none⟩,
  ⟨(some 22), (.call (.k (.func (.func 22) #[] #[])) [(.t 20), (.t 21)]), none⟩,
  ⟨(some 19), (.op (.mv (.t 22))), none⟩,
  ⟨(some 23), (.op (.extract (.t 19) 0)), none⟩,
  ⟨(some 24), (.op (.extract (.t 19) 1)), none⟩,
  ⟨(some 9), (.op (.mv (.t 23))), none⟩,
  ⟨(some 10), (.op (.mv (.t 24))), none⟩])
  (.seq
  (.ops [] [
  ⟨(some 26), (.op (.loadN 32 (.t 3))), none⟩,
  ⟨(some 27), (.op (.mv (.t 1))), none⟩,
  ⟨(some 28), (.call (.k (.func (.func 23) #[] #[])) [(.t 26), (.t 27)]), none⟩,
  ⟨(some 25), (.op (.mv (.t 28))), none⟩,
  ⟨(some 29), (.op (.extract (.t 25) 0)), none⟩,
  ⟨(some 30), (.op (.extract (.t 25) 1)), none⟩,
  ⟨(some 11), (.op (.mv (.t 29))), none⟩,
  ⟨(some 12), (.op (.mv (.t 30))), none⟩])
  (.seq
  (.ops [
  ⟨(some 31), (.op (.mv (.t 7))), none⟩,
  ⟨(some 32), (.op (.mv (.t 31))), none⟩,
  ⟨(some 33), (.op (.mv (.t 9))), (some (32, true))⟩,
  ⟨(some 34), (.op (.b2s (.t 33))), (some (32, true))⟩,
  ⟨(some 35), (.op (.mv (.t 11))), (some (32, true))⟩,
  ⟨(some 36), (.op (.b2s (.t 35))), (some (32, true))⟩,
  ⟨(some 37), (.op (.bin .eql (.t 34) (.t 36))), (some (32, true))⟩,
  ⟨(some 38), (.op (.pick (.t 32) (.t 37) (.k (.bool false)))), none⟩,
  ⟨(some 39), (.op (.mv (.t 38))), none⟩,
  ⟨(some 40), (.op (.mv (.t 10))), (some (39, true))⟩,
  ⟨(some 41), (.op (.mv (.t 12))), (some (39, true))⟩,
  ⟨(some 42), (.op (.bin .eql (.t 40) (.t 41))), (some (39, true))⟩,
  ⟨(some 43), (.op (.pick (.t 39) (.t 42) (.k (.bool false)))), none⟩,
  ⟨(some 44), (.op (.mv (.t 43))), none⟩,
  ⟨(some 45), (.op (.loadN 2 (.t 5))), (some (44, true))⟩,
  ⟨(some 46), (.call (.k (.func (.func 24) #[] #[])) [(.t 45)]), (some (44, true))⟩,
  ⟨(some 47), (.op (.loadN 2 (.t 5))), (some (44, true))⟩] [
  ⟨(some 48), (.call (.k (.func (.func 25) #[] #[])) [(.t 47)]), (some (44, true))⟩,
  ⟨(some 49), (.op (.eqB false (.t 46) (.t 48))), (some (44, true))⟩,
  ⟨(some 50), (.op (.pick (.t 44) (.t 49) (.k (.bool false)))), none⟩,
  ⟨(some 6), (.op (.mv (.t 50))), none⟩])
  .ret))))))),
  [(.t 6)]⟩
theorem r_lanyardlaw09_RsaFrames : resolveFn Try.prog 6 = some c_lanyardlaw09_RsaFrames := by kernel_rfl

def c_lanyardlaw09_RsaVerifies : RFn :=
  ⟨65,
  (.seq
  (.ops [] [
  ⟨(some 3), (.op (.box (.t 0))), none⟩,
  ⟨(some 6), (.op (.mv (.k (.bool false)))), none⟩])
  (.seq
  (.ops [] [
  ⟨(some 13), (.call (.k (.func (.func 20) #[] #[])) []), none⟩,
  ⟨(some 7), (.op (.mv (.t 13))), none⟩])
  (.seq
  (.ops [] [
  ⟨(some 14), (.op (.loadN 2 (.t 3))), none⟩,
  ⟨(some 15), (.call (.k (.func (.func 21) #[] #[])) [(.t 14)]), none⟩,
  ⟨(some 8), (.op (.mv (.t 15))), none⟩])
  (.seq
  (.seq
  (.ops [] [
  ⟨(some 16), (.op (.mv (.t 8))), none⟩,
  ⟨(some 17), (.op (.un .not (.t 16))), none⟩,
  ⟨(some 18), (.op (.mv (.t 17))), none⟩,
  ⟨(some 19), (.op (.mv (.t 1))), (some (18, false))⟩,
  ⟨(some 20), (.op (.lenSl (.t 19))), (some (18, false))⟩,
  ⟨(some 21), (.op (.bin .gtr (.t 20) (.k (.int .i64 1000)))), (some (18, false))⟩,
  ⟨(some 22), (.op (.pick (.t 18) (.k (.bool true)) (.t 21))), none⟩,
  ⟨(some 23), (.op (.mv (.t 22))), none⟩,
  ⟨(some 24), (.op (.mv (.t 2))), (some (23, false))⟩,
  ⟨(some 25), (.op (.lenSl (.t 24))), (some (23, false))⟩,
  ⟨(some 26), (.op (.bin .gtr (.t 25) (.k (.int .i64 300)))), (some (23, false))⟩,
  ⟨(some 27), (.op (.pick (.t 23) (.k (.bool true)) (.t 26))), none⟩])
  (.cond (.t 27)
  (.seq
  (.ops [] [
  ⟨(some 28), (.op (.mv (.t 7))), none⟩,
  ⟨(some 6), (.op (.mv (.t 28))), none⟩])
  .ret)
  .skip))
  (.seq
  (.ops [] [
  ⟨(some 30), (.op (.loadN 2 (.t 3))), none⟩,
  ⟨(some 31), (.op (.mv (.t 2))), none⟩,
  ⟨(some 32), (.call (.k (.func (.func 27) #[] #[])) [(.t 30), (.t 31)]), none⟩,
  ⟨(some 29), (.op (.mv (.t 32))), none⟩,
  ⟨(some 33), (.op (.extract (.t 29) 0)), none⟩,
  ⟨(some 34), (.op (.extract (.t 29) 1)), none⟩,
  ⟨(some 9), (.op (.mv (.t 33))), none⟩,
  ⟨(some 10), (.op (.mv (.t 34))), none⟩])
  (.seq
  (.ops [] [
  ⟨(some 36), (.op (.loadN 2 (.t 3))), none⟩,
  ⟨(some 37), (.op (.mv (.t 2))), none⟩,
  ⟨(some 38), (.call (.k (.func (.func 28) #[] #[])) [(.t 36), (.t 37)]), none⟩,
  ⟨(some 35), (.op (.mv (.t 38))), none⟩,
  ⟨(some 39), (.op (.extract (.t 35) 0)), none⟩,
  ⟨(some 40), (.op (.extract (.t 35) 1)), none⟩,
  ⟨(some 11), (.op (.mv (.t 39))), none⟩,
  ⟨(some 12), (.op (.mv (.t 40))), none⟩])
  (.seq
  (.ops [
  ⟨(some 41), (.op (.mv (.t 7))), none⟩,
  ⟨(some 42), (.op (.mv (.t 41))), none⟩,
  ⟨(some 43), (.op (.mv (.t 9))), (some (42, true))⟩,
  ⟨(some 44), (.op (.b2s (.t 43))), (some (42, true))⟩,
  ⟨(some 45), (.op (.mv (.t 11))), (some (42, true))⟩,
  ⟨(some 46), (.op (.b2s (.t 45))), (some (42, true))⟩,
  ⟨(some 47), (.op (.bin .eql (.t 44) (.t 46))), (some (42, true))⟩,
  ⟨(some 48), (.op (.pick (.t 42) (.t 47) (.k (.bool false)))), none⟩,
  ⟨(some 49), (.op (.mv (.t 48))), none⟩,
  ⟨(some 50), (.op (.mv (.t 10))), (some (49, true))⟩,
  ⟨(some 51), (.op (.mv (.t 12))), (some (49, true))⟩,
  ⟨(some 52), (.op (.bin .eql (.t 50) (.t 51))), (some (49, true))⟩,
  ⟨(some 53), (.op (.pick (.t 49) (.t 52) (.k (.bool false)))), none⟩,
  ⟨(some 54), (.op (.mv (.t 53))), none⟩,
  ⟨(some 55), (.op (.loadN 2 (.t 3))), (some (54, true))⟩,
  ⟨(some 56), (.op (.mv (.t 1))), (some (54, true))⟩,
  ⟨(some 57), (.op (.mv (.t 2))), (some (54, true))⟩,
  ⟨(some 58), (.call (.k (.func (.func 29) #[] #[])) [(.t 55), (.t 56), (.t 57)]), (some (54, true))⟩,
  ⟨(some 59), (.op (.loadN 2 (.t 3))), (some (54, true))⟩,
  ⟨(some 60), (.op (.mv (.t 1))), (some (54, true))⟩,
  ⟨(some 61), (.op (.mv (.t 2))), (some (54, true))⟩] [
  ⟨(some 62), (.call (.k (.func (.func 30) #[] #[])) [(.t 59), (.t 60), (.t 61)]), (some (54, true))⟩,
  ⟨(some 63), (.op (.bin .eql (.t 58) (.t 62))), (some (54, true))⟩,
  ⟨(some 64), (.op (.pick (.t 54) (.t 63) (.k (.bool false)))), none⟩,
  ⟨(some 6), (.op (.mv (.t 64))), none⟩])
  .ret))))))),
  [(.t 6)]⟩
theorem r_lanyardlaw09_RsaVerifies : resolveFn Try.prog 8 = some c_lanyardlaw09_RsaVerifies := by kernel_rfl

def c_lanyardlaw09_RsaSizes : RFn :=
  ⟨104,
  (.seq
  (.ops [] [
  ⟨(some 3), (.op (.box (.t 0))), none⟩,
  ⟨(some 6), (.op (.mv (.k (.bool false)))), none⟩])
  (.seq
  (.ops [] [
  ⟨(some 12), (.call (.k (.func (.func 20) #[] #[])) []), none⟩,
  ⟨(some 7), (.op (.mv (.t 12))), none⟩])
  (.seq
  (.ops [] [
  ⟨(some 13), (.op (.loadN 2 (.t 3))), none⟩,
  ⟨(some 14), (.call (.k (.func (.func 21) #[] #[])) [(.t 13)]), none⟩,
  ⟨(some 8), (.op (.mv (.t 14))), none⟩])
  (.seq
  (.seq
  (.ops [] [
  ⟨(some 15), (.op (.mv (.t 8))), none⟩,
  ⟨(some 16), (.op (.un .not (.t 15))), none⟩,
  ⟨(some 17), (.op (.mv (.t 16))), none⟩,
  ⟨(some 18), (.op (.mv (.t 1))), (some (17, false))⟩,
  ⟨(some 19), (.op (.lenSl (.t 18))), (some (17, false))⟩,
  ⟨(some 20), (.op (.bin .gtr (.t 19) (.k (.int .i64 500)))), (some (17, false))⟩,
  ⟨(some 21), (.op (.pick (.t 17) (.k (.bool true)) (.t 20))), none⟩,
  ⟨(some 22), (.op (.mv (.t 21))), none⟩,
  ⟨(some 23), (.op (.mv (.t 2))), (some (22, false))⟩,
  ⟨(some 24), (.op (.lenSl (.t 23))), (some (22, false))⟩,
  ⟨(some 25), (.op (.bin .gtr (.t 24) (.k (.int .i64 300)))), (some (22, false))⟩,
  ⟨(some 26), (.op (.pick (.t 22) (.k (.bool true)) (.t 25))), none⟩])
  (.cond (.t 26)
  (.seq
  (.ops [] [
  ⟨(some 27), (.op (.mv (.t 7))), none⟩,
  ⟨(some 6), (.op (.mv (.t 27))), none⟩])
  .ret)
  .skip))
  (.seq
  (.ops [] [
  ⟨(some 28), (.op (.loadN 2 (.t 3))), none⟩,
  ⟨(some 29), (.op (.mv (.t 1))), none⟩,
  ⟨(some 30), (.op (.mv (.t 2))), none⟩,
  ⟨(some 31), (.call (.k (.func (.func 29) #[] #[])) [(.t 28), (.t 29), (.t 30)]), none⟩,
  ⟨(some 9), (.op (.mv (.t 31))), none⟩])
  (.seq
  (.ops [] [
  ⟨(some 33), (.op (.loadN 2 (.t 3))), none⟩,
  ⟨(some 34), (.op (.mv (.t 2))), none⟩,
  ⟨(some 35), (.call (.k (.func (.func 27) #[] #[])) [(.t 33), (.t 34)]), none⟩,
  ⟨(some 32), (.op (.mv (.t 35))), none⟩,
  ⟨(some 36), (.op (.extract (.t 32) 0)), none⟩,
  ⟨(some 37), (.op (.extract (.t 32) 1)), none⟩,
  ⟨(some 10), (.op (.mv (.t 36))), none⟩,
  ⟨(some 11), (.op (.mv (.t 37))), none⟩])
  (.seq
  (.seq
  (.ops [] [
  ⟨(some 38), (.op (.loadN 2 (.t 3))), none⟩,
  ⟨(some 39), (.call (.k (.func (.func 24) #[] #[])) [(.t 38)]), none⟩,
  ⟨(some 40), (.op (.un .not (.t 39))), none⟩])
  (.cond (.t 40)
  (.seq
  (.ops [] [
  ⟨(some 41), (.op (.mv (.t 7))), none⟩,
  ⟨(some 42), (.op (.mv (.t 41))), none⟩,
  ⟨(some 43), (.op (.mv (.t 9))), (some (42, true))⟩,
  ⟨(some 44), (.op (.bin .eql (.t 43) (.k (.int .i64 1)))), (some (42, true))⟩,
  ⟨(some 45), (.op (.pick (.t 42) (.t 44) (.k (.bool false)))), none⟩,
  ⟨(some 46), (.op (.mv (.t 45))), none⟩,
  ⟨(some 47), (.op (.mv (.t 11))), (some (46, true))⟩,
  ⟨(some 48), (.op (.bin .eql (.t 47) (.k (.int .i64 1)))), (some (46, true))⟩,
  ⟨(some 49), (.op (.pick (.t 46) (.t 48) (.k (.bool false)))), none⟩,
  ⟨(some 6), (.op (.mv (.t 49))), none⟩])
  .ret)
  .skip))
  (.seq
  (.seq
  (.ops [
  ⟨(some 50), (.op (.mv (.t 2))), none⟩,
  ⟨(some 51), (.op (.lenSl (.t 50))), none⟩,
  ⟨(some 52), (.op (.fieldAddr 0 (.t 3))), none⟩,
  ⟨(some 53), (.op (.load1 (.t 52))), none⟩,
  ⟨(some 54), (.op (.lenSl (.t 53))), none⟩,
  ⟨(some 55), (.op (.bin .neq (.t 51) (.t 54))), none⟩,
  ⟨(some 56), (.op (.mv (.t 55))), none⟩,
  ⟨(some 57), (.op (.mv (.t 2))), (some (56, false))⟩,
  ⟨(some 58), (.call (.k (.func (.func 34) #[] #[])) [(.t 57)]), (some (56, false))⟩,
  ⟨(some 59), (.op (.fieldAddr 0 (.t 3))), (some (56, false))⟩,
  ⟨(some 60), (.op (.load1 (.t 59))), (some (56, false))⟩] [
  ⟨(some 61), (.call (.k (.func (.func 34) #[] #[])) [(.t 60)]), (some (56, false))⟩,
  ⟨(some 62), (.call (.k (.func (.func 33) #[] #[])) [(.t 58), (.t 61)]), (some (56, false))⟩,
  ⟨(some 63), (.op (.bin .geq (.t 62) (.k (.int .i64 0)))), (some (56, false))⟩,
  ⟨(some 64), (.op (.pick (.t 56) (.k (.bool true)) (.t 63))), none⟩])
  (.cond (.t 64)
  (.seq
  (.ops [] [
  ⟨(some 65), (.op (.mv (.t 7))), none⟩,
  ⟨(some 66), (.op (.mv (.t 65))), none⟩,
  ⟨(some 67), (.op (.mv (.t 9))), (some (66, true))⟩,
  ⟨(some 68), (.op (.bin .eql (.t 67) (.k (.int .i64 6)))), (some (66, true))⟩,
  ⟨(some 69), (.op (.pick (.t 66) (.t 68) (.k (.bool false)))), none⟩,
  ⟨(some 70), (.op (.mv (.t 69))), none⟩,
  ⟨(some 71), (.op (.mv (.t 11))), (some (70, true))⟩,
  ⟨(some 72), (.op (.bin .eql (.t 71) (.k (.int .i64 6)))), (some (70, true))⟩,
  ⟨(some 73), (.op (.pick (.t 70) (.t 72) (.k (.bool false)))), none⟩,
  ⟨(some 6), (.op (.mv (.t 73))), none⟩])
  .ret)
  .skip))
  (.seq
  (.ops [
  ⟨(some 74), (.op (.mv (.t 7))), none⟩,
  ⟨(some 75), (.op (.mv (.t 74))), none⟩,
  ⟨(some 76), (.op (.mv (.t 11))), (some (75, true))⟩,
  ⟨(some 77), (.op (.bin .eql (.t 76) (.k (.int .i64 0)))), (some (75, true))⟩,
  ⟨(some 78), (.op (.pick (.t 75) (.t 77) (.k (.bool false)))), none⟩,
  ⟨(some 79), (.op (.mv (.t 78))), none⟩,
  ⟨(some 80), (.op (.mv (.t 10))), (some (79, true))⟩,
  ⟨(some 81), (.op (.lenSl (.t 80))), (some (79, true))⟩,
  ⟨(some 82), (.op (.fieldAddr 0 (.t 3))), (some (79, true))⟩,
  ⟨(some 83), (.op (.load1 (.t 82))), (some (79, true))⟩,
  ⟨(some 84), (.op (.lenSl (.t 83))), (some (79, true))⟩,
  ⟨(some 85), (.op (.bin .eql (.t 81) (.t 84))), (some (79, true))⟩,
  ⟨(some 86), (.op (.pick (.t 79) (.t 85) (.k (.bool false)))), none⟩,
  ⟨(some 87), (.op (.mv (.t 86))), none⟩,
  ⟨(some 88), (.op (.mv (.t 10))), (some (87, true))⟩,
  ⟨(some 89), (.call (.k (.func (.func 34) #[] #[])) [(.t 88)]), (some (87, true))⟩,
  ⟨(some 90), (.op (.fieldAddr 0 (.t 3))), (some (87, true))⟩,
  ⟨(some 91), (.op (.load1 (.t 90))), (some (87, true))⟩] [
  ⟨(some 92), (.call (.k (.func (.func 34) #[] #[])) [(.t 91)]), (some (87, true))⟩,
  ⟨(some 93), (.call (.k (.func (.func 33) #[] #[])) [(.t 89), (.t 92)]), (some (87, true))⟩,
  ⟨(some 94), (.op (.bin .lss (.t 93) (.k (.int .i64 0)))), (some (87, true))⟩,
  ⟨(some 95), (.op (.pick (.t 87) (.t 94) (.k (.bool false)))), none⟩,
  ⟨(some 96), (.op (.mv (.t 95))), none⟩,
  ⟨(some 97), (.op (.mv (.t 9))), (some (96, true))⟩,
  ⟨(some 98), (.op (.bin .eql (.t 97) (.k (.int .i64 0)))), (some (96, true))⟩,
  ⟨(some 99), (.op (.mv (.t 98))), (some (96, true))⟩,
  ⟨(some 100), (.op (.mv (.t 9))), (some (99, false))⟩,
  ⟨(some 101), (.op (.bin .eql (.t 100) (.k (.int .i64 6)))), (some (99, false))⟩,
  ⟨(some 102), (.op (.pick (.t 99) (.k (.bool true)) (.t 101))), (some (96, true))⟩,
  ⟨(some 103), (.op (.pick (.t 96) (.t 102) (.k (.bool false)))), none⟩,
  ⟨(some 6), (.op (.mv (.t 103))), none⟩])
  .ret))))))))),
  [(.t 6)]⟩
theorem r_lanyardlaw09_RsaSizes : resolveFn Try.prog 10 = some c_lanyardlaw09_RsaSizes := by kernel_rfl

end Go.Ga
