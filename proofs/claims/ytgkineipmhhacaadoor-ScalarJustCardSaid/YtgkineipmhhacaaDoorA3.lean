/- Words and contracts of functions for the statement's proof. No condition. -/
import Derived.Test.YtgkineipmhhacaaDoorA2
import Derived.WalkKit
import Derived.ProofKit
import Derived.DataShut
import Derived.Defers
import Derived.Recover
import Derived.ChangeArms
import Derived.OpenShut
import Derived.DataReads
set_option linter.all false

namespace Go.Ga
open Go Go.Proofs
set_option linter.unusedSimpArgs false
set_option linter.unusedVariables false

theorem shr8 (k n : Nat) (h : k ≤ 8) : shrV .u64 (n : Int) (8 * (k : Int)) = ((n / 256 ^ k : Nat) : Int) := by
  have e : (8 * (k : Int)) = ((8 * k : Nat) : Int) := by omega
  rw [e, shr_nat n (8 * k) (by show 8 * k ≤ 64; omega), Nat.pow_mul]

theorem ct_Bytes {nx : Nat} {gt : Nat → Option Blk} {n : Nat} {many : Int} (hn : n < 18446744073709551616) (hm : -9223372036854775808 ≤ many ∧ many ≤ 9223372036854775807) :
    Ct Tryd.prog 69 [.int .u64 (n : Nat), .int .i64 many] nx gt fun v nx' gt' => ByV nx' gt' n many v := by
  refine Ct.of hmx r_octet_Bytes (by simp [c_octet_Bytes]) fun b hb => ?_
  have rest : ∀ k : Nat, many = k → k ≤ 64 → byOk n many = true → ∀ f : Regs, f 0 = .int .u64 (n : Nat) → f 1 = .int .i64 (k : Nat) →
      RC.vc Tryd.prog (match c_octet_Bytes.code with | .seq _ (.seq _ c) => c | _ => .skip) f ⟨nx, b, gt⟩ (D Tryd.prog (.top (endK c_octet_Bytes.results b nx gt fun v nx' gt' => ByV nx' gt' n many v))) := by
    rintro k rfl hk hok f h0 h1
    have g5 : (if (8 : Int) < (k : Int) then 8 else (k : Int)) = ((min k 8 : Nat) : Int) := by split <;> omega
    simp only [c_octet_Bytes, ↓gaW, ↓gaC, ↓gaN, gaP, Nat.reduceEqDiff, Nat.reduceLeDiff, Nat.reduceAdd, Nat.reduceSub, Nat.reduceMul, Int.reduceLT, Int.reduceLE, Int.reduceEq, Int.reduceToNat, Int.reduceAdd, Int.reduceSub, Int.reduceMul, reduceCtorEq, ↓reduceIte, h0, h1, g5]
    repeat refine And.intro (by first | omega | simp) ?_
    refine loop_of (fun j f m => ∃ t ce g, j = k - t ∧ t ≤ min k 8 ∧ f 6 = .slice (some ⟨nx, 0, none⟩) k k ∧ f 0 = .int .u64 (n : Nat) ∧ f 1 = .int .i64 (k : Nat) ∧ f 28 = .int .i64 (min k 8 : Nat) ∧ f 29 = .int .i64 (t : Nat) ∧ m = ⟨nx + 1, b, g⟩ ∧ (∀ i, i < nx → g i = gt i) ∧ g nx = some (.cells ce false) ∧ ce.length = k ∧
        ∀ i, i < k → ce.getD i undef = if k - 1 - i < t then u8V (UInt8.ofNat (n / 256 ^ (k - 1 - i))) else .int .u8 0) k
      ⟨0, (List.range k).map fun i => [Value.int .u8 0].getD (i % 1) undef, _, by omega, by omega, rfl, h0, h1, rfl, rfl, rfl, fun i hi => by simp only [upd_e]; rw [if_neg (by omega)], by simp only [upd_e, if_true], by simp, fun i hi => by rw [getD_range _ _ _ hi, zero1b, if_neg (by omega)]⟩ ?_
    rintro j f m ⟨t, ce, g, rfl, ht, h6, h0, h1, h28, h29, rfl, hg, hgn, hcl, hce⟩
    simp only [↓gaW, ↓gaC, ↓gaN, gaP, Nat.reduceEqDiff, Nat.reduceLeDiff, Nat.reduceAdd, Nat.reduceSub, Nat.reduceMul, Int.reduceLT, Int.reduceLE, Int.reduceEq, Int.reduceToNat, Int.reduceAdd, Int.reduceSub, Int.reduceMul, reduceCtorEq, ↓reduceIte, h28, h29]
    refine condK_dec (fun hlt => ?_) fun hge => ?_
    · have htk : t < min k 8 := by omega
      have g4 : ((k : Int) - 1 - (t : Int)).toNat = k - 1 - t := by omega
      simp only [↓gaW, ↓gaC, ↓gaN, gaP, Nat.reduceEqDiff, Nat.reduceLeDiff, Nat.reduceAdd, Nat.reduceSub, Nat.reduceMul, Int.reduceLT, Int.reduceLE, Int.reduceEq, Int.reduceToNat, Int.reduceAdd, Int.reduceSub, Int.reduceMul, reduceCtorEq, ↓reduceIte, h6, h0, h1, h28, h29, g4, hgn, i64_w ((k : Int) - 1) (by omega), i64_w ((k : Int) - 1 - (t : Int)) (by omega), i64_w (8 * (t : Int)) (by omega), i64_w ((t : Int) + 1) (by omega), shr8 t n (by omega), u8_of]
      repeat refine And.intro (by first | omega | exact all1 rfl) ?_
      refine ⟨k - t - 1, by omega, t + 1, splice ce (k - 1 - t) [.int .u8 ((UInt8.ofNat (n / 256 ^ t)).toNat : Nat)], _, by omega, by omega, h6, h0, h1, h28, rfl, rfl, fun i hi => ?_, ?_, ?_, fun i hi => ?_⟩
      · simp only [upd_e]; rw [if_neg (by omega)]; exact hg i hi
      · simp only [upd_e, if_true]
      · rw [splice1_len (by omega)]; exact hcl
      · rw [splice1 (by omega)]
        by_cases hi' : i = k - 1 - t
        · subst hi'
          rw [if_pos (by omega), if_pos (by omega)]
          have e : k - 1 - (k - 1 - t) = t := by omega
          rw [e]
          rfl
        · rw [if_neg hi', hce i hi]
          by_cases h' : k - 1 - i < t
          · rw [if_pos h', if_pos (by omega)]
          · rw [if_neg h', if_neg (by omega)]
    · have : t = min k 8 := by omega
      simp only [↓gaW, ↓gaC, ↓gaN, gaP, Nat.reduceEqDiff, Nat.reduceLeDiff, Nat.reduceAdd, Nat.reduceSub, Nat.reduceMul, Int.reduceLT, Int.reduceLE, Int.reduceEq, Int.reduceToNat, Int.reduceAdd, Int.reduceSub, Int.reduceMul, reduceCtorEq, ↓reduceIte, gaE, h6]
      refine ⟨by omega, fun i hi => hg i hi, _, by rw [hok], ?_⟩
      rw [hok, if_pos rfl, Int.toNat_natCast]
      refine BySl.mk (.inl rfl) (by omega) hgn (Nat.le_refl _) (by omega) (be_length _ _) fun i hi => ?_
      rw [hce i hi, be_getD _ _ _ hi]
      by_cases h' : k - 1 - i < t
      · rw [if_pos h']
      · rw [if_neg h']
        have hp : 256 ^ 8 ≤ 256 ^ (k - 1 - i) := Nat.pow_le_pow_right (by decide) (by omega)
        have : n / 256 ^ (k - 1 - i) = 0 := Nat.div_eq_of_lt (by omega)
        rw [this]; rfl
  by_cases h1 : many < 0
  · have : byOk n many = false := by simp [byOk]; omega
    simp only [c_octet_Bytes, ↓gaW, ↓gaC, ↓gaN, gaP, Nat.reduceEqDiff, Nat.reduceLeDiff, Nat.reduceAdd, Nat.reduceSub, Nat.reduceMul, Int.reduceLT, Int.reduceLE, Int.reduceEq, Int.reduceToNat, Int.reduceAdd, Int.reduceSub, Int.reduceMul, reduceCtorEq, ↓reduceIte, gaE, h1, decide_true]
    exact ⟨by omega, fun _ _ => trivial, _, by rw [this], by rw [this]; exact .nil⟩
  by_cases h2 : 64 < many
  · have : byOk n many = false := by simp [byOk]; omega
    simp only [c_octet_Bytes, ↓gaW, ↓gaC, ↓gaN, gaP, Nat.reduceEqDiff, Nat.reduceLeDiff, Nat.reduceAdd, Nat.reduceSub, Nat.reduceMul, Int.reduceLT, Int.reduceLE, Int.reduceEq, Int.reduceToNat, Int.reduceAdd, Int.reduceSub, Int.reduceMul, reduceCtorEq, ↓reduceIte, gaE, h1, h2, decide_true, decide_false]
    exact ⟨by omega, fun _ _ => trivial, _, by rw [this], by rw [this]; exact .nil⟩
  obtain ⟨k, rfl⟩ : ∃ k : Nat, many = k := ⟨many.toNat, by omega⟩
  have hpos : 0 < 256 ^ k := Nat.pow_pos (by decide)
  by_cases h3 : (k : Int) < 8
  · by_cases h4 : n / 256 ^ k = 0
    · have hok : byOk n (k : Int) = true := by
        have := (Nat.div_eq_zero_iff_lt hpos).1 h4
        simp [byOk]; omega
      simp only [c_octet_Bytes, ↓gaW, ↓gaN, gaP, Nat.reduceEqDiff, Nat.reduceLeDiff, Nat.reduceAdd, Nat.reduceSub, Nat.reduceMul, Int.reduceLT, Int.reduceLE, Int.reduceEq, Int.reduceToNat, Int.reduceAdd, Int.reduceSub, Int.reduceMul, reduceCtorEq, ↓reduceIte, h1, h2, h3, decide_true, decide_false, i64_w (8 * (k : Int)) (by omega), shr8 k n (by omega), h4]
      repeat refine And.intro (by first | omega | simp) ?_
      refine condK_of (fun h => by simp at h) fun _ => ?_
      rw [vc_skip, D_thn_n]
      refine rest k rfl (by omega) hok _ ?_ ?_ <;> rfl
    · have hok : byOk n (k : Int) = false := by
        have : 0 < n / 256 ^ k := Nat.pos_of_ne_zero h4
        have := (Nat.div_pos_iff.1 this).2
        simp [byOk]; omega
      have h4' : ((n / 256 ^ k : Nat) : Int) ≠ 0 := by omega
      simp only [c_octet_Bytes, ↓gaW, ↓gaC, ↓gaN, gaP, Nat.reduceEqDiff, Nat.reduceLeDiff, Nat.reduceAdd, Nat.reduceSub, Nat.reduceMul, Int.reduceLT, Int.reduceLE, Int.reduceEq, Int.reduceToNat, Int.reduceAdd, Int.reduceSub, Int.reduceMul, reduceCtorEq, ↓reduceIte, gaE, h1, h2, h3, decide_true, decide_false, i64_w (8 * (k : Int)) (by omega), shr8 k n (by omega), h4']
      repeat refine And.intro (by first | omega | simp) ?_
      exact ⟨_, by rw [hok], by rw [hok]; exact .nil⟩
  · have hp : 256 ^ 8 ≤ 256 ^ k := Nat.pow_le_pow_right (by decide) (by omega)
    have hok : byOk n (k : Int) = true := by simp [byOk]; omega
    simp only [c_octet_Bytes, ↓gaW, ↓gaN, gaP, Nat.reduceEqDiff, Nat.reduceLeDiff, Nat.reduceAdd, Nat.reduceSub, Nat.reduceMul, Int.reduceLT, Int.reduceLE, Int.reduceEq, Int.reduceToNat, Int.reduceAdd, Int.reduceSub, Int.reduceMul, reduceCtorEq, ↓reduceIte, h1, h2, h3, decide_true, decide_false]
    refine condK_of (fun h => by simp at h) fun _ => ?_
    rw [vc_skip, D_thn_n]
    refine rest k rfl (by omega) hok _ ?_ ?_ <;> rfl
end Go.Ga

namespace Go.Ga
open Go Go.Proofs
set_option linter.unusedSimpArgs false
set_option linter.unusedVariables false

def isLeast (n k : Nat) : Prop := 1 ≤ k ∧ k ≤ 8 ∧ n < 256 ^ k ∧ (k = 1 ∨ 256 ^ (k - 1) ≤ n)
theorem isLeast_one {n k j : Nat} (h : isLeast n k) (h' : isLeast n j) : k = j := by
  have key : ∀ {k j : Nat}, isLeast n k → isLeast n j → ¬ k < j := by
    intro k j h h' hlt
    rcases h'.2.2.2 with e | e
    · have := h.1; omega
    · have := Nat.pow_le_pow_right (n := 256) (by decide) (show k ≤ j - 1 by omega)
      have := h.2.2.1
      omega
  have a := key h h'
  have b := key h' h
  omega
def LeastV (nx : Nat) (gt : Nat → Option Blk) (n : Nat) (v : Value) : Prop := ∃ k, isLeast n k ∧ BySl nx gt v (be k n)

theorem byOk_nat {n k : Nat} (h : k ≤ 64) : byOk n (k : Int) = decide (n < 256 ^ k) := by
  simp [byOk]; intro _; omega

theorem ct_Least {nx : Nat} {gt : Nat → Option Blk} {n : Nat} (hn : n < 18446744073709551616) :
    Ct Tryd.prog 42 [.int .u64 (n : Nat)] nx gt fun v nx' gt' => LeastV nx' gt' n v := by
  refine Ct.of hmx r_octet_Least (by simp [c_octet_Least]) fun b hb => ?_
  simp only [c_octet_Least, ↓gaW, ↓gaC, ↓gaN, gaP, Nat.reduceEqDiff, Nat.reduceLeDiff, Nat.reduceAdd, Nat.reduceSub, Nat.reduceMul, Int.reduceLT, Int.reduceLE, Int.reduceEq, Int.reduceToNat, Int.reduceAdd, Int.reduceSub, Int.reduceMul, reduceCtorEq, ↓reduceIte]
  refine loop_of (fun j f m => ∃ k : Nat, j = 9 - k ∧ 1 ≤ k ∧ k ≤ 8 ∧ (k = 1 ∨ 256 ^ (k - 1) ≤ n) ∧ f 0 = .int .u64 (n : Nat) ∧ f 3 = .int .i64 (k : Nat) ∧ m = ⟨nx, b, gt⟩) 8 ⟨1, by omega, by omega, by omega, .inl rfl, rfl, rfl, rfl⟩ ?_
  rintro j f m ⟨k, rfl, hk1, hk8, hkn, h0, h3, rfl⟩
  have hpos : 0 < 256 ^ k := Nat.pow_pos (by decide)
  have rest : n < 256 ^ k → ∀ f : Regs, f 0 = .int .u64 (n : Nat) → f 3 = .int .i64 (k : Nat) →
      RC.vc Tryd.prog (match c_octet_Least.code with | .seq _ (.seq _ (.seq _ c)) => c | _ => .skip) f ⟨nx, b, gt⟩ (D Tryd.prog (.top (endK c_octet_Least.results b nx gt fun v nx' gt' => LeastV nx' gt' n v))) := by
    intro hlt f h0 h3
    simp only [c_octet_Least, ↓gaW, ↓gaC, ↓gaN, gaP, Nat.reduceEqDiff, Nat.reduceLeDiff, Nat.reduceAdd, Nat.reduceSub, Nat.reduceMul, Int.reduceLT, Int.reduceLE, Int.reduceEq, Int.reduceToNat, Int.reduceAdd, Int.reduceSub, Int.reduceMul, reduceCtorEq, ↓reduceIte, h0, h3]
    refine callK_of (ct_Bytes hn (by omega)) (fun v nx' gt' hle hkeep hC => ?_) hb
    obtain ⟨s, rfl, hs⟩ := hC
    rw [byOk_nat (by omega), decide_eq_true hlt, if_pos rfl, Int.toNat_natCast] at hs
    simp only [↓gaW, ↓gaC, ↓gaN, gaP, Nat.reduceEqDiff, Nat.reduceLeDiff, Nat.reduceAdd, Nat.reduceSub, Nat.reduceMul, Int.reduceLT, Int.reduceLE, Int.reduceEq, Int.reduceToNat, Int.reduceAdd, Int.reduceSub, Int.reduceMul, reduceCtorEq, ↓reduceIte, gaE]
    exact ⟨by omega, by omega, by omega, hkeep, k, ⟨hk1, hk8, hlt, hkn⟩, hs⟩
  by_cases hk : (k : Int) < 8
  · by_cases h4 : n / 256 ^ k = 0
    · simp only [↓gaW, ↓gaN, gaP, Nat.reduceEqDiff, Nat.reduceLeDiff, Nat.reduceAdd, Nat.reduceSub, Nat.reduceMul, Int.reduceLT, Int.reduceLE, Int.reduceEq, Int.reduceToNat, Int.reduceAdd, Int.reduceSub, Int.reduceMul, reduceCtorEq, ↓reduceIte, h0, h3, hk, decide_true, i64_w (8 * (k : Int)) (by omega), shr8 k n (by omega), h4]
      repeat refine And.intro (by omega) ?_
      refine condK_of (fun h => by simp at h) fun _ => ?_
      simp only [vc_exit, D_thn_e, D_blk_e, loopK_e, D_top, if_true, D_thn_n]
      refine rest ((Nat.div_eq_zero_iff_lt hpos).1 h4) _ ?_ ?_
      · simpa [putR] using h0
      · simpa [putR] using h3
    · have h4' : ((n / 256 ^ k : Nat) : Int) ≠ 0 := by omega
      have h5 : 256 ^ k ≤ n := by
        have := (Nat.div_pos_iff.1 (Nat.pos_of_ne_zero h4)).2
        exact this
      simp only [↓gaW, ↓gaC, ↓gaN, gaP, Nat.reduceEqDiff, Nat.reduceLeDiff, Nat.reduceAdd, Nat.reduceSub, Nat.reduceMul, Int.reduceLT, Int.reduceLE, Int.reduceEq, Int.reduceToNat, Int.reduceAdd, Int.reduceSub, Int.reduceMul, reduceCtorEq, ↓reduceIte, h0, h3, hk, decide_true, i64_w (8 * (k : Int)) (by omega), shr8 k n (by omega), h4', i64_w ((k : Int) + 1) (by omega)]
      repeat refine And.intro (by omega) ?_
      exact ⟨9 - (k + 1), by omega, k + 1, rfl, by omega, by omega, .inr h5, h0, rfl, rfl⟩
  · have : k = 8 := by omega
    subst this
    simp only [↓gaW, ↓gaN, gaP, Nat.reduceEqDiff, Nat.reduceLeDiff, Nat.reduceAdd, Nat.reduceSub, Nat.reduceMul, Int.reduceLT, Int.reduceLE, Int.reduceEq, Int.reduceToNat, Int.reduceAdd, Int.reduceSub, Int.reduceMul, reduceCtorEq, ↓reduceIte, h0, h3, hk, decide_false]
    refine condK_of (fun h => by simp at h) fun _ => ?_
    simp only [vc_exit, D_thn_e, D_blk_e, loopK_e, D_top, if_true, D_thn_n]
    refine rest (by omega) _ ?_ ?_
    · simpa [putR] using h0
    · simpa [putR] using h3
end Go.Ga

namespace Go.Ga
open Go Go.Proofs
set_option linter.unusedSimpArgs false
set_option linter.unusedVariables false

/-! ### Digits -/
def digs : List UInt8 := [48, 49, 50, 51, 52, 53, 54, 55, 56, 57, 97, 98, 99, 100, 101, 102]
def dig (n : Nat) : UInt8 := digs.getD n 0
def hexL : List UInt8 → List UInt8
  | [] => []
  | b :: l => dig (b.toNat / 16) :: dig (b.toNat % 16) :: hexL l
end Go.Ga

/- What a law is given, as the walk has it. -/
namespace Go.Ga
open Go

/-- A slice of whole numbers, as a row opens it. -/
def IsRow (k : IntKind) (w : World) (a : Option Addr) (len cap : Nat) (zs : List Int) : Prop :=
  (a = none ∧ len = 0 ∧ cap = 0 ∧ zs = []) ∨
  ∃ x, a = some x ∧ len ≤ cap ∧ cap ≤ maxLen ∧ zs.length = cap ∧ (∀ i, i < zs.length → w.cell? (x.add i) = some (.int k (zs.getD i 0))) ∧ ∀ n ∈ zs, (Lit.int k n).wf = true

theorem wf_u8 {n : Int} (h : (Lit.int .u8 n).wf = true) : 0 ≤ n ∧ n ≤ 255 := by
  have := (Lit.wf_int_iff _ _).1 h
  simpa [IntKind.min, IntKind.max, IntKind.signed, IntKind.bits] using this

theorem wf_i64 {n : Int} (h : (Lit.int .i64 n).wf = true) : -9223372036854775808 ≤ n ∧ n ≤ 9223372036854775807 := by
  have := (Lit.wf_int_iff _ _).1 h
  simpa [IntKind.min, IntKind.max, IntKind.signed, IntKind.bits] using this

/-- A law's call, by its contract. -/
theorem Ct.law {P : Program} {g : Nat} {args : Array Value} {w : World} (h : Ct P g (args.toList.map (absV w)) w.heap.size (m0 w).get fun v _ _ => v = .bool true) :
    Calls P g args w fun e w' => e = .returned (.bool true) ∧ Go.RowKit.Below w.heap.size w w' := by
  refine law_calls (K := fun res _ => res = .ret (.bool true)) ?_ fun _ _ h => h
  have := h w.heap.size (Nat.le_refl _)
  refine this.mono fun res m' _ hh => ?_
  obtain ⟨v, rfl, _, _, _, rfl⟩ := hh
  rfl
end Go.Ga

/- The hash, as a law on lists: what the words behind a block are, what is gone through, what comes out. -/
namespace Go.Ga
open Go
set_option maxRecDepth 100000

def rot (x : UInt32) (n : Nat) : UInt32 := UInt32.ofNat (x.toNat / 2 ^ n ||| x.toNat * 2 ^ (32 - n) % 4294967296)
def sg0 (x : UInt32) : UInt32 := rot x 7 ^^^ rot x 18 ^^^ UInt32.ofNat (x.toNat / 2 ^ 3)
def sg1 (x : UInt32) : UInt32 := rot x 17 ^^^ rot x 19 ^^^ UInt32.ofNat (x.toNat / 2 ^ 10)
def wfirst (b : List UInt8) (t : Nat) : UInt32 := UInt32.ofNat ((((b.getD (4 * t) 0).toNat * 256 + (b.getD (4 * t + 1) 0).toNat) * 256 + (b.getD (4 * t + 2) 0).toNat) * 256 + (b.getD (4 * t + 3) 0).toNat)
def wnext (b : List UInt8) (t : Nat) (l : List UInt32) : UInt32 := if t < 16 then wfirst b t else l.getD (t - 16) 0 + sg0 (l.getD (t - 15) 0) + l.getD (t - 7) 0 + sg1 (l.getD (t - 2) 0)
def sch (b : List UInt8) : Nat → List UInt32
  | 0 => []
  | t + 1 => sch b t ++ [wnext b t (sch b t)]
def k256 : List UInt32 := [
  0x428a2f98, 0x71374491, 0xb5c0fbcf, 0xe9b5dba5, 0x3956c25b, 0x59f111f1, 0x923f82a4, 0xab1c5ed5,
  0xd807aa98, 0x12835b01, 0x243185be, 0x550c7dc3, 0x72be5d74, 0x80deb1fe, 0x9bdc06a7, 0xc19bf174,
  0xe49b69c1, 0xefbe4786, 0x0fc19dc6, 0x240ca1cc, 0x2de92c6f, 0x4a7484aa, 0x5cb0a9dc, 0x76f988da,
  0x983e5152, 0xa831c66d, 0xb00327c8, 0xbf597fc7, 0xc6e00bf3, 0xd5a79147, 0x06ca6351, 0x14292967,
  0x27b70a85, 0x2e1b2138, 0x4d2c6dfc, 0x53380d13, 0x650a7354, 0x766a0abb, 0x81c2c92e, 0x92722c85,
  0xa2bfe8a1, 0xa81a664b, 0xc24b8b70, 0xc76c51a3, 0xd192e819, 0xd6990624, 0xf40e3585, 0x106aa070,
  0x19a4c116, 0x1e376c08, 0x2748774c, 0x34b0bcb5, 0x391c0cb3, 0x4ed8aa4a, 0x5b9cca4f, 0x682e6ff3,
  0x748f82ee, 0x78a5636f, 0x84c87814, 0x8cc70208, 0x90befffa, 0xa4506ceb, 0xbef9a3f7, 0xc67178f2]
def ivs : List UInt32 := [0x6a09e667, 0xbb67ae85, 0x3c6ef372, 0xa54ff53a, 0x510e527f, 0x9b05688c, 0x1f83d9ab, 0x5be0cd19]
def chs (e f g : UInt32) : UInt32 := (e &&& f) ||| (~~~e &&& g)
def mjs (a b c : UInt32) : UInt32 := (a &&& b) ||| (a &&& c) ||| (b &&& c)
def rnd (k w : UInt32) : List UInt32 → List UInt32
  | [a, b, c, d, e, f, g, h] =>
    let p := h + (rot e 6 ^^^ rot e 11 ^^^ rot e 25) + chs e f g + k + w
    let q := (rot a 2 ^^^ rot a 13 ^^^ rot a 22) + mjs a b c
    [p + q, a, b, c, d + p, e, f, g]
  | l => l
def rs (w : List UInt32) (b : List UInt8) : Nat → List UInt32
  | 0 => w
  | t + 1 => rnd (k256.getD t 0) ((sch b 64).getD t 0) (rs w b t)
def comp (w : List UInt32) (b : List UInt8) : List UInt32 := List.zipWith (· + ·) w (rs w b 64)
def goB : Nat → List UInt32 → List UInt8 → List UInt32
  | 0, w, _ => w
  | n + 1, w, l => goB n (comp w (l.take 64)) (l.drop 64)
def be8 (n : Nat) : List UInt8 := (List.range 8).map fun i => UInt8.ofNat (n / 256 ^ (7 - i))
def zs (n : Nat) : Nat := (119 - n % 64) % 64
def padS (l : List UInt8) : List UInt8 := l ++ (128 :: (List.replicate (zs l.length) 0 ++ be8 (l.length * 8 % 18446744073709551616)))
def outS (w : List UInt32) : List UInt8 := (List.range 32).map fun i => UInt8.ofNat ((w.getD (i / 4) 0).toNat / 2 ^ (24 - 8 * (i % 4)))
def sha (l : List UInt8) : List UInt8 := outS (goB ((padS l).length / 64) ivs (padS l))

end Go.Ga
namespace Go.Ga
open Go
theorem list8 {α : Type} {l : List α} (h : l.length = 8) : ∃ a b c d e f g i, l = [a, b, c, d, e, f, g, i] := by
  match l, h with
  | [a, b, c, d, e, f, g, i], _ => exact ⟨a, b, c, d, e, f, g, i, rfl⟩
theorem rs_len {w : List UInt32} (hw : w.length = 8) (b : List UInt8) : ∀ t, (rs w b t).length = 8
  | 0 => hw
  | t + 1 => by
    obtain ⟨a, b', c, d, e, f, g, i, h⟩ := list8 (rs_len hw b t)
    rw [rs, h]
    rfl
theorem comp_len {w : List UInt32} (hw : w.length = 8) (b : List UInt8) : (comp w b).length = 8 := by
  simp [comp, hw, rs_len hw b 64]
theorem goB_len {w : List UInt32} (hw : w.length = 8) : ∀ n l, (goB n w l).length = 8
  | 0, _ => hw
  | n + 1, l => by rw [goB]; exact goB_len (comp_len hw _) n _
theorem goB_app : ∀ n w (l p : List UInt8), 64 * n ≤ l.length → goB n w (l ++ p) = goB n w l
  | 0, _, _, _, _ => rfl
  | n + 1, w, l, p, h => by
    rw [goB, goB, List.take_append_of_le_length (by omega), List.drop_append_of_le_length (by omega), goB_app n _ _ _ (by simp; omega)]

/-- What stands in a hash that has gone through l. -/
structure HashIs (l : List UInt8) (W : List UInt32) (R : List UInt8) : Prop where
  words : W = goB (l.length / 64) ivs l
  len : R.length = 64
  rest : R.take (l.length % 64) = l.drop (64 * (l.length / 64))
theorem HashIs.new : HashIs [] ivs (List.replicate 64 0) := ⟨rfl, rfl, rfl⟩
theorem HashIs.wlen {l W R} (h : HashIs l W R) : W.length = 8 := by rw [h.words]; exact goB_len rfl _ _

def lay (R : List UInt8) (r : Nat) (p : List UInt8) : List UInt8 := R.take r ++ p ++ R.drop (r + p.length)
theorem lay_len {R p : List UInt8} {r : Nat} (hR : R.length = 64) (h : r + p.length ≤ 64) : (lay R r p).length = 64 := by simp [lay, hR]; omega
theorem HashIs.part {l W R} (h : HashIs l W R) {p : List UInt8} (hp : l.length % 64 + p.length < 64) : HashIs (l ++ p) W (lay R (l.length % 64) p) := by
  have e1 : (l ++ p).length / 64 = l.length / 64 := by simp; omega
  have e2 : (l ++ p).length % 64 = l.length % 64 + p.length := by simp; omega
  have hl := h.len
  refine ⟨?_, lay_len h.len (by omega), ?_⟩
  · rw [e1, goB_app _ _ _ _ (by omega)]; exact h.words
  · have hq : 64 * (l.length / 64) ≤ l.length := by omega
    rw [e1, e2, List.drop_append_of_le_length hq, ← h.rest, lay, List.append_assoc, ← List.append_assoc, List.take_append_of_le_length (by simp; omega)]
    rw [List.take_of_length_le (by simp; omega)]
end Go.Ga

/- Elements that stand within one another: their bytes, their sizes, and how they are read. -/
namespace Go.Ga
open Go

/-- Elements in a row: the first one's tag, its bytes, what stands within it; and those behind it. -/
inductive Fo where
  | nil
  | cons (t : Int) (b : List UInt8) (k r : Fo)

namespace Fo
def has (t : Int) : Bool := decide (0 ≤ t ∧ t / 32 % 2 = 1)
def tag (t : Int) : Prop := 0 ≤ t ∧ t < 256 ∧ t % 32 ≠ 31
/-- How many bytes a tag and a length have. -/
def hn (n : Nat) : Nat := if n < 128 then 2 else if n < 256 then 3 else 4
def by8 (t : Int) : UInt8 := UInt8.ofNat t.toNat
def hb (t : Int) (n : Nat) : List UInt8 := if n < 128 then [by8 t, UInt8.ofNat n] else if n < 256 then [by8 t, 129, UInt8.ofNat n] else [by8 t, 130, UInt8.ofNat (n / 256), UInt8.ofNat n]
def len : Fo → Nat
  | nil => 0
  | cons _ _ _ r => r.len + 1
def bs : Fo → Nat
  | nil => 0
  | cons t b k r => (if has t then k.bs + hn k.bs else b.length + hn b.length) + r.bs
def ms : Fo → Nat
  | nil => 0
  | cons t _ k r => (if has t then 1 + k.ms else 1) + r.ms
def ds : Fo → Nat
  | nil => 0
  | cons t _ k r => max (if has t then k.ds + 1 else 1) r.ds
/-- May they be? -/
def rs : Fo → Prop
  | nil => True
  | cons t b k r => (tag t ∧ (has t = true → b = []) ∧ (has t = false → k = nil)) ∧ k.rs ∧ r.rs
def ly : Fo → List UInt8
  | nil => []
  | cons t b k r => hb t (b ++ k.ly).length ++ (b ++ k.ly) ++ r.ly
/-- What they weigh. -/
def ws : Fo → Nat
  | nil => 0
  | cons _ b k r => 1 + b.length + k.ws + r.ws
def app : Fo → Fo → Fo
  | nil, q => q
  | cons t b k r, q => cons t b k (r.app q)

theorem app_nil (f : Fo) : f.app nil = f := by induction f with | nil => rfl | cons t b k r _ ih => simp [app, ih]
theorem app_assoc (f g h : Fo) : (f.app g).app h = f.app (g.app h) := by induction f with | nil => rfl | cons t b k r _ ih => simp [app, ih]
theorem len_app (f g : Fo) : (f.app g).len = f.len + g.len := by induction f with | nil => simp [app, len] | cons t b k r _ ih => simp only [app, len, ih]; omega
theorem bs_app (f g : Fo) : (f.app g).bs = f.bs + g.bs := by induction f with | nil => simp [app, bs] | cons t b k r _ ih => simp only [app, bs, ih]; omega
theorem ms_app (f g : Fo) : (f.app g).ms = f.ms + g.ms := by induction f with | nil => simp [app, ms] | cons t b k r _ ih => simp only [app, ms, ih]; omega
theorem ds_app (f g : Fo) : (f.app g).ds = max f.ds g.ds := by induction f with | nil => simp [app, ds] | cons t b k r _ ih => simp only [app, ds, ih]; omega
theorem ws_app (f g : Fo) : (f.app g).ws = f.ws + g.ws := by induction f with | nil => simp [app, ws] | cons t b k r _ ih => simp only [app, ws, ih]; omega
theorem hn_le (n : Nat) : 2 ≤ hn n ∧ hn n ≤ 4 := by unfold hn; repeat' split
                                                    all_goals omega
theorem bs_ws (f : Fo) : f.bs ≤ 4 * f.ws := by
  induction f with
  | nil => simp [bs]
  | cons t b k r ih1 ih2 =>
    simp only [bs, ws]
    have := hn_le k.bs
    have := hn_le b.length
    split <;> omega
theorem ms_ws (f : Fo) : f.ms ≤ f.ws := by
  induction f with
  | nil => simp [ms]
  | cons t b k r ih1 ih2 =>
    simp only [ms, ws]
    split <;> omega
theorem ds_ws (f : Fo) : f.ds ≤ f.ws := by
  induction f with
  | nil => simp [ds]
  | cons t b k r ih1 ih2 =>
    simp only [ds, ws]
    split <;> omega
/-! ### Reading -/

inductive Hd where
  | short
  | form
  | ok (t n : Nat) (r : List UInt8)

/-- A length. -/
def hl (t : Nat) : List UInt8 → Hd
  | [] => .short
  | l :: r => if l.toNat < 128 then .ok t l.toNat r
    else if l.toNat = 129 then (match r with
      | [] => .short
      | x :: r => if x.toNat < 128 then .form else .ok t x.toNat r)
    else if l.toNat = 130 then (match r with
      | x :: y :: r => if x.toNat = 0 then .form else .ok t (x.toNat * 256 + y.toNat) r
      | _ => .short)
    else .form
/-- A tag and a length. -/
def hd : List UInt8 → Hd
  | [] => .short
  | t :: r => if t.toNat % 32 = 31 then .form else hl t.toNat r

def kd : Nat → Nat → List UInt8 → Except Nat Fo
  | _, _, [] => .ok .nil
  | 0, _, _ :: _ => .error 2
  | f + 1, d, x :: l => match hd (x :: l) with
    | .short => .error 2
    | .form => .error 2
    | .ok t n r => if r.length < n then .error 2 else if d = 0 then .error 4 else if has t then (match kd f (d - 1) (r.take n) with
        | .error e => .error e
        | .ok k => match kd f d (r.drop n) with
          | .error e => .error e
          | .ok q => .ok (.cons t [] k q))
      else (match kd f d (r.drop n) with
        | .error e => .error e
        | .ok q => .ok (.cons t (r.take n) .nil q))

/-- All elements of some bytes. -/
def KD (d : Nat) (l : List UInt8) : Except Nat Fo := kd l.length d l

structure El where
  t : Int
  b : List UInt8
  k : Fo
def El.f (x : El) : Fo := .cons x.t x.b x.k .nil

/-- The first element of some bytes, and the bytes behind it; s: what is said where they end. -/
def elem (s d : Nat) (l : List UInt8) : Except Nat (El × List UInt8) := match hd l with
  | .short => .error s
  | .form => .error 2
  | .ok t n r => if r.length < n then .error s else if d = 0 then .error 4 else if has t then (match KD (d - 1) (r.take n) with
      | .error e => .error e
      | .ok k => .ok (⟨t, [], k⟩, r.drop n))
    else .ok (⟨t, r.take n, .nil⟩, r.drop n)

/-- The element of some bytes. -/
def rd (l : List UInt8) : Except Nat El := if 20000 < l.length then .error 5 else match elem 3 32 l with
  | .error e => .error e
  | .ok (x, r) => if r = [] then .ok x else .error 2
/-- An element's bytes. -/
noncomputable def wr (x : El) : Except Nat (List UInt8) := open Classical in if ¬ x.f.rs then .error 2 else if 32 < x.f.ds then .error 4 else if 20000 < x.f.bs then .error 5 else .ok x.f.ly

end Fo
end Go.Ga

/- A slice that is only appended to, from whatever it began as. -/
namespace Go.Ga
open Go

/-- A slice of one's own, or one that has no room behind it. -/
def Grow (nx b x : Nat) (g : Nat → Option Blk) (e : Nat) (A : Option Addr) (n : Nat) (l : List Value) : Prop :=
  Own nx b x g e A n l ∨ (l.length = n * e ∧ Row x g e A (n * e) l ∧ ∃ a, A = some a ∧ a.spot = none)

theorem Grow.nil {nx b x g e} : Grow nx b x g e none 0 [] := .inl .nil
theorem Grow.keep {nx b x g e A n l x' g'} (h : Grow nx b x g e A n l) (h1 : x ≤ x') (h2 : ∀ i, i < x → g' i = g i) : Grow nx b x' g' e A n l := by
  rcases h with h | ⟨h, h3, h4⟩
  · exact .inl (h.keep h1 h2)
  · exact .inr ⟨h, h3.keep h1 h2, h4⟩
theorem Grow.row {nx b x g e A n l} (h : Grow nx b x g e A n l) : Row x g e A (n * e) l := by
  rcases h with h | ⟨_, h, _⟩
  · exact h.row
  · exact h
theorem Grow.len {nx b x g e A n l} (h : Grow nx b x g e A n l) : l.length = n * e := by
  rcases h with h | ⟨h, _⟩
  · exact h.1
  · exact h

theorem grow_append {nx b x n k e bytes : Nat} {g : Nat → Option Blk} {A : Option Addr} {l news : List Value} {K : Value → Mem → Prop} (h : Grow nx b x g e A n l) (he : 0 < e) (hx : nx ≤ x) (hb : b ≤ x) (hk : 0 < k) (hl : news.length = k * e)
    (hv : ∀ v ∈ news, cellVal v = true) (hs : (n + k) * bytes ≤ 140737488355328) (hs' : n + k ≤ 9223372036854775807)
    (hK : ∀ g', (∀ i, i < nx → g' i = g i) → Own nx b (x + 1) g' e (some ⟨x, 0, some e⟩) (n + k) (l ++ news) → K (.slice (some ⟨x, 0, some e⟩) (n + k) (n + k)) ⟨x + 1, b, g'⟩) :
    appendK e bytes ⟨x, b, g⟩ A n n k news K := by
  rcases h with h | ⟨h1, h2, a, rfl, h3⟩
  · exact own_append h he hx hb hk hl hv hs hs' hK
  · have hr : rowOf ⟨x, b, g⟩ (some a) (n * e) = some l := h2.rowOf
    unfold appendK
    refine ⟨hl, he, hv, ?_⟩
    rw [if_neg (by omega)]
    refine ⟨hs, hs', ?_⟩
    rw [hr]
    simp only [h3]
    exact hK (upd g x (some (.cells (l ++ news) false))) (fun i hi => by simp only [upd_e]; rw [if_neg (by omega)])
      ⟨by simp [h1, hl, Nat.add_mul], .inr ⟨x, rfl, hx, by omega, hb, by simp only [upd_e, if_true]⟩⟩

/-- What a literal's slice begins as. -/
theorem Grow.lit {nx b x q n e : Nat} {g : Nat → Option Blk} {l : List Value} {ro : Bool} (hq : q < x) (hg : g q = some (.cells l ro)) (hl : l.length = n * e) : Grow nx b x g e (some ⟨q, 0, none⟩) n l :=
  .inr ⟨hl, ⟨fun a h => by injection h with h; subst h; exact .inl rfl, hl, fun _ => ⟨_, l, ro, rfl, hq, hg, by simp only; omega, fun i _ => by simp⟩⟩, _, rfl, rfl⟩

theorem Grow.byte {nx b x g A n} {l : List UInt8} (h : Grow nx b x g 1 A n (l.map u8V)) : BySl x g (.slice A n n) l :=
  ⟨A, n, n, rfl, Nat.le_refl _, by simpa using h.len, by simpa using h.row⟩
end Go.Ga

/- Further rules of the walk. -/
namespace Go.Ga
open Go
set_option linter.defProp false
section
variable {k : IntKind} {a b : Int} {x y : ByteArray} {K : Value → Prop}
theorem u_xor : unK .xor (.int k a) K = K (.int k (bitsV .xor k (if k.signed then -1 else k.max) a)) := (rfl)
theorem b_andNot : binK .andNot (.int k a) (.int k b) K = K (.int k (bitsV .andNot k a b)) := by simp [binK, binI]
theorem b_lsss : binK .lss (.string x) (.string y) K = K (.bool (Op.bytesLess x.toList y.toList)) := (rfl)
end
def gaV := And.intro @u_xor (And.intro @b_andNot @b_lsss)
/-- A contract, some regions gone through in every order. -/
theorem Ct.ofT {P : Program} (hmx : P.follows .mixedOrders = true) {g : Nat} {rf : RFn} {T : List Nat} (h : resolveFn P g T = some rf) {args : List Value} (hn : args.length ≤ rf.n) {nx : Nat} {gt : Nat → Option Blk} {C : Value → Nat → (Nat → Option Blk) → Prop}
    (hv : ∀ b, b ≤ nx → rf.code.vc P (fun i => args.getD i undef) ⟨nx, b, gt⟩ (D P (.top (endK rf.results b nx gt C)))) : Ct P g args nx gt C := by
  intro b hb
  refine fn_sound hmx h hn ?_
  have e : D P (.top (endK rf.results b nx gt C)) = retK rf.results fun res m' => ∃ v, res = .ret v ∧ m'.bar = b ∧ nx ≤ m'.next ∧ (∀ n, n < nx → m'.get n = gt n) ∧ C v m'.next m'.get := by
    funext x f m'
    cases x <;> simp [D, endK, retK, asO] <;> (cases resVals f m' rf.results <;> simp)
  rw [← e]
  exact hv b hb

end Go.Ga

/- Bits of 32-bit words. -/
namespace Go.Ga
open Go

theorem xor_u32 {x y : Nat} (hx : x < 4294967296) (hy : y < 4294967296) : bitsV .xor .u32 (x : Int) (y : Int) = ((x ^^^ y : Nat) : Int) := by
  have h : x ^^^ y < 2 ^ 32 := Nat.xor_lt_two_pow hx hy
  show IntKind.u32.wrap ((BitVec.ofInt 32 (x : Int) ^^^ BitVec.ofInt 32 (y : Int)).toNat : Int) = _
  simp only [BitVec.ofInt_natCast, BitVec.toNat_xor, BitVec.toNat_ofNat]
  rw [Nat.mod_eq_of_lt (by omega), Nat.mod_eq_of_lt (by omega), u32_w]
  omega
theorem or_u32 {x y : Nat} (hx : x < 4294967296) (hy : y < 4294967296) : bitsV .or .u32 (x : Int) (y : Int) = ((x ||| y : Nat) : Int) := by
  have h : x ||| y < 2 ^ 32 := Nat.or_lt_two_pow hx hy
  show IntKind.u32.wrap ((BitVec.ofInt 32 (x : Int) ||| BitVec.ofInt 32 (y : Int)).toNat : Int) = _
  simp only [BitVec.ofInt_natCast, BitVec.toNat_or, BitVec.toNat_ofNat]
  rw [Nat.mod_eq_of_lt (by omega), Nat.mod_eq_of_lt (by omega), u32_w]
  omega
theorem and_u32 {x y : Nat} (hx : x < 4294967296) (hy : y < 4294967296) : bitsV .and .u32 (x : Int) (y : Int) = ((x &&& y : Nat) : Int) := by
  have h : x &&& y < 2 ^ 32 := Nat.and_lt_two_pow _ hy
  show IntKind.u32.wrap ((BitVec.ofInt 32 (x : Int) &&& BitVec.ofInt 32 (y : Int)).toNat : Int) = _
  simp only [BitVec.ofInt_natCast, BitVec.toNat_and, BitVec.toNat_ofNat]
  rw [Nat.mod_eq_of_lt (by omega), Nat.mod_eq_of_lt (by omega), u32_w]
  omega
theorem max_u32 : (if IntKind.u32.signed then -1 else IntKind.u32.max) = ((4294967295 : Nat) : Int) := by decide
theorem not_u32 {x : Nat} (hx : x < 4294967296) : bitsV .xor .u32 (if IntKind.u32.signed then -1 else IntKind.u32.max) (x : Int) = ((4294967295 ^^^ x : Nat) : Int) := by
  rw [max_u32, xor_u32 (by decide) hx]
theorem u32_m (n : Nat) : IntKind.u32.wrap (n : Int) = ((n % 4294967296 : Nat) : Int) := by
  rw [u32_w]; rfl

end Go.Ga

/- A region gone through in every order: what holds whatever has come up so far. -/
namespace Go.Ga
open Go

def lefts (n : Nat) (mask : Nat) : Nat := (List.range n).countP fun j => !mask.testBit j

end Go.Ga

/- Functions that write to one block of their caller's. -/
namespace Go.Ga
open Go

def Cw (P : Program) (g : Nat) (args : List Value) (q nx : Nat) (gt : Nat → Option Blk) (C : Value → Nat → (Nat → Option Blk) → Prop) : Prop :=
  ∀ b, b ≤ nx → b ≤ q → Fn P g args ⟨nx, b, gt⟩ fun res m' => ∃ v, res = .ret v ∧ m'.bar = b ∧ nx ≤ m'.next ∧ (∀ n, n < nx → n ≠ q → m'.get n = gt n) ∧ C v m'.next m'.get

def endW (rs : List RVar) (b q nx : Nat) (gt : Nat → Option Blk) (C : Value → Nat → (Nat → Option Blk) → Prop) (x : AEx) (f : Regs) (m' : Mem) : Prop :=
  (x = .normal ∨ x = .ret) ∧ asO (resVals f m' rs) fun vs => m'.bar = b ∧ nx ≤ m'.next ∧ (∀ n, n < nx → n ≠ q → m'.get n = gt n) ∧ C (oneOrTuple vs) m'.next m'.get

theorem Cw.of {P : Program} (hmx : P.follows .mixedOrders = true) {g q : Nat} {rf : RFn} {T : List Nat} (h : resolveFn P g T = some rf) {args : List Value} (hn : args.length ≤ rf.n) {nx : Nat} {gt : Nat → Option Blk} {C : Value → Nat → (Nat → Option Blk) → Prop}
    (hv : ∀ b, b ≤ nx → b ≤ q → rf.code.vc P (fun i => args.getD i undef) ⟨nx, b, gt⟩ (D P (.top (endW rf.results b q nx gt C)))) : Cw P g args q nx gt C := by
  intro b hb hq
  refine fn_sound hmx h hn ?_
  have e : D P (.top (endW rf.results b q nx gt C)) = retK rf.results fun res m' => ∃ v, res = .ret v ∧ m'.bar = b ∧ nx ≤ m'.next ∧ (∀ n, n < nx → n ≠ q → m'.get n = gt n) ∧ C v m'.next m'.get := by
    funext x f m'
    cases x <;> simp [D, endW, retK, asO] <;> (cases resVals f m' rf.results <;> simp)
  rw [← e]
  exact hv b hb hq
end Go.Ga

/- Numbers by parts of 32 bits, the lowest first: plain laws. -/
namespace Go.Ga
open Go

def u32V (x : UInt32) : Value := .int .u32 (x.toNat : Nat)

/-- The number of a list of parts. -/
def lv : List UInt32 → Nat
  | [] => 0
  | x :: l => x.toNat + 4294967296 * lv l

/-- A number's parts, as few as may be. -/
def lb (n : Nat) : List UInt32 := if n = 0 then [] else UInt32.ofNat n :: lb (n / 4294967296)
termination_by n
decreasing_by omega

theorem lt32 (x : UInt32) : x.toNat < 4294967296 := x.toNat_lt

/-- How many bits a number has. -/
def bl (n : Nat) : Nat := if n = 0 then 0 else n.log2 + 1
theorem getD_u32 {l : List UInt32} {i : Nat} (h : i < l.length) : (l.map u32V).getD i undef = .int .u32 ((l.getD i 0).toNat : Nat) := by
  simp [List.getD_eq_getElem?_getD, List.getElem?_map, List.getElem?_eq_getElem h, u32V]
theorem cv_u32 (x : UInt32) : cellsV (u32V x) = some [u32V x] := rfl
/-- A slice of parts, and what they are. -/
def W32 (nx : Nat) (gt : Nat → Option Blk) (v : Value) (l : List UInt32) : Prop := ∃ A n c, v = .slice A n c ∧ n ≤ c ∧ l.length = n ∧ Row nx gt 1 A n (l.map u32V)
theorem W32.keep {nx gt v l nx' gt'} (h : W32 nx gt v l) (h1 : nx ≤ nx') (h2 : ∀ n, n < nx → gt' n = gt n) : W32 nx' gt' v l := by
  obtain ⟨A, n, c, e1, e2, e3, e4⟩ := h
  exact ⟨A, n, c, e1, e2, e3, e4.keep h1 h2⟩
theorem W32.nil {nx gt} : W32 nx gt (.slice none 0 0) [] := ⟨none, 0, 0, rfl, Nat.le_refl _, rfl, .nil⟩
end Go.Ga

/- Words of 32 bits in the walk, as they are; further steps. -/
namespace Go.Ga
open Go

section
variable {K : Value → Prop} {x y : UInt32}
theorem w_add : binK .add (u32V x) (u32V y) K = K (u32V (x + y)) := by
  simp only [u32V]
  rw [b_add, show (x.toNat : Int) + (y.toNat : Int) = ((x.toNat + y.toNat : Nat) : Int) by omega, u32_m, UInt32.toNat_add]
theorem w_xor : binK .xor (u32V x) (u32V y) K = K (u32V (x ^^^ y)) := by
  simp only [u32V]
  rw [b_xor, xor_u32 (lt32 x) (lt32 y), UInt32.toNat_xor]
theorem w_and : binK .and (u32V x) (u32V y) K = K (u32V (x &&& y)) := by
  simp only [u32V]
  rw [b_and, and_u32 (lt32 x) (lt32 y), UInt32.toNat_and]
theorem w_or : binK .or (u32V x) (u32V y) K = K (u32V (x ||| y)) := by
  simp only [u32V]
  rw [b_or, or_u32 (lt32 x) (lt32 y), UInt32.toNat_or]
theorem w_not : unK .xor (u32V x) K = K (u32V (~~~x)) := by
  have h := lt32 x
  have e : 4294967295 ^^^ x.toNat = (~~~x).toNat := by
    rw [UInt32.toNat_not]
    show 4294967295 ^^^ x.toNat = 4294967295 - x.toNat
    have h1 : (2 ^ 32 - 1) ^^^ x.toNat = 2 ^ 32 - (x.toNat + 1) := by
      apply Nat.eq_of_testBit_eq
      intro i
      rw [Nat.testBit_xor, Nat.testBit_two_pow_sub_one, Nat.testBit_two_pow_sub_succ (by exact h)]
      by_cases hi : i < 32
      · simp [hi]
      · have : x.toNat.testBit i = false := Nat.testBit_lt_two_pow (Nat.lt_of_lt_of_le h (show 2 ^ 32 ≤ 2 ^ i from Nat.pow_le_pow_right (by decide) (by omega)))
        simp [hi, this]
    rw [show 4294967295 - x.toNat = 2 ^ 32 - (x.toNat + 1) by omega]
    exact h1
  simp only [u32V]
  rw [u_xor, not_u32 h, e]
end
def asK (v : Value) (K : Value → Prop) : Prop := match v with
  | .pointer (some a) => K (.pointer (some a))
  | .func (.func g) fs cs => K (.func (.func g) fs cs)
  | _ => False
@[congr] theorem asK_congr {v v' : Value} {K : Value → Prop} (h : v = v') : asK v K = asK v' K := by rw [h]
theorem asK_p (a : Addr) (K) : asK (.pointer (some a)) K = K (.pointer (some a)) := (rfl)
theorem o_chk {P : Program} {f : Regs} {m : Mem} {K : Value → Mem → Prop} (x : Rv) : ROp.vc P f m K (.chk x) = asK (x.ev f) fun v => K v m := by
  dsimp only [ROp.vc, asK]
  cases x.ev f with
  | pointer a => cases a <;> rfl
  | func fn fs cs => cases fn <;> rfl
  | _ => rfl
def cpK (m : Mem) (A : Option Addr) (w : Nat) (news : List Value) (K : Mem → Prop) : Prop := match A with
  | none => K m
  | some a => if w = 0 then K m else writeK m a 0 news K
theorem cpK_n {m w news K} : cpK m none w news K = K m := (rfl)
theorem cpK_z {m A news K} : cpK m A 0 news K = K m := by cases A <;> simp [cpK]
theorem o_copy {P : Program} {f : Regs} {m : Mem} {K : Value → Mem → Prop} (esz : Nat) (x y : Rv) : ROp.vc P f m K (.copy esz x y) = asS (x.ev f) fun A n _ => asS (y.ev f) fun B k _ => asO (rowOf m B (Nat.min k n * esz)) fun news => cpK m A (Nat.min k n * esz) news fun m' => K (.int .i64 (Nat.min k n : Nat)) m' := by
  dsimp only [ROp.vc, asS, asO, cpK]
  cases x.ev f with
  | slice A n c =>
    cases y.ev f with
    | slice B k d => dsimp only; cases rowOf m B (Nat.min k n * esz) <;> cases A <;> rfl
    | _ => rfl
  | _ => rfl

theorem res_cN {f : Regs} {x b : Nat} {g : Nat → Option Blk} {i n q o : Nat} {s : Option Nat} {c : List Value} {ro : Bool} {l : List RVar} (h : f i = .pointer (some ⟨q, o, s⟩)) (hg : g q = some (.cells c ro)) (hn : o + n ≤ c.length) :
    resVals f ⟨x, b, g⟩ (.cN i n :: l) = (resVals f ⟨x, b, g⟩ l).map (.agg ((c.drop o).take n).toArray :: ·) := by
  simp only [resVals, h, hg]
  rw [if_pos hn]
theorem end_cN {f : Regs} {x b' b nx : Nat} {g gt : Nat → Option Blk} {i n q : Nat} {C} (c : List Value) {ro : Bool} (h : f i = .pointer (some ⟨q, 0, none⟩)) (hg : g q = some (.cells c ro)) (hn : c.length = n)
    (h2 : b' = b ∧ nx ≤ x ∧ (∀ i, i < nx → g i = gt i) ∧ C (.agg c.toArray) x g) : endK [.cN i n] b nx gt C .ret f ⟨x, b', g⟩ := by
  rw [end_r, res_cN h hg (by omega), res_nil]
  simp only [Option.map_some, asO_e, one1, List.drop_zero]
  rw [List.take_of_length_le (by omega)]
  exact h2
set_option linter.defProp false
def gaU := And.intro @w_add (And.intro @w_xor (And.intro @w_and (And.intro @w_or (And.intro @w_not (And.intro @o_chk (And.intro @asK_p (And.intro @o_copy (And.intro @cpK_n (And.intro @cpK_z @cv_u32)))))))))
end Go.Ga

/- Functions that return or panic, and write to one block of their caller's. -/
namespace Go.Ga
open Go

/-- What a call comes to: C where it returns, E where it panics. -/
def Cp (P : Program) (g : Nat) (args : List Value) (q nx : Nat) (gt : Nat → Option Blk) (C E : Value → Nat → (Nat → Option Blk) → Prop) : Prop :=
  ∀ b, b ≤ nx → b ≤ q → Fn P g args ⟨nx, b, gt⟩ fun res m' => m'.bar = b ∧ nx ≤ m'.next ∧ (∀ n, n < nx → n ≠ q → m'.get n = gt n) ∧ match res with
    | .ret v => C v m'.next m'.get
    | .pan v => E v m'.next m'.get

def endP (rs : List RVar) (b q nx : Nat) (gt : Nat → Option Blk) (C E : Value → Nat → (Nat → Option Blk) → Prop) (x : AEx) (f : Regs) (m' : Mem) : Prop :=
  match x with
  | .normal | .ret => asO (resVals f m' rs) fun vs => m'.bar = b ∧ nx ≤ m'.next ∧ (∀ n, n < nx → n ≠ q → m'.get n = gt n) ∧ C (oneOrTuple vs) m'.next m'.get
  | .pan v => m'.bar = b ∧ nx ≤ m'.next ∧ (∀ n, n < nx → n ≠ q → m'.get n = gt n) ∧ E v m'.next m'.get
  | _ => False
section
variable {rs : List RVar} {b q nx : Nat} {gt : Nat → Option Blk} {C E : Value → Nat → (Nat → Option Blk) → Prop} {f : Regs} {nx' b' : Nat} {gt' : Nat → Option Blk}
end

theorem Cp.of {P : Program} (hmx : P.follows .mixedOrders = true) {g q : Nat} {rf : RFn} {T : List Nat} (h : resolveFn P g T = some rf) {args : List Value} (hn : args.length ≤ rf.n) {nx : Nat} {gt : Nat → Option Blk} {C E : Value → Nat → (Nat → Option Blk) → Prop}
    (hv : ∀ b, b ≤ nx → b ≤ q → rf.code.vc P (fun i => args.getD i undef) ⟨nx, b, gt⟩ (D P (.top (endP rf.results b q nx gt C E)))) : Cp P g args q nx gt C E := by
  intro b hb hq
  refine fn_sound hmx h hn ?_
  have e : D P (.top (endP rf.results b q nx gt C E)) = retK rf.results fun res m' => m'.bar = b ∧ nx ≤ m'.next ∧ (∀ n, n < nx → n ≠ q → m'.get n = gt n) ∧ match res with
      | .ret v => C v m'.next m'.get
      | .pan v => E v m'.next m'.get := by
    funext x f m'
    cases x <;> simp [D, endP, retK, asO] <;> (cases resVals f m' rf.results <;> simp)
  rw [← e]
  exact hv b hb hq
end Go.Ga

/- A function that defers a closure which turns a panic into a result. -/
namespace Go.Ga
open Go

section
variable {P : Program} {h : FuncId} {gn : Func} {S : Code} {i0 i1 : Nat} {tI tE : TypeId} {y0 y1 y2 y3 y4 y5 y6 y7 : TypeId} {p0 p1 p2 p3 p4 p5 p6 p7 : String} {f0 f1 f2 f3 f4 f5 f6 f7 : Array Edge}

/-- The closure's first operations: what does recover say? -/
def rec0 (tI tE y0 y1 y2 y3 y4 y5 y6 : TypeId) (p0 p1 p2 p3 p4 p5 p6 : String) (f0 f1 f2 f3 f4 f5 f6 : Array Edge) : Array Oper :=
  #[⟨some 5, .call ⟨.builtin .recover, #[], #[]⟩, y0, p0, f0, none⟩, ⟨some 6, .typeAssert (.tmp 5) tI tE true, y1, p1, f1, none⟩, ⟨some 4, .move (.tmp 6), y2, p2, f2, none⟩,
    ⟨some 7, .extract (.tmp 4) 0, y3, p3, f3, none⟩, ⟨some 8, .extract (.tmp 4) 1, y4, p4, f4, none⟩, ⟨some 2, .assign (.tmp 7), y5, p5, f5, none⟩, ⟨some 3, .assign (.tmp 8), y6, p6, f6, none⟩]
def rec1 (y7 : TypeId) (p7 : String) (f7 : Array Edge) : Array Oper := #[⟨some 9, .move (.tmp 3), y7, p7, f7, none⟩]

end

section
variable {P : Program} {N : Nat}

/-- Where what is deferred begins. -/
def deferK (P : Program) (tE : TypeId) (xs : RC) (u v : Value) (rs : List RVar) (K : Res → Mem → Prop) : AEx → Regs → Mem → Prop
  | .normal, f, m => asO (resVals f m rs) fun vs => K (.ret (oneOrTuple vs)) m
  | .ret, f, m => asO (resVals f m rs) fun vs => K (.ret (oneOrTuple vs)) m
  | .pan e, f, m => ∃ x, e = .iface tE x ∧ xs.vc P (fun i => if i = 0 then u else if i = 1 then v else if i = 2 then x else botV) m fun ex _ m' => ex = .normal ∧ asO (resVals f m' rs) fun vs => K (.ret (oneOrTuple vs)) m'
  | _, _, _ => False

/-! ### The same, for the walk -/
def seqL : Code → Code | .seq a _ => a | c => c
def seqR : Code → Code | .seq _ b => b | c => c
def cndL : Code → Code | .cond _ a _ => a | c => c
def rgId : Code → Nat | .region i _ _ => i | _ => 0
def rgOp (c : Code) (i : Nat) : Oper := match c with
  | .region _ ops _ => ops.getD i ⟨none, .move (.const undef), 0, "", #[], none⟩
  | _ => ⟨none, .move (.const undef), 0, "", #[], none⟩

def bK (P : Program) (tE : TypeId) (a b d : Nat) (xc xs : RC) (rs : List RVar) (K : Res → Mem → Prop) : AEx → Regs → Mem → Prop
  | .normal, f, m => xc.vc P (putR f (some d) botV) m (D P (.top (deferK P tE xs (f a) (f b) rs K)))
  | ex, f, m => retK rs K ex f m
def aK (P : Program) (tE : TypeId) (a b d : Nat) (xb xc xs : RC) (rs : List RVar) (K : Res → Mem → Prop) : AEx → Regs → Mem → Prop
  | .normal, f, m => xb.vc P f m (D P (.top (bK P tE a b d xc xs rs K)))
  | ex, f, m => retK rs K ex f m
section
variable {P : Program} {tE : TypeId} {a b d : Nat} {xb xc xs : RC} {rs : List RVar} {K : Res → Mem → Prop} {f : Regs} {m : Mem} {u v : Value}
end
end
end Go.Ga

/- Elements that stand within one another, in the memory: three cells each. -/
namespace Go.Ga
open Go

/-- These cells are these elements, one behind the other. -/
def FoR (nx : Nat) (gt : Nat → Option Blk) : Fo → List Value → Prop
  | .nil, cs => cs = []
  | .cons t b k r, cs => ∃ (B : Option Addr) (m d : Nat) (A : Option Addr) (n c : Nat) (ks cs' : List Value), cs = .int .i64 t :: .slice B m d :: .slice A n c :: cs' ∧ (-9223372036854775808 ≤ t ∧ t ≤ 9223372036854775807) ∧ m ≤ d ∧ Row nx gt 1 B m (b.map u8V) ∧ n ≤ c ∧ n = k.len ∧ Row nx gt 3 A (n * 3) ks ∧ FoR nx gt k ks ∧ FoR nx gt r cs'

theorem FoR.keep {nx x : Nat} {gt g : Nat → Option Blk} (h1 : nx ≤ x) (h2 : ∀ p, p < nx → g p = gt p) : ∀ {F : Fo} {cs : List Value}, FoR nx gt F cs → FoR x g F cs := by
  intro F
  induction F with
  | nil => intro cs h; exact h
  | cons t b k r ih1 ih2 =>
    rintro cs ⟨B, m, d, A, n, c, ks, cs', rfl, a0, a1, a2, a3, a4, a5, a6, a7⟩
    exact ⟨B, m, d, A, n, c, ks, cs', rfl, a0, a1, a2.keep h1 h2, a3, a4, a5.keep h1 h2, ih1 a6, ih2 a7⟩

theorem FoR.len {nx : Nat} {gt : Nat → Option Blk} : ∀ {F : Fo} {cs : List Value}, FoR nx gt F cs → cs.length = F.len * 3 := by
  intro F
  induction F with
  | nil => intro cs h; rw [show cs = [] from h]; rfl
  | cons t b k r ih1 ih2 =>
    rintro cs ⟨B, m, d, A, n, c, ks, cs', rfl, a0, a1, a2, a3, a4, a5, a6, a7⟩
    have := ih2 a7
    simp only [List.length_cons, Fo.len, this]; omega

theorem FoR.app {nx : Nat} {gt : Nat → Option Blk} : ∀ {F : Fo} {cs : List Value} {G : Fo} {ds : List Value}, FoR nx gt F cs → FoR nx gt G ds → FoR nx gt (F.app G) (cs ++ ds) := by
  intro F
  induction F with
  | nil => intro cs G ds h k; rw [show cs = [] from h]; exact k
  | cons t b k r ih1 ih2 =>
    rintro cs G ds ⟨B, m, d, A, n, c, ks, cs', rfl, a0, a1, a2, a3, a4, a5, a6, a7⟩ h
    exact ⟨B, m, d, A, n, c, ks, cs' ++ ds, rfl, a0, a1, a2, a3, a4, a5, a6, ih2 a7 h⟩

/-- An element, of what its three cells are made. -/
structure NdR (nx : Nat) (gt : Nat → Option Blk) (x : Fo.El) (B : Option Addr) (m d : Nat) (A : Option Addr) (n c : Nat) (ks : List Value) : Prop where
  tg : -9223372036854775808 ≤ x.t ∧ x.t ≤ 9223372036854775807
  body : Row nx gt 1 B m (x.b.map u8V)
  md : m ≤ d
  row : Row nx gt 3 A (n * 3) ks
  nc : n ≤ c
  len : n = x.k.len
  kids : FoR nx gt x.k ks

abbrev nodeL (t : Int) (B : Option Addr) (m d : Nat) (A : Option Addr) (n c : Nat) : List Value := [.int .i64 t, .slice B m d, .slice A n c]
abbrev nodeV (t : Int) (B : Option Addr) (m d : Nat) (A : Option Addr) (n c : Nat) : Value := .agg #[.int .i64 t, .slice B m d, .slice A n c]

theorem node_cells (t : Int) (B : Option Addr) (m d : Nat) (A : Option Addr) (n c : Nat) : ∀ v ∈ [Value.int .i64 t, .slice B m d, .slice A n c], cellVal v = true := by
  intro v hv
  simp only [List.mem_cons, List.not_mem_nil, or_false] at hv
  rcases hv with rfl | rfl | rfl <;> rfl

theorem NdR.keep {nx x' : Nat} {gt g : Nat → Option Blk} {x B m d A n c ks} (h : NdR nx gt x B m d A n c ks) (h1 : nx ≤ x') (h2 : ∀ p, p < nx → g p = gt p) : NdR x' g x B m d A n c ks :=
  ⟨h.tg, h.body.keep h1 h2, h.md, h.row.keep h1 h2, h.nc, h.len, h.kids.keep h1 h2⟩
theorem NdR.zero {nx : Nat} {gt : Nat → Option Blk} : NdR nx gt ⟨0, [], .nil⟩ none 0 0 none 0 0 [] := ⟨by simp, .nil, Nat.le_refl _, .nil, Nat.le_refl _, rfl, rfl⟩
theorem NdR.one {nx : Nat} {gt : Nat → Option Blk} {x B m d A n c ks} (h : NdR nx gt x B m d A n c ks) : FoR nx gt x.f (nodeL x.t B m d A n c) :=
  ⟨B, m, d, A, n, c, ks, [], rfl, h.tg, h.md, h.body, h.nc, h.len, h.row, h.kids, rfl⟩
theorem NdR.blen {nx : Nat} {gt : Nat → Option Blk} {x B m d A n c ks} (h : NdR nx gt x B m d A n c ks) : x.b.length = m := by simpa using h.body.len

theorem FoR.at {nx : Nat} {gt : Nat → Option Blk} : ∀ {F : Fo} {cs : List Value} {i : Nat}, FoR nx gt F cs → i < F.len →
    ∃ (x : Fo.El) (pre post : Fo) (B : Option Addr) (m d : Nat) (A : Option Addr) (n c : Nat) (ks : List Value), F = pre.app (.cons x.t x.b x.k post) ∧ pre.len = i ∧ NdR nx gt x B m d A n c ks ∧ (cs.drop (i * 3)).take 3 = nodeL x.t B m d A n c := by
  intro F
  induction F with
  | nil => intro cs i h hi; exact absurd hi (Nat.not_lt_zero i)
  | cons t b k r ih1 ih2 =>
    rintro cs i ⟨B, m, d, A, n, c, ks, cs', rfl, a0, a1, a2, a3, a4, a5, a6, a7⟩ hi
    cases i with
    | zero => exact ⟨⟨t, b, k⟩, .nil, r, B, m, d, A, n, c, ks, rfl, rfl, ⟨a0, a2, a1, a5, a3, a4, a6⟩, rfl⟩
    | succ i =>
      obtain ⟨x, pre, post, B', m', d', A', n', c', ks', e1, e2, e3, e4⟩ := ih2 a7 (Nat.lt_of_succ_lt_succ hi)
      refine ⟨x, .cons t b k pre, post, B', m', d', A', n', c', ks', by rw [e1]; rfl, by simp only [Fo.len, e2], e3, ?_⟩
      rw [Nat.add_mul, Nat.one_mul]
      exact e4

theorem Row.lit {x q e N : Nat} {g : Nat → Option Blk} {l : List Value} {ro : Bool} (hq : q < x) (hg : g q = some (.cells l ro)) (hl : l.length = N) : Row x g e (some ⟨q, 0, none⟩) N l :=
  ⟨fun a h => by injection h with h; subst h; exact .inl rfl, hl, fun _ => ⟨_, l, ro, rfl, hq, hg, by simp only; omega, fun i _ => by simp⟩⟩

/-- Cells of a row. -/
theorem Row.load {nx gt e A N l} (h : Row nx gt e A N l) {a : Addr} {cl : List Value} {ro : Bool} (ha : A = some a) (hg : gt a.block = some (.cells cl ro)) {j k : Nat} (hj : j + k ≤ N) (hk : 0 < k) : (cl.drop (a.off + j)).take k = (l.drop j).take k := by
  obtain ⟨a', c, ro', rfl, e2, e3, e4, e5⟩ := h.cells (by omega)
  injection ha with ha
  subst ha
  rw [e3] at hg
  injection hg with hg
  injection hg with h1 h2
  subst h1
  refine List.ext_getElem? fun i => ?_
  rcases Nat.lt_or_ge i k with hi | hi
  · rw [List.getElem?_take_of_lt hi, List.getElem?_take_of_lt hi, List.getElem?_drop, List.getElem?_drop]
    have := e5 (j + i) (by omega)
    rw [List.getD_eq_getElem?_getD, List.getD_eq_getElem?_getD, List.getElem?_eq_getElem (show a'.off + (j + i) < c.length by omega), List.getElem?_eq_getElem (show j + i < l.length by have := h.len; omega)] at this
    rw [List.getElem?_eq_getElem (by omega), List.getElem?_eq_getElem (by have := h.len; omega)]
    simp only [Option.getD_some] at this
    simp only [Nat.add_assoc, this]
  · rw [List.getElem?_eq_none (by simp; omega), List.getElem?_eq_none (by simp; omega)]

namespace Fo
/-- What holds of an element if it holds of those within it. -/
theorem el_ind {p : El → Prop} (h : ∀ x : El, (∀ pre y post, x.k = app pre (.cons y.t y.b y.k post) → p y) → p x) : ∀ x, p x := by
  have key : ∀ (F : Fo) pre y post, F = app pre (.cons y.t y.b y.k post) → p y := by
    intro F
    induction F with
    | nil => intro pre y post e; cases pre <;> cases e
    | cons t b k r ih1 ih2 =>
      intro pre y post e
      cases pre with
      | nil =>
        simp only [app] at e
        injection e with e1 e2 e3 e4
        refine h y fun pre' y' post' e' => ih1 pre' y' post' (by rw [e3]; exact e')
      | cons t' b' k' r' =>
        simp only [app] at e
        injection e with e1 e2 e3 e4
        exact ih2 r' y post e4
  intro x
  exact key x.f .nil x .nil rfl

theorem app_inj : ∀ {p q p' q' : Fo}, p.app q = p'.app q' → p.len = p'.len → p = p' ∧ q = q' := by
  intro p
  induction p with
  | nil =>
    intro q p' q' h hl
    cases p' with
    | nil => exact ⟨rfl, h⟩
    | cons t b k r => simp [len] at hl
  | cons t b k r _ ih =>
    intro q p' q' h hl
    cases p' with
    | nil => simp [len] at hl
    | cons t' b' k' r' =>
      simp only [app] at h
      injection h with h1 h2 h3 h4
      obtain ⟨e1, e2⟩ := ih h4 (by simpa [len] using hl)
      exact ⟨by rw [h1, h2, h3, e1], e2⟩
theorem app_end {F p : Fo} {q : Fo} (h : F = p.app q) (hl : p.len = F.len) : p = F ∧ q = .nil := by
  have := app_inj (p := F) (q := .nil) (p' := p) (q' := q) (by rw [app_nil]; exact h) hl.symm
  exact ⟨this.1.symm, this.2.symm⟩
theorem app_one (p : Fo) (y : El) (q : Fo) : p.app (.cons y.t y.b y.k q) = (p.app y.f).app q := by rw [app_assoc]; rfl

theorem len_ws (f : Fo) : f.len ≤ f.ws := by
  induction f with
  | nil => simp [len]
  | cons t b k r _ ih => simp only [len, ws]; omega
theorem ws_in {F pre post : Fo} {y : El} (h : F = pre.app (.cons y.t y.b y.k post)) : y.f.ws ≤ F.ws := by
  rw [h, ws_app]; simp only [El.f, ws]; omega
end Fo
end Go.Ga

/- What a step comes to is one thing; regions gone through in every order; a slice that a function is handed to append to. -/
namespace Go.Ga
open Go

/-- What the slots hold of the operations that are done. -/
def Held (vals : List (Nat × Nat × Value)) (S : Nat → Bool) (f : Regs) : Prop := ∀ p ∈ vals, S p.1 = true → f p.2.1 = p.2.2
theorem Held.step {vals : List (Nat × Nat × Value)} {S : Nat → Bool} {f : Regs} {i r : Nat} {v : Value} (h : Held vals S f) (hr : ∀ p ∈ vals, (p.1 = i → p.2.1 = r ∧ p.2.2 = v) ∧ (p.1 ≠ i → p.2.1 ≠ r)) : Held vals (fun j => S j || decide (j = i)) (putR f (some r) v) := by
  intro p hp hs
  obtain ⟨h1, h2⟩ := hr p hp
  by_cases hi : p.1 = i
  · obtain ⟨e1, e2⟩ := h1 hi
    rw [e1, e2]; simp [putR]
  · simp only [hi, decide_false, Bool.or_false] at hs
    have := h2 hi
    simp only [putR, if_neg this]
    exact h p hp hs
theorem Held.at {vals : List (Nat × Nat × Value)} {S : Nat → Bool} {f : Regs} (h : Held vals S f) {p : Nat × Nat × Value} (j : Nat) (hj : vals[j]? = some p) (hs : S p.1 = true) : f p.2.1 = p.2.2 := h p (List.mem_of_getElem? hj) hs
/-! ### A slice that is handed on -/
theorem Grow.bar {nx b b' x g e A n l} (h : Grow nx b x g e A n l) (hb : b' ≤ b) : Grow nx b' x g e A n l := by
  rcases h with ⟨h1, h2⟩ | h
  · refine .inl ⟨h1, ?_⟩
    rcases h2 with h2 | ⟨q, e1, e2, e3, e4, e5⟩
    · exact .inl h2
    · exact .inr ⟨q, e1, e2, e3, by omega, e5⟩
  · exact .inr h
theorem Grow.low {nx nx' b x g e A n l} (h : Grow nx b x g e A n l) (hb : nx' ≤ nx) : Grow nx' b x g e A n l := by
  rcases h with ⟨h1, h2⟩ | h
  · refine .inl ⟨h1, ?_⟩
    rcases h2 with h2 | ⟨q, e1, e2, e3, e4, e5⟩
    · exact .inl h2
    · exact .inr ⟨q, e1, by omega, e3, e4, e5⟩
  · exact .inr h

/-- Something is put behind it: a new block; of the others at most its own is gone. -/
theorem grow_fresh {nx b x n k e bytes : Nat} {g : Nat → Option Blk} {A : Option Addr} {l news : List Value} {K : Value → Mem → Prop} (h : Grow nx b x g e A n l) (he : 0 < e) (hk : 0 < k) (hl : news.length = k * e)
    (hv : ∀ v ∈ news, cellVal v = true) (hs : (n + k) * bytes ≤ 140737488355328) (hs' : n + k ≤ 9223372036854775807)
    (hK : ∀ g', (∀ i, i < x → (∀ a e, A = some a → a.spot = some e → a.block ≠ i) → g' i = g i) → g' x = some (.cells (l ++ news) false) → K (.slice (some ⟨x, 0, some e⟩) (n + k) (n + k)) ⟨x + 1, b, g'⟩) :
    appendK e bytes ⟨x, b, g⟩ A n n k news K := by
  have hr : rowOf ⟨x, b, g⟩ A (n * e) = some l := h.row.rowOf
  unfold appendK
  refine ⟨hl, he, hv, ?_⟩
  rw [if_neg (by omega)]
  refine ⟨hs, hs', ?_⟩
  rw [hr]
  rcases h with ⟨h1, h2⟩ | ⟨h1, h2, a, rfl, h3⟩
  · rcases h2 with ⟨rfl, rfl⟩ | ⟨q, rfl, e2, e3, e4, e5⟩
    · exact hK (upd g x (some (.cells (l ++ news) false))) (fun i hi _ => by simp only [upd_e]; rw [if_neg (by omega)]) (by simp only [upd_e, if_true])
    · refine ⟨rfl, e4, ⟨_, e5⟩, ?_⟩
      exact hK (upd (upd g q none) x (some (.cells (l ++ news) false))) (fun i hi hq => by
        have := hq _ _ rfl rfl
        simp only at this
        simp only [upd_e]; rw [if_neg (by omega), if_neg (fun h => this h.symm)]) (by simp only [upd_e, if_true])
  · simp only [h3]
    exact hK (upd g x (some (.cells (l ++ news) false))) (fun i hi _ => by simp only [upd_e]; rw [if_neg (by omega)]) (by simp only [upd_e, if_true])
theorem Grow.own {nx b x q n e : Nat} {g : Nat → Option Blk} {l : List Value} (hl : l.length = n * e) (h1 : nx ≤ q) (h2 : q < x) (h3 : b ≤ q) (h4 : g q = some (.cells l false)) : Grow nx b x g e (some ⟨q, 0, some e⟩) n l :=
  .inl ⟨hl, .inr ⟨q, rfl, h1, h2, h3, h4⟩⟩
theorem Grow.blk {nx b x g e A n l} (h : Grow nx b x g e A n l) : ∀ a e', A = some a → a.spot = some e' → nx ≤ a.block ∧ a.block < x := by
  intro a e' ha hs
  rcases h with ⟨h1, h2⟩ | ⟨h1, h2, a', rfl, h3⟩
  · rcases h2 with ⟨rfl, _⟩ | ⟨q, rfl, e2, e3, e4, e5⟩
    · cases ha
    · injection ha with ha; subst ha; exact ⟨e2, e3⟩
  · injection ha with ha; subst ha; rw [h3] at hs; cases hs

/-- A function that keeps what stands below base alone. -/
def Cb (P : Program) (g : Nat) (args : List Value) (base b nx : Nat) (gt : Nat → Option Blk) (C : Value → Nat → (Nat → Option Blk) → Prop) : Prop :=
  Fn P g args ⟨nx, b, gt⟩ fun res m' => ∃ v, res = .ret v ∧ m'.bar = b ∧ nx ≤ m'.next ∧ (∀ n, n < base → m'.get n = gt n) ∧ C v m'.next m'.get

theorem callB_of {P : Program} {g base : Nat} {args : List Value} {nx b : Nat} {gt : Nat → Option Blk} {C : Value → Nat → (Nat → Option Blk) → Prop} {d : Option Nat} {l : List RO} {f : Regs} {Q : AEx → Regs → Mem → Prop}
    (h : Cb P g args base b nx gt C) (k : ∀ v nx' gt', nx ≤ nx' → (∀ n, n < base → gt' n = gt n) → C v nx' gt' → goOps P l (putR f d v) ⟨nx', b, gt'⟩ Q) : callK P g args d l f ⟨nx, b, gt⟩ Q := by
  refine callK_fn h fun res m' hh => ?_
  obtain ⟨v, rfl, h1, h2, h3, h4⟩ := hh
  have := k v m'.next m'.get h2 h3 h4
  obtain ⟨a1, a2, a3⟩ := m'
  simp only at h1
  subst h1
  exact ⟨v, rfl, this⟩

def endB (rs : List RVar) (base b nx : Nat) (gt : Nat → Option Blk) (C : Value → Nat → (Nat → Option Blk) → Prop) (x : AEx) (f : Regs) (m' : Mem) : Prop :=
  (x = .normal ∨ x = .ret) ∧ asO (resVals f m' rs) fun vs => m'.bar = b ∧ nx ≤ m'.next ∧ (∀ n, n < base → m'.get n = gt n) ∧ C (oneOrTuple vs) m'.next m'.get
theorem endB_r {rs : List RVar} {base b nx : Nat} {gt : Nat → Option Blk} {C} {f : Regs} {nx' b' : Nat} {gt'} : endB rs base b nx gt C .ret f ⟨nx', b', gt'⟩ = asO (resVals f ⟨nx', b', gt'⟩ rs) fun vs => b' = b ∧ nx ≤ nx' ∧ (∀ n, n < base → gt' n = gt n) ∧ C (oneOrTuple vs) nx' gt' := by simp [endB]

theorem Cb.of {P : Program} (hmx : P.follows .mixedOrders = true) {g base b : Nat} {rf : RFn} {T : List Nat} (h : resolveFn P g T = some rf) {args : List Value} (hn : args.length ≤ rf.n) {nx : Nat} {gt : Nat → Option Blk} {C : Value → Nat → (Nat → Option Blk) → Prop}
    (hv : rf.code.vc P (fun i => args.getD i undef) ⟨nx, b, gt⟩ (D P (.top (endB rf.results base b nx gt C)))) : Cb P g args base b nx gt C := by
  refine fn_sound hmx h hn ?_
  have e : D P (.top (endB rf.results base b nx gt C)) = retK rf.results fun res m' => ∃ v, res = .ret v ∧ m'.bar = b ∧ nx ≤ m'.next ∧ (∀ n, n < base → m'.get n = gt n) ∧ C v m'.next m'.get := by
    funext x f m'
    cases x <;> simp [D, endB, retK, asO] <;> (cases resVals f m' rf.results <;> simp)
  rw [← e]
  exact hv
end Go.Ga

/- What an element weighs; are two the same? -/
namespace Go.Ga
open Go Go.Proofs
set_option linter.unusedSimpArgs false
set_option linter.unusedVariables false
set_option maxRecDepth 100000


theorem ct_weigh : ∀ (x : Fo.El) (dp : Nat), dp ≤ 61 → ∀ (nx : Nat) (gt : Nat → Option Blk) (B : Option Addr) (m d : Nat) (A : Option Addr) (n c : Nat) (ks : List Value), NdR nx gt x B m d A n c ks →
    Ct Tryd.prog 41 [nodeV x.t B m d A n c, .int .i64 (dp : Nat)] nx gt fun v _ _ => ∃ w : Nat, v = .int .i64 (w : Nat) ∧ 1 ≤ w ∧ w ≤ 30001 + 30000 * (61 - dp) ∧ (w < 30000 → w = x.f.ws) := by
  refine Fo.el_ind fun x ih dp hdp nx gt B m d A n c ks h => ?_
  refine Ct.of hmx r_lanyardref04_weigh (by simp [c_lanyardref04_weigh]) fun b hb => ?_
  have hF : ∀ q, q < nx → upd gt nx (some (.cells (nodeL x.t B m d A n c) false)) q = gt q := fun q hq => by simp only [upd_e]; rw [if_neg (by omega)]
  have hb0 : upd gt nx (some (.cells (nodeL x.t B m d A n c) false)) nx = some (.cells (nodeL x.t B m d A n c) false) := by simp only [upd_e, if_true]
  have h0 := h.keep (x' := nx + 1) (by omega) hF
  have bw := Fo.bs_ws x.k
  have mw := Fo.ms_ws x.k
  have dw := Fo.ds_ws x.k
  have lw := Fo.len_ws x.k
  have xw : x.f.ws = 1 + x.b.length + x.k.ws := by simp only [Fo.El.f, Fo.ws]; omega
  have hl := h.blen
  have hkl := h.len
  by_cases hd60 : (60 : Int) < (dp : Int)
  · simp only [c_lanyardref04_weigh, ↓gaW, ↓gaV, ↓gaC, ↓gaN, gaP, Nat.reduceEqDiff, Nat.reduceLeDiff, Nat.reduceAdd, Nat.reduceSub, Nat.reduceMul, Int.reduceLT, Int.reduceLE, Int.reduceEq, Int.reduceToNat, Int.reduceAdd, Int.reduceSub, Int.reduceMul, reduceCtorEq, ↓reduceIte, List.getD_cons_zero, List.getD_cons_succ, fillL, splice, List.take_zero, List.drop_zero, List.drop_succ_cons, List.take_succ_cons, List.drop_nil, List.take_nil, gaE, implies_true, Nat.le_refl, Int.sub_zero, Nat.sub_zero, Int.le_refl, true_or, or_true, gaU, hd60, decide_true]
    exact ⟨by omega, hF, 30000, rfl, by omega, by omega, by omega⟩
  simp only [c_lanyardref04_weigh, ↓gaW, ↓gaV, ↓gaC, ↓gaN, gaP, Nat.reduceEqDiff, Nat.reduceLeDiff, Nat.reduceAdd, Nat.reduceSub, Nat.reduceMul, Int.reduceLT, Int.reduceLE, Int.reduceEq, Int.reduceToNat, Int.reduceAdd, Int.reduceSub, Int.reduceMul, reduceCtorEq, ↓reduceIte, List.getD_cons_zero, List.getD_cons_succ, fillL, splice, List.take_zero, List.drop_zero, List.drop_succ_cons, List.take_succ_cons, List.drop_nil, List.take_nil, gaU, hd60, decide_false]
  generalize upd gt nx (some (.cells (nodeL x.t B m d A n c) false)) = g0 at *
  repeat refine And.intro (by omega) ?_
  have hw0 : IntKind.i64.wrap (1 + if (30000 : Int) < (m : Int) then 30000 else (m : Int)) = ((1 + min m 30000 : Nat) : Int) := by
    rw [i64_w _ (by split <;> omega)]; split <;> omega
  refine loop_of (fun j f mm => ∃ (i w x2 : Nat) (g : Nat → Option Blk) (pre post : Fo), j = n - i ∧ i ≤ n ∧ x.k = pre.app post ∧ pre.len = i ∧ 1 + i ≤ w ∧ w ≤ 30001 + 30000 * (61 - dp) ∧ (w < 30000 → w = 1 + m + pre.ws) ∧ f 1 = .int .i64 (dp : Nat) ∧ f 2 = .pointer (some ⟨nx, 0, none⟩) ∧ f 5 = .int .i64 (w : Nat) ∧ f 6 = .int .i64 (i : Nat) ∧
      mm = ⟨x2, b, g⟩ ∧ nx + 1 ≤ x2 ∧ g nx = some (.cells (nodeL x.t B m d A n c) false) ∧ (∀ p, p < nx → g p = gt p)) n ⟨0, 1 + min m 30000, nx + 1, g0, .nil, x.k, by omega, by omega, rfl, rfl, by omega, by omega, by simp only [Fo.ws]; omega, (by first | (simp only [↓gaW, ↓gaV, ↓gaC, ↓gaN, gaP, Nat.reduceEqDiff, Nat.reduceLeDiff, Nat.reduceAdd, Nat.reduceSub, Nat.reduceMul, Int.reduceLT, Int.reduceLE, Int.reduceEq, Int.reduceToNat, Int.reduceAdd, Int.reduceSub, Int.reduceMul, reduceCtorEq, ↓reduceIte]; done) | (simp only [↓gaW, ↓gaV, ↓gaC, ↓gaN, gaP, Nat.reduceEqDiff, Nat.reduceLeDiff, Nat.reduceAdd, Nat.reduceSub, Nat.reduceMul, Int.reduceLT, Int.reduceLE, Int.reduceEq, Int.reduceToNat, Int.reduceAdd, Int.reduceSub, Int.reduceMul, reduceCtorEq, ↓reduceIte]; rfl)), (by first | (simp only [↓gaW, ↓gaV, ↓gaC, ↓gaN, gaP, Nat.reduceEqDiff, Nat.reduceLeDiff, Nat.reduceAdd, Nat.reduceSub, Nat.reduceMul, Int.reduceLT, Int.reduceLE, Int.reduceEq, Int.reduceToNat, Int.reduceAdd, Int.reduceSub, Int.reduceMul, reduceCtorEq, ↓reduceIte]; done) | (simp only [↓gaW, ↓gaV, ↓gaC, ↓gaN, gaP, Nat.reduceEqDiff, Nat.reduceLeDiff, Nat.reduceAdd, Nat.reduceSub, Nat.reduceMul, Int.reduceLT, Int.reduceLE, Int.reduceEq, Int.reduceToNat, Int.reduceAdd, Int.reduceSub, Int.reduceMul, reduceCtorEq, ↓reduceIte]; rfl)), by simp only [↓gaW, ↓gaV, ↓gaC, ↓gaN, gaP, Nat.reduceEqDiff, Nat.reduceLeDiff, Nat.reduceAdd, Nat.reduceSub, Nat.reduceMul, Int.reduceLT, Int.reduceLE, Int.reduceEq, Int.reduceToNat, Int.reduceAdd, Int.reduceSub, Int.reduceMul, reduceCtorEq, ↓reduceIte]; rw [hw0], (by first | (simp only [↓gaW, ↓gaV, ↓gaC, ↓gaN, gaP, Nat.reduceEqDiff, Nat.reduceLeDiff, Nat.reduceAdd, Nat.reduceSub, Nat.reduceMul, Int.reduceLT, Int.reduceLE, Int.reduceEq, Int.reduceToNat, Int.reduceAdd, Int.reduceSub, Int.reduceMul, reduceCtorEq, ↓reduceIte]; done) | (simp only [↓gaW, ↓gaV, ↓gaC, ↓gaN, gaP, Nat.reduceEqDiff, Nat.reduceLeDiff, Nat.reduceAdd, Nat.reduceSub, Nat.reduceMul, Int.reduceLT, Int.reduceLE, Int.reduceEq, Int.reduceToNat, Int.reduceAdd, Int.reduceSub, Int.reduceMul, reduceCtorEq, ↓reduceIte]; rfl)), rfl, by omega, hb0, hF⟩ ?_
  rintro j f mm ⟨i, w, x2, g2, pre, post, hj, hi, e1, e2, hw1, hw2, hw3, f1, f2, f5, f6, rfl, hx2, hb2, F2⟩
  have h2 := h.keep (x' := x2) (by omega) F2
  by_cases hin : (i : Int) < (n : Int)
  · by_cases hw30 : (w : Int) < 30000
    · skip
      obtain ⟨y, pre', post', B', m', d', A', n', c', ks', q1, q2, q3, q4⟩ := h2.kids.at (i := i) (by omega)
      obtain ⟨rfl, rfl⟩ := Fo.app_inj (e1.symm.trans q1) (by omega)
      obtain ⟨a, cl, ro, rfl, r2, r3, r4, r5⟩ := h2.row.cells (by omega)
      have hld := h2.row.load rfl r3 (j := i * 3) (k := 3) (by omega) (by omega)
      rw [q4] at hld
      have w1 : (pre.app y.f).ws + post'.ws = x.k.ws := by rw [q1, Fo.app_one, Fo.ws_app (pre.app y.f)]
      have w2 := Fo.bs_ws (pre.app y.f)
      have w3 := Fo.ms_ws (pre.app y.f)
      have w4 := Fo.ds_ws (pre.app y.f)
      rw [Fo.bs_app] at w2
      rw [Fo.ms_app] at w3
      rw [Fo.ds_app] at w4
      have i3 : IntKind.i64.wrap ((i : Int) + 1) = ((i + 1 : Nat) : Int) := by rw [i64_w _ (by omega)]; omega
      have i4 : IntKind.i64.wrap ((dp : Int) + 1) = ((dp + 1 : Nat) : Int) := by rw [i64_w _ (by omega)]; omega
      simp only [↓gaW, ↓gaV, ↓gaC, ↓gaN, gaP, Nat.reduceEqDiff, Nat.reduceLeDiff, Nat.reduceAdd, Nat.reduceSub, Nat.reduceMul, Int.reduceLT, Int.reduceLE, Int.reduceEq, Int.reduceToNat, Int.reduceAdd, Int.reduceSub, Int.reduceMul, reduceCtorEq, ↓reduceIte, List.getD_cons_zero, List.getD_cons_succ, fillL, splice, List.take_zero, List.drop_zero, List.drop_succ_cons, List.take_succ_cons, List.drop_nil, List.take_nil, f1, f2, f5, f6, hb2, nodeL, List.getD_cons_succ, List.getD_cons_zero, hin, hw30, decide_true, r3, hld, i4]
      repeat refine And.intro (by omega) ?_
      refine callK_of (ih pre y post' q1 (dp + 1) (by omega) _ _ _ _ _ _ _ _ _ q3) (fun v x4 g4 l4 k4 hC => ?_) (by omega)
      obtain ⟨u, rfl, u1, u2, u3⟩ := hC
      have i5 : IntKind.i64.wrap ((w : Int) + (u : Int)) = ((w + u : Nat) : Int) := by rw [i64_w _ (by omega)]; omega
      simp only [↓gaW, ↓gaV, ↓gaC, ↓gaN, gaP, Nat.reduceEqDiff, Nat.reduceLeDiff, Nat.reduceAdd, Nat.reduceSub, Nat.reduceMul, Int.reduceLT, Int.reduceLE, Int.reduceEq, Int.reduceToNat, Int.reduceAdd, Int.reduceSub, Int.reduceMul, reduceCtorEq, ↓reduceIte, gaE, implies_true, Nat.le_refl, Int.sub_zero, Nat.sub_zero, Int.le_refl, true_or, or_true, f6, i3, i5, loopK_n]
      exact ⟨n - (i + 1), by omega, i + 1, w + u, x4, g4, pre.app y.f, post', rfl, by omega, by rw [q1, Fo.app_one], by rw [Fo.len_app]; simp only [Fo.El.f, Fo.len]; omega, by omega, by omega, fun h => by rw [Fo.ws_app, hw3 (by omega), u3 (by omega)]; omega, f1, f2, rfl, rfl, rfl, by omega, by rw [k4 nx (by omega), hb2], fun p hp => by rw [k4 p (by omega), F2 p hp]⟩
    · simp only [↓gaW, ↓gaV, ↓gaC, ↓gaN, gaP, Nat.reduceEqDiff, Nat.reduceLeDiff, Nat.reduceAdd, Nat.reduceSub, Nat.reduceMul, Int.reduceLT, Int.reduceLE, Int.reduceEq, Int.reduceToNat, Int.reduceAdd, Int.reduceSub, Int.reduceMul, reduceCtorEq, ↓reduceIte, gaE, implies_true, Nat.le_refl, Int.sub_zero, Nat.sub_zero, Int.le_refl, true_or, or_true, f1, f2, f5, f6, hb2, nodeL, List.getD_cons_succ, List.getD_cons_zero, hin, hw30, decide_true, decide_false]
      repeat refine And.intro (by omega) ?_
      exact ⟨w, rfl, by omega, by omega, by omega⟩
  · have e : pre.len = x.k.len := by omega
    obtain ⟨rfl, rfl⟩ := Fo.app_end e1 e
    simp only [↓gaW, ↓gaV, ↓gaC, ↓gaN, gaP, Nat.reduceEqDiff, Nat.reduceLeDiff, Nat.reduceAdd, Nat.reduceSub, Nat.reduceMul, Int.reduceLT, Int.reduceLE, Int.reduceEq, Int.reduceToNat, Int.reduceAdd, Int.reduceSub, Int.reduceMul, reduceCtorEq, ↓reduceIte, gaE, implies_true, Nat.le_refl, Int.sub_zero, Nat.sub_zero, Int.le_refl, true_or, or_true, f1, f2, f5, f6, hb2, nodeL, List.getD_cons_succ, List.getD_cons_zero, hin, decide_false]
    repeat refine And.intro (by omega) ?_
    exact ⟨w, rfl, by omega, by omega, fun h => by rw [hw3 h, xw, hl]⟩

theorem ct_Light {x : Fo.El} {nx : Nat} {gt : Nat → Option Blk} {B : Option Addr} {m d : Nat} {A : Option Addr} {n c : Nat} {ks : List Value} (h : NdR nx gt x B m d A n c ks) :
    Ct Tryd.prog 10 [nodeV x.t B m d A n c] nx gt fun v _ _ => ∃ r, v = .bool r ∧ (r = true → x.f.ws < 30000) := by
  refine Ct.of hmx r_lanyardref04_Light (by simp [c_lanyardref04_Light]) fun b hb => ?_
  have hF : ∀ q, q < nx → upd gt nx (some (.cells (nodeL x.t B m d A n c) false)) q = gt q := fun q hq => by simp only [upd_e]; rw [if_neg (by omega)]
  have hb0 : upd gt nx (some (.cells (nodeL x.t B m d A n c) false)) nx = some (.cells (nodeL x.t B m d A n c) false) := by simp only [upd_e, if_true]
  have h0 := h.keep (x' := nx + 1) (by omega) hF
  have bw := Fo.bs_ws x.k
  have mw := Fo.ms_ws x.k
  have dw := Fo.ds_ws x.k
  have lw := Fo.len_ws x.k
  have xw : x.f.ws = 1 + x.b.length + x.k.ws := by simp only [Fo.El.f, Fo.ws]; omega
  have hl := h.blen
  have hkl := h.len
  simp only [c_lanyardref04_Light, ↓gaW, ↓gaV, ↓gaC, ↓gaN, gaP, Nat.reduceEqDiff, Nat.reduceLeDiff, Nat.reduceAdd, Nat.reduceSub, Nat.reduceMul, Int.reduceLT, Int.reduceLE, Int.reduceEq, Int.reduceToNat, Int.reduceAdd, Int.reduceSub, Int.reduceMul, reduceCtorEq, ↓reduceIte, List.getD_cons_zero, List.getD_cons_succ, fillL, splice, List.take_zero, List.drop_zero, List.drop_succ_cons, List.take_succ_cons, List.drop_nil, List.take_nil, gaU]
  generalize upd gt nx (some (.cells (nodeL x.t B m d A n c) false)) = g0 at *
  repeat refine And.intro (by omega) ?_
  refine callK_of (ct_weigh x 0 (by omega) _ _ _ _ _ _ _ _ _ h0) (fun v x1 g1 l1 k1 hC => ?_) (by omega)
  obtain ⟨w, rfl, w1, w2, w3⟩ := hC
  simp only [↓gaW, ↓gaV, ↓gaC, ↓gaN, gaP, Nat.reduceEqDiff, Nat.reduceLeDiff, Nat.reduceAdd, Nat.reduceSub, Nat.reduceMul, Int.reduceLT, Int.reduceLE, Int.reduceEq, Int.reduceToNat, Int.reduceAdd, Int.reduceSub, Int.reduceMul, reduceCtorEq, ↓reduceIte, gaE, implies_true, Nat.le_refl, Int.sub_zero, Nat.sub_zero, Int.le_refl, true_or, or_true]
  exact ⟨by omega, fun p hp => by rw [k1 p (by omega), hF p hp], _, rfl, fun h => by rw [decide_eq_true_iff] at h; rw [← w3 (by omega)]; omega⟩

theorem El_eq {x y : Fo.El} : x = y ↔ x.t = y.t ∧ x.b = y.b ∧ x.k = y.k := by
  cases x; cases y; simp

theorem ct_Same : ∀ (x : Fo.El), x.f.ws < 1000000000000 → ∀ (y : Fo.El) (nx : Nat) (gt : Nat → Option Blk) (B : Option Addr) (m d : Nat) (A : Option Addr) (n c : Nat) (ks : List Value) (B2 : Option Addr) (m2 d2 : Nat) (A2 : Option Addr) (n2 c2 : Nat) (ks2 : List Value), NdR nx gt x B m d A n c ks → NdR nx gt y B2 m2 d2 A2 n2 c2 ks2 →
    Ct Tryd.prog 11 [nodeV x.t B m d A n c, nodeV y.t B2 m2 d2 A2 n2 c2] nx gt fun v _ _ => ∃ r, v = .bool r ∧ (r = true ↔ x = y) := by
  refine Fo.el_ind fun x ih hw z nx gt B m d A n c ks B2 m2 d2 A2 n2 c2 ks2 h hz => ?_
  refine Ct.of hmx r_lanyardref04_Same (by simp [c_lanyardref04_Same]) fun b hb => ?_
  have bw := Fo.bs_ws x.k
  have mw := Fo.ms_ws x.k
  have dw := Fo.ds_ws x.k
  have lw := Fo.len_ws x.k
  have xw : x.f.ws = 1 + x.b.length + x.k.ws := by simp only [Fo.El.f, Fo.ws]; omega
  have hl := h.blen
  have hkl := h.len
  have hlz := hz.blen
  have hkz := hz.len
  have hF : ∀ q, q < nx → upd (upd gt nx (some (.cells (nodeL x.t B m d A n c) false))) (nx + 1) (some (.cells (nodeL z.t B2 m2 d2 A2 n2 c2) false)) q = gt q := fun q hq => by simp only [upd_e]; rw [if_neg (by omega), if_neg (by omega)]
  have hb0 : upd (upd gt nx (some (.cells (nodeL x.t B m d A n c) false))) (nx + 1) (some (.cells (nodeL z.t B2 m2 d2 A2 n2 c2) false)) nx = some (.cells (nodeL x.t B m d A n c) false) := by simp only [upd_e, if_true]; rw [if_neg (by omega)]
  have hb1 : upd (upd gt nx (some (.cells (nodeL x.t B m d A n c) false))) (nx + 1) (some (.cells (nodeL z.t B2 m2 d2 A2 n2 c2) false)) (nx + 1) = some (.cells (nodeL z.t B2 m2 d2 A2 n2 c2) false) := by simp only [upd_e, if_true]
  have hnn : (nx = nx + 1) = False := by simp
  have h0 := h.keep (x' := nx + 1 + 1) (by omega) hF
  have hz0 := hz.keep (x' := nx + 1 + 1) (by omega) hF
  simp only [c_lanyardref04_Same, ↓gaW, ↓gaV, ↓gaC, ↓gaN, gaP, Nat.reduceEqDiff, Nat.reduceLeDiff, Nat.reduceAdd, Nat.reduceSub, Nat.reduceMul, Int.reduceLT, Int.reduceLE, Int.reduceEq, Int.reduceToNat, Int.reduceAdd, Int.reduceSub, Int.reduceMul, reduceCtorEq, ↓reduceIte, List.getD_cons_zero, List.getD_cons_succ, fillL, splice, List.take_zero, List.drop_zero, List.drop_succ_cons, List.take_succ_cons, List.drop_nil, List.take_nil, gaU, hnn]
  by_cases ht : x.t = z.t
  case neg =>
    simp only [↓gaW, ↓gaV, ↓gaC, ↓gaN, gaP, Nat.reduceEqDiff, Nat.reduceLeDiff, Nat.reduceAdd, Nat.reduceSub, Nat.reduceMul, Int.reduceLT, Int.reduceLE, Int.reduceEq, Int.reduceToNat, Int.reduceAdd, Int.reduceSub, Int.reduceMul, reduceCtorEq, ↓reduceIte, gaE, implies_true, Nat.le_refl, Int.sub_zero, Nat.sub_zero, Int.le_refl, true_or, or_true, ht, decide_false, Bool.not_false]
    repeat refine And.intro (by omega) ?_
    refine ⟨hF, false, rfl, ?_⟩
    simp only [Bool.false_eq_true, false_iff]
    exact fun h => ht (by rw [h])
  generalize upd (upd gt nx (some (.cells (nodeL x.t B m d A n c) false))) (nx + 1) (some (.cells (nodeL z.t B2 m2 d2 A2 n2 c2) false)) = g0 at *
  have e1 : rowOf ⟨nx + 1 + 1, b, g0⟩ B m = some (x.b.map u8V) := h0.body.rowOf
  have e2 : rowOf ⟨nx + 1 + 1, b, g0⟩ B2 m2 = some (z.b.map u8V) := hz0.body.rowOf
  by_cases hbq : x.b = z.b
  case neg =>
    have e3 : (x.b == z.b) = false := by simpa using hbq
    simp only [↓gaW, ↓gaV, ↓gaC, ↓gaN, gaP, Nat.reduceEqDiff, Nat.reduceLeDiff, Nat.reduceAdd, Nat.reduceSub, Nat.reduceMul, Int.reduceLT, Int.reduceLE, Int.reduceEq, Int.reduceToNat, Int.reduceAdd, Int.reduceSub, Int.reduceMul, reduceCtorEq, ↓reduceIte, gaE, implies_true, Nat.le_refl, Int.sub_zero, Nat.sub_zero, Int.le_refl, true_or, or_true, ht, decide_true, Bool.not_true, hb0, hb1, nodeL, List.getD_cons_succ, List.getD_cons_zero, e1, e2, bytesOf_map, str_eq, e3, Bool.not_false]
    repeat refine And.intro (by omega) ?_
    refine ⟨false, rfl, ?_⟩
    simp only [Bool.false_eq_true, false_iff]
    exact fun h => hbq (by rw [h])
  have e3 : (x.b == z.b) = true := by simpa using hbq
  by_cases hnn2 : (n : Int) = (n2 : Int)
  case neg =>
    simp only [↓gaW, ↓gaV, ↓gaC, ↓gaN, gaP, Nat.reduceEqDiff, Nat.reduceLeDiff, Nat.reduceAdd, Nat.reduceSub, Nat.reduceMul, Int.reduceLT, Int.reduceLE, Int.reduceEq, Int.reduceToNat, Int.reduceAdd, Int.reduceSub, Int.reduceMul, reduceCtorEq, ↓reduceIte, gaE, implies_true, Nat.le_refl, Int.sub_zero, Nat.sub_zero, Int.le_refl, true_or, or_true, ht, decide_true, Bool.not_true, hb0, hb1, nodeL, List.getD_cons_succ, List.getD_cons_zero, e1, e2, bytesOf_map, str_eq, e3, Bool.not_false, hnn2, decide_false]
    repeat refine And.intro (by omega) ?_
    refine ⟨false, rfl, ?_⟩
    simp only [Bool.false_eq_true, false_iff]
    exact fun h => hnn2 (by rw [hkl, hkz, h])
  have hn2 : n2 = n := by omega
  subst hn2
  simp only [↓gaW, ↓gaV, ↓gaC, ↓gaN, gaP, Nat.reduceEqDiff, Nat.reduceLeDiff, Nat.reduceAdd, Nat.reduceSub, Nat.reduceMul, Int.reduceLT, Int.reduceLE, Int.reduceEq, Int.reduceToNat, Int.reduceAdd, Int.reduceSub, Int.reduceMul, reduceCtorEq, ↓reduceIte, gaE, implies_true, Nat.le_refl, Int.sub_zero, Nat.sub_zero, Int.le_refl, true_or, or_true, ht, decide_true, Bool.not_true, hb0, hb1, nodeL, List.getD_cons_succ, List.getD_cons_zero, e1, e2, bytesOf_map, str_eq, e3]
  repeat refine And.intro (by omega) ?_
  have hxz : x = z ↔ x.k = z.k := by rw [El_eq]; simp [ht, hbq]
  refine loop_of (fun j f mm => ∃ (i x2 : Nat) (g : Nat → Option Blk) (pre post post2 : Fo), j = n2 - i ∧ i ≤ n2 ∧ x.k = pre.app post ∧ z.k = pre.app post2 ∧ pre.len = i ∧ f 2 = .pointer (some ⟨nx, 0, none⟩) ∧ f 3 = .pointer (some ⟨nx + 1, 0, none⟩) ∧ f 5 = .int .i64 (i : Nat) ∧
      mm = ⟨x2, b, g⟩ ∧ nx + 1 + 1 ≤ x2 ∧ g nx = some (.cells (nodeL x.t B m d A n2 c) false) ∧ g (nx + 1) = some (.cells (nodeL z.t B2 m2 d2 A2 n2 c2) false) ∧ (∀ p, p < nx → g p = gt p)) n2 ⟨0, nx + 1 + 1, g0, .nil, x.k, z.k, by omega, by omega, rfl, rfl, rfl, (by first | (simp only [↓gaW, ↓gaV, ↓gaC, ↓gaN, gaP, Nat.reduceEqDiff, Nat.reduceLeDiff, Nat.reduceAdd, Nat.reduceSub, Nat.reduceMul, Int.reduceLT, Int.reduceLE, Int.reduceEq, Int.reduceToNat, Int.reduceAdd, Int.reduceSub, Int.reduceMul, reduceCtorEq, ↓reduceIte]; done) | (simp only [↓gaW, ↓gaV, ↓gaC, ↓gaN, gaP, Nat.reduceEqDiff, Nat.reduceLeDiff, Nat.reduceAdd, Nat.reduceSub, Nat.reduceMul, Int.reduceLT, Int.reduceLE, Int.reduceEq, Int.reduceToNat, Int.reduceAdd, Int.reduceSub, Int.reduceMul, reduceCtorEq, ↓reduceIte]; rfl)), (by first | (simp only [↓gaW, ↓gaV, ↓gaC, ↓gaN, gaP, Nat.reduceEqDiff, Nat.reduceLeDiff, Nat.reduceAdd, Nat.reduceSub, Nat.reduceMul, Int.reduceLT, Int.reduceLE, Int.reduceEq, Int.reduceToNat, Int.reduceAdd, Int.reduceSub, Int.reduceMul, reduceCtorEq, ↓reduceIte]; done) | (simp only [↓gaW, ↓gaV, ↓gaC, ↓gaN, gaP, Nat.reduceEqDiff, Nat.reduceLeDiff, Nat.reduceAdd, Nat.reduceSub, Nat.reduceMul, Int.reduceLT, Int.reduceLE, Int.reduceEq, Int.reduceToNat, Int.reduceAdd, Int.reduceSub, Int.reduceMul, reduceCtorEq, ↓reduceIte]; rfl)), (by first | (simp only [↓gaW, ↓gaV, ↓gaC, ↓gaN, gaP, Nat.reduceEqDiff, Nat.reduceLeDiff, Nat.reduceAdd, Nat.reduceSub, Nat.reduceMul, Int.reduceLT, Int.reduceLE, Int.reduceEq, Int.reduceToNat, Int.reduceAdd, Int.reduceSub, Int.reduceMul, reduceCtorEq, ↓reduceIte]; done) | (simp only [↓gaW, ↓gaV, ↓gaC, ↓gaN, gaP, Nat.reduceEqDiff, Nat.reduceLeDiff, Nat.reduceAdd, Nat.reduceSub, Nat.reduceMul, Int.reduceLT, Int.reduceLE, Int.reduceEq, Int.reduceToNat, Int.reduceAdd, Int.reduceSub, Int.reduceMul, reduceCtorEq, ↓reduceIte]; rfl)), rfl, by omega, hb0, hb1, hF⟩ ?_
  rintro j f mm ⟨i, x2, g2, pre, post, pos2, hj, hi, e1, e2, e3, f2, f3, f5, rfl, hx2, hb2, hb3, F2⟩
  have h2 := h.keep (x' := x2) (by omega) F2
  have hz2 := hz.keep (x' := x2) (by omega) F2
  by_cases hin : (i : Int) < (n2 : Int)
  · obtain ⟨y, pre', post', B', m', d', A', n', c', ks', q1, q2, q3, q4⟩ := h2.kids.at (i := i) (by omega)
    obtain ⟨rfl, rfl⟩ := Fo.app_inj (e1.symm.trans q1) (by omega)
    obtain ⟨a, cl, ro, rfl, r2, r3, r4, r5⟩ := h2.row.cells (by omega)
    have hld := h2.row.load rfl r3 (j := i * 3) (k := 3) (by omega) (by omega)
    rw [q4] at hld
    obtain ⟨y', pre', post2', B'2, m'2, d'2, A'2, n'2, c'2, ks'2, s1, s2, s3, s4⟩ := hz2.kids.at (i := i) (by omega)
    obtain ⟨rfl, rfl⟩ := Fo.app_inj (e2.symm.trans s1) (by omega)
    obtain ⟨a2, cl2, ro2, rfl, t2, t3, t4, t5⟩ := hz2.row.cells (by omega)
    have hld2 := hz2.row.load rfl t3 (j := i * 3) (k := 3) (by omega) (by omega)
    rw [s4] at hld2
    have i3 : IntKind.i64.wrap ((i : Int) + 1) = ((i + 1 : Nat) : Int) := by rw [i64_w _ (by omega)]; omega
    simp only [↓gaW, ↓gaV, ↓gaC, ↓gaN, gaP, Nat.reduceEqDiff, Nat.reduceLeDiff, Nat.reduceAdd, Nat.reduceSub, Nat.reduceMul, Int.reduceLT, Int.reduceLE, Int.reduceEq, Int.reduceToNat, Int.reduceAdd, Int.reduceSub, Int.reduceMul, reduceCtorEq, ↓reduceIte, List.getD_cons_zero, List.getD_cons_succ, fillL, splice, List.take_zero, List.drop_zero, List.drop_succ_cons, List.take_succ_cons, List.drop_nil, List.take_nil, f2, f3, f5, hb2, hb3, nodeL, List.getD_cons_succ, List.getD_cons_zero, hin, decide_true, r3, t3, hld, hld2]
    repeat refine And.intro (by omega) ?_
    refine callK_of (ih pre y post' q1 (by have := Fo.ws_in q1; omega) y' _ _ _ _ _ _ _ _ _ _ _ _ _ _ _ _ q3 s3) (fun v x4 g4 l4 k4 hC => ?_) (by omega)
    obtain ⟨r, rfl, hr⟩ := hC
    cases r with
    | false =>
      simp only [↓gaW, ↓gaV, ↓gaC, ↓gaN, gaP, Nat.reduceEqDiff, Nat.reduceLeDiff, Nat.reduceAdd, Nat.reduceSub, Nat.reduceMul, Int.reduceLT, Int.reduceLE, Int.reduceEq, Int.reduceToNat, Int.reduceAdd, Int.reduceSub, Int.reduceMul, reduceCtorEq, ↓reduceIte, gaE, implies_true, Nat.le_refl, Int.sub_zero, Nat.sub_zero, Int.le_refl, true_or, or_true, Bool.not_false, loopK_r]
      refine ⟨by omega, fun p hp => by rw [k4 p (by omega), F2 p hp], false, rfl, ?_⟩
      simp only [Bool.false_eq_true, false_iff] at hr ⊢
      intro hq
      rw [hq, s1] at q1
      have := (Fo.app_inj q1 rfl).2
      injection this with p1 p2 p3 p4
      exact hr (El_eq.2 ⟨p1.symm, p2.symm, p3.symm⟩)
    | true =>
      have hyy := hr.1 rfl
      subst hyy
      simp only [↓gaW, ↓gaV, ↓gaC, ↓gaN, gaP, Nat.reduceEqDiff, Nat.reduceLeDiff, Nat.reduceAdd, Nat.reduceSub, Nat.reduceMul, Int.reduceLT, Int.reduceLE, Int.reduceEq, Int.reduceToNat, Int.reduceAdd, Int.reduceSub, Int.reduceMul, reduceCtorEq, ↓reduceIte, gaE, implies_true, Nat.le_refl, Int.sub_zero, Nat.sub_zero, Int.le_refl, true_or, or_true, Bool.not_true, f5, i3, loopK_n]
      exact ⟨n2 - (i + 1), by omega, i + 1, x4, g4, pre.app y.f, post', post2', rfl, by omega, by rw [q1, Fo.app_one], by rw [s1, Fo.app_one], by rw [Fo.len_app]; simp only [Fo.El.f, Fo.len]; omega, f2, f3, rfl, rfl, by omega, by rw [k4 nx (by omega), hb2], by rw [k4 (nx + 1) (by omega), hb3], fun p hp => by rw [k4 p (by omega), F2 p hp]⟩
  · have e : pre.len = x.k.len := by omega
    obtain ⟨rfl, rfl⟩ := Fo.app_end e1 e
    obtain ⟨h3, _⟩ := Fo.app_end e2 (by omega)
    simp only [↓gaW, ↓gaV, ↓gaC, ↓gaN, gaP, Nat.reduceEqDiff, Nat.reduceLeDiff, Nat.reduceAdd, Nat.reduceSub, Nat.reduceMul, Int.reduceLT, Int.reduceLE, Int.reduceEq, Int.reduceToNat, Int.reduceAdd, Int.reduceSub, Int.reduceMul, reduceCtorEq, ↓reduceIte, gaE, implies_true, Nat.le_refl, Int.sub_zero, Nat.sub_zero, Int.le_refl, true_or, or_true, f2, f3, f5, hb2, hb3, nodeL, List.getD_cons_succ, List.getD_cons_zero, hin, decide_false]
    repeat refine And.intro (by omega) ?_
    exact ⟨true, rfl, by simp only [true_iff]; exact hxz.2 h3⟩
end Go.Ga

/- Elements that a function makes: they lie in new blocks. -/
namespace Go.Ga
open Go

/-- A row in a block from lo on. -/
def RowL (lo nx : Nat) (gt : Nat → Option Blk) (e : Nat) (A : Option Addr) (N : Nat) (l : List Value) : Prop := Row nx gt e A N l ∧ (0 < N → ∀ a, A = some a → lo ≤ a.block)
theorem RowL.nil {lo nx gt e} : RowL lo nx gt e none 0 [] := ⟨.nil, fun h => absurd h (Nat.lt_irrefl 0)⟩
theorem RowL.keep {lo nx gt e A N l nx' gt'} (h : RowL lo nx gt e A N l) (h1 : nx ≤ nx') (h2 : ∀ p, lo ≤ p → p < nx → gt' p = gt p) : RowL lo nx' gt' e A N l := by
  refine ⟨⟨h.1.spot, h.1.len, fun hN => ?_⟩, h.2⟩
  obtain ⟨a, c, ro, e1, e2, e3, e4, e5⟩ := h.1.cells hN
  exact ⟨a, c, ro, e1, by omega, by rw [h2 _ (h.2 hN a e1) e2, e3], e4, e5⟩
theorem RowL.wid {lo lo' nx gt e A N l} (h : RowL lo nx gt e A N l) (h1 : lo' ≤ lo) : RowL lo' nx gt e A N l := ⟨h.1, fun hN a ha => Nat.le_trans h1 (h.2 hN a ha)⟩

def FoL (lo nx : Nat) (gt : Nat → Option Blk) : Fo → List Value → Prop
  | .nil, cs => cs = []
  | .cons t b k r, cs => ∃ (B : Option Addr) (m d : Nat) (A : Option Addr) (n c : Nat) (ks cs' : List Value), cs = .int .i64 t :: .slice B m d :: .slice A n c :: cs' ∧ (-9223372036854775808 ≤ t ∧ t ≤ 9223372036854775807) ∧ m ≤ d ∧ RowL lo nx gt 1 B m (b.map u8V) ∧ n ≤ c ∧ n = k.len ∧ RowL lo nx gt 3 A (n * 3) ks ∧ FoL lo nx gt k ks ∧ FoL lo nx gt r cs'

theorem FoL.keep {lo nx x : Nat} {gt g : Nat → Option Blk} (h1 : nx ≤ x) (h2 : ∀ p, lo ≤ p → p < nx → g p = gt p) : ∀ {F : Fo} {cs : List Value}, FoL lo nx gt F cs → FoL lo x g F cs := by
  intro F
  induction F with
  | nil => intro cs h; exact h
  | cons t b k r ih1 ih2 =>
    rintro cs ⟨B, m, d, A, n, c, ks, cs', rfl, a0, a1, a2, a3, a4, a5, a6, a7⟩
    exact ⟨B, m, d, A, n, c, ks, cs', rfl, a0, a1, a2.keep h1 h2, a3, a4, a5.keep h1 h2, ih1 a6, ih2 a7⟩
theorem FoL.wid {lo lo' nx : Nat} {gt : Nat → Option Blk} (h1 : lo' ≤ lo) : ∀ {F : Fo} {cs : List Value}, FoL lo nx gt F cs → FoL lo' nx gt F cs := by
  intro F
  induction F with
  | nil => intro cs h; exact h
  | cons t b k r ih1 ih2 =>
    rintro cs ⟨B, m, d, A, n, c, ks, cs', rfl, a0, a1, a2, a3, a4, a5, a6, a7⟩
    exact ⟨B, m, d, A, n, c, ks, cs', rfl, a0, a1, a2.wid h1, a3, a4, a5.wid h1, ih1 a6, ih2 a7⟩
theorem FoL.r {lo nx : Nat} {gt : Nat → Option Blk} : ∀ {F : Fo} {cs : List Value}, FoL lo nx gt F cs → FoR nx gt F cs := by
  intro F
  induction F with
  | nil => intro cs h; exact h
  | cons t b k r ih1 ih2 =>
    rintro cs ⟨B, m, d, A, n, c, ks, cs', rfl, a0, a1, a2, a3, a4, a5, a6, a7⟩
    exact ⟨B, m, d, A, n, c, ks, cs', rfl, a0, a1, a2.1, a3, a4, a5.1, ih1 a6, ih2 a7⟩
theorem FoL.app {lo nx : Nat} {gt : Nat → Option Blk} : ∀ {F : Fo} {cs : List Value} {G : Fo} {ds : List Value}, FoL lo nx gt F cs → FoL lo nx gt G ds → FoL lo nx gt (F.app G) (cs ++ ds) := by
  intro F
  induction F with
  | nil => intro cs G ds h k; rw [show cs = [] from h]; exact k
  | cons t b k r ih1 ih2 =>
    rintro cs G ds ⟨B, m, d, A, n, c, ks, cs', rfl, a0, a1, a2, a3, a4, a5, a6, a7⟩ h
    exact ⟨B, m, d, A, n, c, ks, cs' ++ ds, rfl, a0, a1, a2, a3, a4, a5, a6, ih2 a7 h⟩

structure NdL (lo nx : Nat) (gt : Nat → Option Blk) (x : Fo.El) (B : Option Addr) (m d : Nat) (A : Option Addr) (n c : Nat) (ks : List Value) : Prop where
  tg : -9223372036854775808 ≤ x.t ∧ x.t ≤ 9223372036854775807
  body : RowL lo nx gt 1 B m (x.b.map u8V)
  md : m ≤ d
  row : RowL lo nx gt 3 A (n * 3) ks
  nc : n ≤ c
  len : n = x.k.len
  kids : FoL lo nx gt x.k ks
theorem NdL.keep {lo nx x' : Nat} {gt g : Nat → Option Blk} {x B m d A n c ks} (h : NdL lo nx gt x B m d A n c ks) (h1 : nx ≤ x') (h2 : ∀ p, lo ≤ p → p < nx → g p = gt p) : NdL lo x' g x B m d A n c ks :=
  ⟨h.tg, h.body.keep h1 h2, h.md, h.row.keep h1 h2, h.nc, h.len, h.kids.keep h1 h2⟩
theorem NdL.wid {lo lo' nx : Nat} {gt : Nat → Option Blk} {x B m d A n c ks} (h : NdL lo nx gt x B m d A n c ks) (h1 : lo' ≤ lo) : NdL lo' nx gt x B m d A n c ks :=
  ⟨h.tg, h.body.wid h1, h.md, h.row.wid h1, h.nc, h.len, h.kids.wid h1⟩
theorem NdL.r {lo nx : Nat} {gt : Nat → Option Blk} {x B m d A n c ks} (h : NdL lo nx gt x B m d A n c ks) : NdR nx gt x B m d A n c ks :=
  ⟨h.tg, h.body.1, h.md, h.row.1, h.nc, h.len, h.kids.r⟩
theorem NdL.zero {lo nx : Nat} {gt : Nat → Option Blk} : NdL lo nx gt ⟨0, [], .nil⟩ none 0 0 none 0 0 [] := ⟨by simp, .nil, Nat.le_refl _, .nil, Nat.le_refl _, rfl, rfl⟩
theorem NdL.one {lo nx : Nat} {gt : Nat → Option Blk} {x B m d A n c ks} (h : NdL lo nx gt x B m d A n c ks) : FoL lo nx gt x.f (nodeL x.t B m d A n c) :=
  ⟨B, m, d, A, n, c, ks, [], rfl, h.tg, h.md, h.body, h.nc, h.len, h.row, h.kids, rfl⟩

theorem Own.rowL {nx b x g e A n l} (h : Own nx b x g e A n l) : RowL nx x g e A (n * e) l := by
  refine ⟨h.row, fun hN a ha => ?_⟩
  rcases h.2 with ⟨rfl, rfl⟩ | ⟨q, rfl, e2, e3, e4, e5⟩
  · cases ha
  · injection ha with ha; subst ha; exact e2
theorem Own.of {nx b x q n e : Nat} {g : Nat → Option Blk} {l : List Value} (hl : l.length = n * e) (h1 : nx ≤ q) (h2 : q < x) (h3 : b ≤ q) (h4 : g q = some (.cells l false)) : Own nx b x g e (some ⟨q, 0, some e⟩) n l :=
  ⟨hl, .inr ⟨q, rfl, h1, h2, h3, h4⟩⟩
theorem Own.blk {nx b x g e A n l} (h : Own nx b x g e A n l) : ∀ a e', A = some a → a.spot = some e' → nx ≤ a.block ∧ a.block < x := by
  intro a e' ha hs
  rcases h.2 with ⟨rfl, rfl⟩ | ⟨q, rfl, e2, e3, e4, e5⟩
  · cases ha
  · injection ha with ha; subst ha; exact ⟨e2, e3⟩
theorem FoL.len {lo nx : Nat} {gt : Nat → Option Blk} {F : Fo} {cs : List Value} (h : FoL lo nx gt F cs) : cs.length = F.len * 3 := h.r.len

/-- What is put behind an empty literal. -/
theorem app_lit {x b z k e bytes : Nat} {g : Nat → Option Blk} {news : List Value} {K : Value → Mem → Prop} (hz : z < x) (hg : g z = some (.cells [] false)) (he : 0 < e) (hl : news.length = k * e)
    (hv : ∀ v ∈ news, cellVal v = true) (hs : k * bytes ≤ 140737488355328) (hs' : k ≤ 9223372036854775807)
    (hK : ∀ A' x' g', x ≤ x' → (∀ i, i < x → g' i = g i) → RowL x x' g' e A' (k * e) news → K (.slice A' k k) ⟨x', b, g'⟩) :
    appendK e bytes ⟨x, b, g⟩ (some ⟨z, 0, none⟩) 0 0 k news K := by
  have G : Grow x b x g e (some ⟨z, 0, none⟩) 0 [] := Grow.lit (ro := false) hz hg (by simp)
  by_cases hk : k = 0
  · subst hk
    have hn : news = [] := List.eq_nil_of_length_eq_zero (by simpa using hl)
    subst hn
    have := hK (some ⟨z, 0, none⟩) x g (Nat.le_refl _) (fun _ _ => rfl) ⟨by simpa using G.row, fun h => absurd h (by simp)⟩
    unfold appendK
    refine ⟨by simp, he, by simp, ?_⟩
    rw [if_pos (by omega)]
    simpa using this
  · refine grow_fresh G he (by omega) hl hv (by simpa using hs) (by omega) fun g' h1 h2 => ?_
    have := hK (some ⟨x, 0, some e⟩) (x + 1) g' (Nat.le_succ _) (fun i hi => h1 i hi (fun a e' ha hs => by injection ha with ha; subst ha; cases hs)) ⟨⟨fun a h => by injection h with h; subst h; exact .inr rfl, hl, fun _ => ⟨_, _, false, rfl, by simp only; omega, h2, by simp [hl], fun i _ => by simp⟩⟩, fun _ a ha => by injection ha with ha; subst ha; exact Nat.le_refl _⟩
    simpa using this

/-- Bytes in a new block. -/
def ByL (lo nx : Nat) (g : Nat → Option Blk) (v : Value) (l : List UInt8) : Prop := ∃ (A : Option Addr) (n c : Nat), v = .slice A n c ∧ n ≤ c ∧ l.length = n ∧ RowL lo nx g 1 A n (l.map u8V)
theorem ByL.keep {lo nx x : Nat} {gt g : Nat → Option Blk} {v : Value} {l : List UInt8} (h : ByL lo nx gt v l) (h1 : nx ≤ x) (h2 : ∀ p, lo ≤ p → p < nx → g p = gt p) : ByL lo x g v l := by
  obtain ⟨A, n, c, e1, e2, e3, e4⟩ := h
  exact ⟨A, n, c, e1, e2, e3, e4.keep h1 h2⟩
theorem ByL.nil {lo nx : Nat} {g : Nat → Option Blk} : ByL lo nx g (.slice none 0 0) [] := ⟨none, 0, 0, rfl, Nat.le_refl _, rfl, .nil⟩
theorem app_litN {x b z n k e bytes : Nat} {g : Nat → Option Blk} {l news : List Value} {K : Value → Mem → Prop} (hz : z < x) (hg : g z = some (.cells l false)) (hn : l.length = n * e) (he : 0 < e) (hl : news.length = k * e)
    (hv : ∀ v ∈ news, cellVal v = true) (hs : (n + k) * bytes ≤ 140737488355328) (hs' : n + k ≤ 9223372036854775807)
    (hK : ∀ A' x' g', x ≤ x' → (∀ i, i < x → g' i = g i) → RowL z x' g' e A' ((n + k) * e) (l ++ news) → K (.slice A' (n + k) (n + k)) ⟨x', b, g'⟩) :
    appendK e bytes ⟨x, b, g⟩ (some ⟨z, 0, none⟩) n n k news K := by
  have G : Grow x b x g e (some ⟨z, 0, none⟩) n l := Grow.lit (ro := false) hz hg hn
  by_cases hk : k = 0
  · subst hk
    have hn0 : news = [] := List.eq_nil_of_length_eq_zero (by simpa using hl)
    subst hn0
    have := hK (some ⟨z, 0, none⟩) x g (Nat.le_refl _) (fun _ _ => rfl) ⟨by simpa using G.row, fun _ a ha => by injection ha with ha; subst ha; exact Nat.le_refl _⟩
    unfold appendK
    refine ⟨by simp, he, by simp, ?_⟩
    rw [if_pos (by omega)]
    simpa using this
  · refine grow_fresh G he (by omega) hl hv hs (by omega) fun g' h1 h2 => ?_
    exact hK (some ⟨x, 0, some e⟩) (x + 1) g' (Nat.le_succ _) (fun i hi => h1 i hi (fun a e' ha hs => by injection ha with ha; subst ha; cases hs)) ⟨⟨fun a h => by injection h with h; subst h; exact .inr rfl, by simp [hn, hl, Nat.add_mul], fun _ => ⟨_, _, false, rfl, by simp only; omega, h2, by simp [hn, hl, Nat.add_mul], fun i _ => by simp⟩⟩, fun _ a ha => by injection ha with ha; subst ha; simp only; omega⟩

namespace Fo
end Fo
end Go.Ga

/- Bytes without noughts ahead; are bytes, elements alike? -/
namespace Go.Ga
open Go Go.Proofs
set_option linter.unusedSimpArgs false
set_option linter.unusedVariables false
set_option maxRecDepth 100000
attribute [local irreducible] appendK

def bare (l : List UInt8) : List UInt8 := l.dropWhile (· == 0)
theorem bare_nil : bare [] = [] := rfl
theorem bare_0 (l : List UInt8) : bare (0 :: l) = bare l := rfl
theorem bare_n {x : UInt8} (h : x ≠ 0) (l : List UInt8) : bare (x :: l) = x :: l := by
  simp [bare, List.dropWhile_cons, h]
theorem bare_len (l : List UInt8) : (bare l).length ≤ l.length := by
  induction l with
  | nil => exact Nat.le_refl _
  | cons x l ih =>
    by_cases h : x = 0
    · subst h; rw [bare_0]; simp only [List.length_cons]; omega
    · rw [bare_n h]; exact Nat.le_refl _

section
variable {nx : Nat} {gt : Nat → Option Blk}

theorem ct_Equal {A B : Option Addr} {n c m d : Nat} {l k : List UInt8} (hA : Row nx gt 1 A n (l.map u8V)) (hB : Row nx gt 1 B m (k.map u8V)) :
    Ct Tryd.prog 86 [.slice A n c, .slice B m d] nx gt fun v _ _ => v = .bool (l == k) := by
  refine Ct.of hmx r_bytes_Equal (by simp [c_bytes_Equal]) fun b hb => ?_
  have e1 : rowOf ⟨nx, b, gt⟩ A n = some (l.map u8V) := hA.rowOf
  have e2 : rowOf ⟨nx, b, gt⟩ B m = some (k.map u8V) := hB.rowOf
  simp only [c_bytes_Equal, ↓gaW, ↓gaV, ↓gaC, ↓gaN, gaP, Nat.reduceEqDiff, Nat.reduceLeDiff, Nat.reduceAdd, Nat.reduceSub, Nat.reduceMul, Int.reduceLT, Int.reduceLE, Int.reduceEq, Int.reduceToNat, Int.reduceAdd, Int.reduceSub, Int.reduceMul, reduceCtorEq, ↓reduceIte, gaE, implies_true, Nat.le_refl, Int.sub_zero, Nat.sub_zero, Int.le_refl, true_or, or_true, e1, e2, bytesOf_map, str_eq]

theorem ct_trimByte {A : Option Addr} {n c : Nat} {l : List UInt8} (hA : Row nx gt 1 A n (l.map u8V)) (hc : n ≤ c) (hn : n ≤ 1000000000) :
    Ct Tryd.prog 71 [.slice A n c, .int .u8 0] nx gt fun v x g => BySl x g v (bare l) := by
  refine Ct.of hmx r_bytes_trimLeftByte (by simp [c_bytes_trimLeftByte]) fun b hb => ?_
  simp only [c_bytes_trimLeftByte, ↓gaW, ↓gaV, ↓gaC, ↓gaN, gaP, Nat.reduceEqDiff, Nat.reduceLeDiff, Nat.reduceAdd, Nat.reduceSub, Nat.reduceMul, Int.reduceLT, Int.reduceLE, Int.reduceEq, Int.reduceToNat, Int.reduceAdd, Int.reduceSub, Int.reduceMul, reduceCtorEq, ↓reduceIte]
  refine loop_of (fun j f mm => ∃ (A' : Option Addr) (n' c' : Nat) (l' : List UInt8), j = n' ∧ bare l = bare l' ∧ n' ≤ c' ∧ n' ≤ n ∧ Row nx gt 1 A' n' (l'.map u8V) ∧ f 0 = .slice A' n' c' ∧ f 1 = .int .u8 0 ∧ mm = ⟨nx, b, gt⟩) n ⟨A, n, c, l, rfl, rfl, hc, Nat.le_refl _, hA, (by first | (simp only [↓gaW, ↓gaV, ↓gaC, ↓gaN, gaP, Nat.reduceEqDiff, Nat.reduceLeDiff, Nat.reduceAdd, Nat.reduceSub, Nat.reduceMul, Int.reduceLT, Int.reduceLE, Int.reduceEq, Int.reduceToNat, Int.reduceAdd, Int.reduceSub, Int.reduceMul, reduceCtorEq, ↓reduceIte]; done) | (simp only [↓gaW, ↓gaV, ↓gaC, ↓gaN, gaP, Nat.reduceEqDiff, Nat.reduceLeDiff, Nat.reduceAdd, Nat.reduceSub, Nat.reduceMul, Int.reduceLT, Int.reduceLE, Int.reduceEq, Int.reduceToNat, Int.reduceAdd, Int.reduceSub, Int.reduceMul, reduceCtorEq, ↓reduceIte]; rfl)), (by first | (simp only [↓gaW, ↓gaV, ↓gaC, ↓gaN, gaP, Nat.reduceEqDiff, Nat.reduceLeDiff, Nat.reduceAdd, Nat.reduceSub, Nat.reduceMul, Int.reduceLT, Int.reduceLE, Int.reduceEq, Int.reduceToNat, Int.reduceAdd, Int.reduceSub, Int.reduceMul, reduceCtorEq, ↓reduceIte]; done) | (simp only [↓gaW, ↓gaV, ↓gaC, ↓gaN, gaP, Nat.reduceEqDiff, Nat.reduceLeDiff, Nat.reduceAdd, Nat.reduceSub, Nat.reduceMul, Int.reduceLT, Int.reduceLE, Int.reduceEq, Int.reduceToNat, Int.reduceAdd, Int.reduceSub, Int.reduceMul, reduceCtorEq, ↓reduceIte]; rfl)), rfl⟩ ?_
  rintro j f mm ⟨A', n', c', l', hj, hbl, hc', hn', hA', f0, f1, rfl⟩
  have hl' : l'.length = n' := by simpa using hA'.len
  by_cases h0 : (0 : Int) < (n' : Int)
  · obtain ⟨a, cl, ro, rfl, r2, r3, r4, r5⟩ := hA'.cells (by omega)
    obtain ⟨x, t, rfl⟩ : ∃ x t, l' = x :: t := by cases l' with | nil => simp at hl'; omega | cons x t => exact ⟨x, t, rfl⟩
    have c0 : cl.getD a.off undef = .int .u8 (x.toNat : Nat) := by
      have := r5 0 (by omega)
      rw [Nat.add_zero] at this
      rw [this]; rfl
    have hsp := hA'.spot a rfl
    by_cases hx : x = 0
    · subst hx
      rw [bare_0] at hbl
      have P1 := hA'.part (lo := 1) (hi := n') (by omega) (by omega) rfl
      rw [← List.map_drop, ← List.map_take, List.drop_succ_cons, List.drop_zero, List.take_of_length_le (by simp only [List.length_cons] at hl'; omega)] at P1
      have z0 : (((0 : UInt8).toNat : Nat) : Int) = 0 := rfl
      simp only [↓gaW, ↓gaV, ↓gaC, ↓gaN, gaP, Nat.reduceEqDiff, Nat.reduceLeDiff, Nat.reduceAdd, Nat.reduceSub, Nat.reduceMul, Int.reduceLT, Int.reduceLE, Int.reduceEq, Int.reduceToNat, Int.reduceAdd, Int.reduceSub, Int.reduceMul, reduceCtorEq, ↓reduceIte, f0, f1, h0, decide_true, r3, c0, z0, loopK_n]
      repeat refine And.intro (by omega) ?_
      refine And.intro (.inr hsp) ?_
      rw [show ((n' : Int) - 1).toNat = n' - 1 by omega, show ((c' : Int) - 1).toNat = c' - 1 by omega]
      exact ⟨n' - 1, by omega, _, n' - 1, c' - 1, t, rfl, hbl, by omega, by omega, P1, rfl⟩
    · have hx0 : ¬ ((x.toNat : Nat) : Int) = 0 := fun h => hx (UInt8.toNat_inj.1 (by simpa using h))
      have hn0 : ¬ (n' : Int) = 0 := by omega
      rw [bare_n hx] at hbl
      rw [hbl]
      simp only [↓gaW, ↓gaV, ↓gaC, ↓gaN, gaP, Nat.reduceEqDiff, Nat.reduceLeDiff, Nat.reduceAdd, Nat.reduceSub, Nat.reduceMul, Int.reduceLT, Int.reduceLE, Int.reduceEq, Int.reduceToNat, Int.reduceAdd, Int.reduceSub, Int.reduceMul, reduceCtorEq, ↓reduceIte, gaE, implies_true, Nat.le_refl, Int.sub_zero, Nat.sub_zero, Int.le_refl, true_or, or_true, f0, f1, h0, decide_true, r3, c0, hx0, decide_false, hn0]
      repeat refine And.intro (by omega) ?_
      exact ⟨_, n', c', rfl, hc', hl', hA'⟩
  · have hl0 : l' = [] := List.eq_nil_of_length_eq_zero (by omega)
    subst hl0
    have hn0 : (n' : Int) = 0 := by omega
    rw [hbl, bare_nil]
    simp only [↓gaW, ↓gaV, ↓gaC, ↓gaN, gaP, Nat.reduceEqDiff, Nat.reduceLeDiff, Nat.reduceAdd, Nat.reduceSub, Nat.reduceMul, Int.reduceLT, Int.reduceLE, Int.reduceEq, Int.reduceToNat, Int.reduceAdd, Int.reduceSub, Int.reduceMul, reduceCtorEq, ↓reduceIte, gaE, implies_true, Nat.le_refl, Int.sub_zero, Nat.sub_zero, Int.le_refl, true_or, or_true, f0, f1, h0, decide_false, hn0, decide_true]
    exact .nil
theorem ct_Trim {A : Option Addr} {n c : Nat} {l : List UInt8} (hA : Row nx gt 1 A n (l.map u8V)) (hc : n ≤ c) (hn : n ≤ 1000000000) :
    Ct Tryd.prog 44 [.slice A n c, .string ⟨#[0]⟩] nx gt fun v x g => BySl x g v (bare l) := by
  have hl : l.length = n := by simpa using hA.len
  refine Ct.of hmx r_bytes_TrimLeft (by simp [c_bytes_TrimLeft]) fun b hb => ?_
  by_cases h0 : (n : Int) = 0
  · have hl0 : l = [] := List.eq_nil_of_length_eq_zero (by omega)
    subst hl0
    rw [bare_nil]
    simp only [c_bytes_TrimLeft, ↓gaW, ↓gaV, ↓gaC, ↓gaN, gaP, Nat.reduceEqDiff, Nat.reduceLeDiff, Nat.reduceAdd, Nat.reduceSub, Nat.reduceMul, Int.reduceLT, Int.reduceLE, Int.reduceEq, Int.reduceToNat, Int.reduceAdd, Int.reduceSub, Int.reduceMul, reduceCtorEq, ↓reduceIte, gaE, implies_true, Nat.le_refl, Int.sub_zero, Nat.sub_zero, Int.le_refl, true_or, or_true, h0, decide_true]
    exact .nil
  · have hs : ((⟨#[0]⟩ : ByteArray).toList == (⟨#[]⟩ : ByteArray).toList) = false := by rw [show (⟨#[0]⟩ : ByteArray) = ⟨[(0 : UInt8)].toArray⟩ from rfl, show (⟨#[]⟩ : ByteArray) = ⟨([] : List UInt8).toArray⟩ from rfl, str_eq]; rfl
    have hz : (((⟨#[0]⟩ : ByteArray).size : Nat) : Int) = 1 := rfl
    have hu : u8V (([0] : List UInt8).getD 0 0) = .int .u8 0 := rfl
    simp only [c_bytes_TrimLeft, ↓gaW, ↓gaV, ↓gaC, ↓gaN, gaP, Nat.reduceEqDiff, Nat.reduceLeDiff, Nat.reduceAdd, Nat.reduceSub, Nat.reduceMul, Int.reduceLT, Int.reduceLE, Int.reduceEq, Int.reduceToNat, Int.reduceAdd, Int.reduceSub, Int.reduceMul, reduceCtorEq, ↓reduceIte, h0, decide_false, hs, hz, decide_true, hu]
    repeat refine And.intro (by omega) ?_
    refine callK_of (ct_trimByte hA hc hn) (fun v x1 g1 l1 k1 hC => ?_) (by omega)
    simp only [↓gaW, ↓gaV, ↓gaC, ↓gaN, gaP, Nat.reduceEqDiff, Nat.reduceLeDiff, Nat.reduceAdd, Nat.reduceSub, Nat.reduceMul, Int.reduceLT, Int.reduceLE, Int.reduceEq, Int.reduceToNat, Int.reduceAdd, Int.reduceSub, Int.reduceMul, reduceCtorEq, ↓reduceIte, gaE, implies_true, Nat.le_refl, Int.sub_zero, Nat.sub_zero, Int.le_refl, true_or, or_true]
    exact ⟨by omega, k1, hC⟩
theorem ct_Clone {A : Option Addr} {n c : Nat} {l : List UInt8} (hA : Row nx gt 1 A n (l.map u8V)) (hc : n ≤ c) (hn : n ≤ 1000000000) :
    Ct Tryd.prog 45 [.slice A n c] nx gt fun v x g => ByL nx x g v l := by
  have hl : l.length = n := by simpa using hA.len
  refine Ct.of hmx r_bytes_Clone (by simp [c_bytes_Clone]) fun b hb => ?_
  cases A with
  | none =>
    have hn0 : n = 0 := by
      rcases Nat.eq_zero_or_pos n with h | h
      · exact h
      · obtain ⟨a, _, _, e, _⟩ := hA.cells h; cases e
    subst hn0
    have hl0 : l = [] := List.eq_nil_of_length_eq_zero hl
    subst hl0
    have e : isNilV NilK.sl (.slice none 0 c) = some true := rfl
    simp only [c_bytes_Clone, ↓gaW, ↓gaV, ↓gaC, ↓gaN, gaP, Nat.reduceEqDiff, Nat.reduceLeDiff, Nat.reduceAdd, Nat.reduceSub, Nat.reduceMul, Int.reduceLT, Int.reduceLE, Int.reduceEq, Int.reduceToNat, Int.reduceAdd, Int.reduceSub, Int.reduceMul, reduceCtorEq, ↓reduceIte, gaE, implies_true, Nat.le_refl, Int.sub_zero, Nat.sub_zero, Int.le_refl, true_or, or_true, e]
    exact .nil
  | some a =>
    have e : isNilV NilK.sl (.slice (some a) n c) = some false := rfl
    have hZ : ∀ p, p < nx → upd gt nx (some (Blk.cells [] false)) p = gt p := fun p hp => by simp only [upd_e]; rw [if_neg (by omega)]
    have hz : upd gt nx (some (Blk.cells [] false)) nx = some (.cells [] false) := by simp only [upd_e, if_true]
    simp only [c_bytes_Clone, ↓gaW, ↓gaV, ↓gaC, ↓gaN, gaP, Nat.reduceEqDiff, Nat.reduceLeDiff, Nat.reduceAdd, Nat.reduceSub, Nat.reduceMul, Int.reduceLT, Int.reduceLE, Int.reduceEq, Int.reduceToNat, Int.reduceAdd, Int.reduceSub, Int.reduceMul, reduceCtorEq, ↓reduceIte, List.getD_cons_zero, List.getD_cons_succ, fillL, splice, List.take_zero, List.drop_zero, List.drop_succ_cons, List.take_succ_cons, List.drop_nil, List.take_nil, e]
    generalize upd gt nx (some (Blk.cells [] false)) = g1 at *
    have e1 : rowOf ⟨nx + 1, b, g1⟩ (some a) n = some (l.map u8V) := (hA.keep (nx' := nx + 1) (gt' := g1) (by omega) hZ).rowOf
    rw [e1]
    simp only [asO_e]
    refine app_lit (by omega) hz (by omega) (by rw [List.length_map, hl, Nat.mul_one]) (all_u8 _) (by omega) (by omega) fun A6 x6 g6 l6 k6 R6 => ?_
    rw [Nat.mul_one] at R6
    simp only [↓gaW, ↓gaV, ↓gaC, ↓gaN, gaP, Nat.reduceEqDiff, Nat.reduceLeDiff, Nat.reduceAdd, Nat.reduceSub, Nat.reduceMul, Int.reduceLT, Int.reduceLE, Int.reduceEq, Int.reduceToNat, Int.reduceAdd, Int.reduceSub, Int.reduceMul, reduceCtorEq, ↓reduceIte, gaE, implies_true, Nat.le_refl, Int.sub_zero, Nat.sub_zero, Int.le_refl, true_or, or_true]
    exact ⟨by omega, fun p hp => by rw [k6 p (by omega), hZ p hp], A6, n, n, rfl, Nat.le_refl _, hl, R6.wid (by omega)⟩

end
end Go.Ga

/- Numbers as elements. -/
namespace Go.Ga
open Go Go.Proofs
set_option linter.unusedSimpArgs false
set_option linter.unusedVariables false
set_option maxRecDepth 100000
attribute [local irreducible] appendK

/-- A value that is an element, in new blocks. -/
def NodeIs (lo nx : Nat) (g : Nat → Option Blk) (v : Value) (x : Fo.El) : Prop := ∃ (B : Option Addr) (m d : Nat) (A : Option Addr) (n c : Nat) (ks : List Value), v = nodeV x.t B m d A n c ∧ NdL lo nx g x B m d A n c ks
theorem NodeIs.leaf {lo nx : Nat} {g : Nat → Option Blk} {t : Int} {A : Option Addr} {n c : Nat} {l : List UInt8} (ht : -9223372036854775808 ≤ t ∧ t ≤ 9223372036854775807) (hA : RowL lo nx g 1 A n (l.map u8V)) (hc : n ≤ c) : NodeIs lo nx g (nodeV t A n c none 0 0) ⟨t, l, .nil⟩ :=
  ⟨A, n, c, none, 0, 0, [], rfl, ⟨ht, hA, hc, .nil, Nat.le_refl _, rfl, rfl⟩⟩

def bigB : List UInt8 → List UInt8
  | [] => [0]
  | x :: t => if 128 ≤ x.toNat then 0 :: x :: t else x :: t
def big (l : List UInt8) : Fo.El := ⟨2, bigB (bare l), .nil⟩
theorem bigB_len (l : List UInt8) : (bigB l).length ≤ l.length + 1 := by
  cases l with
  | nil => simp [bigB]
  | cons x t => simp only [bigB]; split <;> simp
section
variable {nx : Nat} {gt : Nat → Option Blk}

theorem end_nd {b nx : Nat} {gt : Nat → Option Blk} {f : Regs} {i x' q : Nat} {g' : Nat → Option Blk} {y : Fo.El} {t : Int} {B : Option Addr} {m d : Nat} {A : Option Addr} {n c : Nat} {ro : Bool} (h8 : f i = .pointer (some ⟨q, 0, none⟩)) (hg : g' q = some (.cells (nodeL t B m d A n c) ro))
    (h1 : nx ≤ x') (h2 : ∀ n, n < nx → g' n = gt n) (h3 : NodeIs nx x' g' (nodeV t B m d A n c) y) : endK [.cN i 3] b nx gt (fun v x g => NodeIs nx x g v y) .ret f ⟨x', b, g'⟩ :=
  end_cN _ h8 hg rfl ⟨rfl, h1, h2, h3⟩

theorem ct_Big {A : Option Addr} {n c : Nat} {l : List UInt8} (hA : Row nx gt 1 A n (l.map u8V)) (hc : n ≤ c) (hn : n ≤ 1000000000) :
    Ct Tryd.prog 14 [.slice A n c] nx gt fun v x g => NodeIs nx x g v (big l) := by
  have hl : l.length = n := by simpa using hA.len
  have hbl := bare_len l
  refine Ct.of hmx r_scalar_Big (by simp [c_scalar_Big]) fun b hb => ?_
  have hF : ∀ q, q < nx → upd gt nx (some (.cells [Value.int .i64 0, .slice none 0 0, .slice none 0 0] false)) q = gt q := fun q hq => by simp only [upd_e]; rw [if_neg (by omega)]
  have hb0 : upd gt nx (some (.cells [Value.int .i64 0, .slice none 0 0, .slice none 0 0] false)) nx = some (.cells [Value.int .i64 0, .slice none 0 0, .slice none 0 0] false) := by simp only [upd_e, if_true]
  simp only [c_scalar_Big, ↓gaW, ↓gaV, ↓gaC, ↓gaN, gaP, Nat.reduceEqDiff, Nat.reduceLeDiff, Nat.reduceAdd, Nat.reduceSub, Nat.reduceMul, Int.reduceLT, Int.reduceLE, Int.reduceEq, Int.reduceToNat, Int.reduceAdd, Int.reduceSub, Int.reduceMul, reduceCtorEq, ↓reduceIte, List.getD_cons_zero, List.getD_cons_succ, fillL, splice, List.take_zero, List.drop_zero, List.drop_succ_cons, List.take_succ_cons, List.drop_nil, List.take_nil, gaU]
  generalize upd gt nx (some (.cells [Value.int .i64 0, .slice none 0 0, .slice none 0 0] false)) = g0 at *
  refine callK_of (ct_Trim (hA.keep (nx' := nx + 1) (by omega) hF) hc hn) (fun v x1 g1 l1 k1 hC => ?_) (by omega)
  obtain ⟨A1, n1, c1, rfl, hc1, hl1, r1⟩ := hC
  have F1 : ∀ p, p < nx → g1 p = gt p := fun p hp => by rw [k1 p (by omega), hF p hp]
  have hb1 : g1 nx = some (.cells [Value.int .i64 0, .slice none 0 0, .slice none 0 0] false) := by rw [k1 nx (by omega), hb0]
  unfold big
  have ext : ∀ (g : Nat → Option Blk) (cs : List Value), (∀ p, p ≠ nx → upd g nx (some (.cells cs false)) p = g p) := fun g cs p hp => by simp only [upd_e]; rw [if_neg hp]
  have hZ : ∀ p, p < x1 → upd g1 x1 (some (.cells [Value.int .u8 0] false)) p = g1 p := fun p hp => by simp only [upd_e]; rw [if_neg (by omega)]
  have hz : upd g1 x1 (some (.cells [Value.int .u8 0] false)) x1 = some (.cells [Value.int .u8 0] false) := by simp only [upd_e, if_true]
  cases hbq : bare l with
  | nil =>
    rw [hbq] at hl1 r1
    have hn1 : n1 = 0 := by rw [← hl1]; rfl
    subst hn1
    have hn0 : ((0 : Nat) : Int) = 0 := rfl
    simp only [↓gaW, ↓gaV, ↓gaC, ↓gaN, gaP, Nat.reduceEqDiff, Nat.reduceLeDiff, Nat.reduceAdd, Nat.reduceSub, Nat.reduceMul, Int.reduceLT, Int.reduceLE, Int.reduceEq, Int.reduceToNat, Int.reduceAdd, Int.reduceSub, Int.reduceMul, reduceCtorEq, ↓reduceIte, List.getD_cons_zero, List.getD_cons_succ, fillL, splice, List.take_zero, List.drop_zero, List.drop_succ_cons, List.take_succ_cons, List.drop_nil, List.take_nil, hn0, decide_true]
    generalize upd g1 x1 (some (.cells [Value.int .u8 0] false)) = g2 at *
    have e1 : rowOf ⟨x1 + 1, b, g2⟩ A1 0 = some ((([] : List UInt8)).map u8V) := (r1.keep (nx' := x1 + 1) (gt' := g2) (by omega) hZ).rowOf
    rw [e1]
    simp only [asO_e]
    refine app_litN (bytes := 1) (z := x1) (n := 1) (e := 1) (by omega) hz rfl (by omega) (by rfl) (all_u8 _) (by omega) (by omega) fun A6 x6 g6 l6 k6 r6 => ?_
    rw [Nat.mul_one] at r6
    have hb6 : g6 nx = some (.cells [Value.int .i64 0, .slice none 0 0, .slice none 0 0] false) := by rw [k6 nx (by omega), hZ nx (by omega), hb1]
    simp only [↓gaW, ↓gaV, ↓gaC, ↓gaN, gaP, Nat.reduceEqDiff, Nat.reduceLeDiff, Nat.reduceAdd, Nat.reduceSub, Nat.reduceMul, Int.reduceLT, Int.reduceLE, Int.reduceEq, Int.reduceToNat, Int.reduceAdd, Int.reduceSub, Int.reduceMul, reduceCtorEq, ↓reduceIte, List.getD_cons_zero, List.getD_cons_succ, fillL, splice, List.take_zero, List.drop_zero, List.drop_succ_cons, List.take_succ_cons, List.drop_nil, List.take_nil, hb6]
    refine And.intro (by omega) (And.intro (node_cells _ _ _ _ _ _ _) ?_)
    refine end_nd (q := nx) (t := 2) (B := A6) (m := 1 + 0) (d := 1 + 0) (A := none) (n := 0) (c := 0) (ro := false) (by first | (simp only [↓gaW, ↓gaV, ↓gaC, ↓gaN, gaP, Nat.reduceEqDiff, Nat.reduceLeDiff, Nat.reduceAdd, Nat.reduceSub, Nat.reduceMul, Int.reduceLT, Int.reduceLE, Int.reduceEq, Int.reduceToNat, Int.reduceAdd, Int.reduceSub, Int.reduceMul, reduceCtorEq, ↓reduceIte]; done) | (simp only [↓gaW, ↓gaV, ↓gaC, ↓gaN, gaP, Nat.reduceEqDiff, Nat.reduceLeDiff, Nat.reduceAdd, Nat.reduceSub, Nat.reduceMul, Int.reduceLT, Int.reduceLE, Int.reduceEq, Int.reduceToNat, Int.reduceAdd, Int.reduceSub, Int.reduceMul, reduceCtorEq, ↓reduceIte]; rfl)) (by simp only [upd_e, if_true]) (by omega) (fun p hp => by rw [ext _ _ p (by omega), k6 p (by omega), hZ p (by omega), F1 p hp]) ?_
    have r7 : RowL x1 x6 g6 1 A6 (1 + 0) (([0] : List UInt8).map u8V) := r6
    exact NodeIs.leaf (by omega) ((r7.keep (Nat.le_refl _) fun p hp _ => ext _ _ p (by omega)).wid (by omega)) (Nat.le_refl _)
  | cons x t =>
    rw [hbq] at hl1 r1 hbl
    simp only [List.length_cons] at hl1 hbl
    have hn0 : ¬ (n1 : Int) = 0 := by omega
    obtain ⟨a, cl, ro, rfl, r2, r3, r4, r5⟩ := r1.cells (by omega)
    have c0 : cl.getD a.off undef = .int .u8 (x.toNat : Nat) := by
      have := r5 0 (by omega)
      rw [Nat.add_zero] at this
      rw [this]; rfl
    by_cases hx : (128 : Int) ≤ ((x.toNat : Nat) : Int)
    · simp only [↓gaW, ↓gaV, ↓gaC, ↓gaN, gaP, Nat.reduceEqDiff, Nat.reduceLeDiff, Nat.reduceAdd, Nat.reduceSub, Nat.reduceMul, Int.reduceLT, Int.reduceLE, Int.reduceEq, Int.reduceToNat, Int.reduceAdd, Int.reduceSub, Int.reduceMul, reduceCtorEq, ↓reduceIte, List.getD_cons_zero, List.getD_cons_succ, fillL, splice, List.take_zero, List.drop_zero, List.drop_succ_cons, List.take_succ_cons, List.drop_nil, List.take_nil, hn0, decide_false, r3, c0, hx, decide_true]
      repeat refine And.intro (by omega) ?_
      generalize upd g1 x1 (some (.cells [Value.int .u8 0] false)) = g2 at *
      have e1 : rowOf ⟨x1 + 1, b, g2⟩ (some a) n1 = some ((x :: t).map u8V) := (r1.keep (nx' := x1 + 1) (gt' := g2) (by omega) hZ).rowOf
      rw [e1]
      simp only [asO_e]
      refine app_litN (bytes := 1) (z := x1) (n := 1) (e := 1) (by omega) hz rfl (by omega) (by simp; omega) (all_u8 _) (by omega) (by omega) fun A6 x6 g6 l6 k6 r6 => ?_
      rw [Nat.mul_one] at r6
      have hb6 : g6 nx = some (.cells [Value.int .i64 0, .slice none 0 0, .slice none 0 0] false) := by rw [k6 nx (by omega), hZ nx (by omega), hb1]
      simp only [↓gaW, ↓gaV, ↓gaC, ↓gaN, gaP, Nat.reduceEqDiff, Nat.reduceLeDiff, Nat.reduceAdd, Nat.reduceSub, Nat.reduceMul, Int.reduceLT, Int.reduceLE, Int.reduceEq, Int.reduceToNat, Int.reduceAdd, Int.reduceSub, Int.reduceMul, reduceCtorEq, ↓reduceIte, List.getD_cons_zero, List.getD_cons_succ, fillL, splice, List.take_zero, List.drop_zero, List.drop_succ_cons, List.take_succ_cons, List.drop_nil, List.take_nil, hb6]
      refine And.intro (by omega) (And.intro (node_cells _ _ _ _ _ _ _) ?_)
      refine end_nd (q := nx) (t := 2) (B := A6) (m := 1 + n1) (d := 1 + n1) (A := none) (n := 0) (c := 0) (ro := false) (by first | (simp only [↓gaW, ↓gaV, ↓gaC, ↓gaN, gaP, Nat.reduceEqDiff, Nat.reduceLeDiff, Nat.reduceAdd, Nat.reduceSub, Nat.reduceMul, Int.reduceLT, Int.reduceLE, Int.reduceEq, Int.reduceToNat, Int.reduceAdd, Int.reduceSub, Int.reduceMul, reduceCtorEq, ↓reduceIte]; done) | (simp only [↓gaW, ↓gaV, ↓gaC, ↓gaN, gaP, Nat.reduceEqDiff, Nat.reduceLeDiff, Nat.reduceAdd, Nat.reduceSub, Nat.reduceMul, Int.reduceLT, Int.reduceLE, Int.reduceEq, Int.reduceToNat, Int.reduceAdd, Int.reduceSub, Int.reduceMul, reduceCtorEq, ↓reduceIte]; rfl)) (by simp only [upd_e, if_true]) (by omega) (fun p hp => by rw [ext _ _ p (by omega), k6 p (by omega), hZ p (by omega), F1 p hp]) ?_
      have r7 : RowL x1 x6 g6 1 A6 (1 + n1) ((0 :: x :: t).map u8V) := r6
      have e2 : bigB (x :: t) = 0 :: x :: t := if_pos (by omega)
      rw [e2]
      exact NodeIs.leaf (by omega) ((r7.keep (Nat.le_refl _) fun p hp _ => ext _ _ p (by omega)).wid (by omega)) (Nat.le_refl _)
    · simp only [↓gaW, ↓gaV, ↓gaC, ↓gaN, gaP, Nat.reduceEqDiff, Nat.reduceLeDiff, Nat.reduceAdd, Nat.reduceSub, Nat.reduceMul, Int.reduceLT, Int.reduceLE, Int.reduceEq, Int.reduceToNat, Int.reduceAdd, Int.reduceSub, Int.reduceMul, reduceCtorEq, ↓reduceIte, List.getD_cons_zero, List.getD_cons_succ, fillL, splice, List.take_zero, List.drop_zero, List.drop_succ_cons, List.take_succ_cons, List.drop_nil, List.take_nil, hn0, decide_false, r3, c0, hx]
      repeat refine And.intro (by omega) ?_
      refine callK_of (ct_Clone r1 hc1 (by omega)) (fun v x2 g2 l2 k2 hC => ?_) (by omega)
      obtain ⟨A2, n2, c2, rfl, hc2, hl2, r2⟩ := hC
      have hb2 : g2 nx = some (.cells [Value.int .i64 0, .slice none 0 0, .slice none 0 0] false) := by rw [k2 nx (by omega), hb1]
      have e2 : bigB (x :: t) = x :: t := if_neg (by omega)
      rw [e2]
      simp only [↓gaW, ↓gaV, ↓gaC, ↓gaN, gaP, Nat.reduceEqDiff, Nat.reduceLeDiff, Nat.reduceAdd, Nat.reduceSub, Nat.reduceMul, Int.reduceLT, Int.reduceLE, Int.reduceEq, Int.reduceToNat, Int.reduceAdd, Int.reduceSub, Int.reduceMul, reduceCtorEq, ↓reduceIte, List.getD_cons_zero, List.getD_cons_succ, fillL, splice, List.take_zero, List.drop_zero, List.drop_succ_cons, List.take_succ_cons, List.drop_nil, List.take_nil, hb2]
      refine And.intro (by omega) (And.intro (node_cells _ _ _ _ _ _ _) ?_)
      refine end_nd (q := nx) (t := 2) (B := A2) (m := n2) (d := c2) (A := none) (n := 0) (c := 0) (ro := false) (by first | (simp only [↓gaW, ↓gaV, ↓gaC, ↓gaN, gaP, Nat.reduceEqDiff, Nat.reduceLeDiff, Nat.reduceAdd, Nat.reduceSub, Nat.reduceMul, Int.reduceLT, Int.reduceLE, Int.reduceEq, Int.reduceToNat, Int.reduceAdd, Int.reduceSub, Int.reduceMul, reduceCtorEq, ↓reduceIte]; done) | (simp only [↓gaW, ↓gaV, ↓gaC, ↓gaN, gaP, Nat.reduceEqDiff, Nat.reduceLeDiff, Nat.reduceAdd, Nat.reduceSub, Nat.reduceMul, Int.reduceLT, Int.reduceLE, Int.reduceEq, Int.reduceToNat, Int.reduceAdd, Int.reduceSub, Int.reduceMul, reduceCtorEq, ↓reduceIte]; rfl)) (by simp only [upd_e, if_true]) (by omega) (fun p hp => by rw [ext _ _ p (by omega), k2 p (by omega), F1 p hp]) ?_
      exact NodeIs.leaf (by omega) ((r2.keep (Nat.le_refl _) fun p hp _ => ext _ _ p (by omega)).wid (by omega)) hc2
end
end Go.Ga

/- Numbers as elements: the document's answer. Are two laid alike? -/
namespace Go.Ga
open Go Go.Proofs
set_option linter.unusedSimpArgs false
set_option linter.unusedVariables false
set_option maxRecDepth 100000
attribute [local irreducible] appendK

theorem len_nil {F : Fo} : F.len = 0 ↔ F = .nil := by
  cases F <;> simp [Fo.len]

section
variable {nx : Nat} {gt : Nat → Option Blk}

/-- Are two laid alike? -/
def alike (x y : Fo.El) : Prop := x.t = y.t ∧ x.b = y.b ∧ x.k = .nil ∧ y.k = .nil

theorem ct_same {x y : Fo.El} {B : Option Addr} {m d : Nat} {A : Option Addr} {n c : Nat} {ks : List Value} {B2 : Option Addr} {m2 d2 : Nat} {A2 : Option Addr} {n2 c2 : Nat} {ks2 : List Value} (h : NdR nx gt x B m d A n c ks) (hz : NdR nx gt y B2 m2 d2 A2 n2 c2 ks2) (hx : x.f.ws < 1000000000) (hy : y.f.ws < 1000000000) :
    Ct Tryd.prog 75 [nodeV x.t B m d A n c, nodeV y.t B2 m2 d2 A2 n2 c2] nx gt fun v _ _ => ∃ r, v = .bool r ∧ (r = true ↔ alike x y) := by
  refine Ct.of hmx r_scalar_same (by simp [c_scalar_same]) fun b hb => ?_
  have lw := Fo.len_ws x.k
  have lw2 := Fo.len_ws y.k
  have xw : x.f.ws = 1 + x.b.length + x.k.ws := by simp only [Fo.El.f, Fo.ws]; omega
  have yw : y.f.ws = 1 + y.b.length + y.k.ws := by simp only [Fo.El.f, Fo.ws]; omega
  have hkl := h.len
  have hkz := hz.len
  have hnn : (nx = nx + 1) = False := by simp
  have hF : ∀ q, q < nx → upd (upd gt nx (some (.cells (nodeL x.t B m d A n c) false))) (nx + 1) (some (.cells (nodeL y.t B2 m2 d2 A2 n2 c2) false)) q = gt q := fun q hq => by simp only [upd_e]; rw [if_neg (by omega), if_neg (by omega)]
  have hb0 : upd (upd gt nx (some (.cells (nodeL x.t B m d A n c) false))) (nx + 1) (some (.cells (nodeL y.t B2 m2 d2 A2 n2 c2) false)) nx = some (.cells (nodeL x.t B m d A n c) false) := by simp only [upd_e, if_true]; rw [if_neg (by omega)]
  have hb1 : upd (upd gt nx (some (.cells (nodeL x.t B m d A n c) false))) (nx + 1) (some (.cells (nodeL y.t B2 m2 d2 A2 n2 c2) false)) (nx + 1) = some (.cells (nodeL y.t B2 m2 d2 A2 n2 c2) false) := by simp only [upd_e, if_true]
  have h0 := h.keep (x' := nx + 1 + 1) (by omega) hF
  have hz0 := hz.keep (x' := nx + 1 + 1) (by omega) hF
  simp only [c_scalar_same, ↓gaW, ↓gaV, ↓gaC, ↓gaN, gaP, Nat.reduceEqDiff, Nat.reduceLeDiff, Nat.reduceAdd, Nat.reduceSub, Nat.reduceMul, Int.reduceLT, Int.reduceLE, Int.reduceEq, Int.reduceToNat, Int.reduceAdd, Int.reduceSub, Int.reduceMul, reduceCtorEq, ↓reduceIte, List.getD_cons_zero, List.getD_cons_succ, fillL, splice, List.take_zero, List.drop_zero, List.drop_succ_cons, List.take_succ_cons, List.drop_nil, List.take_nil, gaU, hnn]
  by_cases ht : x.t = y.t
  case neg =>
    simp only [↓gaW, ↓gaV, ↓gaC, ↓gaN, gaP, Nat.reduceEqDiff, Nat.reduceLeDiff, Nat.reduceAdd, Nat.reduceSub, Nat.reduceMul, Int.reduceLT, Int.reduceLE, Int.reduceEq, Int.reduceToNat, Int.reduceAdd, Int.reduceSub, Int.reduceMul, reduceCtorEq, ↓reduceIte, gaE, implies_true, Nat.le_refl, Int.sub_zero, Nat.sub_zero, Int.le_refl, true_or, or_true, ht, decide_false]
    repeat refine And.intro (by omega) ?_
    refine ⟨hF, false, rfl, ?_⟩
    simp only [Bool.false_eq_true, false_iff]
    exact fun h => ht h.1
  generalize upd (upd gt nx (some (.cells (nodeL x.t B m d A n c) false))) (nx + 1) (some (.cells (nodeL y.t B2 m2 d2 A2 n2 c2) false)) = g0 at *
  simp only [↓gaW, ↓gaV, ↓gaC, ↓gaN, gaP, Nat.reduceEqDiff, Nat.reduceLeDiff, Nat.reduceAdd, Nat.reduceSub, Nat.reduceMul, Int.reduceLT, Int.reduceLE, Int.reduceEq, Int.reduceToNat, Int.reduceAdd, Int.reduceSub, Int.reduceMul, reduceCtorEq, ↓reduceIte, ht, decide_true, hb0, hb1, nodeL, List.getD_cons_succ, List.getD_cons_zero]
  repeat refine And.intro (by omega) ?_
  refine callK_of (ct_Equal h0.body hz0.body) (fun v x1 g1 l1 k1 hC => ?_) (by omega)
  subst hC
  have hb2 : g1 nx = some (.cells (nodeL x.t B m d A n c) false) := by rw [k1 nx (by omega), hb0]
  have hb3 : g1 (nx + 1) = some (.cells (nodeL y.t B2 m2 d2 A2 n2 c2) false) := by rw [k1 (nx + 1) (by omega), hb1]
  have F1 : ∀ p, p < nx → g1 p = gt p := fun p hp => by rw [k1 p (by omega), hF p hp]
  by_cases hbq : x.b = y.b
  case neg =>
    have e3 : (x.b == y.b) = false := by simpa using hbq
    simp only [↓gaW, ↓gaV, ↓gaC, ↓gaN, gaP, Nat.reduceEqDiff, Nat.reduceLeDiff, Nat.reduceAdd, Nat.reduceSub, Nat.reduceMul, Int.reduceLT, Int.reduceLE, Int.reduceEq, Int.reduceToNat, Int.reduceAdd, Int.reduceSub, Int.reduceMul, reduceCtorEq, ↓reduceIte, gaE, implies_true, Nat.le_refl, Int.sub_zero, Nat.sub_zero, Int.le_refl, true_or, or_true, e3]
    refine ⟨by omega, F1, false, rfl, ?_⟩
    simp only [Bool.false_eq_true, false_iff]
    exact fun h => hbq h.2.1
  have e3 : (x.b == y.b) = true := by simpa using hbq
  have i1 : IntKind.i64.wrap ((n : Int) + (n2 : Int)) = ((n + n2 : Nat) : Int) := by rw [i64_w _ (by omega)]; omega
  simp only [↓gaW, ↓gaV, ↓gaC, ↓gaN, gaP, Nat.reduceEqDiff, Nat.reduceLeDiff, Nat.reduceAdd, Nat.reduceSub, Nat.reduceMul, Int.reduceLT, Int.reduceLE, Int.reduceEq, Int.reduceToNat, Int.reduceAdd, Int.reduceSub, Int.reduceMul, reduceCtorEq, ↓reduceIte, gaE, implies_true, Nat.le_refl, Int.sub_zero, Nat.sub_zero, Int.le_refl, true_or, or_true, e3, hb2, hb3, nodeL, List.getD_cons_succ, List.getD_cons_zero, i1]
  repeat refine And.intro (by omega) ?_
  refine ⟨_, rfl, ?_⟩
  rw [decide_eq_true_iff]
  constructor
  · intro h
    exact ⟨ht, hbq, len_nil.1 (by omega), len_nil.1 (by omega)⟩
  · rintro ⟨_, _, h1, h2⟩
    rw [h1] at hkl
    rw [h2] at hkz
    simp only [Fo.len] at hkl hkz
    omega
end
end Go.Ga

/- A thing, if it is laid as just an element; numbers of elements. -/
namespace Go.Ga
open Go Go.Proofs
set_option linter.unusedSimpArgs false
set_option linter.unusedVariables false
set_option maxRecDepth 100000
attribute [local irreducible] appendK

def intE (n : Nat) (y : Fo.El) : Prop := ∃ k, isLeast n k ∧ y = big (be k n)
theorem intE_one {n : Nat} {y z : Fo.El} (h : intE n y) (h' : intE n z) : y = z := by
  obtain ⟨k, h1, rfl⟩ := h
  obtain ⟨j, h2, rfl⟩ := h'
  rw [isLeast_one h1 h2]
theorem big_ws (l : List UInt8) : (big l).f.ws ≤ l.length + 2 := by
  have h1 := bigB_len (bare l)
  have h2 := bare_len l
  show 1 + (bigB (bare l)).length + 0 + 0 ≤ _
  omega
theorem intE_ws {n : Nat} {y : Fo.El} (h : intE n y) : y.f.ws ≤ 10 := by
  obtain ⟨k, ⟨h1, h2, _⟩, rfl⟩ := h
  have := big_ws (be k n)
  rw [be_length] at this
  omega

/-- An element, or an error. -/
def NErr (lo nx : Nat) (g : Nat → Option Blk) (v : Value) : Except Nat Fo.El → Prop
  | .error e => v = .tuple #[nodeV 0 none 0 0 none 0 0, .int .i64 (e : Nat)] ∧ e ≠ 0
  | .ok y => ∃ u, v = .tuple #[u, .int .i64 0] ∧ NodeIs lo nx g u y

section
variable {nx : Nat} {gt : Nat → Option Blk}

theorem ct_Int {n : Nat} (hn : n < 18446744073709551616) : Ct Tryd.prog 12 [.int .u64 (n : Nat)] nx gt fun v x g => ∃ y, intE n y ∧ NodeIs nx x g v y := by
  refine Ct.of hmx r_scalar_Int (by simp [c_scalar_Int]) fun b hb => ?_
  have hF : ∀ q, q < nx → upd gt nx (some (.cells [Value.int .i64 0, .slice none 0 0, .slice none 0 0] false)) q = gt q := fun q hq => by simp only [upd_e]; rw [if_neg (by omega)]
  have hb0 : upd gt nx (some (.cells [Value.int .i64 0, .slice none 0 0, .slice none 0 0] false)) nx = some (.cells [Value.int .i64 0, .slice none 0 0, .slice none 0 0] false) := by simp only [upd_e, if_true]
  simp only [c_scalar_Int, ↓gaW, ↓gaV, ↓gaC, ↓gaN, gaP, Nat.reduceEqDiff, Nat.reduceLeDiff, Nat.reduceAdd, Nat.reduceSub, Nat.reduceMul, Int.reduceLT, Int.reduceLE, Int.reduceEq, Int.reduceToNat, Int.reduceAdd, Int.reduceSub, Int.reduceMul, reduceCtorEq, ↓reduceIte, List.getD_cons_zero, List.getD_cons_succ, fillL, splice, List.take_zero, List.drop_zero, List.drop_succ_cons, List.take_succ_cons, List.drop_nil, List.take_nil, gaU]
  generalize upd gt nx (some (.cells [Value.int .i64 0, .slice none 0 0, .slice none 0 0] false)) = g0 at *
  refine callK_of (ct_Least hn) (fun v x1 g1 l1 k1 hC => ?_) (by omega)
  obtain ⟨k, hk, A1, n1, c1, rfl, hc1, hl1, r1⟩ := hC
  have hk8 := hk.2.1
  rw [be_length] at hl1
  have F1 : ∀ p, p < nx → g1 p = gt p := fun p hp => by rw [k1 p (by omega), hF p hp]
  have hb1 : g1 nx = some (.cells [Value.int .i64 0, .slice none 0 0, .slice none 0 0] false) := by rw [k1 nx (by omega), hb0]
  simp only [↓gaW, ↓gaV, ↓gaC, ↓gaN, gaP, Nat.reduceEqDiff, Nat.reduceLeDiff, Nat.reduceAdd, Nat.reduceSub, Nat.reduceMul, Int.reduceLT, Int.reduceLE, Int.reduceEq, Int.reduceToNat, Int.reduceAdd, Int.reduceSub, Int.reduceMul, reduceCtorEq, ↓reduceIte, List.getD_cons_zero, List.getD_cons_succ, fillL, splice, List.take_zero, List.drop_zero, List.drop_succ_cons, List.take_succ_cons, List.drop_nil, List.take_nil]
  refine callK_of (ct_Big r1 hc1 (by omega)) (fun v x2 g2 l2 k2 hC => ?_) (by omega)
  obtain ⟨B, m, d, A, n', c, ks, rfl, hN⟩ := hC
  have F2 : ∀ p, p < nx → g2 p = gt p := fun p hp => by rw [k2 p (by omega), F1 p hp]
  have hb2 : g2 nx = some (.cells [Value.int .i64 0, .slice none 0 0, .slice none 0 0] false) := by rw [k2 nx (by omega), hb1]
  have ext : ∀ (cs : List Value), (∀ p, p ≠ nx → upd g2 nx (some (.cells cs false)) p = g2 p) := fun cs p hp => by simp only [upd_e]; rw [if_neg hp]
  simp only [↓gaW, ↓gaV, ↓gaC, ↓gaN, gaP, Nat.reduceEqDiff, Nat.reduceLeDiff, Nat.reduceAdd, Nat.reduceSub, Nat.reduceMul, Int.reduceLT, Int.reduceLE, Int.reduceEq, Int.reduceToNat, Int.reduceAdd, Int.reduceSub, Int.reduceMul, reduceCtorEq, ↓reduceIte, List.getD_cons_zero, List.getD_cons_succ, fillL, splice, List.take_zero, List.drop_zero, List.drop_succ_cons, List.take_succ_cons, List.drop_nil, List.take_nil, hb2]
  refine And.intro (by omega) (And.intro (node_cells _ _ _ _ _ _ _) ?_)
  refine end_cN (nodeL _ _ _ _ _ _ _) (ro := false) (by first | (simp only [↓gaW, ↓gaV, ↓gaC, ↓gaN, gaP, Nat.reduceEqDiff, Nat.reduceLeDiff, Nat.reduceAdd, Nat.reduceSub, Nat.reduceMul, Int.reduceLT, Int.reduceLE, Int.reduceEq, Int.reduceToNat, Int.reduceAdd, Int.reduceSub, Int.reduceMul, reduceCtorEq, ↓reduceIte]; done) | (simp only [↓gaW, ↓gaV, ↓gaC, ↓gaN, gaP, Nat.reduceEqDiff, Nat.reduceLeDiff, Nat.reduceAdd, Nat.reduceSub, Nat.reduceMul, Int.reduceLT, Int.reduceLE, Int.reduceEq, Int.reduceToNat, Int.reduceAdd, Int.reduceSub, Int.reduceMul, reduceCtorEq, ↓reduceIte]; rfl)) (by simp only [upd_e, if_true]) rfl ⟨rfl, by omega, fun p hp => by rw [ext _ p (by omega), F2 p hp], big (be k n), ⟨k, hk, rfl⟩, ⟨B, m, d, A, n', c, ks, rfl, (hN.keep (Nat.le_refl _) fun p hp _ => ext _ p (by omega)).wid (by omega)⟩⟩
/-- just: the closure's answer r is laid as the element is. -/
def justP (is : Bool) (x : Fo.El) (r : Except Nat Fo.El) : Prop := is = true ∧ ∃ y, r = .ok y ∧ alike y x

theorem ct_justN {x : Fo.El} {w : Nat} {is : Bool} {clo : Nat} {caps : Array Value} {r : Except Nat Fo.El} {B : Option Addr} {m d : Nat} {A : Option Addr} {n c : Nat} {ks : List Value} (h : NdR nx gt x B m d A n c ks) (hxw : x.f.ws < 1000000000) (hyw : ∀ y, r = .ok y → y.f.ws < 1000000000)
    (hclo : ∀ (nx' : Nat) (g : Nat → Option Blk), nx ≤ nx' → (∀ p, p < nx → g p = gt p) → Ct Tryd.prog clo caps.toList nx' g fun v x g => NErr nx' x g v r) :
    Ct Tryd.prog 48 [.int .u64 (w : Nat), .bool is, nodeV x.t B m d A n c, .func (.func clo) #[] caps] nx gt fun v _ _ => ∃ b : Bool, (b = true ↔ justP is x r) ∧ v = if b then .tuple #[.int .u64 (w : Nat), .int .i64 0] else .tuple #[.int .u64 0, .int .i64 2] := by
  refine Ct.of hmx r_scalar_just_uint64_ (by simp [c_scalar_just_uint64_]) fun b hb => ?_
  have hF : ∀ q, q < nx → upd gt nx (some (.cells (nodeL x.t B m d A n c) false)) q = gt q := fun q hq => by simp only [upd_e]; rw [if_neg (by omega)]
  have hb0 : upd gt nx (some (.cells (nodeL x.t B m d A n c) false)) nx = some (.cells (nodeL x.t B m d A n c) false) := by simp only [upd_e, if_true]
  cases is with
  | false =>
    simp only [c_scalar_just_uint64_, ↓gaW, ↓gaV, ↓gaC, ↓gaN, gaP, Nat.reduceEqDiff, Nat.reduceLeDiff, Nat.reduceAdd, Nat.reduceSub, Nat.reduceMul, Int.reduceLT, Int.reduceLE, Int.reduceEq, Int.reduceToNat, Int.reduceAdd, Int.reduceSub, Int.reduceMul, reduceCtorEq, ↓reduceIte, gaE, implies_true, Nat.le_refl, Int.sub_zero, Nat.sub_zero, Int.le_refl, true_or, or_true, List.getD_cons_zero, List.getD_cons_succ, fillL, splice, List.take_zero, List.drop_zero, List.drop_succ_cons, List.take_succ_cons, List.drop_nil, List.take_nil, gaU, Bool.not_false]
    exact ⟨by omega, hF, false, by simp [justP], rfl⟩
  | true =>
    simp only [c_scalar_just_uint64_, ↓gaW, ↓gaV, ↓gaC, ↓gaN, gaP, Nat.reduceEqDiff, Nat.reduceLeDiff, Nat.reduceAdd, Nat.reduceSub, Nat.reduceMul, Int.reduceLT, Int.reduceLE, Int.reduceEq, Int.reduceToNat, Int.reduceAdd, Int.reduceSub, Int.reduceMul, reduceCtorEq, ↓reduceIte, List.getD_cons_zero, List.getD_cons_succ, fillL, splice, List.take_zero, List.drop_zero, List.drop_succ_cons, List.take_succ_cons, List.drop_nil, List.take_nil, gaU, Bool.not_true]
    generalize upd gt nx (some (.cells (nodeL x.t B m d A n c) false)) = g0 at *
    refine callK_of (hclo (nx + 1) g0 (by omega) hF) (fun v x1 g1 l1 k1 hC => ?_) (by omega)
    have F1 : ∀ p, p < nx → g1 p = gt p := fun p hp => by rw [k1 p (by omega), hF p hp]
    have hb1 : g1 nx = some (.cells (nodeL x.t B m d A n c) false) := by rw [k1 nx (by omega), hb0]
    have hnx1 : (nx = x1) = False := by simp; omega
    cases r with
    | error e =>
      obtain ⟨rfl, he⟩ := hC
      have he0 : ¬ (e : Int) = 0 := by omega
      simp only [↓gaW, ↓gaV, ↓gaC, ↓gaN, gaP, Nat.reduceEqDiff, Nat.reduceLeDiff, Nat.reduceAdd, Nat.reduceSub, Nat.reduceMul, Int.reduceLT, Int.reduceLE, Int.reduceEq, Int.reduceToNat, Int.reduceAdd, Int.reduceSub, Int.reduceMul, reduceCtorEq, ↓reduceIte, gaE, implies_true, Nat.le_refl, Int.sub_zero, Nat.sub_zero, Int.le_refl, true_or, or_true, List.getD_cons_zero, List.getD_cons_succ, fillL, splice, List.take_zero, List.drop_zero, List.drop_succ_cons, List.take_succ_cons, List.drop_nil, List.take_nil, gaU, he0, decide_false, Bool.not_false]
      repeat refine And.intro (by omega) ?_
      refine And.intro (node_cells _ _ _ _ _ _ _) ?_
      refine ⟨by omega, fun p hp => by rw [if_neg (by omega), if_neg (by omega), F1 p hp], false, by simp [justP], rfl⟩
    | ok y =>
      obtain ⟨u, rfl, B', m', d', A', n', c', ks', rfl, hN⟩ := hC
      obtain ⟨g2, e2⟩ : ∃ g', g' = upd (upd g1 x1 (some (.cells [Value.int .i64 0, .slice none 0 0, .slice none 0 0] false))) x1 (some (.cells (nodeL y.t B' m' d' A' n' c') false)) := ⟨_, rfl⟩
      have G2 : ∀ p, p < x1 → g2 p = g1 p := fun p hp => by rw [e2]; simp only [upd_e]; rw [if_neg (by omega), if_neg (by omega)]
      have hb2 : g2 nx = some (.cells (nodeL x.t B m d A n c) false) := by rw [G2 nx (by omega), hb1]
      have hy := hyw y rfl
      simp only [↓gaW, ↓gaV, ↓gaC, ↓gaN, gaP, Nat.reduceEqDiff, Nat.reduceLeDiff, Nat.reduceAdd, Nat.reduceSub, Nat.reduceMul, Int.reduceLT, Int.reduceLE, Int.reduceEq, Int.reduceToNat, Int.reduceAdd, Int.reduceSub, Int.reduceMul, reduceCtorEq, ↓reduceIte, List.getD_cons_zero, List.getD_cons_succ, fillL, splice, List.take_zero, List.drop_zero, List.drop_succ_cons, List.take_succ_cons, List.drop_nil, List.take_nil, gaU, hnx1, hb1, decide_true, decide_false, Bool.not_true]
      repeat refine And.intro (by omega) ?_
      refine And.intro (node_cells _ _ _ _ _ _ _) ?_
      repeat refine And.intro (by omega) ?_
      rw [← e2]; clear e2
      refine callK_of (ct_same (hN.r.keep (x' := x1 + 1) (by omega) G2) (h.keep (x' := x1 + 1) (by omega) fun p hp => by rw [G2 p (by omega), F1 p hp]) hy hxw) (fun v x3 g3 l3 k3 hC => ?_) (by omega)
      obtain ⟨s, rfl, hs⟩ := hC
      have F3 : ∀ p, p < nx → g3 p = gt p := fun p hp => by rw [k3 p (by omega), G2 p (by omega), F1 p hp]
      cases s with
      | false =>
        simp only [↓gaW, ↓gaV, ↓gaC, ↓gaN, gaP, Nat.reduceEqDiff, Nat.reduceLeDiff, Nat.reduceAdd, Nat.reduceSub, Nat.reduceMul, Int.reduceLT, Int.reduceLE, Int.reduceEq, Int.reduceToNat, Int.reduceAdd, Int.reduceSub, Int.reduceMul, reduceCtorEq, ↓reduceIte, gaE, implies_true, Nat.le_refl, Int.sub_zero, Nat.sub_zero, Int.le_refl, true_or, or_true, List.getD_cons_zero, List.getD_cons_succ, fillL, splice, List.take_zero, List.drop_zero, List.drop_succ_cons, List.take_succ_cons, List.drop_nil, List.take_nil, Bool.not_false]
        refine ⟨by omega, F3, false, ?_, rfl⟩
        simp only [Bool.false_eq_true, false_iff] at hs ⊢
        rintro ⟨_, z, hz, hal⟩
        injection hz with hz; subst hz
        exact hs hal
      | true =>
        simp only [↓gaW, ↓gaV, ↓gaC, ↓gaN, gaP, Nat.reduceEqDiff, Nat.reduceLeDiff, Nat.reduceAdd, Nat.reduceSub, Nat.reduceMul, Int.reduceLT, Int.reduceLE, Int.reduceEq, Int.reduceToNat, Int.reduceAdd, Int.reduceSub, Int.reduceMul, reduceCtorEq, ↓reduceIte, gaE, implies_true, Nat.le_refl, Int.sub_zero, Nat.sub_zero, Int.le_refl, true_or, or_true, List.getD_cons_zero, List.getD_cons_succ, fillL, splice, List.take_zero, List.drop_zero, List.drop_succ_cons, List.take_succ_cons, List.drop_nil, List.take_nil, Bool.not_true]
        exact ⟨by omega, F3, true, by simp only [true_iff]; exact ⟨rfl, y, rfl, hs.1 rfl⟩, rfl⟩
theorem ct_justB {x : Fo.El} {u : Value} {is : Bool} {clo : Nat} {caps : Array Value} {r : Except Nat Fo.El} {B : Option Addr} {m d : Nat} {A : Option Addr} {n c : Nat} {ks : List Value} (h : NdR nx gt x B m d A n c ks) (hxw : x.f.ws < 1000000000) (hyw : ∀ y, r = .ok y → y.f.ws < 1000000000)
    (hclo : ∀ (nx' : Nat) (g : Nat → Option Blk), nx ≤ nx' → (∀ p, p < nx → g p = gt p) → Ct Tryd.prog clo caps.toList nx' g fun v x g => NErr nx' x g v r) :
    Ct Tryd.prog 51 [u, .bool is, nodeV x.t B m d A n c, .func (.func clo) #[] caps] nx gt fun v _ _ => ∃ b : Bool, (b = true ↔ justP is x r) ∧ v = if b then .tuple #[u, .int .i64 0] else .tuple #[.slice none 0 0, .int .i64 2] := by
  refine Ct.of hmx r_scalar_just___byte_ (by simp [c_scalar_just___byte_]) fun b hb => ?_
  have hF : ∀ q, q < nx → upd gt nx (some (.cells (nodeL x.t B m d A n c) false)) q = gt q := fun q hq => by simp only [upd_e]; rw [if_neg (by omega)]
  have hb0 : upd gt nx (some (.cells (nodeL x.t B m d A n c) false)) nx = some (.cells (nodeL x.t B m d A n c) false) := by simp only [upd_e, if_true]
  cases is with
  | false =>
    simp only [c_scalar_just___byte_, ↓gaW, ↓gaV, ↓gaC, ↓gaN, gaP, Nat.reduceEqDiff, Nat.reduceLeDiff, Nat.reduceAdd, Nat.reduceSub, Nat.reduceMul, Int.reduceLT, Int.reduceLE, Int.reduceEq, Int.reduceToNat, Int.reduceAdd, Int.reduceSub, Int.reduceMul, reduceCtorEq, ↓reduceIte, gaE, implies_true, Nat.le_refl, Int.sub_zero, Nat.sub_zero, Int.le_refl, true_or, or_true, List.getD_cons_zero, List.getD_cons_succ, fillL, splice, List.take_zero, List.drop_zero, List.drop_succ_cons, List.take_succ_cons, List.drop_nil, List.take_nil, gaU, Bool.not_false]
    exact ⟨by omega, hF, false, by simp [justP], rfl⟩
  | true =>
    simp only [c_scalar_just___byte_, ↓gaW, ↓gaV, ↓gaC, ↓gaN, gaP, Nat.reduceEqDiff, Nat.reduceLeDiff, Nat.reduceAdd, Nat.reduceSub, Nat.reduceMul, Int.reduceLT, Int.reduceLE, Int.reduceEq, Int.reduceToNat, Int.reduceAdd, Int.reduceSub, Int.reduceMul, reduceCtorEq, ↓reduceIte, List.getD_cons_zero, List.getD_cons_succ, fillL, splice, List.take_zero, List.drop_zero, List.drop_succ_cons, List.take_succ_cons, List.drop_nil, List.take_nil, gaU, Bool.not_true]
    generalize upd gt nx (some (.cells (nodeL x.t B m d A n c) false)) = g0 at *
    refine callK_of (hclo (nx + 1) g0 (by omega) hF) (fun v x1 g1 l1 k1 hC => ?_) (by omega)
    have F1 : ∀ p, p < nx → g1 p = gt p := fun p hp => by rw [k1 p (by omega), hF p hp]
    have hb1 : g1 nx = some (.cells (nodeL x.t B m d A n c) false) := by rw [k1 nx (by omega), hb0]
    have hnx1 : (nx = x1) = False := by simp; omega
    cases r with
    | error e =>
      obtain ⟨rfl, he⟩ := hC
      have he0 : ¬ (e : Int) = 0 := by omega
      simp only [↓gaW, ↓gaV, ↓gaC, ↓gaN, gaP, Nat.reduceEqDiff, Nat.reduceLeDiff, Nat.reduceAdd, Nat.reduceSub, Nat.reduceMul, Int.reduceLT, Int.reduceLE, Int.reduceEq, Int.reduceToNat, Int.reduceAdd, Int.reduceSub, Int.reduceMul, reduceCtorEq, ↓reduceIte, gaE, implies_true, Nat.le_refl, Int.sub_zero, Nat.sub_zero, Int.le_refl, true_or, or_true, List.getD_cons_zero, List.getD_cons_succ, fillL, splice, List.take_zero, List.drop_zero, List.drop_succ_cons, List.take_succ_cons, List.drop_nil, List.take_nil, gaU, he0, decide_false, Bool.not_false]
      repeat refine And.intro (by omega) ?_
      refine And.intro (node_cells _ _ _ _ _ _ _) ?_
      refine ⟨by omega, fun p hp => by rw [if_neg (by omega), if_neg (by omega), F1 p hp], false, by simp [justP], rfl⟩
    | ok y =>
      obtain ⟨u, rfl, B', m', d', A', n', c', ks', rfl, hN⟩ := hC
      obtain ⟨g2, e2⟩ : ∃ g', g' = upd (upd g1 x1 (some (.cells [Value.int .i64 0, .slice none 0 0, .slice none 0 0] false))) x1 (some (.cells (nodeL y.t B' m' d' A' n' c') false)) := ⟨_, rfl⟩
      have G2 : ∀ p, p < x1 → g2 p = g1 p := fun p hp => by rw [e2]; simp only [upd_e]; rw [if_neg (by omega), if_neg (by omega)]
      have hb2 : g2 nx = some (.cells (nodeL x.t B m d A n c) false) := by rw [G2 nx (by omega), hb1]
      have hy := hyw y rfl
      simp only [↓gaW, ↓gaV, ↓gaC, ↓gaN, gaP, Nat.reduceEqDiff, Nat.reduceLeDiff, Nat.reduceAdd, Nat.reduceSub, Nat.reduceMul, Int.reduceLT, Int.reduceLE, Int.reduceEq, Int.reduceToNat, Int.reduceAdd, Int.reduceSub, Int.reduceMul, reduceCtorEq, ↓reduceIte, List.getD_cons_zero, List.getD_cons_succ, fillL, splice, List.take_zero, List.drop_zero, List.drop_succ_cons, List.take_succ_cons, List.drop_nil, List.take_nil, gaU, hnx1, hb1, decide_true, decide_false, Bool.not_true]
      repeat refine And.intro (by omega) ?_
      refine And.intro (node_cells _ _ _ _ _ _ _) ?_
      repeat refine And.intro (by omega) ?_
      rw [← e2]; clear e2
      refine callK_of (ct_same (hN.r.keep (x' := x1 + 1) (by omega) G2) (h.keep (x' := x1 + 1) (by omega) fun p hp => by rw [G2 p (by omega), F1 p hp]) hy hxw) (fun v x3 g3 l3 k3 hC => ?_) (by omega)
      obtain ⟨s, rfl, hs⟩ := hC
      have F3 : ∀ p, p < nx → g3 p = gt p := fun p hp => by rw [k3 p (by omega), G2 p (by omega), F1 p hp]
      cases s with
      | false =>
        simp only [↓gaW, ↓gaV, ↓gaC, ↓gaN, gaP, Nat.reduceEqDiff, Nat.reduceLeDiff, Nat.reduceAdd, Nat.reduceSub, Nat.reduceMul, Int.reduceLT, Int.reduceLE, Int.reduceEq, Int.reduceToNat, Int.reduceAdd, Int.reduceSub, Int.reduceMul, reduceCtorEq, ↓reduceIte, gaE, implies_true, Nat.le_refl, Int.sub_zero, Nat.sub_zero, Int.le_refl, true_or, or_true, List.getD_cons_zero, List.getD_cons_succ, fillL, splice, List.take_zero, List.drop_zero, List.drop_succ_cons, List.take_succ_cons, List.drop_nil, List.take_nil, Bool.not_false]
        refine ⟨by omega, F3, false, ?_, rfl⟩
        simp only [Bool.false_eq_true, false_iff] at hs ⊢
        rintro ⟨_, z, hz, hal⟩
        injection hz with hz; subst hz
        exact hs hal
      | true =>
        simp only [↓gaW, ↓gaV, ↓gaC, ↓gaN, gaP, Nat.reduceEqDiff, Nat.reduceLeDiff, Nat.reduceAdd, Nat.reduceSub, Nat.reduceMul, Int.reduceLT, Int.reduceLE, Int.reduceEq, Int.reduceToNat, Int.reduceAdd, Int.reduceSub, Int.reduceMul, reduceCtorEq, ↓reduceIte, gaE, implies_true, Nat.le_refl, Int.sub_zero, Nat.sub_zero, Int.le_refl, true_or, or_true, List.getD_cons_zero, List.getD_cons_succ, fillL, splice, List.take_zero, List.drop_zero, List.drop_succ_cons, List.take_succ_cons, List.drop_nil, List.take_nil, Bool.not_true]
        exact ⟨by omega, F3, true, by simp only [true_iff]; exact ⟨rfl, y, rfl, hs.1 rfl⟩, rfl⟩
end
end Go.Ga

/- The number, and the great number, of an element. -/
namespace Go.Ga
open Go Go.Proofs
set_option linter.unusedSimpArgs false
set_option linter.unusedVariables false
set_option maxRecDepth 100000
attribute [local irreducible] appendK

theorem intE_ex {n : Nat} (hn : n < 18446744073709551616) : ∃ y, intE n y := by
  have key : ∀ k, k ≤ 7 → n < 256 ^ (k + 1) → ∃ j, isLeast n j := by
    intro k
    induction k with
    | zero => intro _ h; exact ⟨1, Nat.le_refl _, by omega, h, .inl rfl⟩
    | succ k ih =>
      intro hk h
      rcases Nat.lt_or_ge n (256 ^ (k + 1)) with h1 | h1
      · exact ih (by omega) h1
      · exact ⟨k + 1 + 1, by omega, by omega, h, .inr h1⟩
  have h8 : (256 : Nat) ^ (7 + 1) = 18446744073709551616 := by decide
  obtain ⟨j, hj⟩ := key 7 (Nat.le_refl _) (by rw [h8]; exact hn)
  exact ⟨_, j, hj, rfl⟩
theorem intE_k {n : Nat} {y : Fo.El} (h : intE n y) : y.k = .nil := by
  obtain ⟨k, _, rfl⟩ := h; rfl
theorem alike_eq {y x : Fo.El} (h : y.k = .nil) : alike y x ↔ x = y := by
  cases x; cases y
  simp only [alike, Fo.El.mk.injEq] at *
  constructor
  · rintro ⟨h1, h2, h3, h4⟩; exact ⟨h1.symm, h2.symm, by rw [h4, h3]⟩
  · rintro ⟨h1, h2, h3⟩; exact ⟨h1.symm, h2.symm, h, by rw [h3, h]⟩

/-- The number of an element; or an error. -/
noncomputable def uintR (x : Fo.El) : Nat × Nat := open Classical in if val x.b < 18446744073709551616 ∧ intE (val x.b) x then (val x.b, 0) else (0, 2)
noncomputable def greatR (x : Fo.El) : List UInt8 × Nat := open Classical in if x = big x.b then (bare x.b, 0) else ([], 2)
def BErr (nx : Nat) (g : Nat → Option Blk) (v : Value) (r : List UInt8 × Nat) : Prop := ∃ u, v = .tuple #[u, .int .i64 (r.2 : Nat)] ∧ BySl nx g u r.1
/-- Cells in a block of their own. -/
theorem boxed {g : Nat → Option Blk} {x : Nat} {cs ds : List Value} : ∃ g', g' = upd (upd g x (some (.cells cs false))) x (some (.cells ds false)) ∧ (∀ p, p < x → g' p = g p) ∧ g' x = some (.cells ds false) :=
  ⟨_, rfl, fun p hp => by simp only [upd_e]; rw [if_neg (by omega), if_neg (by omega)], by simp only [upd_e, if_true]⟩

section
variable {nx : Nat} {gt : Nat → Option Blk}

theorem ct_Uint1 {q n : Nat} {ro : Bool} {y : Fo.El} (hq : q < nx) (hg : gt q = some (.cells [.int .u64 (n : Nat)] ro)) (hn : n < 18446744073709551616) (hy : intE n y) : Ct Tryd.prog 49 [.pointer (some ⟨q, 0, none⟩)] nx gt fun v x g => NErr nx x g v (.ok y) := by
  refine Ct.of hmx r_scalar_Uint_1 (by simp [c_scalar_Uint_1]) fun b hb => ?_
  have hF : ∀ q, q < nx → upd gt nx (some (.cells [Value.int .i64 0, .slice none 0 0, .slice none 0 0] false)) q = gt q := fun q hq => by simp only [upd_e]; rw [if_neg (by omega)]
  have hb0 : upd gt nx (some (.cells [Value.int .i64 0, .slice none 0 0, .slice none 0 0] false)) nx = some (.cells [Value.int .i64 0, .slice none 0 0, .slice none 0 0] false) := by simp only [upd_e, if_true]
  have hqn : (q = nx) = False := by simp; omega
  simp only [c_scalar_Uint_1, ↓gaW, ↓gaV, ↓gaC, ↓gaN, gaP, Nat.reduceEqDiff, Nat.reduceLeDiff, Nat.reduceAdd, Nat.reduceSub, Nat.reduceMul, Int.reduceLT, Int.reduceLE, Int.reduceEq, Int.reduceToNat, Int.reduceAdd, Int.reduceSub, Int.reduceMul, reduceCtorEq, ↓reduceIte, List.getD_cons_zero, List.getD_cons_succ, fillL, splice, List.take_zero, List.drop_zero, List.drop_succ_cons, List.take_succ_cons, List.drop_nil, List.take_nil, gaU, hqn, hg, List.getD_cons_zero]
  generalize upd gt nx (some (.cells [Value.int .i64 0, .slice none 0 0, .slice none 0 0] false)) = g0 at *
  repeat refine And.intro (by omega) ?_
  refine callK_of (ct_Int hn) (fun v x1 g1 l1 k1 hC => ?_) (by omega)
  obtain ⟨z, hz, B, m, d, A, n', c, ks, rfl, hN⟩ := hC
  have := intE_one hz hy
  subst this
  have F1 : ∀ p, p < nx → g1 p = gt p := fun p hp => by rw [k1 p (by omega), hF p hp]
  have hb1 : g1 nx = some (.cells [Value.int .i64 0, .slice none 0 0, .slice none 0 0] false) := by rw [k1 nx (by omega), hb0]
  simp only [↓gaW, ↓gaV, ↓gaC, ↓gaN, gaP, Nat.reduceEqDiff, Nat.reduceLeDiff, Nat.reduceAdd, Nat.reduceSub, Nat.reduceMul, Int.reduceLT, Int.reduceLE, Int.reduceEq, Int.reduceToNat, Int.reduceAdd, Int.reduceSub, Int.reduceMul, reduceCtorEq, ↓reduceIte, List.getD_cons_zero, List.getD_cons_succ, fillL, splice, List.take_zero, List.drop_zero, List.drop_succ_cons, List.take_succ_cons, List.drop_nil, List.take_nil, hb1]
  refine And.intro (by omega) (And.intro (node_cells _ _ _ _ _ _ _) ?_)
  have ext : ∀ (cs : List Value), (∀ p, p ≠ nx → upd g1 nx (some (.cells cs false)) p = g1 p) := fun cs p hp => by simp only [upd_e]; rw [if_neg hp]
  rw [end_r, res_cN (by first | (simp only [↓gaW, ↓gaV, ↓gaC, ↓gaN, gaP, Nat.reduceEqDiff, Nat.reduceLeDiff, Nat.reduceAdd, Nat.reduceSub, Nat.reduceMul, Int.reduceLT, Int.reduceLE, Int.reduceEq, Int.reduceToNat, Int.reduceAdd, Int.reduceSub, Int.reduceMul, reduceCtorEq, ↓reduceIte]; done) | (simp only [↓gaW, ↓gaV, ↓gaC, ↓gaN, gaP, Nat.reduceEqDiff, Nat.reduceLeDiff, Nat.reduceAdd, Nat.reduceSub, Nat.reduceMul, Int.reduceLT, Int.reduceLE, Int.reduceEq, Int.reduceToNat, Int.reduceAdd, Int.reduceSub, Int.reduceMul, reduceCtorEq, ↓reduceIte]; rfl)) (by simp only [upd_e, if_true]; rfl) (by simp)]
  simp only [res_t, res_nil, Option.map_some, asO_e, one2, List.drop_zero, ↓gaW, ↓gaV, ↓gaC, ↓gaN, gaP, Nat.reduceEqDiff, Nat.reduceLeDiff, Nat.reduceAdd, Nat.reduceSub, Nat.reduceMul, Int.reduceLT, Int.reduceLE, Int.reduceEq, Int.reduceToNat, Int.reduceAdd, Int.reduceSub, Int.reduceMul, reduceCtorEq, ↓reduceIte, List.getD_cons_zero, List.getD_cons_succ, fillL, splice, List.take_zero, List.drop_zero, List.drop_succ_cons, List.take_succ_cons, List.drop_nil, List.take_nil]
  refine ⟨by omega, fun p hp => by rw [if_neg (by omega), F1 p hp], _, rfl, B, m, d, A, n', c, ks, rfl, (hN.keep (Nat.le_refl _) fun p hp _ => ext _ p (by omega)).wid (by omega)⟩
theorem ct_Uint {x : Fo.El} {B : Option Addr} {m d : Nat} {A : Option Addr} {n c : Nat} {ks : List Value} (h : NdR nx gt x B m d A n c ks) (hxw : x.f.ws < 900000) :
    Ct Tryd.prog 16 [nodeV x.t B m d A n c] nx gt fun v _ _ => v = .tuple #[.int .u64 ((uintR x).1 : Nat), .int .i64 ((uintR x).2 : Nat)] := by
  refine Ct.of hmx r_scalar_Uint (by simp [c_scalar_Uint]) fun b hb => ?_
  have hF : ∀ q, q < nx → upd gt nx (some (.cells (nodeL x.t B m d A n c) false)) q = gt q := fun q hq => by simp only [upd_e]; rw [if_neg (by omega)]
  have hb0 : upd gt nx (some (.cells (nodeL x.t B m d A n c) false)) nx = some (.cells (nodeL x.t B m d A n c) false) := by simp only [upd_e, if_true]
  have xw : x.f.ws = 1 + x.b.length + x.k.ws := by simp only [Fo.El.f, Fo.ws]; omega
  have lw := Fo.len_ws x.k
  have hl := h.blen
  have hkl := h.len
  simp only [c_scalar_Uint, ↓gaW, ↓gaV, ↓gaC, ↓gaN, gaP, Nat.reduceEqDiff, Nat.reduceLeDiff, Nat.reduceAdd, Nat.reduceSub, Nat.reduceMul, Int.reduceLT, Int.reduceLE, Int.reduceEq, Int.reduceToNat, Int.reduceAdd, Int.reduceSub, Int.reduceMul, reduceCtorEq, ↓reduceIte, List.getD_cons_zero, List.getD_cons_succ, fillL, splice, List.take_zero, List.drop_zero, List.drop_succ_cons, List.take_succ_cons, List.drop_nil, List.take_nil, gaU]
  generalize upd gt nx (some (.cells (nodeL x.t B m d A n c) false)) = g0 at *
  repeat refine And.intro (by omega) ?_
  have h0 := h.keep (x' := nx + 1) (by omega) hF
  refine callK_of (ct_Num h0.body h.md (by omega)) (fun v x1 g1 l1 k1 hC => ?_) (by omega)
  subst hC
  have F1 : ∀ p, p < nx → g1 p = gt p := fun p hp => by rw [k1 p (by omega), hF p hp]
  have hb1 : g1 nx = some (.cells (nodeL x.t B m d A n c) false) := by rw [k1 nx (by omega), hb0]
  -- the number, and whether there is one
  obtain ⟨w, is, hv, hw, his⟩ : ∃ (w : Nat) (is : Bool), numV x.b = .tuple #[.int .u64 (w : Nat), .bool is] ∧ w < 18446744073709551616 ∧ ((is = true ∧ val x.b < 18446744073709551616 ∧ w = val x.b) ∨ (is = false ∧ ¬ val x.b < 18446744073709551616 ∧ w = 0)) := by
    unfold numV
    by_cases hv : val x.b < 18446744073709551616
    · rw [if_pos hv]; exact ⟨_, true, rfl, hv, .inl ⟨rfl, hv, rfl⟩⟩
    · rw [if_neg hv]; exact ⟨0, false, rfl, by omega, .inr ⟨rfl, hv, rfl⟩⟩
  rw [hv]
  obtain ⟨y, hy⟩ := intE_ex hw
  have hyw := intE_ws hy
  have hnx1 : (nx = x1) = False := by simp; omega
  simp only [↓gaW, ↓gaV, ↓gaC, ↓gaN, gaP, Nat.reduceEqDiff, Nat.reduceLeDiff, Nat.reduceAdd, Nat.reduceSub, Nat.reduceMul, Int.reduceLT, Int.reduceLE, Int.reduceEq, Int.reduceToNat, Int.reduceAdd, Int.reduceSub, Int.reduceMul, reduceCtorEq, ↓reduceIte, List.getD_cons_zero, List.getD_cons_succ, fillL, splice, List.take_zero, List.drop_zero, List.drop_succ_cons, List.take_succ_cons, List.drop_nil, List.take_nil, gaU, hnx1, hb1]
  repeat refine And.intro (by omega) ?_
  refine And.intro (all1 rfl) ?_
  repeat refine And.intro (by omega) ?_
  obtain ⟨g2, e2, G2, hb2⟩ := boxed (g := g1) (x := x1) (cs := [Value.int .u64 0]) (ds := [Value.int .u64 (w : Nat)])
  rw [← e2]; clear e2
  have hN2 := h.keep (x' := x1 + 1) (g := g2) (by omega) fun p hp => by rw [G2 p (by omega), F1 p hp]
  refine callK_of (ct_justN (r := .ok y) hN2 (by omega) (fun y' hy' => by injection hy' with hy'; subst hy'; omega) (fun nx' g h1 h2 => ct_Uint1 (q := x1) (by omega) (by rw [h2 x1 (by omega), hb2]) hw hy)) (fun v x3 g3 l3 k3 hC => ?_) (by omega)
  obtain ⟨bb, hbb, rfl⟩ := hC
  have F3 : ∀ p, p < nx → g3 p = gt p := fun p hp => by rw [k3 p (by omega), G2 p (by omega), F1 p hp]
  have hj : justP is x (.ok y) ↔ (val x.b < 18446744073709551616 ∧ intE (val x.b) x) := by
    unfold justP
    constructor
    · rintro ⟨h1, z, h2, h3⟩
      injection h2 with h2; subst h2
      rcases his with ⟨_, h4, h5⟩ | ⟨h4, _⟩
      · have := (alike_eq (intE_k hy)).1 h3
        subst this
        exact ⟨h4, by rw [← h5]; exact hy⟩
      · rw [h1] at h4; cases h4
    · rintro ⟨h1, h2⟩
      rcases his with ⟨h3, h4, h5⟩ | ⟨_, h4, _⟩
      · rw [← h5] at h2
        exact ⟨h3, y, rfl, (alike_eq (intE_k hy)).2 (intE_one h2 hy)⟩
      · exact absurd h1 h4
  cases bb with
  | true =>
    have hc := hj.1 (hbb.1 rfl)
    have hw2 : w = val x.b := by
      rcases his with ⟨_, _, h5⟩ | ⟨_, h4, _⟩
      · exact h5
      · exact absurd hc.1 h4
    have e : uintR x = (val x.b, 0) := if_pos hc
    simp only [↓gaW, ↓gaV, ↓gaC, ↓gaN, gaP, Nat.reduceEqDiff, Nat.reduceLeDiff, Nat.reduceAdd, Nat.reduceSub, Nat.reduceMul, Int.reduceLT, Int.reduceLE, Int.reduceEq, Int.reduceToNat, Int.reduceAdd, Int.reduceSub, Int.reduceMul, reduceCtorEq, ↓reduceIte, gaE, implies_true, Nat.le_refl, Int.sub_zero, Nat.sub_zero, Int.le_refl, true_or, or_true, List.getD_cons_zero, List.getD_cons_succ, fillL, splice, List.take_zero, List.drop_zero, List.drop_succ_cons, List.take_succ_cons, List.drop_nil, List.take_nil, e]
    exact ⟨by omega, by omega, by omega, F3, by rw [hw2]⟩
  | false =>
    have hc : ¬ (val x.b < 18446744073709551616 ∧ intE (val x.b) x) := fun hc => by have := hbb.2 (hj.2 hc); cases this
    have e : uintR x = (0, 2) := if_neg hc
    simp only [↓gaW, ↓gaV, ↓gaC, ↓gaN, gaP, Nat.reduceEqDiff, Nat.reduceLeDiff, Nat.reduceAdd, Nat.reduceSub, Nat.reduceMul, Int.reduceLT, Int.reduceLE, Int.reduceEq, Int.reduceToNat, Int.reduceAdd, Int.reduceSub, Int.reduceMul, reduceCtorEq, ↓reduceIte, gaE, implies_true, Nat.le_refl, Int.sub_zero, Nat.sub_zero, Int.le_refl, true_or, or_true, List.getD_cons_zero, List.getD_cons_succ, fillL, splice, List.take_zero, List.drop_zero, List.drop_succ_cons, List.take_succ_cons, List.drop_nil, List.take_nil, e, Bool.false_eq_true, if_false]
    repeat refine And.intro (by omega) ?_
    first | exact F3 | exact ⟨F3, rfl⟩

end
end Go.Ga

/- Numbers by seven bits a byte. -/
namespace Go.Ga
open Go Go.Proofs
set_option linter.unusedSimpArgs false
set_option linter.unusedVariables false
set_option maxRecDepth 100000
attribute [local irreducible] appendK

def sg (n : Nat) : List UInt8 := if h : n = 0 then [] else UInt8.ofNat (n % 128 + 128) :: sg (n / 128)
termination_by n
theorem sg_0 : sg 0 = [] := by unfold sg; simp
theorem sg_s {n : Nat} (h : n ≠ 0) : sg n = UInt8.ofNat (n % 128 + 128) :: sg (n / 128) := by
  rw [sg]; simp [h]
def le7 (n : Nat) : List UInt8 := UInt8.ofNat (n % 128) :: sg (n / 128)
def sv (n : Nat) : List UInt8 := (le7 n).reverse
theorem sg_len : ∀ k n, n < 128 ^ k → (sg n).length ≤ k := by
  intro k
  induction k with
  | zero => intro n h; have : n = 0 := by omega
            subst this; simp [sg_0]
  | succ k ih =>
    intro n h
    by_cases h0 : n = 0
    · subst h0; simp [sg_0]
    · rw [sg_s h0, List.length_cons]
      have := ih (n / 128) (by rw [Nat.div_lt_iff_lt_mul (by omega)]; rw [Nat.pow_succ] at h; omega)
      omega
theorem le7_len {n : Nat} (h : n < 18446744073709551616) : (le7 n).length ≤ 10 := by
  unfold le7
  have := sg_len 9 (n / 128) (by omega)
  simp only [List.length_cons]; omega
theorem sv_len {n : Nat} (h : n < 18446744073709551616) : (sv n).length ≤ 10 := by
  unfold sv; rw [List.length_reverse]; exact le7_len h
theorem and127 {n : Nat} (h : n < 18446744073709551616) : bitsV .and .u64 (n : Int) 127 = ((n % 128 : Nat) : Int) := by
  have e : n &&& 127 = n % 128 := Nat.and_two_pow_sub_one_eq_mod n 7
  show IntKind.u64.wrap ((BitVec.ofInt 64 (n : Int) &&& BitVec.ofInt 64 ((127 : Nat) : Int)).toNat : Int) = _
  simp only [BitVec.ofInt_natCast, BitVec.toNat_and, BitVec.toNat_ofNat]
  rw [Nat.mod_eq_of_lt (by omega), Nat.mod_eq_of_lt (by omega), e, u64_w]
  omega
theorem or128 {n : Nat} (h : n < 128) (more : Nat) (hm : more = 0 ∨ more = 128) : bitsV .or .u8 (n : Int) (more : Nat) = ((n + more : Nat) : Int) := by
  show IntKind.u8.wrap ((BitVec.ofInt 8 (n : Int) ||| BitVec.ofInt 8 ((more : Nat) : Int)).toNat : Int) = _
  simp only [BitVec.ofInt_natCast, BitVec.toNat_or, BitVec.toNat_ofNat]
  rw [Nat.mod_eq_of_lt (by omega), Nat.mod_eq_of_lt (by omega)]
  have e : n ||| more = n + more := by
    rcases hm with rfl | rfl
    · simp
    · have := Nat.two_pow_add_eq_or_of_lt (i := 7) (b := n) h 1
      rw [Nat.or_comm, show (128 : Nat) = 2 ^ 7 * 1 by decide, ← this]; omega
  rw [e, u8_w]
  omega
theorem shr7 (n : Nat) : shrV .u64 (n : Int) 7 = ((n / 128 : Nat) : Int) := shr_nat n 7 (by decide)
theorem get_set8 {l : List UInt8} {i : Nat} {x : UInt8} (h : i < l.length) (j : Nat) : (l.set i x).getD j 0 = if j = i then x else l.getD j 0 := by
  simp only [List.getD_eq_getElem?_getD, List.getElem?_set]
  by_cases hj : i = j
  · subst hj; simp [h]
  · rw [if_neg hj, if_neg (fun e => hj e.symm)]
theorem ext8 {l k : List UInt8} (h : l.length = k.length) (h' : ∀ i, i < l.length → l.getD i 0 = k.getD i 0) : l = k := by
  refine List.ext_getElem h fun i h1 h2 => ?_
  have := h' i h1
  simpa [List.getD_eq_getElem?_getD, h1, h2] using this
theorem splice_set7 {l : List UInt8} {i : Nat} {x : UInt8} (h : i < l.length) : splice (l.map u8V) i [u8V x] = (l.set i x).map u8V := by
  simp [splice, List.set_eq_take_append_cons_drop, h, List.map_take, List.map_drop]

section
variable {nx : Nat} {gt : Nat → Option Blk}

set_option maxHeartbeats 1000000 in
theorem cb_seven {base b n k : Nat} {O : Option Addr} {l : List UInt8} (hn : n < 18446744073709551616) (hb : b ≤ base) (hbn : base ≤ nx) (hG : Own base b nx gt 1 O k (l.map u8V)) (hk : k ≤ 1000000) :
    Cb Tryd.prog 56 [.slice O k k, .int .u64 (n : Nat)] base b nx gt fun v x' g => ∃ (O' : Option Addr), v = .slice O' (k + (sv n).length) (k + (sv n).length) ∧ Own base b x' g 1 O' (k + (sv n).length) ((l ++ sv n).map u8V) := by
  refine Cb.of hmx r_scalar_seven (by simp [c_scalar_seven]) ?_
  have hl7 := le7_len hn
  have hl0 : l.length = k := by simpa using hG.1
  simp only [c_scalar_seven, ↓gaW, ↓gaV, ↓gaC, ↓gaN, gaP, Nat.reduceEqDiff, Nat.reduceLeDiff, Nat.reduceAdd, Nat.reduceSub, Nat.reduceMul, Int.reduceLT, Int.reduceLE, Int.reduceEq, Int.reduceToNat, Int.reduceAdd, Int.reduceSub, Int.reduceMul, reduceCtorEq, ↓reduceIte, List.getD_cons_zero, List.getD_cons_succ, fillL, splice, List.take_zero, List.drop_zero, List.drop_succ_cons, List.take_succ_cons, List.drop_nil, List.take_nil]
  refine loop_of (fun j f mm => ∃ (p : List UInt8) (nj more x2 : Nat) (g : Nat → Option Blk) (A : Option Addr), j = 10 - p.length ∧ ((p = [] ∧ nj = n ∧ more = 0) ∨ (p ≠ [] ∧ le7 n = p ++ sg nj ∧ more = 128)) ∧ nj < 18446744073709551616 ∧ f 0 = .slice A (k + p.length) (k + p.length) ∧ f 1 = .int .u64 (nj : Nat) ∧ f 5 = .int .i64 (k : Nat) ∧ f 6 = .int .u8 (more : Nat) ∧
      mm = ⟨x2, b, g⟩ ∧ nx ≤ x2 ∧ (∀ p, p < base → g p = gt p) ∧ Own base b x2 g 1 A (k + p.length) ((l ++ p).map u8V)) 10 ⟨[], n, 0, nx, gt, O, by simp, .inl ⟨rfl, rfl, rfl⟩, hn, (by first | (simp only [↓gaW, ↓gaV, ↓gaC, ↓gaN, gaP, Nat.reduceEqDiff, Nat.reduceLeDiff, Nat.reduceAdd, Nat.reduceSub, Nat.reduceMul, Int.reduceLT, Int.reduceLE, Int.reduceEq, Int.reduceToNat, Int.reduceAdd, Int.reduceSub, Int.reduceMul, reduceCtorEq, ↓reduceIte]; done) | (simp only [↓gaW, ↓gaV, ↓gaC, ↓gaN, gaP, Nat.reduceEqDiff, Nat.reduceLeDiff, Nat.reduceAdd, Nat.reduceSub, Nat.reduceMul, Int.reduceLT, Int.reduceLE, Int.reduceEq, Int.reduceToNat, Int.reduceAdd, Int.reduceSub, Int.reduceMul, reduceCtorEq, ↓reduceIte]; rfl)), (by first | (simp only [↓gaW, ↓gaV, ↓gaC, ↓gaN, gaP, Nat.reduceEqDiff, Nat.reduceLeDiff, Nat.reduceAdd, Nat.reduceSub, Nat.reduceMul, Int.reduceLT, Int.reduceLE, Int.reduceEq, Int.reduceToNat, Int.reduceAdd, Int.reduceSub, Int.reduceMul, reduceCtorEq, ↓reduceIte]; done) | (simp only [↓gaW, ↓gaV, ↓gaC, ↓gaN, gaP, Nat.reduceEqDiff, Nat.reduceLeDiff, Nat.reduceAdd, Nat.reduceSub, Nat.reduceMul, Int.reduceLT, Int.reduceLE, Int.reduceEq, Int.reduceToNat, Int.reduceAdd, Int.reduceSub, Int.reduceMul, reduceCtorEq, ↓reduceIte]; rfl)), (by first | (simp only [↓gaW, ↓gaV, ↓gaC, ↓gaN, gaP, Nat.reduceEqDiff, Nat.reduceLeDiff, Nat.reduceAdd, Nat.reduceSub, Nat.reduceMul, Int.reduceLT, Int.reduceLE, Int.reduceEq, Int.reduceToNat, Int.reduceAdd, Int.reduceSub, Int.reduceMul, reduceCtorEq, ↓reduceIte]; done) | (simp only [↓gaW, ↓gaV, ↓gaC, ↓gaN, gaP, Nat.reduceEqDiff, Nat.reduceLeDiff, Nat.reduceAdd, Nat.reduceSub, Nat.reduceMul, Int.reduceLT, Int.reduceLE, Int.reduceEq, Int.reduceToNat, Int.reduceAdd, Int.reduceSub, Int.reduceMul, reduceCtorEq, ↓reduceIte]; rfl)), (by first | (simp only [↓gaW, ↓gaV, ↓gaC, ↓gaN, gaP, Nat.reduceEqDiff, Nat.reduceLeDiff, Nat.reduceAdd, Nat.reduceSub, Nat.reduceMul, Int.reduceLT, Int.reduceLE, Int.reduceEq, Int.reduceToNat, Int.reduceAdd, Int.reduceSub, Int.reduceMul, reduceCtorEq, ↓reduceIte]; done) | (simp only [↓gaW, ↓gaV, ↓gaC, ↓gaN, gaP, Nat.reduceEqDiff, Nat.reduceLeDiff, Nat.reduceAdd, Nat.reduceSub, Nat.reduceMul, Int.reduceLT, Int.reduceLE, Int.reduceEq, Int.reduceToNat, Int.reduceAdd, Int.reduceSub, Int.reduceMul, reduceCtorEq, ↓reduceIte]; rfl)), rfl, by omega, fun _ _ => rfl, by simpa using hG⟩ ?_
  rintro j f mm ⟨p, nj, more, x2, g2, A, hj, hp, hnj, f0, f1, f5, f6, rfl, hx2, F2, hO⟩
  by_cases hgo : p = [] ∨ nj ≠ 0
  · -- another byte
    have hmore : more = 0 ∨ more = 128 := by rcases hp with ⟨_, _, h⟩ | ⟨_, _, h⟩ <;> simp [h]
    have hp7 : le7 n = (p ++ [UInt8.ofNat (nj % 128 + more)]) ++ sg (nj / 128) := by
      rcases hp with ⟨rfl, rfl, rfl⟩ | ⟨h1, h2, rfl⟩
      · rfl
      · have h3 : nj ≠ 0 := by rcases hgo with h | h; exact absurd h h1; exact h
        rw [h2, sg_s h3]; simp
    have hpl : p.length + 1 ≤ 10 := by
      have := congrArg List.length hp7
      simp only [List.length_append, List.length_cons, List.length_nil] at this
      omega
    have i1 : IntKind.u8.wrap ((nj % 128 : Nat) : Int) = ((nj % 128 : Nat) : Int) := by rw [u8_w]; omega
    have i2 : bitsV .or .u8 ((nj % 128 : Nat) : Int) (more : Int) = ((nj % 128 + more : Nat) : Int) := or128 (by omega) more hmore
    have i3 : (Value.int .u8 ((nj % 128 + more : Nat) : Int)) = u8V (UInt8.ofNat (nj % 128 + more)) := by
      show _ = Value.int .u8 _
      congr 1
      rw [UInt8.toNat_ofNat']; omega
    have hgo2 : decide (((k + p.length : Nat) : Int) = (k : Int)) = decide (p.length = 0) := by
      congr 1; exact propext (by omega)
    have hZ : ∀ v i, i < x2 → upd g2 x2 (some (.cells [v] false)) i = g2 i := fun v i hi => by simp only [upd_e]; rw [if_neg (by omega)]
    by_cases hn0 : (0 : Int) < (nj : Int)
    · simp only [↓gaW, ↓gaV, ↓gaC, ↓gaN, gaP, Nat.reduceEqDiff, Nat.reduceLeDiff, Nat.reduceAdd, Nat.reduceSub, Nat.reduceMul, Int.reduceLT, Int.reduceLE, Int.reduceEq, Int.reduceToNat, Int.reduceAdd, Int.reduceSub, Int.reduceMul, reduceCtorEq, ↓reduceIte, List.getD_cons_zero, List.getD_cons_succ, fillL, splice, List.take_zero, List.drop_zero, List.drop_succ_cons, List.take_succ_cons, List.drop_nil, List.take_nil, f0, f1, f5, f6, hn0, decide_true, and127 hnj, i1, i2, i3, shr7]
      have er : rowOf ⟨x2 + 1, b, upd g2 x2 (some (.cells [u8V (UInt8.ofNat (nj % 128 + more))] false))⟩ (some ⟨x2, 0, none⟩) 1 = some [u8V (UInt8.ofNat (nj % 128 + more))] := row_new (l := [u8V (UInt8.ofNat (nj % 128 + more))]) (by simp)
      rw [er]
      simp only [asO_e]
      refine own_append (nx := base) (k := 1) (hO.keep (Nat.le_succ _) (hZ _)) (by omega) (by omega) (by omega) (by omega) rfl (all1 rfl) (by omega) (by omega) fun g' hg' ho' => ?_
      have ho2 : Own base b (x2 + 1 + 1) g' 1 (some ⟨x2 + 1, 0, some 1⟩) (k + p.length + 1) ((l ++ (p ++ [UInt8.ofNat (nj % 128 + more)])).map u8V) := by
        rw [← List.append_assoc, List.map_append]; exact ho'
      simp only [↓gaW, ↓gaV, ↓gaC, ↓gaN, gaP, Nat.reduceEqDiff, Nat.reduceLeDiff, Nat.reduceAdd, Nat.reduceSub, Nat.reduceMul, Int.reduceLT, Int.reduceLE, Int.reduceEq, Int.reduceToNat, Int.reduceAdd, Int.reduceSub, Int.reduceMul, reduceCtorEq, ↓reduceIte, List.getD_cons_zero, List.getD_cons_succ, fillL, splice, List.take_zero, List.drop_zero, List.drop_succ_cons, List.take_succ_cons, List.drop_nil, List.take_nil, f5, loopK_n]
      refine ⟨10 - (p.length + 1), by omega, p ++ [UInt8.ofNat (nj % 128 + more)], nj / 128, 128, x2 + 1 + 1, g', some ⟨x2 + 1, 0, some 1⟩, by simp, .inr ⟨by simp, hp7, rfl⟩, by omega, (by simp only [↓gaW, ↓gaV, ↓gaC, ↓gaN, gaP, Nat.reduceEqDiff, Nat.reduceLeDiff, Nat.reduceAdd, Nat.reduceSub, Nat.reduceMul, Int.reduceLT, Int.reduceLE, Int.reduceEq, Int.reduceToNat, Int.reduceAdd, Int.reduceSub, Int.reduceMul, reduceCtorEq, ↓reduceIte, List.length_append, List.length_cons, List.length_nil, Nat.add_assoc]), (by first | (simp only [↓gaW, ↓gaV, ↓gaC, ↓gaN, gaP, Nat.reduceEqDiff, Nat.reduceLeDiff, Nat.reduceAdd, Nat.reduceSub, Nat.reduceMul, Int.reduceLT, Int.reduceLE, Int.reduceEq, Int.reduceToNat, Int.reduceAdd, Int.reduceSub, Int.reduceMul, reduceCtorEq, ↓reduceIte]; done) | (simp only [↓gaW, ↓gaV, ↓gaC, ↓gaN, gaP, Nat.reduceEqDiff, Nat.reduceLeDiff, Nat.reduceAdd, Nat.reduceSub, Nat.reduceMul, Int.reduceLT, Int.reduceLE, Int.reduceEq, Int.reduceToNat, Int.reduceAdd, Int.reduceSub, Int.reduceMul, reduceCtorEq, ↓reduceIte]; rfl)), (by first | (simp only [↓gaW, ↓gaV, ↓gaC, ↓gaN, gaP, Nat.reduceEqDiff, Nat.reduceLeDiff, Nat.reduceAdd, Nat.reduceSub, Nat.reduceMul, Int.reduceLT, Int.reduceLE, Int.reduceEq, Int.reduceToNat, Int.reduceAdd, Int.reduceSub, Int.reduceMul, reduceCtorEq, ↓reduceIte]; done) | (simp only [↓gaW, ↓gaV, ↓gaC, ↓gaN, gaP, Nat.reduceEqDiff, Nat.reduceLeDiff, Nat.reduceAdd, Nat.reduceSub, Nat.reduceMul, Int.reduceLT, Int.reduceLE, Int.reduceEq, Int.reduceToNat, Int.reduceAdd, Int.reduceSub, Int.reduceMul, reduceCtorEq, ↓reduceIte]; rfl)), rfl, by omega, fun q hq => by rw [hg' q (by omega)]; simp only [upd_e]; rw [if_neg (by omega), F2 q hq], by simpa [Nat.add_assoc] using ho2⟩
    · have hp0 : p = [] := by rcases hgo with h | h; exact h; omega
      have hk0 : ((k + p.length : Nat) : Int) = (k : Int) := by rw [hp0]; rfl
      simp only [↓gaW, ↓gaV, ↓gaC, ↓gaN, gaP, Nat.reduceEqDiff, Nat.reduceLeDiff, Nat.reduceAdd, Nat.reduceSub, Nat.reduceMul, Int.reduceLT, Int.reduceLE, Int.reduceEq, Int.reduceToNat, Int.reduceAdd, Int.reduceSub, Int.reduceMul, reduceCtorEq, ↓reduceIte, List.getD_cons_zero, List.getD_cons_succ, fillL, splice, List.take_zero, List.drop_zero, List.drop_succ_cons, List.take_succ_cons, List.drop_nil, List.take_nil, f0, f1, f5, f6, hn0, decide_false, hk0, decide_true, and127 hnj, i1, i2, i3, shr7]
      have er : rowOf ⟨x2 + 1, b, upd g2 x2 (some (.cells [u8V (UInt8.ofNat (nj % 128 + more))] false))⟩ (some ⟨x2, 0, none⟩) 1 = some [u8V (UInt8.ofNat (nj % 128 + more))] := row_new (l := [u8V (UInt8.ofNat (nj % 128 + more))]) (by simp)
      rw [er]
      simp only [asO_e]
      refine own_append (nx := base) (k := 1) (hO.keep (Nat.le_succ _) (hZ _)) (by omega) (by omega) (by omega) (by omega) rfl (all1 rfl) (by omega) (by omega) fun g' hg' ho' => ?_
      have ho2 : Own base b (x2 + 1 + 1) g' 1 (some ⟨x2 + 1, 0, some 1⟩) (k + p.length + 1) ((l ++ (p ++ [UInt8.ofNat (nj % 128 + more)])).map u8V) := by
        rw [← List.append_assoc, List.map_append]; exact ho'
      simp only [↓gaW, ↓gaV, ↓gaC, ↓gaN, gaP, Nat.reduceEqDiff, Nat.reduceLeDiff, Nat.reduceAdd, Nat.reduceSub, Nat.reduceMul, Int.reduceLT, Int.reduceLE, Int.reduceEq, Int.reduceToNat, Int.reduceAdd, Int.reduceSub, Int.reduceMul, reduceCtorEq, ↓reduceIte, List.getD_cons_zero, List.getD_cons_succ, fillL, splice, List.take_zero, List.drop_zero, List.drop_succ_cons, List.take_succ_cons, List.drop_nil, List.take_nil, f5, loopK_n]
      refine ⟨10 - (p.length + 1), by omega, p ++ [UInt8.ofNat (nj % 128 + more)], nj / 128, 128, x2 + 1 + 1, g', some ⟨x2 + 1, 0, some 1⟩, by simp, .inr ⟨by simp, hp7, rfl⟩, by omega, (by simp only [↓gaW, ↓gaV, ↓gaC, ↓gaN, gaP, Nat.reduceEqDiff, Nat.reduceLeDiff, Nat.reduceAdd, Nat.reduceSub, Nat.reduceMul, Int.reduceLT, Int.reduceLE, Int.reduceEq, Int.reduceToNat, Int.reduceAdd, Int.reduceSub, Int.reduceMul, reduceCtorEq, ↓reduceIte, List.length_append, List.length_cons, List.length_nil, Nat.add_assoc]), (by first | (simp only [↓gaW, ↓gaV, ↓gaC, ↓gaN, gaP, Nat.reduceEqDiff, Nat.reduceLeDiff, Nat.reduceAdd, Nat.reduceSub, Nat.reduceMul, Int.reduceLT, Int.reduceLE, Int.reduceEq, Int.reduceToNat, Int.reduceAdd, Int.reduceSub, Int.reduceMul, reduceCtorEq, ↓reduceIte]; done) | (simp only [↓gaW, ↓gaV, ↓gaC, ↓gaN, gaP, Nat.reduceEqDiff, Nat.reduceLeDiff, Nat.reduceAdd, Nat.reduceSub, Nat.reduceMul, Int.reduceLT, Int.reduceLE, Int.reduceEq, Int.reduceToNat, Int.reduceAdd, Int.reduceSub, Int.reduceMul, reduceCtorEq, ↓reduceIte]; rfl)), (by first | (simp only [↓gaW, ↓gaV, ↓gaC, ↓gaN, gaP, Nat.reduceEqDiff, Nat.reduceLeDiff, Nat.reduceAdd, Nat.reduceSub, Nat.reduceMul, Int.reduceLT, Int.reduceLE, Int.reduceEq, Int.reduceToNat, Int.reduceAdd, Int.reduceSub, Int.reduceMul, reduceCtorEq, ↓reduceIte]; done) | (simp only [↓gaW, ↓gaV, ↓gaC, ↓gaN, gaP, Nat.reduceEqDiff, Nat.reduceLeDiff, Nat.reduceAdd, Nat.reduceSub, Nat.reduceMul, Int.reduceLT, Int.reduceLE, Int.reduceEq, Int.reduceToNat, Int.reduceAdd, Int.reduceSub, Int.reduceMul, reduceCtorEq, ↓reduceIte]; rfl)), rfl, by omega, fun q hq => by rw [hg' q (by omega)]; simp only [upd_e]; rw [if_neg (by omega), F2 q hq], by simpa [Nat.add_assoc] using ho2⟩
  · -- the bytes turned round
    have hp0 : p ≠ [] := fun h => hgo (.inl h)
    have hnj0 : nj = 0 := Decidable.byContradiction fun h => hgo (.inr h)
    subst hnj0
    have hp7 : le7 n = p := by
      rcases hp with ⟨h, _⟩ | ⟨_, h, _⟩
      · exact absurd h hp0
      · rw [h, sg_0, List.append_nil]
    have hpl : 0 < p.length := List.length_pos_iff.2 hp0
    have hpl2 : p.length ≤ 10 := by rw [← hp7]; exact hl7
    have hk0 : ¬ ((k + p.length : Nat) : Int) = (k : Int) := by omega
    have h00 : ¬ (0 : Int) < ((0 : Nat) : Int) := by omega
    obtain ⟨hol, ⟨_, h0⟩ | ⟨q, rfl, q1, q2, q3, q4⟩⟩ := hO
    · omega
    have i1 : IntKind.i64.wrap (((k + p.length : Nat) : Int) - 1) = ((k + p.length - 1 : Nat) : Int) := by rw [i64_w _ (by omega)]; omega
    simp only [↓gaW, ↓gaV, ↓gaC, ↓gaN, gaP, Nat.reduceEqDiff, Nat.reduceLeDiff, Nat.reduceAdd, Nat.reduceSub, Nat.reduceMul, Int.reduceLT, Int.reduceLE, Int.reduceEq, Int.reduceToNat, Int.reduceAdd, Int.reduceSub, Int.reduceMul, reduceCtorEq, ↓reduceIte, List.getD_cons_zero, List.getD_cons_succ, fillL, splice, List.take_zero, List.drop_zero, List.drop_succ_cons, List.take_succ_cons, List.drop_nil, List.take_nil, f0, f1, f5, f6, h00, decide_false, hk0, i1]
    have hsl : (sv n).length = p.length := by unfold sv; rw [List.length_reverse, hp7]
    have hse : sv n = p.reverse := by unfold sv; rw [hp7]
    rw [hsl, hse]
    generalize hP : l ++ p = P at *
    have hPl : P.length = k + p.length := by rw [← hP, List.length_append, hl0]
    refine loop_of (fun j f mm => ∃ (i : Nat) (W : List UInt8) (g : Nat → Option Blk), j = p.length - i ∧ 2 * i ≤ p.length ∧ f 0 = .slice (some ⟨q, 0, some 1⟩) (k + p.length) (k + p.length) ∧ f 7 = .int .i64 ((k + i : Nat) : Int) ∧ f 8 = .int .i64 ((k + p.length - 1 - i : Nat) : Int) ∧
      mm = ⟨x2, b, g⟩ ∧ (∀ p, p < base → g p = gt p) ∧ g q = some (.cells (W.map u8V) false) ∧ W.length = k + p.length ∧ ∀ t, t < k + p.length → W.getD t 0 = P.getD (if (k ≤ t ∧ t < k + i) ∨ k + p.length - i ≤ t then 2 * k + p.length - 1 - t else t) 0) p.length
      ⟨0, P, g2, by omega, by omega, (by simp only [↓gaW, ↓gaV, ↓gaC, ↓gaN, gaP, Nat.reduceEqDiff, Nat.reduceLeDiff, Nat.reduceAdd, Nat.reduceSub, Nat.reduceMul, Int.reduceLT, Int.reduceLE, Int.reduceEq, Int.reduceToNat, Int.reduceAdd, Int.reduceSub, Int.reduceMul, reduceCtorEq, ↓reduceIte, f0]), (by first | (simp only [↓gaW, ↓gaV, ↓gaC, ↓gaN, gaP, Nat.reduceEqDiff, Nat.reduceLeDiff, Nat.reduceAdd, Nat.reduceSub, Nat.reduceMul, Int.reduceLT, Int.reduceLE, Int.reduceEq, Int.reduceToNat, Int.reduceAdd, Int.reduceSub, Int.reduceMul, reduceCtorEq, ↓reduceIte]; done) | (simp only [↓gaW, ↓gaV, ↓gaC, ↓gaN, gaP, Nat.reduceEqDiff, Nat.reduceLeDiff, Nat.reduceAdd, Nat.reduceSub, Nat.reduceMul, Int.reduceLT, Int.reduceLE, Int.reduceEq, Int.reduceToNat, Int.reduceAdd, Int.reduceSub, Int.reduceMul, reduceCtorEq, ↓reduceIte]; rfl)), (by first | (simp only [↓gaW, ↓gaV, ↓gaC, ↓gaN, gaP, Nat.reduceEqDiff, Nat.reduceLeDiff, Nat.reduceAdd, Nat.reduceSub, Nat.reduceMul, Int.reduceLT, Int.reduceLE, Int.reduceEq, Int.reduceToNat, Int.reduceAdd, Int.reduceSub, Int.reduceMul, reduceCtorEq, ↓reduceIte]; done) | (simp only [↓gaW, ↓gaV, ↓gaC, ↓gaN, gaP, Nat.reduceEqDiff, Nat.reduceLeDiff, Nat.reduceAdd, Nat.reduceSub, Nat.reduceMul, Int.reduceLT, Int.reduceLE, Int.reduceEq, Int.reduceToNat, Int.reduceAdd, Int.reduceSub, Int.reduceMul, reduceCtorEq, ↓reduceIte]; rfl)), rfl, F2, q4, hPl, fun t ht => by rw [if_neg (by omega)]⟩ ?_
    rintro j f mm ⟨i, W, g, hj, hi, f0, f7, f8, rfl, F3, hgq, hWl, hW⟩
    by_cases hlt : ((k + i : Nat) : Int) < ((k + p.length - 1 - i : Nat) : Int)
    · have i2 : IntKind.i64.wrap (((k + i : Nat) : Int) + 1) = ((k + (i + 1) : Nat) : Int) := by rw [i64_w _ (by omega)]; omega
      have i3 : IntKind.i64.wrap (((k + p.length - 1 - i : Nat) : Int) - 1) = ((k + p.length - 1 - (i + 1) : Nat) : Int) := by rw [i64_w _ (by omega)]; omega
      have e1 : (W.map u8V).getD (k + i) undef = u8V (W.getD (k + i) 0) := getD_u8 (by omega)
      have e2 : (W.map u8V).getD (k + p.length - 1 - i) undef = u8V (W.getD (k + p.length - 1 - i) 0) := getD_u8 (by omega)
      have s1 : splice (W.map u8V) (k + i) [u8V (W.getD (k + p.length - 1 - i) 0)] = (W.set (k + i) (W.getD (k + p.length - 1 - i) 0)).map u8V := splice_set7 (by omega)
      have s2 : splice ((W.set (k + i) (W.getD (k + p.length - 1 - i) 0)).map u8V) (k + p.length - 1 - i) [u8V (W.getD (k + i) 0)] = ((W.set (k + i) (W.getD (k + p.length - 1 - i) 0)).set (k + p.length - 1 - i) (W.getD (k + i) 0)).map u8V := splice_set7 (by rw [List.length_set]; omega)
      simp only [↓gaW, ↓gaV, ↓gaC, ↓gaN, gaP, Nat.reduceEqDiff, Nat.reduceLeDiff, Nat.reduceAdd, Nat.reduceSub, Nat.reduceMul, Int.reduceLT, Int.reduceLE, Int.reduceEq, Int.reduceToNat, Int.reduceAdd, Int.reduceSub, Int.reduceMul, reduceCtorEq, ↓reduceIte, List.getD_cons_zero, List.getD_cons_succ, fillL, splice, List.take_zero, List.drop_zero, List.drop_succ_cons, List.take_succ_cons, List.drop_nil, List.take_nil, f0, f7, f8, hlt, decide_true]
      refine vc_tree_same ?_
      refine ⟨fun t => if t = 0 then .slice (some ⟨q, 0, some 1⟩) (k + p.length) (k + p.length) else if t = 7 then .int .i64 ((k + i : Nat) : Int) else if t = 8 then .int .i64 ((k + p.length - 1 - i : Nat) : Int) else botV, ⟨x2, b, upd (upd g q (some (.cells ((W.set (k + i) (W.getD (k + p.length - 1 - i) 0)).map u8V) false))) q (some (.cells (((W.set (k + i) (W.getD (k + p.length - 1 - i) 0)).set (k + p.length - 1 - i) (W.getD (k + i) 0)).map u8V) false))⟩, ?_, ?_, ?_⟩
      rotate_left 2
      · simp only [tree_s, allP_cons, allP_nil, List.getElem?_cons_zero, List.getElem?_cons_succ, Nat.reducePow, Nat.reduceOr, Option.map, t_scalar_seven, ↓gaW, ↓gaV, ↓gaC, ↓gaN, gaP, Nat.reduceEqDiff, Nat.reduceLeDiff, Nat.reduceAdd, Nat.reduceSub, Nat.reduceMul, Int.reduceLT, Int.reduceLE, Int.reduceEq, Int.reduceToNat, Int.reduceAdd, Int.reduceSub, Int.reduceMul, reduceCtorEq, ↓reduceIte, f0, f7, f8, hgq, e1, e2, s1, s2, Nat.mul_one, Nat.zero_add]
        repeat' refine And.intro ?_ ?_
        all_goals first
          | omega
          | exact all1 rfl
          | (simp only [List.length_map, List.length_set]; omega)
          | (intro t
             rcases (show t = 0 ∨ t = 7 ∨ t = 8 ∨ (t ≠ 0 ∧ t ≠ 7 ∧ t ≠ 8) by omega) with rfl | rfl | rfl | ⟨a1, a2, a3⟩
             · exact .inl (by simp only [putR, f0, Option.some.injEq, Nat.reduceEqDiff, if_true, if_false, reduceCtorEq])
             · exact .inl (by simp only [putR, f7, Option.some.injEq, Nat.reduceEqDiff, if_true, if_false, reduceCtorEq])
             · exact .inl (by simp only [putR, f8, Option.some.injEq, Nat.reduceEqDiff, if_true, if_false, reduceCtorEq])
             · exact .inr (by simp only [if_neg a1, if_neg a2, if_neg a3]))
          | rfl
      · simp only [↓gaW, ↓gaV, ↓gaC, ↓gaN, gaP, Nat.reduceEqDiff, Nat.reduceLeDiff, Nat.reduceAdd, Nat.reduceSub, Nat.reduceMul, Int.reduceLT, Int.reduceLE, Int.reduceEq, Int.reduceToNat, Int.reduceAdd, Int.reduceSub, Int.reduceMul, reduceCtorEq, ↓reduceIte, List.getD_cons_zero, List.getD_cons_succ, fillL, splice, List.take_zero, List.drop_zero, List.drop_succ_cons, List.take_succ_cons, List.drop_nil, List.take_nil, i2, i3, loopK_n]
        refine ⟨p.length - (i + 1), by omega, i + 1, (W.set (k + i) (W.getD (k + p.length - 1 - i) 0)).set (k + p.length - 1 - i) (W.getD (k + i) 0), _, rfl, by omega, (by first | (simp only [↓gaW, ↓gaV, ↓gaC, ↓gaN, gaP, Nat.reduceEqDiff, Nat.reduceLeDiff, Nat.reduceAdd, Nat.reduceSub, Nat.reduceMul, Int.reduceLT, Int.reduceLE, Int.reduceEq, Int.reduceToNat, Int.reduceAdd, Int.reduceSub, Int.reduceMul, reduceCtorEq, ↓reduceIte]; done) | (simp only [↓gaW, ↓gaV, ↓gaC, ↓gaN, gaP, Nat.reduceEqDiff, Nat.reduceLeDiff, Nat.reduceAdd, Nat.reduceSub, Nat.reduceMul, Int.reduceLT, Int.reduceLE, Int.reduceEq, Int.reduceToNat, Int.reduceAdd, Int.reduceSub, Int.reduceMul, reduceCtorEq, ↓reduceIte]; rfl)), (by first | (simp only [↓gaW, ↓gaV, ↓gaC, ↓gaN, gaP, Nat.reduceEqDiff, Nat.reduceLeDiff, Nat.reduceAdd, Nat.reduceSub, Nat.reduceMul, Int.reduceLT, Int.reduceLE, Int.reduceEq, Int.reduceToNat, Int.reduceAdd, Int.reduceSub, Int.reduceMul, reduceCtorEq, ↓reduceIte]; done) | (simp only [↓gaW, ↓gaV, ↓gaC, ↓gaN, gaP, Nat.reduceEqDiff, Nat.reduceLeDiff, Nat.reduceAdd, Nat.reduceSub, Nat.reduceMul, Int.reduceLT, Int.reduceLE, Int.reduceEq, Int.reduceToNat, Int.reduceAdd, Int.reduceSub, Int.reduceMul, reduceCtorEq, ↓reduceIte]; rfl)), rfl, fun r hr => ?_, by simp only [upd_e, if_true], by simp only [List.length_set]; exact hWl, fun t ht => ?_⟩
        · simp only [upd_e]; rw [if_neg (by omega), if_neg (by omega), F3 r hr]
        · rw [get_set8 (by rw [List.length_set]; omega), get_set8 (by omega)]
          by_cases h1 : t = k + p.length - 1 - i
          · rw [if_pos h1, hW _ (by omega), if_neg (by omega), if_pos (by omega)]; congr 1; omega
          · rw [if_neg h1]
            by_cases h2 : t = k + i
            · rw [if_pos h2, hW _ (by omega), if_neg (by omega), if_pos (by omega)]; congr 1; omega
            · rw [if_neg h2, hW _ ht]
              by_cases h3 : (k ≤ t ∧ t < k + i) ∨ k + p.length - i ≤ t
              · rw [if_pos h3, if_pos (by omega)]
              · rw [if_neg h3, if_neg (by omega)]
      · exact ⟨rfl, Nat.le_refl _, fun r hr => by
          have hr' : r < b := hr
          show upd _ _ _ _ = _
          simp only [upd_e]; rw [if_neg (by omega), if_neg (by omega)]⟩
    · simp only [↓gaW, ↓gaV, ↓gaC, ↓gaN, gaP, Nat.reduceEqDiff, Nat.reduceLeDiff, Nat.reduceAdd, Nat.reduceSub, Nat.reduceMul, Int.reduceLT, Int.reduceLE, Int.reduceEq, Int.reduceToNat, Int.reduceAdd, Int.reduceSub, Int.reduceMul, reduceCtorEq, ↓reduceIte, gaE, implies_true, Nat.le_refl, Int.sub_zero, Nat.sub_zero, Int.le_refl, true_or, or_true, List.getD_cons_zero, List.getD_cons_succ, fillL, splice, List.take_zero, List.drop_zero, List.drop_succ_cons, List.take_succ_cons, List.drop_nil, List.take_nil, f0, f7, f8, hlt, decide_false, endB_r]
      have hWe : W = l ++ p.reverse := by
        refine ext8 (by simp [hWl, hl0]) fun t ht => ?_
        rw [hW t (by omega), ← hP]
        by_cases h1 : t < k
        · rw [if_neg (by omega)]
          simp only [List.getD_eq_getElem?_getD]
          rw [List.getElem?_append_left (by omega), List.getElem?_append_left (by omega)]
        · have e3 : (if (k ≤ t ∧ t < k + i) ∨ k + p.length - i ≤ t then 2 * k + p.length - 1 - t else t) = 2 * k + p.length - 1 - t := by
            by_cases h3 : (k ≤ t ∧ t < k + i) ∨ k + p.length - i ≤ t
            · rw [if_pos h3]
            · rw [if_neg h3]; omega
          rw [e3]
          simp only [List.getD_eq_getElem?_getD]
          rw [List.getElem?_append_right (by omega), List.getElem?_append_right (by omega), List.getElem?_reverse (by omega)]
          congr 2; omega
      refine ⟨by omega, F3, _, rfl, ?_⟩
      rw [← hWe]
      exact Own.of (by simpa using hWl) (by omega) (by omega) (by omega) hgq
end
end Go.Ga

/- An object's name as an element. -/
namespace Go.Ga
open Go Go.Proofs
set_option linter.unusedSimpArgs false
set_option linter.unusedVariables false
set_option maxRecDepth 100000
attribute [local irreducible] appendK

def oidOk : List UInt32 → Bool
  | a :: b :: t => decide (t.length ≤ 18) && decide (a.toNat ≤ 2) && decide (b.toNat ≤ 4294967200) && (decide (a.toNat = 2) || decide (b.toNat ≤ 39))
  | _ => false
def svs : List UInt32 → List UInt8
  | [] => []
  | x :: t => sv x.toNat ++ svs t
theorem svs_app (a b : List UInt32) : svs (a ++ b) = svs a ++ svs b := by
  induction a with
  | nil => rfl
  | cons x t ih => simp [svs, ih]
theorem svs_len (l : List UInt32) : (svs l).length ≤ 10 * l.length := by
  induction l with
  | nil => simp [svs]
  | cons x t ih =>
    have := sv_len (n := x.toNat) (by have := x.toNat_lt; omega)
    simp only [svs, List.length_append, List.length_cons]; omega
def oidB : List UInt32 → List UInt8
  | a :: b :: t => sv (a.toNat * 40 + b.toNat) ++ svs t
  | _ => []
def oidR (l : List UInt32) : Except Nat Fo.El := if oidOk l then .ok ⟨6, oidB l, .nil⟩ else .error 1
theorem take_next {l : List UInt32} {i : Nat} (h : i < l.length) : l.take (i + 1) = l.take i ++ [l.getD i 0] := by
  rw [List.take_add_one, List.getElem?_eq_getElem h, List.getD_eq_getElem?_getD, List.getElem?_eq_getElem h]; rfl

section
variable {nx : Nat} {gt : Nat → Option Blk}

theorem end_nT {b nx : Nat} {gt : Nat → Option Blk} {f : Regs} {i j x' q : Nat} {g' : Nat → Option Blk} {t : Int} {B : Option Addr} {m d : Nat} {A : Option Addr} {n c : Nat} {ro : Bool} {w : Value} {C : Value → Nat → (Nat → Option Blk) → Prop} (h8 : f i = .pointer (some ⟨q, 0, none⟩)) (hw : f j = w) (hg : g' q = some (.cells (nodeL t B m d A n c) ro))
    (h1 : nx ≤ x') (h2 : ∀ n, n < nx → g' n = gt n) (h3 : C (.tuple #[nodeV t B m d A n c, w]) x' g') : endK [.cN i 3, .t j] b nx gt C .ret f ⟨x', b, g'⟩ := by
  rw [end_r, res_cN h8 hg (by simp [nodeL]), res_t, res_nil]
  simp only [Option.map_some, asO_e, one2, List.drop_zero, hw]
  rw [List.take_of_length_le (by simp [nodeL])]
  exact ⟨trivial, h1, h2, h3⟩

theorem ct_Oid {A : Option Addr} {n c : Nat} {l : List UInt32} (hA : Row nx gt 1 A n (l.map u32V)) (hc : n ≤ c) (hn : n ≤ 1000000000) :
    Ct Tryd.prog 28 [.slice A n c] nx gt fun v x g => NErr nx x g v (oidR l) := by
  have hl : l.length = n := by simpa using hA.len
  refine Ct.of hmx r_scalar_Oid (by simp [c_scalar_Oid]) fun b hb => ?_
  have hF : ∀ q, q < nx → upd gt nx (some (.cells [Value.int .i64 0, .slice none 0 0, .slice none 0 0] false)) q = gt q := fun q hq => by simp only [upd_e]; rw [if_neg (by omega)]
  have hb0 : upd gt nx (some (.cells [Value.int .i64 0, .slice none 0 0, .slice none 0 0] false)) nx = some (.cells [Value.int .i64 0, .slice none 0 0, .slice none 0 0] false) := by simp only [upd_e, if_true]
  by_cases h2 : (n : Int) < 2
  · have hr : oidR l = .error 1 := by
      rcases l with _ | ⟨a, _ | ⟨b, t⟩⟩ <;> first | rfl | (simp only [List.length_cons] at hl; omega)
    rw [hr]
    simp only [c_scalar_Oid, ↓gaW, ↓gaV, ↓gaC, ↓gaN, gaP, Nat.reduceEqDiff, Nat.reduceLeDiff, Nat.reduceAdd, Nat.reduceSub, Nat.reduceMul, Int.reduceLT, Int.reduceLE, Int.reduceEq, Int.reduceToNat, Int.reduceAdd, Int.reduceSub, Int.reduceMul, reduceCtorEq, ↓reduceIte, List.getD_cons_zero, List.getD_cons_succ, fillL, splice, List.take_zero, List.drop_zero, List.drop_succ_cons, List.take_succ_cons, List.drop_nil, List.take_nil, gaU, h2, decide_true]
    repeat refine And.intro (by omega) ?_
    refine And.intro (node_cells _ _ _ _ _ _ _) ?_
    exact end_nT (q := nx) (t := 0) (B := none) (m := 0) (d := 0) (A := none) (n := 0) (c := 0) (ro := false) (w := .int .i64 1) (by first | (simp only [↓gaW, ↓gaV, ↓gaC, ↓gaN, gaP, Nat.reduceEqDiff, Nat.reduceLeDiff, Nat.reduceAdd, Nat.reduceSub, Nat.reduceMul, Int.reduceLT, Int.reduceLE, Int.reduceEq, Int.reduceToNat, Int.reduceAdd, Int.reduceSub, Int.reduceMul, reduceCtorEq, ↓reduceIte]; done) | (simp only [↓gaW, ↓gaV, ↓gaC, ↓gaN, gaP, Nat.reduceEqDiff, Nat.reduceLeDiff, Nat.reduceAdd, Nat.reduceSub, Nat.reduceMul, Int.reduceLT, Int.reduceLE, Int.reduceEq, Int.reduceToNat, Int.reduceAdd, Int.reduceSub, Int.reduceMul, reduceCtorEq, ↓reduceIte]; rfl)) (by first | (simp only [↓gaW, ↓gaV, ↓gaC, ↓gaN, gaP, Nat.reduceEqDiff, Nat.reduceLeDiff, Nat.reduceAdd, Nat.reduceSub, Nat.reduceMul, Int.reduceLT, Int.reduceLE, Int.reduceEq, Int.reduceToNat, Int.reduceAdd, Int.reduceSub, Int.reduceMul, reduceCtorEq, ↓reduceIte]; done) | (simp only [↓gaW, ↓gaV, ↓gaC, ↓gaN, gaP, Nat.reduceEqDiff, Nat.reduceLeDiff, Nat.reduceAdd, Nat.reduceSub, Nat.reduceMul, Int.reduceLT, Int.reduceLE, Int.reduceEq, Int.reduceToNat, Int.reduceAdd, Int.reduceSub, Int.reduceMul, reduceCtorEq, ↓reduceIte]; rfl)) (by simp only [upd_e, if_true]) (by omega) (fun p hp => by simp only [upd_e]; rw [if_neg (by omega), if_neg (by omega)]) ⟨rfl, by omega⟩
  by_cases h20 : (20 : Int) < (n : Int)
  · have hr : oidR l = .error 1 := by
      rcases l with _ | ⟨a, _ | ⟨b, t⟩⟩
      · rfl
      · rfl
      · simp only [List.length_cons] at hl
        simp only [oidR, oidOk, decide_eq_false (show ¬ t.length ≤ 18 by omega), Bool.false_and, Bool.false_eq_true, if_false]
    rw [hr]
    simp only [c_scalar_Oid, ↓gaW, ↓gaV, ↓gaC, ↓gaN, gaP, Nat.reduceEqDiff, Nat.reduceLeDiff, Nat.reduceAdd, Nat.reduceSub, Nat.reduceMul, Int.reduceLT, Int.reduceLE, Int.reduceEq, Int.reduceToNat, Int.reduceAdd, Int.reduceSub, Int.reduceMul, reduceCtorEq, ↓reduceIte, List.getD_cons_zero, List.getD_cons_succ, fillL, splice, List.take_zero, List.drop_zero, List.drop_succ_cons, List.take_succ_cons, List.drop_nil, List.take_nil, gaU, h2, decide_false, h20, decide_true]
    repeat refine And.intro (by omega) ?_
    refine And.intro (node_cells _ _ _ _ _ _ _) ?_
    exact end_nT (q := nx) (t := 0) (B := none) (m := 0) (d := 0) (A := none) (n := 0) (c := 0) (ro := false) (w := .int .i64 1) (by first | (simp only [↓gaW, ↓gaV, ↓gaC, ↓gaN, gaP, Nat.reduceEqDiff, Nat.reduceLeDiff, Nat.reduceAdd, Nat.reduceSub, Nat.reduceMul, Int.reduceLT, Int.reduceLE, Int.reduceEq, Int.reduceToNat, Int.reduceAdd, Int.reduceSub, Int.reduceMul, reduceCtorEq, ↓reduceIte]; done) | (simp only [↓gaW, ↓gaV, ↓gaC, ↓gaN, gaP, Nat.reduceEqDiff, Nat.reduceLeDiff, Nat.reduceAdd, Nat.reduceSub, Nat.reduceMul, Int.reduceLT, Int.reduceLE, Int.reduceEq, Int.reduceToNat, Int.reduceAdd, Int.reduceSub, Int.reduceMul, reduceCtorEq, ↓reduceIte]; rfl)) (by first | (simp only [↓gaW, ↓gaV, ↓gaC, ↓gaN, gaP, Nat.reduceEqDiff, Nat.reduceLeDiff, Nat.reduceAdd, Nat.reduceSub, Nat.reduceMul, Int.reduceLT, Int.reduceLE, Int.reduceEq, Int.reduceToNat, Int.reduceAdd, Int.reduceSub, Int.reduceMul, reduceCtorEq, ↓reduceIte]; done) | (simp only [↓gaW, ↓gaV, ↓gaC, ↓gaN, gaP, Nat.reduceEqDiff, Nat.reduceLeDiff, Nat.reduceAdd, Nat.reduceSub, Nat.reduceMul, Int.reduceLT, Int.reduceLE, Int.reduceEq, Int.reduceToNat, Int.reduceAdd, Int.reduceSub, Int.reduceMul, reduceCtorEq, ↓reduceIte]; rfl)) (by simp only [upd_e, if_true]) (by omega) (fun p hp => by simp only [upd_e]; rw [if_neg (by omega), if_neg (by omega)]) ⟨rfl, by omega⟩
  obtain ⟨x, y, t, rfl⟩ : ∃ x y t, l = x :: y :: t := by
    rcases l with _ | ⟨x, _ | ⟨y, t⟩⟩
    · simp only [List.length_nil] at hl; omega
    · simp only [List.length_cons, List.length_nil] at hl; omega
    · exact ⟨_, _, _, rfl⟩
  simp only [List.length_cons] at hl
  obtain ⟨a, cl, ro, rfl, r2, r3, r4, r5⟩ := hA.cells (by omega)
  have hq : upd gt nx (some (.cells [Value.int .i64 0, .slice none 0 0, .slice none 0 0] false)) a.block = some (.cells cl ro) := by rw [hF _ r2, r3]
  have hqn : (a.block = nx) = False := by simp; omega
  have c0 : cl.getD a.off undef = .int .u32 (x.toNat : Nat) := by have := r5 0 (by omega); rw [Nat.add_zero] at this; rw [this]; rfl
  have c1 : cl.getD (a.off + 1) undef = .int .u32 (y.toNat : Nat) := by rw [r5 1 (by omega)]; rfl
  have hx := x.toNat_lt
  have hy := y.toNat_lt
  have hx1 : ¬ (2 : Int) < (x.toNat : Int) ↔ x.toNat ≤ 2 := by omega
  by_cases hx2 : (2 : Int) < (x.toNat : Int)
  · have hr : oidR (x :: y :: t) = .error 1 := by
      simp only [oidR, oidOk, decide_eq_false (show ¬ x.toNat ≤ 2 by omega), Bool.and_false, Bool.false_and, Bool.false_eq_true, if_false]
    rw [hr]
    simp only [c_scalar_Oid, ↓gaW, ↓gaV, ↓gaC, ↓gaN, gaP, Nat.reduceEqDiff, Nat.reduceLeDiff, Nat.reduceAdd, Nat.reduceSub, Nat.reduceMul, Int.reduceLT, Int.reduceLE, Int.reduceEq, Int.reduceToNat, Int.reduceAdd, Int.reduceSub, Int.reduceMul, reduceCtorEq, ↓reduceIte, List.getD_cons_zero, List.getD_cons_succ, fillL, splice, List.take_zero, List.drop_zero, List.drop_succ_cons, List.take_succ_cons, List.drop_nil, List.take_nil, gaU, h2, decide_false, h20, hqn, r3, c0, hx2, decide_true]
    repeat refine And.intro (by omega) ?_
    refine And.intro (node_cells _ _ _ _ _ _ _) ?_
    exact end_nT (q := nx) (t := 0) (B := none) (m := 0) (d := 0) (A := none) (n := 0) (c := 0) (ro := false) (w := .int .i64 1) (by first | (simp only [↓gaW, ↓gaV, ↓gaC, ↓gaN, gaP, Nat.reduceEqDiff, Nat.reduceLeDiff, Nat.reduceAdd, Nat.reduceSub, Nat.reduceMul, Int.reduceLT, Int.reduceLE, Int.reduceEq, Int.reduceToNat, Int.reduceAdd, Int.reduceSub, Int.reduceMul, reduceCtorEq, ↓reduceIte]; done) | (simp only [↓gaW, ↓gaV, ↓gaC, ↓gaN, gaP, Nat.reduceEqDiff, Nat.reduceLeDiff, Nat.reduceAdd, Nat.reduceSub, Nat.reduceMul, Int.reduceLT, Int.reduceLE, Int.reduceEq, Int.reduceToNat, Int.reduceAdd, Int.reduceSub, Int.reduceMul, reduceCtorEq, ↓reduceIte]; rfl)) (by first | (simp only [↓gaW, ↓gaV, ↓gaC, ↓gaN, gaP, Nat.reduceEqDiff, Nat.reduceLeDiff, Nat.reduceAdd, Nat.reduceSub, Nat.reduceMul, Int.reduceLT, Int.reduceLE, Int.reduceEq, Int.reduceToNat, Int.reduceAdd, Int.reduceSub, Int.reduceMul, reduceCtorEq, ↓reduceIte]; done) | (simp only [↓gaW, ↓gaV, ↓gaC, ↓gaN, gaP, Nat.reduceEqDiff, Nat.reduceLeDiff, Nat.reduceAdd, Nat.reduceSub, Nat.reduceMul, Int.reduceLT, Int.reduceLE, Int.reduceEq, Int.reduceToNat, Int.reduceAdd, Int.reduceSub, Int.reduceMul, reduceCtorEq, ↓reduceIte]; rfl)) (by simp only [upd_e, if_true]) (by omega) (fun p hp => by simp only [upd_e]; rw [if_neg (by omega), if_neg (by omega)]) ⟨rfl, by omega⟩
  by_cases hy2 : (4294967200 : Int) < (y.toNat : Int)
  · have hr : oidR (x :: y :: t) = .error 1 := by
      simp only [oidR, oidOk, decide_eq_false (show ¬ y.toNat ≤ 4294967200 by omega), Bool.and_false, Bool.false_and, Bool.false_eq_true, if_false]
    rw [hr]
    simp only [c_scalar_Oid, ↓gaW, ↓gaV, ↓gaC, ↓gaN, gaP, Nat.reduceEqDiff, Nat.reduceLeDiff, Nat.reduceAdd, Nat.reduceSub, Nat.reduceMul, Int.reduceLT, Int.reduceLE, Int.reduceEq, Int.reduceToNat, Int.reduceAdd, Int.reduceSub, Int.reduceMul, reduceCtorEq, ↓reduceIte, List.getD_cons_zero, List.getD_cons_succ, fillL, splice, List.take_zero, List.drop_zero, List.drop_succ_cons, List.take_succ_cons, List.drop_nil, List.take_nil, gaU, h2, decide_false, h20, hqn, r3, c0, c1, hx2, hy2, decide_true]
    repeat refine And.intro (by omega) ?_
    refine And.intro (node_cells _ _ _ _ _ _ _) ?_
    exact end_nT (q := nx) (t := 0) (B := none) (m := 0) (d := 0) (A := none) (n := 0) (c := 0) (ro := false) (w := .int .i64 1) (by first | (simp only [↓gaW, ↓gaV, ↓gaC, ↓gaN, gaP, Nat.reduceEqDiff, Nat.reduceLeDiff, Nat.reduceAdd, Nat.reduceSub, Nat.reduceMul, Int.reduceLT, Int.reduceLE, Int.reduceEq, Int.reduceToNat, Int.reduceAdd, Int.reduceSub, Int.reduceMul, reduceCtorEq, ↓reduceIte]; done) | (simp only [↓gaW, ↓gaV, ↓gaC, ↓gaN, gaP, Nat.reduceEqDiff, Nat.reduceLeDiff, Nat.reduceAdd, Nat.reduceSub, Nat.reduceMul, Int.reduceLT, Int.reduceLE, Int.reduceEq, Int.reduceToNat, Int.reduceAdd, Int.reduceSub, Int.reduceMul, reduceCtorEq, ↓reduceIte]; rfl)) (by first | (simp only [↓gaW, ↓gaV, ↓gaC, ↓gaN, gaP, Nat.reduceEqDiff, Nat.reduceLeDiff, Nat.reduceAdd, Nat.reduceSub, Nat.reduceMul, Int.reduceLT, Int.reduceLE, Int.reduceEq, Int.reduceToNat, Int.reduceAdd, Int.reduceSub, Int.reduceMul, reduceCtorEq, ↓reduceIte]; done) | (simp only [↓gaW, ↓gaV, ↓gaC, ↓gaN, gaP, Nat.reduceEqDiff, Nat.reduceLeDiff, Nat.reduceAdd, Nat.reduceSub, Nat.reduceMul, Int.reduceLT, Int.reduceLE, Int.reduceEq, Int.reduceToNat, Int.reduceAdd, Int.reduceSub, Int.reduceMul, reduceCtorEq, ↓reduceIte]; rfl)) (by simp only [upd_e, if_true]) (by omega) (fun p hp => by simp only [upd_e]; rw [if_neg (by omega), if_neg (by omega)]) ⟨rfl, by omega⟩
  have hs1 : ((n : Int) - 2).toNat = t.length := by omega
  have hs2 : ((c : Int) - 2).toNat = c - 2 := by omega
  have hspot := hA.spot a rfl
  by_cases hx3 : (x.toNat : Int) < 2
  · by_cases hy3 : (39 : Int) < (y.toNat : Int)
    · have hr : oidR (x :: y :: t) = .error 1 := by
        simp only [oidR, oidOk, decide_eq_false (show ¬ x.toNat = 2 by omega), decide_eq_false (show ¬ y.toNat ≤ 39 by omega), Bool.or_false, Bool.and_false, Bool.false_eq_true, if_false]
      rw [hr]
      simp only [c_scalar_Oid, ↓gaW, ↓gaV, ↓gaC, ↓gaN, gaP, Nat.reduceEqDiff, Nat.reduceLeDiff, Nat.reduceAdd, Nat.reduceSub, Nat.reduceMul, Int.reduceLT, Int.reduceLE, Int.reduceEq, Int.reduceToNat, Int.reduceAdd, Int.reduceSub, Int.reduceMul, reduceCtorEq, ↓reduceIte, List.getD_cons_zero, List.getD_cons_succ, fillL, splice, List.take_zero, List.drop_zero, List.drop_succ_cons, List.take_succ_cons, List.drop_nil, List.take_nil, gaU, h2, decide_false, h20, hqn, r3, c0, c1, hx2, hy2, hx3, hy3, decide_true]
      repeat refine And.intro (by omega) ?_
      refine And.intro (node_cells _ _ _ _ _ _ _) ?_
      exact end_nT (q := nx) (t := 0) (B := none) (m := 0) (d := 0) (A := none) (n := 0) (c := 0) (ro := false) (w := .int .i64 1) (by first | (simp only [↓gaW, ↓gaV, ↓gaC, ↓gaN, gaP, Nat.reduceEqDiff, Nat.reduceLeDiff, Nat.reduceAdd, Nat.reduceSub, Nat.reduceMul, Int.reduceLT, Int.reduceLE, Int.reduceEq, Int.reduceToNat, Int.reduceAdd, Int.reduceSub, Int.reduceMul, reduceCtorEq, ↓reduceIte]; done) | (simp only [↓gaW, ↓gaV, ↓gaC, ↓gaN, gaP, Nat.reduceEqDiff, Nat.reduceLeDiff, Nat.reduceAdd, Nat.reduceSub, Nat.reduceMul, Int.reduceLT, Int.reduceLE, Int.reduceEq, Int.reduceToNat, Int.reduceAdd, Int.reduceSub, Int.reduceMul, reduceCtorEq, ↓reduceIte]; rfl)) (by first | (simp only [↓gaW, ↓gaV, ↓gaC, ↓gaN, gaP, Nat.reduceEqDiff, Nat.reduceLeDiff, Nat.reduceAdd, Nat.reduceSub, Nat.reduceMul, Int.reduceLT, Int.reduceLE, Int.reduceEq, Int.reduceToNat, Int.reduceAdd, Int.reduceSub, Int.reduceMul, reduceCtorEq, ↓reduceIte]; done) | (simp only [↓gaW, ↓gaV, ↓gaC, ↓gaN, gaP, Nat.reduceEqDiff, Nat.reduceLeDiff, Nat.reduceAdd, Nat.reduceSub, Nat.reduceMul, Int.reduceLT, Int.reduceLE, Int.reduceEq, Int.reduceToNat, Int.reduceAdd, Int.reduceSub, Int.reduceMul, reduceCtorEq, ↓reduceIte]; rfl)) (by simp only [upd_e, if_true]) (by omega) (fun p hp => by simp only [upd_e]; rw [if_neg (by omega), if_neg (by omega)]) ⟨rfl, by omega⟩
    · have hr : oidR (x :: y :: t) = .ok ⟨6, oidB (x :: y :: t), .nil⟩ := by
        simp only [oidR, oidOk, decide_eq_true (show t.length ≤ 18 by omega), decide_eq_true (show x.toNat ≤ 2 by omega), decide_eq_true (show y.toNat ≤ 4294967200 by omega), decide_eq_true (show y.toNat ≤ 39 by omega), Bool.or_true, Bool.and_true, if_true]
      rw [hr]
      have e1 : IntKind.u64.wrap (IntKind.u64.wrap (IntKind.u64.wrap (x.toNat : Int) * 40) + IntKind.u64.wrap (y.toNat : Int)) = ((x.toNat * 40 + y.toNat : Nat) : Int) := by simp only [u64_w]; omega
      simp only [c_scalar_Oid, ↓gaW, ↓gaV, ↓gaC, ↓gaN, gaP, Nat.reduceEqDiff, Nat.reduceLeDiff, Nat.reduceAdd, Nat.reduceSub, Nat.reduceMul, Int.reduceLT, Int.reduceLE, Int.reduceEq, Int.reduceToNat, Int.reduceAdd, Int.reduceSub, Int.reduceMul, reduceCtorEq, ↓reduceIte, List.getD_cons_zero, List.getD_cons_succ, fillL, splice, List.take_zero, List.drop_zero, List.drop_succ_cons, List.take_succ_cons, List.drop_nil, List.take_nil, gaU, h2, decide_false, h20, hqn, r3, c0, c1, hx2, hy2, hx3, hy3, decide_true, e1]
      generalize upd gt nx (some (.cells [Value.int .i64 0, .slice none 0 0, .slice none 0 0] false)) = g0 at *
      repeat refine And.intro (by omega) ?_
      refine callB_of (cb_seven (n := x.toNat * 40 + y.toNat) (base := nx + 1) (by omega) (by omega) (Nat.le_refl _) Own.nil (l := []) (by omega)) fun v x1 g1 l1 k1 hC => ?_
      obtain ⟨A1, rfl, hO1⟩ := hC
      simp only [Nat.zero_add, List.nil_append] at hO1
      have F1 : ∀ p, p < nx → g1 p = gt p := fun p hp => by rw [k1 p (by omega), hF p hp]
      simp only [↓gaW, ↓gaV, ↓gaC, ↓gaN, gaP, Nat.reduceEqDiff, Nat.reduceLeDiff, Nat.reduceAdd, Nat.reduceSub, Nat.reduceMul, Int.reduceLT, Int.reduceLE, Int.reduceEq, Int.reduceToNat, Int.reduceAdd, Int.reduceSub, Int.reduceMul, reduceCtorEq, ↓reduceIte, List.getD_cons_zero, List.getD_cons_succ, fillL, splice, List.take_zero, List.drop_zero, List.drop_succ_cons, List.take_succ_cons, List.drop_nil, List.take_nil, Nat.zero_add, hs1, hs2]
      repeat refine And.intro (by omega) ?_
      refine And.intro (by rcases hspot with h | h <;> simp [h]) ?_
      have hb1 : g1 nx = some (.cells [Value.int .i64 0, .slice none 0 0, .slice none 0 0] false) := by rw [k1 nx (by omega), hb0]
      have hsv := sv_len (n := x.toNat * 40 + y.toNat) (by omega)
      have hst := svs_len t
      obtain ⟨P, hP⟩ : ∃ P, P = sv (x.toNat * 40 + y.toNat) := ⟨_, rfl⟩
      rw [← hP] at hO1 hsv
      have hoB : oidB (x :: y :: t) = P ++ svs t := by rw [hP]; rfl
      rw [hoB]
      refine loop_of (fun j f mm => ∃ (i x2 : Nat) (g : Nat → Option Blk) (A' : Option Addr), j = t.length - i ∧ i ≤ t.length ∧ f 2 = .pointer (some ⟨nx, 0, none⟩) ∧ f 4 = .slice A' (P.length + (svs (t.take i)).length) (P.length + (svs (t.take i)).length) ∧ f 52 = .slice (some ⟨a.block, a.off + 2, a.spot⟩) t.length (c - 2) ∧ f 53 = .int .i64 (t.length : Nat) ∧ f 54 = .int .i64 (i : Nat) ∧
        mm = ⟨x2, b, g⟩ ∧ nx + 1 ≤ x2 ∧ (∀ p, p < nx + 1 → g p = g1 p) ∧ Own (nx + 1) b x2 g 1 A' (P.length + (svs (t.take i)).length) ((P ++ svs (t.take i)).map u8V)) t.length
        ⟨0, x1, g1, A1, by omega, by omega, (by first | (simp only [↓gaW, ↓gaV, ↓gaC, ↓gaN, gaP, Nat.reduceEqDiff, Nat.reduceLeDiff, Nat.reduceAdd, Nat.reduceSub, Nat.reduceMul, Int.reduceLT, Int.reduceLE, Int.reduceEq, Int.reduceToNat, Int.reduceAdd, Int.reduceSub, Int.reduceMul, reduceCtorEq, ↓reduceIte]; done) | (simp only [↓gaW, ↓gaV, ↓gaC, ↓gaN, gaP, Nat.reduceEqDiff, Nat.reduceLeDiff, Nat.reduceAdd, Nat.reduceSub, Nat.reduceMul, Int.reduceLT, Int.reduceLE, Int.reduceEq, Int.reduceToNat, Int.reduceAdd, Int.reduceSub, Int.reduceMul, reduceCtorEq, ↓reduceIte]; rfl)), (by rw [hP]; simp only [↓gaW, ↓gaV, ↓gaC, ↓gaN, gaP, Nat.reduceEqDiff, Nat.reduceLeDiff, Nat.reduceAdd, Nat.reduceSub, Nat.reduceMul, Int.reduceLT, Int.reduceLE, Int.reduceEq, Int.reduceToNat, Int.reduceAdd, Int.reduceSub, Int.reduceMul, reduceCtorEq, ↓reduceIte, List.getD_cons_zero, List.getD_cons_succ, fillL, splice, List.take_zero, List.drop_zero, List.drop_succ_cons, List.take_succ_cons, List.drop_nil, List.take_nil, svs, List.length_nil, Nat.add_zero]), (by first | (simp only [↓gaW, ↓gaV, ↓gaC, ↓gaN, gaP, Nat.reduceEqDiff, Nat.reduceLeDiff, Nat.reduceAdd, Nat.reduceSub, Nat.reduceMul, Int.reduceLT, Int.reduceLE, Int.reduceEq, Int.reduceToNat, Int.reduceAdd, Int.reduceSub, Int.reduceMul, reduceCtorEq, ↓reduceIte]; done) | (simp only [↓gaW, ↓gaV, ↓gaC, ↓gaN, gaP, Nat.reduceEqDiff, Nat.reduceLeDiff, Nat.reduceAdd, Nat.reduceSub, Nat.reduceMul, Int.reduceLT, Int.reduceLE, Int.reduceEq, Int.reduceToNat, Int.reduceAdd, Int.reduceSub, Int.reduceMul, reduceCtorEq, ↓reduceIte]; rfl)), (by first | (simp only [↓gaW, ↓gaV, ↓gaC, ↓gaN, gaP, Nat.reduceEqDiff, Nat.reduceLeDiff, Nat.reduceAdd, Nat.reduceSub, Nat.reduceMul, Int.reduceLT, Int.reduceLE, Int.reduceEq, Int.reduceToNat, Int.reduceAdd, Int.reduceSub, Int.reduceMul, reduceCtorEq, ↓reduceIte]; done) | (simp only [↓gaW, ↓gaV, ↓gaC, ↓gaN, gaP, Nat.reduceEqDiff, Nat.reduceLeDiff, Nat.reduceAdd, Nat.reduceSub, Nat.reduceMul, Int.reduceLT, Int.reduceLE, Int.reduceEq, Int.reduceToNat, Int.reduceAdd, Int.reduceSub, Int.reduceMul, reduceCtorEq, ↓reduceIte]; rfl)), (by first | (simp only [↓gaW, ↓gaV, ↓gaC, ↓gaN, gaP, Nat.reduceEqDiff, Nat.reduceLeDiff, Nat.reduceAdd, Nat.reduceSub, Nat.reduceMul, Int.reduceLT, Int.reduceLE, Int.reduceEq, Int.reduceToNat, Int.reduceAdd, Int.reduceSub, Int.reduceMul, reduceCtorEq, ↓reduceIte]; done) | (simp only [↓gaW, ↓gaV, ↓gaC, ↓gaN, gaP, Nat.reduceEqDiff, Nat.reduceLeDiff, Nat.reduceAdd, Nat.reduceSub, Nat.reduceMul, Int.reduceLT, Int.reduceLE, Int.reduceEq, Int.reduceToNat, Int.reduceAdd, Int.reduceSub, Int.reduceMul, reduceCtorEq, ↓reduceIte]; rfl)), rfl, by omega, fun _ _ => rfl, by simpa [svs] using hO1⟩ ?_
      rintro j f mm ⟨i, x2, g2, A2, hj, hi, f2, f4, f52, f53, f54, rfl, hx2, F2, hO2⟩
      have hsi := svs_len (t.take i)
      have htk : (t.take i).length = i := by rw [List.length_take]; omega
      by_cases hlt : (i : Int) < (t.length : Int)
      · have c2 : cl.getD (a.off + 2 + i) undef = .int .u32 ((t.getD i 0).toNat : Nat) := by
          have := r5 (2 + i) (by omega)
          rw [← Nat.add_assoc] at this
          rw [this]
          have h3 : ((x :: y :: t).map u32V).getD (2 + i) undef = .int .u32 (((x :: y :: t).getD (2 + i) 0).toNat : Nat) := getD_u32 (by simp only [List.length_cons]; omega)
          rw [h3, Nat.add_comm 2 i]; rfl
        have h2q : g2 a.block = some (.cells cl ro) := by rw [F2 _ (by omega), F1 _ r2, r3]
        have hz := (t.getD i 0).toNat_lt
        have i1 : IntKind.u64.wrap ((t.getD i 0).toNat : Int) = ((t.getD i 0).toNat : Int) := by rw [u64_w]; omega
        have i3 : IntKind.i64.wrap ((i : Int) + 1) = ((i + 1 : Nat) : Int) := by rw [i64_w _ (by omega)]; omega
        simp only [↓gaW, ↓gaV, ↓gaC, ↓gaN, gaP, Nat.reduceEqDiff, Nat.reduceLeDiff, Nat.reduceAdd, Nat.reduceSub, Nat.reduceMul, Int.reduceLT, Int.reduceLE, Int.reduceEq, Int.reduceToNat, Int.reduceAdd, Int.reduceSub, Int.reduceMul, reduceCtorEq, ↓reduceIte, List.getD_cons_zero, List.getD_cons_succ, fillL, splice, List.take_zero, List.drop_zero, List.drop_succ_cons, List.take_succ_cons, List.drop_nil, List.take_nil, f4, f52, f53, f54, hlt, decide_true, h2q, c2, i1]
        repeat refine And.intro (by omega) ?_
        refine callB_of (cb_seven (n := (t.getD i 0).toNat) (base := nx + 1) (by omega) (by omega) hx2 hO2 (by omega)) fun v x3 g3 l3 k3 hC => ?_
        obtain ⟨A3, rfl, hO3⟩ := hC
        have e5 : P.length + (svs (t.take i)).length + (sv (t.getD i 0).toNat).length = P.length + (svs (t.take (i + 1))).length := by
          rw [take_next (by omega), svs_app]; simp [svs]; omega
        have e6 : P ++ svs (t.take i) ++ sv (t.getD i 0).toNat = P ++ svs (t.take (i + 1)) := by
          rw [take_next (by omega), svs_app]; simp [svs]
        rw [e5, e6] at hO3
        rw [e5]
        simp only [↓gaW, ↓gaV, ↓gaC, ↓gaN, gaP, Nat.reduceEqDiff, Nat.reduceLeDiff, Nat.reduceAdd, Nat.reduceSub, Nat.reduceMul, Int.reduceLT, Int.reduceLE, Int.reduceEq, Int.reduceToNat, Int.reduceAdd, Int.reduceSub, Int.reduceMul, reduceCtorEq, ↓reduceIte, List.getD_cons_zero, List.getD_cons_succ, fillL, splice, List.take_zero, List.drop_zero, List.drop_succ_cons, List.take_succ_cons, List.drop_nil, List.take_nil, f2, f54, i3, loopK_n]
        refine ⟨t.length - (i + 1), by omega, i + 1, x3, g3, A3, rfl, by omega, rfl, f52, f53, rfl, rfl, by omega, fun p hp => by rw [k3 p hp, F2 p hp], hO3⟩
      · have hit : i = t.length := by omega
        rw [hit, List.take_length] at hO2 f4
        have hb2 : g2 nx = some (.cells [Value.int .i64 0, .slice none 0 0, .slice none 0 0] false) := by rw [F2 nx (by omega), hb1]
        simp only [↓gaW, ↓gaV, ↓gaC, ↓gaN, gaP, Nat.reduceEqDiff, Nat.reduceLeDiff, Nat.reduceAdd, Nat.reduceSub, Nat.reduceMul, Int.reduceLT, Int.reduceLE, Int.reduceEq, Int.reduceToNat, Int.reduceAdd, Int.reduceSub, Int.reduceMul, reduceCtorEq, ↓reduceIte, List.getD_cons_zero, List.getD_cons_succ, fillL, splice, List.take_zero, List.drop_zero, List.drop_succ_cons, List.take_succ_cons, List.drop_nil, List.take_nil, f2, f4, f52, f53, f54, hlt, decide_false, hb2]
        repeat refine And.intro (by omega) ?_
        refine And.intro (node_cells _ _ _ _ _ _ _) ?_
        have ext : ∀ (cs : List Value), (∀ p, p ≠ nx → upd g2 nx (some (.cells cs false)) p = g2 p) := fun cs p hp => by simp only [upd_e]; rw [if_neg hp]
        refine end_nT (q := nx) (t := 6) (B := A2) (m := P.length + (svs t).length) (d := P.length + (svs t).length) (A := none) (n := 0) (c := 0) (ro := false) (w := .int .i64 0) (by simp only [↓gaW, ↓gaV, ↓gaC, ↓gaN, gaP, Nat.reduceEqDiff, Nat.reduceLeDiff, Nat.reduceAdd, Nat.reduceSub, Nat.reduceMul, Int.reduceLT, Int.reduceLE, Int.reduceEq, Int.reduceToNat, Int.reduceAdd, Int.reduceSub, Int.reduceMul, reduceCtorEq, ↓reduceIte, f2]) (by first | (simp only [↓gaW, ↓gaV, ↓gaC, ↓gaN, gaP, Nat.reduceEqDiff, Nat.reduceLeDiff, Nat.reduceAdd, Nat.reduceSub, Nat.reduceMul, Int.reduceLT, Int.reduceLE, Int.reduceEq, Int.reduceToNat, Int.reduceAdd, Int.reduceSub, Int.reduceMul, reduceCtorEq, ↓reduceIte]; done) | (simp only [↓gaW, ↓gaV, ↓gaC, ↓gaN, gaP, Nat.reduceEqDiff, Nat.reduceLeDiff, Nat.reduceAdd, Nat.reduceSub, Nat.reduceMul, Int.reduceLT, Int.reduceLE, Int.reduceEq, Int.reduceToNat, Int.reduceAdd, Int.reduceSub, Int.reduceMul, reduceCtorEq, ↓reduceIte]; rfl)) (by simp only [upd_e, if_true]) (by omega) (fun p hp => by rw [ext _ p (by omega), F2 p (by omega), F1 p hp]) ⟨_, rfl, ?_⟩
        have hrl := hO2.rowL
        rw [Nat.mul_one] at hrl
        exact NodeIs.leaf (by omega) ((hrl.keep (Nat.le_refl _) fun p hp _ => ext _ p (by omega)).wid (by omega)) (Nat.le_refl _)
  · have hr : oidR (x :: y :: t) = .ok ⟨6, oidB (x :: y :: t), .nil⟩ := by
      simp only [oidR, oidOk, decide_eq_true (show t.length ≤ 18 by omega), decide_eq_true (show x.toNat ≤ 2 by omega), decide_eq_true (show y.toNat ≤ 4294967200 by omega), decide_eq_true (show x.toNat = 2 by omega), Bool.true_or, Bool.and_true, if_true]
    rw [hr]
    have e1 : IntKind.u64.wrap (IntKind.u64.wrap (IntKind.u64.wrap (x.toNat : Int) * 40) + IntKind.u64.wrap (y.toNat : Int)) = ((x.toNat * 40 + y.toNat : Nat) : Int) := by simp only [u64_w]; omega
    simp only [c_scalar_Oid, ↓gaW, ↓gaV, ↓gaC, ↓gaN, gaP, Nat.reduceEqDiff, Nat.reduceLeDiff, Nat.reduceAdd, Nat.reduceSub, Nat.reduceMul, Int.reduceLT, Int.reduceLE, Int.reduceEq, Int.reduceToNat, Int.reduceAdd, Int.reduceSub, Int.reduceMul, reduceCtorEq, ↓reduceIte, List.getD_cons_zero, List.getD_cons_succ, fillL, splice, List.take_zero, List.drop_zero, List.drop_succ_cons, List.take_succ_cons, List.drop_nil, List.take_nil, gaU, h2, decide_false, h20, hqn, r3, c0, c1, hx2, hy2, hx3, decide_true, e1]
    generalize upd gt nx (some (.cells [Value.int .i64 0, .slice none 0 0, .slice none 0 0] false)) = g0 at *
    repeat refine And.intro (by omega) ?_
    refine callB_of (cb_seven (n := x.toNat * 40 + y.toNat) (base := nx + 1) (by omega) (by omega) (Nat.le_refl _) Own.nil (l := []) (by omega)) fun v x1 g1 l1 k1 hC => ?_
    obtain ⟨A1, rfl, hO1⟩ := hC
    simp only [Nat.zero_add, List.nil_append] at hO1
    have F1 : ∀ p, p < nx → g1 p = gt p := fun p hp => by rw [k1 p (by omega), hF p hp]
    simp only [↓gaW, ↓gaV, ↓gaC, ↓gaN, gaP, Nat.reduceEqDiff, Nat.reduceLeDiff, Nat.reduceAdd, Nat.reduceSub, Nat.reduceMul, Int.reduceLT, Int.reduceLE, Int.reduceEq, Int.reduceToNat, Int.reduceAdd, Int.reduceSub, Int.reduceMul, reduceCtorEq, ↓reduceIte, List.getD_cons_zero, List.getD_cons_succ, fillL, splice, List.take_zero, List.drop_zero, List.drop_succ_cons, List.take_succ_cons, List.drop_nil, List.take_nil, Nat.zero_add, hs1, hs2]
    repeat refine And.intro (by omega) ?_
    refine And.intro (by rcases hspot with h | h <;> simp [h]) ?_
    have hb1 : g1 nx = some (.cells [Value.int .i64 0, .slice none 0 0, .slice none 0 0] false) := by rw [k1 nx (by omega), hb0]
    have hsv := sv_len (n := x.toNat * 40 + y.toNat) (by omega)
    have hst := svs_len t
    obtain ⟨P, hP⟩ : ∃ P, P = sv (x.toNat * 40 + y.toNat) := ⟨_, rfl⟩
    rw [← hP] at hO1 hsv
    have hoB : oidB (x :: y :: t) = P ++ svs t := by rw [hP]; rfl
    rw [hoB]
    refine loop_of (fun j f mm => ∃ (i x2 : Nat) (g : Nat → Option Blk) (A' : Option Addr), j = t.length - i ∧ i ≤ t.length ∧ f 2 = .pointer (some ⟨nx, 0, none⟩) ∧ f 4 = .slice A' (P.length + (svs (t.take i)).length) (P.length + (svs (t.take i)).length) ∧ f 52 = .slice (some ⟨a.block, a.off + 2, a.spot⟩) t.length (c - 2) ∧ f 53 = .int .i64 (t.length : Nat) ∧ f 54 = .int .i64 (i : Nat) ∧
      mm = ⟨x2, b, g⟩ ∧ nx + 1 ≤ x2 ∧ (∀ p, p < nx + 1 → g p = g1 p) ∧ Own (nx + 1) b x2 g 1 A' (P.length + (svs (t.take i)).length) ((P ++ svs (t.take i)).map u8V)) t.length
      ⟨0, x1, g1, A1, by omega, by omega, (by first | (simp only [↓gaW, ↓gaV, ↓gaC, ↓gaN, gaP, Nat.reduceEqDiff, Nat.reduceLeDiff, Nat.reduceAdd, Nat.reduceSub, Nat.reduceMul, Int.reduceLT, Int.reduceLE, Int.reduceEq, Int.reduceToNat, Int.reduceAdd, Int.reduceSub, Int.reduceMul, reduceCtorEq, ↓reduceIte]; done) | (simp only [↓gaW, ↓gaV, ↓gaC, ↓gaN, gaP, Nat.reduceEqDiff, Nat.reduceLeDiff, Nat.reduceAdd, Nat.reduceSub, Nat.reduceMul, Int.reduceLT, Int.reduceLE, Int.reduceEq, Int.reduceToNat, Int.reduceAdd, Int.reduceSub, Int.reduceMul, reduceCtorEq, ↓reduceIte]; rfl)), (by rw [hP]; simp only [↓gaW, ↓gaV, ↓gaC, ↓gaN, gaP, Nat.reduceEqDiff, Nat.reduceLeDiff, Nat.reduceAdd, Nat.reduceSub, Nat.reduceMul, Int.reduceLT, Int.reduceLE, Int.reduceEq, Int.reduceToNat, Int.reduceAdd, Int.reduceSub, Int.reduceMul, reduceCtorEq, ↓reduceIte, List.getD_cons_zero, List.getD_cons_succ, fillL, splice, List.take_zero, List.drop_zero, List.drop_succ_cons, List.take_succ_cons, List.drop_nil, List.take_nil, svs, List.length_nil, Nat.add_zero]), (by first | (simp only [↓gaW, ↓gaV, ↓gaC, ↓gaN, gaP, Nat.reduceEqDiff, Nat.reduceLeDiff, Nat.reduceAdd, Nat.reduceSub, Nat.reduceMul, Int.reduceLT, Int.reduceLE, Int.reduceEq, Int.reduceToNat, Int.reduceAdd, Int.reduceSub, Int.reduceMul, reduceCtorEq, ↓reduceIte]; done) | (simp only [↓gaW, ↓gaV, ↓gaC, ↓gaN, gaP, Nat.reduceEqDiff, Nat.reduceLeDiff, Nat.reduceAdd, Nat.reduceSub, Nat.reduceMul, Int.reduceLT, Int.reduceLE, Int.reduceEq, Int.reduceToNat, Int.reduceAdd, Int.reduceSub, Int.reduceMul, reduceCtorEq, ↓reduceIte]; rfl)), (by first | (simp only [↓gaW, ↓gaV, ↓gaC, ↓gaN, gaP, Nat.reduceEqDiff, Nat.reduceLeDiff, Nat.reduceAdd, Nat.reduceSub, Nat.reduceMul, Int.reduceLT, Int.reduceLE, Int.reduceEq, Int.reduceToNat, Int.reduceAdd, Int.reduceSub, Int.reduceMul, reduceCtorEq, ↓reduceIte]; done) | (simp only [↓gaW, ↓gaV, ↓gaC, ↓gaN, gaP, Nat.reduceEqDiff, Nat.reduceLeDiff, Nat.reduceAdd, Nat.reduceSub, Nat.reduceMul, Int.reduceLT, Int.reduceLE, Int.reduceEq, Int.reduceToNat, Int.reduceAdd, Int.reduceSub, Int.reduceMul, reduceCtorEq, ↓reduceIte]; rfl)), (by first | (simp only [↓gaW, ↓gaV, ↓gaC, ↓gaN, gaP, Nat.reduceEqDiff, Nat.reduceLeDiff, Nat.reduceAdd, Nat.reduceSub, Nat.reduceMul, Int.reduceLT, Int.reduceLE, Int.reduceEq, Int.reduceToNat, Int.reduceAdd, Int.reduceSub, Int.reduceMul, reduceCtorEq, ↓reduceIte]; done) | (simp only [↓gaW, ↓gaV, ↓gaC, ↓gaN, gaP, Nat.reduceEqDiff, Nat.reduceLeDiff, Nat.reduceAdd, Nat.reduceSub, Nat.reduceMul, Int.reduceLT, Int.reduceLE, Int.reduceEq, Int.reduceToNat, Int.reduceAdd, Int.reduceSub, Int.reduceMul, reduceCtorEq, ↓reduceIte]; rfl)), rfl, by omega, fun _ _ => rfl, by simpa [svs] using hO1⟩ ?_
    rintro j f mm ⟨i, x2, g2, A2, hj, hi, f2, f4, f52, f53, f54, rfl, hx2, F2, hO2⟩
    have hsi := svs_len (t.take i)
    have htk : (t.take i).length = i := by rw [List.length_take]; omega
    by_cases hlt : (i : Int) < (t.length : Int)
    · have c2 : cl.getD (a.off + 2 + i) undef = .int .u32 ((t.getD i 0).toNat : Nat) := by
        have := r5 (2 + i) (by omega)
        rw [← Nat.add_assoc] at this
        rw [this]
        have h3 : ((x :: y :: t).map u32V).getD (2 + i) undef = .int .u32 (((x :: y :: t).getD (2 + i) 0).toNat : Nat) := getD_u32 (by simp only [List.length_cons]; omega)
        rw [h3, Nat.add_comm 2 i]; rfl
      have h2q : g2 a.block = some (.cells cl ro) := by rw [F2 _ (by omega), F1 _ r2, r3]
      have hz := (t.getD i 0).toNat_lt
      have i1 : IntKind.u64.wrap ((t.getD i 0).toNat : Int) = ((t.getD i 0).toNat : Int) := by rw [u64_w]; omega
      have i3 : IntKind.i64.wrap ((i : Int) + 1) = ((i + 1 : Nat) : Int) := by rw [i64_w _ (by omega)]; omega
      simp only [↓gaW, ↓gaV, ↓gaC, ↓gaN, gaP, Nat.reduceEqDiff, Nat.reduceLeDiff, Nat.reduceAdd, Nat.reduceSub, Nat.reduceMul, Int.reduceLT, Int.reduceLE, Int.reduceEq, Int.reduceToNat, Int.reduceAdd, Int.reduceSub, Int.reduceMul, reduceCtorEq, ↓reduceIte, List.getD_cons_zero, List.getD_cons_succ, fillL, splice, List.take_zero, List.drop_zero, List.drop_succ_cons, List.take_succ_cons, List.drop_nil, List.take_nil, f4, f52, f53, f54, hlt, decide_true, h2q, c2, i1]
      repeat refine And.intro (by omega) ?_
      refine callB_of (cb_seven (n := (t.getD i 0).toNat) (base := nx + 1) (by omega) (by omega) hx2 hO2 (by omega)) fun v x3 g3 l3 k3 hC => ?_
      obtain ⟨A3, rfl, hO3⟩ := hC
      have e5 : P.length + (svs (t.take i)).length + (sv (t.getD i 0).toNat).length = P.length + (svs (t.take (i + 1))).length := by
        rw [take_next (by omega), svs_app]; simp [svs]; omega
      have e6 : P ++ svs (t.take i) ++ sv (t.getD i 0).toNat = P ++ svs (t.take (i + 1)) := by
        rw [take_next (by omega), svs_app]; simp [svs]
      rw [e5, e6] at hO3
      rw [e5]
      simp only [↓gaW, ↓gaV, ↓gaC, ↓gaN, gaP, Nat.reduceEqDiff, Nat.reduceLeDiff, Nat.reduceAdd, Nat.reduceSub, Nat.reduceMul, Int.reduceLT, Int.reduceLE, Int.reduceEq, Int.reduceToNat, Int.reduceAdd, Int.reduceSub, Int.reduceMul, reduceCtorEq, ↓reduceIte, List.getD_cons_zero, List.getD_cons_succ, fillL, splice, List.take_zero, List.drop_zero, List.drop_succ_cons, List.take_succ_cons, List.drop_nil, List.take_nil, f2, f54, i3, loopK_n]
      refine ⟨t.length - (i + 1), by omega, i + 1, x3, g3, A3, rfl, by omega, rfl, f52, f53, rfl, rfl, by omega, fun p hp => by rw [k3 p hp, F2 p hp], hO3⟩
    · have hit : i = t.length := by omega
      rw [hit, List.take_length] at hO2 f4
      have hb2 : g2 nx = some (.cells [Value.int .i64 0, .slice none 0 0, .slice none 0 0] false) := by rw [F2 nx (by omega), hb1]
      simp only [↓gaW, ↓gaV, ↓gaC, ↓gaN, gaP, Nat.reduceEqDiff, Nat.reduceLeDiff, Nat.reduceAdd, Nat.reduceSub, Nat.reduceMul, Int.reduceLT, Int.reduceLE, Int.reduceEq, Int.reduceToNat, Int.reduceAdd, Int.reduceSub, Int.reduceMul, reduceCtorEq, ↓reduceIte, List.getD_cons_zero, List.getD_cons_succ, fillL, splice, List.take_zero, List.drop_zero, List.drop_succ_cons, List.take_succ_cons, List.drop_nil, List.take_nil, f2, f4, f52, f53, f54, hlt, decide_false, hb2]
      repeat refine And.intro (by omega) ?_
      refine And.intro (node_cells _ _ _ _ _ _ _) ?_
      have ext : ∀ (cs : List Value), (∀ p, p ≠ nx → upd g2 nx (some (.cells cs false)) p = g2 p) := fun cs p hp => by simp only [upd_e]; rw [if_neg hp]
      refine end_nT (q := nx) (t := 6) (B := A2) (m := P.length + (svs t).length) (d := P.length + (svs t).length) (A := none) (n := 0) (c := 0) (ro := false) (w := .int .i64 0) (by simp only [↓gaW, ↓gaV, ↓gaC, ↓gaN, gaP, Nat.reduceEqDiff, Nat.reduceLeDiff, Nat.reduceAdd, Nat.reduceSub, Nat.reduceMul, Int.reduceLT, Int.reduceLE, Int.reduceEq, Int.reduceToNat, Int.reduceAdd, Int.reduceSub, Int.reduceMul, reduceCtorEq, ↓reduceIte, f2]) (by first | (simp only [↓gaW, ↓gaV, ↓gaC, ↓gaN, gaP, Nat.reduceEqDiff, Nat.reduceLeDiff, Nat.reduceAdd, Nat.reduceSub, Nat.reduceMul, Int.reduceLT, Int.reduceLE, Int.reduceEq, Int.reduceToNat, Int.reduceAdd, Int.reduceSub, Int.reduceMul, reduceCtorEq, ↓reduceIte]; done) | (simp only [↓gaW, ↓gaV, ↓gaC, ↓gaN, gaP, Nat.reduceEqDiff, Nat.reduceLeDiff, Nat.reduceAdd, Nat.reduceSub, Nat.reduceMul, Int.reduceLT, Int.reduceLE, Int.reduceEq, Int.reduceToNat, Int.reduceAdd, Int.reduceSub, Int.reduceMul, reduceCtorEq, ↓reduceIte]; rfl)) (by simp only [upd_e, if_true]) (by omega) (fun p hp => by rw [ext _ p (by omega), F2 p (by omega), F1 p hp]) ⟨_, rfl, ?_⟩
      have hrl := hO2.rowL
      rw [Nat.mul_one] at hrl
      exact NodeIs.leaf (by omega) ((hrl.keep (Nat.le_refl _) fun p hp _ => ext _ p (by omega)).wid (by omega)) (Nat.le_refl _)
end
end Go.Ga

/- The document's numbers; a number and an object's name. -/
namespace Go.Ga
open Go Go.Proofs
set_option linter.unusedSimpArgs false
set_option linter.unusedVariables false
set_option maxRecDepth 100000
attribute [local irreducible] appendK

theorem valFrom_be (n : Nat) : ∀ k x, valFrom x (be k n) = x * 256 ^ k + n % 256 ^ k := by
  intro k
  induction k with
  | zero => intro x; simp [be, valFrom, Nat.mod_one]
  | succ k ih =>
    intro x
    have hb : be (k + 1) n = UInt8.ofNat (n / 256 ^ k) :: be k n := by
      unfold be
      rw [List.range_succ_eq_map, List.map_cons, List.map_map]
      congr 1
      refine List.map_congr_left fun i hi => ?_
      have := List.mem_range.1 hi
      show UInt8.ofNat (n / 256 ^ (k + 1 - 1 - (i + 1))) = _
      rw [show k + 1 - 1 - (i + 1) = k - 1 - i by omega]
    rw [hb, valFrom_cons, ih]
    have e1 : (UInt8.ofNat (n / 256 ^ k)).toNat = n / 256 ^ k % 256 := UInt8.toNat_ofNat'
    rw [e1, Nat.pow_succ, Nat.mod_mul, Nat.add_mul, Nat.mul_assoc, Nat.mul_comm 256 (256 ^ k), Nat.mul_comm (n / 256 ^ k % 256)]
    omega
theorem val_be {k n : Nat} (h : n < 256 ^ k) : val (be k n) = n := by
  show valFrom 0 (be k n) = n
  rw [valFrom_be, Nat.zero_mul, Nat.zero_add, Nat.mod_eq_of_lt h]
theorem val_bare (l : List UInt8) : val (bare l) = val l := by
  induction l with
  | nil => rfl
  | cons x t ih =>
    by_cases h : x = 0
    · subst h
      rw [bare_0, ih]
      show _ = valFrom 0 (0 :: t)
      rw [valFrom_cons]; rfl
    · rw [bare_n h]
theorem val_bigB (l : List UInt8) : val (bigB l) = val l := by
  cases l with
  | nil => rfl
  | cons x t =>
    show val (if 128 ≤ x.toNat then 0 :: x :: t else x :: t) = _
    by_cases h : 128 ≤ x.toNat
    · rw [if_pos h]
      show valFrom 0 (0 :: x :: t) = _
      rw [valFrom_cons]; rfl
    · rw [if_neg h]
theorem val_int {n : Nat} {y : Fo.El} (h : intE n y) : val y.b = n := by
  obtain ⟨k, hk, rfl⟩ := h
  show val (bigB (bare (be k n))) = n
  rw [val_bigB, val_bare, val_be hk.2.2.1]
theorem uint_int {n : Nat} {y : Fo.El} (hn : n < 18446744073709551616) (h : intE n y) : uintR y = (n, 0) := by
  unfold uintR
  rw [val_int h, if_pos ⟨hn, h⟩]

section
variable {nx : Nat} {gt : Nat → Option Blk}

theorem oid_awake : oidR [1, 2, 840] = .ok ⟨6, [42, 134, 72], .nil⟩ := by
  have e1 : sv 42 = [42] := by unfold sv le7; rw [show 42 / 128 = 0 by decide, sg_0]; rfl
  have e2 : sv 840 = [134, 72] := by unfold sv le7; rw [show 840 / 128 = 6 by decide, sg_s (by decide), show 6 / 128 = 0 by decide, sg_0]; rfl
  have e3 : oidB [1, 2, 840] = [42, 134, 72] := by
    show sv 42 ++ (sv 840 ++ []) = _
    rw [e1, e2]; rfl
  unfold oidR
  rw [if_pos (by rfl), e3]
theorem ct_awake05 : Ct Tryd.prog 9 [] nx gt fun v _ _ => v = .bool true := by
  refine Ct.of hmx r_lanyardlaw05_awake (by simp [c_lanyardlaw05_awake]) fun b hb => ?_
  simp only [c_lanyardlaw05_awake, ↓gaW, ↓gaV, ↓gaC, ↓gaN, gaP, Nat.reduceEqDiff, Nat.reduceLeDiff, Nat.reduceAdd, Nat.reduceSub, Nat.reduceMul, Int.reduceLT, Int.reduceLE, Int.reduceEq, Int.reduceToNat, Int.reduceAdd, Int.reduceSub, Int.reduceMul, reduceCtorEq, ↓reduceIte, List.getD_cons_zero, List.getD_cons_succ, fillL, splice, List.take_zero, List.drop_zero, List.drop_succ_cons, List.take_succ_cons, List.drop_nil, List.take_nil, gaU]
  refine callK_of (ct_Int (n := 128) (by omega)) (fun v x1 g1 l1 k1 hC => ?_) (by omega)
  obtain ⟨y, hy, B, m, d, A, n, c, ks, rfl, hN⟩ := hC
  have hyw := intE_ws hy
  simp only [↓gaW, ↓gaV, ↓gaC, ↓gaN, gaP, Nat.reduceEqDiff, Nat.reduceLeDiff, Nat.reduceAdd, Nat.reduceSub, Nat.reduceMul, Int.reduceLT, Int.reduceLE, Int.reduceEq, Int.reduceToNat, Int.reduceAdd, Int.reduceSub, Int.reduceMul, reduceCtorEq, ↓reduceIte, List.getD_cons_zero, List.getD_cons_succ, fillL, splice, List.take_zero, List.drop_zero, List.drop_succ_cons, List.take_succ_cons, List.drop_nil, List.take_nil]
  refine callK_of (ct_Uint hN.r (by omega)) (fun v x2 g2 l2 k2 hC => ?_) (by omega)
  rw [uint_int (by omega) hy] at hC
  subst hC
  simp only [↓gaW, ↓gaV, ↓gaC, ↓gaN, gaP, Nat.reduceEqDiff, Nat.reduceLeDiff, Nat.reduceAdd, Nat.reduceSub, Nat.reduceMul, Int.reduceLT, Int.reduceLE, Int.reduceEq, Int.reduceToNat, Int.reduceAdd, Int.reduceSub, Int.reduceMul, reduceCtorEq, ↓reduceIte, List.getD_cons_zero, List.getD_cons_succ, fillL, splice, List.take_zero, List.drop_zero, List.drop_succ_cons, List.take_succ_cons, List.drop_nil, List.take_nil]
  repeat refine And.intro (by omega) ?_
  have hZ : ∀ p, p < x2 → upd g2 x2 (some (.cells [Value.int .u32 1, .int .u32 2, .int .u32 840] false)) p = g2 p := fun p hp => by simp only [upd_e]; rw [if_neg (by omega)]
  have hz : upd g2 x2 (some (.cells [Value.int .u32 1, .int .u32 2, .int .u32 840] false)) x2 = some (.cells [Value.int .u32 1, .int .u32 2, .int .u32 840] false) := by simp only [upd_e, if_true]
  generalize upd g2 x2 (some (.cells [Value.int .u32 1, .int .u32 2, .int .u32 840] false)) = g3 at *
  have rO : Row (x2 + 1) g3 1 (some ⟨x2, 0, none⟩) 3 (([1, 2, 840] : List UInt32).map u32V) := ⟨fun a h => by injection h with h; subst h; exact .inl rfl, rfl, fun _ => ⟨⟨x2, 0, none⟩, _, _, rfl, Nat.lt_succ_self _, hz, by simp, fun i _ => by simp only [Nat.zero_add]; rfl⟩⟩
  refine callK_of (ct_Oid rO (Nat.le_refl _) (by omega)) (fun v x4 g4 l4 k4 hC => ?_) (by omega)
  rw [oid_awake] at hC
  obtain ⟨u, rfl, B', m', d', A', n', c', ks', rfl, hN'⟩ := hC
  have hm := hN'.r.blen
  simp only [List.length_cons, List.length_nil] at hm
  have e6 : ∀ (cs : List Value), rowOf ⟨x4 + 1, b, upd (upd g4 x4 (some (.cells [Value.int .i64 0, .slice none 0 0, .slice none 0 0] false))) x4 (some (.cells cs false))⟩ B' m' = some (([42, 134, 72] : List UInt8).map u8V) := fun cs => (hN'.r.body.keep (nx' := x4 + 1) (by omega) fun p hp => by simp only [upd_e]; rw [if_neg (by omega), if_neg (by omega)]).rowOf
  have e7 : bytesOf [u8V 42, u8V 134, u8V 72] = some [42, 134, 72] := bytesOf_map [42, 134, 72]
  have e8 : ((⟨([42, 134, 72] : List UInt8).toArray⟩ : ByteArray).toList == (⟨#[42, 134, 72]⟩ : ByteArray).toList) = true := by rw [show (#[42, 134, 72] : Array UInt8) = ([42, 134, 72] : List UInt8).toArray from rfl, str_eq]; rfl
  simp only [↓gaW, ↓gaV, ↓gaC, ↓gaN, gaP, Nat.reduceEqDiff, Nat.reduceLeDiff, Nat.reduceAdd, Nat.reduceSub, Nat.reduceMul, Int.reduceLT, Int.reduceLE, Int.reduceEq, Int.reduceToNat, Int.reduceAdd, Int.reduceSub, Int.reduceMul, reduceCtorEq, ↓reduceIte, gaE, implies_true, Nat.le_refl, Int.sub_zero, Nat.sub_zero, Int.le_refl, true_or, or_true, List.getD_cons_zero, List.getD_cons_succ, fillL, splice, List.take_zero, List.drop_zero, List.drop_succ_cons, List.take_succ_cons, List.drop_nil, List.take_nil, e6, e7, e8]
  repeat refine And.intro (by omega) ?_
  refine And.intro (node_cells _ _ _ _ _ _ _) ?_
  exact ⟨by omega, by omega, fun p hp => by rw [if_neg (by omega), if_neg (by omega), k4 p (by omega), hZ p (by omega), k2 p (by omega), k1 p hp]⟩
end
end Go.Ga

/- An array of whole numbers that a law is given. -/
namespace Go.Ga
open Go

section
variable {P : Program} {H : Type} {enc : TypeId × Value → H} {w : World} {base : Nat} {sp : Nat → Bool} {held : Bool} {t e : TypeId} {n : Nat} {k : IntKind}

def intOf : Option Value → Int
  | some (.int _ z) => z
  | _ => 0
def arrD (k : IntKind) (zs : List Int) : DataW H := .agg (zs.map fun z => .lit (.int k z))

end

end Go.Ga

/- A slice of words that a law is given. -/
namespace Go.Ga
open Go

theorem wf_u32 {n : Int} (h : (Lit.int .u32 n).wf = true) : 0 ≤ n ∧ n ≤ 4294967295 := by
  have := (Lit.wf_int_iff _ _).1 h
  simpa [IntKind.min, IntKind.max, IntKind.signed, IntKind.bits] using this
end Go.Ga

/- What a law is given: what its values are made of, in the abstract memory. -/
namespace Go.Ga
open Go

section
variable {H : Type} {enc : TypeId × Value → H} {P : Program} {w : World} {held : Bool} {f : Nat} {t : TypeId} {cs : List Value}

/-- These cells are a value of this type. -/
def Shp (enc : TypeId × Value → H) (P : Program) (w : World) (held : Bool) (f : Nat) (t : TypeId) (cs : List Value) : Prop := ∃ x, DataW.trod enc P w 0 (fun _ => true) held f t cs = some x

theorem Shp.int {k : IntKind} (ht : P.underlying t = some (.int k)) (h : Shp enc P w held f t cs) : ∃ n, cs = [.int k n] ∧ (Lit.int k n).wf = true := by
  obtain ⟨x, hx⟩ := h
  obtain ⟨n, h1, _, h2⟩ := DataW.trod_int ht hx
  exact ⟨n, h1, h2⟩
theorem Shp.bool (ht : P.underlying t = some .bool) (h : Shp enc P w held f t cs) : ∃ b, cs = [.bool b] := by
  obtain ⟨x, hx⟩ := h
  obtain ⟨n, h1, _⟩ := DataW.trod_bool ht hx
  exact ⟨n, h1⟩
theorem Shp.string (ht : P.underlying t = some .string) (h : Shp enc P w held f t cs) : ∃ s : ByteArray, cs = [.string s] ∧ s.size ≤ maxLen := by
  obtain ⟨x, hx⟩ := h
  obtain ⟨n, h1, _, h2⟩ := DataW.trod_string ht hx
  exact ⟨n, h1, h2⟩
theorem Shp.struct {fs : Array Field} (ht : P.underlying t = some (.struct fs)) (h : Shp enc P w held f t cs) :
    ∃ n, f = n + 1 ∧ cs.length = P.cellsOf t ∧ ∀ (i : Nat) (fl : Field), fs[i]? = some fl → Shp enc P w held n fl.type ((cs.drop fl.offset).take (P.cellsOf fl.type)) := by
  obtain ⟨x, hx⟩ := h
  obtain ⟨xs, n, h1, _, h2, h3, h4⟩ := DataW.trod_struct ht hx
  refine ⟨n, h1, h2, fun i fl hi => ?_⟩
  have hlt : i < xs.length := by
    rw [h3]
    exact (Array.getElem?_eq_some_iff.1 hi).1
  exact ⟨xs[i], by rw [h4 i fl hi, List.getElem?_eq_getElem hlt]⟩
theorem Shp.array {m : Nat} {e : TypeId} (ht : P.underlying t = some (.array m e)) (h : Shp enc P w held f t cs) :
    ∃ n, f = n + 1 ∧ cs.length = P.cellsOf t ∧ ∀ i, i < m → Shp enc P w held n e ((cs.drop (i * P.cellsOf e)).take (P.cellsOf e)) := by
  obtain ⟨x, hx⟩ := h
  obtain ⟨xs, n, h1, _, h2, h3, h4⟩ := DataW.trod_array ht hx
  exact ⟨n, h1, h2, fun i hi => ⟨xs[i]'(by omega), by rw [h4 i hi, List.getElem?_eq_getElem (by omega)]⟩⟩

theorem cells_all {w : World} {a : Addr} {N : Nat} {g : Nat → Value} (hN : 0 < N) (h : ∀ i, i < N → w.cell? (a.add i) = some (g i)) :
    a.spot = none ∧ isCells w a.block = true ∧ a.block < w.heap.size ∧ ∃ ce : List Value, (m0 w).get a.block = some (.cells (ce.map (absC w)) true) ∧ a.off + N ≤ ce.length ∧ ∀ i, i < N → ce[a.off + i]? = some (g i) := by
  have c0 := h 0 hN
  have hx : a.add 0 = a := by simp [Addr.add]
  rw [hx] at c0
  unfold World.cell? at c0
  split at c0
  · rename_i ce el fr hb
    have hsp : a.spot = none := by
      by_cases h : a.spot.isSome
      · rw [if_pos h] at c0; cases c0
      · simpa using h
    have hlt : a.block < w.heap.size := by
      rcases Nat.lt_or_ge a.block w.heap.size with h | h
      · exact h
      · rw [Array.getElem?_eq_none h] at hb; cases hb
    have hcell : ∀ i, i < N → ce.toList[a.off + i]? = some (g i) := by
      intro i hi
      have := h i hi
      unfold World.cell? Addr.add at this
      by_cases h0 : i = 0
      · subst h0
        simp only [if_true, hb, hsp] at this
        simpa using this
      · simp only [if_neg h0, hb] at this
        simpa using this
    refine ⟨hsp, by simp [isCells, hb], hlt, ce.toList, by simp [m0, hb], ?_, hcell⟩
    have := hcell (N - 1) (by omega)
    rcases Nat.lt_or_ge (a.off + (N - 1)) ce.toList.length with h | h
    · omega
    · rw [List.getElem?_eq_none h] at this; cases this
  · cases c0

theorem add_addr {a : Addr} {i j : Nat} (_ : a.spot = none) : (a.add i).add j = a.add (i + j) := by
  unfold Addr.add
  by_cases h1 : i = 0 <;> by_cases h2 : j = 0 <;> simp [h1, h2, Nat.add_assoc]

theorem Shp.slice {e : TypeId} (ht : P.underlying t = some (.slice e)) (hc : 0 < P.cellsOf e) (h : Shp enc P w held f t cs) :
    ∃ n v A len cap, ∃ l : List Value, f = n + 1 ∧ cs = [v] ∧ absC w v = .slice A len cap ∧ len ≤ cap ∧ Row w.heap.size (m0 w).get (P.cellsOf e) A (len * P.cellsOf e) (l.map (absC w)) ∧ l.length = len * P.cellsOf e ∧
      ∀ i, i < len → Shp enc P w held n e ((l.drop (i * P.cellsOf e)).take (P.cellsOf e)) := by
  obtain ⟨x, hx⟩ := h
  rcases DataW.trod_slice ht hx with ⟨rfl, _⟩ | ⟨a, len, cap, elems, rest, n, rfl, rfl, _, _, hl, hm, he, hel, hsp, _⟩
  · cases f with
    | zero => simp [DataW.trod] at hx
    | succ n => exact ⟨n, _, none, 0, 0, [], rfl, rfl, rfl, Nat.le_refl _, by rw [Nat.zero_mul]; exact .nil, by simp, fun i hi => absurd hi (Nat.not_lt_zero i)⟩
  · obtain ⟨hr, hrest⟩ := hsp rfl
    have one : ∀ i, i < cap → ∃ cs', w.cells? 0 (a.add (i * P.cellsOf e)) (P.cellsOf e) = some cs' ∧ Shp enc P w held n e cs' := by
      intro i hi
      rcases Nat.lt_or_ge i len with h | h
      · have h1 := hel i h
        rw [List.getElem?_eq_getElem (by omega), Option.bind_eq_some_iff] at h1
        obtain ⟨cs', h1, h2⟩ := h1
        exact ⟨cs', h1, _, h2⟩
      · have h1 := hrest (i - len) (by omega)
        rw [List.getElem?_eq_getElem (by omega), Option.bind_eq_some_iff, show len + (i - len) = i by omega] at h1
        obtain ⟨cs', h1, h2⟩ := h1
        exact ⟨cs', h1, _, h2⟩
    rcases Nat.eq_zero_or_pos cap with h0 | h0
    · subst h0
      have : len = 0 := by omega
      subst this
      exact ⟨n, _, some ⟨a.block, a.off, none⟩, 0, 0, [], rfl, rfl, by simp [absC], Nat.le_refl _, ⟨fun a ha => by injection ha with ha; subst ha; exact .inl rfl, by simp, fun h => by rw [Nat.zero_mul] at h; exact absurd h (Nat.lt_irrefl 0)⟩, by simp, fun i hi => absurd hi (Nat.not_lt_zero i)⟩
    · obtain ⟨cs0, hc0, ht0⟩ := one 0 h0
      obtain ⟨_, hl0, hg0⟩ := World.cells?_some hc0
      have hx0 : a.add (0 * P.cellsOf e) = a := by simp [Addr.add]
      rw [hx0] at hg0
      have hspot : a.spot = none := by
        refine (cells_all (w := w) (a := a) (N := 1) (g := fun i => cs0.getD 0 undef) (by omega) fun i hi => ?_).1
        have : i = 0 := by omega
        subst this
        rw [hg0 0 hc, List.getD_eq_getElem?_getD, List.getElem?_eq_getElem (by omega)]
        rfl
      have hpos : 0 < cap * P.cellsOf e := Nat.mul_pos h0 hc
      have hall : ∀ j, j < cap * P.cellsOf e → ∃ v, w.cell? (a.add j) = some v := by
        intro j hj
        have hd := Nat.div_add_mod j (P.cellsOf e)
        have hm := Nat.mod_lt j hc
        obtain ⟨cs', h1, _⟩ := one (j / P.cellsOf e) ((Nat.div_lt_iff_lt_mul hc).2 hj)
        obtain ⟨_, h2, h3⟩ := World.cells?_some h1
        have h4 := h3 (j % P.cellsOf e) hm
        rw [add_addr hspot, show j / P.cellsOf e * P.cellsOf e + j % P.cellsOf e = j by rw [Nat.mul_comm]; exact hd, List.getElem?_eq_getElem (by omega)] at h4
        exact ⟨_, h4⟩
      obtain ⟨g, hg⟩ : ∃ g : Nat → Value, ∀ j, j < cap * P.cellsOf e → w.cell? (a.add j) = some (g j) := by
        refine ⟨fun j => (w.cell? (a.add j)).getD undef, fun j hj => ?_⟩
        obtain ⟨v, hv⟩ := hall j hj
        simp only [hv, Option.getD_some]
      obtain ⟨h1, h2, h3, ce, h4, h5, h6⟩ := cells_all hpos hg
      have hle : len * P.cellsOf e ≤ cap * P.cellsOf e := Nat.mul_le_mul_right _ hl
      refine ⟨n, _, some a, len, cap, (ce.drop a.off).take (len * P.cellsOf e), rfl, rfl, ?_, hl, ⟨fun a' ha => by injection ha with ha; subst ha; exact .inl h1, by simp; omega, fun _ => ⟨a, _, true, rfl, h3, h4, by simp; omega, fun i hi => ?_⟩⟩, by simp; omega, fun i hi => ?_⟩
      · obtain ⟨ab, ao, asp⟩ := a
        simp only at h1
        subst h1
        simp [absC, show cap ≠ 0 by omega, hl, h2]
      · rw [List.getD_eq_getElem?_getD, List.getD_eq_getElem?_getD, List.getElem?_map, List.getElem?_map, List.getElem?_take_of_lt hi, List.getElem?_drop]
      · obtain ⟨cs', e1, e2⟩ := one i (by omega)
        obtain ⟨_, e3, e4⟩ := World.cells?_some e1
        have hik : i * P.cellsOf e + P.cellsOf e ≤ len * P.cellsOf e := by
          have := Nat.mul_le_mul_right (P.cellsOf e) (show i + 1 ≤ len by omega)
          rw [Nat.add_mul, Nat.one_mul] at this
          exact this
        have : ((((ce.drop a.off).take (len * P.cellsOf e)).drop (i * P.cellsOf e)).take (P.cellsOf e)) = cs' := by
          refine List.ext_getElem? fun k => ?_
          rcases Nat.lt_or_ge k (P.cellsOf e) with hk | hk
          · rw [List.getElem?_take_of_lt hk, List.getElem?_drop, List.getElem?_take_of_lt (by omega), List.getElem?_drop, h6 _ (by omega), ← hg _ (by omega), ← add_addr h1, e4 k hk]
          · rw [List.getElem?_eq_none (by simp; omega), List.getElem?_eq_none (by omega)]
        rw [this]
        exact e2

theorem Shp.bytes {e : TypeId} (ht : P.underlying t = some (.slice e)) (he : P.underlying e = some (.int .u8)) (hc : P.cellsOf e = 1) (h : Shp enc P w held f t cs) :
    ∃ v A len cap, ∃ l : List UInt8, cs = [v] ∧ absC w v = .slice A len cap ∧ len ≤ cap ∧ Row w.heap.size (m0 w).get 1 A len (l.map u8V) := by
  obtain ⟨n, v, A, len, cap, l, rfl, h1, h2, h3, h4, h5, h6⟩ := h.slice ht (by omega)
  rw [hc, Nat.mul_one] at h4 h5
  refine ⟨v, A, len, cap, l.map fun v => UInt8.ofNat (intOf (some v)).toNat, h1, h2, h3, ?_⟩
  have : (l.map fun v => UInt8.ofNat (intOf (some v)).toNat).map u8V = l.map (absC w) := by
    rw [List.map_map]
    refine List.map_congr_left fun v hv => ?_
    obtain ⟨i, hi, rfl⟩ := List.getElem_of_mem hv
    obtain ⟨z, e1, e2⟩ := (h6 i (by omega)).int he
    have e1' : l[i] = .int .u8 z := by
      rw [hc, Nat.mul_one, List.drop_eq_getElem_cons hi] at e1
      simp only [List.take_succ_cons, List.take_zero, List.cons.injEq, and_true] at e1
      exact e1
    rw [e1']
    obtain ⟨b1, b2⟩ := wf_u8 e2
    simp only [Function.comp, intOf, u8V, absC, goodV, if_true]
    rw [UInt8.toNat_ofNat']
    congr 1
    omega
  rw [this]
  exact h4
theorem Shp.words {e : TypeId} (ht : P.underlying t = some (.slice e)) (he : P.underlying e = some (.int .u32)) (hc : P.cellsOf e = 1) (h : Shp enc P w held f t cs) :
    ∃ v A len cap, ∃ l : List UInt32, cs = [v] ∧ absC w v = .slice A len cap ∧ len ≤ cap ∧ Row w.heap.size (m0 w).get 1 A len (l.map u32V) := by
  obtain ⟨n, v, A, len, cap, l, rfl, h1, h2, h3, h4, h5, h6⟩ := h.slice ht (by omega)
  rw [hc, Nat.mul_one] at h4 h5
  refine ⟨v, A, len, cap, l.map fun v => UInt32.ofNat (intOf (some v)).toNat, h1, h2, h3, ?_⟩
  have : (l.map fun v => UInt32.ofNat (intOf (some v)).toNat).map u32V = l.map (absC w) := by
    rw [List.map_map]
    refine List.map_congr_left fun v hv => ?_
    obtain ⟨i, hi, rfl⟩ := List.getElem_of_mem hv
    obtain ⟨z, e1, e2⟩ := (h6 i (by omega)).int he
    have e1' : l[i] = .int .u32 z := by
      rw [hc, Nat.mul_one, List.drop_eq_getElem_cons hi] at e1
      simp only [List.take_succ_cons, List.take_zero, List.cons.injEq, and_true] at e1
      exact e1
    rw [e1']
    obtain ⟨b1, b2⟩ := wf_u32 e2
    simp only [Function.comp, intOf, u32V, absC, goodV, if_true]
    rw [UInt32.toNat_ofNat']
    congr 1
    omega
  rw [this]
  exact h4

theorem take_one {cs : List Value} {i : Nat} (h : i < cs.length) : (cs.drop i).take 1 = [cs[i]] := by
  rw [List.drop_eq_getElem_cons h]; rfl

end
end Go.Ga

/- A slice of slices of bytes that a law is given. -/
namespace Go.Ga
open Go

/-- Slices of bytes in a row. -/
def RowB (nx : Nat) (gt : Nat → Option Blk) (A : Option Addr) (n : Nat) (ls : List (List UInt8)) : Prop := ls.length = n ∧ (∀ a, A = some a → a.spot = none ∨ a.spot = some 1) ∧ (0 < n → ∃ a ce ro, A = some a ∧ a.block < nx ∧ gt a.block = some (.cells ce ro) ∧ a.off + n ≤ ce.length ∧
  ∀ i, i < n → ∃ B m d, ce.getD (a.off + i) undef = .slice B m d ∧ m ≤ d ∧ Row nx gt 1 B m ((ls.getD i []).map u8V))
theorem RowB.keep {nx gt A n ls nx' gt'} (h : RowB nx gt A n ls) (h1 : nx ≤ nx') (h2 : ∀ p, p < nx → gt' p = gt p) : RowB nx' gt' A n ls := by
  refine ⟨h.1, h.2.1, fun h0 => ?_⟩
  obtain ⟨a, ce, ro, e1, e2, e3, e4, e5⟩ := h.2.2 h0
  refine ⟨a, ce, ro, e1, by omega, by rw [h2 _ e2, e3], e4, fun i hi => ?_⟩
  obtain ⟨B, m, d, f1, f2, f3⟩ := e5 i hi
  exact ⟨B, m, d, f1, f2, f3.keep h1 h2⟩

section
variable {H : Type} {enc : TypeId × Value → H} {P : Program} {w : World} {held : Bool} {t : TypeId}

end
end Go.Ga

/- A key and a hash that a law is given. -/
namespace Go.Ga
open Go

section
variable {H : Type} {enc : TypeId × Value → H} {P : Program} {w : World} {held : Bool} {t : TypeId}

end
end Go.Ga
