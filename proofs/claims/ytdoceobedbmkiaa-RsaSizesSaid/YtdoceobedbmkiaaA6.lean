/- Words and contracts of functions for the statement's proof. No condition. -/
import Derived.Test.YtdoceobedbmkiaaA5
set_option linter.all false

namespace Go.Ga
open Go Go.Proofs
set_option linter.unusedSimpArgs false
set_option linter.unusedVariables false
set_option maxRecDepth 100000
attribute [local irreducible] appendK

section
variable {nx : Nat} {gt : Nat → Option Blk}

theorem ct_Add32s {nx : Nat} {gt : Nat → Option Blk} {x y c : Nat} (hx : x < 4294967296) (hy : y < 4294967296) (hc : c < 2) :
    Ct Try.prog 98 [.int .u32 (x : Nat), .int .u32 (y : Nat), .int .u32 (c : Nat)] nx gt fun v nx' gt' => v = .tuple #[.int .u32 ((x + y + c) % 4294967296 : Nat), .int .u32 ((x + y + c) / 4294967296 : Nat)] ∧ nx' = nx ∧ gt' = gt := by
  refine Ct.of hmx r_math_bits_Add32 (by simp [c_math_bits_Add32]) fun b hb => ?_
  have e1 : (x : Int) + (y : Int) = ((x + y : Nat) : Int) := by omega
  have e2 : ((x + y : Nat) : Int) + (c : Int) = ((x + y + c : Nat) : Int) := by omega
  have e3 : shrV .u64 ((x + y + c : Nat) : Int) 32 = (((x + y + c) / 4294967296 : Nat) : Int) := shr_nat _ 32 (by decide)
  have e4 : (x + y + c) / 4294967296 % 4294967296 = (x + y + c) / 4294967296 := by omega
  simp only [c_math_bits_Add32, ↓gaW, ↓gaV, ↓gaC, ↓gaN, gaP, Nat.reduceEqDiff, Nat.reduceLeDiff, Nat.reduceAdd, Nat.reduceSub, Nat.reduceMul, Int.reduceLT, Int.reduceLE, Int.reduceEq, Int.reduceToNat, Int.reduceAdd, Int.reduceSub, Int.reduceMul, reduceCtorEq, ↓reduceIte, gaE, implies_true, Nat.le_refl, Int.sub_zero, Nat.sub_zero, Int.le_refl, true_or, or_true, u64_i (x : Int) (by omega), u64_i (y : Int) (by omega), u64_i (c : Int) (by omega), e1, u64_i ((x + y : Nat) : Int) (by omega), e2, u64_i ((x + y + c : Nat) : Int) (by omega), e3, u32_m, e4]

theorem ct_more {q k n L C d : Nat} {B : Option Addr} {lo win hi mm : List UInt32} (hq : q < nx) (hg0 : gt q = some (.cells ((lo ++ (win ++ hi)).map u32V) false)) (hk : lo.length = k) (hwin : win.length = n + 1) (hL : n + 1 ≤ L) (hLs : L < 1000000000)
    (hs : Row nx gt 1 B n (mm.map u32V)) (hne : ∀ a, B = some a → a.block ≠ q) :
    Cw Try.prog 90 [.slice (some ⟨q, k, none⟩) L C, .slice B n d] q nx gt fun v nx' gt' => ∃ win' e, win'.length = n + 1 ∧ gt' q = some (.cells ((lo ++ (win' ++ hi)).map u32V) false) ∧
      lv win' + 4294967296 ^ (n + 1) * e = lv win + lv mm := by
  have hmm : mm.length = n := by simpa using hs.len
  refine Cw.of hmx r_modulo_more (by simp [c_modulo_more]) fun b hb hbq => ?_
  simp only [c_modulo_more, ↓gaW, ↓gaV, ↓gaC, ↓gaN, gaP, Nat.reduceEqDiff, Nat.reduceLeDiff, Nat.reduceAdd, Nat.reduceSub, Nat.reduceMul, Int.reduceLT, Int.reduceLE, Int.reduceEq, Int.reduceToNat, Int.reduceAdd, Int.reduceSub, Int.reduceMul, reduceCtorEq, ↓reduceIte]
  refine loop_of (fun j f m => ∃ (i cy x : Nat) (g : Nat → Option Blk) (u : List UInt32), j = n - i ∧ i ≤ n ∧ cy < 2 ∧ f 0 = .slice (some ⟨q, k, none⟩) L C ∧ f 1 = .slice B n d ∧ f 4 = .int .u32 (cy : Nat) ∧ f 7 = .int .i64 (n : Nat) ∧ f 8 = .int .i64 (i : Nat) ∧ m = ⟨x, b, g⟩ ∧ nx ≤ x ∧
      (∀ p, p < nx → p ≠ q → g p = gt p) ∧ g q = some (.cells ((lo ++ (u ++ hi)).map u32V) false) ∧ u.length = n + 1 ∧ (∀ j, i ≤ j → u.getD j 0 = win.getD j 0) ∧ lv (u.take i) + 4294967296 ^ i * cy = lv (win.take i) + lv (mm.take i)) n
    ⟨0, 0, nx, gt, win, by omega, by omega, by omega, rfl, rfl, rfl, rfl, rfl, rfl, by omega, fun _ _ _ => rfl, hg0, hwin, fun _ _ => rfl, by simp [lv]⟩ ?_
  rintro j f m ⟨i, cy, x, g, u, rfl, hi', hcy, h0, h1, h4, h7, h8, rfl, hx, hg, hgq, hu, hz, he⟩
  have hw32 := lt32 (u.getD i 0)
  have hlw : ((lo ++ (u ++ hi)).map u32V).getD (k + i) undef = .int .u32 ((u.getD i 0).toNat : Nat) := by
    rw [getD_u32 (by simp; omega), getD_mid hk (by omega)]
  have hzi := hz i (Nat.le_refl i)
  have hbound : k + i < (lo ++ (u ++ hi)).length := by simp; omega
  by_cases hlt : (i : Int) < (n : Int)
  · obtain ⟨a, ce, ro, rfl, a1, a2, a3, a4⟩ := w32_cell hs hmm (i := i) (by omega)
    have a2' : g a.block = some (.cells ce ro) := by rw [hg _ a1 (hne a rfl), a2]
    have ly := lt32 (mm.getD i 0)
    obtain ⟨W, hW⟩ : ∃ W, (u.getD i 0).toNat = W := ⟨_, rfl⟩
    obtain ⟨Y, hY⟩ : ∃ Y, (mm.getD i 0).toNat = Y := ⟨_, rfl⟩
    rw [hW] at hw32 hlw
    rw [hY] at a4 ly
    obtain ⟨D, hD⟩ : ∃ D, (W + Y + cy) % 4294967296 = D := ⟨_, rfl⟩
    obtain ⟨S, hS⟩ : ∃ S, (W + Y + cy) / 4294967296 = S := ⟨_, rfl⟩
    have hD2 : D < 4294967296 := by omega
    have hS2 : S < 2 := by omega
    have hadd := ct_Add32s (nx := x) (gt := g) hw32 ly hcy
    rw [hD, hS] at hadd
    have q1 : (i : Int) + 1 = ((i + 1 : Nat) : Int) := by omega
    have sp : splice ((lo ++ (u ++ hi)).map u32V) (k + i) [.int .u32 (D : Nat)] = (lo ++ (u.set i (UInt32.ofNat D) ++ hi)).map u32V := by
      rw [u32V_lt hD2, splice_set hbound, set_mid hk (by omega)]
    simp only [↓gaW, ↓gaV, ↓gaC, ↓gaN, gaP, Nat.reduceEqDiff, Nat.reduceLeDiff, Nat.reduceAdd, Nat.reduceSub, Nat.reduceMul, Int.reduceLT, Int.reduceLE, Int.reduceEq, Int.reduceToNat, Int.reduceAdd, Int.reduceSub, Int.reduceMul, reduceCtorEq, ↓reduceIte, h0, h1, h4, h7, h8, hlt, decide_true]
    refine vc_tree_same ?_
    refine ⟨fun t => if t = 0 then .slice (some ⟨q, k, none⟩) L C else if t = 1 then .slice (some a) n d else if t = 4 then .int .u32 (S : Nat) else if t = 7 then .int .i64 (n : Nat) else if t = 8 then .int .i64 (i : Nat) else botV, ⟨x, b, upd g q (some (.cells ((lo ++ (u.set i (UInt32.ofNat D) ++ hi)).map u32V) false))⟩, ?_, ?_, ?_⟩
    rotate_left 2
    · simp only [tree_s, allP_cons, allP_nil, List.getElem?_cons_zero, List.getElem?_cons_succ, Nat.reducePow, Nat.reduceOr, Option.map, t_modulo_more, ↓gaW, ↓gaV, ↓gaC, ↓gaN, gaP, Nat.reduceEqDiff, Nat.reduceLeDiff, Nat.reduceAdd, Nat.reduceSub, Nat.reduceMul, Int.reduceLT, Int.reduceLE, Int.reduceEq, Int.reduceToNat, Int.reduceAdd, Int.reduceSub, Int.reduceMul, reduceCtorEq, ↓reduceIte, h0, h1, h4, h7, h8, a2', a4, hgq, hlw, Nat.mul_one]
      repeat' refine And.intro ?_ ?_
      all_goals first
        | omega
        | (simp; omega)
        | (refine callK_of hadd (fun v n1 g1 l1 k1 hC => ?_) (by omega)
           obtain ⟨rfl, rfl, rfl⟩ := hC
           simp only [tree_s, allP_cons, allP_nil, List.getElem?_cons_zero, List.getElem?_cons_succ, Nat.reducePow, Nat.reduceOr, Option.map, t_modulo_more, ↓gaW, ↓gaV, ↓gaC, ↓gaN, gaP, Nat.reduceEqDiff, Nat.reduceLeDiff, Nat.reduceAdd, Nat.reduceSub, Nat.reduceMul, Int.reduceLT, Int.reduceLE, Int.reduceEq, Int.reduceToNat, Int.reduceAdd, Int.reduceSub, Int.reduceMul, reduceCtorEq, ↓reduceIte, hgq, sp, Nat.mul_one]
           repeat' refine And.intro ?_ ?_
           all_goals first
             | omega
             | (simp; omega)
             | rfl
             | exact all1 rfl
             | (intro t
                rcases (show t = 0 ∨ t = 1 ∨ t = 4 ∨ t = 7 ∨ t = 8 ∨ (t ≠ 0 ∧ t ≠ 1 ∧ t ≠ 4 ∧ t ≠ 7 ∧ t ≠ 8) by omega) with rfl | rfl | rfl | rfl | rfl | ⟨a1, a2, a3, a4, a5⟩
                · exact .inl (by simp [putR, h0])
                · exact .inl (by simp [putR, h1])
                · exact .inl (by simp [putR])
                · exact .inl (by simp [putR, h7])
                · exact .inl (by simp [putR, h8])
                · right; simp only [if_neg a1, if_neg a2, if_neg a3, if_neg a4, if_neg a5]))
    · simp only [↓gaW, ↓gaV, ↓gaC, ↓gaN, gaP, Nat.reduceEqDiff, Nat.reduceLeDiff, Nat.reduceAdd, Nat.reduceSub, Nat.reduceMul, Int.reduceLT, Int.reduceLE, Int.reduceEq, Int.reduceToNat, Int.reduceAdd, Int.reduceSub, Int.reduceMul, reduceCtorEq, ↓reduceIte, Nat.reduceEqDiff, q1, i64_w ((i + 1 : Nat) : Int) (by omega), loopK_n]
      refine ⟨n - (i + 1), by omega, i + 1, S, x, upd g q (some (.cells ((lo ++ (u.set i (UInt32.ofNat D) ++ hi)).map u32V) false)), u.set i (UInt32.ofNat D), rfl, by omega, hS2, rfl, rfl, rfl, by omega, fun p hp hpq => ?_, by simp only [upd_e, if_true], by simp [hu], fun j hj => ?_, ?_⟩
      · simp only [upd_e]
        rw [if_neg hpq, hg p hp hpq]
      · rw [set_getD_ne (by omega)]; exact hz j (by omega)
      · have h9 := more_step (w := W) (m := Y) he
        rw [hD, hS] at h9
        rw [lv_set_take (by omega), ofNat32, Nat.mod_eq_of_lt hD2, lv_take' mm, lv_take' win, ← hzi, hW, hY, Nat.pow_succ]
        exact h9
    · exact ⟨rfl, Nat.le_refl _, fun p hp => by
        have hp' : p < b := hp
        show upd _ _ _ p = g p
        simp only [upd_e]
        rw [if_neg (by omega)]⟩
  · have hin : i = n := by omega
    subst hin
    rw [List.take_of_length_le (show mm.length ≤ i by omega)] at he
    obtain ⟨W, hW⟩ : ∃ W, (u.getD i 0).toNat = W := ⟨_, rfl⟩
    rw [hW] at hw32 hlw
    obtain ⟨D, hD⟩ : ∃ D, (W + cy) % 4294967296 = D := ⟨_, rfl⟩
    have hD2 : D < 4294967296 := by omega
    have f6 : IntKind.u32.wrap ((W : Int) + (cy : Int)) = (D : Int) := by rw [← hD, show (W : Int) + (cy : Int) = ((W + cy : Nat) : Int) by omega, u32_m]
    have sp : splice ((lo ++ (u ++ hi)).map u32V) (k + i) [.int .u32 (D : Nat)] = (lo ++ (u.set i (UInt32.ofNat D) ++ hi)).map u32V := by
      rw [u32V_lt hD2, splice_set hbound, set_mid hk (by omega)]
    simp only [↓gaW, ↓gaV, ↓gaC, ↓gaN, gaP, Nat.reduceEqDiff, Nat.reduceLeDiff, Nat.reduceAdd, Nat.reduceSub, Nat.reduceMul, Int.reduceLT, Int.reduceLE, Int.reduceEq, Int.reduceToNat, Int.reduceAdd, Int.reduceSub, Int.reduceMul, reduceCtorEq, ↓reduceIte, gaE, implies_true, Nat.le_refl, Int.sub_zero, Nat.sub_zero, Int.le_refl, true_or, or_true, endW_r, endW_n, h0, h1, h4, h7, h8, hlt, decide_false, loopK_e, hgq, hlw, f6, sp, Nat.mul_one]
    repeat refine And.intro (by first | omega | (simp; omega) | exact all1 rfl) ?_
    refine ⟨fun p hp hpq => ?_, u.set i (UInt32.ofNat D), (W + cy) / 4294967296, by simp [hu], by first | rfl | simp only [upd_e, if_true], ?_⟩
    · rw [if_neg hpq, hg p hp hpq]
    · have e1 : lv (u.set i (UInt32.ofNat D)) = lv ((u.set i (UInt32.ofNat D)).take (i + 1)) := by rw [List.take_of_length_le (by simp; omega)]
      have e2 : lv win = lv (win.take (i + 1)) := by rw [List.take_of_length_le (by omega)]
      rw [e1, e2, lv_set_take (by omega), ofNat32, Nat.mod_eq_of_lt hD2, lv_take' win, ← hzi, hW, Nat.pow_succ, ← hD]
      have := more_step (w := W) (m := 0) he
      simpa using this
end
end Go.Ga

namespace Go.Ga
open Go Go.Proofs
set_option linter.unusedSimpArgs false
set_option linter.unusedVariables false
set_option maxRecDepth 100000
attribute [local irreducible] appendK

section
variable {nx : Nat} {gt : Nat → Option Blk}

def guessR : RC := match c_modulo_guess.code with | .seq _ (.scope _ _ r) => r | _ => .skip
def guessA : RC := match c_modulo_guess.code with | .seq a _ => a | _ => .skip
def guessB : RC := match c_modulo_guess.code with | .seq _ (.scope x _ _) => x | _ => .skip
theorem guess_code : c_modulo_guess.code = .seq guessA (.scope guessB 0 guessR) := rfl
def guessI (nx b : Nat) (gt : Nat → Option Blk) (h0 h1 h2 b0 b1 : Nat) (q : Nat) (f : Regs) (m : Mem) : Prop := ∃ (lf x : Nat) (g : Nat → Option Blk), f 2 = .pointer (some ⟨nx, 0, none⟩) ∧ f 3 = .pointer (some ⟨nx + 1, 0, none⟩) ∧ f 5 = .int .u32 (q : Nat) ∧ f 6 = .int .u64 (lf : Nat) ∧ m = ⟨x, b, g⟩ ∧ nx + 2 ≤ x ∧
  (∀ p, p < nx → g p = gt p) ∧ g nx = some (.cells [.int .u32 (h0 : Nat), .int .u32 (h1 : Nat), .int .u32 (h2 : Nat)] false) ∧ g (nx + 1) = some (.cells [.int .u32 (b0 : Nat), .int .u32 (b1 : Nat)] false) ∧
  q < 4294967296 ∧ lf < 8589934592 ∧ q * b0 + lf = h0 * 4294967296 + h1 ∧ ∀ t, t < 4294967296 → t * (b0 * 4294967296 + b1) ≤ (h0 * 4294967296 + h1) * 4294967296 + h2 → t ≤ q
def GuessC (h0 h1 h2 b0 b1 : Nat) (v : Value) (_ : Nat) (_ : Nat → Option Blk) : Prop := ∃ q, v = .int .u32 (q : Nat) ∧ q < 4294967296 ∧ q * (b0 * 4294967296 + b1) ≤ (h0 * 4294967296 + h1) * 4294967296 + h2 ∧ ∀ t, t < 4294967296 → t * (b0 * 4294967296 + b1) ≤ (h0 * 4294967296 + h1) * 4294967296 + h2 → t ≤ q

theorem guess_rounds {b h0 h1 h2 b0 b1 : Nat} (hb : b ≤ nx) (hh0 : h0 < 4294967296) (hh1 : h1 < 4294967296) (hh2 : h2 < 4294967296) (hb0 : b0 < 4294967296) (hb1 : b1 < 4294967296) {q : Nat} {f : Regs} {m : Mem} (hI : guessI nx b gt h0 h1 h2 b0 b1 q f m) :
    ∃ n, GRounds (fun f m Q => RC.vc Try.prog guessR f m Q) 0 (D Try.prog (.top (endK c_modulo_guess.results b nx gt (GuessC h0 h1 h2 b0 b1)))) n f m := by
  refine grounds_of (guessI nx b gt h0 h1 h2 b0 b1) q hI ?_
  rintro q f m ⟨lf, x, g, r2, r3, r5, r6, rfl, hx, hg, ghb, gbb, hq, hlf, he, hub⟩
  have hgo : ∀ f' m', 0 < q → guessI nx b gt h0 h1 h2 b0 b1 (q - 1) f' m' → ∃ k', k' < q ∧ guessI nx b gt h0 h1 h2 b0 b1 k' f' m' := fun f' m' h0 h => ⟨q - 1, by omega, h⟩
  simp only [guessR, c_modulo_guess, GuessC]
  have hqb : q * b1 ≤ 4294967295 * 4294967295 := Nat.mul_le_mul (by omega) (by omega)
  obtain ⟨C, hC⟩ : ∃ C, q * b1 = C := ⟨_, rfl⟩
  rw [hC] at hqb
  have f1 : (q : Int) * (b1 : Int) = (C : Int) := by rw [← hC]; exact (Int.natCast_mul q b1).symm
  have f2 : shrV .u64 (lf : Int) 32 = ((lf / 4294967296 : Nat) : Int) := shr_nat (k := .u64) _ 32 (by decide)
  have f7 : (lf : Int) + (b0 : Int) = ((lf + b0 : Nat) : Int) := by omega
  have hM2 : q * (b0 * 4294967296 + b1) = q * b0 * 4294967296 + C := by rw [Nat.mul_add, Nat.mul_assoc, hC]
  by_cases t1 : ((lf / 4294967296 : Nat) : Int) = 0
  · have f3 := shl_u64_32 lf (by omega)
    have o1 : bitsV .or .u64 ((4294967296 * lf : Nat) : Int) (h2 : Int) = ((4294967296 * lf + h2 : Nat) : Int) := by
      rw [or_u64 (by omega) (by omega)]
      have := Nat.two_pow_add_eq_or_of_lt (i := 32) hh2 lf
      rw [show (2 : Nat) ^ 32 = 4294967296 from rfl] at this
      rw [this]
    by_cases t2 : ((4294967296 * lf + h2 : Nat) : Int) < (C : Int)
    · have hq0 : 0 < q := by
        rcases Nat.eq_zero_or_pos q with h | h
        · rw [h, Nat.zero_mul] at hC; omega
        · exact h
      have f8 : (q : Int) - 1 = ((q - 1 : Nat) : Int) := by omega
      have hm : (q - 1) * b0 + (lf + b0) = h0 * 4294967296 + h1 := by
        have : (q - 1) * b0 + b0 = q * b0 := by
          obtain ⟨z, hz⟩ : ∃ z, q = z + 1 := ⟨q - 1, by omega⟩
          rw [hz, Nat.add_sub_cancel, Nat.add_mul, Nat.one_mul]
        omega
      simp only [↓gaW, ↓gaV, ↓gaC, ↓gaN, gaP, Nat.reduceEqDiff, Nat.reduceLeDiff, Nat.reduceAdd, Nat.reduceSub, Nat.reduceMul, Int.reduceLT, Int.reduceLE, Int.reduceEq, Int.reduceToNat, Int.reduceAdd, Int.reduceSub, Int.reduceMul, reduceCtorEq, ↓reduceIte, List.getD_cons_zero, List.getD_cons_succ, fillL, splice, List.take_zero, List.drop_zero, List.drop_succ_cons, List.take_succ_cons, List.drop_nil, List.take_nil, r2, r3, r5, r6, ghb, gbb, t1, t2, f1, f2, f3, f7, f8, o1, decide_true, u64_i (q : Int) (by omega), u64_i (b1 : Int) (by omega), u64_i (C : Int) (by omega), u64_i (h2 : Int) (by omega), u64_i (b0 : Int) (by omega), u64_i ((lf + b0 : Nat) : Int) (by omega), u32_i ((q - 1 : Nat) : Int) (by omega)]
      repeat refine And.intro (by omega) ?_
      refine hgo _ _ hq0 ⟨lf + b0, x, g, by first | rfl | exact r2, by first | rfl | exact r3, rfl, rfl, rfl, hx, hg, ghb, gbb, by omega, by omega, hm, fun t ht hte => ?_⟩
      have h9 := hub t ht hte
      rcases Nat.lt_or_ge t q with h | h
      · omega
      · have : t = q := by omega
        subst this
        rw [hM2] at hte
        omega
    · simp only [↓gaW, ↓gaV, ↓gaC, ↓gaN, gaP, Nat.reduceEqDiff, Nat.reduceLeDiff, Nat.reduceAdd, Nat.reduceSub, Nat.reduceMul, Int.reduceLT, Int.reduceLE, Int.reduceEq, Int.reduceToNat, Int.reduceAdd, Int.reduceSub, Int.reduceMul, reduceCtorEq, ↓reduceIte, gaE, implies_true, Nat.le_refl, Int.sub_zero, Nat.sub_zero, Int.le_refl, true_or, or_true, List.getD_cons_zero, List.getD_cons_succ, fillL, splice, List.take_zero, List.drop_zero, List.drop_succ_cons, List.take_succ_cons, List.drop_nil, List.take_nil, r2, r3, r5, r6, ghb, gbb, t1, t2, f1, f2, f3, o1, decide_true, decide_false, u64_i (q : Int) (by omega), u64_i (b1 : Int) (by omega), u64_i (C : Int) (by omega), u64_i (h2 : Int) (by omega)]
      repeat refine And.intro (by omega) ?_
      first | exact ⟨hg, q, rfl, hq, by rw [hM2]; omega, hub⟩ | exact ⟨q, rfl, hq, by rw [hM2]; omega, hub⟩
  · simp only [↓gaW, ↓gaV, ↓gaC, ↓gaN, gaP, Nat.reduceEqDiff, Nat.reduceLeDiff, Nat.reduceAdd, Nat.reduceSub, Nat.reduceMul, Int.reduceLT, Int.reduceLE, Int.reduceEq, Int.reduceToNat, Int.reduceAdd, Int.reduceSub, Int.reduceMul, reduceCtorEq, ↓reduceIte, gaE, implies_true, Nat.le_refl, Int.sub_zero, Nat.sub_zero, Int.le_refl, true_or, or_true, List.getD_cons_zero, List.getD_cons_succ, fillL, splice, List.take_zero, List.drop_zero, List.drop_succ_cons, List.take_succ_cons, List.drop_nil, List.take_nil, r2, r3, r5, r6, ghb, gbb, t1, f2, decide_true, decide_false]
    repeat refine And.intro (by omega) ?_
    first | exact ⟨hg, q, rfl, hq, by rw [hM2]; omega, hub⟩ | exact ⟨q, rfl, hq, by rw [hM2]; omega, hub⟩

theorem ct_guess {h0 h1 h2 b0 b1 : Nat} (hh1 : h1 < 4294967296) (hh2 : h2 < 4294967296) (hb0 : b0 < 4294967296) (hb1 : b1 < 4294967296) (hle : h0 ≤ b0) (hpos : 0 < b0) :
    Ct Try.prog 88 [.agg #[.int .u32 (h0 : Nat), .int .u32 (h1 : Nat), .int .u32 (h2 : Nat)], .agg #[.int .u32 (b0 : Nat), .int .u32 (b1 : Nat)]] nx gt (GuessC h0 h1 h2 b0 b1) := by
  refine Ct.of hmx r_modulo_guess (by simp [c_modulo_guess]) fun b hb => ?_
  have hh0 : h0 < 4294967296 := by omega
  have e1 : (h1 : Int) + (b0 : Int) = ((h1 + b0 : Nat) : Int) := by omega
  have hgo : ∀ q f' m', 0 < q → guessI nx b gt h0 h1 h2 b0 b1 (q - 1) f' m' → ∃ n, GRounds (fun f m Q => RC.vc Try.prog guessR f m Q) 0 (D Try.prog (.top (endK c_modulo_guess.results b nx gt (GuessC h0 h1 h2 b0 b1)))) n f' m' := fun q f' m' _ h => guess_rounds hb hh0 hh1 hh2 hb0 hb1 h
  have nne : ¬ nx = nx + 1 := by omega
  rw [guess_code]
  simp only [guessA, c_modulo_guess, ↓gaW, ↓gaV, ↓gaC, ↓gaN, gaP, Nat.reduceEqDiff, Nat.reduceLeDiff, Nat.reduceAdd, Nat.reduceSub, Nat.reduceMul, Int.reduceLT, Int.reduceLE, Int.reduceEq, Int.reduceToNat, Int.reduceAdd, Int.reduceSub, Int.reduceMul, reduceCtorEq, ↓reduceIte]
  by_cases c1 : (h0 : Int) < (b0 : Int)
  · simp only [guessB, c_modulo_guess, ↓gaW, ↓gaV, ↓gaC, ↓gaN, gaP, Nat.reduceEqDiff, Nat.reduceLeDiff, Nat.reduceAdd, Nat.reduceSub, Nat.reduceMul, Int.reduceLT, Int.reduceLE, Int.reduceEq, Int.reduceToNat, Int.reduceAdd, Int.reduceSub, Int.reduceMul, reduceCtorEq, ↓reduceIte, List.getD_cons_zero, List.getD_cons_succ, fillL, splice, List.take_zero, List.drop_zero, List.drop_succ_cons, List.take_succ_cons, List.drop_nil, List.take_nil, nne, e1, u64_i (h1 : Int) (by omega), u64_i (b0 : Int) (by omega), u64_i ((h1 + b0 : Nat) : Int) (by omega), c1, decide_true]
    repeat refine And.intro (by omega) ?_
    refine callK_of (ct_Div32 (by omega) hb0 hh1) (fun v x g hx' hg' hC => ?_) (by omega)
    have hdm := Nat.div_add_mod (h0 * 4294967296 + h1) b0
    have hrm : (h0 * 4294967296 + h1) % b0 < b0 := Nat.mod_lt _ hpos
    have hqlt : (h0 * 4294967296 + h1) / b0 < 4294967296 := by
      rw [Nat.div_lt_iff_lt_mul hpos]
      have : (h0 + 1) * 4294967296 ≤ b0 * 4294967296 := Nat.mul_le_mul_right _ (by omega)
      omega
    have hub : ∀ t, t < 4294967296 → t * (b0 * 4294967296 + b1) ≤ (h0 * 4294967296 + h1) * 4294967296 + h2 → t ≤ (h0 * 4294967296 + h1) / b0 := fun t ht hte => by
      rw [Nat.le_div_iff_mul_le hpos]
      rw [Nat.mul_add, ← Nat.mul_assoc] at hte
      omega
    obtain ⟨q, hqd⟩ : ∃ q, (h0 * 4294967296 + h1) / b0 = q := ⟨_, rfl⟩
    obtain ⟨lf, hlfd⟩ : ∃ q, (h0 * 4294967296 + h1) % b0 = q := ⟨_, rfl⟩
    rw [hqd, hlfd] at hC
    rw [hqd] at hqlt hub
    rw [hlfd] at hrm
    rw [hqd, hlfd] at hdm
    subst hC
    have hq := hqlt
    have hlf : lf < 8589934592 := by omega
    have he : q * b0 + lf = h0 * 4294967296 + h1 := by rw [Nat.mul_comm]; exact hdm
    have hx : nx + 2 ≤ x := by omega
    have hg : ∀ p, p < nx → g p = gt p := fun p hp => by rw [hg' p (by omega)]; simp only [upd_e]; rw [if_neg (by omega), if_neg (by omega)]
    have ghb : g nx = some (.cells [.int .u32 (h0 : Nat), .int .u32 (h1 : Nat), .int .u32 (h2 : Nat)] false) := by rw [hg' nx (by omega)]; simp [upd]
    have gbb : g (nx + 1) = some (.cells [.int .u32 (b0 : Nat), .int .u32 (b1 : Nat)] false) := by rw [hg' (nx + 1) (by omega)]; simp only [upd_e, if_true]
    have hgo := hgo q
    have r2 : True := trivial
    have r3 : True := trivial
    have r5 : IntKind.u64.wrap (lf : Int) = (lf : Int) := u64_i _ (by omega)
    have r6 : True := trivial
    have hqb : q * b1 ≤ 4294967295 * 4294967295 := Nat.mul_le_mul (by omega) (by omega)
    obtain ⟨C, hC⟩ : ∃ C, q * b1 = C := ⟨_, rfl⟩
    rw [hC] at hqb
    have f1 : (q : Int) * (b1 : Int) = (C : Int) := by rw [← hC]; exact (Int.natCast_mul q b1).symm
    have f2 : shrV .u64 (lf : Int) 32 = ((lf / 4294967296 : Nat) : Int) := shr_nat (k := .u64) _ 32 (by decide)
    have f7 : (lf : Int) + (b0 : Int) = ((lf + b0 : Nat) : Int) := by omega
    have hM2 : q * (b0 * 4294967296 + b1) = q * b0 * 4294967296 + C := by rw [Nat.mul_add, Nat.mul_assoc, hC]
    by_cases t1 : ((lf / 4294967296 : Nat) : Int) = 0
    · have f3 := shl_u64_32 lf (by omega)
      have o1 : bitsV .or .u64 ((4294967296 * lf : Nat) : Int) (h2 : Int) = ((4294967296 * lf + h2 : Nat) : Int) := by
        rw [or_u64 (by omega) (by omega)]
        have := Nat.two_pow_add_eq_or_of_lt (i := 32) hh2 lf
        rw [show (2 : Nat) ^ 32 = 4294967296 from rfl] at this
        rw [this]
      by_cases t2 : ((4294967296 * lf + h2 : Nat) : Int) < (C : Int)
      · have hq0 : 0 < q := by
          rcases Nat.eq_zero_or_pos q with h | h
          · rw [h, Nat.zero_mul] at hC; omega
          · exact h
        have f8 : (q : Int) - 1 = ((q - 1 : Nat) : Int) := by omega
        have hm : (q - 1) * b0 + (lf + b0) = h0 * 4294967296 + h1 := by
          have : (q - 1) * b0 + b0 = q * b0 := by
            obtain ⟨z, hz⟩ : ∃ z, q = z + 1 := ⟨q - 1, by omega⟩
            rw [hz, Nat.add_sub_cancel, Nat.add_mul, Nat.one_mul]
          omega
        simp only [↓gaW, ↓gaV, ↓gaC, ↓gaN, gaP, Nat.reduceEqDiff, Nat.reduceLeDiff, Nat.reduceAdd, Nat.reduceSub, Nat.reduceMul, Int.reduceLT, Int.reduceLE, Int.reduceEq, Int.reduceToNat, Int.reduceAdd, Int.reduceSub, Int.reduceMul, reduceCtorEq, ↓reduceIte, List.getD_cons_zero, List.getD_cons_succ, fillL, splice, List.take_zero, List.drop_zero, List.drop_succ_cons, List.take_succ_cons, List.drop_nil, List.take_nil, r2, r3, r5, r6, ghb, gbb, t1, t2, f1, f2, f3, f7, f8, o1, decide_true, u64_i (q : Int) (by omega), u64_i (b1 : Int) (by omega), u64_i (C : Int) (by omega), u64_i (h2 : Int) (by omega), u64_i (b0 : Int) (by omega), u64_i ((lf + b0 : Nat) : Int) (by omega), u32_i ((q - 1 : Nat) : Int) (by omega)]
        repeat refine And.intro (by omega) ?_
        refine hgo _ _ hq0 ⟨lf + b0, x, g, by first | rfl | exact r2, by first | rfl | exact r3, rfl, rfl, rfl, hx, hg, ghb, gbb, by omega, by omega, hm, fun t ht hte => ?_⟩
        have h9 := hub t ht hte
        rcases Nat.lt_or_ge t q with h | h
        · omega
        · have : t = q := by omega
          subst this
          rw [hM2] at hte
          omega
      · simp only [↓gaW, ↓gaV, ↓gaC, ↓gaN, gaP, Nat.reduceEqDiff, Nat.reduceLeDiff, Nat.reduceAdd, Nat.reduceSub, Nat.reduceMul, Int.reduceLT, Int.reduceLE, Int.reduceEq, Int.reduceToNat, Int.reduceAdd, Int.reduceSub, Int.reduceMul, reduceCtorEq, ↓reduceIte, gaE, implies_true, Nat.le_refl, Int.sub_zero, Nat.sub_zero, Int.le_refl, true_or, or_true, List.getD_cons_zero, List.getD_cons_succ, fillL, splice, List.take_zero, List.drop_zero, List.drop_succ_cons, List.take_succ_cons, List.drop_nil, List.take_nil, r2, r3, r5, r6, ghb, gbb, t1, t2, f1, f2, f3, o1, decide_true, decide_false, u64_i (q : Int) (by omega), u64_i (b1 : Int) (by omega), u64_i (C : Int) (by omega), u64_i (h2 : Int) (by omega)]
        repeat refine And.intro (by omega) ?_
        first | exact ⟨hg, q, rfl, hq, by rw [hM2]; omega, hub⟩ | exact ⟨q, rfl, hq, by rw [hM2]; omega, hub⟩
    · simp only [↓gaW, ↓gaV, ↓gaC, ↓gaN, gaP, Nat.reduceEqDiff, Nat.reduceLeDiff, Nat.reduceAdd, Nat.reduceSub, Nat.reduceMul, Int.reduceLT, Int.reduceLE, Int.reduceEq, Int.reduceToNat, Int.reduceAdd, Int.reduceSub, Int.reduceMul, reduceCtorEq, ↓reduceIte, gaE, implies_true, Nat.le_refl, Int.sub_zero, Nat.sub_zero, Int.le_refl, true_or, or_true, List.getD_cons_zero, List.getD_cons_succ, fillL, splice, List.take_zero, List.drop_zero, List.drop_succ_cons, List.take_succ_cons, List.drop_nil, List.take_nil, r2, r3, r5, r6, ghb, gbb, t1, f2, decide_true, decide_false]
      repeat refine And.intro (by omega) ?_
      first | exact ⟨hg, q, rfl, hq, by rw [hM2]; omega, hub⟩ | exact ⟨q, rfl, hq, by rw [hM2]; omega, hub⟩
  · have hh : h0 = b0 := by omega
    obtain ⟨lf, hlfd⟩ : ∃ z, h1 + b0 = z := ⟨_, rfl⟩
    obtain ⟨q, hqd⟩ : ∃ q, 4294967295 = q := ⟨_, rfl⟩
    rw [hlfd] at e1
    simp only [guessB, c_modulo_guess, ↓gaW, ↓gaV, ↓gaC, ↓gaN, gaP, Nat.reduceEqDiff, Nat.reduceLeDiff, Nat.reduceAdd, Nat.reduceSub, Nat.reduceMul, Int.reduceLT, Int.reduceLE, Int.reduceEq, Int.reduceToNat, Int.reduceAdd, Int.reduceSub, Int.reduceMul, reduceCtorEq, ↓reduceIte, List.getD_cons_zero, List.getD_cons_succ, fillL, splice, List.take_zero, List.drop_zero, List.drop_succ_cons, List.take_succ_cons, List.drop_nil, List.take_nil, nne, e1, u64_i (h1 : Int) (by omega), u64_i (b0 : Int) (by omega), u64_i (lf : Int) (by omega), c1, decide_false]
    repeat refine And.intro (by omega) ?_
    obtain ⟨x, hxd⟩ : ∃ x, nx + 1 + 1 = x := ⟨_, rfl⟩
    obtain ⟨g, hgd⟩ : ∃ g, upd (upd gt nx (some (.cells [.int .u32 (h0 : Nat), .int .u32 (h1 : Nat), .int .u32 (h2 : Nat)] false))) (nx + 1) (some (.cells [.int .u32 (b0 : Nat), .int .u32 (b1 : Nat)] false)) = g := ⟨_, rfl⟩
    rw [hxd, hgd]
    have hq : q < 4294967296 := by omega
    have hlf : lf < 8589934592 := by omega
    have he : q * b0 + lf = h0 * 4294967296 + h1 := by rw [← hqd, hh]; omega
    have hub : ∀ t, t < 4294967296 → t * (b0 * 4294967296 + b1) ≤ (h0 * 4294967296 + h1) * 4294967296 + h2 → t ≤ q := fun t ht _ => by omega
    have hx : nx + 2 ≤ x := by omega
    have hg : ∀ p, p < nx → g p = gt p := fun p hp => by rw [← hgd]; simp only [upd_e]; rw [if_neg (by omega), if_neg (by omega)]
    have ghb : g nx = some (.cells [.int .u32 (h0 : Nat), .int .u32 (h1 : Nat), .int .u32 (h2 : Nat)] false) := by rw [← hgd]; simp [upd]
    have gbb : g (nx + 1) = some (.cells [.int .u32 (b0 : Nat), .int .u32 (b1 : Nat)] false) := by rw [← hgd]; simp [upd]
    have hgo := hgo q
    have r2 : (4294967295 : Int) = (q : Int) := by omega
    have r3 : True := trivial
    have r5 : True := trivial
    have r6 : True := trivial
    have hqb : q * b1 ≤ 4294967295 * 4294967295 := Nat.mul_le_mul (by omega) (by omega)
    obtain ⟨C, hC⟩ : ∃ C, q * b1 = C := ⟨_, rfl⟩
    rw [hC] at hqb
    have f1 : (q : Int) * (b1 : Int) = (C : Int) := by rw [← hC]; exact (Int.natCast_mul q b1).symm
    have f2 : shrV .u64 (lf : Int) 32 = ((lf / 4294967296 : Nat) : Int) := shr_nat (k := .u64) _ 32 (by decide)
    have f7 : (lf : Int) + (b0 : Int) = ((lf + b0 : Nat) : Int) := by omega
    have hM2 : q * (b0 * 4294967296 + b1) = q * b0 * 4294967296 + C := by rw [Nat.mul_add, Nat.mul_assoc, hC]
    by_cases t1 : ((lf / 4294967296 : Nat) : Int) = 0
    · have f3 := shl_u64_32 lf (by omega)
      have o1 : bitsV .or .u64 ((4294967296 * lf : Nat) : Int) (h2 : Int) = ((4294967296 * lf + h2 : Nat) : Int) := by
        rw [or_u64 (by omega) (by omega)]
        have := Nat.two_pow_add_eq_or_of_lt (i := 32) hh2 lf
        rw [show (2 : Nat) ^ 32 = 4294967296 from rfl] at this
        rw [this]
      by_cases t2 : ((4294967296 * lf + h2 : Nat) : Int) < (C : Int)
      · have hq0 : 0 < q := by
          rcases Nat.eq_zero_or_pos q with h | h
          · rw [h, Nat.zero_mul] at hC; omega
          · exact h
        have f8 : (q : Int) - 1 = ((q - 1 : Nat) : Int) := by omega
        have hm : (q - 1) * b0 + (lf + b0) = h0 * 4294967296 + h1 := by
          have : (q - 1) * b0 + b0 = q * b0 := by
            obtain ⟨z, hz⟩ : ∃ z, q = z + 1 := ⟨q - 1, by omega⟩
            rw [hz, Nat.add_sub_cancel, Nat.add_mul, Nat.one_mul]
          omega
        simp only [↓gaW, ↓gaV, ↓gaC, ↓gaN, gaP, Nat.reduceEqDiff, Nat.reduceLeDiff, Nat.reduceAdd, Nat.reduceSub, Nat.reduceMul, Int.reduceLT, Int.reduceLE, Int.reduceEq, Int.reduceToNat, Int.reduceAdd, Int.reduceSub, Int.reduceMul, reduceCtorEq, ↓reduceIte, List.getD_cons_zero, List.getD_cons_succ, fillL, splice, List.take_zero, List.drop_zero, List.drop_succ_cons, List.take_succ_cons, List.drop_nil, List.take_nil, r2, r3, r5, r6, ghb, gbb, t1, t2, f1, f2, f3, f7, f8, o1, decide_true, u64_i (q : Int) (by omega), u64_i (b1 : Int) (by omega), u64_i (C : Int) (by omega), u64_i (h2 : Int) (by omega), u64_i (b0 : Int) (by omega), u64_i ((lf + b0 : Nat) : Int) (by omega), u32_i ((q - 1 : Nat) : Int) (by omega)]
        repeat refine And.intro (by omega) ?_
        refine hgo _ _ hq0 ⟨lf + b0, x, g, by first | rfl | exact r2, by first | rfl | exact r3, rfl, rfl, rfl, hx, hg, ghb, gbb, by omega, by omega, hm, fun t ht hte => ?_⟩
        have h9 := hub t ht hte
        rcases Nat.lt_or_ge t q with h | h
        · omega
        · have : t = q := by omega
          subst this
          rw [hM2] at hte
          omega
      · simp only [↓gaW, ↓gaV, ↓gaC, ↓gaN, gaP, Nat.reduceEqDiff, Nat.reduceLeDiff, Nat.reduceAdd, Nat.reduceSub, Nat.reduceMul, Int.reduceLT, Int.reduceLE, Int.reduceEq, Int.reduceToNat, Int.reduceAdd, Int.reduceSub, Int.reduceMul, reduceCtorEq, ↓reduceIte, gaE, implies_true, Nat.le_refl, Int.sub_zero, Nat.sub_zero, Int.le_refl, true_or, or_true, List.getD_cons_zero, List.getD_cons_succ, fillL, splice, List.take_zero, List.drop_zero, List.drop_succ_cons, List.take_succ_cons, List.drop_nil, List.take_nil, r2, r3, r5, r6, ghb, gbb, t1, t2, f1, f2, f3, o1, decide_true, decide_false, u64_i (q : Int) (by omega), u64_i (b1 : Int) (by omega), u64_i (C : Int) (by omega), u64_i (h2 : Int) (by omega)]
        repeat refine And.intro (by omega) ?_
        first | exact ⟨hg, q, rfl, hq, by rw [hM2]; omega, hub⟩ | exact ⟨q, rfl, hq, by rw [hM2]; omega, hub⟩
    · simp only [↓gaW, ↓gaV, ↓gaC, ↓gaN, gaP, Nat.reduceEqDiff, Nat.reduceLeDiff, Nat.reduceAdd, Nat.reduceSub, Nat.reduceMul, Int.reduceLT, Int.reduceLE, Int.reduceEq, Int.reduceToNat, Int.reduceAdd, Int.reduceSub, Int.reduceMul, reduceCtorEq, ↓reduceIte, gaE, implies_true, Nat.le_refl, Int.sub_zero, Nat.sub_zero, Int.le_refl, true_or, or_true, List.getD_cons_zero, List.getD_cons_succ, fillL, splice, List.take_zero, List.drop_zero, List.drop_succ_cons, List.take_succ_cons, List.drop_nil, List.take_nil, r2, r3, r5, r6, ghb, gbb, t1, f2, decide_true, decide_false]
      repeat refine And.intro (by omega) ?_
      first | exact ⟨hg, q, rfl, hq, by rw [hM2]; omega, hub⟩ | exact ⟨q, rfl, hq, by rw [hM2]; omega, hub⟩
end
end Go.Ga

namespace Go.Ga
open Go Go.Proofs
set_option linter.unusedSimpArgs false
set_option linter.unusedVariables false
set_option maxRecDepth 100000
attribute [local irreducible] appendK

section
variable {nx : Nat} {gt : Nat → Option Blk}

/-- Words in a new block. -/
def W32F (lo nx : Nat) (gt : Nat → Option Blk) (v : Value) (l : List UInt32) : Prop := ∃ A n c, v = .slice A n c ∧ n ≤ c ∧ l.length = n ∧ Row nx gt 1 A n (l.map u32V) ∧ (0 < n → ∀ a, A = some a → lo ≤ a.block)

theorem ct_CloneF {A : Option Addr} {n c : Nat} {l : List UInt32} (hr : Row nx gt 1 A n (l.map u32V)) (hc : n ≤ c) (hn : n < 1000000000) :
    Ct Try.prog 95 [.slice A n c] nx gt fun v nx' gt' => W32F nx nx' gt' v l := by
  have hlen : l.length = n := by simpa using hr.len
  rcases Nat.eq_zero_or_pos n with h0 | h0
  · exact fun b hb => (ct_Clone hr hc hn b hb).mono fun _ _ _ ⟨v, h1, h2, h3, h4, A', n', c', e1, e2, e3, e4⟩ => ⟨v, h1, h2, h3, h4, A', n', c', e1, e2, e3, e4, fun hh => by omega⟩
  refine Ct.of hmx r_slices_Clone___uint32_uint32_ (by simp [c_slices_Clone___uint32_uint32_]) fun b hb => ?_
  obtain ⟨a, _, _, rfl, _⟩ := hr.cells h0
  have e : isNilV .sl (.slice (some a) n c) = some false := rfl
  have hrow : rowOf ⟨nx + 1, b, upd gt nx (some (.cells [] false))⟩ (some a) n = some (l.map u32V) := (hr.keep (Nat.le_succ _) (fun k hk => by simp only [upd_e]; rw [if_neg (by omega)])).rowOf
  simp only [c_slices_Clone___uint32_uint32_, ↓gaW, ↓gaV, ↓gaC, ↓gaN, gaP, Nat.reduceEqDiff, Nat.reduceLeDiff, Nat.reduceAdd, Nat.reduceSub, Nat.reduceMul, Int.reduceLT, Int.reduceLE, Int.reduceEq, Int.reduceToNat, Int.reduceAdd, Int.reduceSub, Int.reduceMul, reduceCtorEq, ↓reduceIte, gaE, implies_true, Nat.le_refl, Int.sub_zero, Nat.sub_zero, Int.le_refl, true_or, or_true, List.getD_cons_zero, List.getD_cons_succ, fillL, splice, List.take_zero, List.drop_zero, List.drop_succ_cons, List.take_succ_cons, List.drop_nil, List.take_nil, e, hrow]
  refine grow_append (nx := nx) (l := []) (Grow.lit (q := nx) (l := []) (ro := false) (by omega) (by simp [upd]) rfl) (by omega) (by omega) (by omega) (by omega) (by simp [hlen]) (all_u32 l) (by omega) (by omega) fun g' h2 h3 => ?_
  simp only [↓gaW, ↓gaV, ↓gaC, ↓gaN, gaP, Nat.reduceEqDiff, Nat.reduceLeDiff, Nat.reduceAdd, Nat.reduceSub, Nat.reduceMul, Int.reduceLT, Int.reduceLE, Int.reduceEq, Int.reduceToNat, Int.reduceAdd, Int.reduceSub, Int.reduceMul, reduceCtorEq, ↓reduceIte, gaE, implies_true, Nat.le_refl, Int.sub_zero, Nat.sub_zero, Int.le_refl, true_or, or_true]
  refine ⟨by omega, fun i hi => by rw [h2 i hi]; simp only [upd_e]; rw [if_neg (by omega)], ?_⟩
  rw [List.nil_append, Nat.zero_add] at h3
  have h4 : W32 _ _ _ _ := Grow.w32 (.inl h3)
  obtain ⟨A', n', c', e1, e2, e3, e4⟩ := h4
  refine ⟨A', n', c', e1, e2, e3, e4, fun _ a ha => ?_⟩
  injection e1 with e1
  subst ha
  injection e1 with e1
  subst e1
  show nx ≤ nx + 1
  omega

theorem ct_BareF {A : Option Addr} {n c : Nat} {l : List UInt32} (hr : Row nx gt 1 A n (l.map u32V)) (hc : n ≤ c) (hn : n < 1000000000) :
    Ct Try.prog 84 [.slice A n c] nx gt fun v nx' gt' => W32F nx nx' gt' v (lb (lv l)) := by
  have hlen : l.length = n := by simpa using hr.len
  refine Ct.of hmx r_limb_Bare (by simp [c_limb_Bare]) fun b hb => ?_
  simp only [c_limb_Bare, ↓gaW, ↓gaV, ↓gaC, ↓gaN, gaP, Nat.reduceEqDiff, Nat.reduceLeDiff, Nat.reduceAdd, Nat.reduceSub, Nat.reduceMul, Int.reduceLT, Int.reduceLE, Int.reduceEq, Int.reduceToNat, Int.reduceAdd, Int.reduceSub, Int.reduceMul, reduceCtorEq, ↓reduceIte]
  refine callK_of (ct_bare hr hc hn) (fun v n1 g1 l1 k1 hC => ?_) (by omega)
  obtain ⟨A1, n', c1, rfl, hc1, hl1, hr1⟩ := hC
  have hn' : n' < 1000000000 := by
    have := lb_len_le.2 (lv_lt l)
    omega
  simp only [↓gaW, ↓gaV, ↓gaC, ↓gaN, gaP, Nat.reduceEqDiff, Nat.reduceLeDiff, Nat.reduceAdd, Nat.reduceSub, Nat.reduceMul, Int.reduceLT, Int.reduceLE, Int.reduceEq, Int.reduceToNat, Int.reduceAdd, Int.reduceSub, Int.reduceMul, reduceCtorEq, ↓reduceIte]
  refine callK_of (ct_CloneF hr1 hc1 hn') (fun v n2 g2 l2 k2 hC => ?_) (by omega)
  simp only [↓gaW, ↓gaV, ↓gaC, ↓gaN, gaP, Nat.reduceEqDiff, Nat.reduceLeDiff, Nat.reduceAdd, Nat.reduceSub, Nat.reduceMul, Int.reduceLT, Int.reduceLE, Int.reduceEq, Int.reduceToNat, Int.reduceAdd, Int.reduceSub, Int.reduceMul, reduceCtorEq, ↓reduceIte, gaE, implies_true, Nat.le_refl, Int.sub_zero, Nat.sub_zero, Int.le_refl, true_or, or_true]
  obtain ⟨A', n', c', e1, e2, e3, e4, e5⟩ := hC
  exact ⟨by omega, fun i hi => by rw [k2 i (by omega), k1 i hi], A', n', c', e1, e2, e3, e4, fun h a ha => Nat.le_trans l1 (e5 h a ha)⟩

end
end Go.Ga

/- A digit of a quotient. -/
namespace Go.Ga
open Go
set_option maxRecDepth 100000

theorem digit {P U M H3 M2 Ul Ml q : Nat} (hU : U = H3 * P + Ul) (hUl : Ul < P) (hM : M = M2 * P + Ml) (hMl : Ml < P) (hq : q < 4294967296) (hM2 : 4294967295 ≤ M2) (h1 : q * M2 ≤ H3)
    (h2 : ∀ t, t < 4294967296 → t * M2 ≤ H3 → t ≤ q) (hUM : U < M * 4294967296) : U / M ≤ q ∧ (q - 1) * M ≤ U := by
  have hP : 0 < P := by omega
  have hM0 : 0 < M := by
    have : 1 * P ≤ M2 * P := Nat.mul_le_mul_right _ (by omega)
    omega
  constructor
  · refine h2 _ ?_ ?_
    · rw [Nat.div_lt_iff_lt_mul hM0, Nat.mul_comm]; exact hUM
    · have h3 : U / M * M ≤ U := Nat.div_mul_le_self U M
      have h4 : U / M * M2 * P ≤ U := by
        refine Nat.le_trans ?_ h3
        rw [Nat.mul_assoc]
        exact Nat.mul_le_mul_left _ (by omega)
      have h5 : U / M * M2 * P < (H3 + 1) * P := by rw [Nat.add_mul, Nat.one_mul]; omega
      have := Nat.lt_of_mul_lt_mul_right h5
      omega
  · rcases Nat.eq_zero_or_pos q with h | h
    · subst h; simp
    · obtain ⟨z, rfl⟩ : ∃ z, q = z + 1 := ⟨q - 1, by omega⟩
      rw [Nat.add_sub_cancel]
      have h3 : z * (M2 + 1) ≤ H3 := by
        rw [Nat.add_mul, Nat.one_mul] at h1
        rw [Nat.mul_add, Nat.mul_one]
        omega
      have h4 : z * M ≤ z * ((M2 + 1) * P) := Nat.mul_le_mul_left _ (by rw [Nat.add_mul, Nat.one_mul]; omega)
      have h5 : z * (M2 + 1) * P ≤ H3 * P := Nat.mul_le_mul_right _ h3
      rw [Nat.mul_assoc] at h5
      omega

/-- What `less`, and `more` behind it, leave. -/
theorem less_end {X U M q w o : Nat} (hw : w < X) (ho : o < 2) (h : w + q * M = U + X * o) : (o = 0 → q * M ≤ U ∧ w = U - q * M) ∧ (o = 1 → U < q * M) := by
  have h2 : o = 0 ∨ o = 1 := by omega
  rcases h2 with rfl | rfl <;> constructor <;> intro h3 <;> first | omega | (simp at h3)
theorem more_end {X U M q w w2 e : Nat} (hq : 0 < q) (hw2 : w2 < X) (hM : M ≤ X) (h : w + q * M = U + X) (h2 : w2 + X * e = w + M) (h3 : (q - 1) * M ≤ U) (h4 : U < q * M) : w2 = U - (q - 1) * M := by
  obtain ⟨z, rfl⟩ : ∃ z, q = z + 1 := ⟨q - 1, by omega⟩
  rw [Nat.add_sub_cancel] at h3 ⊢
  rw [Nat.add_mul, Nat.one_mul] at h h4
  have h5 : w2 + X * e = X + (U - z * M) := by omega
  have : e = 1 := by
    rcases Nat.lt_or_ge e 1 with h | h
    · have : e = 0 := by omega
      subst this; omega
    · rcases Nat.lt_or_ge 1 e with h' | h'
      · have : X * 2 ≤ X * e := Nat.mul_le_mul_left _ h'
        omega
      · omega
  subst this
  omega

theorem top3 {u : List UInt32} {z c : Nat} (hu : z + (c + 2) < u.length) (h : lv (u.drop (z + 1)) < 4294967296 ^ (c + 2)) :
    lv (u.drop (z + c + 3)) = 0 ∧ lv (u.drop z) = (((u.getD (z + c + 2) 0).toNat * 4294967296 + (u.getD (z + c + 1) 0).toNat) * 4294967296 + (u.getD (z + c) 0).toNat) * 4294967296 ^ c + lv ((u.drop z).take c) := by
  have h0 : lv (u.drop (z + c + 3)) = 0 := by
    have sp := lv_split (u.drop (z + 1)) (c + 2) (by simp; omega)
    rw [List.drop_drop, show z + 1 + (c + 2) = z + c + 3 by omega] at sp
    rcases Nat.eq_zero_or_pos (lv (u.drop (z + c + 3))) with h1 | h1
    · exact h1
    · have := Nat.le_mul_of_pos_right (4294967296 ^ (c + 2)) h1
      omega
  refine ⟨h0, ?_⟩
  have sp := lv_split (u.drop z) c (by simp; omega)
  rw [List.drop_drop] at sp
  rw [sp, lv_drop_cons (l := u) (i := z + c) (by omega), lv_drop_cons (l := u) (i := z + c + 1) (by omega), lv_drop_cons (l := u) (i := z + c + 1 + 1) (by omega), show z + c + 1 + 1 + 1 = z + c + 3 by omega, h0, Nat.mul_zero, Nat.add_zero, show z + c + 1 + 1 = z + c + 2 by omega, Nat.add_comm, Nat.mul_comm (4294967296 ^ c)]
  congr 2
  omega
theorem top2 {l : List UInt32} {c : Nat} (hl : l.length = c + 2) : lv l = ((l.getD (c + 1) 0).toNat * 4294967296 + (l.getD c 0).toNat) * 4294967296 ^ c + lv (l.take c) := by
  have sp := lv_split l c (by omega)
  rw [sp, lv_drop_cons (l := l) (i := c) (by omega), lv_drop_cons (l := l) (i := c + 1) (by omega), List.drop_of_length_le (show l.length ≤ c + 1 + 1 by omega), show lv [] = 0 from rfl, Nat.mul_zero, Nat.add_zero, Nat.add_comm, Nat.mul_comm (4294967296 ^ c)]
  congr 2
  omega
theorem headsB {b P M H0 H1 H2 B0 B1 Ul Ml V x : Nat} (hM : M = (B0 * b + B1) * P + Ml) (hMl : Ml < P) (hB1 : B1 < b) (hV : x + b * V = ((H0 * b + H1) * b + H2) * P + Ul) (hx : x < b) (hVM : V < M) : H0 ≤ B0 := by
  have h1 : M < (B0 * b + B1 + 1) * P := by rw [Nat.add_mul, Nat.one_mul]; omega
  have a2 : B0 * b + B1 + 1 ≤ (B0 + 1) * b := by rw [Nat.add_mul, Nat.one_mul]; omega
  have h2 := Nat.lt_of_lt_of_le h1 (Nat.mul_le_mul_right P a2)
  have a3 : H0 * b * b ≤ (H0 * b + H1) * b + H2 := by rw [Nat.add_mul]; omega
  have h3 := Nat.mul_le_mul_right P a3
  have h4 : b * (V + 1) ≤ b * M := Nat.mul_le_mul_left b hVM
  rw [Nat.mul_add, Nat.mul_one] at h4
  have h5 : H0 * b * b * P < b * M := by omega
  have h6 : b * M ≤ b * ((B0 + 1) * b * P) := Nat.mul_le_mul_left b (Nat.le_of_lt h2)
  have h7 : H0 * (b * b * P) < (B0 + 1) * (b * b * P) := by
    have e1 : H0 * (b * b * P) = H0 * b * b * P := by ac_rfl
    have e2 : (B0 + 1) * (b * b * P) = b * ((B0 + 1) * b * P) := by ac_rfl
    rw [e1, e2]; omega
  have := Nat.lt_of_mul_lt_mul_right h7
  omega
theorem headsC {b P M B0 B1 Ml : Nat} (hM : M = (B0 * b + B1) * P + Ml) (hMl : Ml < P) (hn : b * b * P ≤ 2 * M) : b * b < 2 * (B0 * b + B1 + 1) := by
  have h1 : M < (B0 * b + B1 + 1) * P := by rw [Nat.add_mul, Nat.one_mul]; omega
  have h2 : b * b * P < 2 * (B0 * b + B1 + 1) * P := by rw [Nat.mul_assoc 2]; omega
  exact Nat.lt_of_mul_lt_mul_right h2
end Go.Ga

namespace Go.Ga
open Go Go.Proofs
set_option linter.unusedSimpArgs false
set_option linter.unusedVariables false
set_option maxRecDepth 100000
attribute [local irreducible] appendK

section
variable {nx : Nat} {gt : Nat → Option Blk}

theorem set_getD_is {w : List UInt32} {i : Nat} {x : UInt32} (h : i < w.length) : (w.set i x).getD i 0 = x := by
  simp [List.getD_eq_getElem?_getD, h]

theorem digit_laid {u qs win : List UInt32} {z n d M U : Nat} (hq : z < qs.length) (hu : z + n ≤ u.length) (h0 : lv (u.drop (z + n)) = 0) (hw : win.length = n) (hv : lv win + d * M = lv (u.drop z)) (hd : d < 4294967296) (hlt : lv win < M)
    (he : lv u + 4294967296 ^ (z + 1) * (lv (qs.drop (z + 1)) * M) = U) :
    lv (u.take z ++ (win ++ u.drop (z + n))) + 4294967296 ^ z * (lv ((qs.set z (UInt32.ofNat d)).drop z) * M) = U ∧ lv ((u.take z ++ (win ++ u.drop (z + n))).drop z) < M ∧ (u.take z ++ (win ++ u.drop (z + n))).length = u.length := by
  have e0 : lv (win ++ u.drop (z + n)) = lv win := by rw [lv_append, h0]; simp
  have hl : (u.take z).length = z := by simp; omega
  refine ⟨?_, ?_, by simp; omega⟩
  · have sp := lv_split u z (by omega)
    have e1 : lv ((qs.set z (UInt32.ofNat d)).drop z) = d + 4294967296 * lv (qs.drop (z + 1)) := by
      rw [lv_drop_cons (by simpa using hq), List.drop_set_of_lt (by omega), set_getD_is hq, ofNat32, Nat.mod_eq_of_lt hd]
    rw [lv_append, hl, e0, e1, ← he, sp, ← hv, Nat.pow_succ]
    simp only [Nat.mul_add, Nat.add_mul]
    ac_rfl
  · rw [List.drop_left' hl, e0]; exact hlt

def divL : RC :=
  (.seq
  (.seq
  (.ops [] [
  ⟨(some 108), (.op (.mv (.t 8))), none⟩,
  ⟨(some 109), (.op (.mv (.t 10))), none⟩,
  ⟨(some 110), (.op (.sl 1 (.t 108) (some (.t 109)) none none)), none⟩,
  ⟨(some 111), (.op (.mv (.t 1))), none⟩,
  ⟨(some 112), (.op (.mv (.t 12))), none⟩,
  ⟨(some 113), (.call (.k (.func (.func 89) #[] #[])) [(.t 110), (.t 111), (.t 112)]), none⟩,
  ⟨(some 114), (.op (.un .not (.t 113))), none⟩])
  (.cond (.t 114)
  (.seq
  (.ops [] [
  ⟨(some 115), (.op (.mv (.t 8))), none⟩,
  ⟨(some 116), (.op (.mv (.t 10))), none⟩,
  ⟨(some 117), (.op (.sl 1 (.t 115) (some (.t 116)) none none)), none⟩,
  ⟨(some 118), (.op (.mv (.t 1))), none⟩,
  ⟨(some 119), (.call (.k (.func (.func 90) #[] #[])) [(.t 117), (.t 118)]), none⟩])
  (.ops [] [
  ⟨(some 120), (.op (.mv (.t 12))), none⟩,
  ⟨(some 121), (.op (.bin .sub (.t 120) (.k (.int .u32 1)))), none⟩,
  ⟨(some 12), (.op (.mv (.t 121))), none⟩]))
  .skip))
  (.ops [] [
  ⟨(some 122), (.op (.mv (.t 4))), none⟩,
  ⟨(some 123), (.op (.mv (.t 10))), none⟩,
  ⟨(some 124), (.op (.mv (.t 12))), none⟩,
  ⟨(some 125), (.op (.ixAddr 1 (.t 122) (.t 123))), none⟩,
  ⟨none, (.op (.store 1 (.t 125) (.t 124))), none⟩]))

theorem div_tail {f : Regs} {x b q n7 z n N c3 T Q M U : Nat} {am : Addr} {g : Nat → Option Blk} {u qs : List UInt32} {s : Stk} (hbq : b ≤ q) (hqn : q < n7) (hn7 : n7 < x)
    (f1 : f 1 = .slice (some am) n c3) (f4 : f 4 = .slice (some ⟨n7, 0, none⟩) T T) (f8 : f 8 = .slice (some ⟨q, 0, none⟩) N N) (f10 : f 10 = .int .i64 (z : Nat)) (f12 : f 12 = .int .u32 (Q : Nat))
    (gq : g q = some (.cells (u.map u32V) false)) (gn : g n7 = some (.cells (qs.map u32V) false)) (hu : u.length = N) (hN : N < 1000000000) (hqs : qs.length = T) (hzT : z < T) (hTN : T ≤ N) (hzN : z + (n + 1) ≤ N)
    (rM : Row x g 1 (some am) n ((lb M).map u32V)) (hlM : (lb M).length = n) (ham : am.block ≠ q) (hQ : Q < 4294967296) (hM0 : 0 < M) (hdig : lv (u.drop z) / M ≤ Q ∧ (Q - 1) * M ≤ lv (u.drop z)) (tz : lv (u.drop (z + (n + 1))) = 0)
    (he : lv u + 4294967296 ^ (z + 1) * (lv (qs.drop (z + 1)) * M) = U)
    (K : ∀ (f' : Regs) (x' : Nat) (g' : Nat → Option Blk) (u' qs' : List UInt32), f' 1 = f 1 → f' 4 = f 4 → f' 7 = f 7 → f' 8 = f 8 → f' 9 = f 9 → f' 10 = f 10 → x ≤ x' → (∀ p, p < x → p ≠ q → p ≠ n7 → g' p = g p) → g' q = some (.cells (u'.map u32V) false) → g' n7 = some (.cells (qs'.map u32V) false) →
      u'.length = N → qs'.length = T → lv u' + 4294967296 ^ z * (lv (qs'.drop z) * M) = U → lv (u'.drop z) < M → (∀ j, j < z → qs'.getD j 0 = qs.getD j 0) → D Try.prog s .normal f' ⟨x', b, g'⟩) :
    RC.vc Try.prog divL f ⟨x, b, g⟩ (D Try.prog s) := by
  have hsplit : u = u.take z ++ ((u.drop z).take (n + 1) ++ u.drop (z + (n + 1))) := by
    rw [← List.drop_drop, List.take_append_drop, List.take_append_drop]
  obtain ⟨win, hwin⟩ : ∃ win, (u.drop z).take (n + 1) = win := ⟨_, rfl⟩
  have hwn : win.length = n + 1 := by rw [← hwin]; simp; omega
  have hwv : lv win = lv (u.drop z) := by
    have sp := lv_split (u.drop z) (n + 1) (by simp; omega)
    rw [List.drop_drop, tz, Nat.mul_zero, Nat.add_zero, hwin] at sp
    exact sp.symm
  rw [hwin] at hsplit
  have gq8 : g q = some (.cells ((u.take z ++ (win ++ u.drop (z + (n + 1)))).map u32V) false) := by rw [gq, ← hsplit]
  have hMn : M < 4294967296 ^ n := lb_len_le.1 (Nat.le_of_eq hlM)
  have hM1 : M ≤ 4294967296 ^ (n + 1) := by rw [Nat.pow_succ]; omega
  have n1 : ((N : Int) - (z : Int)).toNat = N - z := by omega
  simp only [divL, ↓gaW, ↓gaV, ↓gaC, ↓gaN, gaP, Nat.reduceEqDiff, Nat.reduceLeDiff, Nat.reduceAdd, Nat.reduceSub, Nat.reduceMul, Int.reduceLT, Int.reduceLE, Int.reduceEq, Int.reduceToNat, Int.reduceAdd, Int.reduceSub, Int.reduceMul, reduceCtorEq, ↓reduceIte, List.getD_cons_zero, List.getD_cons_succ, fillL, splice, List.take_zero, List.drop_zero, List.drop_succ_cons, List.take_succ_cons, List.drop_nil, List.take_nil, f1, f8, f10, f12, Nat.zero_add, Nat.mul_one, n1]
  repeat refine And.intro (by first | omega | (simp; done) | (simp; omega) | exact all1 rfl) ?_
  refine callW_of (ct_less (n := n) (hi := u.drop (z + (n + 1))) (by omega) gq8 (by simp; omega) hwn (by omega) (by omega) rM (fun a ha => by injection ha with ha; subst ha; exact ham) hQ) (fun v n9 g9 l9 k9 hC => ?_) (by omega) (by omega)
  obtain ⟨win', o, ho, rfl, hwl, gq9, hlv⟩ := hC
  rw [lv_lb, hwv] at hlv
  obtain ⟨le0, le1⟩ := less_end (lv_lt' (Nat.le_of_eq hwl)) ho hlv
  have gn9 : g9 n7 = some (.cells (qs.map u32V) false) := by rw [k9 n7 (by omega) (by omega), gn]
  by_cases ho0 : (o : Int) = 0
  · obtain ⟨q1', q2'⟩ := le0 (by omega)
    have hQd : lv (u.drop z) / M = Q := by
      refine Nat.le_antisymm hdig.1 ?_
      rw [Nat.le_div_iff_mul_le hM0]; exact q1'
    obtain ⟨dg, hdg⟩ : ∃ d, Q = d := ⟨_, rfl⟩
    subst hdg
    have hdv : lv win' + Q * M = lv (u.drop z) := by omega
    have hdl : lv win' < M := by
      have := Nat.mod_lt (lv (u.drop z)) hM0
      have h2 := Nat.div_add_mod (lv (u.drop z)) M
      rw [hQd, Nat.mul_comm] at h2
      omega
    have hdone := digit_laid (U := U) (qs := qs) (d := Q) (by omega) (by omega) tz hwl hdv (by omega) hdl he
    obtain ⟨hd1, hd2, hd3⟩ := hdone
    have spq : splice (qs.map u32V) z [.int .u32 (Q : Nat)] = (qs.set z (UInt32.ofNat Q)).map u32V := by
      rw [u32V_lt (by omega), splice_set (by omega)]
    simp only [↓gaW, ↓gaV, ↓gaC, ↓gaN, gaP, Nat.reduceEqDiff, Nat.reduceLeDiff, Nat.reduceAdd, Nat.reduceSub, Nat.reduceMul, Int.reduceLT, Int.reduceLE, Int.reduceEq, Int.reduceToNat, Int.reduceAdd, Int.reduceSub, Int.reduceMul, reduceCtorEq, ↓reduceIte, ho0, decide_true, Bool.not_true, f4, f10, f12, gn9, spq, Nat.zero_add, Nat.mul_one]
    repeat refine And.intro (by first | omega | (simp; done) | (simp; omega) | exact all1 rfl) ?_
    refine K _ _ _ _ _ (by simp only [↓gaW, ↓gaV, ↓gaC, ↓gaN, gaP, Nat.reduceEqDiff, Nat.reduceLeDiff, Nat.reduceAdd, Nat.reduceSub, Nat.reduceMul, Int.reduceLT, Int.reduceLE, Int.reduceEq, Int.reduceToNat, Int.reduceAdd, Int.reduceSub, Int.reduceMul, reduceCtorEq, ↓reduceIte]) (by simp only [↓gaW, ↓gaV, ↓gaC, ↓gaN, gaP, Nat.reduceEqDiff, Nat.reduceLeDiff, Nat.reduceAdd, Nat.reduceSub, Nat.reduceMul, Int.reduceLT, Int.reduceLE, Int.reduceEq, Int.reduceToNat, Int.reduceAdd, Int.reduceSub, Int.reduceMul, reduceCtorEq, ↓reduceIte, f4]) (by simp only [↓gaW, ↓gaV, ↓gaC, ↓gaN, gaP, Nat.reduceEqDiff, Nat.reduceLeDiff, Nat.reduceAdd, Nat.reduceSub, Nat.reduceMul, Int.reduceLT, Int.reduceLE, Int.reduceEq, Int.reduceToNat, Int.reduceAdd, Int.reduceSub, Int.reduceMul, reduceCtorEq, ↓reduceIte]) (by simp only [↓gaW, ↓gaV, ↓gaC, ↓gaN, gaP, Nat.reduceEqDiff, Nat.reduceLeDiff, Nat.reduceAdd, Nat.reduceSub, Nat.reduceMul, Int.reduceLT, Int.reduceLE, Int.reduceEq, Int.reduceToNat, Int.reduceAdd, Int.reduceSub, Int.reduceMul, reduceCtorEq, ↓reduceIte]) (by simp only [↓gaW, ↓gaV, ↓gaC, ↓gaN, gaP, Nat.reduceEqDiff, Nat.reduceLeDiff, Nat.reduceAdd, Nat.reduceSub, Nat.reduceMul, Int.reduceLT, Int.reduceLE, Int.reduceEq, Int.reduceToNat, Int.reduceAdd, Int.reduceSub, Int.reduceMul, reduceCtorEq, ↓reduceIte]) (by simp only [↓gaW, ↓gaV, ↓gaC, ↓gaN, gaP, Nat.reduceEqDiff, Nat.reduceLeDiff, Nat.reduceAdd, Nat.reduceSub, Nat.reduceMul, Int.reduceLT, Int.reduceLE, Int.reduceEq, Int.reduceToNat, Int.reduceAdd, Int.reduceSub, Int.reduceMul, reduceCtorEq, ↓reduceIte]) l9 (fun p hp hpq hpn => ?_) ?_ (by simp only [upd_e, if_true]) (hd3.trans hu) (by simpa using hqs) hd1 hd2 (fun j hj => set_getD_ne (by omega))
    · simp only [upd_e]; rw [if_neg hpn, k9 p hp hpq]
    · simp only [upd_e]; rw [if_neg (by omega), gq9]
  · have o1 : o = 1 := by omega
    subst o1
    have hlt := le1 rfl
    rw [Nat.mul_one] at hlv
    have hQ0 : 0 < Q := by
      rcases Nat.eq_zero_or_pos Q with h | h
      · subst h; omega
      · exact h
    have rM9 : Row n9 g9 1 (some am) n ((lb M).map u32V) := rM.keepA l9 fun hn a ha => by
      injection ha with ha
      subst ha
      obtain ⟨a', _, _, e1, e2, _⟩ := rM.cells hn
      injection e1 with e1
      subst e1
      exact k9 _ e2 ham
    simp only [↓gaW, ↓gaV, ↓gaC, ↓gaN, gaP, Nat.reduceEqDiff, Nat.reduceLeDiff, Nat.reduceAdd, Nat.reduceSub, Nat.reduceMul, Int.reduceLT, Int.reduceLE, Int.reduceEq, Int.reduceToNat, Int.reduceAdd, Int.reduceSub, Int.reduceMul, reduceCtorEq, ↓reduceIte, List.getD_cons_zero, List.getD_cons_succ, fillL, splice, List.take_zero, List.drop_zero, List.drop_succ_cons, List.take_succ_cons, List.drop_nil, List.take_nil, ho0, decide_false, Bool.not_false, f1, f8, f10, f12, Nat.zero_add, Nat.mul_one, n1]
    repeat refine And.intro (by first | omega | (simp; done) | (simp; omega) | exact all1 rfl) ?_
    refine callW_of (ct_more (n := n) (hi := u.drop (z + (n + 1))) (by omega) gq9 (by simp; omega) hwl (by omega) (by omega) rM9 (fun a ha => by injection ha with ha; subst ha; exact ham)) (fun v n10 g10 l10 k10 hC => ?_) (by omega) (by omega)
    obtain ⟨win2, e, hwl2, gq10, hlv2⟩ := hC
    rw [lv_lb] at hlv2
    have hw2 := more_end hQ0 (lv_lt' (Nat.le_of_eq hwl2)) hM1 hlv hlv2 hdig.2 hlt
    obtain ⟨dg, rfl⟩ : ∃ d, Q = d + 1 := ⟨Q - 1, by omega⟩
    rw [Nat.add_sub_cancel] at hw2 hdig
    have hdv : lv win2 + dg * M = lv (u.drop z) := by omega
    have hdl : lv win2 < M := by rw [Nat.add_mul, Nat.one_mul] at hlt; omega
    have hdone := digit_laid (U := U) (qs := qs) (d := dg) (by omega) (by omega) tz hwl2 hdv (by omega) hdl he
    obtain ⟨hd1, hd2, hd3⟩ := hdone
    have gn10 : g10 n7 = some (.cells (qs.map u32V) false) := by rw [k10 n7 (by omega) (by omega), gn9]
    have spq : splice (qs.map u32V) z [.int .u32 (dg : Nat)] = (qs.set z (UInt32.ofNat dg)).map u32V := by
      rw [u32V_lt (by omega), splice_set (by omega)]
    have e1 : ((dg + 1 : Nat) : Int) - 1 = (dg : Int) := by omega
    simp only [↓gaW, ↓gaV, ↓gaC, ↓gaN, gaP, Nat.reduceEqDiff, Nat.reduceLeDiff, Nat.reduceAdd, Nat.reduceSub, Nat.reduceMul, Int.reduceLT, Int.reduceLE, Int.reduceEq, Int.reduceToNat, Int.reduceAdd, Int.reduceSub, Int.reduceMul, reduceCtorEq, ↓reduceIte, f4, f10, f12, e1, u32_i (dg : Int) (by omega), gn10, spq, Nat.zero_add, Nat.mul_one]
    repeat refine And.intro (by first | omega | (simp; done) | (simp; omega) | exact all1 rfl) ?_
    refine K _ _ _ _ _ (by simp only [↓gaW, ↓gaV, ↓gaC, ↓gaN, gaP, Nat.reduceEqDiff, Nat.reduceLeDiff, Nat.reduceAdd, Nat.reduceSub, Nat.reduceMul, Int.reduceLT, Int.reduceLE, Int.reduceEq, Int.reduceToNat, Int.reduceAdd, Int.reduceSub, Int.reduceMul, reduceCtorEq, ↓reduceIte]) (by simp only [↓gaW, ↓gaV, ↓gaC, ↓gaN, gaP, Nat.reduceEqDiff, Nat.reduceLeDiff, Nat.reduceAdd, Nat.reduceSub, Nat.reduceMul, Int.reduceLT, Int.reduceLE, Int.reduceEq, Int.reduceToNat, Int.reduceAdd, Int.reduceSub, Int.reduceMul, reduceCtorEq, ↓reduceIte, f4]) (by simp only [↓gaW, ↓gaV, ↓gaC, ↓gaN, gaP, Nat.reduceEqDiff, Nat.reduceLeDiff, Nat.reduceAdd, Nat.reduceSub, Nat.reduceMul, Int.reduceLT, Int.reduceLE, Int.reduceEq, Int.reduceToNat, Int.reduceAdd, Int.reduceSub, Int.reduceMul, reduceCtorEq, ↓reduceIte]) (by simp only [↓gaW, ↓gaV, ↓gaC, ↓gaN, gaP, Nat.reduceEqDiff, Nat.reduceLeDiff, Nat.reduceAdd, Nat.reduceSub, Nat.reduceMul, Int.reduceLT, Int.reduceLE, Int.reduceEq, Int.reduceToNat, Int.reduceAdd, Int.reduceSub, Int.reduceMul, reduceCtorEq, ↓reduceIte]) (by simp only [↓gaW, ↓gaV, ↓gaC, ↓gaN, gaP, Nat.reduceEqDiff, Nat.reduceLeDiff, Nat.reduceAdd, Nat.reduceSub, Nat.reduceMul, Int.reduceLT, Int.reduceLE, Int.reduceEq, Int.reduceToNat, Int.reduceAdd, Int.reduceSub, Int.reduceMul, reduceCtorEq, ↓reduceIte]) (by simp only [↓gaW, ↓gaV, ↓gaC, ↓gaN, gaP, Nat.reduceEqDiff, Nat.reduceLeDiff, Nat.reduceAdd, Nat.reduceSub, Nat.reduceMul, Int.reduceLT, Int.reduceLE, Int.reduceEq, Int.reduceToNat, Int.reduceAdd, Int.reduceSub, Int.reduceMul, reduceCtorEq, ↓reduceIte]) (by omega) (fun p hp hpq hpn => ?_) ?_ (by simp only [upd_e, if_true]) (hd3.trans hu) (by simpa using hqs) hd1 hd2 (fun j hj => set_getD_ne (by omega))
    · simp only [upd_e]; rw [if_neg hpn, k10 p (by omega) hpq, k9 p hp hpq]
    · simp only [upd_e]; rw [if_neg (by omega), gq10]
end
end Go.Ga

namespace Go.Ga
open Go Go.Proofs
set_option linter.unusedSimpArgs false
set_option linter.unusedVariables false
set_option maxRecDepth 100000
attribute [local irreducible] appendK

theorem eq3 (a0 a1 a2 b0 b1 b2 : Int) (K : Bool → Prop) : eqK Try.prog .eql 109 #[.int .u32 a0, .int .u32 a1, .int .u32 a2] #[.int .u32 b0, .int .u32 b1, .int .u32 b2] K = K (decide (a0 = b0 ∧ a1 = b1 ∧ a2 = b2)) := by
  have := eqK_ints (P := Try.prog) (t := 109) (e := 35) (len := 3) (k := .u32) (k' := .u32) (i := ((Try.prog).info? 35).get (by kernel_rfl)) (by kernel_rfl) (by kernel_rfl) (Option.some_get _).symm (by kernel_rfl) (by kernel_rfl) [a0, a1, a2] [b0, b1, b2] rfl rfl K
  simp only [List.cons.injEq, and_true] at this
  exact this

section
def divB : RC :=
  (.block 2
  (.seq
  (.ops [
  ⟨(some 71), (.op (.mv (.t 8))), none⟩,
  ⟨(some 72), (.op (.mv (.t 10))), none⟩,
  ⟨(some 73), (.op (.mv (.t 9))), none⟩,
  ⟨(some 74), (.op (.bin .add (.t 72) (.t 73))), none⟩,
  ⟨(some 75), (.op (.ixAddr 1 (.t 71) (.t 74))), none⟩,
  ⟨(some 76), (.op (.load1 (.t 75))), none⟩,
  ⟨(some 77), (.op (.mv (.t 8))), none⟩,
  ⟨(some 78), (.op (.mv (.t 10))), none⟩,
  ⟨(some 79), (.op (.mv (.t 9))), none⟩,
  ⟨(some 80), (.op (.bin .add (.t 78) (.t 79))), none⟩,
  ⟨(some 81), (.op (.bin .sub (.t 80) (.k (.int .i64 1)))), none⟩,
  ⟨(some 82), (.op (.ixAddr 1 (.t 77) (.t 81))), none⟩,
  ⟨(some 83), (.op (.load1 (.t 82))), none⟩,
  ⟨(some 84), (.op (.mv (.t 8))), none⟩,
  ⟨(some 85), (.op (.mv (.t 10))), none⟩,
  ⟨(some 86), (.op (.mv (.t 9))), none⟩,
  ⟨(some 87), (.op (.bin .add (.t 85) (.t 86))), none⟩,
  ⟨(some 88), (.op (.bin .sub (.t 87) (.k (.int .i64 2)))), none⟩,
  ⟨(some 89), (.op (.ixAddr 1 (.t 84) (.t 88))), none⟩,
  ⟨(some 90), (.op (.load1 (.t 89))), none⟩,
  ⟨(some 91), (.op (.build [(.int .u32 0), (.int .u32 0), (.int .u32 0)] [(0, (1, (.t 76))), (1, (1, (.t 83))), (2, (1, (.t 90)))])), none⟩,
  ⟨(some 11), (.op (.new [(.int .u32 0), (.int .u32 0), (.int .u32 0)])), none⟩] [
  ⟨none, (.op (.store 3 (.t 11) (.t 91))), none⟩])
  (.seq
  (.seq
  (.ops [] [
  ⟨(some 92), (.op (.loadN 3 (.t 11))), none⟩,
  ⟨(some 93), (.op (.build [(.int .u32 0), (.int .u32 0), (.int .u32 0)] [])), none⟩,
  ⟨(some 94), (.op (.eqA .eql 109 (.t 92) (.t 93))), none⟩])
  (.cond (.t 94)
  (.exit 2)
  .skip))
  (.seq
  (.ops [
  ⟨(some 95), (.op (.loadN 3 (.t 11))), none⟩,
  ⟨(some 96), (.op (.mv (.t 1))), none⟩,
  ⟨(some 97), (.op (.mv (.t 9))), none⟩,
  ⟨(some 98), (.op (.bin .sub (.t 97) (.k (.int .i64 1)))), none⟩,
  ⟨(some 99), (.op (.ixAddr 1 (.t 96) (.t 98))), none⟩,
  ⟨(some 100), (.op (.load1 (.t 99))), none⟩,
  ⟨(some 101), (.op (.mv (.t 1))), none⟩,
  ⟨(some 102), (.op (.mv (.t 9))), none⟩,
  ⟨(some 103), (.op (.bin .sub (.t 102) (.k (.int .i64 2)))), none⟩,
  ⟨(some 104), (.op (.ixAddr 1 (.t 101) (.t 103))), none⟩,
  ⟨(some 105), (.op (.load1 (.t 104))), none⟩,
  ⟨(some 106), (.op (.build [(.int .u32 0), (.int .u32 0)] [(0, (1, (.t 100))), (1, (1, (.t 105)))])), none⟩] [
  ⟨(some 107), (.call (.k (.func (.func 88) #[] #[])) [(.t 95), (.t 106)]), none⟩,
  ⟨(some 12), (.op (.mv (.t 107))), none⟩])
  (.seq
  (.seq
  (.ops [] [
  ⟨(some 108), (.op (.mv (.t 8))), none⟩,
  ⟨(some 109), (.op (.mv (.t 10))), none⟩,
  ⟨(some 110), (.op (.sl 1 (.t 108) (some (.t 109)) none none)), none⟩,
  ⟨(some 111), (.op (.mv (.t 1))), none⟩,
  ⟨(some 112), (.op (.mv (.t 12))), none⟩,
  ⟨(some 113), (.call (.k (.func (.func 89) #[] #[])) [(.t 110), (.t 111), (.t 112)]), none⟩,
  ⟨(some 114), (.op (.un .not (.t 113))), none⟩])
  (.cond (.t 114)
  (.seq
  (.ops [] [
  ⟨(some 115), (.op (.mv (.t 8))), none⟩,
  ⟨(some 116), (.op (.mv (.t 10))), none⟩,
  ⟨(some 117), (.op (.sl 1 (.t 115) (some (.t 116)) none none)), none⟩,
  ⟨(some 118), (.op (.mv (.t 1))), none⟩,
  ⟨(some 119), (.call (.k (.func (.func 90) #[] #[])) [(.t 117), (.t 118)]), none⟩])
  (.ops [] [
  ⟨(some 120), (.op (.mv (.t 12))), none⟩,
  ⟨(some 121), (.op (.bin .sub (.t 120) (.k (.int .u32 1)))), none⟩,
  ⟨(some 12), (.op (.mv (.t 121))), none⟩]))
  .skip))
  (.ops [] [
  ⟨(some 122), (.op (.mv (.t 4))), none⟩,
  ⟨(some 123), (.op (.mv (.t 10))), none⟩,
  ⟨(some 124), (.op (.mv (.t 12))), none⟩,
  ⟨(some 125), (.op (.ixAddr 1 (.t 122) (.t 123))), none⟩,
  ⟨none, (.op (.store 1 (.t 125) (.t 124))), none⟩]))))))

theorem div_round {f : Regs} {x b q n7 z a3 N c3 T M U : Nat} {am : Addr} {g : Nat → Option Blk} {u qs : List UInt32} {s : Stk} (hbq : b ≤ q) (hqn : q < n7) (hx : n7 < x)
    (r1' : f 1 = .slice (some am) a3 c3) (r4' : f 4 = .slice (some ⟨n7, 0, none⟩) T T) (r8' : f 8 = .slice (some ⟨q, 0, none⟩) N N) (r9' : f 9 = .int .i64 (a3 : Nat)) (r10' : f 10 = .int .i64 (z : Nat))
    (hgq : g q = some (.cells (u.map u32V) false)) (hgn : g n7 = some (.cells (qs.map u32V) false)) (hu : u.length = N) (hNs : N < 1000000000) (hqs : qs.length = T) (hzT : z < T) (hTN : T ≤ N) (hzN : z + (a3 + 1) ≤ N) (h2 : 2 ≤ a3)
    (r3 : Row x g 1 (some am) a3 ((lb M).map u32V)) (hl3 : (lb M).length = a3) (ham : am.block ≠ q) (hM0 : 0 < M) (hs2 : M < 4294967296 ^ a3) (hs3 : 4294967296 ^ a3 ≤ 2 * M)
    (he : lv u + 4294967296 ^ (z + 1) * (lv (qs.drop (z + 1)) * M) = U) (hlt : lv (u.drop (z + 1)) < M) (hz : qs.getD z 0 = 0)
    (K : ∀ (f' : Regs) (x' : Nat) (g' : Nat → Option Blk) (u' qs' : List UInt32), f' 1 = f 1 → f' 4 = f 4 → f' 7 = f 7 → f' 8 = f 8 → f' 9 = f 9 → f' 10 = f 10 → x ≤ x' → (∀ p, p < x → p ≠ q → p ≠ n7 → g' p = g p) → g' q = some (.cells (u'.map u32V) false) → g' n7 = some (.cells (qs'.map u32V) false) →
      u'.length = N → qs'.length = T → lv u' + 4294967296 ^ z * (lv (qs'.drop z) * M) = U → lv (u'.drop z) < M → (∀ j, j < z → qs'.getD j 0 = qs.getD j 0) → D Try.prog s .normal f' ⟨x', b, g'⟩) :
    RC.vc Try.prog divB f ⟨x, b, g⟩ (D Try.prog s) := by
  have s1 : (z : Int) + (a3 : Int) = ((z + a3 : Nat) : Int) := by omega
  have s2 : ((z + a3 : Nat) : Int) - 1 = ((z + a3 - 1 : Nat) : Int) := by omega
  have s3 : ((z + a3 : Nat) : Int) - 2 = ((z + a3 - 2 : Nat) : Int) := by omega
  have w0 : (u.map u32V).getD (z + a3) undef = .int .u32 ((u.getD (z + a3) 0).toNat : Nat) := getD_u32 (by omega)
  have w1 : (u.map u32V).getD (z + a3 - 1) undef = .int .u32 ((u.getD (z + a3 - 1) 0).toNat : Nat) := getD_u32 (by omega)
  have w2 : (u.map u32V).getD (z + a3 - 2) undef = .int .u32 ((u.getD (z + a3 - 2) 0).toNat : Nat) := getD_u32 (by omega)
  have t0 := lt32 (u.getD (z + a3) 0)
  have t1 := lt32 (u.getD (z + a3 - 1) 0)
  have t2 := lt32 (u.getD (z + a3 - 2) 0)
  obtain ⟨H0, hH0⟩ : ∃ x, (u.getD (z + a3) 0).toNat = x := ⟨_, rfl⟩
  obtain ⟨H1, hH1⟩ : ∃ x, (u.getD (z + a3 - 1) 0).toNat = x := ⟨_, rfl⟩
  obtain ⟨H2, hH2⟩ : ∃ x, (u.getD (z + a3 - 2) 0).toNat = x := ⟨_, rfl⟩
  rw [hH0] at w0 t0
  rw [hH1] at w1 t1
  rw [hH2] at w2 t2
  simp only [divB, ↓gaW, ↓gaV, ↓gaC, ↓gaN, gaP, Nat.reduceEqDiff, Nat.reduceLeDiff, Nat.reduceAdd, Nat.reduceSub, Nat.reduceMul, Int.reduceLT, Int.reduceLE, Int.reduceEq, Int.reduceToNat, Int.reduceAdd, Int.reduceSub, Int.reduceMul, reduceCtorEq, ↓reduceIte, List.getD_cons_zero, List.getD_cons_succ, fillL, splice, List.take_zero, List.drop_zero, List.drop_succ_cons, List.take_succ_cons, List.drop_nil, List.take_nil, r1', r4', r8', r9', r10', hgq, s1, s2, s3, i64_w ((z + a3 : Nat) : Int) (by omega), i64_w ((z + a3 - 1 : Nat) : Int) (by omega), i64_w ((z + a3 - 2 : Nat) : Int) (by omega), Nat.zero_add, Nat.mul_one, w0, w1, w2, o_eqA, eq3]
  repeat refine And.intro (by first | omega | (simp; omega)) ?_
  refine And.intro (fun v hv => by simp only [List.mem_cons, List.not_mem_nil, or_false] at hv; rcases hv with rfl | rfl | rfl <;> rfl) ?_
  obtain ⟨c, hcz⟩ : ∃ c, a3 = c + 2 := ⟨a3 - 2, by omega⟩
  obtain ⟨tz, te⟩ := top3 (u := u) (z := z) (c := c) (by omega) (by rw [← hcz]; exact Nat.lt_trans hlt hs2)
  have hqz : lv (qs.drop z) = 4294967296 * lv (qs.drop (z + 1)) := by
    rw [lv_drop_cons (by omega), hz]; simp
  rw [show z + c + 2 = z + a3 by omega, show z + c + 1 = z + a3 - 1 by omega, show z + c = z + a3 - 2 by omega] at te
  rw [hH0, hH1, hH2] at te
  by_cases hzz : (H0 : Int) = 0 ∧ (H1 : Int) = 0 ∧ (H2 : Int) = 0
  · simp only [↓gaW, ↓gaV, ↓gaC, ↓gaN, gaP, Nat.reduceEqDiff, Nat.reduceLeDiff, Nat.reduceAdd, Nat.reduceSub, Nat.reduceMul, Int.reduceLT, Int.reduceLE, Int.reduceEq, Int.reduceToNat, Int.reduceAdd, Int.reduceSub, Int.reduceMul, reduceCtorEq, ↓reduceIte, hzz, decide_true]
    have hP := Nat.pow_pos (n := c) (by decide : 0 < 4294967296)
    have hPc : 4294967296 ^ a3 = 4294967296 * 4294967296 * 4294967296 ^ c := by rw [hcz, Nat.pow_succ, Nat.pow_succ]; ac_rfl
    have hlc := lv_lt ((u.drop z).take c)
    have hlc2 : ((u.drop z).take c).length = c := by simp; omega
    rw [hlc2] at hlc
    refine K _ _ _ u qs (by simp only [↓gaW, ↓gaV, ↓gaC, ↓gaN, gaP, Nat.reduceEqDiff, Nat.reduceLeDiff, Nat.reduceAdd, Nat.reduceSub, Nat.reduceMul, Int.reduceLT, Int.reduceLE, Int.reduceEq, Int.reduceToNat, Int.reduceAdd, Int.reduceSub, Int.reduceMul, reduceCtorEq, ↓reduceIte, r1']) (by simp only [↓gaW, ↓gaV, ↓gaC, ↓gaN, gaP, Nat.reduceEqDiff, Nat.reduceLeDiff, Nat.reduceAdd, Nat.reduceSub, Nat.reduceMul, Int.reduceLT, Int.reduceLE, Int.reduceEq, Int.reduceToNat, Int.reduceAdd, Int.reduceSub, Int.reduceMul, reduceCtorEq, ↓reduceIte, r4']) (by simp only [↓gaW, ↓gaV, ↓gaC, ↓gaN, gaP, Nat.reduceEqDiff, Nat.reduceLeDiff, Nat.reduceAdd, Nat.reduceSub, Nat.reduceMul, Int.reduceLT, Int.reduceLE, Int.reduceEq, Int.reduceToNat, Int.reduceAdd, Int.reduceSub, Int.reduceMul, reduceCtorEq, ↓reduceIte]) (by simp only [↓gaW, ↓gaV, ↓gaC, ↓gaN, gaP, Nat.reduceEqDiff, Nat.reduceLeDiff, Nat.reduceAdd, Nat.reduceSub, Nat.reduceMul, Int.reduceLT, Int.reduceLE, Int.reduceEq, Int.reduceToNat, Int.reduceAdd, Int.reduceSub, Int.reduceMul, reduceCtorEq, ↓reduceIte, r8']) (by simp only [↓gaW, ↓gaV, ↓gaC, ↓gaN, gaP, Nat.reduceEqDiff, Nat.reduceLeDiff, Nat.reduceAdd, Nat.reduceSub, Nat.reduceMul, Int.reduceLT, Int.reduceLE, Int.reduceEq, Int.reduceToNat, Int.reduceAdd, Int.reduceSub, Int.reduceMul, reduceCtorEq, ↓reduceIte, r9']) (by simp only [↓gaW, ↓gaV, ↓gaC, ↓gaN, gaP, Nat.reduceEqDiff, Nat.reduceLeDiff, Nat.reduceAdd, Nat.reduceSub, Nat.reduceMul, Int.reduceLT, Int.reduceLE, Int.reduceEq, Int.reduceToNat, Int.reduceAdd, Int.reduceSub, Int.reduceMul, reduceCtorEq, ↓reduceIte, r10']) (by omega) (fun p hp hpq hpn => ?_) ?_ ?_ hu hqs ?_ ?_ (fun j hj => rfl)
    · simp only [upd_e]; rw [if_neg (by omega), if_neg (by omega)]
    · simp only [upd_e]; rw [if_neg (by omega), if_neg (by omega), hgq]
    · simp only [upd_e]; rw [if_neg (by omega), if_neg (by omega), hgn]
    · rw [hqz, ← he, Nat.pow_succ, Nat.mul_assoc (4294967296 ^ z), Nat.mul_assoc 4294967296 (lv (qs.drop (z + 1)))]
    · rw [te, show H0 = 0 by omega, show H1 = 0 by omega, show H2 = 0 by omega]
      simp only [Nat.zero_mul, Nat.zero_add, Nat.add_zero]
      omega
  · obtain ⟨am', cem, rom, hae, m1, m2, m3, m4⟩ := w32_cell r3 hl3 (i := a3 - 1) (by omega)
    injection hae with hae
    subst hae
    obtain ⟨am', cem', rom', hae, m1', m2', m3', m4'⟩ := w32_cell r3 hl3 (i := a3 - 2) (by omega)
    injection hae with hae
    subst hae
    rw [m2] at m2'
    injection m2' with m2'
    injection m2' with m2' m2''
    subst m2'
    have gm : g am.block = some (.cells cem rom) := m2
    have nmx : ¬ am.block = x := by omega
    have v1 : (a3 : Int) - 1 = ((a3 - 1 : Nat) : Int) := by omega
    have v2 : (a3 : Int) - 2 = ((a3 - 2 : Nat) : Int) := by omega
    obtain ⟨B0, hB0⟩ : ∃ x, ((lb M).getD (a3 - 1) 0).toNat = x := ⟨_, rfl⟩
    obtain ⟨B1, hB1⟩ : ∃ x, ((lb M).getD (a3 - 2) 0).toNat = x := ⟨_, rfl⟩
    rw [hB0] at m4
    rw [hB1] at m4'
    simp only [↓gaW, ↓gaV, ↓gaC, ↓gaN, gaP, Nat.reduceEqDiff, Nat.reduceLeDiff, Nat.reduceAdd, Nat.reduceSub, Nat.reduceMul, Int.reduceLT, Int.reduceLE, Int.reduceEq, Int.reduceToNat, Int.reduceAdd, Int.reduceSub, Int.reduceMul, reduceCtorEq, ↓reduceIte, List.getD_cons_zero, List.getD_cons_succ, fillL, splice, List.take_zero, List.drop_zero, List.drop_succ_cons, List.take_succ_cons, List.drop_nil, List.take_nil, hzz, r1', r8', r9', r10', decide_false, nmx, gm, v1, v2, i64_w ((a3 - 1 : Nat) : Int) (by omega), i64_w ((a3 - 2 : Nat) : Int) (by omega), m4, m4']
    have hP := Nat.pow_pos (n := c) (by decide : 0 < 4294967296)
    have hlc := lv_lt ((u.drop z).take c)
    have hlc2 : ((u.drop z).take c).length = c := by simp; omega
    rw [hlc2] at hlc
    have hMe := top2 (l := lb M) (c := c) (by omega)
    rw [lv_lb, show c + 1 = a3 - 1 by omega, hB0, show (lb M).getD c 0 = (lb M).getD (a3 - 2) 0 by rw [show c = a3 - 2 by omega], hB1] at hMe
    have hmc := lv_lt ((lb M).take c)
    rw [show ((lb M).take c).length = c by simp; omega] at hmc
    have hB1l : B1 < 4294967296 := by rw [← hB1]; exact lt32 _
    have hB0l : B0 < 4294967296 := by rw [← hB0]; exact lt32 _
    have hV := te
    rw [lv_drop_cons (l := u) (i := z) (by omega)] at hV
    have hle := headsB (b := 4294967296) hMe hmc hB1l hV (lt32 _) hlt
    have hge := headsC (b := 4294967296) hMe hmc (by rw [← Nat.pow_two, ← Nat.pow_add, show 2 + c = a3 by omega]; exact hs3)
    repeat refine And.intro (by omega) ?_
    refine callK_of (ct_guess t1 t2 hB0l hB1l hle (by omega)) (fun v n8 g8 l8 k8 hC => ?_) (by omega)
    obtain ⟨Q, rfl, hQ, hQm, hQu⟩ := hC
    have hdig := digit (P := 4294967296 ^ c) (U := lv (u.drop z)) (M := M) te hlc hMe hmc hQ (by omega) hQm hQu (by
      rw [lv_drop_cons (l := u) (i := z) (by omega)]
      have := lt32 (u.getD z 0)
      omega)
    refine (show goOps Try.prog _ _ _ (D Try.prog (.thn divL _)) from ?_)
    simp only [↓gaW, ↓gaV, ↓gaC, ↓gaN, gaP, Nat.reduceEqDiff, Nat.reduceLeDiff, Nat.reduceAdd, Nat.reduceSub, Nat.reduceMul, Int.reduceLT, Int.reduceLE, Int.reduceEq, Int.reduceToNat, Int.reduceAdd, Int.reduceSub, Int.reduceMul, reduceCtorEq, ↓reduceIte]
    have r38 : Row n8 g8 1 (some am) a3 ((lb M).map u32V) := r3.keepA (by omega) fun _ a ha => by
      injection ha with ha
      subst ha
      rw [k8 _ (by omega), upd_e, if_neg (by omega), upd_e, if_neg (by omega)]
    have gq8 : g8 q = some (.cells (u.map u32V) false) := by
      rw [k8 q (by omega), upd_e, if_neg (by omega), upd_e, if_neg (by omega), hgq]
    have gn8 : g8 n7 = some (.cells (qs.map u32V) false) := by
      rw [k8 n7 (by omega), upd_e, if_neg (by omega), upd_e, if_neg (by omega), hgn]
    refine div_tail (N := N) (T := T) (n := a3) (U := U) (M := M) (Q := Q) (z := z) (u := u) (qs := qs) (q := q) (n7 := n7) (am := am) (c3 := c3) hbq hqn (by omega) (by simp only [↓gaW, ↓gaV, ↓gaC, ↓gaN, gaP, Nat.reduceEqDiff, Nat.reduceLeDiff, Nat.reduceAdd, Nat.reduceSub, Nat.reduceMul, Int.reduceLT, Int.reduceLE, Int.reduceEq, Int.reduceToNat, Int.reduceAdd, Int.reduceSub, Int.reduceMul, reduceCtorEq, ↓reduceIte, r1']) (by simp only [↓gaW, ↓gaV, ↓gaC, ↓gaN, gaP, Nat.reduceEqDiff, Nat.reduceLeDiff, Nat.reduceAdd, Nat.reduceSub, Nat.reduceMul, Int.reduceLT, Int.reduceLE, Int.reduceEq, Int.reduceToNat, Int.reduceAdd, Int.reduceSub, Int.reduceMul, reduceCtorEq, ↓reduceIte, r4']) (by simp only [↓gaW, ↓gaV, ↓gaC, ↓gaN, gaP, Nat.reduceEqDiff, Nat.reduceLeDiff, Nat.reduceAdd, Nat.reduceSub, Nat.reduceMul, Int.reduceLT, Int.reduceLE, Int.reduceEq, Int.reduceToNat, Int.reduceAdd, Int.reduceSub, Int.reduceMul, reduceCtorEq, ↓reduceIte, r8']) (by simp only [↓gaW, ↓gaV, ↓gaC, ↓gaN, gaP, Nat.reduceEqDiff, Nat.reduceLeDiff, Nat.reduceAdd, Nat.reduceSub, Nat.reduceMul, Int.reduceLT, Int.reduceLE, Int.reduceEq, Int.reduceToNat, Int.reduceAdd, Int.reduceSub, Int.reduceMul, reduceCtorEq, ↓reduceIte, r10']) (by simp only [↓gaW, ↓gaV, ↓gaC, ↓gaN, gaP, Nat.reduceEqDiff, Nat.reduceLeDiff, Nat.reduceAdd, Nat.reduceSub, Nat.reduceMul, Int.reduceLT, Int.reduceLE, Int.reduceEq, Int.reduceToNat, Int.reduceAdd, Int.reduceSub, Int.reduceMul, reduceCtorEq, ↓reduceIte]) gq8 gn8 hu hNs hqs hzT hTN hzN r38 hl3 ham hQ hM0 hdig (by rw [show z + (a3 + 1) = z + c + 3 by omega]; exact tz) he ?_
    intro f' x' g' u' qs' e1' e4' e7' e8' e9' e10' lx kx gq' gn' hu' hqs' he' hlt' hz'
    simp only [↓gaW, ↓gaV, ↓gaC, ↓gaN, gaP, Nat.reduceEqDiff, Nat.reduceLeDiff, Nat.reduceAdd, Nat.reduceSub, Nat.reduceMul, Int.reduceLT, Int.reduceLE, Int.reduceEq, Int.reduceToNat, Int.reduceAdd, Int.reduceSub, Int.reduceMul, reduceCtorEq, ↓reduceIte] at e1' e4' e7' e8' e9' e10'
    simp only [↓gaW, ↓gaV, ↓gaC, ↓gaN, gaP, Nat.reduceEqDiff, Nat.reduceLeDiff, Nat.reduceAdd, Nat.reduceSub, Nat.reduceMul, Int.reduceLT, Int.reduceLE, Int.reduceEq, Int.reduceToNat, Int.reduceAdd, Int.reduceSub, Int.reduceMul, reduceCtorEq, ↓reduceIte]
    refine K f' x' g' u' qs' e1' e4' e7' e8' e9' e10' (by omega) (fun p hp hpq hpn => ?_) gq' gn' hu' hqs' he' hlt' hz'
    rw [kx p (by omega) hpq hpn, k8 p (by omega), upd_e, if_neg (by omega), upd_e, if_neg (by omega)]
end
end Go.Ga

namespace Go.Ga
open Go Go.Proofs
set_option linter.unusedSimpArgs false
set_option linter.unusedVariables false
set_option maxRecDepth 100000
attribute [local irreducible] appendK

section
variable {nx : Nat} {gt : Nat → Option Blk}

/-- A quotient, and what is left. -/
def DivV (nx : Nat) (gt : Nat → Option Blk) (a m : Nat) (v : Value) : Prop :=
  (m = 0 ∧ v = .tuple #[.slice none 0 0, .slice none 0 0, .bool false]) ∨ (m ≠ 0 ∧ ∃ v1 v2, v = .tuple #[v1, v2, .bool true] ∧ W32 nx gt v1 (lb (a / m)) ∧ W32 nx gt v2 (lb (a % m)))

theorem lb_nil {n : Nat} (h : (lb n).length = 0) : n = 0 := by
  have := lb_len_le.1 (Nat.le_of_eq h)
  simp at this
  omega
theorem lb_one {n : Nat} (h : (lb n).length = 1) : n < 4294967296 ∧ ((lb n).getD 0 0).toNat = n := by
  have h1 := lb_len_le.1 (Nat.le_of_eq h)
  have h2 := lb_get n 0
  rw [Nat.pow_one] at h1
  rw [Nat.pow_zero, Nat.div_one, Nat.mod_eq_of_lt h1] at h2
  exact ⟨h1, h2⟩

theorem norm {n c : Nat} (hc : 0 < c) (h : (lb n).length = c) : 32 - bl ((lb n).getD (c - 1) 0).toNat < 32 ∧ n * 2 ^ (32 - bl ((lb n).getD (c - 1) 0).toNat) < 4294967296 ^ c ∧ 4294967296 ^ c ≤ 2 * (n * 2 ^ (32 - bl ((lb n).getD (c - 1) 0).toNat)) := by
  obtain ⟨z, rfl⟩ : ∃ z, c = z + 1 := ⟨c - 1, by omega⟩
  rw [Nat.add_sub_cancel]
  have h1 := lb_len_le.1 (Nat.le_of_eq h)
  have h0 : ¬ n < 4294967296 ^ z := fun h2 => by have := lb_len_le.2 h2; omega
  have hP : 0 < 4294967296 ^ z := Nat.pow_pos (by decide)
  have h2 := lb_get n z
  have h3 : n / 4294967296 ^ z < 4294967296 := by
    rw [Nat.div_lt_iff_lt_mul hP, Nat.mul_comm, ← Nat.pow_succ]; exact h1
  rw [Nat.mod_eq_of_lt h3] at h2
  rw [h2]
  obtain ⟨t, ht⟩ : ∃ t, n / 4294967296 ^ z = t := ⟨_, rfl⟩
  have hdm := Nat.div_add_mod n (4294967296 ^ z)
  have hml := Nat.mod_lt n hP
  rw [ht] at h3 hdm ⊢
  have ht0 : t ≠ 0 := fun e => by rw [e, Nat.mul_zero] at hdm; omega
  have b1 := bl_pos ht0
  have b2 := bl_lt t
  have b3 := bl_le.2 (show t < 2 ^ 32 from h3)
  have b4 : bl t ≠ 0 := fun e => by have := bl_le.1 (Nat.le_of_eq e); simp at this; exact ht0 this
  obtain ⟨s, hs⟩ : ∃ s, 32 - bl t = s := ⟨_, rfl⟩
  rw [hs]
  have e1 : 2 ^ bl t * 2 ^ s = 4294967296 := by rw [← Nat.pow_add, show bl t + s = 32 by omega]
  have e2 : 2 ^ bl t = 2 * 2 ^ (bl t - 1) := by rw [← Nat.pow_succ', show (bl t - 1).succ = bl t by omega]
  refine ⟨by omega, ?_, ?_⟩
  · have : n < 2 ^ bl t * 4294967296 ^ z := by
      have h5 : (t + 1) * 4294967296 ^ z ≤ 2 ^ bl t * 4294967296 ^ z := Nat.mul_le_mul_right _ b2
      rw [Nat.add_mul, Nat.one_mul, Nat.mul_comm t] at h5
      omega
    have h6 := Nat.mul_lt_mul_of_pos_right this (Nat.pow_pos (n := s) (by decide : 0 < 2))
    refine Nat.lt_of_lt_of_eq h6 ?_
    rw [Nat.mul_right_comm, e1, Nat.pow_succ, Nat.mul_comm]
  · have h5 : 2 ^ (bl t - 1) * 4294967296 ^ z ≤ n := by
      have := Nat.mul_le_mul_right (4294967296 ^ z) b1
      rw [Nat.mul_comm t] at this
      omega
    have h6 := Nat.mul_le_mul_right (2 ^ s) h5
    have h7 : 4294967296 ^ (z + 1) = 2 * (2 ^ (bl t - 1) * 4294967296 ^ z * 2 ^ s) := by
      rw [Nat.pow_succ, ← e1, e2]; ac_rfl
    rw [h7]
    exact Nat.mul_le_mul_left 2 h6

theorem ct_DivMod {A B : Option Addr} {n m c d : Nat} {l k : List UInt32} (hr : Row nx gt 1 A n (l.map u32V)) (hc : n ≤ c) (hn : n < 10000000) (hs : Row nx gt 1 B m (k.map u32V)) (hd : m ≤ d) (hm : m < 10000000) :
    Ct Try.prog 70 [.slice A n c, .slice B m d] nx gt fun v nx' gt' => DivV nx' gt' (lv l) (lv k) v := by
  have hl : l.length = n := by simpa using hr.len
  have hk : k.length = m := by simpa using hs.len
  refine Ct.of hmx r_modulo_DivMod (by simp [c_modulo_DivMod]) fun b hb => ?_
  have la := lb_len_le.2 (show lv l < 4294967296 ^ n by rw [← hl]; exact lv_lt l)
  have lm := lb_len_le.2 (show lv k < 4294967296 ^ m by rw [← hk]; exact lv_lt k)
  have hF : ∀ q, q < nx → gt q = gt q := fun _ _ => rfl
  simp only [c_modulo_DivMod, ↓gaW, ↓gaV, ↓gaC, ↓gaN, gaP, Nat.reduceEqDiff, Nat.reduceLeDiff, Nat.reduceAdd, Nat.reduceSub, Nat.reduceMul, Int.reduceLT, Int.reduceLE, Int.reduceEq, Int.reduceToNat, Int.reduceAdd, Int.reduceSub, Int.reduceMul, reduceCtorEq, ↓reduceIte]
  refine callK_of (ct_Bare hr hc (by omega)) (fun v n1 g1 l1 k1 hC => ?_) (by omega)
  obtain ⟨A1, a1, c1, rfl, hc1, hl1, r1⟩ := hC
  have hs := hs.keep l1 k1
  have hF : ∀ q, q < nx → g1 q = gt q := fun q hq => (k1 q (by omega)).trans (hF q hq)
  simp only [↓gaW, ↓gaV, ↓gaC, ↓gaN, gaP, Nat.reduceEqDiff, Nat.reduceLeDiff, Nat.reduceAdd, Nat.reduceSub, Nat.reduceMul, Int.reduceLT, Int.reduceLE, Int.reduceEq, Int.reduceToNat, Int.reduceAdd, Int.reduceSub, Int.reduceMul, reduceCtorEq, ↓reduceIte]
  refine callK_of (ct_Bare hs hd (by omega)) (fun v n2 g2 l2 k2 hC => ?_) (by omega)
  obtain ⟨A2, a2, c2, rfl, hc2, hl2, r2⟩ := hC
  have r1 := r1.keep l2 k2
  have hF : ∀ q, q < nx → g2 q = gt q := fun q hq => (k2 q (by omega)).trans (hF q hq)
  simp only [↓gaW, ↓gaV, ↓gaC, ↓gaN, gaP, Nat.reduceEqDiff, Nat.reduceLeDiff, Nat.reduceAdd, Nat.reduceSub, Nat.reduceMul, Int.reduceLT, Int.reduceLE, Int.reduceEq, Int.reduceToNat, Int.reduceAdd, Int.reduceSub, Int.reduceMul, reduceCtorEq, ↓reduceIte]
  by_cases g1 : (a2 : Int) = 0
  · have k0 := lb_nil (show (lb (lv k)).length = 0 by omega)
    simp only [↓gaW, ↓gaV, ↓gaC, ↓gaN, gaP, Nat.reduceEqDiff, Nat.reduceLeDiff, Nat.reduceAdd, Nat.reduceSub, Nat.reduceMul, Int.reduceLT, Int.reduceLE, Int.reduceEq, Int.reduceToNat, Int.reduceAdd, Int.reduceSub, Int.reduceMul, reduceCtorEq, ↓reduceIte, gaE, implies_true, Nat.le_refl, Int.sub_zero, Nat.sub_zero, Int.le_refl, true_or, or_true, g1, decide_true]
    exact ⟨by omega, hF, .inl ⟨k0, rfl⟩⟩
  have k0 : lv k ≠ 0 := fun h => g1 (by rw [h, lb_zero] at hl2; simp at hl2; omega)
  simp only [↓gaW, ↓gaV, ↓gaC, ↓gaN, gaP, Nat.reduceEqDiff, Nat.reduceLeDiff, Nat.reduceAdd, Nat.reduceSub, Nat.reduceMul, Int.reduceLT, Int.reduceLE, Int.reduceEq, Int.reduceToNat, Int.reduceAdd, Int.reduceSub, Int.reduceMul, reduceCtorEq, ↓reduceIte, g1, decide_false]
  refine callK_of (ct_Cmp r1 hc1 (by omega) r2 hc2 (by omega)) (fun v n3 g3 l3 k3 hC => ?_) (by omega)
  rw [lv_lb, lv_lb] at hC
  subst hC
  have r1 := r1.keep l3 k3
  have r2 := r2.keep l3 k3
  have hF : ∀ q, q < nx → g3 q = gt q := fun q hq => (k3 q (by omega)).trans (hF q hq)
  by_cases g2 : cmpI ((lv l : Nat) : Int) ((lv k : Nat) : Int) < 0
  · have hlt : lv l < lv k := by have := (cmpI_neg _ _).1 g2; omega
    simp only [↓gaW, ↓gaV, ↓gaC, ↓gaN, gaP, Nat.reduceEqDiff, Nat.reduceLeDiff, Nat.reduceAdd, Nat.reduceSub, Nat.reduceMul, Int.reduceLT, Int.reduceLE, Int.reduceEq, Int.reduceToNat, Int.reduceAdd, Int.reduceSub, Int.reduceMul, reduceCtorEq, ↓reduceIte, gaE, implies_true, Nat.le_refl, Int.sub_zero, Nat.sub_zero, Int.le_refl, true_or, or_true, g2, decide_true]
    refine ⟨by omega, hF, .inr ⟨k0, _, _, rfl, ?_, ?_⟩⟩
    · rw [Nat.div_eq_of_lt hlt, lb_zero]; exact W32.nil
    · rw [Nat.mod_eq_of_lt hlt]; exact ⟨A1, a1, c1, rfl, hc1, hl1, r1⟩
  simp only [↓gaW, ↓gaV, ↓gaC, ↓gaN, gaP, Nat.reduceEqDiff, Nat.reduceLeDiff, Nat.reduceAdd, Nat.reduceSub, Nat.reduceMul, Int.reduceLT, Int.reduceLE, Int.reduceEq, Int.reduceToNat, Int.reduceAdd, Int.reduceSub, Int.reduceMul, reduceCtorEq, ↓reduceIte, g2, decide_false]
  by_cases g3' : (a2 : Int) = 1
  · obtain ⟨o1, o2⟩ := lb_one (show (lb (lv k)).length = 1 by omega)
    obtain ⟨a, ce, ro, rfl, p1, p2, p3, p4⟩ := w32_cell r2 hl2 (i := 0) (by omega)
    have p4 : ce.getD a.off undef = .int .u32 ((lv k : Nat) : Int) := by rw [o2] at p4; exact p4
    simp only [↓gaW, ↓gaV, ↓gaC, ↓gaN, gaP, Nat.reduceEqDiff, Nat.reduceLeDiff, Nat.reduceAdd, Nat.reduceSub, Nat.reduceMul, Int.reduceLT, Int.reduceLE, Int.reduceEq, Int.reduceToNat, Int.reduceAdd, Int.reduceSub, Int.reduceMul, reduceCtorEq, ↓reduceIte, g3', decide_true, p2, p4]
    repeat refine And.intro (by first | omega | exact p3) ?_
    refine callK_of (ct_small r1 (by omega) o1 (by omega)) (fun v n4 g4 l4 k4 hC => ?_) (by omega)
    obtain ⟨v1, v2, rfl, h1, h2⟩ := hC
    rw [lv_lb] at h1 h2
    simp only [↓gaW, ↓gaV, ↓gaC, ↓gaN, gaP, Nat.reduceEqDiff, Nat.reduceLeDiff, Nat.reduceAdd, Nat.reduceSub, Nat.reduceMul, Int.reduceLT, Int.reduceLE, Int.reduceEq, Int.reduceToNat, Int.reduceAdd, Int.reduceSub, Int.reduceMul, reduceCtorEq, ↓reduceIte, gaE, implies_true, Nat.le_refl, Int.sub_zero, Nat.sub_zero, Int.le_refl, true_or, or_true]
    exact ⟨by omega, by omega, by omega, fun q hq => (k4 q (by omega)).trans (hF q hq), .inr ⟨k0, _, _, rfl, h1, h2⟩⟩
  simp only [↓gaW, ↓gaV, ↓gaC, ↓gaN, gaP, Nat.reduceEqDiff, Nat.reduceLeDiff, Nat.reduceAdd, Nat.reduceSub, Nat.reduceMul, Int.reduceLT, Int.reduceLE, Int.reduceEq, Int.reduceToNat, Int.reduceAdd, Int.reduceSub, Int.reduceMul, reduceCtorEq, ↓reduceIte, g3', decide_false]
  obtain ⟨at', ce, ro, rfl, p1, p2, p3, p4⟩ := w32_cell r2 hl2 (i := a2 - 1) (by omega)
  have q1 : (a2 : Int) - 1 = ((a2 - 1 : Nat) : Int) := by omega
  simp only [q1, i64_w ((a2 - 1 : Nat) : Int) (by omega), asO_e, p2, asC_e, Int.toNat_natCast, p4]
  repeat refine And.intro (by omega) ?_
  refine callK_of (ct_Lead (lt32 _)) (fun v n4 g4 l4 k4 hC => ?_) (by omega)
  subst hC
  have r1 := r1.keep l4 k4
  have r2 := r2.keep l4 k4
  have hF : ∀ q, q < nx → g4 q = gt q := fun q hq => (k4 q (by omega)).trans (hF q hq)
  obtain ⟨hs1, hs2, hs3⟩ := norm (n := lv k) (by omega) hl2
  obtain ⟨s, hsd⟩ : ∃ s, 32 - bl ((lb (lv k)).getD (a2 - 1) 0).toNat = s := ⟨_, rfl⟩
  rw [hsd] at hs1 hs2 hs3 ⊢
  simp only [↓gaW, ↓gaV, ↓gaC, ↓gaN, gaP, Nat.reduceEqDiff, Nat.reduceLeDiff, Nat.reduceAdd, Nat.reduceSub, Nat.reduceMul, Int.reduceLT, Int.reduceLE, Int.reduceEq, Int.reduceToNat, Int.reduceAdd, Int.reduceSub, Int.reduceMul, reduceCtorEq, ↓reduceIte]
  refine callK_of (ct_shifted r1 (by omega) hs1) (fun v n5 g5 l5 k5 hC => ?_) (by omega)
  obtain ⟨w, ⟨q, rfl, hq1, hq2, hq3⟩, hw1, hw2⟩ := hC
  rw [lv_lb] at hw2
  have r2 := r2.keep l5 k5
  have hF : ∀ q, q < nx → g5 q = gt q := fun q hq => (k5 q (by omega)).trans (hF q hq)
  simp only [↓gaW, ↓gaV, ↓gaC, ↓gaN, gaP, Nat.reduceEqDiff, Nat.reduceLeDiff, Nat.reduceAdd, Nat.reduceSub, Nat.reduceMul, Int.reduceLT, Int.reduceLE, Int.reduceEq, Int.reduceToNat, Int.reduceAdd, Int.reduceSub, Int.reduceMul, reduceCtorEq, ↓reduceIte]
  refine callK_of (ct_shifted r2 (by omega) hs1) (fun v n6 g6 l6 k6 hC => ?_) (by omega)
  obtain ⟨wm, ⟨qm, rfl, hm1, hm2, hm3⟩, hm4, hm5⟩ := hC
  rw [lv_lb] at hm5
  have hq3 := (k6 q (by omega)).trans hq3
  have hF : ∀ q, q < nx → g6 q = gt q := fun q hq => (k6 q (by omega)).trans (hF q hq)
  have rm := row_of_block (n := wm.length) hm2 hm3 (Nat.le_refl _)
  rw [List.take_length] at rm
  simp only [↓gaW, ↓gaV, ↓gaC, ↓gaN, gaP, Nat.reduceEqDiff, Nat.reduceLeDiff, Nat.reduceAdd, Nat.reduceSub, Nat.reduceMul, Int.reduceLT, Int.reduceLE, Int.reduceEq, Int.reduceToNat, Int.reduceAdd, Int.reduceSub, Int.reduceMul, reduceCtorEq, ↓reduceIte]
  refine callK_of (ct_BareF rm (Nat.le_refl _) (by omega)) (fun v n7 g7 l7 k7 hC => ?_) (by omega)
  rw [hm5] at hC
  obtain ⟨A3, a3, c3, rfl, hc3, hl3, r3, hfr⟩ := hC
  have hq3 := (k7 q (by omega)).trans hq3
  have hF : ∀ q, q < nx → g7 q = gt q := fun q hq => (k7 q (by omega)).trans (hF q hq)
  -- the numbers
  obtain ⟨M, hM⟩ : ∃ M, lv k * 2 ^ s = M := ⟨_, rfl⟩
  obtain ⟨U, hU⟩ : ∃ U, lv l * 2 ^ s = U := ⟨_, rfl⟩
  rw [hM] at hs2 hs3 r3 hl3
  rw [hU] at hw2
  have h3n : a3 = a2 := by
    have u1 := lb_len_le.2 hs2
    have u2 : ¬ (lb M).length ≤ a2 - 1 := fun hle => by
      have := lb_len_le.1 hle
      have e : 4294967296 ^ a2 = 4294967296 * 4294967296 ^ (a2 - 1) := by rw [← Nat.pow_succ', show (a2 - 1).succ = a2 by omega]
      omega
    omega
  subst h3n
  have hkl : ¬ lv l < lv k := fun h => g2 ((cmpI_neg _ _).2 (by omega))
  have hNn : a3 ≤ a1 := by
    have v1 := lb_len_le.1 (show (lb (lv l)).length ≤ a1 by omega)
    have v2 := lb_len_le.2 (show lv k < 4294967296 ^ a1 by omega)
    omega
  have hq7 : q < n7 := by omega
  have e1 : (w.length : Int) - (a3 : Int) = ((a1 + 1 - a3 : Nat) : Int) := by omega
  obtain ⟨T, hT⟩ : ∃ T, a1 + 1 - a3 = T := ⟨_, rfl⟩
  rw [hT] at e1
  simp only [↓gaW, ↓gaV, ↓gaC, ↓gaN, gaP, Nat.reduceEqDiff, Nat.reduceLeDiff, Nat.reduceAdd, Nat.reduceSub, Nat.reduceMul, Int.reduceLT, Int.reduceLE, Int.reduceEq, Int.reduceToNat, Int.reduceAdd, Int.reduceSub, Int.reduceMul, reduceCtorEq, ↓reduceIte, e1, i64_w (T : Int) (by omega), zeros32, i64_w ((T : Int) - 1) (by omega)]
  repeat refine And.intro (by first | omega | (simp; omega)) ?_
  have hM0 : 0 < M := by have := Nat.pow_pos (n := a3) (by decide : 0 < 4294967296); omega
  have hS0 : 0 < 2 ^ s := Nat.pow_pos (by decide)
  refine loop_of (fun j f mm => ∃ (y x : Nat) (g : Nat → Option Blk) (u qs : List UInt32), j = y ∧ y ≤ T ∧ f 1 = .slice A3 a3 c3 ∧ f 4 = .slice (some ⟨n7, 0, none⟩) T T ∧ f 7 = .int .i64 (s : Nat) ∧ f 8 = .slice (some ⟨q, 0, none⟩) w.length w.length ∧ f 9 = .int .i64 (a3 : Nat) ∧ f 10 = .int .i64 ((y : Int) - 1) ∧ mm = ⟨x, b, g⟩ ∧ n7 + 1 ≤ x ∧
      (∀ p, p < n7 → p ≠ q → g p = g7 p) ∧ g q = some (.cells (u.map u32V) false) ∧ g n7 = some (.cells (qs.map u32V) false) ∧ u.length = a1 + 1 ∧ qs.length = T ∧ lv u + 4294967296 ^ y * (lv (qs.drop y) * M) = U ∧ lv (u.drop y) < M ∧ ∀ j, j < y → qs.getD j 0 = 0) T
    ⟨T, n7 + 1, _, w, List.replicate T 0, rfl, Nat.le_refl _, rfl, rfl, rfl, rfl, rfl, rfl, rfl, Nat.le_refl _, fun p hp _ => by simp only [upd_e]; rw [if_neg (by omega)], by simp only [upd_e]; rw [if_neg (by omega), hq3], by simp only [upd_e, if_true], hw1, by simp, ?_, ?_, fun j hj => by simp [List.getD_eq_getElem?_getD, List.getElem?_replicate]; split <;> rfl⟩ ?_
  · rw [List.drop_of_length_le (by simp), hw2]; simp [lv]
  · have sp := lv_split w T (by omega)
    rw [hw2] at sp
    rcases Nat.lt_or_ge (lv (w.drop T)) M with h | h
    · exact h
    · exfalso
      have h1 : 4294967296 ^ T * M ≤ 4294967296 ^ T * lv (w.drop T) := Nat.mul_le_mul_left _ h
      have h2 : 4294967296 ^ T * 4294967296 ^ a3 ≤ 4294967296 ^ T * (2 * M) := Nat.mul_le_mul_left _ hs3
      have h3 : 4294967296 ^ T * 4294967296 ^ a3 = 4294967296 * 4294967296 ^ a1 := by rw [← Nat.pow_add, show T + a3 = a1 + 1 by omega, Nat.pow_succ']
      have h4 : lv l < 4294967296 ^ a1 := lb_len_le.1 (by omega)
      have h5 : U < 4294967296 ^ a1 * 2 ^ s := by rw [← hU]; exact Nat.mul_lt_mul_of_pos_right h4 hS0
      have h6 : 4294967296 ^ a1 * 2 ^ s ≤ 4294967296 ^ a1 * 2 ^ 31 := Nat.mul_le_mul_left _ (Nat.pow_le_pow_right (by decide) (by omega))
      rw [show 4294967296 ^ T * (2 * M) = 2 * (4294967296 ^ T * M) by ac_rfl] at h2
      omega
  rintro j f mm ⟨y, x, g, u, qs, rfl, hy, r1', r4', r7', r8', r9', r10', rfl, hx, hg, hgq, hgn, hu, hqs, he, hlt, hz⟩
  rcases Nat.eq_zero_or_pos j with rfl | hj
  · rw [List.drop_zero, Nat.pow_zero, Nat.one_mul] at he
    rw [List.drop_zero] at hlt
    have hqv : lv qs = lv l / lv k := by
      have h1 : lv qs = U / M := by rw [← he, Nat.add_mul_div_right _ _ hM0, Nat.div_eq_of_lt hlt, Nat.zero_add]
      rw [h1, ← hU, ← hM, Nat.mul_div_mul_right _ _ hS0]
    have huv : lv u = lv l % lv k * 2 ^ s := by
      have h1 : lv u = U % M := by rw [← he, Nat.add_mul_mod_self_right, Nat.mod_eq_of_lt hlt]
      rw [h1, ← hU, ← hM, Nat.mul_mod_mul_right]
    have hut : lv (u.take a3) = lv u := by
      have sp := lv_split u a3 (by omega)
      have : lv (u.drop a3) = 0 := by
        rcases Nat.eq_zero_or_pos (lv (u.drop a3)) with h | h
        · exact h
        · have := Nat.le_mul_of_pos_right (4294967296 ^ a3) h; omega
      rw [this, Nat.mul_zero, Nat.add_zero] at sp
      exact sp.symm
    simp only [↓gaW, ↓gaV, ↓gaC, ↓gaN, gaP, Nat.reduceEqDiff, Nat.reduceLeDiff, Nat.reduceAdd, Nat.reduceSub, Nat.reduceMul, Int.reduceLT, Int.reduceLE, Int.reduceEq, Int.reduceToNat, Int.reduceAdd, Int.reduceSub, Int.reduceMul, reduceCtorEq, ↓reduceIte, r1', r4', r7', r8', r9', r10', show ((0 : Nat) : Int) - 1 = -1 from rfl, show ¬ (0 : Int) ≤ -1 by omega, decide_false, loopK_e]
    refine callQ_of (ct_BareF (Row.w32 (by omega) hgn hqs) (Nat.le_refl _) (by omega)) (fun v n8 g8 l8 k8 hC => ?_)
    rw [hqv] at hC
    obtain ⟨A5, a5, c5, rfl, hc5, hl5, r5, hf5⟩ := hC
    have gq8 := (k8 q (by omega)).trans hgq
    simp only [↓gaW, ↓gaV, ↓gaC, ↓gaN, gaP, Nat.reduceEqDiff, Nat.reduceLeDiff, Nat.reduceAdd, Nat.reduceSub, Nat.reduceMul, Int.reduceLT, Int.reduceLE, Int.reduceEq, Int.reduceToNat, Int.reduceAdd, Int.reduceSub, Int.reduceMul, reduceCtorEq, ↓reduceIte, r7', r8', r9']
    repeat refine And.intro (by first | omega | (simp; done)) ?_
    refine callW_of (ct_back (n := a3) (by omega) gq8 (by omega) (by omega) (by omega) hs1) (fun v n9 g9 l9 k9 hC => ?_) (by omega) (by omega)
    rw [hut, huv, Nat.mul_div_cancel _ hS0] at hC
    simp only [↓gaW, ↓gaV, ↓gaC, ↓gaN, gaP, Nat.reduceEqDiff, Nat.reduceLeDiff, Nat.reduceAdd, Nat.reduceSub, Nat.reduceMul, Int.reduceLT, Int.reduceLE, Int.reduceEq, Int.reduceToNat, Int.reduceAdd, Int.reduceSub, Int.reduceMul, reduceCtorEq, ↓reduceIte, gaE, implies_true, Nat.le_refl, Int.sub_zero, Nat.sub_zero, Int.le_refl, true_or, or_true]
    refine ⟨by omega, fun p hp => ?_, .inr ⟨k0, _, _, rfl, ⟨A5, a5, c5, rfl, hc5, hl5, r5.keepA l9 fun h a ha => ?_⟩, hC⟩⟩
    · rw [k9 p (by omega) (by omega), k8 p (by omega), hg p (by omega) (by omega), hF p hp]
    · obtain ⟨a', _, _, e1, e2, _⟩ := r5.cells (by omega)
      rw [ha] at e1
      injection e1 with e1
      subst e1
      exact k9 _ e2 (by have := hf5 h a ha; omega)
  · obtain ⟨z, rfl⟩ : ∃ z, j = z + 1 := ⟨j - 1, by omega⟩
    rw [show ((z + 1 : Nat) : Int) - 1 = (z : Int) by omega] at r10'
    refine (show RC.vc Try.prog (.seq _ (.seq divB _)) _ _ (D Try.prog _) from ?_)
    simp only [↓gaW, ↓gaV, ↓gaC, ↓gaN, gaP, Nat.reduceEqDiff, Nat.reduceLeDiff, Nat.reduceAdd, Nat.reduceSub, Nat.reduceMul, Int.reduceLT, Int.reduceLE, Int.reduceEq, Int.reduceToNat, Int.reduceAdd, Int.reduceSub, Int.reduceMul, reduceCtorEq, ↓reduceIte, r10', show (0 : Int) ≤ (z : Int) by omega, decide_true]
    obtain ⟨am, _, _, rfl, m1, m2, _⟩ := r3.cells (by omega)
    have hamq : n6 ≤ am.block := hfr (by omega) am rfl
    have r3x : Row x g 1 (some am) a3 ((lb M).map u32V) := r3.keepA (by omega) fun _ a ha => by
      injection ha with ha
      subst ha
      exact hg _ m1 (by omega)
    refine div_round (N := w.length) (c3 := c3) (T := T) (M := M) (U := U) (u := u) (qs := qs) (q := q) (n7 := n7) (by omega) hq7 (by omega) (by simp only [↓gaW, ↓gaV, ↓gaC, ↓gaN, gaP, Nat.reduceEqDiff, Nat.reduceLeDiff, Nat.reduceAdd, Nat.reduceSub, Nat.reduceMul, Int.reduceLT, Int.reduceLE, Int.reduceEq, Int.reduceToNat, Int.reduceAdd, Int.reduceSub, Int.reduceMul, reduceCtorEq, ↓reduceIte, r1']) (by simp only [↓gaW, ↓gaV, ↓gaC, ↓gaN, gaP, Nat.reduceEqDiff, Nat.reduceLeDiff, Nat.reduceAdd, Nat.reduceSub, Nat.reduceMul, Int.reduceLT, Int.reduceLE, Int.reduceEq, Int.reduceToNat, Int.reduceAdd, Int.reduceSub, Int.reduceMul, reduceCtorEq, ↓reduceIte, r4']) (by simp only [↓gaW, ↓gaV, ↓gaC, ↓gaN, gaP, Nat.reduceEqDiff, Nat.reduceLeDiff, Nat.reduceAdd, Nat.reduceSub, Nat.reduceMul, Int.reduceLT, Int.reduceLE, Int.reduceEq, Int.reduceToNat, Int.reduceAdd, Int.reduceSub, Int.reduceMul, reduceCtorEq, ↓reduceIte, r8']) (by simp only [↓gaW, ↓gaV, ↓gaC, ↓gaN, gaP, Nat.reduceEqDiff, Nat.reduceLeDiff, Nat.reduceAdd, Nat.reduceSub, Nat.reduceMul, Int.reduceLT, Int.reduceLE, Int.reduceEq, Int.reduceToNat, Int.reduceAdd, Int.reduceSub, Int.reduceMul, reduceCtorEq, ↓reduceIte, r9']) (by simp only [↓gaW, ↓gaV, ↓gaC, ↓gaN, gaP, Nat.reduceEqDiff, Nat.reduceLeDiff, Nat.reduceAdd, Nat.reduceSub, Nat.reduceMul, Int.reduceLT, Int.reduceLE, Int.reduceEq, Int.reduceToNat, Int.reduceAdd, Int.reduceSub, Int.reduceMul, reduceCtorEq, ↓reduceIte, r10']) hgq hgn (by omega) (by omega) hqs (by omega) (by omega) (by omega) (by omega) r3x hl3 (by omega) hM0 hs2 hs3 he hlt (hz z (by omega)) ?_
    intro f' x' g' u' qs' e1' e4' e7' e8' e9' e10' lx kx gq' gn' hu' hqs' he' hlt' hz'
    simp only [↓gaW, ↓gaV, ↓gaC, ↓gaN, gaP, Nat.reduceEqDiff, Nat.reduceLeDiff, Nat.reduceAdd, Nat.reduceSub, Nat.reduceMul, Int.reduceLT, Int.reduceLE, Int.reduceEq, Int.reduceToNat, Int.reduceAdd, Int.reduceSub, Int.reduceMul, reduceCtorEq, ↓reduceIte] at e1' e4' e7' e8' e9' e10'
    rw [r1'] at e1'
    rw [r4'] at e4'
    rw [r7'] at e7'
    rw [r8'] at e8'
    rw [r9'] at e9'
    rw [r10'] at e10'
    simp only [↓gaW, ↓gaV, ↓gaC, ↓gaN, gaP, Nat.reduceEqDiff, Nat.reduceLeDiff, Nat.reduceAdd, Nat.reduceSub, Nat.reduceMul, Int.reduceLT, Int.reduceLE, Int.reduceEq, Int.reduceToNat, Int.reduceAdd, Int.reduceSub, Int.reduceMul, reduceCtorEq, ↓reduceIte, e10', i64_w ((z : Int) - 1) (by omega), loopK_n]
    refine ⟨z, by omega, z, x', g', u', qs', rfl, by omega, ?_⟩
    refine ⟨e1', e4', e7', e8', e9', rfl, rfl, by omega, fun p hp hpq => ?_, gq', gn', by omega, hqs', he', hlt', fun j hj => (hz' j hj).trans (hz j (by omega))⟩
    rw [kx p (by omega) hpq (by omega), hg p hp hpq]
end
end Go.Ga

namespace Go.Ga
open Go Go.Proofs
set_option linter.unusedSimpArgs false
set_option linter.unusedVariables false
set_option maxRecDepth 100000
attribute [local irreducible] appendK

theorem word_bit (l : List UInt32) (k : Nat) : (l.getD (k / 32) 0).toNat / 2 ^ (k % 32) % 2 = lv l / 2 ^ k % 2 := by
  have hr : k % 32 < 32 := Nat.mod_lt _ (by decide)
  have e1 : (2 : Nat) ^ k = 4294967296 ^ (k / 32) * 2 ^ (k % 32) := by
    have e : (4294967296 : Nat) = 2 ^ 32 := by decide
    rw [e, ← Nat.pow_mul, ← Nat.pow_add, Nat.div_add_mod]
  have e2 : (4294967296 : Nat) = 2 ^ (k % 32) * (2 * 2 ^ (31 - k % 32)) := by
    rw [← Nat.pow_succ', ← Nat.pow_add, show k % 32 + (31 - k % 32).succ = 32 by omega]
  rw [lv_get, e1, ← Nat.div_div_eq_div_mul]
  generalize lv l / 4294967296 ^ (k / 32) = Y
  rw [e2, Nat.mod_mul_right_div_self, Nat.mod_mul_right_mod]

theorem pow_bit (a e m j : Nat) : a ^ (e / 2 ^ j) % m = if e / 2 ^ j % 2 = 1 then (a ^ (e / 2 ^ (j + 1)) % m * (a ^ (e / 2 ^ (j + 1)) % m) % m) * (a % m) % m else a ^ (e / 2 ^ (j + 1)) % m * (a ^ (e / 2 ^ (j + 1)) % m) % m := by
  have h : e / 2 ^ j = 2 * (e / 2 ^ (j + 1)) + e / 2 ^ j % 2 := by
    rw [Nat.pow_succ, ← Nat.div_div_eq_div_mul]; omega
  generalize e / 2 ^ (j + 1) = q at *
  generalize e / 2 ^ j = p at *
  split
  · rename_i hb
    rw [h, hb, Nat.pow_succ, Nat.two_mul, Nat.pow_add]
    simp only [Nat.mul_mod, Nat.mod_mod]
  · rw [h, show p % 2 = 0 by omega, Nat.add_zero, Nat.two_mul, Nat.pow_add]
    simp only [Nat.mul_mod, Nat.mod_mod]

/-- What is left of a number, and whether it may be asked. -/
def ModV (nx : Nat) (gt : Nat → Option Blk) (r m : Nat) (v : Value) : Prop :=
  (m = 0 ∧ v = .tuple #[.slice none 0 0, .bool false]) ∨ (m ≠ 0 ∧ ∃ v1, v = .tuple #[v1, .bool true] ∧ W32 nx gt v1 (lb (r % m)))

theorem mod_len {x : Nat} {t : List UInt32} {h : Nat} (h0 : lv t ≠ 0) (ht : t.length ≤ h) : (lb (x % lv t)).length ≤ h := by
  refine lb_len_le.2 ?_
  have h1 := Nat.mod_lt x (Nat.pos_of_ne_zero h0)
  have h2 := lv_lt' ht
  omega

section
variable {nx : Nat} {gt : Nat → Option Blk}

theorem ct_mMul {A B E : Option Addr} {n m h c d e : Nat} {l k t : List UInt32} (hr : Row nx gt 1 A n (l.map u32V)) (hn : n < 4000000) (hs : Row nx gt 1 B m (k.map u32V)) (hm : m < 4000000) (ht : Row nx gt 1 E h (t.map u32V)) (he : h ≤ e) (hh : h < 4000000) :
    Ct Try.prog 72 [.slice A n c, .slice B m d, .slice E h e] nx gt fun v nx' gt' => ModV nx' gt' (lv l * lv k) (lv t) v := by
  have hl : l.length = n := by simpa using hr.len
  have hk : k.length = m := by simpa using hs.len
  refine Ct.of hmx r_modulo_Mul (by simp [c_modulo_Mul]) fun b hb => ?_
  have hF : ∀ q, q < nx → gt q = gt q := fun _ _ => rfl
  simp only [c_modulo_Mul, ↓gaW, ↓gaV, ↓gaC, ↓gaN, gaP, Nat.reduceEqDiff, Nat.reduceLeDiff, Nat.reduceAdd, Nat.reduceSub, Nat.reduceMul, Int.reduceLT, Int.reduceLE, Int.reduceEq, Int.reduceToNat, Int.reduceAdd, Int.reduceSub, Int.reduceMul, reduceCtorEq, ↓reduceIte]
  refine callK_of (ct_Mul hr (by omega) hs (by omega)) (fun v n1 g1 l1 k1 hC => ?_) (by omega)
  obtain ⟨A1, a1, c1, rfl, hc1, hl1, r1⟩ := hC
  have ht := ht.keep l1 k1
  have hF : ∀ q, q < nx → g1 q = gt q := fun q hq => (k1 q (by omega)).trans (hF q hq)
  simp only [↓gaW, ↓gaV, ↓gaC, ↓gaN, gaP, Nat.reduceEqDiff, Nat.reduceLeDiff, Nat.reduceAdd, Nat.reduceSub, Nat.reduceMul, Int.reduceLT, Int.reduceLE, Int.reduceEq, Int.reduceToNat, Int.reduceAdd, Int.reduceSub, Int.reduceMul, reduceCtorEq, ↓reduceIte]
  have hlen : (lb (lv l * lv k)).length ≤ n + m := lb_len_le.2 (lt_mul (lv_lt' (by omega)) (lv_lt' (by omega)))
  refine callK_of (ct_DivMod r1 hc1 (by omega) ht he (by omega)) (fun v n2 g2 l2 k2 hC => ?_) (by omega)
  rw [lv_lb] at hC
  rcases hC with ⟨h0, rfl⟩ | ⟨h0, v1, v2, rfl, hq, hw⟩
  · simp only [↓gaW, ↓gaV, ↓gaC, ↓gaN, gaP, Nat.reduceEqDiff, Nat.reduceLeDiff, Nat.reduceAdd, Nat.reduceSub, Nat.reduceMul, Int.reduceLT, Int.reduceLE, Int.reduceEq, Int.reduceToNat, Int.reduceAdd, Int.reduceSub, Int.reduceMul, reduceCtorEq, ↓reduceIte, gaE, implies_true, Nat.le_refl, Int.sub_zero, Nat.sub_zero, Int.le_refl, true_or, or_true]
    repeat refine And.intro (by first | omega | (simp; done) | (simp; omega) | exact all1 rfl) ?_
    exact ⟨fun q hq => (k2 q (by omega)).trans (hF q hq), .inl ⟨h0, rfl⟩⟩
  · simp only [↓gaW, ↓gaV, ↓gaC, ↓gaN, gaP, Nat.reduceEqDiff, Nat.reduceLeDiff, Nat.reduceAdd, Nat.reduceSub, Nat.reduceMul, Int.reduceLT, Int.reduceLE, Int.reduceEq, Int.reduceToNat, Int.reduceAdd, Int.reduceSub, Int.reduceMul, reduceCtorEq, ↓reduceIte, gaE, implies_true, Nat.le_refl, Int.sub_zero, Nat.sub_zero, Int.le_refl, true_or, or_true]
    repeat refine And.intro (by first | omega | (simp; done) | (simp; omega) | exact all1 rfl) ?_
    exact ⟨fun q hq => (k2 q (by omega)).trans (hF q hq), .inr ⟨h0, _, rfl, hw⟩⟩

theorem ct_mExp {A B E : Option Addr} {n m h c d e : Nat} {l k t : List UInt32} (hr : Row nx gt 1 A n (l.map u32V)) (hc : n ≤ c) (hn : n < 4000000) (hs : Row nx gt 1 B m (k.map u32V)) (hd : m ≤ d) (hm : m < 4000000) (ht : Row nx gt 1 E h (t.map u32V)) (he : h ≤ e) (hh : h < 4000000) :
    Ct Try.prog 45 [.slice A n c, .slice B m d, .slice E h e] nx gt fun v nx' gt' => ModV nx' gt' (lv l ^ lv k) (lv t) v := by
  have hl : l.length = n := by simpa using hr.len
  have hk : k.length = m := by simpa using hs.len
  have htl : t.length = h := by simpa using ht.len
  refine Ct.of hmx r_modulo_Exp (by simp [c_modulo_Exp]) fun b hb => ?_
  have hF : ∀ q, q < nx → gt q = gt q := fun _ _ => rfl
  have ebl : bl (lv k) ≤ 32 * m := by
    refine bl_le.2 ?_
    have := lv_lt' (Nat.le_of_eq hk)
    rwa [show (4294967296 : Nat) = 2 ^ 32 by decide, ← Nat.pow_mul] at this
  simp only [c_modulo_Exp, ↓gaW, ↓gaV, ↓gaC, ↓gaN, gaP, Nat.reduceEqDiff, Nat.reduceLeDiff, Nat.reduceAdd, Nat.reduceSub, Nat.reduceMul, Int.reduceLT, Int.reduceLE, Int.reduceEq, Int.reduceToNat, Int.reduceAdd, Int.reduceSub, Int.reduceMul, reduceCtorEq, ↓reduceIte, List.getD_cons_zero, List.getD_cons_succ, fillL, splice, List.take_zero, List.drop_zero, List.drop_succ_cons, List.take_succ_cons, List.drop_nil, List.take_nil]
  have r0 : Row (nx + 1) (upd gt nx (some (.cells [.int .u32 1] false))) 1 (some ⟨nx, 0, none⟩) 1 (([1] : List UInt32).map u32V) := Row.w32 (ro := false) (by omega) (by simp [upd]; rfl) rfl
  have kx : ∀ q, q < nx → upd gt nx (some (.cells [.int .u32 1] false)) q = gt q := fun q hq => by simp only [upd_e]; rw [if_neg (by omega)]
  have hr := hr.keep (nx' := nx + 1) (by omega) kx
  have hs := hs.keep (nx' := nx + 1) (by omega) kx
  have ht := ht.keep (nx' := nx + 1) (by omega) kx
  refine callK_of (ct_DivMod r0 (by omega) (by omega) ht he (by omega)) (fun v n1 g1 l1 k1 hC => ?_) (by omega)
  rw [show lv [1] = 1 by decide] at hC
  have hF : ∀ q, q < nx → g1 q = gt q := fun q hq => (k1 q (by omega)).trans (kx q hq)
  have hr := hr.keep l1 k1
  have hs := hs.keep l1 k1
  have ht := ht.keep l1 k1
  rcases hC with ⟨h0, rfl⟩ | ⟨h0, v1, v2, rfl, hq, hw⟩
  · simp only [↓gaW, ↓gaV, ↓gaC, ↓gaN, gaP, Nat.reduceEqDiff, Nat.reduceLeDiff, Nat.reduceAdd, Nat.reduceSub, Nat.reduceMul, Int.reduceLT, Int.reduceLE, Int.reduceEq, Int.reduceToNat, Int.reduceAdd, Int.reduceSub, Int.reduceMul, reduceCtorEq, ↓reduceIte, gaE, implies_true, Nat.le_refl, Int.sub_zero, Nat.sub_zero, Int.le_refl, true_or, or_true]
    repeat refine And.intro (by first | omega | (simp; done) | (simp; omega) | exact all1 rfl) ?_
    first | exact ⟨hF, .inl ⟨h0, rfl⟩⟩ | exact .inl ⟨h0, rfl⟩
  simp only [↓gaW, ↓gaV, ↓gaC, ↓gaN, gaP, Nat.reduceEqDiff, Nat.reduceLeDiff, Nat.reduceAdd, Nat.reduceSub, Nat.reduceMul, Int.reduceLT, Int.reduceLE, Int.reduceEq, Int.reduceToNat, Int.reduceAdd, Int.reduceSub, Int.reduceMul, reduceCtorEq, ↓reduceIte, Bool.not_true]
  repeat refine And.intro (by first | omega | (simp; done) | (simp; omega) | exact all1 rfl) ?_
  refine callK_of (ct_DivMod hr hc (by omega) ht he (by omega)) (fun v n3 g3 l3 k3 hC => ?_) (by omega)
  have hs := hs.keep l3 k3
  have ht := ht.keep l3 k3
  have hw := hw.keep l3 k3
  have hF : ∀ q, q < nx → g3 q = gt q := fun q hq => (k3 q (by omega)).trans (hF q hq)
  rcases hC with ⟨h0', rfl⟩ | ⟨_, v3, v4, rfl, hq3, hw3⟩
  · exact absurd h0' h0
  simp only [↓gaW, ↓gaV, ↓gaC, ↓gaN, gaP, Nat.reduceEqDiff, Nat.reduceLeDiff, Nat.reduceAdd, Nat.reduceSub, Nat.reduceMul, Int.reduceLT, Int.reduceLE, Int.reduceEq, Int.reduceToNat, Int.reduceAdd, Int.reduceSub, Int.reduceMul, reduceCtorEq, ↓reduceIte]
  repeat refine And.intro (by first | omega | (simp; done) | (simp; omega) | exact all1 rfl) ?_
  refine callK_of (ct_Len hs hd (by omega)) (fun v n4 g4 l4 k4 hC => ?_) (by omega)
  subst hC
  have hs := hs.keep l4 k4
  have ht := ht.keep l4 k4
  have hw := hw.keep l4 k4
  have hw3 := hw3.keep l4 k4
  have hF : ∀ q, q < nx → g4 q = gt q := fun q hq => (k4 q (by omega)).trans (hF q hq)
  simp only [↓gaW, ↓gaV, ↓gaC, ↓gaN, gaP, Nat.reduceEqDiff, Nat.reduceLeDiff, Nat.reduceAdd, Nat.reduceSub, Nat.reduceMul, Int.reduceLT, Int.reduceLE, Int.reduceEq, Int.reduceToNat, Int.reduceAdd, Int.reduceSub, Int.reduceMul, reduceCtorEq, ↓reduceIte, i64_w ((bl (lv k) : Int) - 1) (by omega)]
  refine loop_of (fun j f mm => ∃ (y x : Nat) (g : Nat → Option Blk), j = y ∧ y ≤ bl (lv k) ∧ W32 x g (f 0) (lb (lv l % lv t)) ∧ f 1 = .slice B m d ∧ f 2 = .slice E h e ∧ W32 x g (f 9) (lb (lv l ^ (lv k / 2 ^ y) % lv t)) ∧ f 11 = .int .i64 ((y : Int) - 1) ∧ mm = ⟨x, b, g⟩ ∧ nx ≤ x ∧
      (∀ p, p < nx → g p = gt p) ∧ Row x g 1 B m (k.map u32V) ∧ Row x g 1 E h (t.map u32V)) (bl (lv k))
    ⟨_, n4, g4, rfl, Nat.le_refl _, by simp only [↓gaW, ↓gaV, ↓gaC, ↓gaN, gaP, Nat.reduceEqDiff, Nat.reduceLeDiff, Nat.reduceAdd, Nat.reduceSub, Nat.reduceMul, Int.reduceLT, Int.reduceLE, Int.reduceEq, Int.reduceToNat, Int.reduceAdd, Int.reduceSub, Int.reduceMul, reduceCtorEq, ↓reduceIte]; exact hw3, by simp only [↓gaW, ↓gaV, ↓gaC, ↓gaN, gaP, Nat.reduceEqDiff, Nat.reduceLeDiff, Nat.reduceAdd, Nat.reduceSub, Nat.reduceMul, Int.reduceLT, Int.reduceLE, Int.reduceEq, Int.reduceToNat, Int.reduceAdd, Int.reduceSub, Int.reduceMul, reduceCtorEq, ↓reduceIte], by simp only [↓gaW, ↓gaV, ↓gaC, ↓gaN, gaP, Nat.reduceEqDiff, Nat.reduceLeDiff, Nat.reduceAdd, Nat.reduceSub, Nat.reduceMul, Int.reduceLT, Int.reduceLE, Int.reduceEq, Int.reduceToNat, Int.reduceAdd, Int.reduceSub, Int.reduceMul, reduceCtorEq, ↓reduceIte], by simp only [↓gaW, ↓gaV, ↓gaC, ↓gaN, gaP, Nat.reduceEqDiff, Nat.reduceLeDiff, Nat.reduceAdd, Nat.reduceSub, Nat.reduceMul, Int.reduceLT, Int.reduceLE, Int.reduceEq, Int.reduceToNat, Int.reduceAdd, Int.reduceSub, Int.reduceMul, reduceCtorEq, ↓reduceIte]; rw [Nat.div_eq_of_lt (bl_lt _), Nat.pow_zero]; exact hw, by simp only [↓gaW, ↓gaV, ↓gaC, ↓gaN, gaP, Nat.reduceEqDiff, Nat.reduceLeDiff, Nat.reduceAdd, Nat.reduceSub, Nat.reduceMul, Int.reduceLT, Int.reduceLE, Int.reduceEq, Int.reduceToNat, Int.reduceAdd, Int.reduceSub, Int.reduceMul, reduceCtorEq, ↓reduceIte], rfl, by omega, hF, hs, ht⟩ ?_
  rintro j f mm ⟨y, x, g, rfl, hy, w0, h1, h2, w9, h11, rfl, hx, hF, hs, ht⟩
  rcases Nat.eq_zero_or_pos j with rfl | hj
  · simp only [↓gaW, ↓gaV, ↓gaC, ↓gaN, gaP, Nat.reduceEqDiff, Nat.reduceLeDiff, Nat.reduceAdd, Nat.reduceSub, Nat.reduceMul, Int.reduceLT, Int.reduceLE, Int.reduceEq, Int.reduceToNat, Int.reduceAdd, Int.reduceSub, Int.reduceMul, reduceCtorEq, ↓reduceIte, gaE, implies_true, Nat.le_refl, Int.sub_zero, Nat.sub_zero, Int.le_refl, true_or, or_true, h11, show ((0 : Nat) : Int) - 1 = -1 from rfl, show ¬ (0 : Int) ≤ -1 by omega, decide_false, loopK_e]
    rw [Nat.pow_zero, Nat.div_one] at w9
    repeat refine And.intro (by first | omega | (simp; done) | (simp; omega) | exact all1 rfl) ?_
    first | exact ⟨hF, .inr ⟨h0, _, rfl, w9⟩⟩ | exact .inr ⟨h0, _, rfl, w9⟩
  · obtain ⟨z, rfl⟩ : ∃ z, j = z + 1 := ⟨j - 1, by omega⟩
    rw [show ((z + 1 : Nat) : Int) - 1 = (z : Int) by omega] at h11
    obtain ⟨a0, s0, c0, e0, hc0, hl0, r0⟩ := w0
    obtain ⟨a9, s9, c9, e9, hc9, hl9, r9⟩ := w9
    have z0 := mod_len (x := lv l) h0 (Nat.le_of_eq htl)
    have z9 := mod_len (x := lv l ^ (lv k / 2 ^ (z + 1))) h0 (Nat.le_of_eq htl)
    simp only [↓gaW, ↓gaV, ↓gaC, ↓gaN, gaP, Nat.reduceEqDiff, Nat.reduceLeDiff, Nat.reduceAdd, Nat.reduceSub, Nat.reduceMul, Int.reduceLT, Int.reduceLE, Int.reduceEq, Int.reduceToNat, Int.reduceAdd, Int.reduceSub, Int.reduceMul, reduceCtorEq, ↓reduceIte, h1, h2, h11, e9, show (0 : Int) ≤ (z : Int) by omega, decide_true]
    refine callK_of (ct_mMul r9 (by omega) r9 (by omega) ht he hh) (fun v n5 g5 l5 k5 hC => ?_) (by omega)
    rcases hC with ⟨h0', rfl⟩ | ⟨_, v5, rfl, hw5⟩
    · exact absurd h0' h0
    have hs := hs.keep l5 k5
    have ht := ht.keep l5 k5
    have r0 := r0.keep l5 k5
    have hF : ∀ q, q < nx → g5 q = gt q := fun q hq => (k5 q (by omega)).trans (hF q hq)
    rw [lv_lb] at hw5
    obtain ⟨a, ce, ro, rfl, p1, p2, p3, p4⟩ := w32_cell hs hk (i := z / 32) (by omega)
    have d1 : (z : Int).tdiv 32 = ((z / 32 : Nat) : Int) := by rw [Int.tdiv_eq_ediv_of_nonneg (by omega)]; omega
    have d2 : (z : Int).tmod 32 = ((z % 32 : Nat) : Int) := by rw [Int.tmod_eq_emod_of_nonneg (by omega)]; omega
    have d3 : shrV .u32 ((((k.getD (z / 32) 0).toNat : Nat)) : Int) ((z % 32 : Nat) : Int) = (((k.getD (z / 32) 0).toNat / 2 ^ (z % 32) : Nat) : Int) := shr_nat (k := .u32) _ _ (by show _ ≤ 32; omega)
    have d4 := lt32 (k.getD (z / 32) 0)
    have d5 : (k.getD (z / 32) 0).toNat / 2 ^ (z % 32) ≤ (k.getD (z / 32) 0).toNat := Nat.div_le_self _ _
    have d6 : bitsV .and .u32 (((k.getD (z / 32) 0).toNat / 2 ^ (z % 32) : Nat) : Int) 1 = ((lv k / 2 ^ z % 2 : Nat) : Int) := by
      rw [show (1 : Int) = ((1 : Nat) : Int) from rfl, and_u32 (by omega) (by omega), Nat.and_one_is_mod, word_bit]
    simp only [↓gaW, ↓gaV, ↓gaC, ↓gaN, gaP, Nat.reduceEqDiff, Nat.reduceLeDiff, Nat.reduceAdd, Nat.reduceSub, Nat.reduceMul, Int.reduceLT, Int.reduceLE, Int.reduceEq, Int.reduceToNat, Int.reduceAdd, Int.reduceSub, Int.reduceMul, reduceCtorEq, ↓reduceIte, h1, h11, p2, d1, d2, i64_w ((z / 32 : Nat) : Int) (by omega), Int.toNat_natCast, p4, d3, d6]
    repeat refine And.intro (by first | omega | (simp; done) | (simp; omega) | exact all1 rfl) ?_
    have hpb := pow_bit (lv l) (lv k) (lv t) z
    obtain ⟨a5, s5, c5, rfl, hc5, hl5, r5⟩ := hw5
    have z5 := mod_len (x := lv l ^ (lv k / 2 ^ (z + 1)) % lv t * (lv l ^ (lv k / 2 ^ (z + 1)) % lv t)) h0 (Nat.le_of_eq htl)
    by_cases hbt : lv k / 2 ^ z % 2 = 1
    · rw [if_pos hbt] at hpb
      simp only [↓gaW, ↓gaV, ↓gaC, ↓gaN, gaP, Nat.reduceEqDiff, Nat.reduceLeDiff, Nat.reduceAdd, Nat.reduceSub, Nat.reduceMul, Int.reduceLT, Int.reduceLE, Int.reduceEq, Int.reduceToNat, Int.reduceAdd, Int.reduceSub, Int.reduceMul, reduceCtorEq, ↓reduceIte, hbt, decide_true, e0, h2]
      repeat refine And.intro (by first | omega | (simp; done) | (simp; omega) | exact all1 rfl) ?_
      refine callK_of (ct_mMul r5 (by omega) r0 (by omega) ht he hh) (fun v n6 g6 l6 k6 hC => ?_) (by omega)
      rcases hC with ⟨h0', rfl⟩ | ⟨_, v6, rfl, hw6⟩
      · exact absurd h0' h0
      have hs := hs.keep l6 k6
      have ht := ht.keep l6 k6
      have r0 := r0.keep l6 k6
      have hF : ∀ q, q < nx → g6 q = gt q := fun q hq => (k6 q (by omega)).trans (hF q hq)
      rw [lv_lb, lv_lb, ← hpb] at hw6
      simp only [↓gaW, ↓gaV, ↓gaC, ↓gaN, gaP, Nat.reduceEqDiff, Nat.reduceLeDiff, Nat.reduceAdd, Nat.reduceSub, Nat.reduceMul, Int.reduceLT, Int.reduceLE, Int.reduceEq, Int.reduceToNat, Int.reduceAdd, Int.reduceSub, Int.reduceMul, reduceCtorEq, ↓reduceIte, h11, i64_w ((z : Int) - 1) (by omega), loopK_n]
      repeat refine And.intro (by first | omega | (simp; done) | (simp; omega) | exact all1 rfl) ?_
      exact ⟨z, by omega, z, n6, g6, rfl, by omega, e0 ▸ ⟨a0, s0, c0, rfl, hc0, hl0, r0⟩, h1, h2, hw6, rfl, rfl, by omega, hF, hs, ht⟩
    · rw [if_neg hbt] at hpb
      have hbi : ¬ ((lv k / 2 ^ z % 2 : Nat) : Int) = 1 := by omega
      simp only [↓gaW, ↓gaV, ↓gaC, ↓gaN, gaP, Nat.reduceEqDiff, Nat.reduceLeDiff, Nat.reduceAdd, Nat.reduceSub, Nat.reduceMul, Int.reduceLT, Int.reduceLE, Int.reduceEq, Int.reduceToNat, Int.reduceAdd, Int.reduceSub, Int.reduceMul, reduceCtorEq, ↓reduceIte, hbi, decide_false, h11, i64_w ((z : Int) - 1) (by omega), loopK_n]
      repeat refine And.intro (by first | omega | (simp; done) | (simp; omega) | exact all1 rfl) ?_
      rw [← hpb] at hl5 r5
      exact ⟨z, by omega, z, n5, g5, rfl, by omega, e0 ▸ ⟨a0, s0, c0, rfl, hc0, hl0, r0⟩, h1, h2, ⟨a5, s5, c5, rfl, hc5, hl5, r5⟩, rfl, rfl, by omega, hF, hs, ht⟩
end
end Go.Ga

namespace Go.Ga
open Go Go.Proofs
set_option linter.unusedSimpArgs false
set_option linter.unusedVariables false
set_option maxRecDepth 100000
attribute [local irreducible] appendK

/-- A slice that a call made, which may be appended to. -/
def GrowV (lo nx : Nat) (gt : Nat → Option Blk) (v : Value) (l : List UInt32) : Prop := ∃ A n, v = .slice A n n ∧ l.length = n ∧ Grow lo lo nx gt 1 A n (l.map u32V)
theorem Own.low {nx b x g e A n l nx' b'} (h : Own nx b x g e A n l) (h1 : nx' ≤ nx) (h2 : b' ≤ nx) : Own nx' b' x g e A n l := by
  refine ⟨h.1, ?_⟩
  rcases h.2 with h | ⟨q, e1, e2, e3, e4, e5⟩
  · exact .inl h
  · exact .inr ⟨q, e1, by omega, by omega, by omega, e5⟩
theorem Grow.low {nx b x g e A n l nx' b'} (h : Grow nx b x g e A n l) (h1 : nx' ≤ nx) (h2 : b' ≤ nx) : Grow nx' b' x g e A n l := by
  rcases h with h | h
  · exact .inl (h.low h1 h2)
  · exact .inr h
theorem GrowV.of {lo b nx : Nat} {gt : Nat → Option Blk} {A : Option Addr} {n : Nat} {l : List UInt32} (hb : b ≤ lo) (h : Grow lo b nx gt 1 A n (l.map u32V)) : GrowV lo nx gt (.slice A n n) l :=
  ⟨A, n, rfl, by simpa using h.len, h.low (Nat.le_refl _) (Nat.le_refl _)⟩

section
variable {nx : Nat} {gt : Nat → Option Blk}

theorem ct_rBareG {A : Option Addr} {n c : Nat} {l : List UInt32} (hr : Row nx gt 1 A n (l.map u32V)) (hc : n ≤ c) (hn : n < 1000000000) :
    Ct Try.prog 73 [.slice A n c] nx gt fun v nx' gt' => GrowV nx nx' gt' v (lb (lv l)) := by
  have hlen : l.length = n := by simpa using hr.len
  refine Ct.of hmx r_lanyardref07_Bare (by simp [c_lanyardref07_Bare]) fun b hb => ?_
  simp only [c_lanyardref07_Bare, ↓gaW, ↓gaV, ↓gaC, ↓gaN, gaP, Nat.reduceEqDiff, Nat.reduceLeDiff, Nat.reduceAdd, Nat.reduceSub, Nat.reduceMul, Int.reduceLT, Int.reduceLE, Int.reduceEq, Int.reduceToNat, Int.reduceAdd, Int.reduceSub, Int.reduceMul, reduceCtorEq, ↓reduceIte]
  have hcut : ∀ a k, A = some a → k ≤ n → rowOf ⟨nx + 1, b, upd gt nx (some (.cells [] false))⟩ (some ⟨a.block, a.off, a.spot⟩) k = some ((l.take k).map u32V) := by
    intro a k ha hk
    have h := ((hr.keep (nx' := nx + 1) (gt' := upd gt nx (some (.cells [] false))) (Nat.le_succ _) (fun k hk => by simp only [upd_e]; rw [if_neg (by omega)])).part (lo := 0) (hi := k) (Nat.zero_le _) hk ha).rowOf (b := b)
    simpa [List.map_take] using h
  have hnil : rowOf ⟨nx + 1, b, upd gt nx (some (.cells [] false))⟩ none 0 = some [] := by simp [rowOf]
  have app : ∀ (k : Nat) (K : Value → Mem → Prop), k ≤ n → (∀ A' x' g', nx + 1 ≤ x' → (∀ i, i < nx → g' i = gt i) → GrowV nx x' g' (.slice A' k k) (l.take k) → K (.slice A' k k) ⟨x', b, g'⟩) →
      appendK 1 4 ⟨nx + 1, b, upd gt nx (some (.cells [] false))⟩ (some ⟨nx, 0, none⟩) 0 0 k ((l.take k).map u32V) K := by
    intro k K hk hK
    refine grow_app (nx := nx) (l := []) (Grow.lit (q := nx) (l := []) (ro := false) (by omega) (by simp [upd]) rfl) (by omega) (by omega) (by omega) (by simp [hlen]; omega) (all_u32 _) (by omega) (by omega) fun A' x' g' h1 h2 h3 => ?_
    rw [List.nil_append, Nat.zero_add] at h3
    rw [Nat.zero_add]
    exact hK A' x' g' h1 (fun i hi => by rw [h2 i hi]; simp only [upd_e]; rw [if_neg (by omega)]) (GrowV.of hb h3)
  refine loop_of (fun j f m => ∃ k : Nat, j = k ∧ k ≤ n ∧ f 0 = .slice A n c ∧ f 3 = .int .i64 (k : Nat) ∧ m = ⟨nx, b, gt⟩ ∧ ∀ i, k ≤ i → i < l.length → l.getD i 0 = 0) n ⟨n, rfl, Nat.le_refl _, rfl, rfl, rfl, fun i h1 h2 => by omega⟩ ?_
  rintro j f m ⟨k, rfl, hk, h0, h3, rfl, hz⟩
  by_cases hpos : (0 : Int) < (j : Int)
  · have e1 : ((j : Int) - 1) = ((j - 1 : Nat) : Int) := by omega
    obtain ⟨a, ce, ro, ha, h5, h6, h7, h8⟩ := w32_cell hr hlen (i := j - 1) (by omega)
    by_cases hzero : (l.getD (j - 1) 0) = 0
    · have hv : ((l.getD (j - 1) 0).toNat : Int) = 0 := by rw [hzero]; rfl
      simp only [↓gaW, ↓gaV, ↓gaC, ↓gaN, gaP, Nat.reduceEqDiff, Nat.reduceLeDiff, Nat.reduceAdd, Nat.reduceSub, Nat.reduceMul, Int.reduceLT, Int.reduceLE, Int.reduceEq, Int.reduceToNat, Int.reduceAdd, Int.reduceSub, Int.reduceMul, reduceCtorEq, ↓reduceIte, h0, h3, hpos, decide_true, e1, i64_w ((j - 1 : Nat) : Int) (by omega), ha, h6, h8, hv]
      refine ⟨by omega, by omega, by omega, ?_⟩
      simp only [↓gaW, ↓gaV, ↓gaC, ↓gaN, gaP, Nat.reduceEqDiff, Nat.reduceLeDiff, Nat.reduceAdd, Nat.reduceSub, Nat.reduceMul, Int.reduceLT, Int.reduceLE, Int.reduceEq, Int.reduceToNat, Int.reduceAdd, Int.reduceSub, Int.reduceMul, reduceCtorEq, ↓reduceIte, h3, e1, i64_w ((j - 1 : Nat) : Int) (by omega), loopK_n]
      refine ⟨j - 1, by omega, j - 1, rfl, by omega, by rw [h0, ha], rfl, fun i h1 h2 => ?_⟩
      by_cases hi : i = j - 1
      · rw [hi]; exact hzero
      · exact hz i (by omega) h2
    · have hv : ¬ ((l.getD (j - 1) 0).toNat : Int) = 0 := fun h => hzero (by apply UInt32.toNat_inj.1; show _ = 0; omega)
      have hsp := hr.spot a ha
      simp only [↓gaW, ↓gaV, ↓gaC, ↓gaN, gaP, Nat.reduceEqDiff, Nat.reduceLeDiff, Nat.reduceAdd, Nat.reduceSub, Nat.reduceMul, Int.reduceLT, Int.reduceLE, Int.reduceEq, Int.reduceToNat, Int.reduceAdd, Int.reduceSub, Int.reduceMul, reduceCtorEq, ↓reduceIte, gaE, implies_true, Nat.le_refl, Int.sub_zero, Nat.sub_zero, Int.le_refl, true_or, or_true, List.getD_cons_zero, List.getD_cons_succ, fillL, splice, List.take_zero, List.drop_zero, List.drop_succ_cons, List.take_succ_cons, List.drop_nil, List.take_nil, h0, h3, hpos, decide_true, e1, i64_w ((j - 1 : Nat) : Int) (by omega), ha, h6, h8, hv, decide_false, hcut a j ha hk]
      repeat refine And.intro (by first | omega | (rcases hsp with h | h <;> simp [h])) ?_
      refine app j _ hk fun A' x' g' h1 h2 h3 => ?_
      simp only [↓gaW, ↓gaV, ↓gaC, ↓gaN, gaP, Nat.reduceEqDiff, Nat.reduceLeDiff, Nat.reduceAdd, Nat.reduceSub, Nat.reduceMul, Int.reduceLT, Int.reduceLE, Int.reduceEq, Int.reduceToNat, Int.reduceAdd, Int.reduceSub, Int.reduceMul, reduceCtorEq, ↓reduceIte, gaE, implies_true, Nat.le_refl, Int.sub_zero, Nat.sub_zero, Int.le_refl, true_or, or_true]
      rw [lb_lv_take l j (by omega) hz (.inr hzero)]
      exact ⟨by omega, h2, h3⟩
  · have hj : j = 0 := by omega
    subst hj
    have hneg : ¬ (0 : Int) < ((0 : Nat) : Int) := by omega
    rw [lb_lv_take l 0 (by omega) hz (.inl rfl)]
    cases A with
    | none =>
      simp only [↓gaW, ↓gaV, ↓gaC, ↓gaN, gaP, Nat.reduceEqDiff, Nat.reduceLeDiff, Nat.reduceAdd, Nat.reduceSub, Nat.reduceMul, Int.reduceLT, Int.reduceLE, Int.reduceEq, Int.reduceToNat, Int.reduceAdd, Int.reduceSub, Int.reduceMul, reduceCtorEq, ↓reduceIte, gaE, implies_true, Nat.le_refl, Int.sub_zero, Nat.sub_zero, Int.le_refl, true_or, or_true, List.getD_cons_zero, List.getD_cons_succ, fillL, splice, List.take_zero, List.drop_zero, List.drop_succ_cons, List.take_succ_cons, List.drop_nil, List.take_nil, h0, h3, hneg, decide_false, hnil]
      repeat refine And.intro (by omega) ?_
      refine app 0 _ hk fun A' x' g' h1 h2 h3 => ?_
      simp only [↓gaW, ↓gaV, ↓gaC, ↓gaN, gaP, Nat.reduceEqDiff, Nat.reduceLeDiff, Nat.reduceAdd, Nat.reduceSub, Nat.reduceMul, Int.reduceLT, Int.reduceLE, Int.reduceEq, Int.reduceToNat, Int.reduceAdd, Int.reduceSub, Int.reduceMul, reduceCtorEq, ↓reduceIte, gaE, implies_true, Nat.le_refl, Int.sub_zero, Nat.sub_zero, Int.le_refl, true_or, or_true]
      exact ⟨by omega, h2, h3⟩
    | some a =>
      have hsp := hr.spot a rfl
      simp only [↓gaW, ↓gaV, ↓gaC, ↓gaN, gaP, Nat.reduceEqDiff, Nat.reduceLeDiff, Nat.reduceAdd, Nat.reduceSub, Nat.reduceMul, Int.reduceLT, Int.reduceLE, Int.reduceEq, Int.reduceToNat, Int.reduceAdd, Int.reduceSub, Int.reduceMul, reduceCtorEq, ↓reduceIte, gaE, implies_true, Nat.le_refl, Int.sub_zero, Nat.sub_zero, Int.le_refl, true_or, or_true, List.getD_cons_zero, List.getD_cons_succ, fillL, splice, List.take_zero, List.drop_zero, List.drop_succ_cons, List.take_succ_cons, List.drop_nil, List.take_nil, h0, h3, hneg, decide_false, hcut a 0 rfl (Nat.zero_le _)]
      repeat refine And.intro (by first | omega | (rcases hsp with h | h <;> simp [h])) ?_
      refine app 0 _ hk fun A' x' g' h1 h2 h3 => ?_
      simp only [↓gaW, ↓gaV, ↓gaC, ↓gaN, gaP, Nat.reduceEqDiff, Nat.reduceLeDiff, Nat.reduceAdd, Nat.reduceSub, Nat.reduceMul, Int.reduceLT, Int.reduceLE, Int.reduceEq, Int.reduceToNat, Int.reduceAdd, Int.reduceSub, Int.reduceMul, reduceCtorEq, ↓reduceIte, gaE, implies_true, Nat.le_refl, Int.sub_zero, Nat.sub_zero, Int.le_refl, true_or, or_true]
      exact ⟨by omega, h2, h3⟩

theorem ct_rbit {A : Option Addr} {n c k : Nat} {l : List UInt32} (hr : Row nx gt 1 A n (l.map u32V)) (hn : n < 1000000000) (hk : k < 32 * n) :
    Ct Try.prog 78 [.slice A n c, .int .i64 (k : Nat)] nx gt fun v nx' gt' => v = .int .u32 ((lv l / 2 ^ k % 2 : Nat) : Int) ∧ nx' = nx ∧ gt' = gt := by
  have hl : l.length = n := by simpa using hr.len
  refine Ct.of hmx r_lanyardref08_bit (by simp [c_lanyardref08_bit]) fun b hb => ?_
  obtain ⟨a, ce, ro, rfl, p1, p2, p3, p4⟩ := w32_cell hr hl (i := k / 32) (by omega)
  have d1 : (k : Int).tdiv 32 = ((k / 32 : Nat) : Int) := by rw [Int.tdiv_eq_ediv_of_nonneg (by omega)]; omega
  have d2 : (k : Int).tmod 32 = ((k % 32 : Nat) : Int) := by rw [Int.tmod_eq_emod_of_nonneg (by omega)]; omega
  have d3 : shrV .u32 ((((l.getD (k / 32) 0).toNat : Nat)) : Int) ((k % 32 : Nat) : Int) = (((l.getD (k / 32) 0).toNat / 2 ^ (k % 32) : Nat) : Int) := shr_nat (k := .u32) _ _ (by show _ ≤ 32; omega)
  have d4 : ((((l.getD (k / 32) 0).toNat / 2 ^ (k % 32) : Nat)) : Int).tmod 2 = ((lv l / 2 ^ k % 2 : Nat) : Int) := by
    rw [Int.tmod_eq_emod_of_nonneg (Int.natCast_nonneg _), ← word_bit]
    generalize (l.getD (k / 32) 0).toNat / 2 ^ (k % 32) = Y
    omega
  simp only [c_lanyardref08_bit, ↓gaW, ↓gaV, ↓gaC, ↓gaN, gaP, Nat.reduceEqDiff, Nat.reduceLeDiff, Nat.reduceAdd, Nat.reduceSub, Nat.reduceMul, Int.reduceLT, Int.reduceLE, Int.reduceEq, Int.reduceToNat, Int.reduceAdd, Int.reduceSub, Int.reduceMul, reduceCtorEq, ↓reduceIte, gaE, implies_true, Nat.le_refl, Int.sub_zero, Nat.sub_zero, Int.le_refl, true_or, or_true, p2, d1, d2, i64_w ((k / 32 : Nat) : Int) (by omega), Int.toNat_natCast, p4, d3, d4]
  repeat refine And.intro (by first | omega | (simp; done) | (simp; omega) | exact all1 rfl) ?_
  omega

theorem ct_rless {A B : Option Addr} {n c d : Nat} {l k : List UInt32} (hr : Row nx gt 1 A n (l.map u32V)) (hn : n < 1000000000) (hs : Row nx gt 1 B n (k.map u32V)) :
    Ct Try.prog 94 [.slice A n c, .slice B n d] nx gt fun v nx' gt' => v = .bool (decide (lv l < lv k)) ∧ nx' = nx ∧ gt' = gt := by
  have hl : l.length = n := by simpa using hr.len
  have hk : k.length = n := by simpa using hs.len
  refine Ct.of hmx r_lanyardref08_less (by simp [c_lanyardref08_less]) fun b hb => ?_
  simp only [c_lanyardref08_less, ↓gaW, ↓gaV, ↓gaC, ↓gaN, gaP, Nat.reduceEqDiff, Nat.reduceLeDiff, Nat.reduceAdd, Nat.reduceSub, Nat.reduceMul, Int.reduceLT, Int.reduceLE, Int.reduceEq, Int.reduceToNat, Int.reduceAdd, Int.reduceSub, Int.reduceMul, reduceCtorEq, ↓reduceIte, i64_w ((n : Int) - 1) (by omega)]
  refine loop_of (fun j f mm => ∃ (i : Nat), j = i ∧ i ≤ n ∧ f 0 = .slice A n c ∧ f 1 = .slice B n d ∧ f 5 = .int .i64 ((i : Nat) - 1) ∧ mm = ⟨nx, b, gt⟩ ∧ lv l / 4294967296 ^ i = lv k / 4294967296 ^ i) n ⟨n, rfl, Nat.le_refl _, rfl, rfl, rfl, rfl, ?_⟩ ?_
  · have h1 : lv l < 4294967296 ^ n := lv_lt' (Nat.le_of_eq hl)
    have h2 : lv k < 4294967296 ^ n := lv_lt' (Nat.le_of_eq hk)
    rw [Nat.div_eq_of_lt h1, Nat.div_eq_of_lt h2]
  · rintro j f m ⟨i, rfl, hi, h0, h1, h5, rfl, he⟩
    by_cases hpos : (0 : Int) ≤ (j : Int) - 1
    · obtain ⟨i, rfl⟩ : ∃ i, j = i + 1 := ⟨j - 1, by omega⟩
      have e1 : (((i + 1 : Nat) : Int) - 1) = (i : Int) := by omega
      rw [e1] at h5 hpos
      obtain ⟨a, ce, ro, rfl, p1, p2, p3, p4⟩ := w32_cell hr hl (i := i) (by omega)
      obtain ⟨a', ce', ro', rfl, q1, q2, q3, q4⟩ := w32_cell hs hk (i := i) (by omega)
      rw [lv_get] at p4 q4
      simp only [↓gaW, ↓gaV, ↓gaC, ↓gaN, gaP, Nat.reduceEqDiff, Nat.reduceLeDiff, Nat.reduceAdd, Nat.reduceSub, Nat.reduceMul, Int.reduceLT, Int.reduceLE, Int.reduceEq, Int.reduceToNat, Int.reduceAdd, Int.reduceSub, Int.reduceMul, reduceCtorEq, ↓reduceIte, h0, h1, h5, hpos, decide_true, p2, p4, q2, q4]
      repeat refine And.intro (by first | omega | (simp; done) | (simp; omega) | exact all1 rfl) ?_
      by_cases hne : ((lv l / 4294967296 ^ i % 4294967296 : Nat) : Int) = ((lv k / 4294967296 ^ i % 4294967296 : Nat) : Int)
      · simp only [↓gaW, ↓gaV, ↓gaC, ↓gaN, gaP, Nat.reduceEqDiff, Nat.reduceLeDiff, Nat.reduceAdd, Nat.reduceSub, Nat.reduceMul, Int.reduceLT, Int.reduceLE, Int.reduceEq, Int.reduceToNat, Int.reduceAdd, Int.reduceSub, Int.reduceMul, reduceCtorEq, ↓reduceIte, hne, decide_true, decide_false, Bool.not_true, h5, i64_w ((i : Int) - 1) (by omega), loopK_n]
        exact ⟨i, by omega, i, rfl, by omega, h0, h1, rfl, (cmp_digit he).2 (by omega)⟩
      · simp only [↓gaW, ↓gaV, ↓gaC, ↓gaN, gaP, Nat.reduceEqDiff, Nat.reduceLeDiff, Nat.reduceAdd, Nat.reduceSub, Nat.reduceMul, Int.reduceLT, Int.reduceLE, Int.reduceEq, Int.reduceToNat, Int.reduceAdd, Int.reduceSub, Int.reduceMul, reduceCtorEq, ↓reduceIte, gaE, implies_true, Nat.le_refl, Int.sub_zero, Nat.sub_zero, Int.le_refl, true_or, or_true, hne, decide_true, decide_false, Bool.not_false, h0, h1, h5, p2, p4, q2, q4, loopK_r]
        repeat refine And.intro (by first | omega | (simp; done) | (simp; omega) | exact all1 rfl) ?_
        rcases Nat.lt_or_gt_of_ne (show lv l / 4294967296 ^ i % 4294967296 ≠ lv k / 4294967296 ^ i % 4294967296 by omega) with h | h
        · have h2 := (cmp_digit he).1 h
          rw [decide_eq_true h2, decide_eq_true (by omega)]
        · have h2 := (cmp_digit he.symm).1 h
          rw [decide_eq_false (by omega), decide_eq_false (by omega)]
    · have hj : j = 0 := by omega
      subst hj
      simp only [↓gaW, ↓gaV, ↓gaC, ↓gaN, gaP, Nat.reduceEqDiff, Nat.reduceLeDiff, Nat.reduceAdd, Nat.reduceSub, Nat.reduceMul, Int.reduceLT, Int.reduceLE, Int.reduceEq, Int.reduceToNat, Int.reduceAdd, Int.reduceSub, Int.reduceMul, reduceCtorEq, ↓reduceIte, gaE, implies_true, Nat.le_refl, Int.sub_zero, Nat.sub_zero, Int.le_refl, true_or, or_true, h5, hpos, decide_false, loopK_e]
      have he' : lv l = lv k := by simpa using he
      repeat refine And.intro (by first | omega | (simp; done) | (simp; omega) | exact all1 rfl) ?_
      simp [he']
end
end Go.Ga

namespace Go.Ga
open Go Go.Proofs
set_option linter.unusedSimpArgs false
set_option linter.unusedVariables false
set_option maxRecDepth 100000
attribute [local irreducible] appendK

def rdA : RC :=
  (.seq
  (.ops [] [
  ⟨(some 12), (.op (.mv (.k (.int .i64 0)))), none⟩])
  (.block 2
  (.loop
  (.seq
  (.seq
  (.ops [] [
  ⟨(some 42), (.op (.mv (.t 12))), none⟩,
  ⟨(some 43), (.op (.mv (.t 8))), none⟩,
  ⟨(some 44), (.op (.lenSl (.t 43))), none⟩,
  ⟨(some 45), (.op (.bin .lss (.t 42) (.t 44))), none⟩])
  (.cond (.t 45)
  .skip
  (.exit 2)))
  (.seq
  (.block 3
  (.seq
  (.ops [] [
  ⟨(some 48), (.op (.mv (.t 8))), none⟩,
  ⟨(some 49), (.op (.mv (.t 12))), none⟩,
  ⟨(some 50), (.op (.ixAddr 1 (.t 48) (.t 49))), none⟩,
  ⟨(some 51), (.op (.load1 (.t 50))), none⟩,
  ⟨(some 52), (.op (.bin .shr (.t 51) (.k (.int .u64 31)))), none⟩,
  ⟨(some 13), (.op (.mv (.t 52))), none⟩])
  (.seq
  (.ops [] [
  ⟨(some 53), (.op (.mv (.t 8))), none⟩,
  ⟨(some 54), (.op (.mv (.t 12))), none⟩,
  ⟨(some 55), (.op (.mv (.t 8))), none⟩,
  ⟨(some 56), (.op (.mv (.t 12))), none⟩,
  ⟨(some 57), (.op (.ixAddr 1 (.t 55) (.t 56))), none⟩,
  ⟨(some 58), (.op (.load1 (.t 57))), none⟩,
  ⟨(some 59), (.op (.bin .shl (.t 58) (.k (.int .u64 1)))), none⟩,
  ⟨(some 60), (.op (.mv (.t 11))), none⟩,
  ⟨(some 61), (.op (.bin .or (.t 59) (.t 60))), none⟩,
  ⟨(some 62), (.op (.ixAddr 1 (.t 53) (.t 54))), none⟩,
  ⟨none, (.op (.store 1 (.t 62) (.t 61))), none⟩])
  (.ops [] [
  ⟨(some 63), (.op (.mv (.t 13))), none⟩,
  ⟨(some 11), (.op (.mv (.t 63))), none⟩]))))
  (.ops [] [
  ⟨(some 46), (.op (.mv (.t 12))), none⟩,
  ⟨(some 47), (.op (.bin .add (.t 46) (.k (.int .i64 1)))), none⟩,
  ⟨(some 12), (.op (.mv (.t 47))), none⟩]))))))
def rdB : RC :=
  (.seq
  (.ops [] [
  ⟨(some 15), (.op (.mv (.k (.int .i64 0)))), none⟩])
  (.block 4
  (.loop
  (.seq
  (.seq
  (.ops [] [
  ⟨(some 67), (.op (.mv (.t 15))), none⟩,
  ⟨(some 68), (.op (.mv (.t 8))), none⟩,
  ⟨(some 69), (.op (.lenSl (.t 68))), none⟩,
  ⟨(some 70), (.op (.bin .lss (.t 67) (.t 69))), none⟩])
  (.cond (.t 70)
  .skip
  (.exit 4)))
  (.seq
  (.block 5
  (.seq
  (.ops [] [
  ⟨(some 73), (.op (.mv (.t 7))), none⟩,
  ⟨(some 74), (.op (.mv (.t 15))), none⟩,
  ⟨(some 75), (.op (.ixAddr 1 (.t 73) (.t 74))), none⟩,
  ⟨(some 76), (.op (.load1 (.t 75))), none⟩,
  ⟨(some 77), (.op (.toInt .u64 (.t 76))), none⟩,
  ⟨(some 78), (.op (.mv (.t 14))), none⟩,
  ⟨(some 79), (.op (.bin .add (.t 77) (.t 78))), none⟩,
  ⟨(some 16), (.op (.mv (.t 79))), none⟩])
  (.seq
  (.ops [] [
  ⟨(some 14), (.op (.mv (.k (.int .u64 0)))), none⟩])
  (.seq
  (.seq
  (.ops [] [
  ⟨(some 80), (.op (.mv (.t 8))), none⟩,
  ⟨(some 81), (.op (.mv (.t 15))), none⟩,
  ⟨(some 82), (.op (.ixAddr 1 (.t 80) (.t 81))), none⟩,
  ⟨(some 83), (.op (.load1 (.t 82))), none⟩,
  ⟨(some 84), (.op (.toInt .u64 (.t 83))), none⟩,
  ⟨(some 85), (.op (.mv (.t 16))), none⟩,
  ⟨(some 86), (.op (.bin .lss (.t 84) (.t 85))), none⟩])
  (.cond (.t 86)
  (.ops [] [
  ⟨(some 14), (.op (.mv (.k (.int .u64 1)))), none⟩])
  .skip))
  (.ops [] [
  ⟨(some 87), (.op (.mv (.t 8))), none⟩,
  ⟨(some 88), (.op (.mv (.t 15))), none⟩,
  ⟨(some 89), (.op (.mv (.t 8))), none⟩,
  ⟨(some 90), (.op (.mv (.t 15))), none⟩,
  ⟨(some 91), (.op (.ixAddr 1 (.t 89) (.t 90))), none⟩,
  ⟨(some 92), (.op (.load1 (.t 91))), none⟩,
  ⟨(some 93), (.op (.toInt .u64 (.t 92))), none⟩,
  ⟨(some 94), (.op (.mv (.t 16))), none⟩,
  ⟨(some 95), (.op (.bin .sub (.t 93) (.t 94))), none⟩,
  ⟨(some 96), (.op (.toInt .u32 (.t 95))), none⟩,
  ⟨(some 97), (.op (.ixAddr 1 (.t 87) (.t 88))), none⟩,
  ⟨none, (.op (.store 1 (.t 97) (.t 96))), none⟩])))))
  (.ops [] [
  ⟨(some 71), (.op (.mv (.t 15))), none⟩,
  ⟨(some 72), (.op (.bin .add (.t 71) (.k (.int .i64 1)))), none⟩,
  ⟨(some 15), (.op (.mv (.t 72))), none⟩]))))))
def rdC : RC :=
  (.ops [
  ⟨(some 98), (.op (.mv (.t 9))), none⟩,
  ⟨(some 99), (.op (.mv (.t 10))), none⟩,
  ⟨(some 100), (.op (.bin .quo (.t 99) (.k (.int .i64 32)))), none⟩,
  ⟨(some 101), (.op (.mv (.t 9))), none⟩,
  ⟨(some 102), (.op (.mv (.t 10))), none⟩,
  ⟨(some 103), (.op (.bin .quo (.t 102) (.k (.int .i64 32)))), none⟩,
  ⟨(some 104), (.op (.ixAddr 1 (.t 101) (.t 103))), none⟩,
  ⟨(some 105), (.op (.load1 (.t 104))), none⟩,
  ⟨(some 106), (.op (.mv (.t 10))), none⟩,
  ⟨(some 107), (.op (.bin .rem (.t 106) (.k (.int .i64 32)))), none⟩,
  ⟨(some 108), (.op (.bin .shl (.k (.int .u32 1)) (.t 107))), none⟩,
  ⟨(some 109), (.op (.bin .or (.t 105) (.t 108))), none⟩] [
  ⟨(some 110), (.op (.ixAddr 1 (.t 98) (.t 100))), none⟩,
  ⟨none, (.op (.store 1 (.t 110) (.t 109))), none⟩])

theorem dbl_step {U L P c0 c W : Nat} (h : U + P * c = 2 * L + c0) : U + P * (W * 2 % 4294967296 + c) + P * 4294967296 * (W / 2147483648) = 2 * (L + P * W) + c0 := by
  have key : W * 2 % 4294967296 + 4294967296 * (W / 2147483648) = 2 * W := by omega
  have h2 := congrArg (P * ·) key
  simp only [Nat.mul_add] at h2 ⊢
  rw [Nat.mul_assoc P 4294967296]
  have e : P * (2 * W) = 2 * (P * W) := by ac_rfl
  omega

theorem sub_step8 {U L K P o W Y D S : Nat} (hk : D + Y + o = W + 4294967296 * S) (h : U + K = L + P * o) : U + P * D + (K + P * Y) = L + P * W + P * 4294967296 * S := by
  have h2 := congrArg (P * ·) hk
  simp only [Nat.mul_add] at h2
  rw [Nat.mul_assoc P 4294967296]
  omega

theorem low_word {l : List UInt32} {k : Nat} (h : lv l % 2 ^ (k + 1) = 0) : (l.getD (k / 32) 0).toNat % 2 ^ (k % 32 + 1) = 0 := by
  have hr : k % 32 < 32 := Nat.mod_lt _ (by decide)
  have e1 : (2 : Nat) ^ (k + 1) = 4294967296 ^ (k / 32) * 2 ^ (k % 32 + 1) := by
    have e : (4294967296 : Nat) = 2 ^ 32 := by decide
    rw [e, ← Nat.pow_mul, ← Nat.pow_add]
    congr 1
    omega
  have e2 : (4294967296 : Nat) = 2 ^ (k % 32 + 1) * 2 ^ (31 - k % 32) := by
    rw [← Nat.pow_add, show k % 32 + 1 + (31 - k % 32) = 32 by omega]
  have h3 : 2 ^ (k % 32 + 1) ∣ lv l / 4294967296 ^ (k / 32) := by
    obtain ⟨x, hx⟩ := Nat.dvd_of_mod_eq_zero h
    rw [hx, e1, Nat.mul_assoc, Nat.mul_div_cancel_left _ (Nat.pow_pos (by decide))]
    exact Nat.dvd_mul_right _ _
  rw [lv_get]
  obtain ⟨x, hx⟩ := h3
  rw [hx]
  conv => lhs; rw [show 2 ^ (k % 32 + 1) * x % 4294967296 = 2 ^ (k % 32 + 1) * x % (2 ^ (k % 32 + 1) * 2 ^ (31 - k % 32)) by rw [← e2]]
  rw [Nat.mul_mod_mul_left, Nat.mul_mod_right]

theorem or_bit {w r : Nat} (h : w % 2 ^ (r + 1) = 0) : (w ||| 2 ^ r) = w + 2 ^ r := by
  obtain ⟨x, hx⟩ := Nat.dvd_of_mod_eq_zero h
  rw [hx]
  exact (Nat.two_pow_add_eq_or_of_lt (i := r + 1) (b := 2 ^ r) (Nat.pow_lt_pow_right (by decide) (by omega)) x).symm

section
variable {f : Regs} {x b q N : Nat} {g : Nat → Option Blk} {rl : List UInt32} {s : Stk}

theorem rdA_of {c0 : Nat} (hb : b ≤ q) (hq : q < x) (f8 : f 8 = .slice (some ⟨q, 0, none⟩) N N) (f11 : f 11 = .int .u32 (c0 : Nat)) (hc : c0 < 2) (gq : g q = some (.cells (rl.map u32V) false)) (hN : rl.length = N) (hNs : N < 1000000000)
    (K : ∀ (f' : Regs) (g' : Nat → Option Blk) (u : List UInt32) (c : Nat), f' 0 = f 0 → f' 7 = f 7 → f' 8 = f 8 → f' 9 = f 9 → f' 10 = f 10 → (∀ p, p ≠ q → g' p = g p) → g' q = some (.cells (u.map u32V) false) → u.length = N → lv u + 4294967296 ^ N * c = 2 * lv rl + c0 → D Try.prog s .normal f' ⟨x, b, g'⟩) :
    RC.vc Try.prog rdA f ⟨x, b, g⟩ (D Try.prog s) := by
  simp only [rdA, ↓gaW, ↓gaV, ↓gaC, ↓gaN, gaP, Nat.reduceEqDiff, Nat.reduceLeDiff, Nat.reduceAdd, Nat.reduceSub, Nat.reduceMul, Int.reduceLT, Int.reduceLE, Int.reduceEq, Int.reduceToNat, Int.reduceAdd, Int.reduceSub, Int.reduceMul, reduceCtorEq, ↓reduceIte]
  refine loop_of (fun j f' m => ∃ (i c : Nat) (g' : Nat → Option Blk) (u : List UInt32), j = N - i ∧ i ≤ N ∧ c < 2 ∧ f' 0 = f 0 ∧ f' 7 = f 7 ∧ f' 8 = .slice (some ⟨q, 0, none⟩) N N ∧ f' 9 = f 9 ∧ f' 10 = f 10 ∧ f' 11 = .int .u32 (c : Nat) ∧ f' 12 = .int .i64 (i : Nat) ∧ m = ⟨x, b, g'⟩ ∧
      (∀ p, p ≠ q → g' p = g p) ∧ g' q = some (.cells (u.map u32V) false) ∧ u.length = N ∧ (∀ j, i ≤ j → u.getD j 0 = rl.getD j 0) ∧ lv (u.take i) + 4294967296 ^ i * c = 2 * lv (rl.take i) + c0) N
    ⟨0, c0, g, rl, by omega, by omega, hc, by simp only [↓gaW, ↓gaV, ↓gaC, ↓gaN, gaP, Nat.reduceEqDiff, Nat.reduceLeDiff, Nat.reduceAdd, Nat.reduceSub, Nat.reduceMul, Int.reduceLT, Int.reduceLE, Int.reduceEq, Int.reduceToNat, Int.reduceAdd, Int.reduceSub, Int.reduceMul, reduceCtorEq, ↓reduceIte], by simp only [↓gaW, ↓gaV, ↓gaC, ↓gaN, gaP, Nat.reduceEqDiff, Nat.reduceLeDiff, Nat.reduceAdd, Nat.reduceSub, Nat.reduceMul, Int.reduceLT, Int.reduceLE, Int.reduceEq, Int.reduceToNat, Int.reduceAdd, Int.reduceSub, Int.reduceMul, reduceCtorEq, ↓reduceIte], by simp only [↓gaW, ↓gaV, ↓gaC, ↓gaN, gaP, Nat.reduceEqDiff, Nat.reduceLeDiff, Nat.reduceAdd, Nat.reduceSub, Nat.reduceMul, Int.reduceLT, Int.reduceLE, Int.reduceEq, Int.reduceToNat, Int.reduceAdd, Int.reduceSub, Int.reduceMul, reduceCtorEq, ↓reduceIte, f8], by simp only [↓gaW, ↓gaV, ↓gaC, ↓gaN, gaP, Nat.reduceEqDiff, Nat.reduceLeDiff, Nat.reduceAdd, Nat.reduceSub, Nat.reduceMul, Int.reduceLT, Int.reduceLE, Int.reduceEq, Int.reduceToNat, Int.reduceAdd, Int.reduceSub, Int.reduceMul, reduceCtorEq, ↓reduceIte], by simp only [↓gaW, ↓gaV, ↓gaC, ↓gaN, gaP, Nat.reduceEqDiff, Nat.reduceLeDiff, Nat.reduceAdd, Nat.reduceSub, Nat.reduceMul, Int.reduceLT, Int.reduceLE, Int.reduceEq, Int.reduceToNat, Int.reduceAdd, Int.reduceSub, Int.reduceMul, reduceCtorEq, ↓reduceIte], by simp only [↓gaW, ↓gaV, ↓gaC, ↓gaN, gaP, Nat.reduceEqDiff, Nat.reduceLeDiff, Nat.reduceAdd, Nat.reduceSub, Nat.reduceMul, Int.reduceLT, Int.reduceLE, Int.reduceEq, Int.reduceToNat, Int.reduceAdd, Int.reduceSub, Int.reduceMul, reduceCtorEq, ↓reduceIte, f11], by simp only [↓gaW, ↓gaV, ↓gaC, ↓gaN, gaP, Nat.reduceEqDiff, Nat.reduceLeDiff, Nat.reduceAdd, Nat.reduceSub, Nat.reduceMul, Int.reduceLT, Int.reduceLE, Int.reduceEq, Int.reduceToNat, Int.reduceAdd, Int.reduceSub, Int.reduceMul, reduceCtorEq, ↓reduceIte], rfl, fun _ _ => rfl, gq, hN, fun _ _ => rfl, by simp [lv]⟩ ?_
  rintro j f' m ⟨i, c, g', u, rfl, hi, hc2, h0, h7, h8, h9, h10, h11, h12, rfl, hg, hgq, hu, hz, he⟩
  by_cases hlt : (i : Int) < (N : Int)
  · have hw : (u.map u32V).getD i undef = .int .u32 ((u.getD i 0).toNat : Nat) := getD_u32 (by omega)
    have hW32 := lt32 (u.getD i 0)
    have hzi := hz i (Nat.le_refl i)
    obtain ⟨W, hW⟩ : ∃ W, (u.getD i 0).toNat = W := ⟨_, rfl⟩
    rw [hW] at hw hW32
    have s1 : shrV .u32 (W : Int) 31 = ((W / 2147483648 : Nat) : Int) := shr_nat (k := .u32) W 31 (by decide)
    have s2 : shlV .u32 (W : Int) 1 = ((W * 2 % 4294967296 : Nat) : Int) := shl32w (s := 1) (by decide)
    obtain ⟨o1, o2⟩ := low_or (c := c) (x := W) (s := 1) (by decide) (by omega)
    rw [Nat.pow_one] at o1 o2
    have s3 : bitsV .or .u32 ((W * 2 % 4294967296 : Nat) : Int) (c : Int) = ((W * 2 % 4294967296 + c : Nat) : Int) := by
      rw [or_u32 (Nat.mod_lt _ (by decide)) (by omega), Nat.or_comm, o1, Nat.add_comm]
    have sp : splice (u.map u32V) i [.int .u32 ((W * 2 % 4294967296 + c : Nat) : Int)] = (u.set i (UInt32.ofNat (W * 2 % 4294967296 + c))).map u32V := by
      rw [u32V_lt (by omega), splice_set (by omega)]
    have q1 : (i : Int) + 1 = ((i + 1 : Nat) : Int) := by omega
    simp only [↓gaW, ↓gaV, ↓gaC, ↓gaN, gaP, Nat.reduceEqDiff, Nat.reduceLeDiff, Nat.reduceAdd, Nat.reduceSub, Nat.reduceMul, Int.reduceLT, Int.reduceLE, Int.reduceEq, Int.reduceToNat, Int.reduceAdd, Int.reduceSub, Int.reduceMul, reduceCtorEq, ↓reduceIte, h0, h7, h8, h9, h10, h11, h12, hlt, decide_true, hgq, Nat.zero_add, Nat.mul_one, hw, s1, s2, s3, sp]
    repeat refine And.intro (by first | omega | (simp; done) | (simp; omega) | exact all1 rfl) ?_
    simp only [↓gaW, ↓gaV, ↓gaC, ↓gaN, gaP, Nat.reduceEqDiff, Nat.reduceLeDiff, Nat.reduceAdd, Nat.reduceSub, Nat.reduceMul, Int.reduceLT, Int.reduceLE, Int.reduceEq, Int.reduceToNat, Int.reduceAdd, Int.reduceSub, Int.reduceMul, reduceCtorEq, ↓reduceIte, h12, q1, i64_w ((i + 1 : Nat) : Int) (by omega), loopK_n]
    repeat refine And.intro (by first | omega | (simp; done) | (simp; omega) | exact all1 rfl) ?_
    refine ⟨N - (i + 1), by omega, i + 1, W / 2147483648, _, u.set i (UInt32.ofNat (W * 2 % 4294967296 + c)), rfl, by omega, by omega, h0, h7, h8, h9, h10, rfl, rfl, rfl, fun p hp => ?_, by simp only [upd_e, if_true], by simp [hu], fun j hj => ?_, ?_⟩
    · simp only [upd_e]; rw [if_neg hp, hg p hp]
    · rw [set_getD_ne (by omega)]; exact hz j (by omega)
    · rw [lv_set_take (by omega), ofNat32, Nat.mod_eq_of_lt (by omega), lv_take' rl, ← hzi, hW, Nat.pow_succ]
      exact dbl_step he
  · have hin : i = N := by omega
    subst hin
    rw [List.take_of_length_le (by omega), List.take_of_length_le (by omega)] at he
    simp only [↓gaW, ↓gaV, ↓gaC, ↓gaN, gaP, Nat.reduceEqDiff, Nat.reduceLeDiff, Nat.reduceAdd, Nat.reduceSub, Nat.reduceMul, Int.reduceLT, Int.reduceLE, Int.reduceEq, Int.reduceToNat, Int.reduceAdd, Int.reduceSub, Int.reduceMul, reduceCtorEq, ↓reduceIte, h8, h12, hlt, decide_false, loopK_e]
    exact K _ _ u c (by simp only [↓gaW, ↓gaV, ↓gaC, ↓gaN, gaP, Nat.reduceEqDiff, Nat.reduceLeDiff, Nat.reduceAdd, Nat.reduceSub, Nat.reduceMul, Int.reduceLT, Int.reduceLE, Int.reduceEq, Int.reduceToNat, Int.reduceAdd, Int.reduceSub, Int.reduceMul, reduceCtorEq, ↓reduceIte, h0]) (by simp only [↓gaW, ↓gaV, ↓gaC, ↓gaN, gaP, Nat.reduceEqDiff, Nat.reduceLeDiff, Nat.reduceAdd, Nat.reduceSub, Nat.reduceMul, Int.reduceLT, Int.reduceLE, Int.reduceEq, Int.reduceToNat, Int.reduceAdd, Int.reduceSub, Int.reduceMul, reduceCtorEq, ↓reduceIte, h7]) (by simp only [↓gaW, ↓gaV, ↓gaC, ↓gaN, gaP, Nat.reduceEqDiff, Nat.reduceLeDiff, Nat.reduceAdd, Nat.reduceSub, Nat.reduceMul, Int.reduceLT, Int.reduceLE, Int.reduceEq, Int.reduceToNat, Int.reduceAdd, Int.reduceSub, Int.reduceMul, reduceCtorEq, ↓reduceIte, h8, f8]) (by simp only [↓gaW, ↓gaV, ↓gaC, ↓gaN, gaP, Nat.reduceEqDiff, Nat.reduceLeDiff, Nat.reduceAdd, Nat.reduceSub, Nat.reduceMul, Int.reduceLT, Int.reduceLE, Int.reduceEq, Int.reduceToNat, Int.reduceAdd, Int.reduceSub, Int.reduceMul, reduceCtorEq, ↓reduceIte, h9]) (by simp only [↓gaW, ↓gaV, ↓gaC, ↓gaN, gaP, Nat.reduceEqDiff, Nat.reduceLeDiff, Nat.reduceAdd, Nat.reduceSub, Nat.reduceMul, Int.reduceLT, Int.reduceLE, Int.reduceEq, Int.reduceToNat, Int.reduceAdd, Int.reduceSub, Int.reduceMul, reduceCtorEq, ↓reduceIte, h10]) hg hgq hu he

theorem rdB_of {A : Option Addr} {d : Nat} {kl : List UInt32} (hb : b ≤ q) (hq : q < x) (f7 : f 7 = .slice A N d) (f8 : f 8 = .slice (some ⟨q, 0, none⟩) N N) (f14 : f 14 = .int .u64 0) (hr : Row x g 1 A N (kl.map u32V)) (hA : ∀ a, A = some a → a.block ≠ q) (gq : g q = some (.cells (rl.map u32V) false)) (hN : rl.length = N) (hNs : N < 1000000000)
    (K : ∀ (f' : Regs) (g' : Nat → Option Blk) (u : List UInt32) (c : Nat), f' 0 = f 0 → f' 7 = f 7 → f' 8 = f 8 → f' 9 = f 9 → f' 10 = f 10 → (∀ p, p ≠ q → g' p = g p) → g' q = some (.cells (u.map u32V) false) → u.length = N → lv u + lv kl = lv rl + 4294967296 ^ N * c → D Try.prog s .normal f' ⟨x, b, g'⟩) :
    RC.vc Try.prog rdB f ⟨x, b, g⟩ (D Try.prog s) := by
  have hk : kl.length = N := by simpa using hr.len
  simp only [rdB, ↓gaW, ↓gaV, ↓gaC, ↓gaN, gaP, Nat.reduceEqDiff, Nat.reduceLeDiff, Nat.reduceAdd, Nat.reduceSub, Nat.reduceMul, Int.reduceLT, Int.reduceLE, Int.reduceEq, Int.reduceToNat, Int.reduceAdd, Int.reduceSub, Int.reduceMul, reduceCtorEq, ↓reduceIte]
  refine loop_of (fun j f' m => ∃ (i c : Nat) (g' : Nat → Option Blk) (u : List UInt32), j = N - i ∧ i ≤ N ∧ c < 2 ∧ f' 0 = f 0 ∧ f' 7 = .slice A N d ∧ f' 8 = .slice (some ⟨q, 0, none⟩) N N ∧ f' 9 = f 9 ∧ f' 10 = f 10 ∧ f' 14 = .int .u64 (c : Nat) ∧ f' 15 = .int .i64 (i : Nat) ∧ m = ⟨x, b, g'⟩ ∧
      (∀ p, p ≠ q → g' p = g p) ∧ g' q = some (.cells (u.map u32V) false) ∧ u.length = N ∧ (∀ j, i ≤ j → u.getD j 0 = rl.getD j 0) ∧ lv (u.take i) + lv (kl.take i) = lv (rl.take i) + 4294967296 ^ i * c) N
    ⟨0, 0, g, rl, by omega, by omega, by omega, by simp only [↓gaW, ↓gaV, ↓gaC, ↓gaN, gaP, Nat.reduceEqDiff, Nat.reduceLeDiff, Nat.reduceAdd, Nat.reduceSub, Nat.reduceMul, Int.reduceLT, Int.reduceLE, Int.reduceEq, Int.reduceToNat, Int.reduceAdd, Int.reduceSub, Int.reduceMul, reduceCtorEq, ↓reduceIte], by simp only [↓gaW, ↓gaV, ↓gaC, ↓gaN, gaP, Nat.reduceEqDiff, Nat.reduceLeDiff, Nat.reduceAdd, Nat.reduceSub, Nat.reduceMul, Int.reduceLT, Int.reduceLE, Int.reduceEq, Int.reduceToNat, Int.reduceAdd, Int.reduceSub, Int.reduceMul, reduceCtorEq, ↓reduceIte, f7], by simp only [↓gaW, ↓gaV, ↓gaC, ↓gaN, gaP, Nat.reduceEqDiff, Nat.reduceLeDiff, Nat.reduceAdd, Nat.reduceSub, Nat.reduceMul, Int.reduceLT, Int.reduceLE, Int.reduceEq, Int.reduceToNat, Int.reduceAdd, Int.reduceSub, Int.reduceMul, reduceCtorEq, ↓reduceIte, f8], by simp only [↓gaW, ↓gaV, ↓gaC, ↓gaN, gaP, Nat.reduceEqDiff, Nat.reduceLeDiff, Nat.reduceAdd, Nat.reduceSub, Nat.reduceMul, Int.reduceLT, Int.reduceLE, Int.reduceEq, Int.reduceToNat, Int.reduceAdd, Int.reduceSub, Int.reduceMul, reduceCtorEq, ↓reduceIte], by simp only [↓gaW, ↓gaV, ↓gaC, ↓gaN, gaP, Nat.reduceEqDiff, Nat.reduceLeDiff, Nat.reduceAdd, Nat.reduceSub, Nat.reduceMul, Int.reduceLT, Int.reduceLE, Int.reduceEq, Int.reduceToNat, Int.reduceAdd, Int.reduceSub, Int.reduceMul, reduceCtorEq, ↓reduceIte], by simp only [↓gaW, ↓gaV, ↓gaC, ↓gaN, gaP, Nat.reduceEqDiff, Nat.reduceLeDiff, Nat.reduceAdd, Nat.reduceSub, Nat.reduceMul, Int.reduceLT, Int.reduceLE, Int.reduceEq, Int.reduceToNat, Int.reduceAdd, Int.reduceSub, Int.reduceMul, reduceCtorEq, ↓reduceIte, f14], by simp only [↓gaW, ↓gaV, ↓gaC, ↓gaN, gaP, Nat.reduceEqDiff, Nat.reduceLeDiff, Nat.reduceAdd, Nat.reduceSub, Nat.reduceMul, Int.reduceLT, Int.reduceLE, Int.reduceEq, Int.reduceToNat, Int.reduceAdd, Int.reduceSub, Int.reduceMul, reduceCtorEq, ↓reduceIte], rfl, fun _ _ => rfl, gq, hN, fun _ _ => rfl, by simp [lv]⟩ ?_
  rintro j f' m ⟨i, c, g', u, rfl, hi, hc2, h0, h7, h8, h9, h10, h14, h15, rfl, hg, hgq, hu, hz, he⟩
  by_cases hlt : (i : Int) < (N : Int)
  · have hw : (u.map u32V).getD i undef = .int .u32 ((u.getD i 0).toNat : Nat) := getD_u32 (by omega)
    have hW32 := lt32 (u.getD i 0)
    have hzi := hz i (Nat.le_refl i)
    obtain ⟨a, ce, ro, rfl, p1, p2, p3, p4⟩ := w32_cell hr hk (i := i) (by omega)
    have p2' : g' a.block = some (.cells ce ro) := by rw [hg _ (hA a rfl), p2]
    have hY32 := lt32 (kl.getD i 0)
    obtain ⟨W, hW⟩ : ∃ W, (u.getD i 0).toNat = W := ⟨_, rfl⟩
    obtain ⟨Y, hY⟩ : ∃ Y, (kl.getD i 0).toNat = Y := ⟨_, rfl⟩
    rw [hW] at hw hW32
    rw [hY] at p4 hY32
    have q1 : (i : Int) + 1 = ((i + 1 : Nat) : Int) := by omega
    have e1 : (Y : Int) + (c : Int) = ((Y + c : Nat) : Int) := by omega
    have hD : ∃ D S : Nat, D < 4294967296 ∧ S < 2 ∧ D + Y + c = W + 4294967296 * S ∧ IntKind.u32.wrap (IntKind.u64.wrap ((W : Int) - ((Y + c : Nat) : Int))) = (D : Int) ∧ ((W : Int) < ((Y + c : Nat) : Int) ↔ S = 1) := by
      rw [u64_w, u32_w]
      by_cases h : W < Y + c
      · exact ⟨W + 4294967296 - Y - c, 1, by omega, by omega, by omega, by omega, by omega⟩
      · exact ⟨W - Y - c, 0, by omega, by omega, by omega, by omega, by omega⟩
    obtain ⟨D, S, hD1, hS1, hkey, hD2, hS2⟩ := hD
    have sp : splice (u.map u32V) i [.int .u32 (D : Nat)] = (u.set i (UInt32.ofNat D)).map u32V := by
      rw [u32V_lt (by omega), splice_set (by omega)]
    simp only [↓gaW, ↓gaV, ↓gaC, ↓gaN, gaP, Nat.reduceEqDiff, Nat.reduceLeDiff, Nat.reduceAdd, Nat.reduceSub, Nat.reduceMul, Int.reduceLT, Int.reduceLE, Int.reduceEq, Int.reduceToNat, Int.reduceAdd, Int.reduceSub, Int.reduceMul, reduceCtorEq, ↓reduceIte, h0, h7, h8, h9, h10, h14, h15, hlt, decide_true, hgq, p2', p4, Nat.zero_add, Nat.mul_one, hw, u64_i (Y : Int) (by omega), u64_i (W : Int) (by omega), e1, u64_i ((Y + c : Nat) : Int) (by omega)]
    repeat refine And.intro (by first | omega | (simp; done) | (simp; omega) | exact all1 rfl) ?_
    have hz' : ∀ j, i + 1 ≤ j → (u.set i (UInt32.ofNat D)).getD j 0 = rl.getD j 0 := fun j hj => by
      rw [set_getD_ne (by omega)]; exact hz j (by omega)
    have he' : lv ((u.set i (UInt32.ofNat D)).take (i + 1)) + lv (kl.take (i + 1)) = lv (rl.take (i + 1)) + 4294967296 ^ (i + 1) * S := by
      rw [lv_set_take (by omega), ofNat32, Nat.mod_eq_of_lt (by omega), lv_take' rl, lv_take' kl, ← hzi, hW, hY, Nat.pow_succ]
      exact sub_step8 hkey he
    have hg' : ∀ p, p ≠ q → upd g' q (some (.cells ((u.set i (UInt32.ofNat D)).map u32V) false)) p = g p := fun p hp => by
      simp only [upd_e]; rw [if_neg hp, hg p hp]
    have hq' : upd g' q (some (.cells ((u.set i (UInt32.ofNat D)).map u32V) false)) q = some (.cells ((u.set i (UInt32.ofNat D)).map u32V) false) := by simp only [upd_e, if_true]
    by_cases hS : (W : Int) < ((Y + c : Nat) : Int)
    · have := hS2.1 hS
      subst this
      simp only [↓gaW, ↓gaV, ↓gaC, ↓gaN, gaP, Nat.reduceEqDiff, Nat.reduceLeDiff, Nat.reduceAdd, Nat.reduceSub, Nat.reduceMul, Int.reduceLT, Int.reduceLE, Int.reduceEq, Int.reduceToNat, Int.reduceAdd, Int.reduceSub, Int.reduceMul, reduceCtorEq, ↓reduceIte, h8, h15, hS, decide_true, hgq, hw, Nat.zero_add, Nat.mul_one, u64_i (W : Int) (by omega), hD2, sp]
      repeat refine And.intro (by first | omega | (simp; done) | (simp; omega) | exact all1 rfl) ?_
      simp only [↓gaW, ↓gaV, ↓gaC, ↓gaN, gaP, Nat.reduceEqDiff, Nat.reduceLeDiff, Nat.reduceAdd, Nat.reduceSub, Nat.reduceMul, Int.reduceLT, Int.reduceLE, Int.reduceEq, Int.reduceToNat, Int.reduceAdd, Int.reduceSub, Int.reduceMul, reduceCtorEq, ↓reduceIte, h15, q1, i64_w ((i + 1 : Nat) : Int) (by omega), loopK_n]
      repeat refine And.intro (by first | omega | (simp; done) | (simp; omega) | exact all1 rfl) ?_
      exact ⟨N - (i + 1), by omega, i + 1, 1, _, _, rfl, by omega, by omega, h0, h7, h8, h9, h10, rfl, rfl, rfl, hg', hq', by simp [hu], hz', he'⟩
    · have hS0 : S = 0 := by
        rcases Nat.lt_or_ge S 1 with h | h
        · omega
        · exact absurd (hS2.2 (by omega)) hS
      subst hS0
      simp only [↓gaW, ↓gaV, ↓gaC, ↓gaN, gaP, Nat.reduceEqDiff, Nat.reduceLeDiff, Nat.reduceAdd, Nat.reduceSub, Nat.reduceMul, Int.reduceLT, Int.reduceLE, Int.reduceEq, Int.reduceToNat, Int.reduceAdd, Int.reduceSub, Int.reduceMul, reduceCtorEq, ↓reduceIte, h8, h15, hS, decide_false, hgq, hw, Nat.zero_add, Nat.mul_one, u64_i (W : Int) (by omega), hD2, sp]
      repeat refine And.intro (by first | omega | (simp; done) | (simp; omega) | exact all1 rfl) ?_
      simp only [↓gaW, ↓gaV, ↓gaC, ↓gaN, gaP, Nat.reduceEqDiff, Nat.reduceLeDiff, Nat.reduceAdd, Nat.reduceSub, Nat.reduceMul, Int.reduceLT, Int.reduceLE, Int.reduceEq, Int.reduceToNat, Int.reduceAdd, Int.reduceSub, Int.reduceMul, reduceCtorEq, ↓reduceIte, h15, q1, i64_w ((i + 1 : Nat) : Int) (by omega), loopK_n]
      repeat refine And.intro (by first | omega | (simp; done) | (simp; omega) | exact all1 rfl) ?_
      exact ⟨N - (i + 1), by omega, i + 1, 0, _, _, rfl, by omega, by omega, h0, h7, h8, h9, h10, rfl, rfl, rfl, hg', hq', by simp [hu], hz', he'⟩
  · have hin : i = N := by omega
    subst hin
    rw [List.take_of_length_le (by omega), List.take_of_length_le (by omega), List.take_of_length_le (by omega)] at he
    simp only [↓gaW, ↓gaV, ↓gaC, ↓gaN, gaP, Nat.reduceEqDiff, Nat.reduceLeDiff, Nat.reduceAdd, Nat.reduceSub, Nat.reduceMul, Int.reduceLT, Int.reduceLE, Int.reduceEq, Int.reduceToNat, Int.reduceAdd, Int.reduceSub, Int.reduceMul, reduceCtorEq, ↓reduceIte, h8, h15, hlt, decide_false, loopK_e]
    exact K _ _ u c (by simp only [↓gaW, ↓gaV, ↓gaC, ↓gaN, gaP, Nat.reduceEqDiff, Nat.reduceLeDiff, Nat.reduceAdd, Nat.reduceSub, Nat.reduceMul, Int.reduceLT, Int.reduceLE, Int.reduceEq, Int.reduceToNat, Int.reduceAdd, Int.reduceSub, Int.reduceMul, reduceCtorEq, ↓reduceIte, h0]) (by simp only [↓gaW, ↓gaV, ↓gaC, ↓gaN, gaP, Nat.reduceEqDiff, Nat.reduceLeDiff, Nat.reduceAdd, Nat.reduceSub, Nat.reduceMul, Int.reduceLT, Int.reduceLE, Int.reduceEq, Int.reduceToNat, Int.reduceAdd, Int.reduceSub, Int.reduceMul, reduceCtorEq, ↓reduceIte, h7, f7]) (by simp only [↓gaW, ↓gaV, ↓gaC, ↓gaN, gaP, Nat.reduceEqDiff, Nat.reduceLeDiff, Nat.reduceAdd, Nat.reduceSub, Nat.reduceMul, Int.reduceLT, Int.reduceLE, Int.reduceEq, Int.reduceToNat, Int.reduceAdd, Int.reduceSub, Int.reduceMul, reduceCtorEq, ↓reduceIte, h8, f8]) (by simp only [↓gaW, ↓gaV, ↓gaC, ↓gaN, gaP, Nat.reduceEqDiff, Nat.reduceLeDiff, Nat.reduceAdd, Nat.reduceSub, Nat.reduceMul, Int.reduceLT, Int.reduceLE, Int.reduceEq, Int.reduceToNat, Int.reduceAdd, Int.reduceSub, Int.reduceMul, reduceCtorEq, ↓reduceIte, h9]) (by simp only [↓gaW, ↓gaV, ↓gaC, ↓gaN, gaP, Nat.reduceEqDiff, Nat.reduceLeDiff, Nat.reduceAdd, Nat.reduceSub, Nat.reduceMul, Int.reduceLT, Int.reduceLE, Int.reduceEq, Int.reduceToNat, Int.reduceAdd, Int.reduceSub, Int.reduceMul, reduceCtorEq, ↓reduceIte, h10]) hg hgq hu he

theorem rdC_of {k : Nat} {ql : List UInt32} (hb : b ≤ q) (hq : q < x) (f9 : f 9 = .slice (some ⟨q, 0, none⟩) N N) (f10 : f 10 = .int .i64 (k : Nat)) (gq : g q = some (.cells (ql.map u32V) false)) (hN : ql.length = N) (hNs : N < 1000000000) (hk : k < 32 * N) (h0 : lv ql % 2 ^ (k + 1) = 0)
    (K : ∀ (f' : Regs) (g' : Nat → Option Blk) (u : List UInt32), f' 0 = f 0 → f' 7 = f 7 → f' 8 = f 8 → f' 9 = f 9 → f' 10 = f 10 → (∀ p, p ≠ q → g' p = g p) → g' q = some (.cells (u.map u32V) false) → u.length = N → lv u = lv ql + 2 ^ k → D Try.prog s .normal f' ⟨x, b, g'⟩) :
    RC.vc Try.prog rdC f ⟨x, b, g⟩ (D Try.prog s) := by
  have d1 : (k : Int).tdiv 32 = ((k / 32 : Nat) : Int) := by rw [Int.tdiv_eq_ediv_of_nonneg (by omega)]; omega
  have d2 : (k : Int).tmod 32 = ((k % 32 : Nat) : Int) := by rw [Int.tmod_eq_emod_of_nonneg (by omega)]; omega
  have hr : k % 32 < 32 := Nat.mod_lt _ (by decide)
  have hr2 : 2 ^ (k % 32) < 4294967296 := Nat.pow_lt_pow_right (a := 2) (by decide) hr
  have s2 : shlV .u32 1 ((k % 32 : Nat) : Int) = ((2 ^ (k % 32) : Nat) : Int) := by
    have := shl32w (x := 1) (s := k % 32) (by omega)
    rw [Nat.one_mul, Nat.mod_eq_of_lt hr2] at this
    exact this
  have hw : (ql.map u32V).getD (k / 32) undef = .int .u32 ((ql.getD (k / 32) 0).toNat : Nat) := getD_u32 (by omega)
  have hW32 := lt32 (ql.getD (k / 32) 0)
  have hlw := low_word h0
  have hse := lv_set (w := ql) (i := k / 32) (x := UInt32.ofNat ((ql.getD (k / 32) 0).toNat + 2 ^ (k % 32))) (by omega)
  obtain ⟨W, hW⟩ : ∃ W, (ql.getD (k / 32) 0).toNat = W := ⟨_, rfl⟩
  rw [hW] at hw hW32 hlw hse
  have ho := or_bit hlw
  have hWb : W + 2 ^ (k % 32) < 4294967296 := by rw [← ho]; exact Nat.or_lt_two_pow (n := 32) hW32 hr2
  have s3 : bitsV .or .u32 (W : Int) ((2 ^ (k % 32) : Nat) : Int) = ((W + 2 ^ (k % 32) : Nat) : Int) := by rw [or_u32 hW32 hr2, ho]
  rw [ofNat32, Nat.mod_eq_of_lt hWb] at hse
  obtain ⟨Z, hZ⟩ : ∃ Z, 2 ^ (k % 32) = Z := ⟨_, rfl⟩
  have e1 : (2 : Nat) ^ k = 4294967296 ^ (k / 32) * Z := by
    have e : (4294967296 : Nat) = 2 ^ 32 := by decide
    rw [e, ← hZ, ← Nat.pow_mul, ← Nat.pow_add, Nat.div_add_mod]
  rw [hZ] at s2 s3 hWb hse
  have sp : splice (ql.map u32V) (k / 32) [.int .u32 ((W + Z : Nat) : Int)] = (ql.set (k / 32) (UInt32.ofNat (W + Z))).map u32V := by
    rw [u32V_lt (by omega), splice_set (by omega)]
  simp only [rdC, ↓gaW, ↓gaV, ↓gaC, ↓gaN, gaP, Nat.reduceEqDiff, Nat.reduceLeDiff, Nat.reduceAdd, Nat.reduceSub, Nat.reduceMul, Int.reduceLT, Int.reduceLE, Int.reduceEq, Int.reduceToNat, Int.reduceAdd, Int.reduceSub, Int.reduceMul, reduceCtorEq, ↓reduceIte, f9, f10, d1, d2, i64_w ((k / 32 : Nat) : Int) (by omega), Int.toNat_natCast, gq, Nat.zero_add, Nat.mul_one, hw, s2, s3, sp]
  repeat refine And.intro (by first | omega | (simp; done) | (simp; omega) | exact all1 rfl) ?_
  refine K _ _ (ql.set (k / 32) (UInt32.ofNat (W + Z))) (by simp only [↓gaW, ↓gaV, ↓gaC, ↓gaN, gaP, Nat.reduceEqDiff, Nat.reduceLeDiff, Nat.reduceAdd, Nat.reduceSub, Nat.reduceMul, Int.reduceLT, Int.reduceLE, Int.reduceEq, Int.reduceToNat, Int.reduceAdd, Int.reduceSub, Int.reduceMul, reduceCtorEq, ↓reduceIte]) (by simp only [↓gaW, ↓gaV, ↓gaC, ↓gaN, gaP, Nat.reduceEqDiff, Nat.reduceLeDiff, Nat.reduceAdd, Nat.reduceSub, Nat.reduceMul, Int.reduceLT, Int.reduceLE, Int.reduceEq, Int.reduceToNat, Int.reduceAdd, Int.reduceSub, Int.reduceMul, reduceCtorEq, ↓reduceIte]) (by simp only [↓gaW, ↓gaV, ↓gaC, ↓gaN, gaP, Nat.reduceEqDiff, Nat.reduceLeDiff, Nat.reduceAdd, Nat.reduceSub, Nat.reduceMul, Int.reduceLT, Int.reduceLE, Int.reduceEq, Int.reduceToNat, Int.reduceAdd, Int.reduceSub, Int.reduceMul, reduceCtorEq, ↓reduceIte]) (by simp only [↓gaW, ↓gaV, ↓gaC, ↓gaN, gaP, Nat.reduceEqDiff, Nat.reduceLeDiff, Nat.reduceAdd, Nat.reduceSub, Nat.reduceMul, Int.reduceLT, Int.reduceLE, Int.reduceEq, Int.reduceToNat, Int.reduceAdd, Int.reduceSub, Int.reduceMul, reduceCtorEq, ↓reduceIte, f9]) (by simp only [↓gaW, ↓gaV, ↓gaC, ↓gaN, gaP, Nat.reduceEqDiff, Nat.reduceLeDiff, Nat.reduceAdd, Nat.reduceSub, Nat.reduceMul, Int.reduceLT, Int.reduceLE, Int.reduceEq, Int.reduceToNat, Int.reduceAdd, Int.reduceSub, Int.reduceMul, reduceCtorEq, ↓reduceIte, f10]) (fun p hp => ?_) (by simp only [upd_e, if_true]) (by simp [hN]) ?_
  · simp only [upd_e]; rw [if_neg hp]
  · rw [e1]
    rw [Nat.mul_add] at hse
    omega
end
end Go.Ga

namespace Go.Ga
open Go Go.Proofs
set_option linter.unusedSimpArgs false
set_option linter.unusedVariables false
set_option maxRecDepth 100000
attribute [local irreducible] appendK

theorem div_bit0 {a m z : Nat} (h : 2 * (a / 2 ^ (z + 1) % m) + a / 2 ^ z % 2 < m) : a / 2 ^ z % m = 2 * (a / 2 ^ (z + 1) % m) + a / 2 ^ z % 2 ∧ a / 2 ^ z / m * 2 ^ z = a / 2 ^ (z + 1) / m * 2 ^ (z + 1) := by
  have e : a / 2 ^ z = 2 * (a / 2 ^ (z + 1)) + a / 2 ^ z % 2 := by rw [Nat.pow_succ, ← Nat.div_div_eq_div_mul]; omega
  have dm := Nat.div_add_mod (a / 2 ^ (z + 1)) m
  generalize a / 2 ^ (z + 1) = X at *
  generalize a / 2 ^ z % 2 = c at *
  have e2 : a / 2 ^ z = (2 * (X % m) + c) + m * (2 * (X / m)) := by
    rw [e, ← Nat.mul_assoc, Nat.mul_comm m 2, Nat.mul_assoc]
    omega
  rw [e2, Nat.add_mul_mod_self_left, Nat.mod_eq_of_lt h, Nat.add_mul_div_left _ _ (by omega), Nat.div_eq_of_lt h, Nat.zero_add, Nat.pow_succ]
  refine ⟨rfl, ?_⟩
  ac_rfl
theorem div_bit1 {a m z : Nat} (hm : 0 < m) (h : m ≤ 2 * (a / 2 ^ (z + 1) % m) + a / 2 ^ z % 2) : a / 2 ^ z % m + m = 2 * (a / 2 ^ (z + 1) % m) + a / 2 ^ z % 2 ∧ a / 2 ^ z / m * 2 ^ z = a / 2 ^ (z + 1) / m * 2 ^ (z + 1) + 2 ^ z := by
  have e : a / 2 ^ z = 2 * (a / 2 ^ (z + 1)) + a / 2 ^ z % 2 := by rw [Nat.pow_succ, ← Nat.div_div_eq_div_mul]; omega
  have dm := Nat.div_add_mod (a / 2 ^ (z + 1)) m
  have hc : a / 2 ^ z % 2 < 2 := Nat.mod_lt _ (by decide)
  generalize a / 2 ^ (z + 1) = X at *
  generalize a / 2 ^ z % 2 = c at *
  have hX := Nat.mod_lt X hm
  have e2 : a / 2 ^ z = (2 * (X % m) + c - m) + m * (2 * (X / m) + 1) := by
    rw [e, Nat.mul_add, Nat.mul_one, ← Nat.mul_assoc, Nat.mul_comm m 2, Nat.mul_assoc]
    omega
  rw [e2, Nat.add_mul_mod_self_left, Nat.mod_eq_of_lt (by omega), Nat.add_mul_div_left _ _ (by omega), Nat.div_eq_of_lt (by omega), Nat.zero_add, Nat.pow_succ, Nat.add_mul, Nat.one_mul]
  refine ⟨by omega, ?_⟩
  congr 1
  ac_rfl

section
variable {nx : Nat} {gt : Nat → Option Blk}

theorem ct_rDivMod {A B : Option Addr} {n m c d : Nat} {l k : List UInt32} (hr : Row nx gt 1 A n (l.map u32V)) (hc : n ≤ c) (hn : n < 10000000) (hs : Row nx gt 1 B m (k.map u32V)) (hd : m ≤ d) (hm : m < 10000000) :
    Ct Try.prog 75 [.slice A n c, .slice B m d] nx gt fun v nx' gt' => DivV nx' gt' (lv l) (lv k) v := by
  have hl : l.length = n := by simpa using hr.len
  have hk : k.length = m := by simpa using hs.len
  refine Ct.of hmx r_lanyardref08_DivMod (by simp [c_lanyardref08_DivMod]) fun b hb => ?_
  have lm := lb_len_le.2 (show lv k < 4294967296 ^ m by rw [← hk]; exact lv_lt k)
  have hF : ∀ q, q < nx → gt q = gt q := fun _ _ => rfl
  simp only [c_lanyardref08_DivMod, ↓gaW, ↓gaV, ↓gaC, ↓gaN, gaP, Nat.reduceEqDiff, Nat.reduceLeDiff, Nat.reduceAdd, Nat.reduceSub, Nat.reduceMul, Int.reduceLT, Int.reduceLE, Int.reduceEq, Int.reduceToNat, Int.reduceAdd, Int.reduceSub, Int.reduceMul, reduceCtorEq, ↓reduceIte]
  refine callK_of (ct_rBareG hs hd (by omega)) (fun v n1 g1 l1 k1 hC => ?_) (by omega)
  obtain ⟨A1, N0, rfl, hN0, hg1⟩ := hC
  have hr0 := hr
  have hF : ∀ q, q < nx → g1 q = gt q := fun q hq => k1 q (by omega)
  by_cases h0 : (N0 : Int) = 0
  · have k0 := lb_nil (show (lb (lv k)).length = 0 by omega)
    simp only [↓gaW, ↓gaV, ↓gaC, ↓gaN, gaP, Nat.reduceEqDiff, Nat.reduceLeDiff, Nat.reduceAdd, Nat.reduceSub, Nat.reduceMul, Int.reduceLT, Int.reduceLE, Int.reduceEq, Int.reduceToNat, Int.reduceAdd, Int.reduceSub, Int.reduceMul, reduceCtorEq, ↓reduceIte, gaE, implies_true, Nat.le_refl, Int.sub_zero, Nat.sub_zero, Int.le_refl, true_or, or_true, h0, decide_true]
    repeat refine And.intro (by first | omega | (simp; done) | (simp; omega) | exact all1 rfl) ?_
    first | exact ⟨hF, .inl ⟨k0, rfl⟩⟩ | exact .inl ⟨k0, rfl⟩
  have k0 : lv k ≠ 0 := fun h => h0 (by rw [h, lb_zero] at hN0; simp at hN0; omega)
  have hrow0 : ∀ b, rowOf ⟨n1 + 1, b, upd g1 n1 (some (.cells [.int .u32 0] false))⟩ (some ⟨n1, 0, none⟩) 1 = some (([0] : List UInt32).map u32V) := fun b =>
    (Row.w32 (ro := false) (w := [0]) (by omega) (by simp [upd]; rfl) rfl).rowOf
  simp only [↓gaW, ↓gaV, ↓gaC, ↓gaN, gaP, Nat.reduceEqDiff, Nat.reduceLeDiff, Nat.reduceAdd, Nat.reduceSub, Nat.reduceMul, Int.reduceLT, Int.reduceLE, Int.reduceEq, Int.reduceToNat, Int.reduceAdd, Int.reduceSub, Int.reduceMul, reduceCtorEq, ↓reduceIte, List.getD_cons_zero, List.getD_cons_succ, fillL, splice, List.take_zero, List.drop_zero, List.drop_succ_cons, List.take_succ_cons, List.drop_nil, List.take_nil, h0, decide_false, hrow0]
  repeat refine And.intro (by first | omega | (simp; done) | (simp; omega) | exact all1 rfl) ?_
  refine grow_append (nx := nx) (k := 1) ((hg1.low (nx' := nx) (b' := b) (by omega) (by omega)).keep (Nat.le_succ _) (fun p hp => by simp only [upd_e]; rw [if_neg (by omega)])) (by omega) (by omega) (by omega) (by omega) (by simp) (by simpa using cl_u32 _) (by omega) (by omega) fun g2 hk2 ho2 => ?_
  obtain ⟨kl, hkl⟩ : ∃ kl, lb (lv k) ++ [0] = kl := ⟨_, rfl⟩
  obtain ⟨N, hN⟩ : ∃ N, N0 + 1 = N := ⟨_, rfl⟩
  have hkv : lv kl = lv k := by rw [← hkl, lv_append, lv_lb]; simp [lv]
  have hkn : kl.length = N := by rw [← hkl, ← hN]; simp [hN0]
  have hMN : lv k < 4294967296 ^ N0 := lb_len_le.1 (Nat.le_of_eq hN0)
  have hrn := ho2.row
  rw [show (lb (lv k)).map u32V ++ [u32V 0] = kl.map u32V by rw [← hkl]; simp, Nat.mul_one, hN] at hrn
  have hF : ∀ q, q < nx → g2 q = gt q := fun q hq => by rw [hk2 q hq, upd_e, if_neg (by omega), hF q hq]
  have e32 : (32 : Int) * (n : Int) = ((32 * n : Nat) : Int) := by omega
  rw [hN]
  simp only [↓gaW, ↓gaV, ↓gaC, ↓gaN, gaP, Nat.reduceEqDiff, Nat.reduceLeDiff, Nat.reduceAdd, Nat.reduceSub, Nat.reduceMul, Int.reduceLT, Int.reduceLE, Int.reduceEq, Int.reduceToNat, Int.reduceAdd, Int.reduceSub, Int.reduceMul, reduceCtorEq, ↓reduceIte, zeros32, Int.toNat_natCast, e32, i64_w ((32 * n : Nat) : Int) (by omega), i64_w (((32 * n : Nat) : Int) - 1) (by omega)]
  repeat refine And.intro (by first | omega | (simp; done) | (simp; omega) | exact all1 rfl) ?_
  have hM0 : 0 < lv k := by omega
  have hAn : lv l < 2 ^ (32 * n) := by
    have := lv_lt l
    rwa [hl, show (4294967296 : Nat) = 2 ^ 32 by decide, ← Nat.pow_mul] at this
  refine loop_of (fun j f mm => ∃ (y : Nat) (g : Nat → Option Blk) (u qs : List UInt32), j = y ∧ y ≤ 32 * n ∧ f 0 = .slice A n c ∧ f 7 = .slice (some ⟨n1 + 1, 0, some 1⟩) N N ∧ f 8 = .slice (some ⟨n1 + 1 + 1, 0, none⟩) N N ∧ f 9 = .slice (some ⟨n1 + 1 + 1 + 1, 0, none⟩) n n ∧ f 10 = .int .i64 ((y : Int) - 1) ∧ mm = ⟨n1 + 1 + 1 + 1 + 1, b, g⟩ ∧
      (∀ p, p < n1 + 1 + 1 → g p = g2 p) ∧ g (n1 + 1 + 1) = some (.cells (u.map u32V) false) ∧ g (n1 + 1 + 1 + 1) = some (.cells (qs.map u32V) false) ∧ u.length = N ∧ qs.length = n ∧ lv u = lv l / 2 ^ y % lv k ∧ lv qs = lv l / 2 ^ y / lv k * 2 ^ y) (32 * n)
    ⟨32 * n, _, List.replicate N 0, List.replicate n 0, rfl, Nat.le_refl _, rfl, rfl, rfl, rfl, rfl, rfl, fun p hp => by simp only [upd_e]; rw [if_neg (by omega), if_neg (by omega)], by simp [upd_e], by simp only [upd_e, if_true], by simp, by simp, by rw [lv_replicate, Nat.div_eq_of_lt hAn, Nat.zero_mod], by rw [lv_replicate, Nat.div_eq_of_lt hAn, Nat.zero_div, Nat.zero_mul]⟩ ?_
  rintro j f mm ⟨y, g, u, qs, rfl, hy, f0, f7, f8, f9, f10, rfl, hg, hgu, hgq, hu, hqs, huv, hqv⟩
  have hrN := hrn.keep (nx' := n1 + 1 + 1 + 1 + 1) (gt' := g) (by omega) (fun p hp => hg p hp)
  have hrA := hr0.keep (nx' := n1 + 1 + 1 + 1 + 1) (gt' := g) (by omega) (fun p hp => by rw [hg p (by omega), hF p hp])
  rcases Nat.eq_zero_or_pos j with rfl | hj
  · rw [Nat.pow_zero, Nat.div_one] at huv
    rw [Nat.pow_zero, Nat.div_one, Nat.mul_one] at hqv
    simp only [↓gaW, ↓gaV, ↓gaC, ↓gaN, gaP, Nat.reduceEqDiff, Nat.reduceLeDiff, Nat.reduceAdd, Nat.reduceSub, Nat.reduceMul, Int.reduceLT, Int.reduceLE, Int.reduceEq, Int.reduceToNat, Int.reduceAdd, Int.reduceSub, Int.reduceMul, reduceCtorEq, ↓reduceIte, gaE, implies_true, Nat.le_refl, Int.sub_zero, Nat.sub_zero, Int.le_refl, true_or, or_true, f7, f8, f9, f10, show ((0 : Nat) : Int) - 1 = -1 from rfl, show ¬ (0 : Int) ≤ -1 by omega, decide_false, loopK_e]
    refine callK_of (ct_rBare (Row.w32 (by omega) hgq hqs) (Nat.le_refl _) (by omega)) (fun v n3 g3 l3 k3 hC => ?_) (by omega)
    rw [hqv] at hC
    simp only [↓gaW, ↓gaV, ↓gaC, ↓gaN, gaP, Nat.reduceEqDiff, Nat.reduceLeDiff, Nat.reduceAdd, Nat.reduceSub, Nat.reduceMul, Int.reduceLT, Int.reduceLE, Int.reduceEq, Int.reduceToNat, Int.reduceAdd, Int.reduceSub, Int.reduceMul, reduceCtorEq, ↓reduceIte, gaE, implies_true, Nat.le_refl, Int.sub_zero, Nat.sub_zero, Int.le_refl, true_or, or_true, f8]
    refine callK_of (ct_rBare (Row.w32 (by omega) ((k3 _ (by omega)).trans hgu) hu) (Nat.le_refl _) (by omega)) (fun v' n4 g4 l4 k4 hC' => ?_) (by omega)
    rw [huv] at hC'
    simp only [↓gaW, ↓gaV, ↓gaC, ↓gaN, gaP, Nat.reduceEqDiff, Nat.reduceLeDiff, Nat.reduceAdd, Nat.reduceSub, Nat.reduceMul, Int.reduceLT, Int.reduceLE, Int.reduceEq, Int.reduceToNat, Int.reduceAdd, Int.reduceSub, Int.reduceMul, reduceCtorEq, ↓reduceIte, gaE, implies_true, Nat.le_refl, Int.sub_zero, Nat.sub_zero, Int.le_refl, true_or, or_true]
    repeat refine And.intro (by first | omega | (simp; done) | (simp; omega) | exact all1 rfl) ?_
    exact ⟨fun p hp => by rw [k4 p (by omega), k3 p (by omega), hg p (by omega), hF p hp], .inr ⟨k0, _, _, rfl, hC.keep l4 k4, hC'⟩⟩
  obtain ⟨z, rfl⟩ : ∃ z, j = z + 1 := ⟨j - 1, by omega⟩
  rw [show ((z + 1 : Nat) : Int) - 1 = (z : Int) by omega] at f10
  simp only [↓gaW, ↓gaV, ↓gaC, ↓gaN, gaP, Nat.reduceEqDiff, Nat.reduceLeDiff, Nat.reduceAdd, Nat.reduceSub, Nat.reduceMul, Int.reduceLT, Int.reduceLE, Int.reduceEq, Int.reduceToNat, Int.reduceAdd, Int.reduceSub, Int.reduceMul, reduceCtorEq, ↓reduceIte, f0, f10, show (0 : Int) ≤ (z : Int) by omega, decide_true]
  refine callK_of (ct_rbit hrA (by omega) (by omega)) (fun v n3 g3 l3 k3 hC => ?_) (by omega)
  obtain ⟨rfl, rfl, rfl⟩ := hC
  refine (show goOps Try.prog _ _ _ (D Try.prog (.thn (.seq rdA (.seq _ (.seq _ (.seq rdB rdC)))) _)) from ?_)
  simp only [↓gaW, ↓gaV, ↓gaC, ↓gaN, gaP, Nat.reduceEqDiff, Nat.reduceLeDiff, Nat.reduceAdd, Nat.reduceSub, Nat.reduceMul, Int.reduceLT, Int.reduceLE, Int.reduceEq, Int.reduceToNat, Int.reduceAdd, Int.reduceSub, Int.reduceMul, reduceCtorEq, ↓reduceIte]
  have hc2 : lv l / 2 ^ z % 2 < 2 := Nat.mod_lt _ (by decide)
  refine rdA_of (N := N) (rl := u) (c0 := lv l / 2 ^ z % 2) (b := b) (q := n1 + 1 + 1) (by omega) (by omega) (by simp only [↓gaW, ↓gaV, ↓gaC, ↓gaN, gaP, Nat.reduceEqDiff, Nat.reduceLeDiff, Nat.reduceAdd, Nat.reduceSub, Nat.reduceMul, Int.reduceLT, Int.reduceLE, Int.reduceEq, Int.reduceToNat, Int.reduceAdd, Int.reduceSub, Int.reduceMul, reduceCtorEq, ↓reduceIte, f8]) (by simp only [↓gaW, ↓gaV, ↓gaC, ↓gaN, gaP, Nat.reduceEqDiff, Nat.reduceLeDiff, Nat.reduceAdd, Nat.reduceSub, Nat.reduceMul, Int.reduceLT, Int.reduceLE, Int.reduceEq, Int.reduceToNat, Int.reduceAdd, Int.reduceSub, Int.reduceMul, reduceCtorEq, ↓reduceIte]) hc2 hgu hu (by omega) ?_
  intro f' g' u' cc e0 e7 e8 e9 e10 ko hgu' hu' hv'
  simp only [↓gaW, ↓gaV, ↓gaC, ↓gaN, gaP, Nat.reduceEqDiff, Nat.reduceLeDiff, Nat.reduceAdd, Nat.reduceSub, Nat.reduceMul, Int.reduceLT, Int.reduceLE, Int.reduceEq, Int.reduceToNat, Int.reduceAdd, Int.reduceSub, Int.reduceMul, reduceCtorEq, ↓reduceIte] at e0 e7 e8 e9 e10
  rw [f0] at e0
  rw [f7] at e7
  rw [f8] at e8
  rw [f9] at e9
  rw [f10] at e10
  have hcc : cc = 0 := by
    rcases Nat.eq_zero_or_pos cc with h | h
    · exact h
    · exfalso
      have h1 := Nat.mod_lt (lv l / 2 ^ (z + 1)) hM0
      have h2 := Nat.le_mul_of_pos_right (4294967296 ^ N) h
      have h3 : 4294967296 ^ N = 4294967296 * 4294967296 ^ N0 := by rw [← hN, Nat.pow_succ']
      omega
  rw [hcc, Nat.mul_zero, Nat.add_zero, huv] at hv'
  have hgq' := (ko (n1 + 1 + 1 + 1) (by omega)).trans hgq
  have hrN' := hrN.keepA (nx' := n1 + 1 + 1 + 1 + 1) (gt' := g') (Nat.le_refl _) (fun _ a ha => by injection ha with ha; subst ha; exact ko _ (by simp))
  simp only [↓gaW, ↓gaV, ↓gaC, ↓gaN, gaP, Nat.reduceEqDiff, Nat.reduceLeDiff, Nat.reduceAdd, Nat.reduceSub, Nat.reduceMul, Int.reduceLT, Int.reduceLE, Int.reduceEq, Int.reduceToNat, Int.reduceAdd, Int.reduceSub, Int.reduceMul, reduceCtorEq, ↓reduceIte, e7, e8]
  refine callK_of (ct_rless (Row.w32 (by omega) hgu' hu') (by omega) hrN') (fun v n3 g3 l3 k3 hC => ?_) (by omega)
  obtain ⟨rfl, rfl, rfl⟩ := hC
  rw [hkv, hv']
  by_cases hlt : 2 * (lv l / 2 ^ (z + 1) % lv k) + lv l / 2 ^ z % 2 < lv k
  · obtain ⟨h1, h2⟩ := div_bit0 hlt
    simp only [↓gaW, ↓gaV, ↓gaC, ↓gaN, gaP, Nat.reduceEqDiff, Nat.reduceLeDiff, Nat.reduceAdd, Nat.reduceSub, Nat.reduceMul, Int.reduceLT, Int.reduceLE, Int.reduceEq, Int.reduceToNat, Int.reduceAdd, Int.reduceSub, Int.reduceMul, reduceCtorEq, ↓reduceIte, hlt, decide_true, e10, i64_w ((z : Int) - 1) (by omega), loopK_n]
    refine ⟨z, by omega, z, _, u', qs, rfl, by omega, e0, e7, e8, e9, rfl, rfl, fun p hp => ?_, hgu', hgq', hu', hqs, by rw [hv', h1], by rw [hqv, h2]⟩
    rw [ko p (by omega), hg p hp]
  · obtain ⟨h1, h2⟩ := div_bit1 hM0 (Nat.le_of_not_lt hlt)
    simp only [↓gaW, ↓gaV, ↓gaC, ↓gaN, gaP, Nat.reduceEqDiff, Nat.reduceLeDiff, Nat.reduceAdd, Nat.reduceSub, Nat.reduceMul, Int.reduceLT, Int.reduceLE, Int.reduceEq, Int.reduceToNat, Int.reduceAdd, Int.reduceSub, Int.reduceMul, reduceCtorEq, ↓reduceIte, hlt, decide_false]
    refine rdB_of (N := N) (d := N) (rl := u') (kl := kl) (q := n1 + 1 + 1) (by omega) (by omega) (by simp only [↓gaW, ↓gaV, ↓gaC, ↓gaN, gaP, Nat.reduceEqDiff, Nat.reduceLeDiff, Nat.reduceAdd, Nat.reduceSub, Nat.reduceMul, Int.reduceLT, Int.reduceLE, Int.reduceEq, Int.reduceToNat, Int.reduceAdd, Int.reduceSub, Int.reduceMul, reduceCtorEq, ↓reduceIte, e7]) (by simp only [↓gaW, ↓gaV, ↓gaC, ↓gaN, gaP, Nat.reduceEqDiff, Nat.reduceLeDiff, Nat.reduceAdd, Nat.reduceSub, Nat.reduceMul, Int.reduceLT, Int.reduceLE, Int.reduceEq, Int.reduceToNat, Int.reduceAdd, Int.reduceSub, Int.reduceMul, reduceCtorEq, ↓reduceIte, e8]) (by simp only [↓gaW, ↓gaV, ↓gaC, ↓gaN, gaP, Nat.reduceEqDiff, Nat.reduceLeDiff, Nat.reduceAdd, Nat.reduceSub, Nat.reduceMul, Int.reduceLT, Int.reduceLE, Int.reduceEq, Int.reduceToNat, Int.reduceAdd, Int.reduceSub, Int.reduceMul, reduceCtorEq, ↓reduceIte]) hrN' (fun a ha => by injection ha with ha; subst ha; simp) hgu' hu' (by omega) ?_
    intro f3 g3 u3 c3 i0 i7 i8 i9 i10 ko3 hgu3 hu3 hv3
    simp only [↓gaW, ↓gaV, ↓gaC, ↓gaN, gaP, Nat.reduceEqDiff, Nat.reduceLeDiff, Nat.reduceAdd, Nat.reduceSub, Nat.reduceMul, Int.reduceLT, Int.reduceLE, Int.reduceEq, Int.reduceToNat, Int.reduceAdd, Int.reduceSub, Int.reduceMul, reduceCtorEq, ↓reduceIte] at i0 i7 i8 i9 i10
    rw [e0] at i0
    rw [e7] at i7
    rw [e8] at i8
    rw [e9] at i9
    rw [e10] at i10
    rw [hkv, hv'] at hv3
    have hc3 : c3 = 0 := by
      rcases Nat.eq_zero_or_pos c3 with h | h
      · exact h
      · exfalso
        have h1 := lv_lt' (Nat.le_of_eq hu3)
        have h2 := Nat.le_mul_of_pos_right (4294967296 ^ N) h
        omega
    rw [hc3, Nat.mul_zero, Nat.add_zero] at hv3
    have hgq3 := (ko3 (n1 + 1 + 1 + 1) (by omega)).trans hgq'
    simp only [↓gaW, ↓gaV, ↓gaC, ↓gaN, gaP, Nat.reduceEqDiff, Nat.reduceLeDiff, Nat.reduceAdd, Nat.reduceSub, Nat.reduceMul, Int.reduceLT, Int.reduceLE, Int.reduceEq, Int.reduceToNat, Int.reduceAdd, Int.reduceSub, Int.reduceMul, reduceCtorEq, ↓reduceIte]
    refine rdC_of (N := n) (k := z) (ql := qs) (q := n1 + 1 + 1 + 1) (by omega) (by omega) i9 i10 hgq3 hqs (by omega) (by omega) (by rw [hqv, Nat.mul_mod_left]) ?_
    intro f4 g4 u4 j0 j7 j8 j9 j10 ko4 hgq4 hq4 hv4
    rw [i0] at j0
    rw [i7] at j7
    rw [i8] at j8
    rw [i9] at j9
    rw [i10] at j10
    simp only [↓gaW, ↓gaV, ↓gaC, ↓gaN, gaP, Nat.reduceEqDiff, Nat.reduceLeDiff, Nat.reduceAdd, Nat.reduceSub, Nat.reduceMul, Int.reduceLT, Int.reduceLE, Int.reduceEq, Int.reduceToNat, Int.reduceAdd, Int.reduceSub, Int.reduceMul, reduceCtorEq, ↓reduceIte, j10, i64_w ((z : Int) - 1) (by omega), loopK_n]
    refine ⟨z, by omega, z, _, u3, u4, rfl, by omega, j0, j7, j8, j9, rfl, rfl, fun p hp => ?_, (ko4 _ (by omega)).trans hgu3, hgq4, hu3, hq4, by omega, by rw [hv4, hqv, h2]⟩
    rw [ko4 p (by omega), ko3 p (by omega), ko p (by omega), hg p hp]
end
end Go.Ga

namespace Go.Ga
open Go Go.Proofs
set_option linter.unusedSimpArgs false
set_option linter.unusedVariables false
set_option maxRecDepth 100000
attribute [local irreducible] appendK

section
variable {nx : Nat} {gt : Nat → Option Blk}

theorem ct_rmMul {A B E : Option Addr} {n m h c d e : Nat} {l k t : List UInt32} (hr : Row nx gt 1 A n (l.map u32V)) (hn : n < 4000000) (hs : Row nx gt 1 B m (k.map u32V)) (hm : m < 4000000) (ht : Row nx gt 1 E h (t.map u32V)) (he : h ≤ e) (hh : h < 4000000) :
    Ct Try.prog 77 [.slice A n c, .slice B m d, .slice E h e] nx gt fun v nx' gt' => ModV nx' gt' (lv l * lv k) (lv t) v := by
  have hl : l.length = n := by simpa using hr.len
  have hk : k.length = m := by simpa using hs.len
  refine Ct.of hmx r_lanyardref08_Mul (by simp [c_lanyardref08_Mul]) fun b hb => ?_
  have hF : ∀ q, q < nx → gt q = gt q := fun _ _ => rfl
  simp only [c_lanyardref08_Mul, ↓gaW, ↓gaV, ↓gaC, ↓gaN, gaP, Nat.reduceEqDiff, Nat.reduceLeDiff, Nat.reduceAdd, Nat.reduceSub, Nat.reduceMul, Int.reduceLT, Int.reduceLE, Int.reduceEq, Int.reduceToNat, Int.reduceAdd, Int.reduceSub, Int.reduceMul, reduceCtorEq, ↓reduceIte]
  refine callK_of (ct_rMul hr (by omega) hs (by omega)) (fun v n1 g1 l1 k1 hC => ?_) (by omega)
  obtain ⟨A1, a1, c1, rfl, hc1, hl1, r1⟩ := hC
  have ht := ht.keep l1 k1
  have hF : ∀ q, q < nx → g1 q = gt q := fun q hq => (k1 q (by omega)).trans (hF q hq)
  simp only [↓gaW, ↓gaV, ↓gaC, ↓gaN, gaP, Nat.reduceEqDiff, Nat.reduceLeDiff, Nat.reduceAdd, Nat.reduceSub, Nat.reduceMul, Int.reduceLT, Int.reduceLE, Int.reduceEq, Int.reduceToNat, Int.reduceAdd, Int.reduceSub, Int.reduceMul, reduceCtorEq, ↓reduceIte]
  have hlen : (lb (lv l * lv k)).length ≤ n + m := lb_len_le.2 (lt_mul (lv_lt' (by omega)) (lv_lt' (by omega)))
  refine callK_of (ct_rDivMod r1 hc1 (by omega) ht he (by omega)) (fun v n2 g2 l2 k2 hC => ?_) (by omega)
  rw [lv_lb] at hC
  rcases hC with ⟨h0, rfl⟩ | ⟨h0, v1, v2, rfl, hq, hw⟩
  · simp only [↓gaW, ↓gaV, ↓gaC, ↓gaN, gaP, Nat.reduceEqDiff, Nat.reduceLeDiff, Nat.reduceAdd, Nat.reduceSub, Nat.reduceMul, Int.reduceLT, Int.reduceLE, Int.reduceEq, Int.reduceToNat, Int.reduceAdd, Int.reduceSub, Int.reduceMul, reduceCtorEq, ↓reduceIte, gaE, implies_true, Nat.le_refl, Int.sub_zero, Nat.sub_zero, Int.le_refl, true_or, or_true]
    repeat refine And.intro (by first | omega | (simp; done) | (simp; omega) | exact all1 rfl) ?_
    exact ⟨fun q hq => (k2 q (by omega)).trans (hF q hq), .inl ⟨h0, rfl⟩⟩
  · simp only [↓gaW, ↓gaV, ↓gaC, ↓gaN, gaP, Nat.reduceEqDiff, Nat.reduceLeDiff, Nat.reduceAdd, Nat.reduceSub, Nat.reduceMul, Int.reduceLT, Int.reduceLE, Int.reduceEq, Int.reduceToNat, Int.reduceAdd, Int.reduceSub, Int.reduceMul, reduceCtorEq, ↓reduceIte, gaE, implies_true, Nat.le_refl, Int.sub_zero, Nat.sub_zero, Int.le_refl, true_or, or_true]
    repeat refine And.intro (by first | omega | (simp; done) | (simp; omega) | exact all1 rfl) ?_
    exact ⟨fun q hq => (k2 q (by omega)).trans (hF q hq), .inr ⟨h0, _, rfl, hw⟩⟩

theorem ct_rExp {A B E : Option Addr} {n m h c d e : Nat} {l k t : List UInt32} (hr : Row nx gt 1 A n (l.map u32V)) (hc : n ≤ c) (hn : n < 4000000) (hs : Row nx gt 1 B m (k.map u32V)) (hd : m ≤ d) (hm : m < 4000000) (ht : Row nx gt 1 E h (t.map u32V)) (he : h ≤ e) (hh : h < 4000000) :
    Ct Try.prog 49 [.slice A n c, .slice B m d, .slice E h e] nx gt fun v nx' gt' => ModV nx' gt' (lv l ^ lv k) (lv t) v := by
  have hl : l.length = n := by simpa using hr.len
  have hk : k.length = m := by simpa using hs.len
  have htl : t.length = h := by simpa using ht.len
  refine Ct.of hmx r_lanyardref08_Exp (by simp [c_lanyardref08_Exp]) fun b hb => ?_
  have hF : ∀ q, q < nx → gt q = gt q := fun _ _ => rfl
  have ebl : bl (lv k) ≤ 32 * m := by
    refine bl_le.2 ?_
    have := lv_lt' (Nat.le_of_eq hk)
    rwa [show (4294967296 : Nat) = 2 ^ 32 by decide, ← Nat.pow_mul] at this
  simp only [c_lanyardref08_Exp, ↓gaW, ↓gaV, ↓gaC, ↓gaN, gaP, Nat.reduceEqDiff, Nat.reduceLeDiff, Nat.reduceAdd, Nat.reduceSub, Nat.reduceMul, Int.reduceLT, Int.reduceLE, Int.reduceEq, Int.reduceToNat, Int.reduceAdd, Int.reduceSub, Int.reduceMul, reduceCtorEq, ↓reduceIte, List.getD_cons_zero, List.getD_cons_succ, fillL, splice, List.take_zero, List.drop_zero, List.drop_succ_cons, List.take_succ_cons, List.drop_nil, List.take_nil]
  have r0 : Row (nx + 1) (upd gt nx (some (.cells [.int .u32 1] false))) 1 (some ⟨nx, 0, none⟩) 1 (([1] : List UInt32).map u32V) := Row.w32 (ro := false) (by omega) (by simp [upd]; rfl) rfl
  have kx : ∀ q, q < nx → upd gt nx (some (.cells [.int .u32 1] false)) q = gt q := fun q hq => by simp only [upd_e]; rw [if_neg (by omega)]
  have hr := hr.keep (nx' := nx + 1) (by omega) kx
  have hs := hs.keep (nx' := nx + 1) (by omega) kx
  have ht := ht.keep (nx' := nx + 1) (by omega) kx
  refine callK_of (ct_rDivMod r0 (by omega) (by omega) ht he (by omega)) (fun v n1 g1 l1 k1 hC => ?_) (by omega)
  rw [show lv [1] = 1 by decide] at hC
  have hF : ∀ q, q < nx → g1 q = gt q := fun q hq => (k1 q (by omega)).trans (kx q hq)
  have hr := hr.keep l1 k1
  have hs := hs.keep l1 k1
  have ht := ht.keep l1 k1
  rcases hC with ⟨h0, rfl⟩ | ⟨h0, v1, v2, rfl, hq, hw⟩
  · simp only [↓gaW, ↓gaV, ↓gaC, ↓gaN, gaP, Nat.reduceEqDiff, Nat.reduceLeDiff, Nat.reduceAdd, Nat.reduceSub, Nat.reduceMul, Int.reduceLT, Int.reduceLE, Int.reduceEq, Int.reduceToNat, Int.reduceAdd, Int.reduceSub, Int.reduceMul, reduceCtorEq, ↓reduceIte, gaE, implies_true, Nat.le_refl, Int.sub_zero, Nat.sub_zero, Int.le_refl, true_or, or_true]
    repeat refine And.intro (by first | omega | (simp; done) | (simp; omega) | exact all1 rfl) ?_
    first | exact ⟨hF, .inl ⟨h0, rfl⟩⟩ | exact .inl ⟨h0, rfl⟩
  simp only [↓gaW, ↓gaV, ↓gaC, ↓gaN, gaP, Nat.reduceEqDiff, Nat.reduceLeDiff, Nat.reduceAdd, Nat.reduceSub, Nat.reduceMul, Int.reduceLT, Int.reduceLE, Int.reduceEq, Int.reduceToNat, Int.reduceAdd, Int.reduceSub, Int.reduceMul, reduceCtorEq, ↓reduceIte, Bool.not_true]
  repeat refine And.intro (by first | omega | (simp; done) | (simp; omega) | exact all1 rfl) ?_
  refine callK_of (ct_rDivMod hr hc (by omega) ht he (by omega)) (fun v n3 g3 l3 k3 hC => ?_) (by omega)
  have hs := hs.keep l3 k3
  have ht := ht.keep l3 k3
  have hw := hw.keep l3 k3
  have hF : ∀ q, q < nx → g3 q = gt q := fun q hq => (k3 q (by omega)).trans (hF q hq)
  rcases hC with ⟨h0', rfl⟩ | ⟨_, v3, v4, rfl, hq3, hw3⟩
  · exact absurd h0' h0
  simp only [↓gaW, ↓gaV, ↓gaC, ↓gaN, gaP, Nat.reduceEqDiff, Nat.reduceLeDiff, Nat.reduceAdd, Nat.reduceSub, Nat.reduceMul, Int.reduceLT, Int.reduceLE, Int.reduceEq, Int.reduceToNat, Int.reduceAdd, Int.reduceSub, Int.reduceMul, reduceCtorEq, ↓reduceIte]
  repeat refine And.intro (by first | omega | (simp; done) | (simp; omega) | exact all1 rfl) ?_
  refine callK_of (ct_rLen hs hd (by omega)) (fun v n4 g4 l4 k4 hC => ?_) (by omega)
  subst hC
  have hs := hs.keep l4 k4
  have ht := ht.keep l4 k4
  have hw := hw.keep l4 k4
  have hw3 := hw3.keep l4 k4
  have hF : ∀ q, q < nx → g4 q = gt q := fun q hq => (k4 q (by omega)).trans (hF q hq)
  simp only [↓gaW, ↓gaV, ↓gaC, ↓gaN, gaP, Nat.reduceEqDiff, Nat.reduceLeDiff, Nat.reduceAdd, Nat.reduceSub, Nat.reduceMul, Int.reduceLT, Int.reduceLE, Int.reduceEq, Int.reduceToNat, Int.reduceAdd, Int.reduceSub, Int.reduceMul, reduceCtorEq, ↓reduceIte, i64_w ((bl (lv k) : Int) - 1) (by omega)]
  refine loop_of (fun j f mm => ∃ (y x : Nat) (g : Nat → Option Blk), j = y ∧ y ≤ bl (lv k) ∧ W32 x g (f 12) (lb (lv l % lv t)) ∧ f 1 = .slice B m d ∧ f 2 = .slice E h e ∧ W32 x g (f 9) (lb (lv l ^ (lv k / 2 ^ y) % lv t)) ∧ f 14 = .int .i64 ((y : Int) - 1) ∧ mm = ⟨x, b, g⟩ ∧ nx ≤ x ∧
      (∀ p, p < nx → g p = gt p) ∧ Row x g 1 B m (k.map u32V) ∧ Row x g 1 E h (t.map u32V)) (bl (lv k))
    ⟨_, n4, g4, rfl, Nat.le_refl _, by simp only [↓gaW, ↓gaV, ↓gaC, ↓gaN, gaP, Nat.reduceEqDiff, Nat.reduceLeDiff, Nat.reduceAdd, Nat.reduceSub, Nat.reduceMul, Int.reduceLT, Int.reduceLE, Int.reduceEq, Int.reduceToNat, Int.reduceAdd, Int.reduceSub, Int.reduceMul, reduceCtorEq, ↓reduceIte]; exact hw3, by simp only [↓gaW, ↓gaV, ↓gaC, ↓gaN, gaP, Nat.reduceEqDiff, Nat.reduceLeDiff, Nat.reduceAdd, Nat.reduceSub, Nat.reduceMul, Int.reduceLT, Int.reduceLE, Int.reduceEq, Int.reduceToNat, Int.reduceAdd, Int.reduceSub, Int.reduceMul, reduceCtorEq, ↓reduceIte], by simp only [↓gaW, ↓gaV, ↓gaC, ↓gaN, gaP, Nat.reduceEqDiff, Nat.reduceLeDiff, Nat.reduceAdd, Nat.reduceSub, Nat.reduceMul, Int.reduceLT, Int.reduceLE, Int.reduceEq, Int.reduceToNat, Int.reduceAdd, Int.reduceSub, Int.reduceMul, reduceCtorEq, ↓reduceIte], by simp only [↓gaW, ↓gaV, ↓gaC, ↓gaN, gaP, Nat.reduceEqDiff, Nat.reduceLeDiff, Nat.reduceAdd, Nat.reduceSub, Nat.reduceMul, Int.reduceLT, Int.reduceLE, Int.reduceEq, Int.reduceToNat, Int.reduceAdd, Int.reduceSub, Int.reduceMul, reduceCtorEq, ↓reduceIte]; rw [Nat.div_eq_of_lt (bl_lt _), Nat.pow_zero]; exact hw, by simp only [↓gaW, ↓gaV, ↓gaC, ↓gaN, gaP, Nat.reduceEqDiff, Nat.reduceLeDiff, Nat.reduceAdd, Nat.reduceSub, Nat.reduceMul, Int.reduceLT, Int.reduceLE, Int.reduceEq, Int.reduceToNat, Int.reduceAdd, Int.reduceSub, Int.reduceMul, reduceCtorEq, ↓reduceIte], rfl, by omega, hF, hs, ht⟩ ?_
  rintro j f mm ⟨y, x, g, rfl, hy, w0, h1, h2, w9, h11, rfl, hx, hF, hs, ht⟩
  rcases Nat.eq_zero_or_pos j with rfl | hj
  · simp only [↓gaW, ↓gaV, ↓gaC, ↓gaN, gaP, Nat.reduceEqDiff, Nat.reduceLeDiff, Nat.reduceAdd, Nat.reduceSub, Nat.reduceMul, Int.reduceLT, Int.reduceLE, Int.reduceEq, Int.reduceToNat, Int.reduceAdd, Int.reduceSub, Int.reduceMul, reduceCtorEq, ↓reduceIte, gaE, implies_true, Nat.le_refl, Int.sub_zero, Nat.sub_zero, Int.le_refl, true_or, or_true, h11, show ((0 : Nat) : Int) - 1 = -1 from rfl, show ¬ (0 : Int) ≤ -1 by omega, decide_false, loopK_e]
    rw [Nat.pow_zero, Nat.div_one] at w9
    repeat refine And.intro (by first | omega | (simp; done) | (simp; omega) | exact all1 rfl) ?_
    first | exact ⟨hF, .inr ⟨h0, _, rfl, w9⟩⟩ | exact .inr ⟨h0, _, rfl, w9⟩
  · obtain ⟨z, rfl⟩ : ∃ z, j = z + 1 := ⟨j - 1, by omega⟩
    rw [show ((z + 1 : Nat) : Int) - 1 = (z : Int) by omega] at h11
    obtain ⟨a0, s0, c0, e0, hc0, hl0, r0⟩ := w0
    obtain ⟨a9, s9, c9, e9, hc9, hl9, r9⟩ := w9
    have z0 := mod_len (x := lv l) h0 (Nat.le_of_eq htl)
    have z9 := mod_len (x := lv l ^ (lv k / 2 ^ (z + 1))) h0 (Nat.le_of_eq htl)
    simp only [↓gaW, ↓gaV, ↓gaC, ↓gaN, gaP, Nat.reduceEqDiff, Nat.reduceLeDiff, Nat.reduceAdd, Nat.reduceSub, Nat.reduceMul, Int.reduceLT, Int.reduceLE, Int.reduceEq, Int.reduceToNat, Int.reduceAdd, Int.reduceSub, Int.reduceMul, reduceCtorEq, ↓reduceIte, h1, h2, h11, e9, show (0 : Int) ≤ (z : Int) by omega, decide_true]
    refine callK_of (ct_rmMul r9 (by omega) r9 (by omega) ht he hh) (fun v n5 g5 l5 k5 hC => ?_) (by omega)
    rcases hC with ⟨h0', rfl⟩ | ⟨_, v5, rfl, hw5⟩
    · exact absurd h0' h0
    have hs := hs.keep l5 k5
    have ht := ht.keep l5 k5
    have r0 := r0.keep l5 k5
    have hF : ∀ q, q < nx → g5 q = gt q := fun q hq => (k5 q (by omega)).trans (hF q hq)
    rw [lv_lb] at hw5
    have hs2 := hs
    simp only [↓gaW, ↓gaV, ↓gaC, ↓gaN, gaP, Nat.reduceEqDiff, Nat.reduceLeDiff, Nat.reduceAdd, Nat.reduceSub, Nat.reduceMul, Int.reduceLT, Int.reduceLE, Int.reduceEq, Int.reduceToNat, Int.reduceAdd, Int.reduceSub, Int.reduceMul, reduceCtorEq, ↓reduceIte, h1, h11]
    repeat refine And.intro (by first | omega | (simp; done) | (simp; omega) | exact all1 rfl) ?_
    refine callK_of (ct_rbit hs (by omega) (by omega)) (fun v n7 g7 l7 k7 hC => ?_) (by omega)
    obtain ⟨rfl, rfl, rfl⟩ := hC
    simp only [↓gaW, ↓gaV, ↓gaC, ↓gaN, gaP, Nat.reduceEqDiff, Nat.reduceLeDiff, Nat.reduceAdd, Nat.reduceSub, Nat.reduceMul, Int.reduceLT, Int.reduceLE, Int.reduceEq, Int.reduceToNat, Int.reduceAdd, Int.reduceSub, Int.reduceMul, reduceCtorEq, ↓reduceIte]
    have hpb := pow_bit (lv l) (lv k) (lv t) z
    obtain ⟨a5, s5, c5, rfl, hc5, hl5, r5⟩ := hw5
    have z5 := mod_len (x := lv l ^ (lv k / 2 ^ (z + 1)) % lv t * (lv l ^ (lv k / 2 ^ (z + 1)) % lv t)) h0 (Nat.le_of_eq htl)
    by_cases hbt : lv k / 2 ^ z % 2 = 1
    · rw [if_pos hbt] at hpb
      simp only [↓gaW, ↓gaV, ↓gaC, ↓gaN, gaP, Nat.reduceEqDiff, Nat.reduceLeDiff, Nat.reduceAdd, Nat.reduceSub, Nat.reduceMul, Int.reduceLT, Int.reduceLE, Int.reduceEq, Int.reduceToNat, Int.reduceAdd, Int.reduceSub, Int.reduceMul, reduceCtorEq, ↓reduceIte, hbt, decide_true, e0, h2]
      repeat refine And.intro (by first | omega | (simp; done) | (simp; omega) | exact all1 rfl) ?_
      refine callK_of (ct_rmMul r5 (by omega) r0 (by omega) ht he hh) (fun v n6 g6 l6 k6 hC => ?_) (by omega)
      rcases hC with ⟨h0', rfl⟩ | ⟨_, v6, rfl, hw6⟩
      · exact absurd h0' h0
      have hs := hs.keep l6 k6
      have ht := ht.keep l6 k6
      have r0 := r0.keep l6 k6
      have hF : ∀ q, q < nx → g6 q = gt q := fun q hq => (k6 q (by omega)).trans (hF q hq)
      rw [lv_lb, lv_lb, ← hpb] at hw6
      simp only [↓gaW, ↓gaV, ↓gaC, ↓gaN, gaP, Nat.reduceEqDiff, Nat.reduceLeDiff, Nat.reduceAdd, Nat.reduceSub, Nat.reduceMul, Int.reduceLT, Int.reduceLE, Int.reduceEq, Int.reduceToNat, Int.reduceAdd, Int.reduceSub, Int.reduceMul, reduceCtorEq, ↓reduceIte, h11, i64_w ((z : Int) - 1) (by omega), loopK_n]
      repeat refine And.intro (by first | omega | (simp; done) | (simp; omega) | exact all1 rfl) ?_
      exact ⟨z, by omega, z, n6, g6, rfl, by omega, e0 ▸ ⟨a0, s0, c0, rfl, hc0, hl0, r0⟩, h1, h2, hw6, rfl, rfl, by omega, hF, hs, ht⟩
    · rw [if_neg hbt] at hpb
      have hbi : ¬ ((lv k / 2 ^ z % 2 : Nat) : Int) = 1 := by omega
      simp only [↓gaW, ↓gaV, ↓gaC, ↓gaN, gaP, Nat.reduceEqDiff, Nat.reduceLeDiff, Nat.reduceAdd, Nat.reduceSub, Nat.reduceMul, Int.reduceLT, Int.reduceLE, Int.reduceEq, Int.reduceToNat, Int.reduceAdd, Int.reduceSub, Int.reduceMul, reduceCtorEq, ↓reduceIte, hbi, decide_false, h11, i64_w ((z : Int) - 1) (by omega), loopK_n]
      repeat refine And.intro (by first | omega | (simp; done) | (simp; omega) | exact all1 rfl) ?_
      rw [← hpb] at hl5 r5
      exact ⟨z, by omega, z, _, _, rfl, by omega, e0 ▸ ⟨a0, s0, c0, rfl, hc0, hl0, r0⟩, h1, h2, ⟨a5, s5, c5, rfl, hc5, hl5, r5⟩, rfl, rfl, by omega, hF, hs, ht⟩
end
end Go.Ga

namespace Go.Ga
open Go Go.Proofs
set_option linter.unusedSimpArgs false
set_option linter.unusedVariables false
set_option maxRecDepth 100000
attribute [local irreducible] appendK endK endW

theorem and_m32 {x : Nat} (hx : x < 4294967296) : bitsV .and .u64 (x : Int) 4294967295 = (x : Int) := by
  have h : x &&& 4294967295 = x := by
    rw [show (4294967295 : Nat) = 2 ^ 32 - 1 by decide, Nat.and_two_pow_sub_one_eq_mod, Nat.mod_eq_of_lt (by exact hx)]
  show IntKind.u64.wrap ((BitVec.ofInt 64 (x : Int) &&& BitVec.ofInt 64 ((4294967295 : Nat) : Int)).toNat : Int) = _
  simp only [BitVec.ofInt_natCast, BitVec.toNat_and, BitVec.toNat_ofNat]
  rw [Nat.mod_eq_of_lt (by omega), Nat.mod_eq_of_lt (by omega), h, u64_w]
  omega
theorem shr_32 {x : Nat} (hx : x < 4294967296) : shrV .u64 (x : Int) 32 = 0 := by
  have h := shr_nat (k := .u64) x 32 (by decide)
  rw [Nat.div_eq_of_lt (by exact hx)] at h
  exact h

def nzK (v : Value) (m : Mem) (K : Value → Mem → Prop) : Prop := match v with
  | .int .i64 n => 0 ≤ n ∧ n ≤ 281474976710656 ∧ K (.slice (some ⟨m.next, 0, some 1⟩) n.toNat n.toNat) (m.add (.cells (List.replicate n.toNat botV) false))
  | _ => False
@[congr] theorem nzK_congr {v v' : Value} {m : Mem} {K : Value → Mem → Prop} (h : v = v') : nzK v m K = nzK v' m K := by rw [h]
theorem nzK_e (n : Int) (m : Mem) (K : Value → Mem → Prop) : nzK (.int .i64 n) m K = (0 ≤ n ∧ n ≤ 281474976710656 ∧ K (.slice (some ⟨m.next, 0, some 1⟩) n.toNat n.toNat) (m.add (.cells (List.replicate n.toNat botV) false))) := (rfl)
theorem go_nz {P : Program} {d : Option Nat} {i : Nat} {l : List RO} {f : Regs} {m : Mem} {Q : AEx → Regs → Mem → Prop} : goOps P (⟨d, .xop (.noZero (.t i)), none⟩ :: l) f m Q = nzK (f i) m fun v m' => goOps P l (putR f d v) m' Q := (rfl)

section
variable {nx : Nat} {gt : Nat → Option Blk}

theorem ct_Mul64 {n : Nat} (hn : n < 4294967296) : Ct Try.prog 83 [.int .u64 1, .int .u64 n] nx gt fun v _ _ => v = .tuple #[.int .u64 0, .int .u64 n] := by
  refine Ct.of hmx r_math_bits_Mul64 (by simp [c_math_bits_Mul64]) fun b hb => ?_
  have hF : ∀ q, q < nx → gt q = gt q := fun _ _ => rfl
  have a1 : bitsV .and .u64 1 4294967295 = 1 := and_m32 (x := 1) (by omega)
  have s0 : shrV .u64 0 32 = 0 := shr_32 (x := 0) (by omega)
  have a0 : bitsV .and .u64 0 4294967295 = 0 := and_m32 (x := 0) (by omega)
  have s1 : shrV .u64 1 32 = 0 := shr_32 (x := 1) (by omega)
  simp only [c_math_bits_Mul64, ↓gaW, ↓gaV, ↓gaC, ↓gaN, gaP, Nat.reduceEqDiff, Nat.reduceLeDiff, Nat.reduceAdd, Nat.reduceSub, Nat.reduceMul, Int.reduceLT, Int.reduceLE, Int.reduceEq, Int.reduceToNat, Int.reduceAdd, Int.reduceSub, Int.reduceMul, reduceCtorEq, ↓reduceIte, a1, s1, and_m32 hn, shr_32 hn, Int.one_mul, Int.zero_mul, Int.mul_zero, Int.add_zero, Int.zero_add, u64_i (n : Int) (by omega), u64_i 0 (by omega), s0, a0, gaE, implies_true, Nat.le_refl, Int.sub_zero, Nat.sub_zero, Int.le_refl, true_or, or_true]

theorem ct_MulB {n : Nat} (hn : n < 4294967296) : Ct Try.prog 68 [.int .u64 1, .int .u64 n] nx gt fun v _ _ => v = .tuple #[.int .u64 0, .int .u64 n] := by
  refine Ct.of hmx r_math_bits_Mul (by simp [c_math_bits_Mul]) fun b hb => ?_
  have hF : ∀ q, q < nx → gt q = gt q := fun _ _ => rfl
  simp only [c_math_bits_Mul, ↓gaW, ↓gaV, ↓gaC, ↓gaN, gaP, Nat.reduceEqDiff, Nat.reduceLeDiff, Nat.reduceAdd, Nat.reduceSub, Nat.reduceMul, Int.reduceLT, Int.reduceLE, Int.reduceEq, Int.reduceToNat, Int.reduceAdd, Int.reduceSub, Int.reduceMul, reduceCtorEq, ↓reduceIte]
  refine callK_of (ct_Mul64 hn) (fun v n1 g1 l1 k1 hC => ?_) (by omega)
  subst hC
  have hF : ∀ q, q < nx → g1 q = gt q := fun q hq => (k1 q (by omega)).trans (hF q hq)
  simp only [↓gaW, ↓gaV, ↓gaC, ↓gaN, gaP, Nat.reduceEqDiff, Nat.reduceLeDiff, Nat.reduceAdd, Nat.reduceSub, Nat.reduceMul, Int.reduceLT, Int.reduceLE, Int.reduceEq, Int.reduceToNat, Int.reduceAdd, Int.reduceSub, Int.reduceMul, reduceCtorEq, ↓reduceIte]
  simp only [↓gaW, ↓gaV, ↓gaC, ↓gaN, gaP, Nat.reduceEqDiff, Nat.reduceLeDiff, Nat.reduceAdd, Nat.reduceSub, Nat.reduceMul, Int.reduceLT, Int.reduceLE, Int.reduceEq, Int.reduceToNat, Int.reduceAdd, Int.reduceSub, Int.reduceMul, reduceCtorEq, ↓reduceIte, gaE, implies_true, Nat.le_refl, Int.sub_zero, Nat.sub_zero, Int.le_refl, true_or, or_true, u64_i, decide_true]
  exact ⟨by omega, by omega, by omega, hF⟩

def ff (n : Nat) : List Value := List.replicate n (.int .u8 255)
theorem ff_len (n : Nat) : (ff n).length = n := by simp [ff]
theorem ff_all (n : Nat) : ∀ v ∈ ff n, cellVal v = true := by
  intro v hv
  rw [ff, List.mem_replicate] at hv
  rw [hv.2]; rfl
def ffs (k n : Nat) : List Value := ff k ++ List.replicate (n - k) botV
theorem ffs_len {k n : Nat} (h : k ≤ n) : (ffs k n).length = n := by simp [ffs, ff]; omega
theorem ffs_end {n : Nat} : ffs n n = ff n := by simp [ffs]
theorem ffs_lay {k w n : Nat} (h : k + w ≤ n) : splice (ffs k n) k (ff w) = ffs (k + w) n := by
  have h1 : List.take k (ffs k n) = ff k := by rw [ffs, List.take_append_of_le_length (by simp [ff]), List.take_of_length_le (by simp [ff])]
  have h2 : List.drop (k + w) (ffs k n) = List.replicate (n - (k + w)) botV := by
    rw [ffs, List.drop_append, List.drop_of_length_le (by simp [ff]), List.nil_append, List.drop_replicate, ff_len]
    congr 1; omega
  rw [splice, h1, ff_len, h2]
  simp only [ffs, ff, List.replicate_append_replicate]
theorem ffs_row {x k w n : Nat} {g : Nat → Option Blk} {ro : Bool} {q : Nat} (hq : q < x) (h : g q = some (.cells (ffs k n) ro)) (hw : w ≤ k) (hk : k ≤ n) : Row x g 1 (some ⟨q, 0, none⟩) w (ff w) :=
  ⟨fun a ha => by injection ha with ha; subst ha; exact .inl rfl, ff_len w, fun _ => ⟨_, _, ro, rfl, hq, h, by rw [ffs_len hk]; simp only; omega, fun i hi => by
    simp only [Nat.zero_add, ffs, ff]
    rw [List.getD_eq_getElem?_getD, List.getElem?_append_left (by simp; omega), List.getElem?_replicate, if_pos (by omega), List.getD_eq_getElem?_getD, List.getElem?_replicate, if_pos hi]⟩⟩

theorem ct_Repeat {A : Option Addr} {c n : Nat} (hA : Row nx gt 1 A 1 [.int .u8 255]) (hc : 1 ≤ c) (h1 : 1 ≤ n) (h2 : n ≤ 512) :
    Ct Try.prog 41 [.slice A 1 c, .int .i64 n] nx gt fun v nx' gt' => ∃ q, v = .slice (some ⟨q, 0, none⟩) n n ∧ nx ≤ q ∧ q < nx' ∧ gt' q = some (.cells (ff n) false) := by
  refine Ct.ofT hmx r_bytes_Repeat (by simp [c_bytes_Repeat]) fun b hb => ?_
  have hF : ∀ q, q < nx → gt q = gt q := fun _ _ => rfl
  obtain ⟨a, ce, ro, rfl, p1, p2, p3, p4⟩ := hA.cells (by omega)
  have z0 : ¬ (n : Int) = 0 := by omega
  have z1 : ¬ (n : Int) < 0 := by omega
  have z2 : ¬ (9223372036854775807 : Int) < (n : Int) := by omega
  have z3 : ¬ (8192 : Int) < (n : Int) := by omega
  have u1 := u64_i (1 : Int) (by omega)
  have u2 := u64_i (n : Int) (by omega)
  have i1 := i64_w (n : Int) (by omega)
  simp only [c_bytes_Repeat, ↓gaW, ↓gaV, ↓gaC, ↓gaN, gaP, Nat.reduceEqDiff, Nat.reduceLeDiff, Nat.reduceAdd, Nat.reduceSub, Nat.reduceMul, Int.reduceLT, Int.reduceLE, Int.reduceEq, Int.reduceToNat, Int.reduceAdd, Int.reduceSub, Int.reduceMul, reduceCtorEq, ↓reduceIte, z0, z1, u1, u2, decide_false, Int.toNat_natCast, Int.natCast_one]
  refine callK_of (ct_MulB (n := n) (by omega)) (fun v n1 g1 l1 k1 hC => ?_) (by omega)
  subst hC
  have hA := hA.keep l1 k1
  have hF : ∀ q, q < nx → g1 q = gt q := fun q hq => (k1 q (by omega)).trans (hF q hq)
  simp only [↓gaW, ↓gaV, ↓gaC, ↓gaN, gaP, Nat.reduceEqDiff, Nat.reduceLeDiff, Nat.reduceAdd, Nat.reduceSub, Nat.reduceMul, Int.reduceLT, Int.reduceLE, Int.reduceEq, Int.reduceToNat, Int.reduceAdd, Int.reduceSub, Int.reduceMul, reduceCtorEq, ↓reduceIte]
  have hrow : ∀ b B, rowOf ⟨n1 + 1, b, upd g1 n1 B⟩ (some a) 1 = some (ff 1) := fun b B => (hA.keep (nx' := n1 + 1) (gt' := upd g1 n1 B) (by omega) fun q hq => by simp only [upd_e]; rw [if_neg (by omega)]).rowOf (b := b)
  have m0 : Nat.min 1 n = 1 := by show (if 1 ≤ n then 1 else n) = 1; rw [if_pos h1]
  have hl0 := ffs_lay (k := 0) (w := 1) (n := n) (by omega)
  have hz0 : List.replicate n botV = ffs 0 n := by simp [ffs, ff]
  have hlen0 := ffs_len (k := 0) (n := n) (by omega)
  simp only [↓gaW, ↓gaV, ↓gaC, ↓gaN, gaP, Nat.reduceEqDiff, Nat.reduceLeDiff, Nat.reduceAdd, Nat.reduceSub, Nat.reduceMul, Int.reduceLT, Int.reduceLE, Int.reduceEq, Int.reduceToNat, Int.reduceAdd, Int.reduceSub, Int.reduceMul, reduceCtorEq, ↓reduceIte, gaU, z2, z3, u2, i1, decide_false, go_nz, nzK_e, Int.toNat_natCast, Int.sub_zero, hrow, m0, Nat.mul_one, cpK_s (show (1 : Nat) ≠ 0 by omega), hz0, hl0, hlen0]
  repeat refine And.intro (by first | omega | (simp; done) | (simp; omega) | exact all1 rfl) ?_
  refine And.intro (by simp [ff_len, hlen0]; omega) (And.intro (ff_all 1) ?_)
  refine loop_of (fun j f m => ∃ (k : Nat) (g : Nat → Option Blk), j = n - k ∧ 1 ≤ k ∧ k ≤ n ∧ f 7 = .int .i64 n ∧ f 8 = .int .i64 n ∧ f 9 = .slice (some ⟨n1, 0, none⟩) n n ∧ f 10 = .int .i64 (k : Nat) ∧ m = ⟨n1 + 1, b, g⟩ ∧ (∀ q, q < nx → g q = gt q) ∧ g n1 = some (.cells (ffs k n) false)) (n - 1)
    ⟨1, _, rfl, by omega, by omega, by simp only [↓gaW, ↓gaV, ↓gaC, ↓gaN, gaP, Nat.reduceEqDiff, Nat.reduceLeDiff, Nat.reduceAdd, Nat.reduceSub, Nat.reduceMul, Int.reduceLT, Int.reduceLE, Int.reduceEq, Int.reduceToNat, Int.reduceAdd, Int.reduceSub, Int.reduceMul, reduceCtorEq, ↓reduceIte], by simp only [↓gaW, ↓gaV, ↓gaC, ↓gaN, gaP, Nat.reduceEqDiff, Nat.reduceLeDiff, Nat.reduceAdd, Nat.reduceSub, Nat.reduceMul, Int.reduceLT, Int.reduceLE, Int.reduceEq, Int.reduceToNat, Int.reduceAdd, Int.reduceSub, Int.reduceMul, reduceCtorEq, ↓reduceIte], by simp only [↓gaW, ↓gaV, ↓gaC, ↓gaN, gaP, Nat.reduceEqDiff, Nat.reduceLeDiff, Nat.reduceAdd, Nat.reduceSub, Nat.reduceMul, Int.reduceLT, Int.reduceLE, Int.reduceEq, Int.reduceToNat, Int.reduceAdd, Int.reduceSub, Int.reduceMul, reduceCtorEq, ↓reduceIte], by simp only [↓gaW, ↓gaV, ↓gaC, ↓gaN, gaP, Nat.reduceEqDiff, Nat.reduceLeDiff, Nat.reduceAdd, Nat.reduceSub, Nat.reduceMul, Int.reduceLT, Int.reduceLE, Int.reduceEq, Int.reduceToNat, Int.reduceAdd, Int.reduceSub, Int.reduceMul, reduceCtorEq, ↓reduceIte], rfl, fun q hq => by simp only [upd_e]; rw [if_neg (by omega), if_neg (by omega), hF q hq], by simp only [upd_e, if_true]⟩ ?_
  rintro j f m ⟨k, g, rfl, hk1, hkn, f7, f8, f9, f10, rfl, hG, hg⟩
  by_cases hlt : (k : Int) < (n : Int)
  · have hkk : ¬ (n : Int) < (k : Int) := by omega
    obtain ⟨w, hw⟩ : ∃ w, Nat.min k (n - k) = w := ⟨_, rfl⟩
    have hw0 : 0 < w := by rw [← hw, Nat.lt_min]; omega
    have hw1 : w ≤ k := by rw [← hw]; exact Nat.min_le_left _ _
    have hw2 : w ≤ n - k := by rw [← hw]; exact Nat.min_le_right _ _
    have hwne : w ≠ 0 := by omega
    have hlen := ffs_len (k := k) (n := n) hkn
    have hlay := ffs_lay (k := k) (w := w) (n := n) (by omega)
    have hrow2 : rowOf ⟨n1 + 1, b, g⟩ (some ⟨n1, 0, none⟩) w = some (ff w) := (ffs_row (by omega) hg hw1 hkn).rowOf
    have e1 : ((n : Int) - (k : Int)).toNat = n - k := by omega
    have e2 : ((k : Nat) : Int).toNat = k := by omega
    have e3 : (k : Int) + (w : Int) = ((k + w : Nat) : Int) := by omega
    simp only [↓gaW, ↓gaV, ↓gaC, ↓gaN, gaP, Nat.reduceEqDiff, Nat.reduceLeDiff, Nat.reduceAdd, Nat.reduceSub, Nat.reduceMul, Int.reduceLT, Int.reduceLE, Int.reduceEq, Int.reduceToNat, Int.reduceAdd, Int.reduceSub, Int.reduceMul, reduceCtorEq, ↓reduceIte, gaU, f7, f8, f9, f10, hlt, decide_true, mm_t, Bool.false_eq_true, if_false, if_neg hkk]
    refine vc_tree_same ?_
    refine ⟨fun t => if t = 7 then .int .i64 n else if t = 8 then .int .i64 n else if t = 9 then .slice (some ⟨n1, 0, none⟩) n n else if t = 10 then .int .i64 ((k + w : Nat) : Int) else botV, ⟨n1 + 1, b, upd g n1 (some (.cells (ffs (k + w) n) false))⟩, ?_, ?_, ?_⟩
    rotate_left 2
    · simp only [tree_s, allP_cons, allP_nil, List.getElem?_cons_zero, List.getElem?_cons_succ, Nat.reducePow, Nat.reduceOr, Option.map, t_bytes_Repeat, ↓gaW, ↓gaV, ↓gaC, ↓gaN, gaP, Nat.reduceEqDiff, Nat.reduceLeDiff, Nat.reduceAdd, Nat.reduceSub, Nat.reduceMul, Int.reduceLT, Int.reduceLE, Int.reduceEq, Int.reduceToNat, Int.reduceAdd, Int.reduceSub, Int.reduceMul, reduceCtorEq, ↓reduceIte, gaU, f7, f8, f9, f10, e1, e2, Nat.zero_add, Nat.mul_one, Int.sub_zero, hw, hrow2, cpK_s hwne, hg, hlay, hlen, e3, i64_w ((k + w : Nat) : Int) (by omega)]
      repeat' refine And.intro ?_ ?_
      all_goals first
        | omega
        | rfl
        | (simp; done)
        | exact ff_all w
        | (rw [ff_len]; omega)
        | (intro i
           rcases (show i = 7 ∨ i = 8 ∨ i = 9 ∨ i = 10 ∨ (i ≠ 7 ∧ i ≠ 8 ∧ i ≠ 9 ∧ i ≠ 10) by omega) with rfl | rfl | rfl | rfl | ⟨a1, a2, a3, a4⟩
           · exact .inl (by simp only [↓gaW, ↓gaV, ↓gaC, ↓gaN, gaP, Nat.reduceEqDiff, Nat.reduceLeDiff, Nat.reduceAdd, Nat.reduceSub, Nat.reduceMul, Int.reduceLT, Int.reduceLE, Int.reduceEq, Int.reduceToNat, Int.reduceAdd, Int.reduceSub, Int.reduceMul, reduceCtorEq, ↓reduceIte, f7])
           · exact .inl (by simp only [↓gaW, ↓gaV, ↓gaC, ↓gaN, gaP, Nat.reduceEqDiff, Nat.reduceLeDiff, Nat.reduceAdd, Nat.reduceSub, Nat.reduceMul, Int.reduceLT, Int.reduceLE, Int.reduceEq, Int.reduceToNat, Int.reduceAdd, Int.reduceSub, Int.reduceMul, reduceCtorEq, ↓reduceIte, f8])
           · exact .inl (by simp only [↓gaW, ↓gaV, ↓gaC, ↓gaN, gaP, Nat.reduceEqDiff, Nat.reduceLeDiff, Nat.reduceAdd, Nat.reduceSub, Nat.reduceMul, Int.reduceLT, Int.reduceLE, Int.reduceEq, Int.reduceToNat, Int.reduceAdd, Int.reduceSub, Int.reduceMul, reduceCtorEq, ↓reduceIte, f9])
           · exact .inl (by simp only [↓gaW, ↓gaV, ↓gaC, ↓gaN, gaP, Nat.reduceEqDiff, Nat.reduceLeDiff, Nat.reduceAdd, Nat.reduceSub, Nat.reduceMul, Int.reduceLT, Int.reduceLE, Int.reduceEq, Int.reduceToNat, Int.reduceAdd, Int.reduceSub, Int.reduceMul, reduceCtorEq, ↓reduceIte])
           · right; simp only [if_neg a1, if_neg a2, if_neg a3, if_neg a4])
    · simp only [↓gaW, ↓gaV, ↓gaC, ↓gaN, gaP, Nat.reduceEqDiff, Nat.reduceLeDiff, Nat.reduceAdd, Nat.reduceSub, Nat.reduceMul, Int.reduceLT, Int.reduceLE, Int.reduceEq, Int.reduceToNat, Int.reduceAdd, Int.reduceSub, Int.reduceMul, reduceCtorEq, ↓reduceIte, loopK_n]
      exact ⟨n - (k + w), by omega, k + w, _, rfl, by omega, by omega, rfl, rfl, fun q hq => by simp only [upd_e]; rw [if_neg (by omega), hG q hq], by simp only [upd_e, if_true]⟩
    · exact ⟨rfl, Nat.le_refl _, fun q hq => by
        have hq' : q < b := hq
        show upd _ _ _ q = g q; simp only [upd_e]; rw [if_neg (by omega)]⟩
  · have : k = n := by omega
    subst this
    rw [ffs_end] at hg
    simp only [↓gaW, ↓gaV, ↓gaC, ↓gaN, gaP, Nat.reduceEqDiff, Nat.reduceLeDiff, Nat.reduceAdd, Nat.reduceSub, Nat.reduceMul, Int.reduceLT, Int.reduceLE, Int.reduceEq, Int.reduceToNat, Int.reduceAdd, Int.reduceSub, Int.reduceMul, reduceCtorEq, ↓reduceIte, gaE, implies_true, Nat.le_refl, Int.sub_zero, Nat.sub_zero, Int.le_refl, true_or, or_true, f7, f10, f9, hlt, decide_false, loopK_e]
    exact ⟨by omega, hG, n1, rfl, by omega, by omega, hg⟩
end
end Go.Ga

namespace Go.Ga
open Go Go.Proofs
set_option linter.unusedSimpArgs false
set_option linter.unusedVariables false
set_option maxRecDepth 100000
attribute [local irreducible] appendK endK endW

def ahL : List UInt8 := [0, 48, 49, 48, 13, 6, 9, 96, 134, 72, 1, 101, 3, 4, 2, 1, 5, 0, 4, 32]
def frL (H : List UInt8) (n : Nat) : List UInt8 := [0, 1] ++ (List.replicate (n - 54) 255 ++ (ahL ++ H))
theorem spl1 (x y : Value) : splice [x] 0 [y] = [y] := rfl
theorem spl20 (x y z : Value) : splice [x, y] 0 [z] = [z, y] := rfl
theorem spl21 (x y z : Value) : splice [x, y] 1 [z] = [x, z] := rfl
theorem ff_u8 (n : Nat) : ff n = (List.replicate n (255 : UInt8)).map u8V := by
  rw [ff, List.map_replicate]; rfl

theorem rep_lay {m k : Nat} {l T : List UInt8} (hl : l.length = k) (hk : k ≤ m) : splice ((List.replicate m 255 ++ T).map u8V) (m - k) (l.map u8V) = (List.replicate (m - k) 255 ++ (l ++ T)).map u8V := by
  have h1 : List.take (m - k) (List.replicate m (255 : UInt8) ++ T) = List.replicate (m - k) 255 := by
    rw [List.take_append_of_le_length (by simp), List.take_replicate]; congr 1; omega
  have h2 : List.drop (m - k + k) (List.replicate m (255 : UInt8) ++ T) = T := by
    rw [show m - k + k = m by omega, List.drop_append_of_le_length (by simp), List.drop_of_length_le (by simp), List.nil_append]
  rw [splice, ← List.map_take, List.length_map, hl, ← List.map_drop, h1, h2]
  simp only [List.map_append, List.append_assoc]
theorem rep_top {m : Nat} {T : List UInt8} (hm : 2 ≤ m) : splice ((List.replicate m 255 ++ T).map u8V) 0 [.int .u8 0, .int .u8 1] = ([0, 1] ++ (List.replicate (m - 2) 255 ++ T)).map u8V := by
  have h2 : List.drop 2 (List.replicate m (255 : UInt8) ++ T) = List.replicate (m - 2) 255 ++ T := by
    rw [List.drop_append_of_le_length (by simpa using hm), List.drop_replicate]
  rw [splice]
  simp only [List.take_zero, List.nil_append, List.length_cons, List.length_nil, Nat.zero_add, Nat.reduceAdd]
  rw [← List.map_drop, h2]
  generalize List.replicate (m - 2) (255 : UInt8) ++ T = Z
  rfl
theorem row8c {x q n : Nat} {g : Nat → Option Blk} {w : List Value} {ro : Bool} (hq : q < x) (hg : g q = some (.cells w ro)) (hw : w.length = n) : Row x g 1 (some ⟨q, 0, none⟩) n w :=
  ⟨fun a ha => by injection ha with ha; subst ha; exact .inl rfl, hw, fun _ => ⟨_, _, ro, rfl, hq, hg, by rw [hw]; simp, fun i hi => by simp⟩⟩

section
variable {nx : Nat} {gt : Nat → Option Blk}

theorem ct_ahead : Ct Try.prog 43 [] nx gt fun v _ _ => v = .agg (ahL.map u8V).toArray := by
  refine Ct.of hmx r_rsa_ahead (by simp [c_rsa_ahead]) fun b hb => ?_
  simp only [c_rsa_ahead, ↓gaW, ↓gaV, ↓gaC, ↓gaN, gaP, Nat.reduceEqDiff, Nat.reduceLeDiff, Nat.reduceAdd, Nat.reduceSub, Nat.reduceMul, Int.reduceLT, Int.reduceLE, Int.reduceEq, Int.reduceToNat, Int.reduceAdd, Int.reduceSub, Int.reduceMul, reduceCtorEq, ↓reduceIte, List.getD_cons_zero, List.getD_cons_succ, fillL, splice, List.take_zero, List.drop_zero, List.drop_succ_cons, List.take_succ_cons, List.drop_nil, List.take_nil]
  refine And.intro (by omega) (And.intro (all_u8 ahL) ?_)
  exact end_cN (q := nx) (ahL.map u8V) (by simp only [↓gaW, ↓gaV, ↓gaC, ↓gaN, gaP, Nat.reduceEqDiff, Nat.reduceLeDiff, Nat.reduceAdd, Nat.reduceSub, Nat.reduceMul, Int.reduceLT, Int.reduceLE, Int.reduceEq, Int.reduceToNat, Int.reduceAdd, Int.reduceSub, Int.reduceMul, reduceCtorEq, ↓reduceIte]) (by simp only [upd_e, if_true]; rfl) rfl ⟨rfl, by omega, fun q hq => by simp only [upd_e]; rw [if_neg (by omega), if_neg (by omega)], rfl⟩

theorem fn_lay {b p r q n c N t : Nat} {A : Option Addr} {l : List UInt8} {L : List Value} (hA : Row nx gt 1 A n (l.map u8V)) (hne : 0 < n → ∀ a, A = some a → a.block ≠ q ∧ a.block ≠ p)
    (hp : gt p = some (.cells [.int .i64 (t : Nat)] false)) (hr : gt r = some (.cells [.slice (some ⟨q, 0, none⟩) N N] false)) (hq : gt q = some (.cells L false)) (hL : L.length = N)
    (hnt : n ≤ t) (htN : t ≤ N) (hN : N < 1000000) (hn0 : 0 < n) (hbp : b ≤ p) (hbq : b ≤ q) (hpn : p < nx) (hqn : q < nx) (h1 : p ≠ r) (h2 : p ≠ q) (h3 : q ≠ r) :
    Fn Try.prog 42 [.slice A n c, .pointer (some ⟨p, 0, none⟩), .pointer (some ⟨r, 0, none⟩)] ⟨nx, b, gt⟩ fun res m' => res = .ret (.tuple #[]) ∧ ∃ g', m' = ⟨nx, b, g'⟩ ∧
      (∀ i, i ≠ p → i ≠ q → g' i = gt i) ∧ g' p = some (.cells [.int .i64 (t - n : Nat)] false) ∧ g' q = some (.cells (splice L (t - n) (l.map u8V)) false) := by
  refine fn_sound hmx r_rsa_Frame_1 (by simp [c_rsa_Frame_1]) ?_
  show c_rsa_Frame_1.code.vc _ _ _ (D Try.prog (.top _))
  have hl : l.length = n := by simpa using hA.len
  obtain ⟨a, ce, ro, rfl, p1, p2, p3, p4⟩ := hA.cells (by omega)
  have hne := hne hn0 a rfl
  have e1 : (t : Int) - (n : Int) = ((t - n : Nat) : Int) := by omega
  have e2 : (N : Int) - ((t - n : Nat) : Int) = ((N - (t - n) : Nat) : Int) := by omega
  have e3 : Nat.min n (N - (t - n)) = n := Nat.min_eq_left (by omega)
  have hrow : ∀ b B, rowOf ⟨nx, b, upd gt p B⟩ (some a) n = some (l.map u8V) := fun b B => (hA.keepA (nx' := nx) (gt' := upd gt p B) (by omega) fun _ a' ha => by injection ha with ha; subst ha; simp only [upd_e]; rw [if_neg hne.2]).rowOf
  simp only [c_rsa_Frame_1, ↓gaW, ↓gaV, ↓gaC, ↓gaN, gaP, Nat.reduceEqDiff, Nat.reduceLeDiff, Nat.reduceAdd, Nat.reduceSub, Nat.reduceMul, Int.reduceLT, Int.reduceLE, Int.reduceEq, Int.reduceToNat, Int.reduceAdd, Int.reduceSub, Int.reduceMul, reduceCtorEq, ↓reduceIte, List.getD_cons_zero, spl1, gaU, hp, hr, hq, e1, e2, i64_w ((t - n : Nat) : Int) (by omega), if_neg h1, if_neg (Ne.symm h1), if_neg (Ne.symm h2), if_neg h2, Int.toNat_natCast, Nat.mul_one, Nat.zero_add, e3, hrow, cpK_s (show n ≠ 0 by omega)]
  repeat refine And.intro (by first | omega | (simp; done) | (rw [List.length_map]; omega) | exact all_u8 _ | exact all1 rfl) ?_
  refine ⟨rfl, _, rfl, fun i i1 i2 => by simp only [upd_e]; rw [if_neg i2, if_neg i1], ?_, by simp only [upd_e, if_true]⟩
  simp only [upd_e, if_true]; rw [if_neg h2]

/-- What a frame comes to. -/
def frameR (H : List UInt8) (s : Int) : List UInt8 × Int := if 62 ≤ s ∧ s ≤ 512 then (frL H s.toNat, 0) else ([], 1)
def FrameV (H : List UInt8) (s : Int) (v : Value) (x : Nat) (g : Nat → Option Blk) : Prop :=
  ∃ A n c, v = .tuple #[.slice A n c, .int .i64 (frameR H s).2] ∧ n ≤ c ∧ n = (frameR H s).1.length ∧ Row x g 1 A n ((frameR H s).1.map u8V)

theorem ct_Frame {H : List UInt8} {s : Int} (hH : H.length = 32) :
    Ct Try.prog 22 [.agg (H.map u8V).toArray, .int .i64 s] nx gt (FrameV H s) := by
  refine Ct.of hmx r_rsa_Frame (by simp [c_rsa_Frame]) fun b hb => ?_
  by_cases hs : 62 ≤ s ∧ s ≤ 512
  · obtain ⟨n, rfl⟩ : ∃ n : Nat, s = n := ⟨s.toNat, by omega⟩
    have d1 : ¬ (n : Int) < 62 := by omega
    have d2 : ¬ (512 : Int) < (n : Int) := by omega
    simp only [c_rsa_Frame, ↓gaW, ↓gaV, ↓gaC, ↓gaN, gaP, Nat.reduceEqDiff, Nat.reduceLeDiff, Nat.reduceAdd, Nat.reduceSub, Nat.reduceMul, Int.reduceLT, Int.reduceLE, Int.reduceEq, Int.reduceToNat, Int.reduceAdd, Int.reduceSub, Int.reduceMul, reduceCtorEq, ↓reduceIte, List.getD_cons_zero, List.getD_cons_succ, fillL, splice, List.take_zero, List.drop_zero, List.drop_succ_cons, List.take_succ_cons, List.drop_nil, List.take_nil, gaU, d1, d2, decide_false]
    refine callK_of (ct_Repeat (n := n) (row8c (by omega) (by simp only [upd_e, if_true]; rfl) rfl) (by omega) (by omega) (by omega)) (fun v x2 g2 l2 k2 hC => ?_) (by omega)
    obtain ⟨q, rfl, q1, q2, q3⟩ := hC
    have gH : g2 nx = some (.cells (H.map u8V) false) := by rw [k2 nx (by omega)]; simp only [upd_e, if_true]; rw [if_neg (by omega)]
    have gO : ∀ i, i < nx → g2 i = gt i := fun i hi => by rw [k2 i (by omega)]; simp only [upd_e]; rw [if_neg (by omega), if_neg (by omega)]
    simp only [↓gaW, ↓gaV, ↓gaC, ↓gaN, gaP, Nat.reduceEqDiff, Nat.reduceLeDiff, Nat.reduceAdd, Nat.reduceSub, Nat.reduceMul, Int.reduceLT, Int.reduceLE, Int.reduceEq, Int.reduceToNat, Int.reduceAdd, Int.reduceSub, Int.reduceMul, reduceCtorEq, ↓reduceIte, List.getD_cons_zero, List.getD_cons_succ, fillL, splice, List.take_zero, List.drop_zero, List.drop_succ_cons, List.take_succ_cons, List.drop_nil, List.take_nil, gaU]
    repeat refine And.intro (by first | omega | (simp; done) | (simp; omega) | exact all1 rfl) ?_
    have n1 : ¬ q = x2 := by omega
    have n2 : ¬ q = x2 + 1 := by omega
    refine callK_fn (fn_lay (b := b) (q := q) (p := x2 + 1) (r := x2) (N := n) (t := n) (l := H) (L := ff n) (row8 (ro := false) (by omega) (by simp only [upd_e]; rw [if_neg (by omega), if_neg (by omega), if_neg (by omega), if_neg (by omega), gH]) hH) (fun _ a ha => by injection ha with ha; subst ha; exact ⟨by show nx ≠ q; omega, by show nx ≠ x2 + 1; omega⟩)
      (by simp only [upd_e, if_true]) (by simp only [upd_e, if_true]; rw [if_neg (by omega), if_neg (by omega)]) (by simp only [upd_e]; rw [if_neg n2, if_neg n2, if_neg n1, if_neg n1, q3]) (ff_len n) (by omega) (by omega) (by omega) (by omega) (by omega) (by omega) (by omega) (by omega) (by omega) (by omega) (by omega)) fun res m' hh => ?_
    obtain ⟨rfl, g3, rfl, k3, p3, w3⟩ := hh
    refine ⟨_, rfl, ?_⟩
    have e3 := rep_lay (m := n) (k := 32) (l := H) (T := []) hH (by omega)
    rw [List.append_nil, List.append_nil, ← ff_u8] at e3
    rw [e3] at w3
    have r3 : g3 x2 = some (.cells [.slice (some ⟨q, 0, none⟩) n n] false) := by rw [k3 x2 (by omega) (by omega)]; simp only [upd_e, if_true]; rw [if_neg (by omega), if_neg (by omega)]
    have o3 : ∀ i, i < nx → g3 i = gt i := fun i hi => by rw [k3 i (by omega) (by omega)]; simp only [upd_e]; rw [if_neg (by omega), if_neg (by omega), if_neg (by omega), if_neg (by omega), gO i hi]
    clear k3 gH gO q3 k2
    simp only [↓gaW, ↓gaV, ↓gaC, ↓gaN, gaP, Nat.reduceEqDiff, Nat.reduceLeDiff, Nat.reduceAdd, Nat.reduceSub, Nat.reduceMul, Int.reduceLT, Int.reduceLE, Int.reduceEq, Int.reduceToNat, Int.reduceAdd, Int.reduceSub, Int.reduceMul, reduceCtorEq, ↓reduceIte]
    refine callK_of ct_ahead (fun v x4 g4 l4 k4 hC => ?_) (by omega)
    subst hC
    simp only [↓gaW, ↓gaV, ↓gaC, ↓gaN, gaP, Nat.reduceEqDiff, Nat.reduceLeDiff, Nat.reduceAdd, Nat.reduceSub, Nat.reduceMul, Int.reduceLT, Int.reduceLE, Int.reduceEq, Int.reduceToNat, Int.reduceAdd, Int.reduceSub, Int.reduceMul, reduceCtorEq, ↓reduceIte, gaU]
    refine And.intro rfl (And.intro (by omega) (And.intro (by decide) (And.intro (all_u8 _) ?_)))
    refine callK_fn (fn_lay (b := b) (q := q) (p := x2 + 1) (r := x2) (N := n) (t := n - 32) (l := ahL) (n := 20) (row8 (ro := false) (by omega) (by simp only [upd_e, if_true]; rfl) rfl) (fun _ a ha => by injection ha with ha; subst ha; exact ⟨by show x4 ≠ q; omega, by show x4 ≠ x2 + 1; omega⟩)
      (by simp only [upd_e]; rw [if_neg (by omega), if_neg (by omega), k4 _ (by omega), p3]) (by simp only [upd_e]; rw [if_neg (by omega), if_neg (by omega), k4 _ (by omega), r3]) (by simp only [upd_e]; rw [if_neg (by omega), if_neg (by omega), k4 _ (by omega), w3]) (by simp [hH]; omega) (by omega) (by omega) (by omega) (by omega) (by omega) (by omega) (by omega) (by omega) (by omega) (by omega) (by omega)) fun res m' hh => ?_
    obtain ⟨rfl, g5, rfl, k5, p5, w5⟩ := hh
    refine ⟨_, rfl, ?_⟩
    have e5 := rep_lay (m := n - 32) (k := 20) (l := ahL) (T := H) rfl (by omega)
    rw [e5] at w5
    have r5 : g5 x2 = some (.cells [.slice (some ⟨q, 0, none⟩) n n] false) := by rw [k5 x2 (by omega) (by omega)]; simp only [upd_e]; rw [if_neg (by omega), if_neg (by omega), k4 _ (by omega), r3]
    have o5 : ∀ i, i < nx → g5 i = gt i := fun i hi => by rw [k5 i (by omega) (by omega)]; simp only [upd_e]; rw [if_neg (by omega), if_neg (by omega), k4 _ (by omega), o3 i hi]
    have e6 := rep_top (m := n - 32 - 20) (T := ahL ++ H) (by omega)
    have m2 : Nat.min 2 n = 2 := Nat.min_eq_left (by omega)
    have x4x : ¬ x2 = x4 + 1 := by omega
    have q4x : ¬ q = x4 + 1 := by omega
    have hrow : ∀ b, rowOf ⟨x4 + 1 + 1, b, upd g5 (x4 + 1) (some (.cells [.int .u8 0, .int .u8 1] false))⟩ (some ⟨x4 + 1, 0, none⟩) 2 = some [.int .u8 0, .int .u8 1] := fun b => by simp [rowOf, upd]
    have hlen : ((List.replicate (n - 32 - 20) (255 : UInt8) ++ (ahL ++ H)).map u8V).length = n := by simp [hH, ahL]; omega
    generalize hG : (List.replicate (n - 32 - 20) (255 : UInt8) ++ (ahL ++ H)).map u8V = G at *
    have e7 : n - 32 - 20 - 2 = n - 54 := by omega
    rw [e7] at e6
    simp only [↓gaW, ↓gaV, ↓gaC, ↓gaN, gaP, Nat.reduceEqDiff, Nat.reduceLeDiff, Nat.reduceAdd, Nat.reduceSub, Nat.reduceMul, Int.reduceLT, Int.reduceLE, Int.reduceEq, Int.reduceToNat, Int.reduceAdd, Int.reduceSub, Int.reduceMul, reduceCtorEq, ↓reduceIte, List.getD_cons_zero, List.getD_cons_succ, List.length_cons, List.length_nil, fillL, spl1, spl20, spl21, gaU, r5, if_neg x4x, if_neg q4x, Nat.mul_one, Nat.zero_add, m2, hrow, cpK_s (show (2 : Nat) ≠ 0 by omega), w5, e6, if_neg n1, if_neg (Ne.symm n1)]
    repeat refine And.intro (by first | omega | (simp; done) | (simp; omega) | exact all_u8 [0, 1]) ?_
    have hf : frameR H (n : Int) = (frL H n, 0) := by rw [frameR, if_pos hs, Int.toNat_natCast]
    simp only [↓gaW, ↓gaV, ↓gaC, ↓gaN, gaP, Nat.reduceEqDiff, Nat.reduceLeDiff, Nat.reduceAdd, Nat.reduceSub, Nat.reduceMul, Int.reduceLT, Int.reduceLE, Int.reduceEq, Int.reduceToNat, Int.reduceAdd, Int.reduceSub, Int.reduceMul, reduceCtorEq, ↓reduceIte, gaE, implies_true, Nat.le_refl, Int.sub_zero, Nat.sub_zero, Int.le_refl, true_or, or_true]
    refine ⟨by omega, fun i hi => ?_, some ⟨q, 0, none⟩, n, n, by rw [hf], by omega, ?_, ?_⟩
    · rw [if_neg (by omega), if_neg (by omega), o5 i hi]
    · rw [hf]; simp [frL, ahL, hH]; omega
    · rw [hf]
      refine row8 (ro := false) (by omega) (by simp only [upd_e, if_true]; rfl) ?_
      simp [frL, ahL, hH]; omega
  · have hf : (frameR H s) = ([], 1) := if_neg hs
    have hV : ∀ x g, FrameV H s (.tuple #[.slice none 0 0, .int .i64 1]) x g := fun x g => ⟨none, 0, 0, by rw [hf], by omega, by rw [hf]; rfl, by rw [hf]; exact Row.nil⟩
    by_cases d1 : s < 62
    · simp only [c_rsa_Frame, ↓gaW, ↓gaV, ↓gaC, ↓gaN, gaP, Nat.reduceEqDiff, Nat.reduceLeDiff, Nat.reduceAdd, Nat.reduceSub, Nat.reduceMul, Int.reduceLT, Int.reduceLE, Int.reduceEq, Int.reduceToNat, Int.reduceAdd, Int.reduceSub, Int.reduceMul, reduceCtorEq, ↓reduceIte, gaE, implies_true, Nat.le_refl, Int.sub_zero, Nat.sub_zero, Int.le_refl, true_or, or_true, gaU, d1, decide_true]
      exact ⟨by omega, fun q hq => by rw [if_neg (by omega)], hV _ _⟩
    · have d2 : 512 < s := by omega
      simp only [c_rsa_Frame, ↓gaW, ↓gaV, ↓gaC, ↓gaN, gaP, Nat.reduceEqDiff, Nat.reduceLeDiff, Nat.reduceAdd, Nat.reduceSub, Nat.reduceMul, Int.reduceLT, Int.reduceLE, Int.reduceEq, Int.reduceToNat, Int.reduceAdd, Int.reduceSub, Int.reduceMul, reduceCtorEq, ↓reduceIte, gaE, implies_true, Nat.le_refl, Int.sub_zero, Nat.sub_zero, Int.le_refl, true_or, or_true, gaU, d1, d2, decide_true, decide_false]
      exact ⟨by omega, fun q hq => by rw [if_neg (by omega)], hV _ _⟩
end
end Go.Ga

namespace Go.Ga
open Go Go.Proofs
set_option linter.unusedSimpArgs false
set_option linter.unusedVariables false
set_option maxRecDepth 100000
attribute [local irreducible] appendK endK endW

def frT (t : Nat) : List Value := ([0, 1] ++ List.replicate t (255 : UInt8)).map u8V
theorem frT_succ (t : Nat) : frT (t + 1) = frT t ++ [.int .u8 255] := by
  simp only [frT]
  rw [List.replicate_succ']
  simp
  rfl
theorem frT_end (H : List UInt8) (k : Nat) : (frT k ++ ahL.map u8V) ++ H.map u8V = (frL H (k + 54)).map u8V := by
  simp [frT, frL]

section
variable {nx : Nat} {gt : Nat → Option Blk}

theorem ct_rFrame {H : List UInt8} {s : Int} (hH : H.length = 32) :
    Ct Try.prog 23 [.agg (H.map u8V).toArray, .int .i64 s] nx gt (FrameV H s) := by
  refine Ct.of hmx r_lanyardref09_Frame (by simp [c_lanyardref09_Frame]) fun b hb => ?_
  by_cases hs : 62 ≤ s ∧ s ≤ 512
  · obtain ⟨n, rfl⟩ : ∃ n : Nat, s = n := ⟨s.toNat, by omega⟩
    obtain ⟨k, rfl⟩ : ∃ k, n = k + 54 := ⟨n - 54, by omega⟩
    have ek : k + 54 - 54 = k := by omega
    have d1 : ¬ ((k + 54 : Nat) : Int) < 62 := by omega
    have d2 : ¬ (512 : Int) < ((k + 54 : Nat) : Int) := by omega
    have hf : frameR H ((k + 54 : Nat) : Int) = (frL H (k + 54), 0) := by rw [frameR, if_pos hs, Int.toNat_natCast]
    have i1 : ((k + 54 : Nat) : Int) - 52 = ((k + 2 : Nat) : Int) := by omega
    simp only [c_lanyardref09_Frame, ↓gaW, ↓gaV, ↓gaC, ↓gaN, gaP, Nat.reduceEqDiff, Nat.reduceLeDiff, Nat.reduceAdd, Nat.reduceSub, Nat.reduceMul, Int.reduceLT, Int.reduceLE, Int.reduceEq, Int.reduceToNat, Int.reduceAdd, Int.reduceSub, Int.reduceMul, reduceCtorEq, ↓reduceIte, List.getD_cons_zero, List.getD_cons_succ, fillL, splice, List.take_zero, List.drop_zero, List.drop_succ_cons, List.take_succ_cons, List.drop_nil, List.take_nil, gaU, d1, d2, decide_false]
    refine bloop_of (fun f m => ∃ (x : Nat) (g : Nat → Option Blk) (A' : Option Addr), f 2 = .pointer (some ⟨nx, 0, none⟩) ∧ f 6 = .slice A' (2 + k) (2 + k) ∧ m = ⟨x, b, g⟩ ∧ nx + 1 ≤ x ∧ (∀ p, p < nx → g p = gt p) ∧ g nx = some (.cells (H.map u8V) false) ∧ Grow (nx + 1) b x g 1 A' (2 + k) (frT k)) (fun _ _ => False)
      (fun j f m => ∃ (t x : Nat) (g : Nat → Option Blk) (A' : Option Addr), j = k - t ∧ t ≤ k ∧ f 1 = (.int .i64 ((k + 54 : Nat) : Int)) ∧ f 2 = .pointer (some ⟨nx, 0, none⟩) ∧ f 6 = .slice A' (2 + t) (2 + t) ∧ m = ⟨x, b, g⟩ ∧ nx + 1 ≤ x ∧ (∀ p, p < nx → g p = gt p) ∧ g nx = some (.cells (H.map u8V) false) ∧ Grow (nx + 1) b x g 1 A' (2 + t) (frT t)) k
      ⟨0, _, _, some ⟨nx + 1, 0, none⟩, by omega, by omega, by simp only [↓gaW, ↓gaV, ↓gaC, ↓gaN, gaP, Nat.reduceEqDiff, Nat.reduceLeDiff, Nat.reduceAdd, Nat.reduceSub, Nat.reduceMul, Int.reduceLT, Int.reduceLE, Int.reduceEq, Int.reduceToNat, Int.reduceAdd, Int.reduceSub, Int.reduceMul, reduceCtorEq, ↓reduceIte], by simp only [↓gaW, ↓gaV, ↓gaC, ↓gaN, gaP, Nat.reduceEqDiff, Nat.reduceLeDiff, Nat.reduceAdd, Nat.reduceSub, Nat.reduceMul, Int.reduceLT, Int.reduceLE, Int.reduceEq, Int.reduceToNat, Int.reduceAdd, Int.reduceSub, Int.reduceMul, reduceCtorEq, ↓reduceIte], by simp only [↓gaW, ↓gaV, ↓gaC, ↓gaN, gaP, Nat.reduceEqDiff, Nat.reduceLeDiff, Nat.reduceAdd, Nat.reduceSub, Nat.reduceMul, Int.reduceLT, Int.reduceLE, Int.reduceEq, Int.reduceToNat, Int.reduceAdd, Int.reduceSub, Int.reduceMul, reduceCtorEq, ↓reduceIte], rfl, by omega, fun p hp => by simp only [upd_e]; rw [if_neg (by omega), if_neg (by omega)], by simp only [upd_e, if_true]; rw [if_neg (by omega)], Grow.lit (q := nx + 1) (ro := false) (by omega) (by simp only [upd_e, if_true]; rfl) rfl⟩ ?_ ?_ (fun _ _ h => h.elim)
    · intro SS hJ _ j f m
      rintro ⟨t, x, g, A', rfl, ht, f1, f2, f6, rfl, hx, hF, hg, hgr⟩
      by_cases hlt : ((2 + t : Nat) : Int) < ((k + 2 : Nat) : Int)
      · have hrow2 : ∀ b, rowOf ⟨x + 1, b, upd g x (some (.cells [.int .u8 255] false))⟩ (some ⟨x, 0, none⟩) 1 = some [.int .u8 255] := fun b => by simp [rowOf, upd]
        simp only [↓gaW, ↓gaV, ↓gaC, ↓gaN, gaP, Nat.reduceEqDiff, Nat.reduceLeDiff, Nat.reduceAdd, Nat.reduceSub, Nat.reduceMul, Int.reduceLT, Int.reduceLE, Int.reduceEq, Int.reduceToNat, Int.reduceAdd, Int.reduceSub, Int.reduceMul, reduceCtorEq, ↓reduceIte, List.getD_cons_zero, fillL, spl1, f1, f2, f6, i1, i64_w ((k + 2 : Nat) : Int) (by omega), hlt, decide_true]
        repeat refine And.intro (by first | omega | (simp; done) | (simp; omega) | exact all1 rfl) ?_
        simp only [hrow2, asO_e]
        refine grow_append (nx := nx + 1) (k := 1) (hgr.keep (Nat.le_succ _) (fun p hp => by simp only [upd_e]; rw [if_neg (by omega)])) (by omega) (by omega) (by omega) (by omega) rfl (all1 rfl) (by omega) (by omega) fun g3 k3 ho3 => ?_
        simp only [↓gaW, ↓gaV, ↓gaC, ↓gaN, gaP, Nat.reduceEqDiff, Nat.reduceLeDiff, Nat.reduceAdd, Nat.reduceSub, Nat.reduceMul, Int.reduceLT, Int.reduceLE, Int.reduceEq, Int.reduceToNat, Int.reduceAdd, Int.reduceSub, Int.reduceMul, reduceCtorEq, ↓reduceIte, loopK_n]
        refine ⟨k - (t + 1), by omega, t + 1, x + 1 + 1, g3, some ⟨x + 1, 0, some 1⟩, rfl, by omega, f1, f2, rfl, rfl, by omega, fun p hp => by rw [k3 p (by omega)]; simp only [upd_e]; rw [if_neg (by omega), hF p hp], by rw [k3 nx (by omega)]; simp only [upd_e]; rw [if_neg (by omega), hg], .inl ?_⟩
        rw [frT_succ]
        exact ho3
      · have hte : t = k := by omega
        rw [hte] at f6 hgr hlt
        simp only [↓gaW, ↓gaV, ↓gaC, ↓gaN, gaP, Nat.reduceEqDiff, Nat.reduceLeDiff, Nat.reduceAdd, Nat.reduceSub, Nat.reduceMul, Int.reduceLT, Int.reduceLE, Int.reduceEq, Int.reduceToNat, Int.reduceAdd, Int.reduceSub, Int.reduceMul, reduceCtorEq, ↓reduceIte, f1, f2, f6, i1, i64_w ((k + 2 : Nat) : Int) (by omega), hlt, decide_false]
        repeat refine And.intro (by first | omega | (simp; done) | (simp; omega) | exact all1 rfl) ?_
        exact hJ _ _ ⟨x, g, A', by simp only [↓gaW, ↓gaV, ↓gaC, ↓gaN, gaP, Nat.reduceEqDiff, Nat.reduceLeDiff, Nat.reduceAdd, Nat.reduceSub, Nat.reduceMul, Int.reduceLT, Int.reduceLE, Int.reduceEq, Int.reduceToNat, Int.reduceAdd, Int.reduceSub, Int.reduceMul, reduceCtorEq, ↓reduceIte, f2], by simp only [↓gaW, ↓gaV, ↓gaC, ↓gaN, gaP, Nat.reduceEqDiff, Nat.reduceLeDiff, Nat.reduceAdd, Nat.reduceSub, Nat.reduceMul, Int.reduceLT, Int.reduceLE, Int.reduceEq, Int.reduceToNat, Int.reduceAdd, Int.reduceSub, Int.reduceMul, reduceCtorEq, ↓reduceIte, f6], rfl, hx, hF, hg, hgr⟩
    · intro f m hh
      generalize hX : D Try.prog _ AEx.normal f m = X
      obtain ⟨x, g, A', f2, f6, rfl, hx, hF, hg, hgr⟩ := hh
      have hrow : ∀ b, rowOf ⟨x + 1, b, upd g x (some (Blk.cells (ahL.map u8V) false))⟩ (some ⟨x, 0, none⟩) 20 = some (ahL.map u8V) := fun b => (row8 (ro := false) (w := ahL) (x := x + 1) (by omega) (by simp only [upd_e, if_true]) rfl).rowOf
      rw [← hX]
      clear hX
      simp only [↓gaW, ↓gaV, ↓gaC, ↓gaN, gaP, Nat.reduceEqDiff, Nat.reduceLeDiff, Nat.reduceAdd, Nat.reduceSub, Nat.reduceMul, Int.reduceLT, Int.reduceLE, Int.reduceEq, Int.reduceToNat, Int.reduceAdd, Int.reduceSub, Int.reduceMul, reduceCtorEq, ↓reduceIte, List.getD_cons_zero, List.getD_cons_succ, fillL, splice, List.take_zero, List.drop_zero, List.drop_succ_cons, List.take_succ_cons, List.drop_nil, List.take_nil, f6]
      refine (show asO (rowOf ⟨x + 1, b, upd g x (some (Blk.cells (ahL.map u8V) false))⟩ (some ⟨x, 0, none⟩) 20) _ from ?_)
      simp only [hrow, asO_e]
      refine grow_append (nx := nx + 1) (k := 20) (hgr.keep (Nat.le_succ _) (fun p hp => by simp only [upd_e]; rw [if_neg (by omega)])) (by omega) (by omega) (by omega) (by omega) rfl (all_u8 ahL) (by omega) (by omega) fun g3 k3 ho3 => ?_
      have hg3 : g3 nx = some (.cells (H.map u8V) false) := by rw [k3 nx (by omega)]; simp only [upd_e]; rw [if_neg (by omega), hg]
      have hrow2 : ∀ b, rowOf ⟨x + 1 + 1, b, g3⟩ (some ⟨nx, 0, none⟩) 32 = some (H.map u8V) := fun b => (row8 (ro := false) (x := x + 1 + 1) (by omega) hg3 hH).rowOf
      simp only [↓gaW, ↓gaV, ↓gaC, ↓gaN, gaP, Nat.reduceEqDiff, Nat.reduceLeDiff, Nat.reduceAdd, Nat.reduceSub, Nat.reduceMul, Int.reduceLT, Int.reduceLE, Int.reduceEq, Int.reduceToNat, Int.reduceAdd, Int.reduceSub, Int.reduceMul, reduceCtorEq, ↓reduceIte, f2, hrow2]
      refine grow_append (nx := nx + 1) (k := 32) (.inl ho3) (by omega) (by omega) (by omega) (by omega) (by simp [hH]) (all_u8 _) (by omega) (by omega) fun g4 k4 ho4 => ?_
      rw [frT_end] at ho4
      simp only [↓gaW, ↓gaV, ↓gaC, ↓gaN, gaP, Nat.reduceEqDiff, Nat.reduceLeDiff, Nat.reduceAdd, Nat.reduceSub, Nat.reduceMul, Int.reduceLT, Int.reduceLE, Int.reduceEq, Int.reduceToNat, Int.reduceAdd, Int.reduceSub, Int.reduceMul, reduceCtorEq, ↓reduceIte, gaE, implies_true, Nat.le_refl, Int.sub_zero, Nat.sub_zero, Int.le_refl, true_or, or_true]
      refine ⟨by omega, fun p hp => ?_, some ⟨x + 1 + 1, 0, some 1⟩, 2 + k + 20 + 32, 2 + k + 20 + 32, by rw [hf], by omega, ?_, ?_⟩
      · rw [k4 p (by omega), k3 p (by omega)]; simp only [upd_e]; rw [if_neg (by omega), hF p hp]
      · rw [hf]; simp [frL, ahL, hH]; omega
      · rw [hf]; simpa using (show Grow (nx + 1) b _ g4 1 _ _ _ from .inl ho4).row
  · have hf : (frameR H s) = ([], 1) := if_neg hs
    have hV : ∀ x g, FrameV H s (.tuple #[.slice none 0 0, .int .i64 1]) x g := fun x g => ⟨none, 0, 0, by rw [hf], by omega, by rw [hf]; rfl, by rw [hf]; exact Row.nil⟩
    by_cases d1 : s < 62
    · simp only [c_lanyardref09_Frame, ↓gaW, ↓gaV, ↓gaC, ↓gaN, gaP, Nat.reduceEqDiff, Nat.reduceLeDiff, Nat.reduceAdd, Nat.reduceSub, Nat.reduceMul, Int.reduceLT, Int.reduceLE, Int.reduceEq, Int.reduceToNat, Int.reduceAdd, Int.reduceSub, Int.reduceMul, reduceCtorEq, ↓reduceIte, gaE, implies_true, Nat.le_refl, Int.sub_zero, Nat.sub_zero, Int.le_refl, true_or, or_true, gaU, d1, decide_true]
      exact ⟨by omega, fun q hq => by rw [if_neg (by omega)], hV _ _⟩
    · have d2 : 512 < s := by omega
      simp only [c_lanyardref09_Frame, ↓gaW, ↓gaV, ↓gaC, ↓gaN, gaP, Nat.reduceEqDiff, Nat.reduceLeDiff, Nat.reduceAdd, Nat.reduceSub, Nat.reduceMul, Int.reduceLT, Int.reduceLE, Int.reduceEq, Int.reduceToNat, Int.reduceAdd, Int.reduceSub, Int.reduceMul, reduceCtorEq, ↓reduceIte, gaE, implies_true, Nat.le_refl, Int.sub_zero, Nat.sub_zero, Int.le_refl, true_or, or_true, gaU, d1, d2, decide_true, decide_false]
      exact ⟨by omega, fun q hq => by rw [if_neg (by omega)], hV _ _⟩
end
end Go.Ga
