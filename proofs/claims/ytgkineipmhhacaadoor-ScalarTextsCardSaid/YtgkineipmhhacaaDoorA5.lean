/- Words and contracts of functions for the statement's proof. No condition. -/
import Derived.Test.YtgkineipmhhacaaDoorA4
set_option linter.all false

namespace Go.Ga
open Go Go.Proofs
set_option linter.unusedSimpArgs false
set_option linter.unusedVariables false
set_option maxRecDepth 100000

theorem res_cN0 {f : Regs} {x b : Nat} {g : Nat → Option Blk} {i n q : Nat} {c : List Value} {ro : Bool} {l : List RVar} (h : f i = .pointer (some ⟨q, 0, none⟩)) (hg : g q = some (.cells c ro)) (hn : n ≤ c.length) :
    resVals f ⟨x, b, g⟩ (.cN i n :: l) = (resVals f ⟨x, b, g⟩ l).map (.agg (c.take n).toArray :: ·) := by
  simp [resVals, h, hg, hn]

theorem end_cNt {f : Regs} {x b' b nx : Nat} {g gt : Nat → Option Blk} {i n j q : Nat} {C} (c : List Value) {ro : Bool} (h : f i = .pointer (some ⟨q, 0, none⟩)) (hg : g q = some (.cells c ro)) (hn : n ≤ c.length)
    (h2 : b' = b ∧ nx ≤ x ∧ (∀ i, i < nx → g i = gt i) ∧ C (.tuple #[.agg (c.take n).toArray, f j]) x g) : endK [.cN i n, .t j] b nx gt C .ret f ⟨x, b', g⟩ := by
  rw [end_r, res_cN0 h hg hn]
  exact h2

/-- What 'Date' answers. -/
def DateV (s : Int) (v : Value) : Prop :=
  if -631152000 ≤ s ∧ s ≤ 7258118399 then ∃ d0 d1 d2 d3 d4 d5, okD d0 d1 d2 d3 d4 d5 = true ∧ secI d0 d1 d2 d3 d4 d5 = s ∧ v = .tuple #[.agg #[.int .i64 d0, .int .i64 d1, .int .i64 d2, .int .i64 d3, .int .i64 d4, .int .i64 d5], .bool true]
  else v = .tuple #[.agg #[.int .i64 0, .int .i64 0, .int .i64 0, .int .i64 0, .int .i64 0, .int .i64 0], .bool false]

theorem yearsR_mono (k : Nat) : yearsR k + 365 ≤ yearsR (k + 1) := by
  simp only [yearsR]; split <;> omega
theorem dayR_11 (k : Nat) : dayR (1950 + (k : Nat)) 1 1 = yearsR k := by
  have e : (1950 + (k : Int) - 1950).toNat = k := by omega
  simp only [dayR, e]
  show 1 - 1 + yearsR k + monthsR _ 0 = _
  simp only [monthsR]; omega
theorem yearsR_250 : yearsR 250 = 91311 := by decide +kernel
theorem months_year (k : Nat) : monthsR (1950 + (k : Nat)) 12 = yearsR (k + 1) - yearsR k := by
  have h : ∀ L : Bool, leapB (1950 + (k : Nat)) = L → monthsR (1950 + (k : Nat)) 12 = 365 + (if leapB (1950 + (k : Nat)) then 1 else 0) := by
    intro L hL
    cases L <;> simp [monthsR, lastI, hL, mtab]
  rw [h _ rfl, yearsR]; omega

theorem ct_rDate {nx : Nat} {gt : Nat → Option Blk} {s : Int} (hs : -9223372036854775808 ≤ s ∧ s ≤ 9223372036854775807) :
    Ct Tryd.prog 88 [.int .i64 s] nx gt fun v _ _ => DateV s v := by
  refine Ct.of hmx r_lanyardref03_Date (by simp [c_lanyardref03_Date]) fun b hb => ?_
  simp only [c_lanyardref03_Date, ↓gaW, ↓gaC, ↓gaN, gaP, Nat.reduceEqDiff, Nat.reduceLeDiff, Nat.reduceAdd, Nat.reduceSub, Nat.reduceMul, Int.reduceLT, Int.reduceLE, Int.reduceEq, Int.reduceToNat, Int.reduceAdd, Int.reduceSub, Int.reduceMul, reduceCtorEq, ↓reduceIte]
  refine callK_of (ct_days (by omega) (by omega) (by omega)) (fun v n1 g1 l1 k1 hC => ?_) (by omega)
  rw [dayR_1970] at hC
  subst hC
  have c1 : g1 nx = some (.cells [.int .i64 0, .int .i64 0, .int .i64 0, .int .i64 0, .int .i64 0, .int .i64 0] false) := by rw [k1 nx (by omega)]; simp only [upd_e, if_true]
  have o1 : ∀ i, i < nx → g1 i = gt i := fun i hi => by rw [k1 i (by omega)]; simp only [upd_e]; rw [if_neg (by omega)]
  have all6 : ∀ a b c d e g : Int, ∀ v ∈ [Value.int .i64 a, .int .i64 b, .int .i64 c, .int .i64 d, .int .i64 e, .int .i64 g], cellVal v = true := by
    intro a b c d e g v hv
    simp only [List.mem_cons, List.not_mem_nil, or_false] at hv
    rcases hv with rfl | rfl | rfl | rfl | rfl | rfl <;> rfl
  have spl : ∀ l l' : List Value, l.length = 6 → l'.length = 6 → splice l 0 l' = l' := by
    intro l l' h h'
    simp [splice, h']; omega
  by_cases a0 : s < -631152000
  · simp only [↓gaW, ↓gaC, ↓gaN, gaP, Nat.reduceEqDiff, Nat.reduceLeDiff, Nat.reduceAdd, Nat.reduceSub, Nat.reduceMul, Int.reduceLT, Int.reduceLE, Int.reduceEq, Int.reduceToNat, Int.reduceAdd, Int.reduceSub, Int.reduceMul, reduceCtorEq, ↓reduceIte, List.getD_cons_zero, List.getD_cons_succ, fillL, splice, List.take_zero, List.drop_zero, List.drop_succ_cons, List.take_succ_cons, List.drop_nil, List.take_nil, i64_w (-7305) (by omega), i64_w (-631152000) (by omega), a0, decide_true, c1]
    refine ⟨by omega, all6 _ _ _ _ _ _, ?_⟩
    refine end_cNt (ro := false) [.int .i64 0, .int .i64 0, .int .i64 0, .int .i64 0, .int .i64 0, .int .i64 0] rfl (by simp only [upd_e, if_true]) (by simp) ⟨rfl, by omega, fun i hi => by simp only [upd_e]; rw [if_neg (by omega), o1 i hi], ?_⟩
    rw [DateV, if_neg (by omega)]; rfl
  by_cases a1 : 7258118399 < s
  · simp only [↓gaW, ↓gaC, ↓gaN, gaP, Nat.reduceEqDiff, Nat.reduceLeDiff, Nat.reduceAdd, Nat.reduceSub, Nat.reduceMul, Int.reduceLT, Int.reduceLE, Int.reduceEq, Int.reduceToNat, Int.reduceAdd, Int.reduceSub, Int.reduceMul, reduceCtorEq, ↓reduceIte, List.getD_cons_zero, List.getD_cons_succ, fillL, splice, List.take_zero, List.drop_zero, List.drop_succ_cons, List.take_succ_cons, List.drop_nil, List.take_nil, i64_w (-7305) (by omega), i64_w (-631152000) (by omega), a0, a1, decide_true, decide_false, c1]
    refine ⟨by omega, all6 _ _ _ _ _ _, ?_⟩
    refine end_cNt (ro := false) [.int .i64 0, .int .i64 0, .int .i64 0, .int .i64 0, .int .i64 0, .int .i64 0] rfl (by simp only [upd_e, if_true]) (by simp) ⟨rfl, by omega, fun i hi => by simp only [upd_e]; rw [if_neg (by omega), o1 i hi], ?_⟩
    rw [DateV, if_neg (by omega)]; rfl
  have q0 : s - -631152000 = s + 631152000 := by omega
  have q1 : (s + 631152000).tdiv 86400 = (s + 631152000) / 86400 := Int.tdiv_eq_ediv_of_nonneg (by omega)
  have q2 : (s + 631152000).tmod 86400 = (s + 631152000) % 86400 := Int.tmod_eq_emod_of_nonneg (by omega)
  obtain ⟨N, hN⟩ : ∃ N, (s + 631152000) / 86400 = N := ⟨_, rfl⟩
  obtain ⟨R, hR⟩ : ∃ R, (s + 631152000) % 86400 = R := ⟨_, rfl⟩
  have hNR : 0 ≤ N ∧ N ≤ 91310 ∧ 0 ≤ R ∧ R < 86400 ∧ s = 86400 * N + R - 631152000 := by omega
  simp only [↓gaW, ↓gaC, ↓gaN, gaP, Nat.reduceEqDiff, Nat.reduceLeDiff, Nat.reduceAdd, Nat.reduceSub, Nat.reduceMul, Int.reduceLT, Int.reduceLE, Int.reduceEq, Int.reduceToNat, Int.reduceAdd, Int.reduceSub, Int.reduceMul, reduceCtorEq, ↓reduceIte, i64_w (-7305) (by omega), i64_w (-631152000) (by omega), a0, a1, decide_false, q0, i64_w (s + 631152000) (by omega), q1, q2, hN, hR, i64_w N (by omega)]
  refine loop_of (fun j f m => ∃ (k x : Nat) (g : Nat → Option Blk), j = 250 - k ∧ k ≤ 249 ∧ yearsR k ≤ N ∧ f 2 = .pointer (some ⟨nx, 0, none⟩) ∧ f 5 = .int .i64 (N - yearsR k) ∧ f 6 = .int .i64 R ∧ f 7 = .int .i64 (1950 + (k : Nat)) ∧ m = ⟨x, b, g⟩ ∧ nx + 1 ≤ x ∧ (∀ i, i < nx → g i = gt i) ∧
      g nx = some (.cells [.int .i64 0, .int .i64 0, .int .i64 0, .int .i64 0, .int .i64 0, .int .i64 0] false)) 250
    ⟨0, n1, g1, by omega, by omega, by simp [yearsR]; omega, rfl, by simp [putR, yearsR], rfl, rfl, rfl, by omega, o1, c1⟩ ?_
  rintro j f m ⟨k, x, g, rfl, hk, hyk, h2, h5, h6, h7, rfl, hx, hg, hgn⟩
  have yb := yearsR_bd k
  have yb1 := yearsR_bd (k + 1)
  have ym := yearsR_mono k
  have e1 : 1950 + (k : Int) + 1 = 1950 + ((k + 1 : Nat) : Int) := by omega
  simp only [↓gaW, ↓gaC, ↓gaN, gaP, Nat.reduceEqDiff, Nat.reduceLeDiff, Nat.reduceAdd, Nat.reduceSub, Nat.reduceMul, Int.reduceLT, Int.reduceLE, Int.reduceEq, Int.reduceToNat, Int.reduceAdd, Int.reduceSub, Int.reduceMul, reduceCtorEq, ↓reduceIte, h5, h7, e1, i64_w (1950 + ((k + 1 : Nat) : Int)) (by omega)]
  refine callK_of (ct_days (by omega) (by omega) (by omega)) (fun v n2 g2 l2 k2 hC => ?_) (by omega)
  rw [dayR_11 (k + 1)] at hC
  subst hC
  simp only [↓gaW, ↓gaC, ↓gaN, gaP, Nat.reduceEqDiff, Nat.reduceLeDiff, Nat.reduceAdd, Nat.reduceSub, Nat.reduceMul, Int.reduceLT, Int.reduceLE, Int.reduceEq, Int.reduceToNat, Int.reduceAdd, Int.reduceSub, Int.reduceMul, reduceCtorEq, ↓reduceIte, h5, h7]
  refine callK_of (ct_days (by omega) (by omega) (by omega)) (fun v n3 g3 l3 k3 hC => ?_) (by omega)
  rw [dayR_11] at hC
  subst hC
  simp only [↓gaW, ↓gaC, ↓gaN, gaP, Nat.reduceEqDiff, Nat.reduceLeDiff, Nat.reduceAdd, Nat.reduceSub, Nat.reduceMul, Int.reduceLT, Int.reduceLE, Int.reduceEq, Int.reduceToNat, Int.reduceAdd, Int.reduceSub, Int.reduceMul, reduceCtorEq, ↓reduceIte, h5, h7, i64_w (yearsR (k + 1) - yearsR k) (by omega)]
  have k23 : ∀ i, i < x → g3 i = g i := fun i hi => by rw [k3 i (by omega), k2 i hi]
  refine condK_dec (fun hge => ?_) fun hlt => ?_
  · have hk1 : k + 1 ≤ 249 := by
      rcases Nat.lt_or_ge k 249 with h | h
      · omega
      · have : k = 249 := by omega
        subst this
        rw [show 249 + 1 = 250 from rfl, yearsR_250] at hge
        omega
    simp only [↓gaW, ↓gaC, ↓gaN, gaP, Nat.reduceEqDiff, Nat.reduceLeDiff, Nat.reduceAdd, Nat.reduceSub, Nat.reduceMul, Int.reduceLT, Int.reduceLE, Int.reduceEq, Int.reduceToNat, Int.reduceAdd, Int.reduceSub, Int.reduceMul, reduceCtorEq, ↓reduceIte, h5, h7, e1, i64_w (1950 + ((k + 1 : Nat) : Int)) (by omega)]
    refine callK_of (ct_days (by omega) (by omega) (by omega)) (fun v n4 g4 l4 k4 hC => ?_) (by omega)
    rw [dayR_11] at hC
    subst hC
    simp only [↓gaW, ↓gaC, ↓gaN, gaP, Nat.reduceEqDiff, Nat.reduceLeDiff, Nat.reduceAdd, Nat.reduceSub, Nat.reduceMul, Int.reduceLT, Int.reduceLE, Int.reduceEq, Int.reduceToNat, Int.reduceAdd, Int.reduceSub, Int.reduceMul, reduceCtorEq, ↓reduceIte, h5, h7]
    refine callK_of (ct_days (by omega) (by omega) (by omega)) (fun v n5 g5 l5 k5 hC => ?_) (by omega)
    rw [dayR_11] at hC
    subst hC
    have e2 : N - yearsR k - (yearsR (k + 1) - yearsR k) = N - yearsR (k + 1) := by omega
    simp only [↓gaW, ↓gaC, ↓gaN, gaP, Nat.reduceEqDiff, Nat.reduceLeDiff, Nat.reduceAdd, Nat.reduceSub, Nat.reduceMul, Int.reduceLT, Int.reduceLE, Int.reduceEq, Int.reduceToNat, Int.reduceAdd, Int.reduceSub, Int.reduceMul, reduceCtorEq, ↓reduceIte, h5, h7, i64_w (yearsR (k + 1) - yearsR k) (by omega), e2, i64_w (N - yearsR (k + 1)) (by omega), e1, i64_w (1950 + ((k + 1 : Nat) : Int)) (by omega)]
    have k45 : ∀ i, i < x → g5 i = g i := fun i hi => by rw [k5 i (by omega), k4 i (by omega), k23 i hi]
    exact ⟨250 - (k + 1), by omega, k + 1, n5, g5, rfl, hk1, by omega, h2, rfl, h6, rfl, rfl, by omega, fun i hi => by rw [k45 i (by omega), hg i hi], by rw [k45 nx (by omega), hgn]⟩
  · simp only [↓gaW, ↓gaC, ↓gaN, gaP, Nat.reduceEqDiff, Nat.reduceLeDiff, Nat.reduceAdd, Nat.reduceSub, Nat.reduceMul, Int.reduceLT, Int.reduceLE, Int.reduceEq, Int.reduceToNat, Int.reduceAdd, Int.reduceSub, Int.reduceMul, reduceCtorEq, ↓reduceIte]
    refine loop_of (fun j f m => ∃ (t x : Nat) (g : Nat → Option Blk), j = 12 - t ∧ t ≤ 11 ∧ monthsR (1950 + (k : Nat)) t ≤ N - yearsR k ∧ f 2 = .pointer (some ⟨nx, 0, none⟩) ∧ f 5 = .int .i64 (N - yearsR k - monthsR (1950 + (k : Nat)) t) ∧ f 6 = .int .i64 R ∧ f 7 = .int .i64 (1950 + (k : Nat)) ∧ f 8 = .int .i64 (1 + (t : Nat)) ∧ m = ⟨x, b, g⟩ ∧ nx + 1 ≤ x ∧ (∀ i, i < nx → g i = gt i) ∧
        g nx = some (.cells [.int .i64 0, .int .i64 0, .int .i64 0, .int .i64 0, .int .i64 0, .int .i64 0] false)) 12
      ⟨0, n3, g3, by omega, by omega, by simp [monthsR]; omega, h2, by simpa [putR, monthsR] using h5, h6, h7, rfl, rfl, by omega, fun i hi => by rw [k23 i (by omega), hg i hi], by rw [k23 nx (by omega), hgn]⟩ ?_
    rintro j f m ⟨t, x, g, rfl, ht, hmt, h2, h5, h6, h7, h8, rfl, hx, hg, hgn⟩
    have lb := lastI_bd (y := 1950 + (k : Nat)) (m := 1 + (t : Nat)) (by omega) (by omega)
    have mb := monthsR_bd (1950 + (k : Nat)) t (by omega)
    have ms : monthsR (1950 + (k : Nat)) (t + 1) = monthsR (1950 + (k : Nat)) t + lastI (1950 + (k : Nat)) (1 + (t : Nat)) := by rw [monthsR, Int.add_comm (t : Int) 1]
    have m12 := months_year k
    simp only [↓gaW, ↓gaC, ↓gaN, gaP, Nat.reduceEqDiff, Nat.reduceLeDiff, Nat.reduceAdd, Nat.reduceSub, Nat.reduceMul, Int.reduceLT, Int.reduceLE, Int.reduceEq, Int.reduceToNat, Int.reduceAdd, Int.reduceSub, Int.reduceMul, reduceCtorEq, ↓reduceIte, h5, h7, h8]
    refine callK_of (ct_rlast (by omega) (by omega)) (fun v n4 g4 l4 k4 hC => ?_) (by omega)
    subst hC
    simp only [↓gaW, ↓gaC, ↓gaN, gaP, Nat.reduceEqDiff, Nat.reduceLeDiff, Nat.reduceAdd, Nat.reduceSub, Nat.reduceMul, Int.reduceLT, Int.reduceLE, Int.reduceEq, Int.reduceToNat, Int.reduceAdd, Int.reduceSub, Int.reduceMul, reduceCtorEq, ↓reduceIte, h5]
    refine condK_dec (fun hge => ?_) fun hlt' => ?_
    · have ht1 : t + 1 ≤ 11 := by
        rcases Nat.lt_or_ge t 11 with h | h
        · omega
        · have : t = 11 := by omega
          subst this
          rw [show 11 + 1 = 12 from rfl, m12] at ms
          omega
      simp only [↓gaW, ↓gaC, ↓gaN, gaP, Nat.reduceEqDiff, Nat.reduceLeDiff, Nat.reduceAdd, Nat.reduceSub, Nat.reduceMul, Int.reduceLT, Int.reduceLE, Int.reduceEq, Int.reduceToNat, Int.reduceAdd, Int.reduceSub, Int.reduceMul, reduceCtorEq, ↓reduceIte, h5, h7, h8]
      refine callK_of (ct_rlast (by omega) (by omega)) (fun v n5 g5 l5 k5 hC => ?_) (by omega)
      subst hC
      have e3 : N - yearsR k - monthsR (1950 + (k : Nat)) t - lastI (1950 + (k : Nat)) (1 + (t : Nat)) = N - yearsR k - monthsR (1950 + (k : Nat)) (t + 1) := by rw [ms]; omega
      have e4 : 1 + (t : Int) + 1 = 1 + ((t + 1 : Nat) : Int) := by omega
      have mb1 := monthsR_bd (1950 + (k : Nat)) (t + 1) (by omega)
      simp only [↓gaW, ↓gaC, ↓gaN, gaP, Nat.reduceEqDiff, Nat.reduceLeDiff, Nat.reduceAdd, Nat.reduceSub, Nat.reduceMul, Int.reduceLT, Int.reduceLE, Int.reduceEq, Int.reduceToNat, Int.reduceAdd, Int.reduceSub, Int.reduceMul, reduceCtorEq, ↓reduceIte, h8, e3, i64_w (N - yearsR k - monthsR (1950 + (k : Int)) (t + 1)) (by omega), e4, i64_w (1 + ((t + 1 : Nat) : Int)) (by omega)]
      have k45 : ∀ i, i < x → g5 i = g i := fun i hi => by rw [k5 i (by omega), k4 i hi]
      exact ⟨12 - (t + 1), by omega, t + 1, n5, g5, rfl, ht1, by rw [ms]; omega, h2, rfl, h6, h7, rfl, rfl, by omega, fun i hi => by rw [k45 i (by omega), hg i hi], by rw [k45 nx (by omega), hgn]⟩
    · have r1 : R.tdiv 3600 = R / 3600 := Int.tdiv_eq_ediv_of_nonneg (by omega)
      have r2 : R.tdiv 60 = R / 60 := Int.tdiv_eq_ediv_of_nonneg (by omega)
      have r3 : (R / 60).tmod 60 = R / 60 % 60 := Int.tmod_eq_emod_of_nonneg (by omega)
      have r4 : R.tmod 60 = R % 60 := Int.tmod_eq_emod_of_nonneg (by omega)
      have k4n : g4 nx = _ := (k4 nx (by omega)).trans hgn
      simp only [↓gaW, ↓gaC, ↓gaN, gaP, Nat.reduceEqDiff, Nat.reduceLeDiff, Nat.reduceAdd, Nat.reduceSub, Nat.reduceMul, Int.reduceLT, Int.reduceLE, Int.reduceEq, Int.reduceToNat, Int.reduceAdd, Int.reduceSub, Int.reduceMul, reduceCtorEq, ↓reduceIte, List.getD_cons_zero, List.getD_cons_succ, fillL, splice, List.take_zero, List.drop_zero, List.drop_succ_cons, List.take_succ_cons, List.drop_nil, List.take_nil, h2, h5, h6, h7, h8, i64_w (N - yearsR k - monthsR (1950 + (k : Int)) t + 1) (by omega), r1, r2, r3, r4, i64_w (R / 3600) (by omega), i64_w (R / 60) (by omega), k4n]
      repeat refine And.intro (by first | omega | exact all6 _ _ _ _ _ _) ?_
      refine end_cNt (ro := false) [.int .i64 (1950 + (k : Nat)), .int .i64 (1 + (t : Nat)), .int .i64 (N - yearsR k - monthsR (1950 + (k : Nat)) t + 1), .int .i64 (R / 3600), .int .i64 (R / 60 % 60), .int .i64 (R % 60)] h2 (by simp only [upd_e, if_true]) (by simp) ⟨rfl, by omega, fun i hi => by simp only [upd_e]; rw [if_neg (by omega), k4 i (by omega), hg i hi], ?_⟩
      rw [DateV, if_pos (by omega)]
      have hky : (1950 + (k : Int) - 1950).toNat = k := by omega
      have hmt' : (1 + (t : Int) - 1).toNat = t := by omega
      refine ⟨1950 + (k : Nat), 1 + (t : Nat), N - yearsR k - monthsR (1950 + (k : Nat)) t + 1, R / 3600, R / 60 % 60, R % 60, ?_, ?_, rfl⟩
      · simp only [okD, inB, Bool.and_eq_true, decide_eq_true_eq]; omega
      · rw [secI, dayC_eq (by omega) (by omega), dayR, hky, hmt']; omega
end Go.Ga

namespace Go.Ga
open Go Go.Proofs
set_option linter.unusedSimpArgs false
set_option linter.unusedVariables false
set_option maxRecDepth 100000

theorem lastI_N {y m : Nat} (h1 : 1 ≤ m) (h2 : m ≤ 12) : lastI (y : Nat) (m : Nat) = (lastN y m : Nat) := by
  have hL : leapB (y : Nat) = decide (y % 4 = 0 ∧ y % 100 ≠ 0 ∨ y % 400 = 0) := by
    have a1 : ((y : Int).tmod 4 = 0) = (y % 4 = 0) := by
      show (((y % 4 : Nat) : Int) = 0) = _
      simp only [eq_iff_iff]; omega
    have a2 : ((y : Int).tmod 100 = 0) = (y % 100 = 0) := by
      show (((y % 100 : Nat) : Int) = 0) = _
      simp only [eq_iff_iff]; omega
    have a3 : ((y : Int).tmod 400 = 0) = (y % 400 = 0) := by
      show (((y % 400 : Nat) : Int) = 0) = _
      simp only [eq_iff_iff]; omega
    simp only [leapB, a1, a2, a3]
    by_cases b1 : y % 4 = 0 <;> by_cases b2 : y % 100 = 0 <;> by_cases b3 : y % 400 = 0 <;> simp [b1, b2, b3]
  have hT : ∀ k, k < 12 → mtab.getD k 0 = (([31, 28, 31, 30, 31, 30, 31, 31, 30, 31, 30, 31] : List Nat).getD k 0 : Nat) := by decide
  have e : ((m : Int) - 1).toNat = m - 1 := by omega
  unfold lastI lastN
  rw [e, hL]
  by_cases hm : m = 2
  · subst hm
    by_cases hl : y % 4 = 0 ∧ y % 100 ≠ 0 ∨ y % 400 = 0
    · rw [if_pos ⟨rfl, decide_eq_true hl⟩, if_pos ⟨rfl, hl⟩]; rfl
    · rw [if_neg (by simp only [decide_eq_true_eq]; exact fun h => hl h.2), if_neg (fun h => hl h.2)]; rfl
  · rw [if_neg (by omega), if_neg (by omega), hT _ (by omega)]

theorem dayC_N {y m d : Nat} (hy : 1 ≤ y) (h1 : 1 ≤ m) (h2 : m ≤ 12) (hd : 1 ≤ d) : dayC (y : Nat) (m : Nat) (d : Nat) = (dayN y m d : Nat) - 719468 := by
  unfold dayC dayN dayF
  by_cases hm : m < 3
  · rw [if_pos (by omega), if_pos hm]
    have a0 : ((y : Int) - 1) = ((y - 1 : Nat) : Int) := by omega
    have a1 : (((y - 1 : Nat) : Int).tdiv 400) = (((y - 1) / 400 : Nat) : Int) := rfl
    have a2 : (((y - 1 : Nat) : Int).tmod 400) = (((y - 1) % 400 : Nat) : Int) := rfl
    have a3 : ((((y - 1) % 400 : Nat) : Int).tdiv 4) = (((y - 1) % 400 / 4 : Nat) : Int) := rfl
    have a4 : ((((y - 1) % 400 : Nat) : Int).tdiv 100) = (((y - 1) % 400 / 100 : Nat) : Int) := rfl
    have a5 : (153 * ((m : Int) - 3 + 12) + 2) = ((153 * (m + 9) + 2 : Nat) : Int) := by omega
    have a6 : (((153 * (m + 9) + 2 : Nat) : Int).tdiv 5) = (((153 * (m + 9) + 2) / 5 : Nat) : Int) := rfl
    rw [a0, a1, a2, a3, a4, a5, a6]; omega
  · rw [if_neg (by omega), if_neg hm]
    have a1 : ((y : Int).tdiv 400) = ((y / 400 : Nat) : Int) := rfl
    have a2 : ((y : Int).tmod 400) = ((y % 400 : Nat) : Int) := rfl
    have a3 : (((y % 400 : Nat) : Int).tdiv 4) = ((y % 400 / 4 : Nat) : Int) := rfl
    have a4 : (((y % 400 : Nat) : Int).tdiv 100) = ((y % 400 / 100 : Nat) : Int) := rfl
    have a5 : (153 * ((m : Int) - 3) + 2) = ((153 * (m - 3) + 2 : Nat) : Int) := by omega
    have a6 : (((153 * (m - 3) + 2 : Nat) : Int).tdiv 5) = (((153 * (m - 3) + 2) / 5 : Nat) : Int) := rfl
    rw [a1, a2, a3, a4, a5, a6]; omega
end Go.Ga

namespace Go.Ga
open Go Go.Proofs
set_option linter.unusedSimpArgs false
set_option linter.unusedVariables false
set_option maxRecDepth 100000

theorem secV_first : SecV 1950 1 1 0 0 0 = .tuple #[.int .i64 (-631152000), .bool true] := by
  rw [SecV, if_pos (by decide +kernel), show secI 1950 1 1 0 0 0 = -631152000 by decide +kernel]
theorem secV_last : SecV 2199 12 31 23 59 59 = .tuple #[.int .i64 7258118399, .bool true] := by
  rw [SecV, if_pos (by decide +kernel), show secI 2199 12 31 23 59 59 = 7258118399 by decide +kernel]

/-- Seconds to days and what is left, as the code has them. -/
theorem split_day (s : Int) : ∃ q t : Int, s.tdiv 86400 = q ∧ s.tmod 86400 = t ∧ s = 86400 * q + t ∧ -86400 < t ∧ t < 86400 ∧ (0 ≤ s → 0 ≤ t) ∧ (s ≤ 0 → t ≤ 0) := by
  refine ⟨_, _, rfl, rfl, (Int.mul_tdiv_add_tmod s 86400).symm, ?_⟩
  rcases Int.le_total 0 s with h | h
  · have := Int.tmod_eq_emod_of_nonneg (b := 86400) h
    omega
  · have h2 := Int.tmod_eq_emod_of_nonneg (a := -s) (b := 86400) (by omega)
    rw [Int.neg_tmod] at h2
    omega

set_option maxHeartbeats 2000000 in
theorem ct_Date {nx : Nat} {gt : Nat → Option Blk} {s : Int} (hs : -9223372036854775808 ≤ s ∧ s ≤ 9223372036854775807) :
    Ct Tryd.prog 96 [.int .i64 s] nx gt fun v _ _ => DateV s v := by
  refine Ct.of hmx r_clock_Date (by simp [c_clock_Date]) fun b hb => ?_
  simp only [c_clock_Date, ↓gaW, ↓gaC, ↓gaN, gaP, Nat.reduceEqDiff, Nat.reduceLeDiff, Nat.reduceAdd, Nat.reduceSub, Nat.reduceMul, Int.reduceLT, Int.reduceLE, Int.reduceEq, Int.reduceToNat, Int.reduceAdd, Int.reduceSub, Int.reduceMul, reduceCtorEq, ↓reduceIte, List.getD_cons_zero, List.getD_cons_succ, fillL, splice, List.take_zero, List.drop_zero, List.drop_succ_cons, List.take_succ_cons, List.drop_nil, List.take_nil]
  refine callK_of ct_Seconds (fun v n1 g1 l1 k1 hC => ?_) (by omega)
  rw [secV_first] at hC
  subst hC
  simp only [↓gaW, ↓gaC, ↓gaN, gaP, Nat.reduceEqDiff, Nat.reduceLeDiff, Nat.reduceAdd, Nat.reduceSub, Nat.reduceMul, Int.reduceLT, Int.reduceLE, Int.reduceEq, Int.reduceToNat, Int.reduceAdd, Int.reduceSub, Int.reduceMul, reduceCtorEq, ↓reduceIte, List.getD_cons_zero, List.getD_cons_succ, fillL, splice, List.take_zero, List.drop_zero, List.drop_succ_cons, List.take_succ_cons, List.drop_nil, List.take_nil]
  repeat refine And.intro (by omega) ?_
  refine callK_of ct_Seconds (fun v n2 g2 l2 k2 hC => ?_) (by omega)
  rw [secV_last] at hC
  subst hC
  have c2 : g2 nx = some (.cells [.int .i64 0, .int .i64 0, .int .i64 0, .int .i64 0, .int .i64 0, .int .i64 0] false) := by rw [k2 nx (by omega), k1 nx (by omega)]; simp only [upd_e, if_true]
  have o2 : ∀ i, i < nx → g2 i = gt i := fun i hi => by rw [k2 i (by omega), k1 i (by omega)]; simp only [upd_e]; rw [if_neg (by omega)]
  have all6 : ∀ a b c d e g : Int, ∀ v ∈ [Value.int .i64 a, .int .i64 b, .int .i64 c, .int .i64 d, .int .i64 e, .int .i64 g], cellVal v = true := by
    intro a b c d e g v hv
    simp only [List.mem_cons, List.not_mem_nil, or_false] at hv
    rcases hv with rfl | rfl | rfl | rfl | rfl | rfl <;> rfl
  by_cases a0 : s < -631152000
  · simp only [↓gaW, ↓gaC, ↓gaN, gaP, Nat.reduceEqDiff, Nat.reduceLeDiff, Nat.reduceAdd, Nat.reduceSub, Nat.reduceMul, Int.reduceLT, Int.reduceLE, Int.reduceEq, Int.reduceToNat, Int.reduceAdd, Int.reduceSub, Int.reduceMul, reduceCtorEq, ↓reduceIte, List.getD_cons_zero, List.getD_cons_succ, fillL, splice, List.take_zero, List.drop_zero, List.drop_succ_cons, List.take_succ_cons, List.drop_nil, List.take_nil, a0, decide_true, c2]
    repeat refine And.intro (by first | omega | exact all6 _ _ _ _ _ _) ?_
    refine end_cNt (ro := false) [.int .i64 0, .int .i64 0, .int .i64 0, .int .i64 0, .int .i64 0, .int .i64 0] rfl (by simp only [upd_e, if_true]) (by simp) ⟨rfl, by omega, fun i hi => by simp only [upd_e]; rw [if_neg (by omega), o2 i hi], ?_⟩
    rw [DateV, if_neg (by omega)]; rfl
  by_cases a1 : 7258118399 < s
  · simp only [↓gaW, ↓gaC, ↓gaN, gaP, Nat.reduceEqDiff, Nat.reduceLeDiff, Nat.reduceAdd, Nat.reduceSub, Nat.reduceMul, Int.reduceLT, Int.reduceLE, Int.reduceEq, Int.reduceToNat, Int.reduceAdd, Int.reduceSub, Int.reduceMul, reduceCtorEq, ↓reduceIte, List.getD_cons_zero, List.getD_cons_succ, fillL, splice, List.take_zero, List.drop_zero, List.drop_succ_cons, List.take_succ_cons, List.drop_nil, List.take_nil, a0, a1, decide_true, decide_false, c2]
    repeat refine And.intro (by first | omega | exact all6 _ _ _ _ _ _) ?_
    refine end_cNt (ro := false) [.int .i64 0, .int .i64 0, .int .i64 0, .int .i64 0, .int .i64 0, .int .i64 0] rfl (by simp only [upd_e, if_true]) (by simp) ⟨rfl, by omega, fun i hi => by simp only [upd_e]; rw [if_neg (by omega), o2 i hi], ?_⟩
    rw [DateV, if_neg (by omega)]; rfl
  obtain ⟨q, t, hq, ht, hst, ht1, ht2, ht3, ht4⟩ := split_day s
  have fin : ∀ (n : Nat) (T : Int), 712163 ≤ n → n < 803474 → 0 ≤ T → T < 86400 → s = 86400 * ((n : Nat) - 719468) + T → ∀ f : Regs, f 2 = .pointer (some ⟨nx, 0, none⟩) → f 8 = .int .i64 ((n : Nat) - 719468) → f 9 = .int .i64 T →
      RC.vc Tryd.prog (match c_clock_Date.code with | .seq _ (.seq _ (.seq _ (.seq _ (.seq _ (.seq _ c))))) => c | _ => .skip) f ⟨n2, b, g2⟩ (D Tryd.prog (.top (endK c_clock_Date.results b nx gt fun v _ _ => DateV s v))) := by
    intro n T hn1 hn2 hT1 hT2 hsn f f2 f8 f9
    have hchk := check_get hn1 hn2
    simp only [checkN, Bool.and_eq_true, Nat.ble_eq] at hchk
    obtain ⟨⟨⟨⟨⟨⟨⟨⟨⟨k1, k2⟩, k3⟩, k4⟩, k5⟩, k6⟩, k7⟩, k8⟩, k9⟩, k10⟩ := hchk
    have k10' := Nat.eq_of_beq_eq_true k10
    have e0 : ((n : Int) - 719468 + 719468) = (n : Int) := by omega
    have e1 : (n : Int).tdiv 146097 = ((n / 146097 : Nat) : Int) := rfl
    have e2 : (n : Int).tmod 146097 = ((n % 146097 : Nat) : Int) := rfl
    have hr : n % 146097 < 146097 := Nat.mod_lt _ (by decide)
    have hyd : n / 146097 ≤ 5 := by omega
    generalize hR : n % 146097 = r at *
    have e3 : (r : Int).tdiv 1460 = ((r / 1460 : Nat) : Int) := rfl
    have e4 : (r : Int).tdiv 36524 = ((r / 36524 : Nat) : Int) := rfl
    have e5 : (r : Int).tdiv 146096 = ((r / 146096 : Nat) : Int) := rfl
    have e6 : (r : Int) - ((r / 1460 : Nat) : Int) + ((r / 36524 : Nat) : Int) - ((r / 146096 : Nat) : Int) = ((r - r / 1460 + r / 36524 - r / 146096 : Nat) : Int) := by omega
    have e7 : ((r - r / 1460 + r / 36524 - r / 146096 : Nat) : Int).tdiv 365 = (yearN r : Nat) := rfl
    have hy : yearN r ≤ 400 := by unfold yearN; omega
    have e8 : ((yearN r : Nat) : Int).tdiv 4 = ((yearN r / 4 : Nat) : Int) := rfl
    have e9 : ((yearN r : Nat) : Int).tdiv 100 = ((yearN r / 100 : Nat) : Int) := rfl
    have e10 : (r : Int) - (((yearN r : Nat) : Int) * 365 + ((yearN r / 4 : Nat) : Int) - ((yearN r / 100 : Nat) : Int)) = (restN r : Nat) := by unfold restN; omega
    have hrest : restN r ≤ r := by unfold restN; omega
    have e11 : (5 * ((restN r : Nat) : Int) + 2) = ((5 * restN r + 2 : Nat) : Int) := by omega
    have e12 : ((5 * restN r + 2 : Nat) : Int).tdiv 153 = (monN r : Nat) := rfl
    have hmon : monN r ≤ 10000 := by unfold monN; omega
    have e13 : (153 * ((monN r : Nat) : Int) + 2) = ((153 * monN r + 2 : Nat) : Int) := by omega
    have e14 : ((153 * monN r + 2 : Nat) : Int).tdiv 5 = (((153 * monN r + 2) / 5 : Nat) : Int) := rfl
    have e15 : ((restN r : Nat) : Int) - (((153 * monN r + 2) / 5 : Nat) : Int) + 1 = (dN r : Nat) := by unfold dN; omega
    have r1 : T.tdiv 3600 = T / 3600 := Int.tdiv_eq_ediv_of_nonneg (by omega)
    have r2 : T.tdiv 60 = T / 60 := Int.tdiv_eq_ediv_of_nonneg (by omega)
    have r3 : (T / 60).tmod 60 = T / 60 % 60 := Int.tmod_eq_emod_of_nonneg (by omega)
    have r4 : T.tmod 60 = T % 60 := Int.tmod_eq_emod_of_nonneg (by omega)
    simp (disch := omega) only [c_clock_Date, ↓gaW, ↓gaC, ↓gaN, gaP, Nat.reduceEqDiff, Nat.reduceLeDiff, Nat.reduceAdd, Nat.reduceSub, Nat.reduceMul, Int.reduceLT, Int.reduceLE, Int.reduceEq, Int.reduceToNat, Int.reduceAdd, Int.reduceSub, Int.reduceMul, reduceCtorEq, ↓reduceIte, f2, f8, f9, i64_w, e0, e1, e2, hR, e3, e4, e5, e6, e7, e8, e9, e10, e11, e12, e13, e14, e15]
    have hyN : yN n ≤ 2199 := k5
    have res : ∀ {a b : Nat}, DateV s (.tuple #[.agg (List.take 6 [.int .i64 (yN n : Nat), .int .i64 (mN n : Nat), .int .i64 (dN r : Nat), .int .i64 (T / 3600), .int .i64 (T / 60 % 60), .int .i64 (T % 60)]).toArray, .bool true]) := by
      intro _ _
      rw [DateV, if_pos (by omega)]
      have hl := lastI_N (y := yN n) k6 k7
      have hd := dayC_N (y := yN n) (m := mN n) (d := dN r) (by omega) k6 k7 k8
      rw [k10'] at hd
      refine ⟨(yN n : Nat), (mN n : Nat), (dN r : Nat), T / 3600, T / 60 % 60, T % 60, ?_, ?_, rfl⟩
      · simp only [okD, inB, Bool.and_eq_true, decide_eq_true_eq, hl]; omega
      · rw [secI, hd]; omega
    have res := res (a := 0) (b := 0)
    refine condK_dec (fun hm => ?_) fun hm => ?_
    · have e16 : ((n / 146097 : Nat) : Int) * 400 + ((yearN r : Nat) : Int) + 1 = (yN n : Nat) := by rw [yN, hR, if_pos (by omega)]; omega
      have e17 : ((monN r : Nat) : Int) + 3 - 12 = (mN n : Nat) := by rw [mN, hR, if_pos (by omega)]; omega
      simp (disch := omega) only [↓gaW, ↓gaC, ↓gaN, gaP, Nat.reduceEqDiff, Nat.reduceLeDiff, Nat.reduceAdd, Nat.reduceSub, Nat.reduceMul, Int.reduceLT, Int.reduceLE, Int.reduceEq, Int.reduceToNat, Int.reduceAdd, Int.reduceSub, Int.reduceMul, reduceCtorEq, ↓reduceIte, List.getD_cons_zero, List.getD_cons_succ, fillL, splice, List.take_zero, List.drop_zero, List.drop_succ_cons, List.take_succ_cons, List.drop_nil, List.take_nil, f2, f8, f9, i64_w, e16, e17, r1, r2, r3, r4, c2]
      repeat refine And.intro (by first | omega | exact all6 _ _ _ _ _ _) ?_
      refine end_cNt (ro := false) [.int .i64 (yN n : Nat), .int .i64 (mN n : Nat), .int .i64 (dN r : Nat), .int .i64 (T / 3600), .int .i64 (T / 60 % 60), .int .i64 (T % 60)] f2 (by simp only [upd_e, if_true]) (by simp) ⟨rfl, by omega, fun i hi => by simp only [upd_e]; rw [if_neg (by omega), o2 i hi], ?_⟩
      exact res
    · have e16 : ((n / 146097 : Nat) : Int) * 400 + ((yearN r : Nat) : Int) = (yN n : Nat) := by rw [yN, hR, if_neg (by omega)]; omega
      have e17 : ((monN r : Nat) : Int) + 3 = (mN n : Nat) := by rw [mN, hR, if_neg (by omega)]; omega
      simp (disch := omega) only [↓gaW, ↓gaC, ↓gaN, gaP, Nat.reduceEqDiff, Nat.reduceLeDiff, Nat.reduceAdd, Nat.reduceSub, Nat.reduceMul, Int.reduceLT, Int.reduceLE, Int.reduceEq, Int.reduceToNat, Int.reduceAdd, Int.reduceSub, Int.reduceMul, reduceCtorEq, ↓reduceIte, List.getD_cons_zero, List.getD_cons_succ, fillL, splice, List.take_zero, List.drop_zero, List.drop_succ_cons, List.take_succ_cons, List.drop_nil, List.take_nil, f2, f8, f9, i64_w, e16, e17, r1, r2, r3, r4, c2]
      repeat refine And.intro (by first | omega | exact all6 _ _ _ _ _ _) ?_
      refine end_cNt (ro := false) [.int .i64 (yN n : Nat), .int .i64 (mN n : Nat), .int .i64 (dN r : Nat), .int .i64 (T / 3600), .int .i64 (T / 60 % 60), .int .i64 (T % 60)] f2 (by simp only [upd_e, if_true]) (by simp) ⟨rfl, by omega, fun i hi => by simp only [upd_e]; rw [if_neg (by omega), o2 i hi], ?_⟩
      exact res
  simp only [↓gaW, ↓gaN, gaP, Nat.reduceEqDiff, Nat.reduceLeDiff, Nat.reduceAdd, Nat.reduceSub, Nat.reduceMul, Int.reduceLT, Int.reduceLE, Int.reduceEq, Int.reduceToNat, Int.reduceAdd, Int.reduceSub, Int.reduceMul, reduceCtorEq, ↓reduceIte, a0, a1, decide_false, hq, ht, i64_w q (by omega)]
  refine And.intro (by omega) (And.intro (by omega) ?_)
  refine condK_of (fun h => by simp at h) fun _ => ?_
  simp only [↓gaW, ↓gaN, gaP, Nat.reduceEqDiff, Nat.reduceLeDiff, Nat.reduceAdd, Nat.reduceSub, Nat.reduceMul, Int.reduceLT, Int.reduceLE, Int.reduceEq, Int.reduceToNat, Int.reduceAdd, Int.reduceSub, Int.reduceMul, reduceCtorEq, ↓reduceIte, hq, ht, i64_w q (by omega)]
  repeat refine And.intro (by omega) ?_
  refine condK_dec (fun hneg => ?_) fun hpos => ?_
  · simp only [↓gaW, ↓gaC, gaP, Nat.reduceEqDiff, Nat.reduceLeDiff, Nat.reduceAdd, Nat.reduceSub, Nat.reduceMul, Int.reduceLT, Int.reduceLE, Int.reduceEq, Int.reduceToNat, Int.reduceAdd, Int.reduceSub, Int.reduceMul, reduceCtorEq, ↓reduceIte, i64_w (q - 1) (by omega), i64_w (t + 86400) (by omega)]
    rw [D_thn_n]
    refine fin (q - 1 + 719468).toNat (t + 86400) (by omega) (by omega) (by omega) (by omega) (by omega) _ rfl ?_ rfl
    simp only [↓gaW, ↓gaC, ↓gaN, gaP, Nat.reduceEqDiff, Nat.reduceLeDiff, Nat.reduceAdd, Nat.reduceSub, Nat.reduceMul, Int.reduceLT, Int.reduceLE, Int.reduceEq, Int.reduceToNat, Int.reduceAdd, Int.reduceSub, Int.reduceMul, reduceCtorEq, ↓reduceIte]; congr 1; omega
  · rw [vc_skip, D_thn_n]
    refine fin (q + 719468).toNat t (by omega) (by omega) (by omega) (by omega) (by omega) _ rfl ?_ rfl
    simp only [↓gaW, ↓gaC, ↓gaN, gaP, Nat.reduceEqDiff, Nat.reduceLeDiff, Nat.reduceAdd, Nat.reduceSub, Nat.reduceMul, Int.reduceLT, Int.reduceLE, Int.reduceEq, Int.reduceToNat, Int.reduceAdd, Int.reduceSub, Int.reduceMul, reduceCtorEq, ↓reduceIte]; congr 1; omega
end Go.Ga

namespace Go.Ga
open Go Go.Proofs
set_option linter.unusedSimpArgs false
set_option linter.unusedVariables false
set_option maxRecDepth 100000

/-! ### Moments are ordered as their seconds are -/
theorem okD_e {d0 d1 d2 d3 d4 d5 : Int} (h : okD d0 d1 d2 d3 d4 d5 = true) : 1950 ≤ d0 ∧ d0 ≤ 2199 ∧ 1 ≤ d1 ∧ d1 ≤ 12 ∧ 1 ≤ d2 ∧ d2 ≤ lastI d0 d1 ∧ 0 ≤ d3 ∧ d3 ≤ 23 ∧ 0 ≤ d4 ∧ d4 ≤ 59 ∧ 0 ≤ d5 ∧ d5 ≤ 59 := by
  simp only [okD, inB, Bool.and_eq_true, decide_eq_true_eq] at h; omega
theorem yearsR_le {k j : Nat} (h : k ≤ j) : yearsR k ≤ yearsR j := by
  induction h with
  | refl => exact Int.le_refl _
  | step h ih => exact Int.le_trans ih (by rw [yearsR]; split <;> omega)
theorem monthsR_le (y : Int) {k j : Nat} (h : k ≤ j) : j ≤ 12 → monthsR y k ≤ monthsR y j := by
  induction h with
  | refl => intro _; exact Int.le_refl _
  | @step m h ih =>
    intro hj
    have := ih (by omega)
    have := lastI_bd (y := y) (m := (m : Nat) + 1) (by omega) (by omega)
    rw [monthsR]; omega

theorem dayR_lt {y m d y' m' d' : Int} (hy : 1950 ≤ y) (hm : 1 ≤ m ∧ m ≤ 12) (hd : 1 ≤ d ∧ d ≤ lastI y m) (hm' : 1 ≤ m' ∧ m' ≤ 12) (hd' : 1 ≤ d') (h : y < y' ∨ y = y' ∧ (m < m' ∨ m = m' ∧ d < d')) : dayR y m d < dayR y' m' d' := by
  obtain ⟨k, rfl⟩ : ∃ k : Nat, y = 1950 + (k : Nat) := ⟨(y - 1950).toNat, by omega⟩
  obtain ⟨j, rfl⟩ : ∃ j : Nat, m = (j : Nat) + 1 := ⟨(m - 1).toNat, by omega⟩
  obtain ⟨k', rfl⟩ : ∃ k : Nat, y' = 1950 + (k : Nat) := ⟨(y' - 1950).toNat, by omega⟩
  obtain ⟨j', rfl⟩ : ∃ j : Nat, m' = (j : Nat) + 1 := ⟨(m' - 1).toNat, by omega⟩
  have e1 : (1950 + (k : Int) - 1950).toNat = k := by omega
  have e2 : (1950 + (k' : Int) - 1950).toNat = k' := by omega
  have e3 : ((j : Int) + 1 - 1).toNat = j := by omega
  have e4 : ((j' : Int) + 1 - 1).toNat = j' := by omega
  rw [dayR, dayR, e1, e2, e3, e4]
  have s1 : monthsR (1950 + (k : Nat)) (j + 1) = monthsR (1950 + (k : Nat)) j + lastI (1950 + (k : Nat)) ((j : Nat) + 1) := rfl
  rcases h with h | ⟨h, h2⟩
  · have a1 := monthsR_le (1950 + (k : Nat)) (k := j + 1) (j := 12) (by omega) (by omega)
    have a2 := months_year k
    have a3 := yearsR_le (k := k + 1) (j := k') (by omega)
    have a4 := (monthsR_bd (1950 + (k' : Nat)) j' (by omega)).1
    omega
  · have hk : k = k' := by omega
    subst hk
    rcases h2 with h2 | ⟨h2, h3⟩
    · have a1 := monthsR_le (1950 + (k : Nat)) (k := j + 1) (j := j') (by omega) (by omega)
      omega
    · have hj : j = j' := by omega
      subst hj
      omega

/-- The one moment is ahead of the other one. -/
def Lt6 (a0 a1 a2 a3 a4 a5 b0 b1 b2 b3 b4 b5 : Int) : Prop := a0 < b0 ∨ a0 = b0 ∧ (a1 < b1 ∨ a1 = b1 ∧ (a2 < b2 ∨ a2 = b2 ∧ (a3 < b3 ∨ a3 = b3 ∧ (a4 < b4 ∨ a4 = b4 ∧ a5 < b5))))

theorem sec_lt {a0 a1 a2 a3 a4 a5 b0 b1 b2 b3 b4 b5 : Int} (ha : okD a0 a1 a2 a3 a4 a5 = true) (hb : okD b0 b1 b2 b3 b4 b5 = true) (h : Lt6 a0 a1 a2 a3 a4 a5 b0 b1 b2 b3 b4 b5) : secI a0 a1 a2 a3 a4 a5 < secI b0 b1 b2 b3 b4 b5 := by
  have ha := okD_e ha
  have hb := okD_e hb
  rw [secI, secI, dayC_eq (by omega) (by omega), dayC_eq (by omega) (by omega)]
  by_cases hd : a0 = b0 ∧ a1 = b1 ∧ a2 = b2
  · obtain ⟨rfl, rfl, rfl⟩ := hd
    unfold Lt6 at h; omega
  · have := dayR_lt (y := a0) (m := a1) (d := a2) (y' := b0) (m' := b1) (d' := b2) (by omega) (by omega) (by omega) (by omega) (by omega) (by unfold Lt6 at h; omega)
    omega

theorem lt6_tri (a0 a1 a2 a3 a4 a5 b0 b1 b2 b3 b4 b5 : Int) : Lt6 a0 a1 a2 a3 a4 a5 b0 b1 b2 b3 b4 b5 ∨ (a0 = b0 ∧ a1 = b1 ∧ a2 = b2 ∧ a3 = b3 ∧ a4 = b4 ∧ a5 = b5) ∨ Lt6 b0 b1 b2 b3 b4 b5 a0 a1 a2 a3 a4 a5 := by
  unfold Lt6; omega

theorem sec_inj {a0 a1 a2 a3 a4 a5 b0 b1 b2 b3 b4 b5 : Int} (ha : okD a0 a1 a2 a3 a4 a5 = true) (hb : okD b0 b1 b2 b3 b4 b5 = true) (h : secI a0 a1 a2 a3 a4 a5 = secI b0 b1 b2 b3 b4 b5) : a0 = b0 ∧ a1 = b1 ∧ a2 = b2 ∧ a3 = b3 ∧ a4 = b4 ∧ a5 = b5 := by
  rcases lt6_tri a0 a1 a2 a3 a4 a5 b0 b1 b2 b3 b4 b5 with h1 | h1 | h1
  · have := sec_lt ha hb h1; omega
  · exact h1
  · have := sec_lt hb ha h1; omega

theorem sec_range {a0 a1 a2 a3 a4 a5 : Int} (ha : okD a0 a1 a2 a3 a4 a5 = true) : -631152000 ≤ secI a0 a1 a2 a3 a4 a5 ∧ secI a0 a1 a2 a3 a4 a5 ≤ 7258118399 := by
  have e1 : secI 1950 1 1 0 0 0 = -631152000 := by decide +kernel
  have e2 : secI 2199 12 31 23 59 59 = 7258118399 := by decide +kernel
  have hl := okD_e ha
  have h1 : okD 1950 1 1 0 0 0 = true := by decide +kernel
  have h2 : okD 2199 12 31 23 59 59 = true := by decide +kernel
  constructor
  · rcases lt6_tri 1950 1 1 0 0 0 a0 a1 a2 a3 a4 a5 with h | ⟨rfl, rfl, rfl, rfl, rfl, rfl⟩ | h
    · have := sec_lt h1 ha h; omega
    · omega
    · unfold Lt6 at h; omega
  · rcases lt6_tri a0 a1 a2 a3 a4 a5 2199 12 31 23 59 59 with h | ⟨rfl, rfl, rfl, rfl, rfl, rfl⟩ | h
    · have := sec_lt ha h2 h; omega
    · omega
    · have h3 := lastI_bd (y := a0) (m := a1) (by omega) (by omega)
      unfold Lt6 at h; omega

/-- Two answers of 'Date' to the same seconds are the same. -/
theorem DateV_one {s : Int} {v w : Value} (hv : DateV s v) (hw : DateV s w) : v = w := by
  unfold DateV at hv hw
  split at hv
  · rename_i hs
    rw [if_pos hs] at hw
    obtain ⟨d0, d1, d2, d3, d4, d5, h1, h2, rfl⟩ := hv
    obtain ⟨e0, e1, e2, e3, e4, e5, k1, k2, rfl⟩ := hw
    obtain ⟨rfl, rfl, rfl, rfl, rfl, rfl⟩ := sec_inj h1 k1 (h2.trans k2.symm)
    rfl
  · rename_i hs
    rw [if_neg hs] at hw
    rw [hv, hw]

/-! ### A moment's digits -/
def dg (n : Nat) : UInt8 := UInt8.ofNat (48 + n % 10)
def d2 (n : Nat) : List UInt8 := [dg (n / 10), dg n]
def tailL (d1 d2' d3 d4 d5 : Nat) : List UInt8 := d2 d1 ++ (d2 d2' ++ (d2 d3 ++ (d2 d4 ++ (d2 d5 ++ [90]))))
def shortL (d0 d1 d2' d3 d4 d5 : Nat) : List UInt8 := d2 d0 ++ tailL d1 d2' d3 d4 d5
def longL (d0 d1 d2' d3 d4 d5 : Nat) : List UInt8 := d2 (d0 / 100) ++ shortL d0 d1 d2' d3 d4 d5
theorem dg_nat (n : Nat) : (dg n).toNat = 48 + n % 10 := by
  rw [dg, UInt8.toNat_ofNat']; omega
theorem dgV (n : Nat) : u8V (dg n) = .int .u8 (48 + ((n % 10 : Nat) : Int)) := by
  rw [u8V, dg_nat]; congr 1
end Go.Ga

namespace Go.Ga
open Go Go.Proofs
set_option linter.unusedSimpArgs false
set_option linter.unusedVariables false
set_option maxRecDepth 100000

/-- What 'digits' answers. -/
def DigV (nx : Nat) (gt : Nat → Option Blk) (s : Int) (v : Value) : Prop :=
  if -631152000 ≤ s ∧ s ≤ 7258118399 then ∃ d0 d1 d2 d3 d4 d5 : Nat, okD d0 d1 d2 d3 d4 d5 = true ∧ secI d0 d1 d2 d3 d4 d5 = s ∧ ∃ sl, v = .tuple #[sl, .int .i64 d0, .bool true] ∧ BySl nx gt sl (longL d0 d1 d2 d3 d4 d5)
  else v = .tuple #[.slice none 0 0, .int .i64 0, .bool false]

theorem dr (n k : Nat) : ((n : Nat) : Int).tmod (k : Nat) = ((n % k : Nat) : Int) := rfl
theorem dgW (n : Nat) : IntKind.u8.wrap (IntKind.i64.wrap (48 + ((n % 10 : Nat) : Int))) = 48 + ((n % 10 : Nat) : Int) := by
  rw [i64_w _ (by omega), u8_i _ (by omega)]
def dsL (d0 d1 d2' d3 d4 d5 i : Nat) : List UInt8 := d2 (d0 / 100) ++ (d2 d0 ++ ([d1, d2', d3, d4, d5].take i).flatMap d2)

set_option maxHeartbeats 1000000 in
theorem ct_digits {nx : Nat} {gt : Nat → Option Blk} {s : Int} (hs : -9223372036854775808 ≤ s ∧ s ≤ 9223372036854775807) :
    Ct Tryd.prog 87 [.int .i64 s] nx gt fun v nx' gt' => DigV nx' gt' s v := by
  refine Ct.ofT hmx r_clock_digits (by simp [c_clock_digits]) fun b hb => ?_
  simp only [c_clock_digits, ↓gaW, ↓gaV, ↓gaC, ↓gaN, gaP, Nat.reduceEqDiff, Nat.reduceLeDiff, Nat.reduceAdd, Nat.reduceSub, Nat.reduceMul, Int.reduceLT, Int.reduceLE, Int.reduceEq, Int.reduceToNat, Int.reduceAdd, Int.reduceSub, Int.reduceMul, reduceCtorEq, ↓reduceIte, List.getD_cons_zero, List.getD_cons_succ, fillL, splice, List.take_zero, List.drop_zero, List.drop_succ_cons, List.take_succ_cons, List.drop_nil, List.take_nil]
  refine callK_of (ct_Date hs) (fun v n1 g1 l1 k1 hC => ?_) hb
  by_cases hr : -631152000 ≤ s ∧ s ≤ 7258118399
  · rw [DateV, if_pos hr] at hC
    obtain ⟨e0, e1, e2, e3, e4, e5, ho, hsec, rfl⟩ := hC
    have hb6 := okD_e ho
    have hlb := lastI_bd (y := e0) (m := e1) (by omega) (by omega)
    obtain ⟨d0, rfl⟩ : ∃ n : Nat, e0 = n := ⟨e0.toNat, by omega⟩
    obtain ⟨d1, rfl⟩ : ∃ n : Nat, e1 = n := ⟨e1.toNat, by omega⟩
    obtain ⟨d2', rfl⟩ : ∃ n : Nat, e2 = n := ⟨e2.toNat, by omega⟩
    obtain ⟨d3, rfl⟩ : ∃ n : Nat, e3 = n := ⟨e3.toNat, by omega⟩
    obtain ⟨d4, rfl⟩ : ∃ n : Nat, e4 = n := ⟨e4.toNat, by omega⟩
    obtain ⟨d5, rfl⟩ : ∃ n : Nat, e5 = n := ⟨e5.toNat, by omega⟩
    have q1 : ((d0 : Nat) : Int).tdiv 1000 = ((d0 / 100 / 10 % 10 : Nat) : Int) := by rw [Nat.mod_eq_of_lt (by omega), Nat.div_div_eq_div_mul]; rfl
    have q2 : ((d0 : Nat) : Int).tdiv 100 = ((d0 / 100 : Nat) : Int) := rfl
    have q3 : ((d0 : Nat) : Int).tdiv 10 = ((d0 / 10 : Nat) : Int) := rfl
    have q4 : ((d0 : Nat) : Int).tmod 10 = ((d0 % 10 : Nat) : Int) := rfl
    have q5 : ((d0 / 100 : Nat) : Int).tmod 10 = ((d0 / 100 % 10 : Nat) : Int) := rfl
    have q6 : ((d0 / 10 : Nat) : Int).tmod 10 = ((d0 / 10 % 10 : Nat) : Int) := rfl
    simp only [↓gaW, ↓gaV, ↓gaC, ↓gaN, gaP, Nat.reduceEqDiff, Nat.reduceLeDiff, Nat.reduceAdd, Nat.reduceSub, Nat.reduceMul, Int.reduceLT, Int.reduceLE, Int.reduceEq, Int.reduceToNat, Int.reduceAdd, Int.reduceSub, Int.reduceMul, reduceCtorEq, ↓reduceIte, List.getD_cons_zero, List.getD_cons_succ, fillL, splice, List.take_zero, List.drop_zero, List.drop_succ_cons, List.take_succ_cons, List.drop_nil, List.take_nil, q1, q2, q3, q4, q5, q6, i64_w ((d0 / 100 : Nat) : Int) (by omega), i64_w ((d0 / 10 : Nat) : Int) (by omega), i64_w ((d0 / 100 / 10 % 10 : Nat) : Int) (by omega), dgW, ← dgV]
    have all6 : ∀ v ∈ [Value.int .i64 (d0 : Nat), .int .i64 (d1 : Nat), .int .i64 (d2' : Nat), .int .i64 (d3 : Nat), .int .i64 (d4 : Nat), .int .i64 (d5 : Nat)], cellVal v = true := by
      intro v hv
      simp only [List.mem_cons, List.not_mem_nil, or_false] at hv
      rcases hv with rfl | rfl | rfl | rfl | rfl | rfl <;> rfl
    repeat refine And.intro (by first | omega | exact all6) ?_
    have fp : ∀ i, i < 5 → dsL d0 d1 d2' d3 d4 d5 (i + 1) = dsL d0 d1 d2' d3 d4 d5 i ++ d2 ([d1, d2', d3, d4, d5].getD i 0) := by
      intro i hi
      rcases i with _ | _ | _ | _ | _ | i <;> first | rfl | omega
    have hcell : ∀ i, i < 5 → ([Value.int .i64 (d0 : Nat), .int .i64 (d1 : Nat), .int .i64 (d2' : Nat), .int .i64 (d3 : Nat), .int .i64 (d4 : Nat), .int .i64 (d5 : Nat)] : List Value).getD (1 + i) undef = .int .i64 (([d1, d2', d3, d4, d5].getD i 0 : Nat) : Int) := by
      intro i hi
      rcases i with _ | _ | _ | _ | _ | i <;> first | rfl | omega
    have hbd : ∀ i, i < 5 → [d1, d2', d3, d4, d5].getD i 0 < 100 := by
      intro i hi
      rcases i with _ | _ | _ | _ | _ | i <;> simp only [List.getD_cons_zero, List.getD_cons_succ] <;> omega
    have hlen : ∀ i, i ≤ 5 → (dsL d0 d1 d2' d3 d4 d5 i).length = 4 + 2 * i := by
      intro i hi
      rcases i with _ | _ | _ | _ | _ | _ | i <;> first | rfl | omega
    refine loop_of (fun j f m => ∃ (i x : Nat) (g : Nat → Option Blk) (A : Option Addr), j = 5 - i ∧ i ≤ 5 ∧ f 5 = .pointer (some ⟨n1, 0, none⟩) ∧ f 40 = .slice (some ⟨n1, 1, none⟩) 5 5 ∧ f 41 = .int .i64 5 ∧ f 42 = .int .i64 (i : Nat) ∧ f 7 = .slice A (4 + 2 * i) (4 + 2 * i) ∧ m = ⟨x, b, g⟩ ∧ n1 + 1 ≤ x ∧ (∀ i, i < nx → g i = gt i) ∧
      g n1 = some (.cells [.int .i64 (d0 : Nat), .int .i64 (d1 : Nat), .int .i64 (d2' : Nat), .int .i64 (d3 : Nat), .int .i64 (d4 : Nat), .int .i64 (d5 : Nat)] false) ∧ Grow (n1 + 1) b x g 1 A (4 + 2 * i) ((dsL d0 d1 d2' d3 d4 d5 i).map u8V) ∧ (0 < i → Own (n1 + 1) b x g 1 A (4 + 2 * i) ((dsL d0 d1 d2' d3 d4 d5 i).map u8V))) 5
      ⟨0, n1 + 2, _, some ⟨n1 + 1, 0, none⟩, rfl, by omega, rfl, rfl, rfl, rfl, rfl, rfl, by omega, fun i hi => by simp only [upd_e]; rw [if_neg (by omega), if_neg (by omega), if_neg (by omega), k1 i hi], by simp [upd_e], Grow.lit (ro := false) (by omega) (by simp only [upd_e, if_true]; rfl) rfl, fun h => absurd h (Nat.lt_irrefl 0)⟩ ?_
    rintro j f m ⟨i, x, g, A, rfl, hi, h5, h40, h41, h42, h7, rfl, hx, hg, hgn, hgr, hown⟩
    simp only [↓gaW, ↓gaV, ↓gaC, ↓gaN, gaP, Nat.reduceEqDiff, Nat.reduceLeDiff, Nat.reduceAdd, Nat.reduceSub, Nat.reduceMul, Int.reduceLT, Int.reduceLE, Int.reduceEq, Int.reduceToNat, Int.reduceAdd, Int.reduceSub, Int.reduceMul, reduceCtorEq, ↓reduceIte, h41, h42]
    refine condK_dec (fun hlt => ?_) fun hge => ?_
    · have hi5 : i < 5 := by omega
      have hd := hbd i hi5
      obtain ⟨n, hn⟩ : ∃ n, [d1, d2', d3, d4, d5].getD i 0 = n := ⟨_, rfl⟩
      have hc := hcell i hi5
      have hf := fp i hi5
      rw [hn] at hd hc hf
      have e1 : ((n : Nat) : Int).tdiv 10 = ((n / 10 % 10 : Nat) : Int) := by rw [Nat.mod_eq_of_lt (by omega)]; rfl
      have e2 : ((n : Nat) : Int).tmod 10 = ((n % 10 : Nat) : Int) := rfl
      simp only [↓gaW, ↓gaV, ↓gaC, ↓gaN, gaP, Nat.reduceEqDiff, Nat.reduceLeDiff, Nat.reduceAdd, Nat.reduceSub, Nat.reduceMul, Int.reduceLT, Int.reduceLE, Int.reduceEq, Int.reduceToNat, Int.reduceAdd, Int.reduceSub, Int.reduceMul, reduceCtorEq, ↓reduceIte, List.getD_cons_zero, List.getD_cons_succ, fillL, splice, List.take_zero, List.drop_zero, List.drop_succ_cons, List.take_succ_cons, List.drop_nil, List.take_nil, h5, h40, h41, h42, h7, hgn, Nat.mul_one, hc, e1, e2, i64_w ((n / 10 % 10 : Nat) : Int) (by omega), dgW, ← dgV]
      repeat refine And.intro (by omega) ?_
      rw [row_new (by simp)]
      simp only [↓gaW, ↓gaV, ↓gaC, ↓gaN, gaP, Nat.reduceEqDiff, Nat.reduceLeDiff, Nat.reduceAdd, Nat.reduceSub, Nat.reduceMul, Int.reduceLT, Int.reduceLE, Int.reduceEq, Int.reduceToNat, Int.reduceAdd, Int.reduceSub, Int.reduceMul, reduceCtorEq, ↓reduceIte, List.getD_cons_zero, List.getD_cons_succ, fillL, splice, List.take_zero, List.drop_zero, List.drop_succ_cons, List.take_succ_cons, List.drop_nil, List.take_nil]
      refine grow_append (nx := n1 + 1) (hgr.keep (by omega) (fun k hk => by simp only [upd_e]; rw [if_neg (by omega)])) (by omega) (by omega) (by omega) (by omega) (by simp) (by simp [cellVal, u8V, Value.oneCell']) (by omega) (by omega) fun g' hg' how => ?_
      have e3 : (i : Int) + 1 = ((i + 1 : Nat) : Int) := by omega
      have e4 : 4 + 2 * i + 2 = 4 + 2 * (i + 1) := by omega
      have e5 : (dsL d0 d1 d2' d3 d4 d5 i).map u8V ++ [u8V (dg (n / 10)), u8V (dg n)] = (dsL d0 d1 d2' d3 d4 d5 (i + 1)).map u8V := by rw [hf, List.map_append]; rfl
      rw [e4, e5] at how
      simp only [↓gaW, ↓gaV, ↓gaC, ↓gaN, gaP, Nat.reduceEqDiff, Nat.reduceLeDiff, Nat.reduceAdd, Nat.reduceSub, Nat.reduceMul, Int.reduceLT, Int.reduceLE, Int.reduceEq, Int.reduceToNat, Int.reduceAdd, Int.reduceSub, Int.reduceMul, reduceCtorEq, ↓reduceIte, h42, e3, i64_w ((i + 1 : Nat) : Int) (by omega), e4, loopK_n]
      exact ⟨5 - (i + 1), by omega, i + 1, x + 1 + 1, g', some ⟨x + 1, 0, some 1⟩, rfl, by omega, h5, h40, h41, rfl, rfl, rfl, by omega, fun k hk => by rw [hg' k (by omega)]; simp only [upd_e]; rw [if_neg (by omega), hg k hk], by rw [hg' n1 (by omega)]; simp only [upd_e]; rw [if_neg (by omega), hgn], .inl how, fun _ => how⟩
    · have hi5 : i = 5 := by omega
      subst hi5
      simp only [↓gaW, ↓gaV, ↓gaC, ↓gaN, gaP, Nat.reduceEqDiff, Nat.reduceLeDiff, Nat.reduceAdd, Nat.reduceSub, Nat.reduceMul, Int.reduceLT, Int.reduceLE, Int.reduceEq, Int.reduceToNat, Int.reduceAdd, Int.reduceSub, Int.reduceMul, reduceCtorEq, ↓reduceIte, List.getD_cons_zero, List.getD_cons_succ, fillL, splice, List.take_zero, List.drop_zero, List.drop_succ_cons, List.take_succ_cons, List.drop_nil, List.take_nil, h5, h40, h41, h42, h7]
      refine vc_tree_same ?_
      obtain ⟨hl, ⟨_, h0⟩ | ⟨q, rfl, q1, q2, q3, q4⟩⟩ := hown (by omega)
      · omega
      have hln := hlen 5 (Nat.le_refl 5)
      obtain ⟨G, hG⟩ : ∃ G, G = upd (upd (upd g x (some (.cells [.int .u8 90] false))) q none) (x + 1) (some (.cells ((dsL d0 d1 d2' d3 d4 d5 5).map u8V ++ [.int .u8 90]) false)) := ⟨_, rfl⟩
      have hap : ∀ K, appendK 1 1 ⟨x + 1, b, upd g x (some (.cells [.int .u8 90] false))⟩ (some ⟨q, 0, some 1⟩) 14 14 1 [.int .u8 90] K =
          K (.slice (some ⟨x + 1, 0, some 1⟩) 15 15) ⟨x + 1 + 1, b, G⟩ := by
        intro K
        subst hG
        have hqx : q ≠ x := by omega
        have hr1 : rowOf ⟨x + 1, b, upd g x (some (.cells [.int .u8 90] false))⟩ (some ⟨q, 0, some 1⟩) 14 = some ((dsL d0 d1 d2' d3 d4 d5 5).map u8V) := by
          simp [rowOf, upd, hqx, q4, hln]
          exact List.take_of_length_le (by simp [hln])
        simp [appendK, hr1, upd, hqx, q4, q3, cellVal, Value.oneCell', Mem.kill, Mem.add, Mem.set]
        exact Iff.rfl
      refine ⟨fun k => if k = 2 then .slice (some ⟨x + 1, 0, some 1⟩) 15 15 else if k = 3 then .int .i64 (d0 : Nat) else if k = 4 then .bool true else botV, ⟨x + 1 + 1, b, G⟩, ?_, ?_, ?_⟩
      rotate_left 2
      · have hnx : ¬ n1 = x := by omega
        have hr1x : rowOf ⟨x + 1, b, upd g x (some (.cells [.int .u8 90] false))⟩ (some ⟨x, 0, none⟩) 1 = some [.int .u8 90] := by simp [rowOf, upd]
        have hGn : G n1 = some (.cells [.int .i64 (d0 : Nat), .int .i64 (d1 : Nat), .int .i64 (d2' : Nat), .int .i64 (d3 : Nat), .int .i64 (d4 : Nat), .int .i64 (d5 : Nat)] false) := by
          subst hG
          have h1 : ¬ n1 = x + 1 := by omega
          have h2 : ¬ n1 = q := by omega
          simp [upd, hnx, h1, h2, hgn]
        simp only [tree_s, allP_cons, allP_nil, List.getElem?_cons_zero, List.getElem?_cons_succ, Nat.reducePow, Nat.reduceOr, Option.map, t_clock_digits, ↓gaW, ↓gaV, ↓gaC, ↓gaN, gaP, Nat.reduceEqDiff, Nat.reduceLeDiff, Nat.reduceAdd, Nat.reduceSub, Nat.reduceMul, Int.reduceLT, Int.reduceLE, Int.reduceEq, Int.reduceToNat, Int.reduceAdd, Int.reduceSub, Int.reduceMul, reduceCtorEq, ↓reduceIte, List.getD_cons_zero, List.getD_cons_succ, fillL, splice, List.take_zero, List.drop_zero, List.drop_succ_cons, List.take_succ_cons, List.drop_nil, List.take_nil, h5, h7, hgn, hap, hr1x, hGn, hnx]
        repeat' refine And.intro ?_ ?_
        all_goals first
          | omega
          | rfl
          | (intro i
             rcases (show i = 2 ∨ i = 3 ∨ i = 4 ∨ (i ≠ 2 ∧ i ≠ 3 ∧ i ≠ 4) by omega) with rfl | rfl | rfl | ⟨a1, a2, a3⟩
             · exact .inl rfl
             · exact .inl rfl
             · exact .inl rfl
             · right; simp only [if_neg a1, if_neg a2, if_neg a3])
      · simp only [gaE, implies_true, Nat.le_refl, Int.sub_zero, Nat.sub_zero, Int.le_refl, true_or, or_true, ↓gaW, ↓gaV, ↓gaC, ↓gaN, gaP, Nat.reduceEqDiff, Nat.reduceLeDiff, Nat.reduceAdd, Nat.reduceSub, Nat.reduceMul, Int.reduceLT, Int.reduceLE, Int.reduceEq, Int.reduceToNat, Int.reduceAdd, Int.reduceSub, Int.reduceMul, reduceCtorEq, ↓reduceIte, Nat.reduceEqDiff]
        have e90 : (dsL d0 d1 d2' d3 d4 d5 5).map u8V ++ [.int .u8 90] = (longL d0 d1 d2' d3 d4 d5).map u8V := rfl
        rw [e90] at hG
        have hll : (longL d0 d1 d2' d3 d4 d5).length = 15 := rfl
        have hGx : G (x + 1) = some (.cells ((longL d0 d1 d2' d3 d4 d5).map u8V) false) := by subst hG; simp only [upd_e, if_true]
        refine ⟨by omega, fun k hk => by subst hG; simp only [upd_e]; rw [if_neg (by omega), if_neg (by omega), if_neg (by omega), hg k hk], ?_⟩
        rw [DigV, if_pos hr]
        exact ⟨d0, d1, d2', d3, d4, d5, ho, hsec, _, rfl, (Grow.byte (nx := 0) (b := 0) (.inl ⟨by simp [hll], .inr ⟨x + 1, rfl, by omega, by omega, by omega, hGx⟩⟩))⟩
      · exact ⟨rfl, by show x ≤ x + 1 + 1; omega, fun k hk => by
          have hk' : k < b := hk
          subst hG; show upd _ _ _ k = g k; simp only [upd_e]; rw [if_neg (by omega), if_neg (by omega), if_neg (by omega)]⟩
  · rw [DateV, if_neg hr] at hC
    subst hC
    simp only [↓gaW, ↓gaV, ↓gaC, ↓gaN, gaP, Nat.reduceEqDiff, Nat.reduceLeDiff, Nat.reduceAdd, Nat.reduceSub, Nat.reduceMul, Int.reduceLT, Int.reduceLE, Int.reduceEq, Int.reduceToNat, Int.reduceAdd, Int.reduceSub, Int.reduceMul, reduceCtorEq, ↓reduceIte, gaE, implies_true, Nat.le_refl, Int.sub_zero, Nat.sub_zero, Int.le_refl, true_or, or_true, List.getD_cons_zero, List.getD_cons_succ, fillL, splice, List.take_zero, List.drop_zero, List.drop_succ_cons, List.take_succ_cons, List.drop_nil, List.take_nil]
    repeat refine And.intro (by first | omega | simp [cellVal, Value.oneCell']) ?_
    refine ⟨fun k hk => by rw [if_neg (by omega), if_neg (by omega), k1 k hk], ?_⟩
    rw [DigV, if_neg hr]
end Go.Ga

namespace Go.Ga
open Go Go.Proofs
set_option linter.unusedSimpArgs false
set_option linter.unusedVariables false
set_option maxRecDepth 100000

/-- A moment. -/
structure D6 where
  a : Nat
  b : Nat
  c : Nat
  d : Nat
  e : Nat
  f : Nat
def D6.ok (x : D6) : Prop := okD x.a x.b x.c x.d x.e x.f = true
def D6.sec (x : D6) : Int := secI x.a x.b x.c x.d x.e x.f
def D6.long (x : D6) : List UInt8 := longL x.a x.b x.c x.d x.e x.f
def D6.short (x : D6) : List UInt8 := shortL x.a x.b x.c x.d x.e x.f
def D6.cells (x : D6) : List Value := [.int .i64 x.a, .int .i64 x.b, .int .i64 x.c, .int .i64 x.d, .int .i64 x.e, .int .i64 x.f]
def inS (s : Int) : Prop := -631152000 ≤ s ∧ s ≤ 7258118399
/-- The moment of seconds. -/
def DateO (s : Int) : Option D6 → Prop
  | some x => x.ok ∧ x.sec = s
  | none => ¬ inS s

theorem date_ex {s : Int} (hs : -9223372036854775808 ≤ s ∧ s ≤ 9223372036854775807) : ∃ o, DateO s o := by
  by_cases hr : inS s
  · obtain ⟨res, m', _, v, _, _, _, _, hC⟩ := ct_Date (nx := 0) (gt := fun _ => none) hs 0 (Nat.le_refl 0) (Nat.le_refl 0)
    have hr' : -631152000 ≤ s ∧ s ≤ 7258118399 := hr
    rw [DateV, if_pos hr'] at hC
    obtain ⟨e0, e1, e2, e3, e4, e5, ho, hsec, _⟩ := hC
    have hb := okD_e ho
    have h0 : ∀ {n : Int}, 0 ≤ n → ((n.toNat : Nat) : Int) = n := fun h => Int.toNat_of_nonneg h
    refine ⟨some ⟨e0.toNat, e1.toNat, e2.toNat, e3.toNat, e4.toNat, e5.toNat⟩, ?_, ?_⟩
    · simp only [D6.ok]; rw [h0 (by omega), h0 (by omega), h0 (by omega), h0 (by omega), h0 (by omega), h0 (by omega)]; exact ho
    · simp only [D6.sec]; rw [h0 (by omega), h0 (by omega), h0 (by omega), h0 (by omega), h0 (by omega), h0 (by omega)]; exact hsec
  · exact ⟨none, hr⟩

theorem D6.in_of {x : D6} (h : x.ok) : inS x.sec := sec_range h
theorem D6.one {x y : D6} (hx : x.ok) (hy : y.ok) (h : x.sec = y.sec) : x = y := by
  obtain ⟨h1, h2, h3, h4, h5, h6⟩ := sec_inj hx hy h
  cases x; cases y
  simp only [D6.mk.injEq]
  simp only at h1 h2 h3 h4 h5 h6
  omega

def dateT : Option D6 → Value
  | some x => .tuple #[.agg x.cells.toArray, .bool true]
  | none => .tuple #[.agg #[.int .i64 0, .int .i64 0, .int .i64 0, .int .i64 0, .int .i64 0, .int .i64 0], .bool false]
theorem dateT_of {s : Int} {o : Option D6} {v : Value} (h : DateO s o) (hv : DateV s v) : v = dateT o := by
  cases o with
  | none =>
    have h' : ¬ (-631152000 ≤ s ∧ s ≤ 7258118399) := h
    rw [DateV, if_neg h'] at hv; exact hv
  | some x =>
    have hs : -631152000 ≤ s ∧ s ≤ 7258118399 := by rw [← h.2]; exact D6.in_of h.1
    refine DateV_one hv ?_
    rw [DateV, if_pos hs]
    exact ⟨x.a, x.b, x.c, x.d, x.e, x.f, h.1, h.2, rfl⟩

section
variable {nx : Nat} {gt : Nat → Option Blk} {s : Int} {o : Option D6}
theorem ct_rDateO (hs : -9223372036854775808 ≤ s ∧ s ≤ 9223372036854775807) (h : DateO s o) : Ct Tryd.prog 88 [.int .i64 s] nx gt fun v _ _ => v = dateT o := fun b hb =>
  (ct_rDate hs b hb).mono fun _ _ _ ⟨v, h1, h2, h3, h4, h5⟩ => ⟨v, h1, h2, h3, h4, dateT_of h h5⟩
def digO (nx : Nat) (gt : Nat → Option Blk) (o : Option D6) (v : Value) : Prop := match o with
  | some x => ∃ sl, v = .tuple #[sl, .int .i64 x.a, .bool true] ∧ BySl nx gt sl x.long
  | none => v = .tuple #[.slice none 0 0, .int .i64 0, .bool false]
theorem ct_digO (hs : -9223372036854775808 ≤ s ∧ s ≤ 9223372036854775807) (h : DateO s o) : Ct Tryd.prog 87 [.int .i64 s] nx gt fun v nx' gt' => digO nx' gt' o v := fun b hb =>
  (ct_digits hs b hb).mono fun _ m' _ ⟨v, h1, h2, h3, h4, h5⟩ => ⟨v, h1, h2, h3, h4, by
    cases o with
    | none =>
      have h' : ¬ (-631152000 ≤ s ∧ s ≤ 7258118399) := h
      have h5 : DigV _ _ s v := h5
      rw [DigV, if_neg h'] at h5; exact h5
    | some x =>
      have hs : -631152000 ≤ s ∧ s ≤ 7258118399 := by rw [← h.2]; exact D6.in_of h.1
      have h5 : DigV _ _ s v := h5
      rw [DigV, if_pos hs] at h5
      obtain ⟨d0, d1, d2, d3, d4, d5, k1, k2, sl, rfl, k3⟩ := h5
      have := D6.one (x := ⟨d0, d1, d2, d3, d4, d5⟩) k1 h.1 (k2.trans h.2.symm)
      subst this
      exact ⟨sl, rfl, k3⟩⟩

def strT (l : List UInt8) : Value := .tuple #[.string ⟨l.toArray⟩, .bool true]
def noT : Value := .tuple #[.string ⟨#[]⟩, .bool false]
def longO : Option D6 → Value
  | some x => strT x.long
  | none => noT
def shortO : Option D6 → Value
  | some x => if x.a < 2050 then strT x.short else noT
  | none => noT
def textO : Option D6 → Value
  | some x => if x.a < 2050 then strT x.short else strT x.long
  | none => noT

theorem ct_Long (hs : -9223372036854775808 ≤ s ∧ s ≤ 9223372036854775807) (h : DateO s o) : Ct Tryd.prog 77 [.int .i64 s] nx gt fun v _ _ => v = longO o := by
  refine Ct.of hmx r_clock_Long (by simp [c_clock_Long]) fun b hb => ?_
  simp only [c_clock_Long, ↓gaW, ↓gaV, ↓gaC, ↓gaN, gaP, Nat.reduceEqDiff, Nat.reduceLeDiff, Nat.reduceAdd, Nat.reduceSub, Nat.reduceMul, Int.reduceLT, Int.reduceLE, Int.reduceEq, Int.reduceToNat, Int.reduceAdd, Int.reduceSub, Int.reduceMul, reduceCtorEq, ↓reduceIte]
  refine callK_of (ct_digO hs h) (fun v n1 g1 l1 k1 hC => ?_) hb
  cases o with
  | none =>
    subst hC
    have hr0 : rowOf ⟨n1, b, g1⟩ none 0 = some [] := by simp [rowOf]
    simp only [↓gaW, ↓gaV, ↓gaC, ↓gaN, gaP, Nat.reduceEqDiff, Nat.reduceLeDiff, Nat.reduceAdd, Nat.reduceSub, Nat.reduceMul, Int.reduceLT, Int.reduceLE, Int.reduceEq, Int.reduceToNat, Int.reduceAdd, Int.reduceSub, Int.reduceMul, reduceCtorEq, ↓reduceIte, gaE, implies_true, Nat.le_refl, Int.sub_zero, Nat.sub_zero, Int.le_refl, true_or, or_true, longO, noT, hr0, bytesOf]
    exact ⟨by omega, by omega, by omega, by omega, k1⟩
  | some x =>
    obtain ⟨sl, rfl, A, n, c, rfl, h1, h2, h3⟩ := hC
    simp only [↓gaW, ↓gaV, ↓gaC, ↓gaN, gaP, Nat.reduceEqDiff, Nat.reduceLeDiff, Nat.reduceAdd, Nat.reduceSub, Nat.reduceMul, Int.reduceLT, Int.reduceLE, Int.reduceEq, Int.reduceToNat, Int.reduceAdd, Int.reduceSub, Int.reduceMul, reduceCtorEq, ↓reduceIte, gaE, implies_true, Nat.le_refl, Int.sub_zero, Nat.sub_zero, Int.le_refl, true_or, or_true, longO, strT, h3.rowOf, bytesOf_map]
    exact ⟨by omega, by omega, by omega, by omega, k1⟩

theorem ct_Short (hs : -9223372036854775808 ≤ s ∧ s ≤ 9223372036854775807) (h : DateO s o) : Ct Tryd.prog 76 [.int .i64 s] nx gt fun v _ _ => v = shortO o := by
  refine Ct.of hmx r_clock_Short (by simp [c_clock_Short]) fun b hb => ?_
  simp only [c_clock_Short, ↓gaW, ↓gaV, ↓gaC, ↓gaN, gaP, Nat.reduceEqDiff, Nat.reduceLeDiff, Nat.reduceAdd, Nat.reduceSub, Nat.reduceMul, Int.reduceLT, Int.reduceLE, Int.reduceEq, Int.reduceToNat, Int.reduceAdd, Int.reduceSub, Int.reduceMul, reduceCtorEq, ↓reduceIte]
  refine callK_of (ct_digO hs h) (fun v n1 g1 l1 k1 hC => ?_) hb
  cases o with
  | none =>
    subst hC
    simp only [↓gaW, ↓gaV, ↓gaC, ↓gaN, gaP, Nat.reduceEqDiff, Nat.reduceLeDiff, Nat.reduceAdd, Nat.reduceSub, Nat.reduceMul, Int.reduceLT, Int.reduceLE, Int.reduceEq, Int.reduceToNat, Int.reduceAdd, Int.reduceSub, Int.reduceMul, reduceCtorEq, ↓reduceIte, gaE, implies_true, Nat.le_refl, Int.sub_zero, Nat.sub_zero, Int.le_refl, true_or, or_true, shortO, noT]
    exact ⟨by omega, by omega, by omega, by omega, k1⟩
  | some x =>
    obtain ⟨sl, rfl, A, n, c, rfl, h1, h2, h3⟩ := hC
    have hn : n = 15 := by rw [← h2]; rfl
    subst hn
    obtain ⟨a, ce, ro, rfl, e2, e3, e4, e5⟩ := h3.cells (by omega)
    have hp := (h3.part (lo := 2) (hi := 15) (by omega) (by omega) rfl).rowOf (b := b)
    have hsp := h3.spot a rfl
    by_cases hy : (2050 : Int) ≤ (x.a : Int)
    · simp only [↓gaW, ↓gaV, ↓gaC, ↓gaN, gaP, Nat.reduceEqDiff, Nat.reduceLeDiff, Nat.reduceAdd, Nat.reduceSub, Nat.reduceMul, Int.reduceLT, Int.reduceLE, Int.reduceEq, Int.reduceToNat, Int.reduceAdd, Int.reduceSub, Int.reduceMul, reduceCtorEq, ↓reduceIte, gaE, implies_true, Nat.le_refl, Int.sub_zero, Nat.sub_zero, Int.le_refl, true_or, or_true, shortO, hy, decide_true]
      exact ⟨by omega, by omega, by omega, by omega, k1, by rw [if_neg (by omega)]; rfl⟩
    · have hl : ((x.long.map u8V).drop 2).take (15 - 2) = x.short.map u8V := rfl
      rw [hl] at hp
      simp only [↓gaW, ↓gaV, ↓gaC, ↓gaN, gaP, Nat.reduceEqDiff, Nat.reduceLeDiff, Nat.reduceAdd, Nat.reduceSub, Nat.reduceMul, Int.reduceLT, Int.reduceLE, Int.reduceEq, Int.reduceToNat, Int.reduceAdd, Int.reduceSub, Int.reduceMul, reduceCtorEq, ↓reduceIte, gaE, implies_true, Nat.le_refl, Int.sub_zero, Nat.sub_zero, Int.le_refl, true_or, or_true, shortO, hy, decide_false, hp, bytesOf_map]
      repeat refine And.intro (by omega) ?_
      refine And.intro (by rcases hsp with h | h <;> simp [h]) ?_
      exact ⟨by omega, k1, by rw [if_pos (by omega)]; rfl⟩

theorem ct_Text (hs : -9223372036854775808 ≤ s ∧ s ≤ 9223372036854775807) (h : DateO s o) : Ct Tryd.prog 63 [.int .i64 s] nx gt fun v _ _ => v = textO o := by
  refine Ct.of hmx r_clock_Text (by simp [c_clock_Text]) fun b hb => ?_
  simp only [c_clock_Text, ↓gaW, ↓gaV, ↓gaC, ↓gaN, gaP, Nat.reduceEqDiff, Nat.reduceLeDiff, Nat.reduceAdd, Nat.reduceSub, Nat.reduceMul, Int.reduceLT, Int.reduceLE, Int.reduceEq, Int.reduceToNat, Int.reduceAdd, Int.reduceSub, Int.reduceMul, reduceCtorEq, ↓reduceIte]
  refine callK_of (ct_Short hs h) (fun v n1 g1 l1 k1 hC => ?_) hb
  have long : shortO o = noT → textO o = longO o := by
    intro h
    cases o with
    | none => rfl
    | some x =>
      simp only [shortO, textO, longO] at h ⊢
      split at h
      · simp [strT, noT] at h
      · rename_i h2; rw [if_neg h2]
  by_cases hsh : shortO o = noT
  · rw [hsh, noT] at hC
    subst hC
    simp only [↓gaW, ↓gaV, ↓gaC, ↓gaN, gaP, Nat.reduceEqDiff, Nat.reduceLeDiff, Nat.reduceAdd, Nat.reduceSub, Nat.reduceMul, Int.reduceLT, Int.reduceLE, Int.reduceEq, Int.reduceToNat, Int.reduceAdd, Int.reduceSub, Int.reduceMul, reduceCtorEq, ↓reduceIte]
    repeat refine And.intro (by omega) ?_
    refine callK_of (ct_Long hs h) (fun v n2 g2 l2 k2 hC => ?_) (by omega)
    rw [← long hsh] at hC
    cases o with
    | none =>
      subst hC
      simp only [↓gaW, ↓gaV, ↓gaC, ↓gaN, gaP, Nat.reduceEqDiff, Nat.reduceLeDiff, Nat.reduceAdd, Nat.reduceSub, Nat.reduceMul, Int.reduceLT, Int.reduceLE, Int.reduceEq, Int.reduceToNat, Int.reduceAdd, Int.reduceSub, Int.reduceMul, reduceCtorEq, ↓reduceIte, gaE, implies_true, Nat.le_refl, Int.sub_zero, Nat.sub_zero, Int.le_refl, true_or, or_true, textO, noT]
      exact ⟨by omega, by omega, by omega, fun k hk => by rw [k2 k (by omega), k1 k hk]⟩
    | some x =>
      have ht : textO (some x) = strT x.long := by
        simp only [textO]
        rw [if_neg]
        intro hlt
        simp [shortO, hlt, strT, noT] at hsh
      rw [ht, strT] at hC
      subst hC
      simp only [↓gaW, ↓gaV, ↓gaC, ↓gaN, gaP, Nat.reduceEqDiff, Nat.reduceLeDiff, Nat.reduceAdd, Nat.reduceSub, Nat.reduceMul, Int.reduceLT, Int.reduceLE, Int.reduceEq, Int.reduceToNat, Int.reduceAdd, Int.reduceSub, Int.reduceMul, reduceCtorEq, ↓reduceIte, gaE, implies_true, Nat.le_refl, Int.sub_zero, Nat.sub_zero, Int.le_refl, true_or, or_true, ht, strT]
      exact ⟨by omega, by omega, by omega, fun k hk => by rw [k2 k (by omega), k1 k hk]⟩
  · obtain ⟨x, rfl, hx⟩ : ∃ x : D6, o = some x ∧ x.a < 2050 := by
      cases o with
      | none => exact absurd rfl hsh
      | some x =>
        refine ⟨x, rfl, ?_⟩
        rcases Nat.lt_or_ge x.a 2050 with h | h
        · exact h
        · simp [shortO, Nat.not_lt.2 h] at hsh
    have e1 : shortO (some x) = strT x.short := by simp [shortO, hx]
    have e2 : textO (some x) = strT x.short := by simp [textO, hx]
    rw [e1, strT] at hC
    subst hC
    simp only [↓gaW, ↓gaV, ↓gaC, ↓gaN, gaP, Nat.reduceEqDiff, Nat.reduceLeDiff, Nat.reduceAdd, Nat.reduceSub, Nat.reduceMul, Int.reduceLT, Int.reduceLE, Int.reduceEq, Int.reduceToNat, Int.reduceAdd, Int.reduceSub, Int.reduceMul, reduceCtorEq, ↓reduceIte, gaE, implies_true, Nat.le_refl, Int.sub_zero, Nat.sub_zero, Int.le_refl, true_or, or_true, e2, strT]
    exact ⟨by omega, by omega, by omega, k1⟩
end
end Go.Ga

namespace Go.Ga
open Go Go.Proofs
set_option linter.unusedSimpArgs false
set_option linter.unusedVariables false
set_option maxRecDepth 100000

theorem ba_app (a b : List UInt8) : (⟨a.toArray⟩ : ByteArray) ++ ⟨b.toArray⟩ = ⟨(a ++ b).toArray⟩ := by
  apply ByteArray.ext; simp
theorem ba_size (a : List UInt8) : (⟨a.toArray⟩ : ByteArray).size = a.length := rfl

section
variable {nx : Nat} {gt : Nat → Option Blk} {s : Int} {o : Option D6}

theorem ct_two {n : Nat} (hn : n < 10000) : Ct Tryd.prog 89 [.int .i64 (n : Nat)] nx gt fun v _ _ => v = .string ⟨(d2 n).toArray⟩ := by
  refine Ct.of hmx r_lanyardref03_two (by simp [c_lanyardref03_two]) fun b hb => ?_
  have q1 : (n : Int).tdiv 10 = ((n / 10 : Nat) : Int) := rfl
  have q2 : ((n / 10 : Nat) : Int).tmod 10 = ((n / 10 % 10 : Nat) : Int) := rfl
  have q3 : (n : Int).tmod 10 = ((n % 10 : Nat) : Int) := rfl
  have q4 : bytesOf [Value.int .u8 (48 + ((n / 10 % 10 : Nat) : Int)), Value.int .u8 (48 + ((n % 10 : Nat) : Int))] = some (d2 n) := by
    rw [← dgV, ← dgV]; exact bytesOf_map (d2 n)
  simp only [c_lanyardref03_two, ↓gaW, ↓gaV, ↓gaC, ↓gaN, gaP, Nat.reduceEqDiff, Nat.reduceLeDiff, Nat.reduceAdd, Nat.reduceSub, Nat.reduceMul, Int.reduceLT, Int.reduceLE, Int.reduceEq, Int.reduceToNat, Int.reduceAdd, Int.reduceSub, Int.reduceMul, reduceCtorEq, ↓reduceIte, List.getD_cons_zero, List.getD_cons_succ, fillL, splice, List.take_zero, List.drop_zero, List.drop_succ_cons, List.take_succ_cons, List.drop_nil, List.take_nil, q1, q2, q3, i64_w ((n / 10 : Nat) : Int) (by omega), i64_w (48 + ((n / 10 % 10 : Nat) : Int)) (by omega), i64_w (48 + ((n % 10 : Nat) : Int)) (by omega), u8_i (48 + ((n / 10 % 10 : Nat) : Int)) (by omega), u8_i (48 + ((n % 10 : Nat) : Int)) (by omega)]
  simp only [row_new (show 2 ≤ [Value.int .u8 (48 + ((n / 10 % 10 : Nat) : Int)), Value.int .u8 (48 + ((n % 10 : Nat) : Int))].length from Nat.le_refl 2), ↓gaW, ↓gaV, ↓gaC, ↓gaN, gaP, Nat.reduceEqDiff, Nat.reduceLeDiff, Nat.reduceAdd, Nat.reduceSub, Nat.reduceMul, Int.reduceLT, Int.reduceLE, Int.reduceEq, Int.reduceToNat, Int.reduceAdd, Int.reduceSub, Int.reduceMul, reduceCtorEq, ↓reduceIte, gaE, implies_true, Nat.le_refl, Int.sub_zero, Nat.sub_zero, Int.le_refl, true_or, or_true, List.getD_cons_zero, List.getD_cons_succ, fillL, splice, List.take_zero, List.drop_zero, List.drop_succ_cons, List.take_succ_cons, List.drop_nil, List.take_nil, q4]
  exact ⟨by omega, fun k hk => by rw [if_neg (by omega)]⟩

theorem ct_behind {x : D6} (hx : x.a < 10000) (h1 : x.b < 100) (h2 : x.c < 100) (h3 : x.d < 100) (h4 : x.e < 100) (h5 : x.f < 100) :
    Ct Tryd.prog 90 [.agg x.cells.toArray] nx gt fun v _ _ => v = .string ⟨(tailL x.b x.c x.d x.e x.f).toArray⟩ := by
  refine Ct.of hmx r_lanyardref03_behind (by simp [c_lanyardref03_behind]) fun b hb => ?_
  have hF : ∀ q, q < nx → gt q = gt q := fun _ _ => rfl
  simp only [c_lanyardref03_behind, ↓gaW, ↓gaV, ↓gaC, ↓gaN, gaP, Nat.reduceEqDiff, Nat.reduceLeDiff, Nat.reduceAdd, Nat.reduceSub, Nat.reduceMul, Int.reduceLT, Int.reduceLE, Int.reduceEq, Int.reduceToNat, Int.reduceAdd, Int.reduceSub, Int.reduceMul, reduceCtorEq, ↓reduceIte, List.getD_cons_zero, List.getD_cons_succ, fillL, splice, List.take_zero, List.drop_zero, List.drop_succ_cons, List.take_succ_cons, List.drop_nil, List.take_nil, D6.cells]
  have c0 : upd gt nx (some (.cells [.int .i64 x.a, .int .i64 x.b, .int .i64 x.c, .int .i64 x.d, .int .i64 x.e, .int .i64 x.f] false)) nx = some (.cells [.int .i64 x.a, .int .i64 x.b, .int .i64 x.c, .int .i64 x.d, .int .i64 x.e, .int .i64 x.f] false) := by simp only [upd_e, if_true]
  refine And.intro (by omega) ?_
  refine callQ_of (ct_two (by omega)) (fun v n1 g1 l1 k1 hC => ?_)
  subst hC
  have c1 := (k1 nx (by omega)).trans c0
  simp only [↓gaW, ↓gaV, ↓gaC, ↓gaN, gaP, Nat.reduceEqDiff, Nat.reduceLeDiff, Nat.reduceAdd, Nat.reduceSub, Nat.reduceMul, Int.reduceLT, Int.reduceLE, Int.reduceEq, Int.reduceToNat, Int.reduceAdd, Int.reduceSub, Int.reduceMul, reduceCtorEq, ↓reduceIte, List.getD_cons_zero, List.getD_cons_succ, fillL, splice, List.take_zero, List.drop_zero, List.drop_succ_cons, List.take_succ_cons, List.drop_nil, List.take_nil, c1]
  repeat refine And.intro (by omega) ?_
  refine callQ_of (ct_two (by omega)) (fun v n2 g2 l2 k2 hC => ?_)
  subst hC
  have c2 := (k2 nx (by omega)).trans c1
  simp only [↓gaW, ↓gaV, ↓gaC, ↓gaN, gaP, Nat.reduceEqDiff, Nat.reduceLeDiff, Nat.reduceAdd, Nat.reduceSub, Nat.reduceMul, Int.reduceLT, Int.reduceLE, Int.reduceEq, Int.reduceToNat, Int.reduceAdd, Int.reduceSub, Int.reduceMul, reduceCtorEq, ↓reduceIte, List.getD_cons_zero, List.getD_cons_succ, fillL, splice, List.take_zero, List.drop_zero, List.drop_succ_cons, List.take_succ_cons, List.drop_nil, List.take_nil, c2, ba_app, ba_size]
  repeat refine And.intro (by first | omega | (simp [d2]; done)) ?_
  refine callQ_of (ct_two (by omega)) (fun v n3 g3 l3 k3 hC => ?_)
  subst hC
  have c3 := (k3 nx (by omega)).trans c2
  simp only [↓gaW, ↓gaV, ↓gaC, ↓gaN, gaP, Nat.reduceEqDiff, Nat.reduceLeDiff, Nat.reduceAdd, Nat.reduceSub, Nat.reduceMul, Int.reduceLT, Int.reduceLE, Int.reduceEq, Int.reduceToNat, Int.reduceAdd, Int.reduceSub, Int.reduceMul, reduceCtorEq, ↓reduceIte, List.getD_cons_zero, List.getD_cons_succ, fillL, splice, List.take_zero, List.drop_zero, List.drop_succ_cons, List.take_succ_cons, List.drop_nil, List.take_nil, c3, ba_app, ba_size]
  repeat refine And.intro (by first | omega | (simp [d2]; done)) ?_
  refine callQ_of (ct_two (by omega)) (fun v n4 g4 l4 k4 hC => ?_)
  subst hC
  have c4 := (k4 nx (by omega)).trans c3
  simp only [↓gaW, ↓gaV, ↓gaC, ↓gaN, gaP, Nat.reduceEqDiff, Nat.reduceLeDiff, Nat.reduceAdd, Nat.reduceSub, Nat.reduceMul, Int.reduceLT, Int.reduceLE, Int.reduceEq, Int.reduceToNat, Int.reduceAdd, Int.reduceSub, Int.reduceMul, reduceCtorEq, ↓reduceIte, List.getD_cons_zero, List.getD_cons_succ, fillL, splice, List.take_zero, List.drop_zero, List.drop_succ_cons, List.take_succ_cons, List.drop_nil, List.take_nil, c4, ba_app, ba_size]
  repeat refine And.intro (by first | omega | (simp [d2]; done)) ?_
  refine callQ_of (ct_two (by omega)) (fun v n5 g5 l5 k5 hC => ?_)
  subst hC
  have c5 := (k5 nx (by omega)).trans c4
  simp only [↓gaW, ↓gaV, ↓gaC, ↓gaN, gaP, Nat.reduceEqDiff, Nat.reduceLeDiff, Nat.reduceAdd, Nat.reduceSub, Nat.reduceMul, Int.reduceLT, Int.reduceLE, Int.reduceEq, Int.reduceToNat, Int.reduceAdd, Int.reduceSub, Int.reduceMul, reduceCtorEq, ↓reduceIte, gaE, implies_true, Nat.le_refl, Int.sub_zero, Nat.sub_zero, Int.le_refl, true_or, or_true, List.getD_cons_zero, List.getD_cons_succ, fillL, splice, List.take_zero, List.drop_zero, List.drop_succ_cons, List.take_succ_cons, List.drop_nil, List.take_nil, c5, ba_app, ba_size]
  refine ⟨by simp [d2], by simp [d2], by omega, fun k hk => ?_, ?_⟩
  · rw [k5 k (by omega), k4 k (by omega), k3 k (by omega), k2 k (by omega), k1 k (by omega)]; simp only [upd_e]; rw [if_neg (by omega)]
  · simp [tailL, List.append_assoc]

theorem D6.lim {x : D6} (h : x.ok) : 1950 ≤ x.a ∧ x.a ≤ 2199 ∧ x.b ≤ 12 ∧ x.c ≤ 31 ∧ x.d ≤ 23 ∧ x.e ≤ 59 ∧ x.f ≤ 59 ∧ 1 ≤ x.b ∧ 1 ≤ x.c := by
  have := okD_e h
  have := lastI_bd (y := x.a) (m := x.b) (by omega) (by omega)
  omega
theorem all6 (x : D6) : ∀ v ∈ x.cells, cellVal v = true := by
  intro v hv; simp only [D6.cells, List.mem_cons, List.not_mem_nil, or_false] at hv
  rcases hv with rfl | rfl | rfl | rfl | rfl | rfl <;> rfl

theorem ct_rLong (hs : -9223372036854775808 ≤ s ∧ s ≤ 9223372036854775807) (h : DateO s o) : Ct Tryd.prog 79 [.int .i64 s] nx gt fun v _ _ => v = longO o := by
  refine Ct.of hmx r_lanyardref03_Long (by simp [c_lanyardref03_Long]) fun b hb => ?_
  simp only [c_lanyardref03_Long, ↓gaW, ↓gaV, ↓gaC, ↓gaN, gaP, Nat.reduceEqDiff, Nat.reduceLeDiff, Nat.reduceAdd, Nat.reduceSub, Nat.reduceMul, Int.reduceLT, Int.reduceLE, Int.reduceEq, Int.reduceToNat, Int.reduceAdd, Int.reduceSub, Int.reduceMul, reduceCtorEq, ↓reduceIte]
  refine callK_of (ct_rDateO hs h) (fun v n1 g1 l1 k1 hC => ?_) hb
  subst hC
  cases o with
  | none =>
    simp only [↓gaW, ↓gaV, ↓gaC, ↓gaN, gaP, Nat.reduceEqDiff, Nat.reduceLeDiff, Nat.reduceAdd, Nat.reduceSub, Nat.reduceMul, Int.reduceLT, Int.reduceLE, Int.reduceEq, Int.reduceToNat, Int.reduceAdd, Int.reduceSub, Int.reduceMul, reduceCtorEq, ↓reduceIte, gaE, implies_true, Nat.le_refl, Int.sub_zero, Nat.sub_zero, Int.le_refl, true_or, or_true, List.getD_cons_zero, List.getD_cons_succ, fillL, splice, List.take_zero, List.drop_zero, List.drop_succ_cons, List.take_succ_cons, List.drop_nil, List.take_nil, longO, dateT, noT]
    refine ⟨by omega, by omega, by omega, all6 ⟨0, 0, 0, 0, 0, 0⟩, by omega, fun k hk => ?_⟩
    rw [if_neg (by omega), if_neg (by omega), k1 k hk]
  | some x =>
    have hx := D6.lim h.1
    have q1 : (x.a : Int).tdiv 100 = ((x.a / 100 : Nat) : Int) := rfl
    simp only [↓gaW, ↓gaV, ↓gaC, ↓gaN, gaP, Nat.reduceEqDiff, Nat.reduceLeDiff, Nat.reduceAdd, Nat.reduceSub, Nat.reduceMul, Int.reduceLT, Int.reduceLE, Int.reduceEq, Int.reduceToNat, Int.reduceAdd, Int.reduceSub, Int.reduceMul, reduceCtorEq, ↓reduceIte, List.getD_cons_zero, List.getD_cons_succ, fillL, splice, List.take_zero, List.drop_zero, List.drop_succ_cons, List.take_succ_cons, List.drop_nil, List.take_nil, longO, dateT, D6.cells, strT, q1, i64_w ((x.a / 100 : Nat) : Int) (by omega)]
    refine ⟨by omega, by omega, by omega, all6 x, by omega, ?_⟩
    refine callQ_of (ct_two (by omega)) (fun v n2 g2 l2 k2 hC => ?_)
    subst hC
    have c2 : g2 n1 = some (.cells x.cells false) := (k2 n1 (by omega)).trans (by simp only [upd_e, if_true, D6.cells])
    rw [D6.cells] at c2
    simp only [↓gaW, ↓gaV, ↓gaC, ↓gaN, gaP, Nat.reduceEqDiff, Nat.reduceLeDiff, Nat.reduceAdd, Nat.reduceSub, Nat.reduceMul, Int.reduceLT, Int.reduceLE, Int.reduceEq, Int.reduceToNat, Int.reduceAdd, Int.reduceSub, Int.reduceMul, reduceCtorEq, ↓reduceIte, List.getD_cons_zero, List.getD_cons_succ, fillL, splice, List.take_zero, List.drop_zero, List.drop_succ_cons, List.take_succ_cons, List.drop_nil, List.take_nil, c2]
    repeat refine And.intro (by omega) ?_
    refine callQ_of (ct_two (by omega)) (fun v n3 g3 l3 k3 hC => ?_)
    subst hC
    have c3 := (k3 n1 (by omega)).trans c2
    simp only [↓gaW, ↓gaV, ↓gaC, ↓gaN, gaP, Nat.reduceEqDiff, Nat.reduceLeDiff, Nat.reduceAdd, Nat.reduceSub, Nat.reduceMul, Int.reduceLT, Int.reduceLE, Int.reduceEq, Int.reduceToNat, Int.reduceAdd, Int.reduceSub, Int.reduceMul, reduceCtorEq, ↓reduceIte, List.getD_cons_zero, List.getD_cons_succ, fillL, splice, List.take_zero, List.drop_zero, List.drop_succ_cons, List.take_succ_cons, List.drop_nil, List.take_nil, c3, ba_app, ba_size]
    refine ⟨by simp [d2], ?_⟩
    repeat refine And.intro (by omega) ?_
    refine callQ_of (ct_behind (x := x) (by omega) (by omega) (by omega) (by omega) (by omega) (by omega)) (fun v n4 g4 l4 k4 hC => ?_)
    subst hC
    simp only [↓gaW, ↓gaV, ↓gaC, ↓gaN, gaP, Nat.reduceEqDiff, Nat.reduceLeDiff, Nat.reduceAdd, Nat.reduceSub, Nat.reduceMul, Int.reduceLT, Int.reduceLE, Int.reduceEq, Int.reduceToNat, Int.reduceAdd, Int.reduceSub, Int.reduceMul, reduceCtorEq, ↓reduceIte, gaE, implies_true, Nat.le_refl, Int.sub_zero, Nat.sub_zero, Int.le_refl, true_or, or_true, List.getD_cons_zero, List.getD_cons_succ, fillL, splice, List.take_zero, List.drop_zero, List.drop_succ_cons, List.take_succ_cons, List.drop_nil, List.take_nil, ba_app, ba_size]
    refine ⟨by simp [d2, tailL], by omega, fun k hk => ?_, ?_⟩
    · rw [k4 k (by omega), k3 k (by omega), k2 k (by omega)]; simp only [upd_e]; rw [if_neg (by omega), if_neg (by omega), k1 k hk]
    · simp [D6.long, longL, shortL, List.append_assoc]

theorem ct_rShort (hs : -9223372036854775808 ≤ s ∧ s ≤ 9223372036854775807) (h : DateO s o) : Ct Tryd.prog 78 [.int .i64 s] nx gt fun v _ _ => v = shortO o := by
  refine Ct.of hmx r_lanyardref03_Short (by simp [c_lanyardref03_Short]) fun b hb => ?_
  simp only [c_lanyardref03_Short, ↓gaW, ↓gaV, ↓gaC, ↓gaN, gaP, Nat.reduceEqDiff, Nat.reduceLeDiff, Nat.reduceAdd, Nat.reduceSub, Nat.reduceMul, Int.reduceLT, Int.reduceLE, Int.reduceEq, Int.reduceToNat, Int.reduceAdd, Int.reduceSub, Int.reduceMul, reduceCtorEq, ↓reduceIte]
  refine callK_of (ct_rDateO hs h) (fun v n1 g1 l1 k1 hC => ?_) hb
  subst hC
  cases o with
  | none =>
    simp only [↓gaW, ↓gaV, ↓gaC, ↓gaN, gaP, Nat.reduceEqDiff, Nat.reduceLeDiff, Nat.reduceAdd, Nat.reduceSub, Nat.reduceMul, Int.reduceLT, Int.reduceLE, Int.reduceEq, Int.reduceToNat, Int.reduceAdd, Int.reduceSub, Int.reduceMul, reduceCtorEq, ↓reduceIte, gaE, implies_true, Nat.le_refl, Int.sub_zero, Nat.sub_zero, Int.le_refl, true_or, or_true, List.getD_cons_zero, List.getD_cons_succ, fillL, splice, List.take_zero, List.drop_zero, List.drop_succ_cons, List.take_succ_cons, List.drop_nil, List.take_nil, shortO, dateT, noT]
    refine ⟨by omega, by omega, by omega, all6 ⟨0, 0, 0, 0, 0, 0⟩, by omega, fun k hk => ?_⟩
    rw [if_neg (by omega), if_neg (by omega), k1 k hk]
  | some x =>
    have hx := D6.lim h.1
    by_cases hy : (2049 : Int) < (x.a : Int)
    · simp only [↓gaW, ↓gaV, ↓gaC, ↓gaN, gaP, Nat.reduceEqDiff, Nat.reduceLeDiff, Nat.reduceAdd, Nat.reduceSub, Nat.reduceMul, Int.reduceLT, Int.reduceLE, Int.reduceEq, Int.reduceToNat, Int.reduceAdd, Int.reduceSub, Int.reduceMul, reduceCtorEq, ↓reduceIte, gaE, implies_true, Nat.le_refl, Int.sub_zero, Nat.sub_zero, Int.le_refl, true_or, or_true, List.getD_cons_zero, List.getD_cons_succ, fillL, splice, List.take_zero, List.drop_zero, List.drop_succ_cons, List.take_succ_cons, List.drop_nil, List.take_nil, shortO, dateT, D6.cells, noT, hy, decide_true]
      refine ⟨by omega, by omega, by omega, all6 x, by omega, by omega, fun k hk => ?_, by rw [if_neg (by omega)]⟩
      rw [if_neg (by omega), if_neg (by omega), k1 k hk]
    · simp only [↓gaW, ↓gaV, ↓gaC, ↓gaN, gaP, Nat.reduceEqDiff, Nat.reduceLeDiff, Nat.reduceAdd, Nat.reduceSub, Nat.reduceMul, Int.reduceLT, Int.reduceLE, Int.reduceEq, Int.reduceToNat, Int.reduceAdd, Int.reduceSub, Int.reduceMul, reduceCtorEq, ↓reduceIte, List.getD_cons_zero, List.getD_cons_succ, fillL, splice, List.take_zero, List.drop_zero, List.drop_succ_cons, List.take_succ_cons, List.drop_nil, List.take_nil, shortO, dateT, D6.cells, strT, hy, decide_false]
      refine ⟨by omega, by omega, by omega, all6 x, by omega, by omega, ?_⟩
      refine callQ_of (ct_two (by omega)) (fun v n2 g2 l2 k2 hC => ?_)
      subst hC
      have c2 : g2 n1 = some (.cells x.cells false) := (k2 n1 (by omega)).trans (by simp only [upd_e, if_true, D6.cells])
      rw [D6.cells] at c2
      simp only [↓gaW, ↓gaV, ↓gaC, ↓gaN, gaP, Nat.reduceEqDiff, Nat.reduceLeDiff, Nat.reduceAdd, Nat.reduceSub, Nat.reduceMul, Int.reduceLT, Int.reduceLE, Int.reduceEq, Int.reduceToNat, Int.reduceAdd, Int.reduceSub, Int.reduceMul, reduceCtorEq, ↓reduceIte, List.getD_cons_zero, List.getD_cons_succ, fillL, splice, List.take_zero, List.drop_zero, List.drop_succ_cons, List.take_succ_cons, List.drop_nil, List.take_nil, c2]
      repeat refine And.intro (by omega) ?_
      refine callK_of (ct_behind (x := x) (by omega) (by omega) (by omega) (by omega) (by omega) (by omega)) (fun v n4 g4 l4 k4 hC => ?_) (by omega)
      subst hC
      simp only [↓gaW, ↓gaV, ↓gaC, ↓gaN, gaP, Nat.reduceEqDiff, Nat.reduceLeDiff, Nat.reduceAdd, Nat.reduceSub, Nat.reduceMul, Int.reduceLT, Int.reduceLE, Int.reduceEq, Int.reduceToNat, Int.reduceAdd, Int.reduceSub, Int.reduceMul, reduceCtorEq, ↓reduceIte, gaE, implies_true, Nat.le_refl, Int.sub_zero, Nat.sub_zero, Int.le_refl, true_or, or_true, List.getD_cons_zero, List.getD_cons_succ, fillL, splice, List.take_zero, List.drop_zero, List.drop_succ_cons, List.take_succ_cons, List.drop_nil, List.take_nil, ba_app, ba_size]
      refine ⟨by simp [d2, tailL], by omega, fun k hk => ?_, ?_⟩
      · rw [k4 k (by omega), k2 k (by omega)]; simp only [upd_e]; rw [if_neg (by omega), if_neg (by omega), k1 k hk]
      · rw [if_pos (by omega)]; simp [D6.short, shortL]

theorem ct_rText (hs : -9223372036854775808 ≤ s ∧ s ≤ 9223372036854775807) (h : DateO s o) : Ct Tryd.prog 64 [.int .i64 s] nx gt fun v _ _ => v = textO o := by
  refine Ct.of hmx r_lanyardref03_Text (by simp [c_lanyardref03_Text]) fun b hb => ?_
  simp only [c_lanyardref03_Text, ↓gaW, ↓gaV, ↓gaC, ↓gaN, gaP, Nat.reduceEqDiff, Nat.reduceLeDiff, Nat.reduceAdd, Nat.reduceSub, Nat.reduceMul, Int.reduceLT, Int.reduceLE, Int.reduceEq, Int.reduceToNat, Int.reduceAdd, Int.reduceSub, Int.reduceMul, reduceCtorEq, ↓reduceIte]
  refine callK_of (ct_rShort hs h) (fun v n1 g1 l1 k1 hC => ?_) hb
  subst hC
  cases o with
  | none =>
    simp only [↓gaW, ↓gaV, ↓gaC, ↓gaN, gaP, Nat.reduceEqDiff, Nat.reduceLeDiff, Nat.reduceAdd, Nat.reduceSub, Nat.reduceMul, Int.reduceLT, Int.reduceLE, Int.reduceEq, Int.reduceToNat, Int.reduceAdd, Int.reduceSub, Int.reduceMul, reduceCtorEq, ↓reduceIte, shortO, noT]
    repeat refine And.intro (by omega) ?_
    refine callK_of (ct_rLong hs h) (fun v n2 g2 l2 k2 hC => ?_) (by omega)
    subst hC
    simp only [↓gaW, ↓gaV, ↓gaC, ↓gaN, gaP, Nat.reduceEqDiff, Nat.reduceLeDiff, Nat.reduceAdd, Nat.reduceSub, Nat.reduceMul, Int.reduceLT, Int.reduceLE, Int.reduceEq, Int.reduceToNat, Int.reduceAdd, Int.reduceSub, Int.reduceMul, reduceCtorEq, ↓reduceIte, gaE, implies_true, Nat.le_refl, Int.sub_zero, Nat.sub_zero, Int.le_refl, true_or, or_true, textO, longO, noT]
    exact ⟨by omega, by omega, by omega, fun k hk => by rw [k2 k (by omega), k1 k hk]⟩
  | some x =>
    by_cases hy : x.a < 2050
    · simp only [↓gaW, ↓gaV, ↓gaC, ↓gaN, gaP, Nat.reduceEqDiff, Nat.reduceLeDiff, Nat.reduceAdd, Nat.reduceSub, Nat.reduceMul, Int.reduceLT, Int.reduceLE, Int.reduceEq, Int.reduceToNat, Int.reduceAdd, Int.reduceSub, Int.reduceMul, reduceCtorEq, ↓reduceIte, gaE, implies_true, Nat.le_refl, Int.sub_zero, Nat.sub_zero, Int.le_refl, true_or, or_true, shortO, textO, hy, if_true, strT]
      exact ⟨by omega, by omega, by omega, k1⟩
    · simp only [↓gaW, ↓gaV, ↓gaC, ↓gaN, gaP, Nat.reduceEqDiff, Nat.reduceLeDiff, Nat.reduceAdd, Nat.reduceSub, Nat.reduceMul, Int.reduceLT, Int.reduceLE, Int.reduceEq, Int.reduceToNat, Int.reduceAdd, Int.reduceSub, Int.reduceMul, reduceCtorEq, ↓reduceIte, shortO, textO, hy, if_false, noT]
      repeat refine And.intro (by omega) ?_
      refine callK_of (ct_rLong hs h) (fun v n2 g2 l2 k2 hC => ?_) (by omega)
      subst hC
      simp only [↓gaW, ↓gaV, ↓gaC, ↓gaN, gaP, Nat.reduceEqDiff, Nat.reduceLeDiff, Nat.reduceAdd, Nat.reduceSub, Nat.reduceMul, Int.reduceLT, Int.reduceLE, Int.reduceEq, Int.reduceToNat, Int.reduceAdd, Int.reduceSub, Int.reduceMul, reduceCtorEq, ↓reduceIte, gaE, implies_true, Nat.le_refl, Int.sub_zero, Nat.sub_zero, Int.le_refl, true_or, or_true, textO, longO, strT]
      exact ⟨by omega, by omega, by omega, fun k hk => by rw [k2 k (by omega), k1 k hk]⟩
end
end Go.Ga

/- Equality of arrays of whole numbers. -/
namespace Go.Ga
open Go

def eqK (P : Program) (op : BinOp) (t : TypeId) (xs ys : Array Value) (K : Bool → Prop) : Prop :=
  xs.toList.all plain = true ∧ ys.toList.all plain = true ∧
  match pureRun P (do eqGuard op t (.tmp 0) (.tmp 0) (.agg xs) (.agg ys); binOp op t (.agg xs) (.agg ys)) with
  | some (.bool b) => K b
  | _ => False
end Go.Ga

namespace Go.Ga
open Go Go.Proofs
set_option linter.unusedSimpArgs false
set_option linter.unusedVariables false
set_option maxRecDepth 100000

section
variable {nx : Nat} {gt : Nat → Option Blk}
theorem SecV_shape (d0 d1 d2 d3 d4 d5 : Int) : ∃ a t, SecV d0 d1 d2 d3 d4 d5 = .tuple #[.int .i64 a, .bool t] := by
  unfold SecV; split <;> exact ⟨_, _, rfl⟩

/-- A date's array. -/
def arrO : Option D6 → List Int
  | some x => [x.a, x.b, x.c, x.d, x.e, x.f]
  | none => [0, 0, 0, 0, 0, 0]
end
end Go.Ga

namespace Go.Ga
open Go Go.Proofs
set_option linter.unusedSimpArgs false
set_option linter.unusedVariables false
set_option maxRecDepth 100000

/-- The number of two digits at a place; 999: they are none. -/
def pairI (L : List UInt8) (i : Nat) : Int :=
  if 48 ≤ (L.getD i 0).toNat ∧ (L.getD i 0).toNat ≤ 57 ∧ 48 ≤ (L.getD (i + 1) 0).toNat ∧ (L.getD (i + 1) 0).toNat ≤ 57 then (((L.getD i 0).toNat - 48) * 10 + ((L.getD (i + 1) 0).toNat - 48) : Nat) else 999
theorem pairI_in (L : List UInt8) (i : Nat) : 0 ≤ pairI L i ∧ (pairI L i ≤ 99 ∨ pairI L i = 999) := by
  unfold pairI; split <;> omega
def noR : Value := .tuple #[.int .i64 0, .bool false]
def yearI (L : List UInt8) : Int := if pairI L 0 < 50 then pairI L 0 + 2000 else pairI L 0 + 1900
/-- What is read of a text. -/
def readL (L : List UInt8) : Value := if L.length = 15 ∧ (L.getD 14 0).toNat = 90 then (if pairI L 0 = 999 ∨ pairI L 2 = 999 then noR else SecV (pairI L 0 * 100 + pairI L 2) (pairI L 4) (pairI L 6) (pairI L 8) (pairI L 10) (pairI L 12)) else noR
def readS (L : List UInt8) : Value := if L.length = 13 ∧ (L.getD 12 0).toNat = 90 then SecV (yearI L) (pairI L 2) (pairI L 4) (pairI L 6) (pairI L 8) (pairI L 10) else noR

section
variable {nx : Nat} {gt : Nat → Option Blk}

theorem ct_part {s : ByteArray} {i : Nat} (hi : i + 1 < s.size) (hs : s.size < 1000000) : Ct Tryd.prog 81 [.string s, .int .i64 (i : Nat)] nx gt fun v _ _ => v = .int .i64 (pairI s.data.toList i) := by
  refine Ct.of hmx r_lanyardref03_part (by simp [c_lanyardref03_part]) fun b hb => ?_
  generalize hL : s.data.toList = L
  have e0 : u8V (L.getD i 0) = .int .u8 (((L.getD i 0).toNat : Nat) : Int) := rfl
  have e1 : u8V (L.getD (i + 1) 0) = .int .u8 (((L.getD (i + 1) 0).toNat : Nat) : Int) := rfl
  have q1 : (i : Int) + 1 = ((i + 1 : Nat) : Int) := by omega
  have hx : (L.getD i 0).toNat < 256 := (L.getD i 0).toNat_lt
  have hy : (L.getD (i + 1) 0).toNat < 256 := (L.getD (i + 1) 0).toNat_lt
  simp only [pairI]
  generalize (L.getD i 0).toNat = x at e0 hx ⊢
  generalize (L.getD (i + 1) 0).toNat = y at e1 hy ⊢
  have f1 := i64_w ((i + 1 : Nat) : Int) (by omega)
  by_cases c1 : (x : Int) < 48
  · simp only [c_lanyardref03_part, ↓gaW, ↓gaV, ↓gaC, ↓gaN, gaP, Nat.reduceEqDiff, Nat.reduceLeDiff, Nat.reduceAdd, Nat.reduceSub, Nat.reduceMul, Int.reduceLT, Int.reduceLE, Int.reduceEq, Int.reduceToNat, Int.reduceAdd, Int.reduceSub, Int.reduceMul, reduceCtorEq, ↓reduceIte, gaE, implies_true, Nat.le_refl, Int.sub_zero, Nat.sub_zero, Int.le_refl, true_or, or_true, hL, Int.toNat_natCast, q1, f1, e0, e1, c1, decide_true]
    repeat refine And.intro (by omega) ?_
    rw [if_neg (by omega)]
  by_cases c2 : 57 < (x : Int)
  · simp only [c_lanyardref03_part, ↓gaW, ↓gaV, ↓gaC, ↓gaN, gaP, Nat.reduceEqDiff, Nat.reduceLeDiff, Nat.reduceAdd, Nat.reduceSub, Nat.reduceMul, Int.reduceLT, Int.reduceLE, Int.reduceEq, Int.reduceToNat, Int.reduceAdd, Int.reduceSub, Int.reduceMul, reduceCtorEq, ↓reduceIte, gaE, implies_true, Nat.le_refl, Int.sub_zero, Nat.sub_zero, Int.le_refl, true_or, or_true, hL, Int.toNat_natCast, q1, f1, e0, e1, c1, c2, decide_true, decide_false]
    repeat refine And.intro (by omega) ?_
    rw [if_neg (by omega)]
  by_cases c3 : (y : Int) < 48
  · simp only [c_lanyardref03_part, ↓gaW, ↓gaV, ↓gaC, ↓gaN, gaP, Nat.reduceEqDiff, Nat.reduceLeDiff, Nat.reduceAdd, Nat.reduceSub, Nat.reduceMul, Int.reduceLT, Int.reduceLE, Int.reduceEq, Int.reduceToNat, Int.reduceAdd, Int.reduceSub, Int.reduceMul, reduceCtorEq, ↓reduceIte, gaE, implies_true, Nat.le_refl, Int.sub_zero, Nat.sub_zero, Int.le_refl, true_or, or_true, hL, Int.toNat_natCast, q1, f1, e0, e1, c1, c2, c3, decide_true, decide_false]
    repeat refine And.intro (by omega) ?_
    rw [if_neg (by omega)]
  by_cases c4 : 57 < (y : Int)
  · simp only [c_lanyardref03_part, ↓gaW, ↓gaV, ↓gaC, ↓gaN, gaP, Nat.reduceEqDiff, Nat.reduceLeDiff, Nat.reduceAdd, Nat.reduceSub, Nat.reduceMul, Int.reduceLT, Int.reduceLE, Int.reduceEq, Int.reduceToNat, Int.reduceAdd, Int.reduceSub, Int.reduceMul, reduceCtorEq, ↓reduceIte, gaE, implies_true, Nat.le_refl, Int.sub_zero, Nat.sub_zero, Int.le_refl, true_or, or_true, hL, Int.toNat_natCast, q1, f1, e0, e1, c1, c2, c3, c4, decide_true, decide_false]
    repeat refine And.intro (by omega) ?_
    rw [if_neg (by omega)]
  have g1 := u8_i ((x : Int) - 48) (by omega)
  have g2 := u8_i ((y : Int) - 48) (by omega)
  simp only [c_lanyardref03_part, ↓gaW, ↓gaV, ↓gaC, ↓gaN, gaP, Nat.reduceEqDiff, Nat.reduceLeDiff, Nat.reduceAdd, Nat.reduceSub, Nat.reduceMul, Int.reduceLT, Int.reduceLE, Int.reduceEq, Int.reduceToNat, Int.reduceAdd, Int.reduceSub, Int.reduceMul, reduceCtorEq, ↓reduceIte, gaE, implies_true, Nat.le_refl, Int.sub_zero, Nat.sub_zero, Int.le_refl, true_or, or_true, hL, Int.toNat_natCast, q1, f1, e0, e1, c1, c2, c3, c4, decide_false, g1, g2, i64_w ((x : Int) - 48) (by omega), i64_w ((y : Int) - 48) (by omega), i64_w (((x : Int) - 48) * 10) (by omega), i64_w (((x : Int) - 48) * 10 + ((y : Int) - 48)) (by omega)]
  repeat refine And.intro (by omega) ?_
  rw [if_pos (by omega)]
  congr 1
  omega

theorem secV_no {d0 d1 d2 d3 d4 d5 : Int} (h : 2199 < d0 ∨ d1 = 999 ∨ d2 = 999 ∨ d3 = 999 ∨ d4 = 999 ∨ d5 = 999) : SecV d0 d1 d2 d3 d4 d5 = noR := by
  rw [SecV, if_neg, noR]
  intro hh
  have := okD_e hh
  have h31 := lastI_bd (y := d0) (m := d1) (by omega) (by omega)
  omega

theorem ct_rRead {s : ByteArray} {l : Bool} (hs : s.size < 1000000) : Ct Tryd.prog 68 [.string s, .bool l] nx gt fun v _ _ => v = if l = true then readL s.data.toList else readS s.data.toList := by
  refine Ct.of hmx r_lanyardref03_Read (by simp [c_lanyardref03_Read]) fun b hb => ?_
  have hlen : s.data.toList.length = s.size := by simp
  have hp := fun i (hi : i + 1 < s.size) {nx gt} => ct_part (nx := nx) (gt := gt) hi hs
  obtain ⟨L, hL⟩ : ∃ L, s.data.toList = L := ⟨_, rfl⟩
  simp only [hL] at hp hlen ⊢
  have hF : ∀ q, q < nx → gt q = gt q := fun _ _ => rfl
  have w14 := i64_w 14 (by omega)
  have w12 := i64_w 12 (by omega)
  have w10 := i64_w 10 (by omega)
  have w8 := i64_w 8 (by omega)
  have w6 := i64_w 6 (by omega)
  have w4 := i64_w 4 (by omega)
  have i0 := pairI_in L 0
  have i2 := pairI_in L 2
  cases l with
  | true =>
    simp only [if_true]
    by_cases c1 : (s.size : Int) = 15
    · have n15 : s.size = 15 := by omega
      have e14 : u8V (L.getD 14 0) = .int .u8 (((L.getD 14 0).toNat : Nat) : Int) := rfl
      by_cases c2 : ((L.getD 14 0).toNat : Int) = 90
      · have hR : readL L = if pairI L 0 = 999 ∨ pairI L 2 = 999 then noR else SecV (pairI L 0 * 100 + pairI L 2) (pairI L 4) (pairI L 6) (pairI L 8) (pairI L 10) (pairI L 12) := by rw [readL, if_pos (by omega)]
        simp only [c_lanyardref03_Read, ↓gaW, ↓gaV, ↓gaC, ↓gaN, gaP, Nat.reduceEqDiff, Nat.reduceLeDiff, Nat.reduceAdd, Nat.reduceSub, Nat.reduceMul, Int.reduceLT, Int.reduceLE, Int.reduceEq, Int.reduceToNat, Int.reduceAdd, Int.reduceSub, Int.reduceMul, reduceCtorEq, ↓reduceIte, hL, c1, e14, c2, w14, decide_true, decide_false]
        repeat refine And.intro (by omega) ?_
        refine callK_of (hp 0 (by omega)) (fun v n1 g1 l1 k1 hC => ?_) (by omega)
        subst hC
        have hF : ∀ q, q < nx → g1 q = gt q := fun q hq => (k1 q (by omega)).trans (hF q hq)
        by_cases d0 : pairI L 0 = 999
        · simp only [↓gaW, ↓gaV, ↓gaC, ↓gaN, gaP, Nat.reduceEqDiff, Nat.reduceLeDiff, Nat.reduceAdd, Nat.reduceSub, Nat.reduceMul, Int.reduceLT, Int.reduceLE, Int.reduceEq, Int.reduceToNat, Int.reduceAdd, Int.reduceSub, Int.reduceMul, reduceCtorEq, ↓reduceIte, gaE, implies_true, Nat.le_refl, Int.sub_zero, Nat.sub_zero, Int.le_refl, true_or, or_true, d0, decide_true]
          exact ⟨by omega, hF, by rw [hR, if_pos (.inl d0)]; rfl⟩
        simp only [↓gaW, ↓gaV, ↓gaC, ↓gaN, gaP, Nat.reduceEqDiff, Nat.reduceLeDiff, Nat.reduceAdd, Nat.reduceSub, Nat.reduceMul, Int.reduceLT, Int.reduceLE, Int.reduceEq, Int.reduceToNat, Int.reduceAdd, Int.reduceSub, Int.reduceMul, reduceCtorEq, ↓reduceIte, d0, decide_false]
        refine callK_of (hp 2 (by omega)) (fun v n2 g2 l2 k2 hC => ?_) (by omega)
        subst hC
        have hF : ∀ q, q < nx → g2 q = gt q := fun q hq => (k2 q (by omega)).trans (hF q hq)
        by_cases d2 : pairI L 2 = 999
        · simp only [↓gaW, ↓gaV, ↓gaC, ↓gaN, gaP, Nat.reduceEqDiff, Nat.reduceLeDiff, Nat.reduceAdd, Nat.reduceSub, Nat.reduceMul, Int.reduceLT, Int.reduceLE, Int.reduceEq, Int.reduceToNat, Int.reduceAdd, Int.reduceSub, Int.reduceMul, reduceCtorEq, ↓reduceIte, gaE, implies_true, Nat.le_refl, Int.sub_zero, Nat.sub_zero, Int.le_refl, true_or, or_true, d2, decide_true]
          exact ⟨by omega, hF, by rw [hR, if_pos (.inr d2)]; rfl⟩
        rw [if_neg (show ¬ (pairI L 0 = 999 ∨ pairI L 2 = 999) by omega)] at hR
        simp only [↓gaW, ↓gaV, ↓gaC, ↓gaN, gaP, Nat.reduceEqDiff, Nat.reduceLeDiff, Nat.reduceAdd, Nat.reduceSub, Nat.reduceMul, Int.reduceLT, Int.reduceLE, Int.reduceEq, Int.reduceToNat, Int.reduceAdd, Int.reduceSub, Int.reduceMul, reduceCtorEq, ↓reduceIte, d2, decide_false, i64_w (pairI L 0 * 100) (by omega)]
        refine callK_of (hp 2 (by omega)) (fun v n3 g3 l3 k3 hC => ?_) (by omega)
        subst hC
        have hF : ∀ q, q < nx → g3 q = gt q := fun q hq => (k3 q (by omega)).trans (hF q hq)
        simp only [↓gaW, ↓gaV, ↓gaC, ↓gaN, gaP, Nat.reduceEqDiff, Nat.reduceLeDiff, Nat.reduceAdd, Nat.reduceSub, Nat.reduceMul, Int.reduceLT, Int.reduceLE, Int.reduceEq, Int.reduceToNat, Int.reduceAdd, Int.reduceSub, Int.reduceMul, reduceCtorEq, ↓reduceIte, i64_w (pairI L 0 * 100 + pairI L 2) (by omega)]
        refine callK_of (hp 4 (by omega)) (fun v n4 g4 l4 k4 hC => ?_) (by omega)
        subst hC
        have hF : ∀ q, q < nx → g4 q = gt q := fun q hq => (k4 q (by omega)).trans (hF q hq)
        simp only [↓gaW, ↓gaV, ↓gaC, ↓gaN, gaP, Nat.reduceEqDiff, Nat.reduceLeDiff, Nat.reduceAdd, Nat.reduceSub, Nat.reduceMul, Int.reduceLT, Int.reduceLE, Int.reduceEq, Int.reduceToNat, Int.reduceAdd, Int.reduceSub, Int.reduceMul, reduceCtorEq, ↓reduceIte]
        simp only [w6]
        refine callK_of (hp 6 (by omega)) (fun v n5 g5 l5 k5 hC => ?_) (by omega)
        subst hC
        have hF : ∀ q, q < nx → g5 q = gt q := fun q hq => (k5 q (by omega)).trans (hF q hq)
        simp only [↓gaW, ↓gaV, ↓gaC, ↓gaN, gaP, Nat.reduceEqDiff, Nat.reduceLeDiff, Nat.reduceAdd, Nat.reduceSub, Nat.reduceMul, Int.reduceLT, Int.reduceLE, Int.reduceEq, Int.reduceToNat, Int.reduceAdd, Int.reduceSub, Int.reduceMul, reduceCtorEq, ↓reduceIte]
        simp only [w8]
        refine callK_of (hp 8 (by omega)) (fun v n6 g6 l6 k6 hC => ?_) (by omega)
        subst hC
        have hF : ∀ q, q < nx → g6 q = gt q := fun q hq => (k6 q (by omega)).trans (hF q hq)
        simp only [↓gaW, ↓gaV, ↓gaC, ↓gaN, gaP, Nat.reduceEqDiff, Nat.reduceLeDiff, Nat.reduceAdd, Nat.reduceSub, Nat.reduceMul, Int.reduceLT, Int.reduceLE, Int.reduceEq, Int.reduceToNat, Int.reduceAdd, Int.reduceSub, Int.reduceMul, reduceCtorEq, ↓reduceIte]
        simp only [w10]
        refine callK_of (hp 10 (by omega)) (fun v n7 g7 l7 k7 hC => ?_) (by omega)
        subst hC
        have hF : ∀ q, q < nx → g7 q = gt q := fun q hq => (k7 q (by omega)).trans (hF q hq)
        simp only [↓gaW, ↓gaV, ↓gaC, ↓gaN, gaP, Nat.reduceEqDiff, Nat.reduceLeDiff, Nat.reduceAdd, Nat.reduceSub, Nat.reduceMul, Int.reduceLT, Int.reduceLE, Int.reduceEq, Int.reduceToNat, Int.reduceAdd, Int.reduceSub, Int.reduceMul, reduceCtorEq, ↓reduceIte]
        simp only [w12]
        refine callK_of (hp 12 (by omega)) (fun v n8 g8 l8 k8 hC => ?_) (by omega)
        subst hC
        have hF : ∀ q, q < nx → g8 q = gt q := fun q hq => (k8 q (by omega)).trans (hF q hq)
        simp only [↓gaW, ↓gaV, ↓gaC, ↓gaN, gaP, Nat.reduceEqDiff, Nat.reduceLeDiff, Nat.reduceAdd, Nat.reduceSub, Nat.reduceMul, Int.reduceLT, Int.reduceLE, Int.reduceEq, Int.reduceToNat, Int.reduceAdd, Int.reduceSub, Int.reduceMul, reduceCtorEq, ↓reduceIte, List.getD_cons_zero, List.getD_cons_succ, fillL, splice, List.take_zero, List.drop_zero, List.drop_succ_cons, List.take_succ_cons, List.drop_nil, List.take_nil]
        refine callK_of ct_rSeconds (fun v n9 g9 l9 k9 hC => ?_) (by omega)
        obtain ⟨SA, ST, hsec⟩ := SecV_shape (pairI L 0 * 100 + pairI L 2) (pairI L 4) (pairI L 6) (pairI L 8) (pairI L 10) (pairI L 12)
        rw [hsec] at hC hR
        subst hC
        simp only [↓gaW, ↓gaV, ↓gaC, ↓gaN, gaP, Nat.reduceEqDiff, Nat.reduceLeDiff, Nat.reduceAdd, Nat.reduceSub, Nat.reduceMul, Int.reduceLT, Int.reduceLE, Int.reduceEq, Int.reduceToNat, Int.reduceAdd, Int.reduceSub, Int.reduceMul, reduceCtorEq, ↓reduceIte, gaE, implies_true, Nat.le_refl, Int.sub_zero, Nat.sub_zero, Int.le_refl, true_or, or_true]
        exact ⟨by omega, by omega, by omega, fun k hk => by rw [k9 k (by omega), hF k hk], by rw [hR]⟩
      · simp only [c_lanyardref03_Read, ↓gaW, ↓gaV, ↓gaC, ↓gaN, gaP, Nat.reduceEqDiff, Nat.reduceLeDiff, Nat.reduceAdd, Nat.reduceSub, Nat.reduceMul, Int.reduceLT, Int.reduceLE, Int.reduceEq, Int.reduceToNat, Int.reduceAdd, Int.reduceSub, Int.reduceMul, reduceCtorEq, ↓reduceIte, gaE, implies_true, Nat.le_refl, Int.sub_zero, Nat.sub_zero, Int.le_refl, true_or, or_true, hL, c1, e14, c2, w14, decide_true, decide_false]
        repeat refine And.intro (by omega) ?_
        rw [readL, if_neg (by omega)]; rfl
    · simp only [c_lanyardref03_Read, ↓gaW, ↓gaV, ↓gaC, ↓gaN, gaP, Nat.reduceEqDiff, Nat.reduceLeDiff, Nat.reduceAdd, Nat.reduceSub, Nat.reduceMul, Int.reduceLT, Int.reduceLE, Int.reduceEq, Int.reduceToNat, Int.reduceAdd, Int.reduceSub, Int.reduceMul, reduceCtorEq, ↓reduceIte, gaE, implies_true, Nat.le_refl, Int.sub_zero, Nat.sub_zero, Int.le_refl, true_or, or_true, c1, decide_false]
      repeat refine And.intro (by omega) ?_
      rw [readL, if_neg (by omega)]; rfl
  | false =>
    simp only [if_neg (show ¬ (false = true) by decide)]
    have i0 := pairI_in L 0
    by_cases c1 : (s.size : Int) = 13
    · have n13 : s.size = 13 := by omega
      have e12 : u8V (L.getD 12 0) = .int .u8 (((L.getD 12 0).toNat : Nat) : Int) := rfl
      by_cases c2 : ((L.getD 12 0).toNat : Int) = 90
      · have hR : readS L = SecV (yearI L) (pairI L 2) (pairI L 4) (pairI L 6) (pairI L 8) (pairI L 10) := by rw [readS, if_pos (by omega)]
        rw [yearI] at hR
        simp only [c_lanyardref03_Read, ↓gaW, ↓gaV, ↓gaC, ↓gaN, gaP, Nat.reduceEqDiff, Nat.reduceLeDiff, Nat.reduceAdd, Nat.reduceSub, Nat.reduceMul, Int.reduceLT, Int.reduceLE, Int.reduceEq, Int.reduceToNat, Int.reduceAdd, Int.reduceSub, Int.reduceMul, reduceCtorEq, ↓reduceIte, hL, c1, e12, c2, w12, decide_true, decide_false]
        repeat refine And.intro (by omega) ?_
        refine callK_of (hp 0 (by omega)) (fun v n1 g1 l1 k1 hC => ?_) (by omega)
        subst hC
        have hF : ∀ q, q < nx → g1 q = gt q := fun q hq => (k1 q (by omega)).trans (hF q hq)
        by_cases d0 : pairI L 0 < 50
        · rw [if_pos d0] at hR
          simp only [↓gaW, ↓gaV, ↓gaC, ↓gaN, gaP, Nat.reduceEqDiff, Nat.reduceLeDiff, Nat.reduceAdd, Nat.reduceSub, Nat.reduceMul, Int.reduceLT, Int.reduceLE, Int.reduceEq, Int.reduceToNat, Int.reduceAdd, Int.reduceSub, Int.reduceMul, reduceCtorEq, ↓reduceIte, d0, decide_true, i64_w (pairI L 0 + 2000) (by omega)]
          refine callK_of (hp 2 (by omega)) (fun v n4 g4 l4 k4 hC => ?_) (by omega)
          subst hC
          have hF : ∀ q, q < nx → g4 q = gt q := fun q hq => (k4 q (by omega)).trans (hF q hq)
          simp only [↓gaW, ↓gaV, ↓gaC, ↓gaN, gaP, Nat.reduceEqDiff, Nat.reduceLeDiff, Nat.reduceAdd, Nat.reduceSub, Nat.reduceMul, Int.reduceLT, Int.reduceLE, Int.reduceEq, Int.reduceToNat, Int.reduceAdd, Int.reduceSub, Int.reduceMul, reduceCtorEq, ↓reduceIte]
          simp only [w4]
          refine callK_of (hp 4 (by omega)) (fun v n5 g5 l5 k5 hC => ?_) (by omega)
          subst hC
          have hF : ∀ q, q < nx → g5 q = gt q := fun q hq => (k5 q (by omega)).trans (hF q hq)
          simp only [↓gaW, ↓gaV, ↓gaC, ↓gaN, gaP, Nat.reduceEqDiff, Nat.reduceLeDiff, Nat.reduceAdd, Nat.reduceSub, Nat.reduceMul, Int.reduceLT, Int.reduceLE, Int.reduceEq, Int.reduceToNat, Int.reduceAdd, Int.reduceSub, Int.reduceMul, reduceCtorEq, ↓reduceIte]
          simp only [w6]
          refine callK_of (hp 6 (by omega)) (fun v n6 g6 l6 k6 hC => ?_) (by omega)
          subst hC
          have hF : ∀ q, q < nx → g6 q = gt q := fun q hq => (k6 q (by omega)).trans (hF q hq)
          simp only [↓gaW, ↓gaV, ↓gaC, ↓gaN, gaP, Nat.reduceEqDiff, Nat.reduceLeDiff, Nat.reduceAdd, Nat.reduceSub, Nat.reduceMul, Int.reduceLT, Int.reduceLE, Int.reduceEq, Int.reduceToNat, Int.reduceAdd, Int.reduceSub, Int.reduceMul, reduceCtorEq, ↓reduceIte]
          simp only [w8]
          refine callK_of (hp 8 (by omega)) (fun v n7 g7 l7 k7 hC => ?_) (by omega)
          subst hC
          have hF : ∀ q, q < nx → g7 q = gt q := fun q hq => (k7 q (by omega)).trans (hF q hq)
          simp only [↓gaW, ↓gaV, ↓gaC, ↓gaN, gaP, Nat.reduceEqDiff, Nat.reduceLeDiff, Nat.reduceAdd, Nat.reduceSub, Nat.reduceMul, Int.reduceLT, Int.reduceLE, Int.reduceEq, Int.reduceToNat, Int.reduceAdd, Int.reduceSub, Int.reduceMul, reduceCtorEq, ↓reduceIte]
          simp only [w10]
          refine callK_of (hp 10 (by omega)) (fun v n8 g8 l8 k8 hC => ?_) (by omega)
          subst hC
          have hF : ∀ q, q < nx → g8 q = gt q := fun q hq => (k8 q (by omega)).trans (hF q hq)
          simp only [↓gaW, ↓gaV, ↓gaC, ↓gaN, gaP, Nat.reduceEqDiff, Nat.reduceLeDiff, Nat.reduceAdd, Nat.reduceSub, Nat.reduceMul, Int.reduceLT, Int.reduceLE, Int.reduceEq, Int.reduceToNat, Int.reduceAdd, Int.reduceSub, Int.reduceMul, reduceCtorEq, ↓reduceIte, List.getD_cons_zero, List.getD_cons_succ, fillL, splice, List.take_zero, List.drop_zero, List.drop_succ_cons, List.take_succ_cons, List.drop_nil, List.take_nil]
          refine callK_of ct_rSeconds (fun v n9 g9 l9 k9 hC => ?_) (by omega)
          obtain ⟨SA, ST, hsec⟩ := SecV_shape _ (pairI L 2) (pairI L 4) (pairI L 6) (pairI L 8) (pairI L 10)
          rw [hsec] at hC hR
          subst hC
          simp only [↓gaW, ↓gaV, ↓gaC, ↓gaN, gaP, Nat.reduceEqDiff, Nat.reduceLeDiff, Nat.reduceAdd, Nat.reduceSub, Nat.reduceMul, Int.reduceLT, Int.reduceLE, Int.reduceEq, Int.reduceToNat, Int.reduceAdd, Int.reduceSub, Int.reduceMul, reduceCtorEq, ↓reduceIte, gaE, implies_true, Nat.le_refl, Int.sub_zero, Nat.sub_zero, Int.le_refl, true_or, or_true]
          exact ⟨by omega, by omega, by omega, fun k hk => by rw [k9 k (by omega), hF k hk], by rw [hR]⟩
        · rw [if_neg d0] at hR
          simp only [↓gaW, ↓gaV, ↓gaC, ↓gaN, gaP, Nat.reduceEqDiff, Nat.reduceLeDiff, Nat.reduceAdd, Nat.reduceSub, Nat.reduceMul, Int.reduceLT, Int.reduceLE, Int.reduceEq, Int.reduceToNat, Int.reduceAdd, Int.reduceSub, Int.reduceMul, reduceCtorEq, ↓reduceIte, d0, decide_false, i64_w (pairI L 0 + 1900) (by omega)]
          refine callK_of (hp 2 (by omega)) (fun v n4 g4 l4 k4 hC => ?_) (by omega)
          subst hC
          have hF : ∀ q, q < nx → g4 q = gt q := fun q hq => (k4 q (by omega)).trans (hF q hq)
          simp only [↓gaW, ↓gaV, ↓gaC, ↓gaN, gaP, Nat.reduceEqDiff, Nat.reduceLeDiff, Nat.reduceAdd, Nat.reduceSub, Nat.reduceMul, Int.reduceLT, Int.reduceLE, Int.reduceEq, Int.reduceToNat, Int.reduceAdd, Int.reduceSub, Int.reduceMul, reduceCtorEq, ↓reduceIte]
          simp only [w4]
          refine callK_of (hp 4 (by omega)) (fun v n5 g5 l5 k5 hC => ?_) (by omega)
          subst hC
          have hF : ∀ q, q < nx → g5 q = gt q := fun q hq => (k5 q (by omega)).trans (hF q hq)
          simp only [↓gaW, ↓gaV, ↓gaC, ↓gaN, gaP, Nat.reduceEqDiff, Nat.reduceLeDiff, Nat.reduceAdd, Nat.reduceSub, Nat.reduceMul, Int.reduceLT, Int.reduceLE, Int.reduceEq, Int.reduceToNat, Int.reduceAdd, Int.reduceSub, Int.reduceMul, reduceCtorEq, ↓reduceIte]
          simp only [w6]
          refine callK_of (hp 6 (by omega)) (fun v n6 g6 l6 k6 hC => ?_) (by omega)
          subst hC
          have hF : ∀ q, q < nx → g6 q = gt q := fun q hq => (k6 q (by omega)).trans (hF q hq)
          simp only [↓gaW, ↓gaV, ↓gaC, ↓gaN, gaP, Nat.reduceEqDiff, Nat.reduceLeDiff, Nat.reduceAdd, Nat.reduceSub, Nat.reduceMul, Int.reduceLT, Int.reduceLE, Int.reduceEq, Int.reduceToNat, Int.reduceAdd, Int.reduceSub, Int.reduceMul, reduceCtorEq, ↓reduceIte]
          simp only [w8]
          refine callK_of (hp 8 (by omega)) (fun v n7 g7 l7 k7 hC => ?_) (by omega)
          subst hC
          have hF : ∀ q, q < nx → g7 q = gt q := fun q hq => (k7 q (by omega)).trans (hF q hq)
          simp only [↓gaW, ↓gaV, ↓gaC, ↓gaN, gaP, Nat.reduceEqDiff, Nat.reduceLeDiff, Nat.reduceAdd, Nat.reduceSub, Nat.reduceMul, Int.reduceLT, Int.reduceLE, Int.reduceEq, Int.reduceToNat, Int.reduceAdd, Int.reduceSub, Int.reduceMul, reduceCtorEq, ↓reduceIte]
          simp only [w10]
          refine callK_of (hp 10 (by omega)) (fun v n8 g8 l8 k8 hC => ?_) (by omega)
          subst hC
          have hF : ∀ q, q < nx → g8 q = gt q := fun q hq => (k8 q (by omega)).trans (hF q hq)
          simp only [↓gaW, ↓gaV, ↓gaC, ↓gaN, gaP, Nat.reduceEqDiff, Nat.reduceLeDiff, Nat.reduceAdd, Nat.reduceSub, Nat.reduceMul, Int.reduceLT, Int.reduceLE, Int.reduceEq, Int.reduceToNat, Int.reduceAdd, Int.reduceSub, Int.reduceMul, reduceCtorEq, ↓reduceIte, List.getD_cons_zero, List.getD_cons_succ, fillL, splice, List.take_zero, List.drop_zero, List.drop_succ_cons, List.take_succ_cons, List.drop_nil, List.take_nil]
          refine callK_of ct_rSeconds (fun v n9 g9 l9 k9 hC => ?_) (by omega)
          obtain ⟨SA, ST, hsec⟩ := SecV_shape _ (pairI L 2) (pairI L 4) (pairI L 6) (pairI L 8) (pairI L 10)
          rw [hsec] at hC hR
          subst hC
          simp only [↓gaW, ↓gaV, ↓gaC, ↓gaN, gaP, Nat.reduceEqDiff, Nat.reduceLeDiff, Nat.reduceAdd, Nat.reduceSub, Nat.reduceMul, Int.reduceLT, Int.reduceLE, Int.reduceEq, Int.reduceToNat, Int.reduceAdd, Int.reduceSub, Int.reduceMul, reduceCtorEq, ↓reduceIte, gaE, implies_true, Nat.le_refl, Int.sub_zero, Nat.sub_zero, Int.le_refl, true_or, or_true]
          exact ⟨by omega, by omega, by omega, fun k hk => by rw [k9 k (by omega), hF k hk], by rw [hR]⟩
      · simp only [c_lanyardref03_Read, ↓gaW, ↓gaV, ↓gaC, ↓gaN, gaP, Nat.reduceEqDiff, Nat.reduceLeDiff, Nat.reduceAdd, Nat.reduceSub, Nat.reduceMul, Int.reduceLT, Int.reduceLE, Int.reduceEq, Int.reduceToNat, Int.reduceAdd, Int.reduceSub, Int.reduceMul, reduceCtorEq, ↓reduceIte, gaE, implies_true, Nat.le_refl, Int.sub_zero, Nat.sub_zero, Int.le_refl, true_or, or_true, hL, c1, e12, c2, w12, decide_true, decide_false]
        repeat refine And.intro (by omega) ?_
        rw [readS, if_neg (by omega)]; rfl
    · simp only [c_lanyardref03_Read, ↓gaW, ↓gaV, ↓gaC, ↓gaN, gaP, Nat.reduceEqDiff, Nat.reduceLeDiff, Nat.reduceAdd, Nat.reduceSub, Nat.reduceMul, Int.reduceLT, Int.reduceLE, Int.reduceEq, Int.reduceToNat, Int.reduceAdd, Int.reduceSub, Int.reduceMul, reduceCtorEq, ↓reduceIte, gaE, implies_true, Nat.le_refl, Int.sub_zero, Nat.sub_zero, Int.le_refl, true_or, or_true, c1, decide_false]
      repeat refine And.intro (by omega) ?_
      rw [readS, if_neg (by omega)]; rfl
end
end Go.Ga

namespace Go.Ga
open Go Go.Proofs
set_option linter.unusedSimpArgs false
set_option linter.unusedVariables false
set_option maxRecDepth 100000
attribute [local irreducible] appendK

theorem readL_no {L : List UInt8} {i : Nat} (hi : i < 7) (h : pairI L (2 * i) = 999) : readL L = noR := by
  rw [readL]
  split
  · split
    · rfl
    · have : i = 0 ∨ i = 1 ∨ i = 2 ∨ i = 3 ∨ i = 4 ∨ i = 5 ∨ i = 6 := by omega
      rcases this with rfl | rfl | rfl | rfl | rfl | rfl | rfl <;> simp only [Nat.reduceMul] at h <;> first | (exact secV_no (by omega)) | omega
  · rfl
theorem readS_no {L : List UInt8} {i : Nat} (hi : i < 6) (h : pairI L (2 * i) = 999) : readS L = noR := by
  rw [readS]
  split
  · have : i = 0 ∨ i = 1 ∨ i = 2 ∨ i = 3 ∨ i = 4 ∨ i = 5 := by omega
    rcases this with rfl | rfl | rfl | rfl | rfl | rfl <;> simp only [Nat.reduceMul] at h <;> refine secV_no ?_
    · rw [yearI, if_neg (by omega)]; omega
    all_goals omega
  · rfl
theorem pairI_bad {L : List UInt8} {i : Nat} (h : (L.getD i 0).toNat < 48 ∨ 57 < (L.getD i 0).toNat ∨ (L.getD (i + 1) 0).toNat < 48 ∨ 57 < (L.getD (i + 1) 0).toNat) : pairI L i = 999 := by
  rw [pairI, if_neg (by omega)]
theorem pairI_ok {L : List UInt8} {i x y : Nat} (hx : (L.getD i 0).toNat = x) (hy : (L.getD (i + 1) 0).toNat = y) (h : 48 ≤ x ∧ x ≤ 57 ∧ 48 ≤ y ∧ y ≤ 57) : pairI L i = ((x : Int) - 48) * 10 + ((y : Int) - 48) := by
  rw [pairI, hx, hy, if_pos h]; omega
def pairsV (L : List UInt8) (n : Nat) : List Value := (List.range n).map fun j => .int .i64 (pairI L (2 * j))
theorem pairsV_succ (L : List UInt8) (n : Nat) : pairsV L (n + 1) = pairsV L n ++ [.int .i64 (pairI L (2 * n))] := by simp [pairsV, List.range_succ]

theorem go_x {P : Program} {d : Option Nat} {n i : Nat} {l : List RO} {f : Regs} {m : Mem} {Q : AEx → Regs → Mem → Prop} : goOps P (⟨d, .xop (.s2a n (.t i)), none⟩ :: l) f m Q = asS (f i) fun A k c => asO A fun a => n ≤ k ∧ 0 < c ∧ goOps P l (putR f d (.pointer (some ⟨a.block, a.off, none⟩))) m Q := by
  have h : goOps P (⟨d, .xop (.s2a n (.t i)), none⟩ :: l) f m Q = XOp.vc f m (fun v m' => goOps P l (putR f d v) m' Q) (.s2a n (.t i)) := rfl
  rw [h]
  simp only [XOp.vc, Rv.ev, asS, asO]
  cases f i with
  | slice a k c => cases a <;> rfl
  | _ => rfl

section
variable {nx : Nat} {gt : Nat → Option Blk}

theorem ct_Read {s : ByteArray} {l : Bool} (hs : s.size < 1000000) : Ct Tryd.prog 65 [.string s, .bool l] nx gt fun v _ _ => v = if l = true then readL s.data.toList else readS s.data.toList := by
  refine Ct.of hmx r_clock_Read (by simp [c_clock_Read]) fun b hb => ?_
  have hlen : s.data.toList.length = s.size := by simp
  obtain ⟨L, hL⟩ : ∃ L, s.data.toList = L := ⟨_, rfl⟩
  rw [hL] at hlen ⊢
  cases l with
  | true =>
    simp only [if_true]
    have wz := i64_w 14 (by omega)
    by_cases c1 : (s.size : Int) = 15
    · have nz : s.size = 15 := by omega
      have hLm : (L.map u8V).length = 15 := by simp only [List.length_map, hlen, nz]
      have ez : u8V (L.getD 14 0) = .int .u8 (((L.getD 14 0).toNat : Nat) : Int) := rfl
      by_cases c2 : ((L.getD 14 0).toNat : Int) = 90
      · simp only [c_clock_Read, ↓gaW, ↓gaV, ↓gaC, ↓gaN, gaP, Nat.reduceEqDiff, Nat.reduceLeDiff, Nat.reduceAdd, Nat.reduceSub, Nat.reduceMul, Int.reduceLT, Int.reduceLE, Int.reduceEq, Int.reduceToNat, Int.reduceAdd, Int.reduceSub, Int.reduceMul, reduceCtorEq, ↓reduceIte, hL, c1, ez, c2, wz, decide_true, decide_false, nz]
        refine ⟨.inl trivial, ?_⟩
        refine loop_of (fun j f mm => ∃ (i x : Nat) (g : Nat → Option Blk) (Q : Option Addr), j = 7 - i ∧ i ≤ 7 ∧ f 1 = .bool true ∧ f 7 = .slice (some ⟨nx, 2 * i, none⟩) (14 - 2 * i) (14 - 2 * i) ∧ f 8 = .slice Q i i ∧ mm = ⟨x, b, g⟩ ∧ nx + 1 ≤ x ∧
            (∀ q, q < nx → g q = gt q) ∧ g nx = some (.cells (L.map u8V) false) ∧ Own (nx + 1) b x g 1 Q i (pairsV L i) ∧ ∀ j, j < i → pairI L (2 * j) ≠ 999) 7
          ⟨0, nx + 1, _, none, by omega, by omega, rfl, rfl, rfl, rfl, by omega, fun q hq => by simp only [upd_e]; rw [if_neg (by omega)], by simp only [upd_e, if_true], .nil, fun j hj => absurd hj (Nat.not_lt_zero j)⟩ ?_
        rintro j f mm ⟨i, x, g, Q, rfl, hi, h1, h7, h8, rfl, hx, hg, hgn, how, hne⟩
        by_cases hlt : (0 : Int) < ((14 - 2 * i : Nat) : Int)
        · have ea : (L.map u8V).getD (2 * i) undef = .int .u8 (((L.getD (2 * i) 0).toNat : Nat) : Int) := getD_u8 (by omega)
          have eb : (L.map u8V).getD (2 * i + 1) undef = .int .u8 (((L.getD (2 * i + 1) 0).toNat : Nat) : Int) := getD_u8 (by omega)
          have hxb : (L.getD (2 * i) 0).toNat < 256 := (L.getD (2 * i) 0).toNat_lt
          have hyb : (L.getD (2 * i + 1) 0).toNat < 256 := (L.getD (2 * i + 1) 0).toNat_lt
          obtain ⟨X, hX⟩ : ∃ X, (L.getD (2 * i) 0).toNat = X := ⟨_, rfl⟩
          obtain ⟨Y, hY⟩ : ∃ Y, (L.getD (2 * i + 1) 0).toNat = Y := ⟨_, rfl⟩
          rw [hX] at ea hxb
          rw [hY] at eb hyb
          have hbad : (X < 48 ∨ 57 < X ∨ Y < 48 ∨ 57 < Y) → readL L = noR := fun h => readL_no (show i < 7 by omega) (pairI_bad (by rw [hX, hY]; exact h))
          by_cases d1 : (X : Int) < 48
          · simp only [↓gaW, ↓gaV, ↓gaC, ↓gaN, gaP, Nat.reduceEqDiff, Nat.reduceLeDiff, Nat.reduceAdd, Nat.reduceSub, Nat.reduceMul, Int.reduceLT, Int.reduceLE, Int.reduceEq, Int.reduceToNat, Int.reduceAdd, Int.reduceSub, Int.reduceMul, reduceCtorEq, ↓reduceIte, gaE, implies_true, Nat.le_refl, Int.sub_zero, Nat.sub_zero, Int.le_refl, true_or, or_true, h1, h7, h8, hlt, hgn, ea, eb, d1, decide_true]
            repeat refine And.intro (by omega) ?_
            first | exact ⟨hg, by rw [hbad (by omega)]; rfl⟩ | (rw [hbad (by omega)]; rfl)
          by_cases d2 : 57 < (X : Int)
          · simp only [↓gaW, ↓gaV, ↓gaC, ↓gaN, gaP, Nat.reduceEqDiff, Nat.reduceLeDiff, Nat.reduceAdd, Nat.reduceSub, Nat.reduceMul, Int.reduceLT, Int.reduceLE, Int.reduceEq, Int.reduceToNat, Int.reduceAdd, Int.reduceSub, Int.reduceMul, reduceCtorEq, ↓reduceIte, gaE, implies_true, Nat.le_refl, Int.sub_zero, Nat.sub_zero, Int.le_refl, true_or, or_true, h1, h7, h8, hlt, hgn, ea, eb, d1, d2, decide_true, decide_false]
            repeat refine And.intro (by omega) ?_
            first | exact ⟨hg, by rw [hbad (by omega)]; rfl⟩ | (rw [hbad (by omega)]; rfl)
          by_cases d3 : (Y : Int) < 48
          · simp only [↓gaW, ↓gaV, ↓gaC, ↓gaN, gaP, Nat.reduceEqDiff, Nat.reduceLeDiff, Nat.reduceAdd, Nat.reduceSub, Nat.reduceMul, Int.reduceLT, Int.reduceLE, Int.reduceEq, Int.reduceToNat, Int.reduceAdd, Int.reduceSub, Int.reduceMul, reduceCtorEq, ↓reduceIte, gaE, implies_true, Nat.le_refl, Int.sub_zero, Nat.sub_zero, Int.le_refl, true_or, or_true, h1, h7, h8, hlt, hgn, ea, eb, d1, d2, d3, decide_true, decide_false]
            repeat refine And.intro (by omega) ?_
            first | exact ⟨hg, by rw [hbad (by omega)]; rfl⟩ | (rw [hbad (by omega)]; rfl)
          by_cases d4 : 57 < (Y : Int)
          · simp only [↓gaW, ↓gaV, ↓gaC, ↓gaN, gaP, Nat.reduceEqDiff, Nat.reduceLeDiff, Nat.reduceAdd, Nat.reduceSub, Nat.reduceMul, Int.reduceLT, Int.reduceLE, Int.reduceEq, Int.reduceToNat, Int.reduceAdd, Int.reduceSub, Int.reduceMul, reduceCtorEq, ↓reduceIte, gaE, implies_true, Nat.le_refl, Int.sub_zero, Nat.sub_zero, Int.le_refl, true_or, or_true, h1, h7, h8, hlt, hgn, ea, eb, d1, d2, d3, d4, decide_true, decide_false]
            repeat refine And.intro (by omega) ?_
            first | exact ⟨hg, by rw [hbad (by omega)]; rfl⟩ | (rw [hbad (by omega)]; rfl)
          have hpr := pairI_ok hX hY (by omega)
          have g1 := u8_i ((X : Int) - 48) (by omega)
          have g2 := u8_i ((Y : Int) - 48) (by omega)
          simp only [↓gaW, ↓gaV, ↓gaC, ↓gaN, gaP, Nat.reduceEqDiff, Nat.reduceLeDiff, Nat.reduceAdd, Nat.reduceSub, Nat.reduceMul, Int.reduceLT, Int.reduceLE, Int.reduceEq, Int.reduceToNat, Int.reduceAdd, Int.reduceSub, Int.reduceMul, reduceCtorEq, ↓reduceIte, h1, h7, h8, hlt, hgn, ea, eb, d1, d2, d3, d4, decide_true, decide_false, g1, g2, i64_w ((X : Int) - 48) (by omega), i64_w ((Y : Int) - 48) (by omega), i64_w (((X : Int) - 48) * 10) (by omega), i64_w (((X : Int) - 48) * 10 + ((Y : Int) - 48)) (by omega)]
          repeat refine And.intro (by omega) ?_
          have w1 : ∀ z : Int, Value.int .i64 z = Value.int .i64 z := fun _ => rfl
          simp only [List.getD_cons_zero, List.getD_cons_succ, fillL, splice, List.take_zero, List.drop_zero, List.drop_succ_cons, List.take_succ_cons, List.drop_nil, List.take_nil, ↓gaW, ↓gaV, ↓gaC, ↓gaN, gaP, Nat.reduceEqDiff, Nat.reduceLeDiff, Nat.reduceAdd, Nat.reduceSub, Nat.reduceMul, Int.reduceLT, Int.reduceLE, Int.reduceEq, Int.reduceToNat, Int.reduceAdd, Int.reduceSub, Int.reduceMul, reduceCtorEq, ↓reduceIte, row_new (show 1 ≤ [Value.int .i64 (((X : Int) - 48) * 10 + ((Y : Int) - 48))].length from Nat.le_refl 1)]
          refine own_append (nx := nx + 1) (how.keep (Nat.le_succ _) (fun p hp => by simp only [upd_e]; rw [if_neg (by omega)])) (by omega) (by omega) (by omega) (by omega) (by simp) (all1 rfl) (by omega) (by omega) fun g' hg' how' => ?_
          simp only [↓gaW, ↓gaV, ↓gaC, ↓gaN, gaP, Nat.reduceEqDiff, Nat.reduceLeDiff, Nat.reduceAdd, Nat.reduceSub, Nat.reduceMul, Int.reduceLT, Int.reduceLE, Int.reduceEq, Int.reduceToNat, Int.reduceAdd, Int.reduceSub, Int.reduceMul, reduceCtorEq, ↓reduceIte, h7, loopK_n]
          refine ⟨by omega, by omega, by omega, by simp, 7 - (i + 1), by omega, i + 1, x + 1 + 1, g', some ⟨x + 1, 0, some 1⟩, rfl, by omega, h1, ?_, rfl, rfl, by omega, ?_, ?_, ?_, ?_⟩
          · rw [show 2 * i + 2 = 2 * (i + 1) by omega, show (((14 - 2 * i : Nat) : Int) - 2).toNat = 14 - 2 * (i + 1) by omega]
          · intro p hp; rw [hg' p (by omega)]; simp only [upd_e]; rw [if_neg (by omega), hg p hp]
          · rw [hg' nx (by omega)]; simp only [upd_e]; rw [if_neg (by omega), hgn]
          · rw [pairsV_succ, hpr]; exact how'
          · intro j hj
            rcases Nat.lt_or_ge j i with h | h
            · exact hne j h
            · have : j = i := by omega
              subst this
              rw [hpr]; omega
        · have hin : i = 7 := by omega
          subst hin
          obtain ⟨q, rfl, hq1, hq2, hq3, hq4⟩ : ∃ q, Q = some ⟨q, 0, some 1⟩ ∧ nx + 1 ≤ q ∧ q < x ∧ b ≤ q ∧ g q = some (.cells (pairsV L 7) false) := by
            rcases how.2 with ⟨_, h⟩ | h
            · omega
            · exact h
          have hrow := how.row
          rw [show pairsV L 7 = [.int .i64 (pairI L 0), .int .i64 (pairI L 2), .int .i64 (pairI L 4), .int .i64 (pairI L 6), .int .i64 (pairI L 8), .int .i64 (pairI L 10), .int .i64 (pairI L 12)] from rfl] at hq4 hrow
          have i0 := pairI_in L 0
          have i2 := pairI_in L 2
          have ne0 : pairI L 0 ≠ 999 := hne 0 (by omega)
          have ne1 : pairI L 2 ≠ 999 := hne 1 (by omega)
          simp only [↓gaW, ↓gaV, ↓gaC, ↓gaN, gaP, Nat.reduceEqDiff, Nat.reduceLeDiff, Nat.reduceAdd, Nat.reduceSub, Nat.reduceMul, Int.reduceLT, Int.reduceLE, Int.reduceEq, Int.reduceToNat, Int.reduceAdd, Int.reduceSub, Int.reduceMul, reduceCtorEq, ↓reduceIte, List.getD_cons_zero, List.getD_cons_succ, fillL, splice, List.take_zero, List.drop_zero, List.drop_succ_cons, List.take_succ_cons, List.drop_nil, List.take_nil, h1, h7, h8, hlt, decide_false, loopK_e, hq4, i64_w (pairI L 0 * 100) (by omega), i64_w (pairI L 0 * 100 + pairI L 2) (by omega)]
          repeat refine And.intro (by first | omega | simp) ?_
          obtain ⟨gm, hgm⟩ : ∃ gm, upd g x (some (.cells [.int .i64 (pairI L 0 * 100 + pairI L 2)] false)) = gm := ⟨_, rfl⟩
          have hkm : ∀ p, p < x → gm p = g p := fun p hp => by rw [← hgm]; simp only [upd_e]; rw [if_neg (by omega)]
          have hgx : gm x = some (.cells [.int .i64 (pairI L 0 * 100 + pairI L 2)] false) := by rw [← hgm]; simp only [upd_e, if_true]
          rw [hgm]
          have hsrc : rowOf ⟨x + 1, x + 1, gm⟩ (some ⟨q, 2, some 1⟩) 5 = some [.int .i64 (pairI L 4), .int .i64 (pairI L 6), .int .i64 (pairI L 8), .int .i64 (pairI L 10), .int .i64 (pairI L 12)] :=
            ((Row.part (A := some ⟨q, 0, some 1⟩) (N := 7) hrow (lo := 2) (hi := 7) (by omega) (by omega) rfl).keep (Nat.le_succ _) hkm).rowOf (b := x + 1)
          have hsrcb : rowOf ⟨x + 1, b, gm⟩ (some ⟨q, 2, some 1⟩) 5 = some [.int .i64 (pairI L 4), .int .i64 (pairI L 6), .int .i64 (pairI L 8), .int .i64 (pairI L 10), .int .i64 (pairI L 12)] :=
            ((Row.part (A := some ⟨q, 0, some 1⟩) (N := 7) hrow (lo := 2) (hi := 7) (by omega) (by omega) rfl).keep (Nat.le_succ _) hkm).rowOf (b := b)
          simp only [hsrc, hsrcb, asO_e]
          refine grow_append (nx := x) (Grow.lit (l := [.int .i64 (pairI L 0 * 100 + pairI L 2)]) (Nat.lt_succ_self x) hgx rfl) (by omega) (by omega) (by omega) (by omega) rfl (fun v hv => by simp only [List.mem_cons, List.not_mem_nil, or_false] at hv; rcases hv with rfl | rfl | rfl | rfl | rfl <;> rfl) (by omega) (by omega) fun g' hg' how' => ?_
          obtain ⟨_, ⟨h, _⟩ | ⟨q', e, _, _, _, hc'⟩⟩ := how'
          · cases h
          injection e with e
          injection e with e
          subst e
          simp only [List.cons_append, List.nil_append] at hc'
          simp only [↓gaW, ↓gaV, ↓gaC, ↓gaN, gaP, Nat.reduceEqDiff, Nat.reduceLeDiff, Nat.reduceAdd, Nat.reduceSub, Nat.reduceMul, Int.reduceLT, Int.reduceLE, Int.reduceEq, Int.reduceToNat, Int.reduceAdd, Int.reduceSub, Int.reduceMul, reduceCtorEq, ↓reduceIte, List.getD_cons_zero, List.getD_cons_succ, fillL, splice, List.take_zero, List.drop_zero, List.drop_succ_cons, List.take_succ_cons, List.drop_nil, List.take_nil, go_x, hc']
          repeat refine And.intro (by first | omega | simp) ?_
          refine callK_of ct_Seconds (fun v n9 g9 l9 k9 hC => ?_) (by omega)
          have hR : readL L = SecV (pairI L 0 * 100 + pairI L 2) (pairI L 4) (pairI L 6) (pairI L 8) (pairI L 10) (pairI L 12) := by rw [readL, if_pos (by omega), if_neg (by omega)]
          obtain ⟨SA, ST, hsec⟩ := SecV_shape (pairI L 0 * 100 + pairI L 2) (pairI L 4) (pairI L 6) (pairI L 8) (pairI L 10) (pairI L 12)
          rw [hsec] at hC hR
          subst hC
          simp only [↓gaW, ↓gaV, ↓gaC, ↓gaN, gaP, Nat.reduceEqDiff, Nat.reduceLeDiff, Nat.reduceAdd, Nat.reduceSub, Nat.reduceMul, Int.reduceLT, Int.reduceLE, Int.reduceEq, Int.reduceToNat, Int.reduceAdd, Int.reduceSub, Int.reduceMul, reduceCtorEq, ↓reduceIte, gaE, implies_true, Nat.le_refl, Int.sub_zero, Nat.sub_zero, Int.le_refl, true_or, or_true]
          exact ⟨by omega, by omega, by omega, fun p hp => by rw [k9 p (by omega), hg' p (by omega), hkm p (by omega), hg p hp], by rw [hR]⟩
      · simp only [c_clock_Read, ↓gaW, ↓gaV, ↓gaC, ↓gaN, gaP, Nat.reduceEqDiff, Nat.reduceLeDiff, Nat.reduceAdd, Nat.reduceSub, Nat.reduceMul, Int.reduceLT, Int.reduceLE, Int.reduceEq, Int.reduceToNat, Int.reduceAdd, Int.reduceSub, Int.reduceMul, reduceCtorEq, ↓reduceIte, gaE, implies_true, Nat.le_refl, Int.sub_zero, Nat.sub_zero, Int.le_refl, true_or, or_true, hL, c1, ez, c2, wz, decide_true, decide_false, nz]
        repeat refine And.intro (by omega) ?_
        rw [readL, if_neg (by omega)]; rfl
    · simp only [c_clock_Read, ↓gaW, ↓gaV, ↓gaC, ↓gaN, gaP, Nat.reduceEqDiff, Nat.reduceLeDiff, Nat.reduceAdd, Nat.reduceSub, Nat.reduceMul, Int.reduceLT, Int.reduceLE, Int.reduceEq, Int.reduceToNat, Int.reduceAdd, Int.reduceSub, Int.reduceMul, reduceCtorEq, ↓reduceIte, gaE, implies_true, Nat.le_refl, Int.sub_zero, Nat.sub_zero, Int.le_refl, true_or, or_true, hL, c1, decide_false, decide_true]
      repeat refine And.intro (by omega) ?_
      rw [readL, if_neg (by omega)]; rfl
  | false =>
    simp only [if_neg (show ¬ (false = true) by decide)]
    have wz := i64_w 12 (by omega)
    by_cases c1 : (s.size : Int) = 13
    · have nz : s.size = 13 := by omega
      have hLm : (L.map u8V).length = 13 := by simp only [List.length_map, hlen, nz]
      have ez : u8V (L.getD 12 0) = .int .u8 (((L.getD 12 0).toNat : Nat) : Int) := rfl
      by_cases c2 : ((L.getD 12 0).toNat : Int) = 90
      · simp only [c_clock_Read, ↓gaW, ↓gaV, ↓gaC, ↓gaN, gaP, Nat.reduceEqDiff, Nat.reduceLeDiff, Nat.reduceAdd, Nat.reduceSub, Nat.reduceMul, Int.reduceLT, Int.reduceLE, Int.reduceEq, Int.reduceToNat, Int.reduceAdd, Int.reduceSub, Int.reduceMul, reduceCtorEq, ↓reduceIte, hL, c1, ez, c2, wz, decide_true, decide_false, nz]
        refine ⟨.inl trivial, ?_⟩
        refine loop_of (fun j f mm => ∃ (i x : Nat) (g : Nat → Option Blk) (Q : Option Addr), j = 6 - i ∧ i ≤ 6 ∧ f 1 = .bool false ∧ f 7 = .slice (some ⟨nx, 2 * i, none⟩) (12 - 2 * i) (12 - 2 * i) ∧ f 8 = .slice Q i i ∧ mm = ⟨x, b, g⟩ ∧ nx + 1 ≤ x ∧
            (∀ q, q < nx → g q = gt q) ∧ g nx = some (.cells (L.map u8V) false) ∧ Own (nx + 1) b x g 1 Q i (pairsV L i) ∧ ∀ j, j < i → pairI L (2 * j) ≠ 999) 6
          ⟨0, nx + 1, _, none, by omega, by omega, rfl, rfl, rfl, rfl, by omega, fun q hq => by simp only [upd_e]; rw [if_neg (by omega)], by simp only [upd_e, if_true], .nil, fun j hj => absurd hj (Nat.not_lt_zero j)⟩ ?_
        rintro j f mm ⟨i, x, g, Q, rfl, hi, h1, h7, h8, rfl, hx, hg, hgn, how, hne⟩
        by_cases hlt : (0 : Int) < ((12 - 2 * i : Nat) : Int)
        · have ea : (L.map u8V).getD (2 * i) undef = .int .u8 (((L.getD (2 * i) 0).toNat : Nat) : Int) := getD_u8 (by omega)
          have eb : (L.map u8V).getD (2 * i + 1) undef = .int .u8 (((L.getD (2 * i + 1) 0).toNat : Nat) : Int) := getD_u8 (by omega)
          have hxb : (L.getD (2 * i) 0).toNat < 256 := (L.getD (2 * i) 0).toNat_lt
          have hyb : (L.getD (2 * i + 1) 0).toNat < 256 := (L.getD (2 * i + 1) 0).toNat_lt
          obtain ⟨X, hX⟩ : ∃ X, (L.getD (2 * i) 0).toNat = X := ⟨_, rfl⟩
          obtain ⟨Y, hY⟩ : ∃ Y, (L.getD (2 * i + 1) 0).toNat = Y := ⟨_, rfl⟩
          rw [hX] at ea hxb
          rw [hY] at eb hyb
          have hbad : (X < 48 ∨ 57 < X ∨ Y < 48 ∨ 57 < Y) → readS L = noR := fun h => readS_no (show i < 6 by omega) (pairI_bad (by rw [hX, hY]; exact h))
          by_cases d1 : (X : Int) < 48
          · simp only [↓gaW, ↓gaV, ↓gaC, ↓gaN, gaP, Nat.reduceEqDiff, Nat.reduceLeDiff, Nat.reduceAdd, Nat.reduceSub, Nat.reduceMul, Int.reduceLT, Int.reduceLE, Int.reduceEq, Int.reduceToNat, Int.reduceAdd, Int.reduceSub, Int.reduceMul, reduceCtorEq, ↓reduceIte, gaE, implies_true, Nat.le_refl, Int.sub_zero, Nat.sub_zero, Int.le_refl, true_or, or_true, h1, h7, h8, hlt, hgn, ea, eb, d1, decide_true]
            repeat refine And.intro (by omega) ?_
            first | exact ⟨hg, by rw [hbad (by omega)]; rfl⟩ | (rw [hbad (by omega)]; rfl)
          by_cases d2 : 57 < (X : Int)
          · simp only [↓gaW, ↓gaV, ↓gaC, ↓gaN, gaP, Nat.reduceEqDiff, Nat.reduceLeDiff, Nat.reduceAdd, Nat.reduceSub, Nat.reduceMul, Int.reduceLT, Int.reduceLE, Int.reduceEq, Int.reduceToNat, Int.reduceAdd, Int.reduceSub, Int.reduceMul, reduceCtorEq, ↓reduceIte, gaE, implies_true, Nat.le_refl, Int.sub_zero, Nat.sub_zero, Int.le_refl, true_or, or_true, h1, h7, h8, hlt, hgn, ea, eb, d1, d2, decide_true, decide_false]
            repeat refine And.intro (by omega) ?_
            first | exact ⟨hg, by rw [hbad (by omega)]; rfl⟩ | (rw [hbad (by omega)]; rfl)
          by_cases d3 : (Y : Int) < 48
          · simp only [↓gaW, ↓gaV, ↓gaC, ↓gaN, gaP, Nat.reduceEqDiff, Nat.reduceLeDiff, Nat.reduceAdd, Nat.reduceSub, Nat.reduceMul, Int.reduceLT, Int.reduceLE, Int.reduceEq, Int.reduceToNat, Int.reduceAdd, Int.reduceSub, Int.reduceMul, reduceCtorEq, ↓reduceIte, gaE, implies_true, Nat.le_refl, Int.sub_zero, Nat.sub_zero, Int.le_refl, true_or, or_true, h1, h7, h8, hlt, hgn, ea, eb, d1, d2, d3, decide_true, decide_false]
            repeat refine And.intro (by omega) ?_
            first | exact ⟨hg, by rw [hbad (by omega)]; rfl⟩ | (rw [hbad (by omega)]; rfl)
          by_cases d4 : 57 < (Y : Int)
          · simp only [↓gaW, ↓gaV, ↓gaC, ↓gaN, gaP, Nat.reduceEqDiff, Nat.reduceLeDiff, Nat.reduceAdd, Nat.reduceSub, Nat.reduceMul, Int.reduceLT, Int.reduceLE, Int.reduceEq, Int.reduceToNat, Int.reduceAdd, Int.reduceSub, Int.reduceMul, reduceCtorEq, ↓reduceIte, gaE, implies_true, Nat.le_refl, Int.sub_zero, Nat.sub_zero, Int.le_refl, true_or, or_true, h1, h7, h8, hlt, hgn, ea, eb, d1, d2, d3, d4, decide_true, decide_false]
            repeat refine And.intro (by omega) ?_
            first | exact ⟨hg, by rw [hbad (by omega)]; rfl⟩ | (rw [hbad (by omega)]; rfl)
          have hpr := pairI_ok hX hY (by omega)
          have g1 := u8_i ((X : Int) - 48) (by omega)
          have g2 := u8_i ((Y : Int) - 48) (by omega)
          simp only [↓gaW, ↓gaV, ↓gaC, ↓gaN, gaP, Nat.reduceEqDiff, Nat.reduceLeDiff, Nat.reduceAdd, Nat.reduceSub, Nat.reduceMul, Int.reduceLT, Int.reduceLE, Int.reduceEq, Int.reduceToNat, Int.reduceAdd, Int.reduceSub, Int.reduceMul, reduceCtorEq, ↓reduceIte, h1, h7, h8, hlt, hgn, ea, eb, d1, d2, d3, d4, decide_true, decide_false, g1, g2, i64_w ((X : Int) - 48) (by omega), i64_w ((Y : Int) - 48) (by omega), i64_w (((X : Int) - 48) * 10) (by omega), i64_w (((X : Int) - 48) * 10 + ((Y : Int) - 48)) (by omega)]
          repeat refine And.intro (by omega) ?_
          have w1 : ∀ z : Int, Value.int .i64 z = Value.int .i64 z := fun _ => rfl
          simp only [List.getD_cons_zero, List.getD_cons_succ, fillL, splice, List.take_zero, List.drop_zero, List.drop_succ_cons, List.take_succ_cons, List.drop_nil, List.take_nil, ↓gaW, ↓gaV, ↓gaC, ↓gaN, gaP, Nat.reduceEqDiff, Nat.reduceLeDiff, Nat.reduceAdd, Nat.reduceSub, Nat.reduceMul, Int.reduceLT, Int.reduceLE, Int.reduceEq, Int.reduceToNat, Int.reduceAdd, Int.reduceSub, Int.reduceMul, reduceCtorEq, ↓reduceIte, row_new (show 1 ≤ [Value.int .i64 (((X : Int) - 48) * 10 + ((Y : Int) - 48))].length from Nat.le_refl 1)]
          refine own_append (nx := nx + 1) (how.keep (Nat.le_succ _) (fun p hp => by simp only [upd_e]; rw [if_neg (by omega)])) (by omega) (by omega) (by omega) (by omega) (by simp) (all1 rfl) (by omega) (by omega) fun g' hg' how' => ?_
          simp only [↓gaW, ↓gaV, ↓gaC, ↓gaN, gaP, Nat.reduceEqDiff, Nat.reduceLeDiff, Nat.reduceAdd, Nat.reduceSub, Nat.reduceMul, Int.reduceLT, Int.reduceLE, Int.reduceEq, Int.reduceToNat, Int.reduceAdd, Int.reduceSub, Int.reduceMul, reduceCtorEq, ↓reduceIte, h7, loopK_n]
          refine ⟨by omega, by omega, by omega, by simp, 6 - (i + 1), by omega, i + 1, x + 1 + 1, g', some ⟨x + 1, 0, some 1⟩, rfl, by omega, h1, ?_, rfl, rfl, by omega, ?_, ?_, ?_, ?_⟩
          · rw [show 2 * i + 2 = 2 * (i + 1) by omega, show (((12 - 2 * i : Nat) : Int) - 2).toNat = 12 - 2 * (i + 1) by omega]
          · intro p hp; rw [hg' p (by omega)]; simp only [upd_e]; rw [if_neg (by omega), hg p hp]
          · rw [hg' nx (by omega)]; simp only [upd_e]; rw [if_neg (by omega), hgn]
          · rw [pairsV_succ, hpr]; exact how'
          · intro j hj
            rcases Nat.lt_or_ge j i with h | h
            · exact hne j h
            · have : j = i := by omega
              subst this
              rw [hpr]; omega
        · have hin : i = 6 := by omega
          subst hin
          obtain ⟨q, rfl, hq1, hq2, hq3, hq4⟩ : ∃ q, Q = some ⟨q, 0, some 1⟩ ∧ nx + 1 ≤ q ∧ q < x ∧ b ≤ q ∧ g q = some (.cells (pairsV L 6) false) := by
            rcases how.2 with ⟨_, h⟩ | h
            · omega
            · exact h
          have hrow := how.row
          rw [show pairsV L 6 = [.int .i64 (pairI L 0), .int .i64 (pairI L 2), .int .i64 (pairI L 4), .int .i64 (pairI L 6), .int .i64 (pairI L 8), .int .i64 (pairI L 10)] from rfl] at hq4 hrow
          have i0 := pairI_in L 0
          have hR : readS L = SecV (yearI L) (pairI L 2) (pairI L 4) (pairI L 6) (pairI L 8) (pairI L 10) := by rw [readS, if_pos (by omega)]
          rw [yearI] at hR
          by_cases d0 : pairI L 0 < 50
          · rw [if_pos d0] at hR
            simp only [↓gaW, ↓gaV, ↓gaC, ↓gaN, gaP, Nat.reduceEqDiff, Nat.reduceLeDiff, Nat.reduceAdd, Nat.reduceSub, Nat.reduceMul, Int.reduceLT, Int.reduceLE, Int.reduceEq, Int.reduceToNat, Int.reduceAdd, Int.reduceSub, Int.reduceMul, reduceCtorEq, ↓reduceIte, List.getD_cons_zero, List.getD_cons_succ, fillL, splice, List.take_zero, List.drop_zero, List.drop_succ_cons, List.take_succ_cons, List.drop_nil, List.take_nil, go_x, h1, h7, h8, hlt, decide_false, loopK_e, hq4, d0, decide_true, i64_w (pairI L 0 + 2000) (by omega)]
            repeat refine And.intro (by first | omega | exact all1 rfl) ?_
            refine callK_of ct_Seconds (fun v n9 g9 l9 k9 hC => ?_) (by omega)
            obtain ⟨SA, ST, hsec⟩ := SecV_shape (pairI L 0 + 2000) (pairI L 2) (pairI L 4) (pairI L 6) (pairI L 8) (pairI L 10)
            rw [hsec] at hC hR
            subst hC
            simp only [↓gaW, ↓gaV, ↓gaC, ↓gaN, gaP, Nat.reduceEqDiff, Nat.reduceLeDiff, Nat.reduceAdd, Nat.reduceSub, Nat.reduceMul, Int.reduceLT, Int.reduceLE, Int.reduceEq, Int.reduceToNat, Int.reduceAdd, Int.reduceSub, Int.reduceMul, reduceCtorEq, ↓reduceIte, gaE, implies_true, Nat.le_refl, Int.sub_zero, Nat.sub_zero, Int.le_refl, true_or, or_true]
            exact ⟨by omega, by omega, by omega, fun p hp => by rw [k9 p (by omega)]; simp only [upd_e]; rw [if_neg (by omega), hg p hp], by rw [hR]⟩
          · rw [if_neg d0] at hR
            simp only [↓gaW, ↓gaV, ↓gaC, ↓gaN, gaP, Nat.reduceEqDiff, Nat.reduceLeDiff, Nat.reduceAdd, Nat.reduceSub, Nat.reduceMul, Int.reduceLT, Int.reduceLE, Int.reduceEq, Int.reduceToNat, Int.reduceAdd, Int.reduceSub, Int.reduceMul, reduceCtorEq, ↓reduceIte, List.getD_cons_zero, List.getD_cons_succ, fillL, splice, List.take_zero, List.drop_zero, List.drop_succ_cons, List.take_succ_cons, List.drop_nil, List.take_nil, go_x, h1, h7, h8, hlt, decide_false, loopK_e, hq4, d0, i64_w (pairI L 0 + 1900) (by omega)]
            repeat refine And.intro (by first | omega | exact all1 rfl) ?_
            refine callK_of ct_Seconds (fun v n9 g9 l9 k9 hC => ?_) (by omega)
            obtain ⟨SA, ST, hsec⟩ := SecV_shape (pairI L 0 + 1900) (pairI L 2) (pairI L 4) (pairI L 6) (pairI L 8) (pairI L 10)
            rw [hsec] at hC hR
            subst hC
            simp only [↓gaW, ↓gaV, ↓gaC, ↓gaN, gaP, Nat.reduceEqDiff, Nat.reduceLeDiff, Nat.reduceAdd, Nat.reduceSub, Nat.reduceMul, Int.reduceLT, Int.reduceLE, Int.reduceEq, Int.reduceToNat, Int.reduceAdd, Int.reduceSub, Int.reduceMul, reduceCtorEq, ↓reduceIte, gaE, implies_true, Nat.le_refl, Int.sub_zero, Nat.sub_zero, Int.le_refl, true_or, or_true]
            exact ⟨by omega, by omega, by omega, fun p hp => by rw [k9 p (by omega)]; simp only [upd_e]; rw [if_neg (by omega), hg p hp], by rw [hR]⟩
      · simp only [c_clock_Read, ↓gaW, ↓gaV, ↓gaC, ↓gaN, gaP, Nat.reduceEqDiff, Nat.reduceLeDiff, Nat.reduceAdd, Nat.reduceSub, Nat.reduceMul, Int.reduceLT, Int.reduceLE, Int.reduceEq, Int.reduceToNat, Int.reduceAdd, Int.reduceSub, Int.reduceMul, reduceCtorEq, ↓reduceIte, gaE, implies_true, Nat.le_refl, Int.sub_zero, Nat.sub_zero, Int.le_refl, true_or, or_true, hL, c1, ez, c2, wz, decide_true, decide_false, nz]
        repeat refine And.intro (by omega) ?_
        rw [readS, if_neg (by omega)]; rfl
    · simp only [c_clock_Read, ↓gaW, ↓gaV, ↓gaC, ↓gaN, gaP, Nat.reduceEqDiff, Nat.reduceLeDiff, Nat.reduceAdd, Nat.reduceSub, Nat.reduceMul, Int.reduceLT, Int.reduceLE, Int.reduceEq, Int.reduceToNat, Int.reduceAdd, Int.reduceSub, Int.reduceMul, reduceCtorEq, ↓reduceIte, gaE, implies_true, Nat.le_refl, Int.sub_zero, Nat.sub_zero, Int.le_refl, true_or, or_true, hL, c1, decide_false, decide_true]
      repeat refine And.intro (by omega) ?_
      rw [readS, if_neg (by omega)]; rfl
end
end Go.Ga

/- Moments as elements. -/
namespace Go.Ga
open Go Go.Proofs
set_option linter.unusedSimpArgs false
set_option linter.unusedVariables false
set_option maxRecDepth 100000
attribute [local irreducible] appendK

def timeR : Option D6 → Except Nat Fo.El
  | none => .error 1
  | some x => if x.a < 2050 then .ok ⟨23, x.short, .nil⟩ else .ok ⟨24, x.long, .nil⟩
theorem timeR_ok {o : Option D6} {y : Fo.El} (h : timeR o = .ok y) : y.f.ws ≤ 20 ∧ y.k = .nil := by
  cases o with
  | none => cases h
  | some x =>
    by_cases hy : x.a < 2050
    · rw [show timeR (some x) = .ok ⟨23, x.short, .nil⟩ from if_pos hy] at h
      injection h with h
      rw [← h]
      exact ⟨by show 1 + x.short.length + 0 + 0 ≤ _; have : x.short.length = 13 := rfl; omega, rfl⟩
    · rw [show timeR (some x) = .ok ⟨24, x.long, .nil⟩ from if_neg hy] at h
      injection h with h
      rw [← h]
      exact ⟨by show 1 + x.long.length + 0 + 0 ≤ _; have : x.long.length = 15 := rfl; omega, rfl⟩
def rdV (x : Fo.El) : Value := if decide (x.t = 24) = true then readL x.b else readS x.b
theorem secV_is (d0 d1 d2 d3 d4 d5 : Int) : ∃ (a : Int) (t : Bool), SecV d0 d1 d2 d3 d4 d5 = .tuple #[.int .i64 a, .bool t] ∧ -9223372036854775808 ≤ a ∧ a ≤ 9223372036854775807 := by
  unfold SecV
  split
  · rename_i h
    have := sec_range h
    exact ⟨_, _, rfl, by omega, by omega⟩
  · exact ⟨_, _, rfl, by omega, by omega⟩
theorem rdV_is (x : Fo.El) : ∃ (a : Int) (t : Bool), rdV x = .tuple #[.int .i64 a, .bool t] ∧ -9223372036854775808 ≤ a ∧ a ≤ 9223372036854775807 := by
  unfold rdV
  split
  · unfold readL
    split
    · split
      · exact ⟨_, _, rfl, by omega, by omega⟩
      · exact secV_is _ _ _ _ _ _
    · exact ⟨_, _, rfl, by omega, by omega⟩
  · unfold readS
    split
    · exact secV_is _ _ _ _ _ _
    · exact ⟨_, _, rfl, by omega, by omega⟩
noncomputable def whenR (s : Int) (is : Bool) (o : Option D6) (x : Fo.El) : Int × Nat := open Classical in if is = true ∧ timeR o = .ok x then (s, 0) else (0, 2)

section
variable {nx : Nat} {gt : Nat → Option Blk}

theorem ct_TimeE {s : Int} {o : Option D6} (hs : -9223372036854775808 ≤ s ∧ s ≤ 9223372036854775807) (ho : DateO s o) : Ct Tryd.prog 37 [.int .i64 s] nx gt fun v x g => NErr nx x g v (timeR o) := by
  refine Ct.of hmx r_scalar_Time (by simp [c_scalar_Time]) fun b hb => ?_
  have hF : ∀ q, q < nx → upd gt nx (some (.cells [Value.int .i64 0, .slice none 0 0, .slice none 0 0] false)) q = gt q := fun q hq => by simp only [upd_e]; rw [if_neg (by omega)]
  have hb0 : upd gt nx (some (.cells [Value.int .i64 0, .slice none 0 0, .slice none 0 0] false)) nx = some (.cells [Value.int .i64 0, .slice none 0 0, .slice none 0 0] false) := by simp only [upd_e, if_true]
  have ext : ∀ (g : Nat → Option Blk) (cs : List Value), (∀ p, p ≠ nx → upd g nx (some (.cells cs false)) p = g p) := fun g cs p hp => by simp only [upd_e]; rw [if_neg hp]
  simp only [c_scalar_Time, ↓gaW, ↓gaV, ↓gaC, ↓gaN, gaP, Nat.reduceEqDiff, Nat.reduceLeDiff, Nat.reduceAdd, Nat.reduceSub, Nat.reduceMul, Int.reduceLT, Int.reduceLE, Int.reduceEq, Int.reduceToNat, Int.reduceAdd, Int.reduceSub, Int.reduceMul, reduceCtorEq, ↓reduceIte, List.getD_cons_zero, List.getD_cons_succ, fillL, splice, List.take_zero, List.drop_zero, List.drop_succ_cons, List.take_succ_cons, List.drop_nil, List.take_nil, gaU]
  generalize upd gt nx (some (.cells [Value.int .i64 0, .slice none 0 0, .slice none 0 0] false)) = g0 at *
  repeat refine And.intro (by omega) ?_
  refine callK_of (ct_Text hs ho) (fun v x1 g1 l1 k1 hC => ?_) (by omega)
  subst hC
  have F1 : ∀ p, p < nx → g1 p = gt p := fun p hp => by rw [k1 p (by omega), hF p hp]
  have hb1 : g1 nx = some (.cells [Value.int .i64 0, .slice none 0 0, .slice none 0 0] false) := by rw [k1 nx (by omega), hb0]
  cases o with
  | none =>
    simp only [↓gaW, ↓gaV, ↓gaC, ↓gaN, gaP, Nat.reduceEqDiff, Nat.reduceLeDiff, Nat.reduceAdd, Nat.reduceSub, Nat.reduceMul, Int.reduceLT, Int.reduceLE, Int.reduceEq, Int.reduceToNat, Int.reduceAdd, Int.reduceSub, Int.reduceMul, reduceCtorEq, ↓reduceIte, List.getD_cons_zero, List.getD_cons_succ, fillL, splice, List.take_zero, List.drop_zero, List.drop_succ_cons, List.take_succ_cons, List.drop_nil, List.take_nil, gaU, textO, noT, timeR, hb1, Bool.not_false]
    repeat refine And.intro (by omega) ?_
    refine And.intro (node_cells _ _ _ _ _ _ _) ?_
    exact end_nT (q := nx) (t := 0) (B := none) (m := 0) (d := 0) (A := none) (n := 0) (c := 0) (ro := false) (w := .int .i64 1) (by first | (simp only [↓gaW, ↓gaV, ↓gaC, ↓gaN, gaP, Nat.reduceEqDiff, Nat.reduceLeDiff, Nat.reduceAdd, Nat.reduceSub, Nat.reduceMul, Int.reduceLT, Int.reduceLE, Int.reduceEq, Int.reduceToNat, Int.reduceAdd, Int.reduceSub, Int.reduceMul, reduceCtorEq, ↓reduceIte]; done) | (simp only [↓gaW, ↓gaV, ↓gaC, ↓gaN, gaP, Nat.reduceEqDiff, Nat.reduceLeDiff, Nat.reduceAdd, Nat.reduceSub, Nat.reduceMul, Int.reduceLT, Int.reduceLE, Int.reduceEq, Int.reduceToNat, Int.reduceAdd, Int.reduceSub, Int.reduceMul, reduceCtorEq, ↓reduceIte]; rfl)) (by first | (simp only [↓gaW, ↓gaV, ↓gaC, ↓gaN, gaP, Nat.reduceEqDiff, Nat.reduceLeDiff, Nat.reduceAdd, Nat.reduceSub, Nat.reduceMul, Int.reduceLT, Int.reduceLE, Int.reduceEq, Int.reduceToNat, Int.reduceAdd, Int.reduceSub, Int.reduceMul, reduceCtorEq, ↓reduceIte]; done) | (simp only [↓gaW, ↓gaV, ↓gaC, ↓gaN, gaP, Nat.reduceEqDiff, Nat.reduceLeDiff, Nat.reduceAdd, Nat.reduceSub, Nat.reduceMul, Int.reduceLT, Int.reduceLE, Int.reduceEq, Int.reduceToNat, Int.reduceAdd, Int.reduceSub, Int.reduceMul, reduceCtorEq, ↓reduceIte]; rfl)) (by simp only [upd_e, if_true]) (by omega) (fun p hp => by rw [ext _ _ p (by omega), F1 p hp]) ⟨rfl, by omega⟩
  | some x =>
    by_cases hy : x.a < 2050
    · have e1 : textO (some x) = strT x.short := if_pos hy
      have e2 : timeR (some x) = .ok ⟨23, x.short, .nil⟩ := if_pos hy
      rw [e1, e2]
      have hlen : x.short.length = 13 := rfl
      generalize x.short = S at *
      simp only [strT]
      have hss : ((⟨S.toArray⟩ : ByteArray).size) = 13 := hlen
      have hdl : (⟨S.toArray⟩ : ByteArray).data.toList = S := rfl
      have hnn : (nx = x1) = False := by simp; omega
      have c13 : (((13 : Nat)) : Int) = 13 := rfl
      simp only [↓gaW, ↓gaV, ↓gaC, ↓gaN, gaP, Nat.reduceEqDiff, Nat.reduceLeDiff, Nat.reduceAdd, Nat.reduceSub, Nat.reduceMul, Int.reduceLT, Int.reduceLE, Int.reduceEq, Int.reduceToNat, Int.reduceAdd, Int.reduceSub, Int.reduceMul, reduceCtorEq, ↓reduceIte, List.getD_cons_zero, List.getD_cons_succ, fillL, splice, List.take_zero, List.drop_zero, List.drop_succ_cons, List.take_succ_cons, List.drop_nil, List.take_nil, gaU, hss, hdl, hb1, hnn, c13, Bool.not_true, decide_true, decide_false, not_true, not_false_eq_true]
      repeat refine And.intro (by omega) ?_
      refine And.intro (node_cells _ _ _ _ _ _ _) ?_
      have hS : ∀ p, p < x1 → upd g1 x1 (some (.cells (S.map u8V) false)) p = g1 p := fun p hp => by rw [upd_e, if_neg (by omega)]
      refine end_nT (q := nx) (t := 23) (B := some ⟨x1, 0, some 1⟩) (m := 13) (d := 13) (A := none) (n := 0) (c := 0) (ro := false) (w := .int .i64 0) (by first | (simp only [↓gaW, ↓gaV, ↓gaC, ↓gaN, gaP, Nat.reduceEqDiff, Nat.reduceLeDiff, Nat.reduceAdd, Nat.reduceSub, Nat.reduceMul, Int.reduceLT, Int.reduceLE, Int.reduceEq, Int.reduceToNat, Int.reduceAdd, Int.reduceSub, Int.reduceMul, reduceCtorEq, ↓reduceIte]; done) | (simp only [↓gaW, ↓gaV, ↓gaC, ↓gaN, gaP, Nat.reduceEqDiff, Nat.reduceLeDiff, Nat.reduceAdd, Nat.reduceSub, Nat.reduceMul, Int.reduceLT, Int.reduceLE, Int.reduceEq, Int.reduceToNat, Int.reduceAdd, Int.reduceSub, Int.reduceMul, reduceCtorEq, ↓reduceIte]; rfl)) (by first | (simp only [↓gaW, ↓gaV, ↓gaC, ↓gaN, gaP, Nat.reduceEqDiff, Nat.reduceLeDiff, Nat.reduceAdd, Nat.reduceSub, Nat.reduceMul, Int.reduceLT, Int.reduceLE, Int.reduceEq, Int.reduceToNat, Int.reduceAdd, Int.reduceSub, Int.reduceMul, reduceCtorEq, ↓reduceIte]; done) | (simp only [↓gaW, ↓gaV, ↓gaC, ↓gaN, gaP, Nat.reduceEqDiff, Nat.reduceLeDiff, Nat.reduceAdd, Nat.reduceSub, Nat.reduceMul, Int.reduceLT, Int.reduceLE, Int.reduceEq, Int.reduceToNat, Int.reduceAdd, Int.reduceSub, Int.reduceMul, reduceCtorEq, ↓reduceIte]; rfl)) (by simp only [upd_e, if_true]) (by omega) (fun p hp => by rw [ext _ _ p (by omega), hS p (by omega), F1 p hp]) ⟨_, rfl, ?_⟩
      refine NodeIs.leaf (by omega) ⟨⟨fun a h => by injection h with h; subst h; exact .inr rfl, by simp [hlen], fun _ => ⟨⟨x1, 0, some 1⟩, S.map u8V, false, rfl, Nat.lt_succ_self _, by rw [ext _ _ x1 (by omega), upd_e, if_pos rfl], by simp [hlen], fun i _ => by rw [Nat.zero_add]⟩⟩, fun _ a ha => by injection ha with ha; subst ha; show nx ≤ x1; omega⟩ (Nat.le_refl _)
    · have e1 : textO (some x) = strT x.long := if_neg hy
      have e2 : timeR (some x) = .ok ⟨24, x.long, .nil⟩ := if_neg hy
      rw [e1, e2]
      have hlen : x.long.length = 15 := rfl
      generalize x.long = S at *
      simp only [strT]
      have hss : ((⟨S.toArray⟩ : ByteArray).size) = 15 := hlen
      have hdl : (⟨S.toArray⟩ : ByteArray).data.toList = S := rfl
      have hnn : (nx = x1) = False := by simp; omega
      have c13 : (((15 : Nat)) : Int) = 15 := rfl
      simp only [↓gaW, ↓gaV, ↓gaC, ↓gaN, gaP, Nat.reduceEqDiff, Nat.reduceLeDiff, Nat.reduceAdd, Nat.reduceSub, Nat.reduceMul, Int.reduceLT, Int.reduceLE, Int.reduceEq, Int.reduceToNat, Int.reduceAdd, Int.reduceSub, Int.reduceMul, reduceCtorEq, ↓reduceIte, List.getD_cons_zero, List.getD_cons_succ, fillL, splice, List.take_zero, List.drop_zero, List.drop_succ_cons, List.take_succ_cons, List.drop_nil, List.take_nil, gaU, hss, hdl, hb1, hnn, c13, Bool.not_true, decide_true, decide_false, not_true, not_false_eq_true]
      repeat refine And.intro (by omega) ?_
      refine And.intro (node_cells _ _ _ _ _ _ _) ?_
      have hS : ∀ p, p < x1 → upd g1 x1 (some (.cells (S.map u8V) false)) p = g1 p := fun p hp => by rw [upd_e, if_neg (by omega)]
      refine end_nT (q := nx) (t := 24) (B := some ⟨x1, 0, some 1⟩) (m := 15) (d := 15) (A := none) (n := 0) (c := 0) (ro := false) (w := .int .i64 0) (by first | (simp only [↓gaW, ↓gaV, ↓gaC, ↓gaN, gaP, Nat.reduceEqDiff, Nat.reduceLeDiff, Nat.reduceAdd, Nat.reduceSub, Nat.reduceMul, Int.reduceLT, Int.reduceLE, Int.reduceEq, Int.reduceToNat, Int.reduceAdd, Int.reduceSub, Int.reduceMul, reduceCtorEq, ↓reduceIte]; done) | (simp only [↓gaW, ↓gaV, ↓gaC, ↓gaN, gaP, Nat.reduceEqDiff, Nat.reduceLeDiff, Nat.reduceAdd, Nat.reduceSub, Nat.reduceMul, Int.reduceLT, Int.reduceLE, Int.reduceEq, Int.reduceToNat, Int.reduceAdd, Int.reduceSub, Int.reduceMul, reduceCtorEq, ↓reduceIte]; rfl)) (by first | (simp only [↓gaW, ↓gaV, ↓gaC, ↓gaN, gaP, Nat.reduceEqDiff, Nat.reduceLeDiff, Nat.reduceAdd, Nat.reduceSub, Nat.reduceMul, Int.reduceLT, Int.reduceLE, Int.reduceEq, Int.reduceToNat, Int.reduceAdd, Int.reduceSub, Int.reduceMul, reduceCtorEq, ↓reduceIte]; done) | (simp only [↓gaW, ↓gaV, ↓gaC, ↓gaN, gaP, Nat.reduceEqDiff, Nat.reduceLeDiff, Nat.reduceAdd, Nat.reduceSub, Nat.reduceMul, Int.reduceLT, Int.reduceLE, Int.reduceEq, Int.reduceToNat, Int.reduceAdd, Int.reduceSub, Int.reduceMul, reduceCtorEq, ↓reduceIte]; rfl)) (by simp only [upd_e, if_true]) (by omega) (fun p hp => by rw [ext _ _ p (by omega), hS p (by omega), F1 p hp]) ⟨_, rfl, ?_⟩
      refine NodeIs.leaf (by omega) ⟨⟨fun a h => by injection h with h; subst h; exact .inr rfl, by simp [hlen], fun _ => ⟨⟨x1, 0, some 1⟩, S.map u8V, false, rfl, Nat.lt_succ_self _, by rw [ext _ _ x1 (by omega), upd_e, if_pos rfl], by simp [hlen], fun i _ => by rw [Nat.zero_add]⟩⟩, fun _ a ha => by injection ha with ha; subst ha; show nx ≤ x1; omega⟩ (Nat.le_refl _)
theorem ct_rTimeE {s : Int} {o : Option D6} (hs : -9223372036854775808 ≤ s ∧ s ≤ 9223372036854775807) (ho : DateO s o) : Ct Tryd.prog 38 [.int .i64 s] nx gt fun v x g => NErr nx x g v (timeR o) := by
  refine Ct.of hmx r_lanyardref05_Time (by simp [c_lanyardref05_Time]) fun b hb => ?_
  have hF : ∀ q, q < nx → upd gt nx (some (.cells [Value.int .i64 0, .slice none 0 0, .slice none 0 0] false)) q = gt q := fun q hq => by simp only [upd_e]; rw [if_neg (by omega)]
  have hb0 : upd gt nx (some (.cells [Value.int .i64 0, .slice none 0 0, .slice none 0 0] false)) nx = some (.cells [Value.int .i64 0, .slice none 0 0, .slice none 0 0] false) := by simp only [upd_e, if_true]
  have ext : ∀ (g : Nat → Option Blk) (cs : List Value), (∀ p, p ≠ nx → upd g nx (some (.cells cs false)) p = g p) := fun g cs p hp => by simp only [upd_e]; rw [if_neg hp]
  simp only [c_lanyardref05_Time, ↓gaW, ↓gaV, ↓gaC, ↓gaN, gaP, Nat.reduceEqDiff, Nat.reduceLeDiff, Nat.reduceAdd, Nat.reduceSub, Nat.reduceMul, Int.reduceLT, Int.reduceLE, Int.reduceEq, Int.reduceToNat, Int.reduceAdd, Int.reduceSub, Int.reduceMul, reduceCtorEq, ↓reduceIte, List.getD_cons_zero, List.getD_cons_succ, fillL, splice, List.take_zero, List.drop_zero, List.drop_succ_cons, List.take_succ_cons, List.drop_nil, List.take_nil, gaU]
  generalize upd gt nx (some (.cells [Value.int .i64 0, .slice none 0 0, .slice none 0 0] false)) = g0 at *
  repeat refine And.intro (by omega) ?_
  refine callK_of (ct_rText hs ho) (fun v x1 g1 l1 k1 hC => ?_) (by omega)
  subst hC
  have F1 : ∀ p, p < nx → g1 p = gt p := fun p hp => by rw [k1 p (by omega), hF p hp]
  have hb1 : g1 nx = some (.cells [Value.int .i64 0, .slice none 0 0, .slice none 0 0] false) := by rw [k1 nx (by omega), hb0]
  cases o with
  | none =>
    simp only [↓gaW, ↓gaV, ↓gaC, ↓gaN, gaP, Nat.reduceEqDiff, Nat.reduceLeDiff, Nat.reduceAdd, Nat.reduceSub, Nat.reduceMul, Int.reduceLT, Int.reduceLE, Int.reduceEq, Int.reduceToNat, Int.reduceAdd, Int.reduceSub, Int.reduceMul, reduceCtorEq, ↓reduceIte, List.getD_cons_zero, List.getD_cons_succ, fillL, splice, List.take_zero, List.drop_zero, List.drop_succ_cons, List.take_succ_cons, List.drop_nil, List.take_nil, gaU, textO, noT, timeR, hb1, Bool.not_false]
    repeat refine And.intro (by omega) ?_
    refine And.intro (node_cells _ _ _ _ _ _ _) ?_
    exact end_nT (q := nx) (t := 0) (B := none) (m := 0) (d := 0) (A := none) (n := 0) (c := 0) (ro := false) (w := .int .i64 1) (by first | (simp only [↓gaW, ↓gaV, ↓gaC, ↓gaN, gaP, Nat.reduceEqDiff, Nat.reduceLeDiff, Nat.reduceAdd, Nat.reduceSub, Nat.reduceMul, Int.reduceLT, Int.reduceLE, Int.reduceEq, Int.reduceToNat, Int.reduceAdd, Int.reduceSub, Int.reduceMul, reduceCtorEq, ↓reduceIte]; done) | (simp only [↓gaW, ↓gaV, ↓gaC, ↓gaN, gaP, Nat.reduceEqDiff, Nat.reduceLeDiff, Nat.reduceAdd, Nat.reduceSub, Nat.reduceMul, Int.reduceLT, Int.reduceLE, Int.reduceEq, Int.reduceToNat, Int.reduceAdd, Int.reduceSub, Int.reduceMul, reduceCtorEq, ↓reduceIte]; rfl)) (by first | (simp only [↓gaW, ↓gaV, ↓gaC, ↓gaN, gaP, Nat.reduceEqDiff, Nat.reduceLeDiff, Nat.reduceAdd, Nat.reduceSub, Nat.reduceMul, Int.reduceLT, Int.reduceLE, Int.reduceEq, Int.reduceToNat, Int.reduceAdd, Int.reduceSub, Int.reduceMul, reduceCtorEq, ↓reduceIte]; done) | (simp only [↓gaW, ↓gaV, ↓gaC, ↓gaN, gaP, Nat.reduceEqDiff, Nat.reduceLeDiff, Nat.reduceAdd, Nat.reduceSub, Nat.reduceMul, Int.reduceLT, Int.reduceLE, Int.reduceEq, Int.reduceToNat, Int.reduceAdd, Int.reduceSub, Int.reduceMul, reduceCtorEq, ↓reduceIte]; rfl)) (by simp only [upd_e, if_true]) (by omega) (fun p hp => by rw [ext _ _ p (by omega), F1 p hp]) ⟨rfl, by omega⟩
  | some x =>
    by_cases hy : x.a < 2050
    · have e1 : textO (some x) = strT x.short := if_pos hy
      have e2 : timeR (some x) = .ok ⟨23, x.short, .nil⟩ := if_pos hy
      rw [e1, e2]
      have hlen : x.short.length = 13 := rfl
      generalize x.short = S at *
      simp only [strT]
      have hss : ((⟨S.toArray⟩ : ByteArray).size) = 13 := hlen
      have hdl : (⟨S.toArray⟩ : ByteArray).data.toList = S := rfl
      have hnn : (nx = x1) = False := by simp; omega
      have c13 : (((13 : Nat)) : Int) = 13 := rfl
      simp only [↓gaW, ↓gaV, ↓gaC, ↓gaN, gaP, Nat.reduceEqDiff, Nat.reduceLeDiff, Nat.reduceAdd, Nat.reduceSub, Nat.reduceMul, Int.reduceLT, Int.reduceLE, Int.reduceEq, Int.reduceToNat, Int.reduceAdd, Int.reduceSub, Int.reduceMul, reduceCtorEq, ↓reduceIte, List.getD_cons_zero, List.getD_cons_succ, fillL, splice, List.take_zero, List.drop_zero, List.drop_succ_cons, List.take_succ_cons, List.drop_nil, List.take_nil, gaU, hss, hdl, hb1, hnn, c13, Bool.not_true, decide_true, decide_false, not_true, not_false_eq_true]
      repeat refine And.intro (by omega) ?_
      refine And.intro (node_cells _ _ _ _ _ _ _) ?_
      have hS : ∀ p, p < x1 → upd g1 x1 (some (.cells (S.map u8V) false)) p = g1 p := fun p hp => by rw [upd_e, if_neg (by omega)]
      refine end_nT (q := nx) (t := 23) (B := some ⟨x1, 0, some 1⟩) (m := 13) (d := 13) (A := none) (n := 0) (c := 0) (ro := false) (w := .int .i64 0) (by first | (simp only [↓gaW, ↓gaV, ↓gaC, ↓gaN, gaP, Nat.reduceEqDiff, Nat.reduceLeDiff, Nat.reduceAdd, Nat.reduceSub, Nat.reduceMul, Int.reduceLT, Int.reduceLE, Int.reduceEq, Int.reduceToNat, Int.reduceAdd, Int.reduceSub, Int.reduceMul, reduceCtorEq, ↓reduceIte]; done) | (simp only [↓gaW, ↓gaV, ↓gaC, ↓gaN, gaP, Nat.reduceEqDiff, Nat.reduceLeDiff, Nat.reduceAdd, Nat.reduceSub, Nat.reduceMul, Int.reduceLT, Int.reduceLE, Int.reduceEq, Int.reduceToNat, Int.reduceAdd, Int.reduceSub, Int.reduceMul, reduceCtorEq, ↓reduceIte]; rfl)) (by first | (simp only [↓gaW, ↓gaV, ↓gaC, ↓gaN, gaP, Nat.reduceEqDiff, Nat.reduceLeDiff, Nat.reduceAdd, Nat.reduceSub, Nat.reduceMul, Int.reduceLT, Int.reduceLE, Int.reduceEq, Int.reduceToNat, Int.reduceAdd, Int.reduceSub, Int.reduceMul, reduceCtorEq, ↓reduceIte]; done) | (simp only [↓gaW, ↓gaV, ↓gaC, ↓gaN, gaP, Nat.reduceEqDiff, Nat.reduceLeDiff, Nat.reduceAdd, Nat.reduceSub, Nat.reduceMul, Int.reduceLT, Int.reduceLE, Int.reduceEq, Int.reduceToNat, Int.reduceAdd, Int.reduceSub, Int.reduceMul, reduceCtorEq, ↓reduceIte]; rfl)) (by simp only [upd_e, if_true]) (by omega) (fun p hp => by rw [ext _ _ p (by omega), hS p (by omega), F1 p hp]) ⟨_, rfl, ?_⟩
      refine NodeIs.leaf (by omega) ⟨⟨fun a h => by injection h with h; subst h; exact .inr rfl, by simp [hlen], fun _ => ⟨⟨x1, 0, some 1⟩, S.map u8V, false, rfl, Nat.lt_succ_self _, by rw [ext _ _ x1 (by omega), upd_e, if_pos rfl], by simp [hlen], fun i _ => by rw [Nat.zero_add]⟩⟩, fun _ a ha => by injection ha with ha; subst ha; show nx ≤ x1; omega⟩ (Nat.le_refl _)
    · have e1 : textO (some x) = strT x.long := if_neg hy
      have e2 : timeR (some x) = .ok ⟨24, x.long, .nil⟩ := if_neg hy
      rw [e1, e2]
      have hlen : x.long.length = 15 := rfl
      generalize x.long = S at *
      simp only [strT]
      have hss : ((⟨S.toArray⟩ : ByteArray).size) = 15 := hlen
      have hdl : (⟨S.toArray⟩ : ByteArray).data.toList = S := rfl
      have hnn : (nx = x1) = False := by simp; omega
      have c13 : (((15 : Nat)) : Int) = 15 := rfl
      simp only [↓gaW, ↓gaV, ↓gaC, ↓gaN, gaP, Nat.reduceEqDiff, Nat.reduceLeDiff, Nat.reduceAdd, Nat.reduceSub, Nat.reduceMul, Int.reduceLT, Int.reduceLE, Int.reduceEq, Int.reduceToNat, Int.reduceAdd, Int.reduceSub, Int.reduceMul, reduceCtorEq, ↓reduceIte, List.getD_cons_zero, List.getD_cons_succ, fillL, splice, List.take_zero, List.drop_zero, List.drop_succ_cons, List.take_succ_cons, List.drop_nil, List.take_nil, gaU, hss, hdl, hb1, hnn, c13, Bool.not_true, decide_true, decide_false, not_true, not_false_eq_true]
      repeat refine And.intro (by omega) ?_
      refine And.intro (node_cells _ _ _ _ _ _ _) ?_
      have hS : ∀ p, p < x1 → upd g1 x1 (some (.cells (S.map u8V) false)) p = g1 p := fun p hp => by rw [upd_e, if_neg (by omega)]
      refine end_nT (q := nx) (t := 24) (B := some ⟨x1, 0, some 1⟩) (m := 15) (d := 15) (A := none) (n := 0) (c := 0) (ro := false) (w := .int .i64 0) (by first | (simp only [↓gaW, ↓gaV, ↓gaC, ↓gaN, gaP, Nat.reduceEqDiff, Nat.reduceLeDiff, Nat.reduceAdd, Nat.reduceSub, Nat.reduceMul, Int.reduceLT, Int.reduceLE, Int.reduceEq, Int.reduceToNat, Int.reduceAdd, Int.reduceSub, Int.reduceMul, reduceCtorEq, ↓reduceIte]; done) | (simp only [↓gaW, ↓gaV, ↓gaC, ↓gaN, gaP, Nat.reduceEqDiff, Nat.reduceLeDiff, Nat.reduceAdd, Nat.reduceSub, Nat.reduceMul, Int.reduceLT, Int.reduceLE, Int.reduceEq, Int.reduceToNat, Int.reduceAdd, Int.reduceSub, Int.reduceMul, reduceCtorEq, ↓reduceIte]; rfl)) (by first | (simp only [↓gaW, ↓gaV, ↓gaC, ↓gaN, gaP, Nat.reduceEqDiff, Nat.reduceLeDiff, Nat.reduceAdd, Nat.reduceSub, Nat.reduceMul, Int.reduceLT, Int.reduceLE, Int.reduceEq, Int.reduceToNat, Int.reduceAdd, Int.reduceSub, Int.reduceMul, reduceCtorEq, ↓reduceIte]; done) | (simp only [↓gaW, ↓gaV, ↓gaC, ↓gaN, gaP, Nat.reduceEqDiff, Nat.reduceLeDiff, Nat.reduceAdd, Nat.reduceSub, Nat.reduceMul, Int.reduceLT, Int.reduceLE, Int.reduceEq, Int.reduceToNat, Int.reduceAdd, Int.reduceSub, Int.reduceMul, reduceCtorEq, ↓reduceIte]; rfl)) (by simp only [upd_e, if_true]) (by omega) (fun p hp => by rw [ext _ _ p (by omega), hS p (by omega), F1 p hp]) ⟨_, rfl, ?_⟩
      refine NodeIs.leaf (by omega) ⟨⟨fun a h => by injection h with h; subst h; exact .inr rfl, by simp [hlen], fun _ => ⟨⟨x1, 0, some 1⟩, S.map u8V, false, rfl, Nat.lt_succ_self _, by rw [ext _ _ x1 (by omega), upd_e, if_pos rfl], by simp [hlen], fun i _ => by rw [Nat.zero_add]⟩⟩, fun _ a ha => by injection ha with ha; subst ha; show nx ≤ x1; omega⟩ (Nat.le_refl _)
theorem ct_When1 {q : Nat} {ro : Bool} {s : Int} {o : Option D6} (hq : q < nx) (hg : gt q = some (.cells [.int .i64 s] ro)) (hs : -9223372036854775808 ≤ s ∧ s ≤ 9223372036854775807) (ho : DateO s o) :
    Ct Tryd.prog 67 [.pointer (some ⟨q, 0, none⟩)] nx gt fun v x g => NErr nx x g v (timeR o) := by
  refine Ct.of hmx r_scalar_When_1 (by simp [c_scalar_When_1]) fun b hb => ?_
  have hF : ∀ q, q < nx → upd gt nx (some (.cells [Value.int .i64 0, .slice none 0 0, .slice none 0 0] false)) q = gt q := fun q hq => by simp only [upd_e]; rw [if_neg (by omega)]
  have hb0 : upd gt nx (some (.cells [Value.int .i64 0, .slice none 0 0, .slice none 0 0] false)) nx = some (.cells [Value.int .i64 0, .slice none 0 0, .slice none 0 0] false) := by simp only [upd_e, if_true]
  have hqn : (q = nx) = False := by simp; omega
  simp only [c_scalar_When_1, ↓gaW, ↓gaV, ↓gaC, ↓gaN, gaP, Nat.reduceEqDiff, Nat.reduceLeDiff, Nat.reduceAdd, Nat.reduceSub, Nat.reduceMul, Int.reduceLT, Int.reduceLE, Int.reduceEq, Int.reduceToNat, Int.reduceAdd, Int.reduceSub, Int.reduceMul, reduceCtorEq, ↓reduceIte, List.getD_cons_zero, List.getD_cons_succ, fillL, splice, List.take_zero, List.drop_zero, List.drop_succ_cons, List.take_succ_cons, List.drop_nil, List.take_nil, gaU, hqn, hg, List.getD_cons_zero]
  generalize upd gt nx (some (.cells [Value.int .i64 0, .slice none 0 0, .slice none 0 0] false)) = g0 at *
  repeat refine And.intro (by omega) ?_
  refine callK_of (ct_TimeE hs ho) (fun v x1 g1 l1 k1 hC => ?_) (by omega)
  have F1 : ∀ p, p < nx → g1 p = gt p := fun p hp => by rw [k1 p (by omega), hF p hp]
  have hb1 : g1 nx = some (.cells [Value.int .i64 0, .slice none 0 0, .slice none 0 0] false) := by rw [k1 nx (by omega), hb0]
  have ext : ∀ (cs : List Value), (∀ p, p ≠ nx → upd g1 nx (some (.cells cs false)) p = g1 p) := fun cs p hp => by simp only [upd_e]; rw [if_neg hp]
  cases hr : timeR o with
  | error e =>
    rw [hr] at hC
    obtain ⟨rfl, he⟩ := hC
    simp only [↓gaW, ↓gaV, ↓gaC, ↓gaN, gaP, Nat.reduceEqDiff, Nat.reduceLeDiff, Nat.reduceAdd, Nat.reduceSub, Nat.reduceMul, Int.reduceLT, Int.reduceLE, Int.reduceEq, Int.reduceToNat, Int.reduceAdd, Int.reduceSub, Int.reduceMul, reduceCtorEq, ↓reduceIte, List.getD_cons_zero, List.getD_cons_succ, fillL, splice, List.take_zero, List.drop_zero, List.drop_succ_cons, List.take_succ_cons, List.drop_nil, List.take_nil, hb1]
    repeat refine And.intro (by omega) ?_
    refine And.intro (node_cells _ _ _ _ _ _ _) ?_
    exact end_nT (q := nx) (t := 0) (B := none) (m := 0) (d := 0) (A := none) (n := 0) (c := 0) (ro := false) (w := .int .i64 e) (by first | (simp only [↓gaW, ↓gaV, ↓gaC, ↓gaN, gaP, Nat.reduceEqDiff, Nat.reduceLeDiff, Nat.reduceAdd, Nat.reduceSub, Nat.reduceMul, Int.reduceLT, Int.reduceLE, Int.reduceEq, Int.reduceToNat, Int.reduceAdd, Int.reduceSub, Int.reduceMul, reduceCtorEq, ↓reduceIte]; done) | (simp only [↓gaW, ↓gaV, ↓gaC, ↓gaN, gaP, Nat.reduceEqDiff, Nat.reduceLeDiff, Nat.reduceAdd, Nat.reduceSub, Nat.reduceMul, Int.reduceLT, Int.reduceLE, Int.reduceEq, Int.reduceToNat, Int.reduceAdd, Int.reduceSub, Int.reduceMul, reduceCtorEq, ↓reduceIte]; rfl)) (by first | (simp only [↓gaW, ↓gaV, ↓gaC, ↓gaN, gaP, Nat.reduceEqDiff, Nat.reduceLeDiff, Nat.reduceAdd, Nat.reduceSub, Nat.reduceMul, Int.reduceLT, Int.reduceLE, Int.reduceEq, Int.reduceToNat, Int.reduceAdd, Int.reduceSub, Int.reduceMul, reduceCtorEq, ↓reduceIte]; done) | (simp only [↓gaW, ↓gaV, ↓gaC, ↓gaN, gaP, Nat.reduceEqDiff, Nat.reduceLeDiff, Nat.reduceAdd, Nat.reduceSub, Nat.reduceMul, Int.reduceLT, Int.reduceLE, Int.reduceEq, Int.reduceToNat, Int.reduceAdd, Int.reduceSub, Int.reduceMul, reduceCtorEq, ↓reduceIte]; rfl)) (by simp only [upd_e, if_true]) (by omega) (fun p hp => by rw [ext _ p (by omega), F1 p hp]) ⟨rfl, he⟩
  | ok y =>
    rw [hr] at hC
    obtain ⟨u, rfl, B, m, d, A, n, c, ks, rfl, hN⟩ := hC
    simp only [↓gaW, ↓gaV, ↓gaC, ↓gaN, gaP, Nat.reduceEqDiff, Nat.reduceLeDiff, Nat.reduceAdd, Nat.reduceSub, Nat.reduceMul, Int.reduceLT, Int.reduceLE, Int.reduceEq, Int.reduceToNat, Int.reduceAdd, Int.reduceSub, Int.reduceMul, reduceCtorEq, ↓reduceIte, List.getD_cons_zero, List.getD_cons_succ, fillL, splice, List.take_zero, List.drop_zero, List.drop_succ_cons, List.take_succ_cons, List.drop_nil, List.take_nil, hb1]
    repeat refine And.intro (by omega) ?_
    refine And.intro (node_cells _ _ _ _ _ _ _) ?_
    exact end_nT (q := nx) (t := y.t) (B := B) (m := m) (d := d) (A := A) (n := n) (c := c) (ro := false) (w := .int .i64 0) (by first | (simp only [↓gaW, ↓gaV, ↓gaC, ↓gaN, gaP, Nat.reduceEqDiff, Nat.reduceLeDiff, Nat.reduceAdd, Nat.reduceSub, Nat.reduceMul, Int.reduceLT, Int.reduceLE, Int.reduceEq, Int.reduceToNat, Int.reduceAdd, Int.reduceSub, Int.reduceMul, reduceCtorEq, ↓reduceIte]; done) | (simp only [↓gaW, ↓gaV, ↓gaC, ↓gaN, gaP, Nat.reduceEqDiff, Nat.reduceLeDiff, Nat.reduceAdd, Nat.reduceSub, Nat.reduceMul, Int.reduceLT, Int.reduceLE, Int.reduceEq, Int.reduceToNat, Int.reduceAdd, Int.reduceSub, Int.reduceMul, reduceCtorEq, ↓reduceIte]; rfl)) (by first | (simp only [↓gaW, ↓gaV, ↓gaC, ↓gaN, gaP, Nat.reduceEqDiff, Nat.reduceLeDiff, Nat.reduceAdd, Nat.reduceSub, Nat.reduceMul, Int.reduceLT, Int.reduceLE, Int.reduceEq, Int.reduceToNat, Int.reduceAdd, Int.reduceSub, Int.reduceMul, reduceCtorEq, ↓reduceIte]; done) | (simp only [↓gaW, ↓gaV, ↓gaC, ↓gaN, gaP, Nat.reduceEqDiff, Nat.reduceLeDiff, Nat.reduceAdd, Nat.reduceSub, Nat.reduceMul, Int.reduceLT, Int.reduceLE, Int.reduceEq, Int.reduceToNat, Int.reduceAdd, Int.reduceSub, Int.reduceMul, reduceCtorEq, ↓reduceIte]; rfl)) (by simp only [upd_e, if_true]) (by omega) (fun p hp => by rw [ext _ p (by omega), F1 p hp]) ⟨_, rfl, B, m, d, A, n, c, ks, rfl, (hN.keep (Nat.le_refl _) fun p hp _ => ext _ p (by omega)).wid (by omega)⟩
end
end Go.Ga

/- The moment of an element. -/
namespace Go.Ga
open Go Go.Proofs
set_option linter.unusedSimpArgs false
set_option linter.unusedVariables false
set_option maxRecDepth 100000
attribute [local irreducible] appendK

section
variable {nx : Nat} {gt : Nat → Option Blk}

theorem ct_When {s : Int} {is : Bool} {o : Option D6} {x : Fo.El} {B : Option Addr} {m d : Nat} {A : Option Addr} {n c : Nat} {ks : List Value} (hs : -9223372036854775808 ≤ s ∧ s ≤ 9223372036854775807) (ho : DateO s o) (hv : rdV x = .tuple #[.int .i64 s, .bool is]) (h : NdR nx gt x B m d A n c ks) (hxw : x.f.ws < 900000) :
    Ct Tryd.prog 39 [nodeV x.t B m d A n c] nx gt fun v _ _ => v = .tuple #[.int .i64 (whenR s is o x).1, .int .i64 ((whenR s is o x).2 : Nat)] := by
  refine Ct.of hmx r_scalar_When (by simp [c_scalar_When]) fun b hb => ?_
  have hF : ∀ q, q < nx → upd gt nx (some (.cells (nodeL x.t B m d A n c) false)) q = gt q := fun q hq => by simp only [upd_e]; rw [if_neg (by omega)]
  have hb0 : upd gt nx (some (.cells (nodeL x.t B m d A n c) false)) nx = some (.cells (nodeL x.t B m d A n c) false) := by simp only [upd_e, if_true]
  have xw : x.f.ws = 1 + x.b.length + x.k.ws := by simp only [Fo.El.f, Fo.ws]; omega
  have lw := Fo.len_ws x.k
  have hl := h.blen
  have hkl := h.len
  have e1 : rowOf ⟨nx + 1, b, upd gt nx (some (.cells (nodeL x.t B m d A n c) false))⟩ B m = some (x.b.map u8V) := (h.body.keep (nx' := nx + 1) (by omega) hF).rowOf
  have e1' : rowOf ⟨nx + 1, b, upd gt nx (some (.cells [Value.int .i64 x.t, .slice B m d, .slice A n c] false))⟩ B m = some (x.b.map u8V) := e1
  simp only [c_scalar_When, ↓gaW, ↓gaV, ↓gaC, ↓gaN, gaP, Nat.reduceEqDiff, Nat.reduceLeDiff, Nat.reduceAdd, Nat.reduceSub, Nat.reduceMul, Int.reduceLT, Int.reduceLE, Int.reduceEq, Int.reduceToNat, Int.reduceAdd, Int.reduceSub, Int.reduceMul, reduceCtorEq, ↓reduceIte, List.getD_cons_zero, List.getD_cons_succ, fillL, splice, List.take_zero, List.drop_zero, List.drop_succ_cons, List.take_succ_cons, List.drop_nil, List.take_nil, gaU, e1, e1', bytesOf_map]
  generalize upd gt nx (some (.cells (nodeL x.t B m d A n c) false)) = g0 at *
  repeat refine And.intro (by omega) ?_
  refine callK_of (ct_Read (s := ⟨x.b.toArray⟩) (l := decide (x.t = 24)) (by show x.b.length < _; omega)) (fun v x1 g1 l1 k1 hC => ?_) (by omega)
  have hC' : v = .tuple #[.int .i64 s, .bool is] := by rw [← hv]; exact hC
  clear hC
  subst hC'
  have F1 : ∀ p, p < nx → g1 p = gt p := fun p hp => by rw [k1 p (by omega), hF p hp]
  have hb1 : g1 nx = some (.cells (nodeL x.t B m d A n c) false) := by rw [k1 nx (by omega), hb0]
  have hnn : (nx = x1) = False := by simp; omega
  simp only [↓gaW, ↓gaV, ↓gaC, ↓gaN, gaP, Nat.reduceEqDiff, Nat.reduceLeDiff, Nat.reduceAdd, Nat.reduceSub, Nat.reduceMul, Int.reduceLT, Int.reduceLE, Int.reduceEq, Int.reduceToNat, Int.reduceAdd, Int.reduceSub, Int.reduceMul, reduceCtorEq, ↓reduceIte, List.getD_cons_zero, List.getD_cons_succ, fillL, splice, List.take_zero, List.drop_zero, List.drop_succ_cons, List.take_succ_cons, List.drop_nil, List.take_nil, gaU, hnn, hb1]
  repeat refine And.intro (by omega) ?_
  refine And.intro (all1 rfl) ?_
  repeat refine And.intro (by omega) ?_
  obtain ⟨g2, e2, G2, hb2⟩ := boxed (g := g1) (x := x1) (cs := [Value.int .i64 0]) (ds := [Value.int .i64 s])
  rw [← e2]; clear e2
  have hN2 := h.keep (x' := x1 + 1) (g := g2) (by omega) fun p hp => by rw [G2 p (by omega), F1 p hp]
  refine callK_of (ct_justI (r := timeR o) hN2 (by omega) (fun y' hy' => by have := timeR_ok hy'; omega) (fun nx' g h1 h2 => ct_When1 (q := x1) (by omega) (by rw [h2 x1 (by omega), hb2]) hs ho)) (fun v x3 g3 l3 k3 hC => ?_) (by omega)
  obtain ⟨bb, hbb, rfl⟩ := hC
  have F3 : ∀ p, p < nx → g3 p = gt p := fun p hp => by rw [k3 p (by omega), G2 p (by omega), F1 p hp]
  have hj : justP is x (timeR o) ↔ (is = true ∧ timeR o = .ok x) := by
    unfold justP
    constructor
    · rintro ⟨h1, z, h2, h3⟩
      exact ⟨h1, by rw [h2, (alike_eq (timeR_ok h2).2).1 h3]⟩
    · rintro ⟨h0, h1⟩
      exact ⟨h0, x, h1, (alike_eq (timeR_ok h1).2).2 rfl⟩
  cases bb with
  | true =>
    have er : whenR s is o x = (s, 0) := if_pos (hj.1 (hbb.1 rfl))
    simp only [↓gaW, ↓gaV, ↓gaC, ↓gaN, gaP, Nat.reduceEqDiff, Nat.reduceLeDiff, Nat.reduceAdd, Nat.reduceSub, Nat.reduceMul, Int.reduceLT, Int.reduceLE, Int.reduceEq, Int.reduceToNat, Int.reduceAdd, Int.reduceSub, Int.reduceMul, reduceCtorEq, ↓reduceIte, gaE, implies_true, Nat.le_refl, Int.sub_zero, Nat.sub_zero, Int.le_refl, true_or, or_true, List.getD_cons_zero, List.getD_cons_succ, fillL, splice, List.take_zero, List.drop_zero, List.drop_succ_cons, List.take_succ_cons, List.drop_nil, List.take_nil, if_true, er]
    repeat refine And.intro (by omega) ?_
    first | exact F3 | exact ⟨F3, rfl⟩ | exact rfl
  | false =>
    have er : whenR s is o x = (0, 2) := if_neg fun hc => by have := hbb.2 (hj.2 hc); cases this
    simp only [↓gaW, ↓gaV, ↓gaC, ↓gaN, gaP, Nat.reduceEqDiff, Nat.reduceLeDiff, Nat.reduceAdd, Nat.reduceSub, Nat.reduceMul, Int.reduceLT, Int.reduceLE, Int.reduceEq, Int.reduceToNat, Int.reduceAdd, Int.reduceSub, Int.reduceMul, reduceCtorEq, ↓reduceIte, gaE, implies_true, Nat.le_refl, Int.sub_zero, Nat.sub_zero, Int.le_refl, true_or, or_true, List.getD_cons_zero, List.getD_cons_succ, fillL, splice, List.take_zero, List.drop_zero, List.drop_succ_cons, List.take_succ_cons, List.drop_nil, List.take_nil, Bool.false_eq_true, if_false, er]
    repeat refine And.intro (by omega) ?_
    first | exact F3 | exact ⟨F3, rfl⟩ | exact rfl

theorem ct_rWhen {s : Int} {is : Bool} {o : Option D6} {x : Fo.El} {B : Option Addr} {m d : Nat} {A : Option Addr} {n c : Nat} {ks : List Value} (hs : -9223372036854775808 ≤ s ∧ s ≤ 9223372036854775807) (ho : DateO s o) (hv : rdV x = .tuple #[.int .i64 s, .bool is]) (h : NdR nx gt x B m d A n c ks) (hxw : x.f.ws < 900000) :
    Ct Tryd.prog 40 [nodeV x.t B m d A n c] nx gt fun v _ _ => v = .tuple #[.int .i64 (whenR s is o x).1, .int .i64 ((whenR s is o x).2 : Nat)] := by
  refine Ct.of hmx r_lanyardref05_When (by simp [c_lanyardref05_When]) fun b hb => ?_
  have hF : ∀ q, q < nx → upd gt nx (some (.cells (nodeL x.t B m d A n c) false)) q = gt q := fun q hq => by simp only [upd_e]; rw [if_neg (by omega)]
  have hb0 : upd gt nx (some (.cells (nodeL x.t B m d A n c) false)) nx = some (.cells (nodeL x.t B m d A n c) false) := by simp only [upd_e, if_true]
  have xw : x.f.ws = 1 + x.b.length + x.k.ws := by simp only [Fo.El.f, Fo.ws]; omega
  have lw := Fo.len_ws x.k
  have hl := h.blen
  have hkl := h.len
  have e1 : rowOf ⟨nx + 1, b, upd gt nx (some (.cells (nodeL x.t B m d A n c) false))⟩ B m = some (x.b.map u8V) := (h.body.keep (nx' := nx + 1) (by omega) hF).rowOf
  have e1' : rowOf ⟨nx + 1, b, upd gt nx (some (.cells [Value.int .i64 x.t, .slice B m d, .slice A n c] false))⟩ B m = some (x.b.map u8V) := e1
  simp only [c_lanyardref05_When, ↓gaW, ↓gaV, ↓gaC, ↓gaN, gaP, Nat.reduceEqDiff, Nat.reduceLeDiff, Nat.reduceAdd, Nat.reduceSub, Nat.reduceMul, Int.reduceLT, Int.reduceLE, Int.reduceEq, Int.reduceToNat, Int.reduceAdd, Int.reduceSub, Int.reduceMul, reduceCtorEq, ↓reduceIte, List.getD_cons_zero, List.getD_cons_succ, fillL, splice, List.take_zero, List.drop_zero, List.drop_succ_cons, List.take_succ_cons, List.drop_nil, List.take_nil, gaU, e1, e1', bytesOf_map]
  generalize upd gt nx (some (.cells (nodeL x.t B m d A n c) false)) = g0 at *
  repeat refine And.intro (by omega) ?_
  refine callK_of (ct_rRead (s := ⟨x.b.toArray⟩) (l := decide (x.t = 24)) (by show x.b.length < _; omega)) (fun v x1 g1 l1 k1 hC => ?_) (by omega)
  have hC' : v = .tuple #[.int .i64 s, .bool is] := by rw [← hv]; exact hC
  clear hC
  subst hC'
  have F1 : ∀ p, p < nx → g1 p = gt p := fun p hp => by rw [k1 p (by omega), hF p hp]
  have hb1 : g1 nx = some (.cells (nodeL x.t B m d A n c) false) := by rw [k1 nx (by omega), hb0]
  simp only [↓gaW, ↓gaV, ↓gaC, ↓gaN, gaP, Nat.reduceEqDiff, Nat.reduceLeDiff, Nat.reduceAdd, Nat.reduceSub, Nat.reduceMul, Int.reduceLT, Int.reduceLE, Int.reduceEq, Int.reduceToNat, Int.reduceAdd, Int.reduceSub, Int.reduceMul, reduceCtorEq, ↓reduceIte, List.getD_cons_zero, List.getD_cons_succ, fillL, splice, List.take_zero, List.drop_zero, List.drop_succ_cons, List.take_succ_cons, List.drop_nil, List.take_nil, gaU]
  repeat refine And.intro (by omega) ?_
  refine callK_of (ct_rTimeE hs ho) (fun v x7 g7 l7 k7 hC => ?_) (by omega)
  have F7 : ∀ p, p < nx → g7 p = gt p := fun p hp => by rw [k7 p (by omega), F1 p hp]
  have hb7 : g7 nx = some (.cells (nodeL x.t B m d A n c) false) := by rw [k7 nx (by omega), hb1]
  have hx7 : (nx = x7) = False := by simp; omega
  obtain ⟨B', m', d', A', n', c', ks', rfl, hN⟩ := hC.any
  cases is with
  | false =>
    have er : whenR s false o x = (0, 2) := if_neg fun hc => by cases hc.1
    simp only [↓gaW, ↓gaV, ↓gaC, ↓gaN, gaP, Nat.reduceEqDiff, Nat.reduceLeDiff, Nat.reduceAdd, Nat.reduceSub, Nat.reduceMul, Int.reduceLT, Int.reduceLE, Int.reduceEq, Int.reduceToNat, Int.reduceAdd, Int.reduceSub, Int.reduceMul, reduceCtorEq, ↓reduceIte, gaE, implies_true, Nat.le_refl, Int.sub_zero, Nat.sub_zero, Int.le_refl, true_or, or_true, List.getD_cons_zero, List.getD_cons_succ, fillL, splice, List.take_zero, List.drop_zero, List.drop_succ_cons, List.take_succ_cons, List.drop_nil, List.take_nil, gaU, Bool.not_false, er]
    repeat refine And.intro (by omega) ?_
    refine And.intro (node_cells _ _ _ _ _ _ _) ?_
    exact ⟨by omega, fun p hp => by rw [if_neg (by omega), if_neg (by omega), F7 p hp]⟩
  | true =>
    cases hr : timeR o with
    | error e =>
      rw [hr] at hC
      have he := hC.2
      have he0 : ¬ ((errOf (.error e : Except Nat Fo.El) : Nat) : Int) = 0 := by show ¬ (e : Int) = 0; omega
      have er : whenR s true o x = (0, 2) := if_neg fun hc => by rw [hr] at hc; cases hc.2
      simp only [↓gaW, ↓gaV, ↓gaC, ↓gaN, gaP, Nat.reduceEqDiff, Nat.reduceLeDiff, Nat.reduceAdd, Nat.reduceSub, Nat.reduceMul, Int.reduceLT, Int.reduceLE, Int.reduceEq, Int.reduceToNat, Int.reduceAdd, Int.reduceSub, Int.reduceMul, reduceCtorEq, ↓reduceIte, gaE, implies_true, Nat.le_refl, Int.sub_zero, Nat.sub_zero, Int.le_refl, true_or, or_true, List.getD_cons_zero, List.getD_cons_succ, fillL, splice, List.take_zero, List.drop_zero, List.drop_succ_cons, List.take_succ_cons, List.drop_nil, List.take_nil, gaU, Bool.not_true, he0, decide_false, not_false_eq_true, decide_true, er]
      repeat refine And.intro (by omega) ?_
      refine And.intro (node_cells _ _ _ _ _ _ _) ?_
      exact ⟨by omega, fun p hp => by rw [if_neg (by omega), if_neg (by omega), F7 p hp]⟩
    | ok y =>
      have hyw := (timeR_ok hr).1
      rw [hr] at hN
      have he0 : ((errOf (.ok y : Except Nat Fo.El) : Nat) : Int) = 0 := rfl
      obtain ⟨g8, e8, G8, hb8⟩ := boxed (g := g7) (x := x7) (cs := [Value.int .i64 0, .slice none 0 0, .slice none 0 0]) (ds := nodeL y.t B' m' d' A' n' c')
      have ey : nodeOf (.ok y) = y := rfl
      simp only [↓gaW, ↓gaV, ↓gaC, ↓gaN, gaP, Nat.reduceEqDiff, Nat.reduceLeDiff, Nat.reduceAdd, Nat.reduceSub, Nat.reduceMul, Int.reduceLT, Int.reduceLE, Int.reduceEq, Int.reduceToNat, Int.reduceAdd, Int.reduceSub, Int.reduceMul, reduceCtorEq, ↓reduceIte, List.getD_cons_zero, List.getD_cons_succ, fillL, splice, List.take_zero, List.drop_zero, List.drop_succ_cons, List.take_succ_cons, List.drop_nil, List.take_nil, gaU, hx7, hb7, he0, ey, Bool.not_true, decide_true, decide_false, not_true]
      repeat refine And.intro (by omega) ?_
      refine And.intro (node_cells _ _ _ _ _ _ _) ?_
      repeat refine And.intro (by omega) ?_
      rw [← e8]; clear e8
      have F8 : ∀ p, p < nx → g8 p = gt p := fun p hp => by rw [G8 p (by omega), F7 p hp]
      have hx8 := h.keep (x' := x7 + 1) (by omega) F8
      refine callK_of (ct_Same y (by omega) x _ _ _ _ _ _ _ _ _ _ _ _ _ _ _ _ (hN.r.keep (x' := x7 + 1) (by omega) G8) hx8) (fun v x9 g9 l9 k9 hC => ?_) (by omega)
      obtain ⟨t, rfl, hs⟩ := hC
      have F9 : ∀ p, p < nx → g9 p = gt p := fun p hp => by rw [k9 p (by omega), F8 p hp]
      cases t with
      | true =>
        have hyx := hs.1 rfl
        have er : whenR s true o x = (s, 0) := if_pos ⟨rfl, by rw [hr, hyx]⟩
        simp only [↓gaW, ↓gaV, ↓gaC, ↓gaN, gaP, Nat.reduceEqDiff, Nat.reduceLeDiff, Nat.reduceAdd, Nat.reduceSub, Nat.reduceMul, Int.reduceLT, Int.reduceLE, Int.reduceEq, Int.reduceToNat, Int.reduceAdd, Int.reduceSub, Int.reduceMul, reduceCtorEq, ↓reduceIte, gaE, implies_true, Nat.le_refl, Int.sub_zero, Nat.sub_zero, Int.le_refl, true_or, or_true, List.getD_cons_zero, List.getD_cons_succ, fillL, splice, List.take_zero, List.drop_zero, List.drop_succ_cons, List.take_succ_cons, List.drop_nil, List.take_nil, Bool.not_true, er]
        repeat refine And.intro (by omega) ?_
        first | exact F9 | exact ⟨F9, rfl⟩ | exact rfl
      | false =>
        have er : whenR s true o x = (0, 2) := if_neg fun hc => by
          have hc := hc.2
          rw [hr] at hc
          injection hc with hc
          have := hs.2 hc
          cases this
        simp only [↓gaW, ↓gaV, ↓gaC, ↓gaN, gaP, Nat.reduceEqDiff, Nat.reduceLeDiff, Nat.reduceAdd, Nat.reduceSub, Nat.reduceMul, Int.reduceLT, Int.reduceLE, Int.reduceEq, Int.reduceToNat, Int.reduceAdd, Int.reduceSub, Int.reduceMul, reduceCtorEq, ↓reduceIte, gaE, implies_true, Nat.le_refl, Int.sub_zero, Nat.sub_zero, Int.le_refl, true_or, or_true, List.getD_cons_zero, List.getD_cons_succ, fillL, splice, List.take_zero, List.drop_zero, List.drop_succ_cons, List.take_succ_cons, List.drop_nil, List.take_nil, Bool.not_false, er]
        repeat refine And.intro (by omega) ?_
        first | exact F9 | exact ⟨F9, rfl⟩ | exact rfl
end
end Go.Ga

/- The law ScalarTexts. -/
namespace Go.Ga
open Go Go.Proofs
set_option linter.unusedSimpArgs false
set_option linter.unusedVariables false
set_option maxRecDepth 100000
attribute [local irreducible] appendK

theorem text_nws {l : List UInt8} : (nodeOf (textR l)).f.ws ≤ 201 := by
  cases h : textR l with
  | error e => show 1 + 0 + 0 + 0 ≤ _; omega
  | ok y => exact textR_ws h
theorem time_nws {o : Option D6} : (nodeOf (timeR o)).f.ws ≤ 20 := by
  cases h : timeR o with
  | error e => show 1 + 0 + 0 + 0 ≤ _; omega
  | ok y => exact (timeR_ok h).1

section
variable {nx : Nat} {gt : Nat → Option Blk}


theorem fn_Texts {s0 : ByteArray} {w : Int} {x : Fo.El} {B : Option Addr} {m d : Nat} {A : Option Addr} {n c : Nat} {ks : List Value} (hs0 : s0.size ≤ 140737488351232) (hw : -9223372036854775808 ≤ w ∧ w ≤ 9223372036854775807) (h : NdR nx gt x B m d A n c ks) :
    Ct Tryd.prog 7 [.string s0, .int .i64 w, nodeV x.t B m d A n c] nx gt fun v _ _ => v = .bool true := by
  refine Ct.of hmx r_lanyardlaw05_ScalarTexts (by simp [c_lanyardlaw05_ScalarTexts]) fun b hb => ?_
  have hF : ∀ q, q < nx → upd gt nx (some (.cells (nodeL x.t B m d A n c) false)) q = gt q := fun q hq => by simp only [upd_e]; rw [if_neg (by omega)]
  have hb0 : upd gt nx (some (.cells (nodeL x.t B m d A n c) false)) nx = some (.cells (nodeL x.t B m d A n c) false) := by simp only [upd_e, if_true]
  obtain ⟨ow, how⟩ := date_ex hw
  obtain ⟨a, is, hrd, hab⟩ := rdV_is x
  obtain ⟨oa, hoa⟩ := date_ex hab
  have hws := text_nws (l := s0.data.toList)
  have hwt := time_nws (o := ow)
  simp only [c_lanyardlaw05_ScalarTexts, ↓gaW, ↓gaV, ↓gaC, ↓gaN, gaP, Nat.reduceEqDiff, Nat.reduceLeDiff, Nat.reduceAdd, Nat.reduceSub, Nat.reduceMul, Int.reduceLT, Int.reduceLE, Int.reduceEq, Int.reduceToNat, Int.reduceAdd, Int.reduceSub, Int.reduceMul, reduceCtorEq, ↓reduceIte, List.getD_cons_zero, List.getD_cons_succ, fillL, splice, List.take_zero, List.drop_zero, List.drop_succ_cons, List.take_succ_cons, List.drop_nil, List.take_nil, gaU]
  generalize upd gt nx (some (.cells (nodeL x.t B m d A n c) false)) = g0 at *
  refine callK_of ct_awake05 (fun v x1 g1 l1 k1 hC => ?_) (by omega)
  subst hC
  have F1 : ∀ p, p < nx → g1 p = gt p := fun p hp => by rw [k1 p (by omega), hF p hp]
  have hb1 : g1 nx = some (.cells (nodeL x.t B m d A n c) false) := by rw [k1 nx (by omega), hb0]
  simp only [↓gaW, ↓gaV, ↓gaC, ↓gaN, gaP, Nat.reduceEqDiff, Nat.reduceLeDiff, Nat.reduceAdd, Nat.reduceSub, Nat.reduceMul, Int.reduceLT, Int.reduceLE, Int.reduceEq, Int.reduceToNat, Int.reduceAdd, Int.reduceSub, Int.reduceMul, reduceCtorEq, ↓reduceIte, List.getD_cons_zero, List.getD_cons_succ, fillL, splice, List.take_zero, List.drop_zero, List.drop_succ_cons, List.take_succ_cons, List.drop_nil, List.take_nil, hb1]
  repeat refine And.intro (by omega) ?_
  refine callK_of (ct_Light (h.keep (x' := x1) (by omega) F1)) (fun v x2 g2 l2 k2 hC => ?_) (by omega)
  obtain ⟨ok, rfl, hok⟩ := hC
  have F2 : ∀ p, p < nx → g2 p = gt p := fun p hp => by rw [k2 p (by omega), F1 p hp]
  have hb2 : g2 nx = some (.cells (nodeL x.t B m d A n c) false) := by rw [k2 nx (by omega), hb1]
  cases ok with
  | false =>
    simp only [↓gaW, ↓gaV, ↓gaC, ↓gaN, gaP, Nat.reduceEqDiff, Nat.reduceLeDiff, Nat.reduceAdd, Nat.reduceSub, Nat.reduceMul, Int.reduceLT, Int.reduceLE, Int.reduceEq, Int.reduceToNat, Int.reduceAdd, Int.reduceSub, Int.reduceMul, reduceCtorEq, ↓reduceIte, gaE, implies_true, Nat.le_refl, Int.sub_zero, Nat.sub_zero, Int.le_refl, true_or, or_true, List.getD_cons_zero, List.getD_cons_succ, fillL, splice, List.take_zero, List.drop_zero, List.drop_succ_cons, List.take_succ_cons, List.drop_nil, List.take_nil, Bool.not_false]
    exact ⟨by omega, F2⟩
  | true =>
    have hxw := hok rfl
    by_cases hn0 : (1000 : Int) < (s0.size : Int)
    · simp only [↓gaW, ↓gaV, ↓gaC, ↓gaN, gaP, Nat.reduceEqDiff, Nat.reduceLeDiff, Nat.reduceAdd, Nat.reduceSub, Nat.reduceMul, Int.reduceLT, Int.reduceLE, Int.reduceEq, Int.reduceToNat, Int.reduceAdd, Int.reduceSub, Int.reduceMul, reduceCtorEq, ↓reduceIte, gaE, implies_true, Nat.le_refl, Int.sub_zero, Nat.sub_zero, Int.le_refl, true_or, or_true, List.getD_cons_zero, List.getD_cons_succ, fillL, splice, List.take_zero, List.drop_zero, List.drop_succ_cons, List.take_succ_cons, List.drop_nil, List.take_nil, Bool.not_true, hn0, decide_true]
      exact ⟨by omega, F2⟩
    simp only [↓gaW, ↓gaV, ↓gaC, ↓gaN, gaP, Nat.reduceEqDiff, Nat.reduceLeDiff, Nat.reduceAdd, Nat.reduceSub, Nat.reduceMul, Int.reduceLT, Int.reduceLE, Int.reduceEq, Int.reduceToNat, Int.reduceAdd, Int.reduceSub, Int.reduceMul, reduceCtorEq, ↓reduceIte, List.getD_cons_zero, List.getD_cons_succ, fillL, splice, List.take_zero, List.drop_zero, List.drop_succ_cons, List.take_succ_cons, List.drop_nil, List.take_nil, Bool.not_true, hn0, decide_false]
    repeat refine And.intro (by omega) ?_
    refine callK_of (ct_TextE (s := s0) (by omega)) (fun v x3 g3 l3 k3 hC => ?_) (by omega)
    obtain ⟨B3, m3, d3, A3, n3, c3, ks3, rfl, N3⟩ := hC.any
    have F3 : ∀ p, p < nx → g3 p = gt p := fun p hp => by rw [k3 p (by omega), F2 p hp]
    have hb3 : g3 nx = some (.cells (nodeL x.t B m d A n c) false) := by rw [k3 nx (by omega), hb2]
    simp only [↓gaW, ↓gaV, ↓gaC, ↓gaN, gaP, Nat.reduceEqDiff, Nat.reduceLeDiff, Nat.reduceAdd, Nat.reduceSub, Nat.reduceMul, Int.reduceLT, Int.reduceLE, Int.reduceEq, Int.reduceToNat, Int.reduceAdd, Int.reduceSub, Int.reduceMul, reduceCtorEq, ↓reduceIte, List.getD_cons_zero, List.getD_cons_succ, fillL, splice, List.take_zero, List.drop_zero, List.drop_succ_cons, List.take_succ_cons, List.drop_nil, List.take_nil, gaU]
    repeat refine And.intro (by omega) ?_
    refine And.intro (node_cells _ _ _ _ _ _ _) ?_
    repeat refine And.intro (by omega) ?_
    obtain ⟨g4, e4, G4, hq4⟩ := boxed (g := g3) (x := x3) (cs := [Value.int .i64 0, .slice none 0 0, .slice none 0 0]) (ds := nodeL (nodeOf (textR s0.data.toList)).t B3 m3 d3 A3 n3 c3)
    rw [← e4]; clear e4
    obtain ⟨x4, ex4⟩ : ∃ y, y = x3 + 1 := ⟨_, rfl⟩
    rw [← ex4]
    have F4 : ∀ p, p < nx → g4 p = gt p := fun p hp => by rw [G4 p (by omega), F3 p hp]
    have hb4 : g4 nx = some (.cells (nodeL x.t B m d A n c) false) := by rw [G4 nx (by omega), hb3]
    refine callK_of (ct_rTextE (s := s0) (by omega)) (fun v x5 g5 l5 k5 hC => ?_) (by omega)
    obtain ⟨B5, m5, d5, A5, n5, c5, ks5, rfl, N5⟩ := hC.any
    have F5 : ∀ p, p < nx → g5 p = gt p := fun p hp => by rw [k5 p (by omega), F4 p hp]
    have hb5 : g5 nx = some (.cells (nodeL x.t B m d A n c) false) := by rw [k5 nx (by omega), hb4]
    have hq5 : g5 x3 = some (.cells (nodeL (nodeOf (textR s0.data.toList)).t B3 m3 d3 A3 n3 c3) false) := by rw [k5 _ (by omega), hq4]
    have hx35 : (x3 = x5) = False := by simp; omega
    simp only [↓gaW, ↓gaV, ↓gaC, ↓gaN, gaP, Nat.reduceEqDiff, Nat.reduceLeDiff, Nat.reduceAdd, Nat.reduceSub, Nat.reduceMul, Int.reduceLT, Int.reduceLE, Int.reduceEq, Int.reduceToNat, Int.reduceAdd, Int.reduceSub, Int.reduceMul, reduceCtorEq, ↓reduceIte, List.getD_cons_zero, List.getD_cons_succ, fillL, splice, List.take_zero, List.drop_zero, List.drop_succ_cons, List.take_succ_cons, List.drop_nil, List.take_nil, gaU, hx35, hq5]
    repeat refine And.intro (by omega) ?_
    refine And.intro (node_cells _ _ _ _ _ _ _) ?_
    repeat refine And.intro (by omega) ?_
    obtain ⟨g6, e6, G6, hq6⟩ := boxed (g := g5) (x := x5) (cs := [Value.int .i64 0, .slice none 0 0, .slice none 0 0]) (ds := nodeL (nodeOf (textR s0.data.toList)).t B5 m5 d5 A5 n5 c5)
    rw [← e6]; clear e6
    obtain ⟨x6, ex6⟩ : ∃ y, y = x5 + 1 := ⟨_, rfl⟩
    rw [← ex6]
    have F6 : ∀ p, p < nx → g6 p = gt p := fun p hp => by rw [G6 p (by omega), F5 p hp]
    have hb6 : g6 nx = some (.cells (nodeL x.t B m d A n c) false) := by rw [G6 nx (by omega), hb5]
    have N6 := ((N3.r.keep (x' := x4) (by omega) G4).keep (x' := x5) l5 k5).keep (x' := x6) (by omega) G6
    have N7 := N5.r.keep (x' := x6) (by omega) G6
    refine callK_of (ct_Same (nodeOf (textR s0.data.toList)) (by omega) (nodeOf (textR s0.data.toList)) _ _ _ _ _ _ _ _ _ _ _ _ _ _ _ _ (N6) (N7)) (fun v x7 g7 l7 k7 hC => ?_) (by omega)
    obtain ⟨s7, rfl, hs7⟩ := hC
    have ht7 : s7 = true := hs7.2 rfl
    subst ht7
    have F7 : ∀ p, p < nx → g7 p = gt p := fun p hp => by rw [k7 p (by omega), F6 p hp]
    have hb7 : g7 nx = some (.cells (nodeL x.t B m d A n c) false) := by rw [k7 nx (by omega), hb6]
    simp only [↓gaW, ↓gaV, ↓gaC, ↓gaN, gaP, Nat.reduceEqDiff, Nat.reduceLeDiff, Nat.reduceAdd, Nat.reduceSub, Nat.reduceMul, Int.reduceLT, Int.reduceLE, Int.reduceEq, Int.reduceToNat, Int.reduceAdd, Int.reduceSub, Int.reduceMul, reduceCtorEq, ↓reduceIte, List.getD_cons_zero, List.getD_cons_succ, fillL, splice, List.take_zero, List.drop_zero, List.drop_succ_cons, List.take_succ_cons, List.drop_nil, List.take_nil, hb7]
    repeat refine And.intro (by omega) ?_
    refine callK_of (ct_Words (h.keep (x' := x7) (by omega) F7) (by omega)) (fun v x8 g8 l8 k8 hC => ?_) (by omega)
    subst hC
    have F8 : ∀ p, p < nx → g8 p = gt p := fun p hp => by rw [k8 p (by omega), F7 p hp]
    have hb8 : g8 nx = some (.cells (nodeL x.t B m d A n c) false) := by rw [k8 nx (by omega), hb7]
    simp only [↓gaW, ↓gaV, ↓gaC, ↓gaN, gaP, Nat.reduceEqDiff, Nat.reduceLeDiff, Nat.reduceAdd, Nat.reduceSub, Nat.reduceMul, Int.reduceLT, Int.reduceLE, Int.reduceEq, Int.reduceToNat, Int.reduceAdd, Int.reduceSub, Int.reduceMul, reduceCtorEq, ↓reduceIte, List.getD_cons_zero, List.getD_cons_succ, fillL, splice, List.take_zero, List.drop_zero, List.drop_succ_cons, List.take_succ_cons, List.drop_nil, List.take_nil, hb8]
    repeat refine And.intro (by omega) ?_
    refine callK_of (ct_rWords (h.keep (x' := x8) (by omega) F8) (by omega)) (fun v x9 g9 l9 k9 hC => ?_) (by omega)
    subst hC
    have F9 : ∀ p, p < nx → g9 p = gt p := fun p hp => by rw [k9 p (by omega), F8 p hp]
    have hb9 : g9 nx = some (.cells (nodeL x.t B m d A n c) false) := by rw [k9 nx (by omega), hb8]
    simp only [↓gaW, ↓gaV, ↓gaC, ↓gaN, gaP, Nat.reduceEqDiff, Nat.reduceLeDiff, Nat.reduceAdd, Nat.reduceSub, Nat.reduceMul, Int.reduceLT, Int.reduceLE, Int.reduceEq, Int.reduceToNat, Int.reduceAdd, Int.reduceSub, Int.reduceMul, reduceCtorEq, ↓reduceIte, List.getD_cons_zero, List.getD_cons_succ, fillL, splice, List.take_zero, List.drop_zero, List.drop_succ_cons, List.take_succ_cons, List.drop_nil, List.take_nil, hb9]
    repeat refine And.intro (by omega) ?_
    refine callK_of (ct_TimeE hw how) (fun v xa ga la ka hC => ?_) (by omega)
    obtain ⟨Ba, ma, da, Aa, na, ca, ksa, rfl, Na⟩ := hC.any
    have Fa : ∀ p, p < nx → ga p = gt p := fun p hp => by rw [ka p (by omega), F9 p hp]
    have hba : ga nx = some (.cells (nodeL x.t B m d A n c) false) := by rw [ka nx (by omega), hb9]
    simp only [↓gaW, ↓gaV, ↓gaC, ↓gaN, gaP, Nat.reduceEqDiff, Nat.reduceLeDiff, Nat.reduceAdd, Nat.reduceSub, Nat.reduceMul, Int.reduceLT, Int.reduceLE, Int.reduceEq, Int.reduceToNat, Int.reduceAdd, Int.reduceSub, Int.reduceMul, reduceCtorEq, ↓reduceIte, List.getD_cons_zero, List.getD_cons_succ, fillL, splice, List.take_zero, List.drop_zero, List.drop_succ_cons, List.take_succ_cons, List.drop_nil, List.take_nil, gaU]
    repeat refine And.intro (by omega) ?_
    refine And.intro (node_cells _ _ _ _ _ _ _) ?_
    repeat refine And.intro (by omega) ?_
    obtain ⟨gb, eb, Gb, hqb⟩ := boxed (g := ga) (x := xa) (cs := [Value.int .i64 0, .slice none 0 0, .slice none 0 0]) (ds := nodeL (nodeOf (timeR ow)).t Ba ma da Aa na ca)
    rw [← eb]; clear eb
    obtain ⟨xb, exb⟩ : ∃ y, y = xa + 1 := ⟨_, rfl⟩
    rw [← exb]
    have Fb : ∀ p, p < nx → gb p = gt p := fun p hp => by rw [Gb p (by omega), Fa p hp]
    have hbb : gb nx = some (.cells (nodeL x.t B m d A n c) false) := by rw [Gb nx (by omega), hba]
    refine callK_of (ct_rTimeE hw how) (fun v xc gc lc kc hC => ?_) (by omega)
    obtain ⟨Bc, mc, dc, Ac, nc, cc, ksc, rfl, Nc⟩ := hC.any
    have Fc : ∀ p, p < nx → gc p = gt p := fun p hp => by rw [kc p (by omega), Fb p hp]
    have hbc : gc nx = some (.cells (nodeL x.t B m d A n c) false) := by rw [kc nx (by omega), hbb]
    have hqc : gc xa = some (.cells (nodeL (nodeOf (timeR ow)).t Ba ma da Aa na ca) false) := by rw [kc _ (by omega), hqb]
    have hxac : (xa = xc) = False := by simp; omega
    simp only [↓gaW, ↓gaV, ↓gaC, ↓gaN, gaP, Nat.reduceEqDiff, Nat.reduceLeDiff, Nat.reduceAdd, Nat.reduceSub, Nat.reduceMul, Int.reduceLT, Int.reduceLE, Int.reduceEq, Int.reduceToNat, Int.reduceAdd, Int.reduceSub, Int.reduceMul, reduceCtorEq, ↓reduceIte, List.getD_cons_zero, List.getD_cons_succ, fillL, splice, List.take_zero, List.drop_zero, List.drop_succ_cons, List.take_succ_cons, List.drop_nil, List.take_nil, gaU, hxac, hqc]
    repeat refine And.intro (by omega) ?_
    refine And.intro (node_cells _ _ _ _ _ _ _) ?_
    repeat refine And.intro (by omega) ?_
    obtain ⟨gd, ed, Gd, hqd⟩ := boxed (g := gc) (x := xc) (cs := [Value.int .i64 0, .slice none 0 0, .slice none 0 0]) (ds := nodeL (nodeOf (timeR ow)).t Bc mc dc Ac nc cc)
    rw [← ed]; clear ed
    obtain ⟨xd, exd⟩ : ∃ y, y = xc + 1 := ⟨_, rfl⟩
    rw [← exd]
    have Fd : ∀ p, p < nx → gd p = gt p := fun p hp => by rw [Gd p (by omega), Fc p hp]
    have hbd : gd nx = some (.cells (nodeL x.t B m d A n c) false) := by rw [Gd nx (by omega), hbc]
    have Nda := ((Na.r.keep (x' := xb) (by omega) Gb).keep (x' := xc) lc kc).keep (x' := xd) (by omega) Gd
    have Ndc := Nc.r.keep (x' := xd) (by omega) Gd
    refine callK_of (ct_Same (nodeOf (timeR ow)) (by omega) (nodeOf (timeR ow)) _ _ _ _ _ _ _ _ _ _ _ _ _ _ _ _ (Nda) (Ndc)) (fun v xe ge le ke hC => ?_) (by omega)
    obtain ⟨se, rfl, hse⟩ := hC
    have hte : se = true := hse.2 rfl
    subst hte
    have Fe : ∀ p, p < nx → ge p = gt p := fun p hp => by rw [ke p (by omega), Fd p hp]
    have hbe : ge nx = some (.cells (nodeL x.t B m d A n c) false) := by rw [ke nx (by omega), hbd]
    simp only [↓gaW, ↓gaV, ↓gaC, ↓gaN, gaP, Nat.reduceEqDiff, Nat.reduceLeDiff, Nat.reduceAdd, Nat.reduceSub, Nat.reduceMul, Int.reduceLT, Int.reduceLE, Int.reduceEq, Int.reduceToNat, Int.reduceAdd, Int.reduceSub, Int.reduceMul, reduceCtorEq, ↓reduceIte, List.getD_cons_zero, List.getD_cons_succ, fillL, splice, List.take_zero, List.drop_zero, List.drop_succ_cons, List.take_succ_cons, List.drop_nil, List.take_nil, hbe]
    repeat refine And.intro (by omega) ?_
    refine callK_of (ct_When hab hoa hrd (h.keep (x' := xe) (by omega) Fe) (by omega)) (fun v xf gf lf kf hC => ?_) (by omega)
    subst hC
    have Ff : ∀ p, p < nx → gf p = gt p := fun p hp => by rw [kf p (by omega), Fe p hp]
    have hbf : gf nx = some (.cells (nodeL x.t B m d A n c) false) := by rw [kf nx (by omega), hbe]
    simp only [↓gaW, ↓gaV, ↓gaC, ↓gaN, gaP, Nat.reduceEqDiff, Nat.reduceLeDiff, Nat.reduceAdd, Nat.reduceSub, Nat.reduceMul, Int.reduceLT, Int.reduceLE, Int.reduceEq, Int.reduceToNat, Int.reduceAdd, Int.reduceSub, Int.reduceMul, reduceCtorEq, ↓reduceIte, List.getD_cons_zero, List.getD_cons_succ, fillL, splice, List.take_zero, List.drop_zero, List.drop_succ_cons, List.take_succ_cons, List.drop_nil, List.take_nil, hbf]
    repeat refine And.intro (by omega) ?_
    refine callK_of (ct_rWhen hab hoa hrd (h.keep (x' := xf) (by omega) Ff) (by omega)) (fun v xg gg lg kg hC => ?_) (by omega)
    subst hC
    have Fg : ∀ p, p < nx → gg p = gt p := fun p hp => by rw [kg p (by omega), Ff p hp]
    have estr : ∀ l : List UInt8, ((⟨l.toArray⟩ : ByteArray).toList == (⟨l.toArray⟩ : ByteArray).toList) = true := fun l => by rw [str_eq]; simp
    simp only [↓gaW, ↓gaV, ↓gaC, ↓gaN, gaP, Nat.reduceEqDiff, Nat.reduceLeDiff, Nat.reduceAdd, Nat.reduceSub, Nat.reduceMul, Int.reduceLT, Int.reduceLE, Int.reduceEq, Int.reduceToNat, Int.reduceAdd, Int.reduceSub, Int.reduceMul, reduceCtorEq, ↓reduceIte, gaE, implies_true, Nat.le_refl, Int.sub_zero, Nat.sub_zero, Int.le_refl, true_or, or_true, List.getD_cons_zero, List.getD_cons_succ, fillL, splice, List.take_zero, List.drop_zero, List.drop_succ_cons, List.take_succ_cons, List.drop_nil, List.take_nil, strV, estr, decide_true, beq_self_eq_true]
    repeat refine And.intro (by omega) ?_
    exact Fg
end
end Go.Ga
