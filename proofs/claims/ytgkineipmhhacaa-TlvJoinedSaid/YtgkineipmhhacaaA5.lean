/- Words and contracts of functions for the statement's proof. No condition. -/
import Derived.Test.YtgkineipmhhacaaA4
import Derived.Test.YtgkineipmhhacaaProg
import Derived.KernelRfl
import Derived.ChangeArms
import Derived.OpenShut
import Derived.DataReads
set_option linter.all false

/- A reader's bytes, taken off. -/
namespace Go.Ga
open Go Go.Proofs
set_option linter.unusedSimpArgs false
set_option linter.unusedVariables false
set_option maxRecDepth 100000

section
variable {nx : Nat} {gt : Nat → Option Blk}

def errV (e : Nat) : Value := .iface 27 (.int .i64 (e : Nat))

theorem cp_take {q n s hi : Nat} {l : List UInt8} (hq : q < nx) (hh : hi ≤ nx) (hR : RdS hi gt q l s) (hn : n ≤ 1000000) :
    Cp Try.prog 31 [.pointer (some ⟨q, 0, none⟩), .int .i64 (n : Nat)] q nx gt (fun v x g => n ≤ l.length ∧ SlB hi g q v (l.take n) ∧ RdS hi g q (l.drop n) s) (fun v _ _ => l.length < n ∧ v = errV s) := by
  obtain ⟨v, hg, A, N, c, rfl, hl, hc, hA0, hA, hAq⟩ := hR
  refine Cp.of hmx r___tlv_reader__take (by simp [c___tlv_reader__take]) fun b hb hbq => ?_
  by_cases hlt : (N : Int) < (n : Int)
  · simp only [c___tlv_reader__take, ↓gaW, ↓gaV, ↓gaC, ↓gaN, gaP, Nat.reduceEqDiff, Nat.reduceLeDiff, Nat.reduceAdd, Nat.reduceSub, Nat.reduceMul, Int.reduceLT, Int.reduceLE, Int.reduceEq, Int.reduceToNat, Int.reduceAdd, Int.reduceSub, Int.reduceMul, reduceCtorEq, ↓reduceIte, List.getD_cons_zero, List.getD_cons_succ, fillL, splice, List.take_zero, List.drop_zero, List.drop_succ_cons, List.take_succ_cons, List.drop_nil, List.take_nil, gaU, hg, hlt, decide_true, go_pan, asE_e, endP_p]
    repeat refine And.intro (by omega) ?_
    exact ⟨fun _ _ _ => trivial, by omega, rfl⟩
  · simp only [c___tlv_reader__take, ↓gaW, ↓gaV, ↓gaC, ↓gaN, gaP, Nat.reduceEqDiff, Nat.reduceLeDiff, Nat.reduceAdd, Nat.reduceSub, Nat.reduceMul, Int.reduceLT, Int.reduceLE, Int.reduceEq, Int.reduceToNat, Int.reduceAdd, Int.reduceSub, Int.reduceMul, reduceCtorEq, ↓reduceIte, List.getD_cons_zero, List.getD_cons_succ, fillL, splice, List.take_zero, List.drop_zero, List.drop_succ_cons, List.take_succ_cons, List.drop_nil, List.take_nil, gaU, hg, hlt, decide_false, go_pan, asE_e, endP_p]
    repeat refine And.intro (by omega) ?_
    have hdl : (l.drop n).length = N - n := by rw [List.length_drop, hl]
    have htl : (l.take n).length = n := by rw [List.length_take, hl, Nat.min_eq_left (by omega)]
    have hfr : ∀ (m : Nat) (cs : List Value) p, p < m → p ≠ q → upd gt q (some (.cells cs false)) p = gt p := fun m cs p _ hpq => by simp only [upd_e]; rw [if_neg hpq]
    cases A with
    | none =>
      have hN0 : N = 0 := hA0 rfl
      have hn0 : n = 0 := by omega
      subst hN0 hn0
      have hl0 : l = [] := List.eq_nil_of_length_eq_zero hl
      subst hl0
      simp only [slK_n, ↓gaW, ↓gaV, ↓gaC, ↓gaN, gaP, Nat.reduceEqDiff, Nat.reduceLeDiff, Nat.reduceAdd, Nat.reduceSub, Nat.reduceMul, Int.reduceLT, Int.reduceLE, Int.reduceEq, Int.reduceToNat, Int.reduceAdd, Int.reduceSub, Int.reduceMul, reduceCtorEq, ↓reduceIte, List.getD_cons_zero, List.getD_cons_succ, fillL, splice, List.take_zero, List.drop_zero, List.drop_succ_cons, List.take_succ_cons, List.drop_nil, List.take_nil, hg, endP_r, res_t, res_nil]
      have S0 : SlB hi gt q (.slice none 0 0) [] := ⟨none, 0, 0, rfl, rfl, Nat.le_refl _, fun _ => rfl, .nil, fun h => absurd h (Nat.lt_irrefl 0)⟩
      repeat refine And.intro (by omega) ?_
      refine And.intro (all1 rfl) ?_
      repeat refine And.intro (by omega) ?_
      refine And.intro (hfr _ _) ?_
      exact ⟨S0.keep (Nat.le_refl _) (hfr _ _), _, by simp only [upd_e, if_true], S0.keep (Nat.le_refl _) (hfr _ _)⟩
    | some a =>
      have hsp := hA.spot a rfl
      have hqa : 0 < N → a.block ≠ q := fun h => hAq h a rfl
      simp only [slK_s, ↓gaW, ↓gaV, ↓gaC, ↓gaN, gaP, Nat.reduceEqDiff, Nat.reduceLeDiff, Nat.reduceAdd, Nat.reduceSub, Nat.reduceMul, Int.reduceLT, Int.reduceLE, Int.reduceEq, Int.reduceToNat, Int.reduceAdd, Int.reduceSub, Int.reduceMul, reduceCtorEq, ↓reduceIte, List.getD_cons_zero, List.getD_cons_succ, fillL, splice, List.take_zero, List.drop_zero, List.drop_succ_cons, List.take_succ_cons, List.drop_nil, List.take_nil, hg, endP_r, res_t, res_nil]
      rw [show ((n : Int) - 0).toNat = n by omega, show ((c : Int) - 0).toNat = c by omega, show ((N : Int) - (n : Int)).toNat = N - n by omega, show ((c : Int) - (n : Int)).toNat = c - n by omega]
      have P1 := hA.part (lo := 0) (hi := n) (by omega) (by omega) rfl
      rw [Nat.add_zero, Nat.sub_zero, List.drop_zero, ← List.map_take] at P1
      have P2 := hA.part (lo := n) (hi := N) (by omega) (by omega) rfl
      rw [← List.map_drop, ← List.map_take, List.take_of_length_le (by omega)] at P2
      have S1 : SlB hi gt q (.slice (some ⟨a.block, a.off, a.spot⟩) n c) (l.take n) := ⟨_, n, c, rfl, htl, by omega, (fun h => by cases h), P1, fun h0 a' h => by injection h with h; subst h; exact hqa (by omega)⟩
      have S2 : SlB hi gt q (.slice (some ⟨a.block, a.off + n, a.spot⟩) (N - n) (c - n)) (l.drop n) := ⟨_, N - n, c - n, rfl, hdl, by omega, (fun h => by cases h), P2, fun h0 a' h => by injection h with h; subst h; exact hqa (by omega)⟩
      refine And.intro (.inr hsp) ?_
      repeat refine And.intro (by omega) ?_
      refine And.intro (.inr hsp) (And.intro (by omega) (And.intro (all1 rfl) ?_))
      repeat refine And.intro (by omega) ?_
      refine And.intro (hfr _ _) (And.intro (by omega) ?_)
      exact ⟨S1.keep (Nat.le_refl _) (hfr _ _), _, by simp only [upd_e, if_true], S2.keep (Nat.le_refl _) (hfr _ _)⟩

theorem cp_must {q e : Nat} (t : Bool) : Cp Try.prog 20 [.bool t, .int .i64 (e : Nat)] q nx gt (fun v x g => t = true ∧ ∀ p, p < nx → g p = gt p) (fun v x g => t = false ∧ v = errV e) := by
  refine Cp.of hmx r_tlv_must (by simp [c_tlv_must]) fun b hb hbq => ?_
  cases t with
  | true =>
    simp only [c_tlv_must, ↓gaW, ↓gaV, ↓gaC, ↓gaN, gaP, Nat.reduceEqDiff, Nat.reduceLeDiff, Nat.reduceAdd, Nat.reduceSub, Nat.reduceMul, Int.reduceLT, Int.reduceLE, Int.reduceEq, Int.reduceToNat, Int.reduceAdd, Int.reduceSub, Int.reduceMul, reduceCtorEq, ↓reduceIte, List.getD_cons_zero, List.getD_cons_succ, fillL, splice, List.take_zero, List.drop_zero, List.drop_succ_cons, List.take_succ_cons, List.drop_nil, List.take_nil, gaE, implies_true, Nat.le_refl, Int.sub_zero, Nat.sub_zero, Int.le_refl, true_or, or_true, gaU, go_pan, asE_e, endP_p, endP_n, Bool.not_true]
  | false =>
    simp only [c_tlv_must, ↓gaW, ↓gaV, ↓gaC, ↓gaN, gaP, Nat.reduceEqDiff, Nat.reduceLeDiff, Nat.reduceAdd, Nat.reduceSub, Nat.reduceMul, Int.reduceLT, Int.reduceLE, Int.reduceEq, Int.reduceToNat, Int.reduceAdd, Int.reduceSub, Int.reduceMul, reduceCtorEq, ↓reduceIte, List.getD_cons_zero, List.getD_cons_succ, fillL, splice, List.take_zero, List.drop_zero, List.drop_succ_cons, List.take_succ_cons, List.drop_nil, List.take_nil, gaE, implies_true, Nat.le_refl, Int.sub_zero, Nat.sub_zero, Int.le_refl, true_or, or_true, gaU, go_pan, asE_e, endP_p, endP_n, Bool.not_false]
    rfl


theorem cp_length {q s hi : Nat} {l : List UInt8} (t0 : Nat) (hq : q < nx) (hh : hi ≤ nx) (hR : RdS hi gt q l s) :
    Cp Try.prog 33 [.pointer (some ⟨q, 0, none⟩)] q nx gt (fun v x g => ∃ n r, Fo.hl t0 l = .ok t0 n r ∧ n < 65536 ∧ v = .int .i64 (n : Nat) ∧ RdS hi g q r s) (fun v _ _ => (Fo.hl t0 l = .short ∧ v = errV s) ∨ (Fo.hl t0 l = .form ∧ v = errV 2)) := by
  refine Cp.of hmx r___tlv_reader__length (by simp [c___tlv_reader__length]) fun b hb hbq => ?_
  simp only [c___tlv_reader__length, ↓gaW, ↓gaV, ↓gaC, ↓gaN, gaP, Nat.reduceEqDiff, Nat.reduceLeDiff, Nat.reduceAdd, Nat.reduceSub, Nat.reduceMul, Int.reduceLT, Int.reduceLE, Int.reduceEq, Int.reduceToNat, Int.reduceAdd, Int.reduceSub, Int.reduceMul, reduceCtorEq, ↓reduceIte, List.getD_cons_zero, List.getD_cons_succ, fillL, splice, List.take_zero, List.drop_zero, List.drop_succ_cons, List.take_succ_cons, List.drop_nil, List.take_nil, gaU]
  refine callP_of (cp_take (n := 1) hq hh hR (by omega)) (fun v x1 g1 l1 k1 hC => ?_) (fun v x1 g1 l1 k1 hE => ?_) (by omega) (by omega)
  case refine_2 =>
    obtain ⟨h1, rfl⟩ := hE
    have hl0 : l = [] := List.eq_nil_of_length_eq_zero (by omega)
    subst hl0
    simp only [↓gaW, ↓gaV, ↓gaC, ↓gaN, gaP, Nat.reduceEqDiff, Nat.reduceLeDiff, Nat.reduceAdd, Nat.reduceSub, Nat.reduceMul, Int.reduceLT, Int.reduceLE, Int.reduceEq, Int.reduceToNat, Int.reduceAdd, Int.reduceSub, Int.reduceMul, reduceCtorEq, ↓reduceIte, endP_p]
    exact ⟨l1, k1, .inl rfl⟩
  obtain ⟨hn1, hS1, hR1⟩ := hC
  obtain ⟨y, l', rfl⟩ : ∃ y l', l = y :: l' := by cases l with | nil => simp at hn1 | cons y l' => exact ⟨y, l', rfl⟩
  simp only [List.take_succ_cons, List.take_zero, List.drop_succ_cons, List.drop_zero] at hS1 hR1
  obtain ⟨a, n, c, cl, ro, rfl, hn, c1, c2, c3, _⟩ := hS1.first
  simp only [List.length_nil, Nat.zero_add] at hn
  subst hn
  have hyl := UInt8.toNat_lt y
  have y1 : IntKind.i64.wrap ((y.toNat : Nat) : Int) = ((y.toNat : Nat) : Int) := by rw [i64_w _ (by omega)]
  have F1 : ∀ p, p < nx → p ≠ q → g1 p = gt p := k1
  have w9 : IntKind.i64.wrap 129 = 129 := i64_w _ (by omega)
  have w0 : IntKind.i64.wrap 130 = 130 := i64_w _ (by omega)
  by_cases hy9 : ((y.toNat : Nat) : Int) = 129
  · have ehl := Fo.hl_129 (t := t0) (l := l') (show y.toNat = 129 by omega)
    simp only [↓gaW, ↓gaV, ↓gaC, ↓gaN, gaP, Nat.reduceEqDiff, Nat.reduceLeDiff, Nat.reduceAdd, Nat.reduceSub, Nat.reduceMul, Int.reduceLT, Int.reduceLE, Int.reduceEq, Int.reduceToNat, Int.reduceAdd, Int.reduceSub, Int.reduceMul, reduceCtorEq, ↓reduceIte, List.getD_cons_zero, List.getD_cons_succ, fillL, splice, List.take_zero, List.drop_zero, List.drop_succ_cons, List.take_succ_cons, List.drop_nil, List.take_nil, c1, c3, y1, hy9, w9, decide_true]
    repeat refine And.intro (by omega) ?_
    refine callP_of (cp_take (n := 1) (by omega) (by omega) hR1 (by omega)) (fun v x2 g2 l2 k2 hC => ?_) (fun v x2 g2 l2 k2 hE => ?_) (by omega) (by omega)
    case refine_2 =>
      obtain ⟨h1, rfl⟩ := hE
      have hl0 : l' = [] := List.eq_nil_of_length_eq_zero (by omega)
      subst hl0
      simp only [↓gaW, ↓gaV, ↓gaC, ↓gaN, gaP, Nat.reduceEqDiff, Nat.reduceLeDiff, Nat.reduceAdd, Nat.reduceSub, Nat.reduceMul, Int.reduceLT, Int.reduceLE, Int.reduceEq, Int.reduceToNat, Int.reduceAdd, Int.reduceSub, Int.reduceMul, reduceCtorEq, ↓reduceIte, endP_p]
      exact ⟨by omega, fun p hp hpq => by rw [k2 p (by omega) hpq, k1 p hp hpq], .inl ehl⟩
    obtain ⟨hn2, hS2, hR2⟩ := hC
    obtain ⟨z, r, rfl⟩ : ∃ z r, l' = z :: r := by cases l' with | nil => simp at hn2 | cons z r => exact ⟨z, r, rfl⟩
    simp only [List.take_succ_cons, List.take_zero, List.drop_succ_cons, List.drop_zero] at hS2 hR2
    obtain ⟨a2, n2, c2', cl2, ro2, rfl, hn2', d1, d2, d3, _⟩ := hS2.first
    simp only [List.length_nil, Nat.zero_add] at hn2'
    subst hn2'
    have hzl := UInt8.toNat_lt z
    have z1 : IntKind.i64.wrap ((z.toNat : Nat) : Int) = ((z.toNat : Nat) : Int) := by rw [i64_w _ (by omega)]
    have F2 : ∀ p, p < nx → p ≠ q → g2 p = gt p := fun p hp hpq => by rw [k2 p (by omega) hpq, k1 p hp hpq]
    simp only [↓gaW, ↓gaV, ↓gaC, ↓gaN, gaP, Nat.reduceEqDiff, Nat.reduceLeDiff, Nat.reduceAdd, Nat.reduceSub, Nat.reduceMul, Int.reduceLT, Int.reduceLE, Int.reduceEq, Int.reduceToNat, Int.reduceAdd, Int.reduceSub, Int.reduceMul, reduceCtorEq, ↓reduceIte, List.getD_cons_zero, List.getD_cons_succ, fillL, splice, List.take_zero, List.drop_zero, List.drop_succ_cons, List.take_succ_cons, List.drop_nil, List.take_nil, d1, d3, z1]
    repeat refine And.intro (by omega) ?_
    refine callP_of (cp_must (q := q) (e := 2) _) (fun v x3 g3 l3 k3 hC => ?_) (fun v x3 g3 l3 k3 hE => ?_) (by omega) (by omega)
    · obtain ⟨ht, k4⟩ := hC
      have ht := of_decide_eq_true ht
      simp only [↓gaW, ↓gaV, ↓gaC, ↓gaN, gaP, Nat.reduceEqDiff, Nat.reduceLeDiff, Nat.reduceAdd, Nat.reduceSub, Nat.reduceMul, Int.reduceLT, Int.reduceLE, Int.reduceEq, Int.reduceToNat, Int.reduceAdd, Int.reduceSub, Int.reduceMul, reduceCtorEq, ↓reduceIte, endP_r, res_t, res_nil]
      refine ⟨by omega, fun p hp hpq => by rw [k3 p (by omega) hpq, F2 p hp hpq], z.toNat, r, ?_, by omega, rfl, hR2.keep (Nat.le_refl _) (k4 q (by omega)) (fun p hp _ => k4 p (by omega))⟩
      rw [ehl]; simp only; rw [if_neg (by omega)]
    · obtain ⟨ht, rfl⟩ := hE
      have ht := of_decide_eq_false ht
      simp only [↓gaW, ↓gaV, ↓gaC, ↓gaN, gaP, Nat.reduceEqDiff, Nat.reduceLeDiff, Nat.reduceAdd, Nat.reduceSub, Nat.reduceMul, Int.reduceLT, Int.reduceLE, Int.reduceEq, Int.reduceToNat, Int.reduceAdd, Int.reduceSub, Int.reduceMul, reduceCtorEq, ↓reduceIte, endP_p]
      refine ⟨by omega, fun p hp hpq => by rw [k3 p (by omega) hpq, F2 p hp hpq], .inr ?_⟩
      rw [ehl]; simp only; rw [if_pos (by omega)]
  by_cases hy0 : ((y.toNat : Nat) : Int) = 130
  · have ehl := Fo.hl_130 (t := t0) (l := l') (show y.toNat = 130 by omega)
    have h09 : ¬ (130 : Int) = 129 := by omega
    simp only [↓gaW, ↓gaV, ↓gaC, ↓gaN, gaP, Nat.reduceEqDiff, Nat.reduceLeDiff, Nat.reduceAdd, Nat.reduceSub, Nat.reduceMul, Int.reduceLT, Int.reduceLE, Int.reduceEq, Int.reduceToNat, Int.reduceAdd, Int.reduceSub, Int.reduceMul, reduceCtorEq, ↓reduceIte, List.getD_cons_zero, List.getD_cons_succ, fillL, splice, List.take_zero, List.drop_zero, List.drop_succ_cons, List.take_succ_cons, List.drop_nil, List.take_nil, c1, c3, y1, hy0, w0, h09, decide_true, decide_false]
    repeat refine And.intro (by omega) ?_
    refine callP_of (cp_take (n := 2) (by omega) (by omega) hR1 (by omega)) (fun v x2 g2 l2 k2 hC => ?_) (fun v x2 g2 l2 k2 hE => ?_) (by omega) (by omega)
    case refine_2 =>
      obtain ⟨h1, rfl⟩ := hE
      simp only [↓gaW, ↓gaV, ↓gaC, ↓gaN, gaP, Nat.reduceEqDiff, Nat.reduceLeDiff, Nat.reduceAdd, Nat.reduceSub, Nat.reduceMul, Int.reduceLT, Int.reduceLE, Int.reduceEq, Int.reduceToNat, Int.reduceAdd, Int.reduceSub, Int.reduceMul, reduceCtorEq, ↓reduceIte, endP_p]
      refine ⟨by omega, fun p hp hpq => by rw [k2 p (by omega) hpq, k1 p hp hpq], .inl ?_⟩
      rw [ehl]
      rcases l' with _ | ⟨z, _ | ⟨u, r⟩⟩
      · rfl
      · rfl
      · simp only [List.length_cons] at h1; omega
    obtain ⟨hn2, hS2, hR2⟩ := hC
    obtain ⟨z, u, r, rfl⟩ : ∃ z u r, l' = z :: u :: r := by
      rcases l' with _ | ⟨z, _ | ⟨u, r⟩⟩
      · simp at hn2
      · simp at hn2
      · exact ⟨z, u, r, rfl⟩
    simp only [List.take_succ_cons, List.take_zero, List.drop_succ_cons, List.drop_zero] at hS2 hR2
    obtain ⟨a2, n2, c2', cl2, ro2, rfl, hn2', d1, d2, d3, d4⟩ := hS2.first
    have d4 := d4 u [] rfl
    simp only [List.length_cons, List.length_nil, Nat.zero_add] at hn2'
    subst hn2'
    have hzl := UInt8.toNat_lt z
    have hul := UInt8.toNat_lt u
    have z1 : IntKind.i64.wrap ((z.toNat : Nat) : Int) = ((z.toNat : Nat) : Int) := by rw [i64_w _ (by omega)]
    have u1 : IntKind.i64.wrap ((u.toNat : Nat) : Int) = ((u.toNat : Nat) : Int) := by rw [i64_w _ (by omega)]
    have F2 : ∀ p, p < nx → p ≠ q → g2 p = gt p := fun p hp hpq => by rw [k2 p (by omega) hpq, k1 p hp hpq]
    have o1 := shl_i64_8 z.toNat hzl
    have o2 := or_i64_8 z.toNat u.toNat hzl hul
    simp only [↓gaW, ↓gaV, ↓gaC, ↓gaN, gaP, Nat.reduceEqDiff, Nat.reduceLeDiff, Nat.reduceAdd, Nat.reduceSub, Nat.reduceMul, Int.reduceLT, Int.reduceLE, Int.reduceEq, Int.reduceToNat, Int.reduceAdd, Int.reduceSub, Int.reduceMul, reduceCtorEq, ↓reduceIte, List.getD_cons_zero, List.getD_cons_succ, fillL, splice, List.take_zero, List.drop_zero, List.drop_succ_cons, List.take_succ_cons, List.drop_nil, List.take_nil, d1, d3, d4, z1, u1, o1, o2]
    repeat refine And.intro (by omega) ?_
    refine callP_of (cp_must (q := q) (e := 2) _) (fun v x3 g3 l3 k3 hC => ?_) (fun v x3 g3 l3 k3 hE => ?_) (by omega) (by omega)
    · obtain ⟨ht, k4⟩ := hC
      have ht := of_decide_eq_true ht
      simp only [↓gaW, ↓gaV, ↓gaC, ↓gaN, gaP, Nat.reduceEqDiff, Nat.reduceLeDiff, Nat.reduceAdd, Nat.reduceSub, Nat.reduceMul, Int.reduceLT, Int.reduceLE, Int.reduceEq, Int.reduceToNat, Int.reduceAdd, Int.reduceSub, Int.reduceMul, reduceCtorEq, ↓reduceIte, endP_r, res_t, res_nil]
      refine ⟨by omega, fun p hp hpq => by rw [k3 p (by omega) hpq, F2 p hp hpq], z.toNat * 256 + u.toNat, r, ?_, by omega, rfl, hR2.keep (Nat.le_refl _) (k4 q (by omega)) (fun p hp _ => k4 p (by omega))⟩
      rw [ehl]; simp only; rw [if_neg (by omega)]
    · obtain ⟨ht, rfl⟩ := hE
      have ht := of_decide_eq_false ht
      simp only [↓gaW, ↓gaV, ↓gaC, ↓gaN, gaP, Nat.reduceEqDiff, Nat.reduceLeDiff, Nat.reduceAdd, Nat.reduceSub, Nat.reduceMul, Int.reduceLT, Int.reduceLE, Int.reduceEq, Int.reduceToNat, Int.reduceAdd, Int.reduceSub, Int.reduceMul, reduceCtorEq, ↓reduceIte, endP_p]
      refine ⟨by omega, fun p hp hpq => by rw [k3 p (by omega) hpq, F2 p hp hpq], .inr ?_⟩
      rw [ehl]; simp only; rw [if_pos (by omega)]
  · simp only [↓gaW, ↓gaV, ↓gaC, ↓gaN, gaP, Nat.reduceEqDiff, Nat.reduceLeDiff, Nat.reduceAdd, Nat.reduceSub, Nat.reduceMul, Int.reduceLT, Int.reduceLE, Int.reduceEq, Int.reduceToNat, Int.reduceAdd, Int.reduceSub, Int.reduceMul, reduceCtorEq, ↓reduceIte, List.getD_cons_zero, List.getD_cons_succ, fillL, splice, List.take_zero, List.drop_zero, List.drop_succ_cons, List.take_succ_cons, List.drop_nil, List.take_nil, c1, c3, y1, hy9, hy0, decide_true, decide_false]
    repeat refine And.intro (by omega) ?_
    refine callP_of (cp_must (q := q) (e := 2) _) (fun v x3 g3 l3 k3 hC => ?_) (fun v x3 g3 l3 k3 hE => ?_) (by omega) (by omega)
    · obtain ⟨ht, k4⟩ := hC
      have ht := of_decide_eq_true ht
      simp only [↓gaW, ↓gaV, ↓gaC, ↓gaN, gaP, Nat.reduceEqDiff, Nat.reduceLeDiff, Nat.reduceAdd, Nat.reduceSub, Nat.reduceMul, Int.reduceLT, Int.reduceLE, Int.reduceEq, Int.reduceToNat, Int.reduceAdd, Int.reduceSub, Int.reduceMul, reduceCtorEq, ↓reduceIte, endP_r, res_t, res_nil]
      refine ⟨by omega, fun p hp hpq => by rw [k3 p (by omega) hpq, k1 p hp hpq], y.toNat, l', ?_, by omega, rfl, hR1.keep (Nat.le_refl _) (k4 q (by omega)) (fun p hp _ => k4 p (by omega))⟩
      simp only [Fo.hl]; rw [if_pos (by omega)]
    · obtain ⟨ht, rfl⟩ := hE
      have ht := of_decide_eq_false ht
      simp only [↓gaW, ↓gaV, ↓gaC, ↓gaN, gaP, Nat.reduceEqDiff, Nat.reduceLeDiff, Nat.reduceAdd, Nat.reduceSub, Nat.reduceMul, Int.reduceLT, Int.reduceLE, Int.reduceEq, Int.reduceToNat, Int.reduceAdd, Int.reduceSub, Int.reduceMul, reduceCtorEq, ↓reduceIte, endP_p]
      refine ⟨by omega, fun p hp hpq => by rw [k3 p (by omega) hpq, k1 p hp hpq], .inr ?_⟩
      simp only [Fo.hl]; rw [if_neg (by omega), if_neg (by omega), if_neg (by omega)]
end
end Go.Ga

/- The first element of a reader's bytes. -/
namespace Go.Ga
open Go Go.Proofs
set_option linter.unusedSimpArgs false
set_option linter.unusedVariables false
set_option maxRecDepth 100000
attribute [local irreducible] appendK

/-- Where it ends: a node. -/
theorem end_elP {b q nx s : Nat} {gt : Nat → Option Blk} {f : Regs} {x' : Nat} {g' : Nat → Option Blk} {r : Except Nat (Fo.El × List UInt8)} {q4 : Nat} {cs : List Value} {ro : Bool} {E : Value → Nat → (Nat → Option Blk) → Prop} (h8 : f 4 = .pointer (some ⟨q4, 0, none⟩)) (hg : g' q4 = some (.cells cs ro)) (hc : 3 ≤ cs.length)
    (h1 : nx ≤ x') (h2 : ∀ n, n < nx → n ≠ q → g' n = gt n) {C : Value → Nat → (Nat → Option Blk) → Prop} (h3 : C (.agg (cs.take 3).toArray) x' g') : endP [.cN 4 3] b q nx gt C E .ret f ⟨x', b, g'⟩ := by
  rw [endP_r, res_cN h8 hg (by omega)]
  simp only [res_t, res_nil, Option.map_some, asO_e, one1, List.drop_zero]
  exact ⟨trivial, h1, h2, h3⟩



theorem cp_element : ∀ (M nx : Nat) (gt : Nat → Option Blk) (q s dp hi : Nat) (l : List UInt8), q < nx → hi ≤ nx → RdS hi gt q l s → l.length ≤ M → l.length ≤ 1000000 → dp ≤ 32 →
    Cp Try.prog 19 [.pointer (some ⟨q, 0, none⟩), .int .i64 (dp : Nat)] q nx gt
      (fun v x g => ∃ (y : Fo.El) (r : List UInt8), Fo.elem s (32 - dp) l = .ok (y, r) ∧ (∃ (B : Option Addr) (m d : Nat) (A : Option Addr) (k c : Nat) (ks : List Value), v = nodeV y.t B m d A k c ∧ NdL nx x g y B m d A k c ks) ∧ RdS hi g q r s)
      (fun v _ _ => ∃ e, Fo.elem s (32 - dp) l = .error e ∧ v = errV e) := by
  intro M
  induction M using Nat.strongRecOn with
  | ind M ih =>
  intro nx gt q s dp hi l hq hhi hR hM hl hdp
  refine Cp.of hmx r___tlv_reader__element (by simp [c___tlv_reader__element]) fun b hb hbq => ?_
  have hF : ∀ p, p < nx → upd gt nx (some (.cells [Value.int .i64 0, .slice none 0 0, .slice none 0 0] false)) p = gt p := fun p hp => by simp only [upd_e]; rw [if_neg (by omega)]
  have hb0 : upd gt nx (some (.cells [Value.int .i64 0, .slice none 0 0, .slice none 0 0] false)) nx = some (.cells [Value.int .i64 0, .slice none 0 0, .slice none 0 0] false) := by simp only [upd_e, if_true]
  have hR0 := hR.keep (nx' := hi) (Nat.le_refl _) (hF q hq) (fun p hp _ => hF p (by omega))
  simp only [c___tlv_reader__element, ↓gaW, ↓gaV, ↓gaC, ↓gaN, gaP, Nat.reduceEqDiff, Nat.reduceLeDiff, Nat.reduceAdd, Nat.reduceSub, Nat.reduceMul, Int.reduceLT, Int.reduceLE, Int.reduceEq, Int.reduceToNat, Int.reduceAdd, Int.reduceSub, Int.reduceMul, reduceCtorEq, ↓reduceIte, List.getD_cons_zero, List.getD_cons_succ, fillL, splice, List.take_zero, List.drop_zero, List.drop_succ_cons, List.take_succ_cons, List.drop_nil, List.take_nil, gaU]
  generalize upd gt nx (some (.cells [Value.int .i64 0, .slice none 0 0, .slice none 0 0] false)) = g0 at *
  refine callP_of (cp_take (n := 1) (by omega) (by omega) hR0 (by omega)) (fun v x1 g1 l1 k1 hC => ?_) (fun v x1 g1 l1 k1 hE => ?_) (by omega) (by omega)
  case refine_2 =>
    obtain ⟨h1, rfl⟩ := hE
    have hl0 : l = [] := List.eq_nil_of_length_eq_zero (by omega)
    subst hl0
    simp only [↓gaW, ↓gaV, ↓gaC, ↓gaN, gaP, Nat.reduceEqDiff, Nat.reduceLeDiff, Nat.reduceAdd, Nat.reduceSub, Nat.reduceMul, Int.reduceLT, Int.reduceLE, Int.reduceEq, Int.reduceToNat, Int.reduceAdd, Int.reduceSub, Int.reduceMul, reduceCtorEq, ↓reduceIte, endP_p]
    exact ⟨by omega, fun p hp hpq => by rw [k1 p (by omega) hpq, hF p hp], s, rfl, rfl⟩
  obtain ⟨hn1, hS1, hR1⟩ := hC
  obtain ⟨xb, r0, rfl⟩ : ∃ y l', l = y :: l' := by cases l with | nil => simp at hn1 | cons y l' => exact ⟨y, l', rfl⟩
  simp only [List.take_succ_cons, List.take_zero, List.drop_succ_cons, List.drop_zero] at hS1 hR1
  obtain ⟨a, n, c, cl, ro, rfl, hn, c1, c2, c3, _⟩ := hS1.first
  simp only [List.length_nil, Nat.zero_add] at hn
  subst hn
  simp only [List.length_cons] at hM hl
  have hxl := UInt8.toNat_lt xb
  have y1 : IntKind.i64.wrap ((xb.toNat : Nat) : Int) = ((xb.toNat : Nat) : Int) := by rw [i64_w _ (by omega)]
  obtain ⟨t, ht⟩ : ∃ t, t = xb.toNat := ⟨_, rfl⟩
  rw [← ht] at c3 y1 hxl
  have hb1 : g1 nx = some (.cells [Value.int .i64 0, .slice none 0 0, .slice none 0 0] false) := by rw [k1 nx (by omega) (by omega), hb0]
  have F1 : ∀ p, p < nx → p ≠ q → g1 p = gt p := fun p hp hpq => by rw [k1 p (by omega) hpq, hF p hp]
  simp only [↓gaW, ↓gaV, ↓gaC, ↓gaN, gaP, Nat.reduceEqDiff, Nat.reduceLeDiff, Nat.reduceAdd, Nat.reduceSub, Nat.reduceMul, Int.reduceLT, Int.reduceLE, Int.reduceEq, Int.reduceToNat, Int.reduceAdd, Int.reduceSub, Int.reduceMul, reduceCtorEq, ↓reduceIte, List.getD_cons_zero, List.getD_cons_succ, fillL, splice, List.take_zero, List.drop_zero, List.drop_succ_cons, List.take_succ_cons, List.drop_nil, List.take_nil, c1, c3, y1]
  repeat refine And.intro (by omega) ?_
  refine And.intro (node_cells _ _ _ _ _ _ _) ?_
  repeat refine And.intro (by omega) ?_
  obtain ⟨g2, hg2⟩ : ∃ g, g = upd (upd g1 x1 (some (.cells [Value.int .i64 0, .slice none 0 0, .slice none 0 0] false))) x1 (some (.cells [Value.int .i64 (t : Nat), .slice none 0 0, .slice none 0 0] false)) := ⟨_, rfl⟩
  have G2 : ∀ p, p < x1 → g2 p = g1 p := fun p hp => by rw [hg2]; simp only [upd_e]; rw [if_neg (by omega), if_neg (by omega)]
  have hq2 : g2 x1 = some (.cells [Value.int .i64 (t : Nat), .slice none 0 0, .slice none 0 0] false) := by rw [hg2]; simp only [upd_e, if_true]
  rw [← hg2]; clear hg2
  have hR2 := hR1.keep (nx' := hi) (Nat.le_refl _) (G2 q (by omega)) (fun p hp _ => G2 p (by omega))
  refine callK_of (ct_isTag (t : Nat)) (fun v x3 g3 l3 k3 hC => ?_) (by omega)
  obtain ⟨tg, rfl, htg⟩ := hC
  have hR3 := hR2.keep (nx' := hi) (Nat.le_refl _) (k3 q (by omega)) (fun p hp _ => k3 p (by omega))
  have hq3 : g3 x1 = some (.cells [Value.int .i64 (t : Nat), .slice none 0 0, .slice none 0 0] false) := by rw [k3 x1 (by omega), hq2]
  have hb3 : g3 nx = some (.cells [Value.int .i64 0, .slice none 0 0, .slice none 0 0] false) := by rw [k3 nx (by omega), G2 nx (by omega), hb1]
  have F3 : ∀ p, p < nx → p ≠ q → g3 p = gt p := fun p hp hpq => by rw [k3 p (by omega), G2 p (by omega), F1 p hp hpq]
  simp only [↓gaW, ↓gaV, ↓gaC, ↓gaN, gaP, Nat.reduceEqDiff, Nat.reduceLeDiff, Nat.reduceAdd, Nat.reduceSub, Nat.reduceMul, Int.reduceLT, Int.reduceLE, Int.reduceEq, Int.reduceToNat, Int.reduceAdd, Int.reduceSub, Int.reduceMul, reduceCtorEq, ↓reduceIte]
  refine callP_of (cp_must (q := q) (e := 2) tg) (fun v x4 g4 l4 k4 hC => ?_) (fun v x4 g4 l4 k4 hE => ?_) (by omega) (by omega)
  case refine_2 =>
    obtain ⟨rfl, rfl⟩ := hE
    simp only [↓gaW, ↓gaV, ↓gaC, ↓gaN, gaP, Nat.reduceEqDiff, Nat.reduceLeDiff, Nat.reduceAdd, Nat.reduceSub, Nat.reduceMul, Int.reduceLT, Int.reduceLE, Int.reduceEq, Int.reduceToNat, Int.reduceAdd, Int.reduceSub, Int.reduceMul, reduceCtorEq, ↓reduceIte, endP_p]
    refine ⟨by omega, fun p hp hpq => by rw [k4 p (by omega) hpq, F3 p hp hpq], 2, ?_, rfl⟩
    have hnt : ¬ Fo.tag ((t : Nat) : Int) := fun h => by have := htg.2 h; cases this
    have : t % 32 = 31 := by unfold Fo.tag at hnt; omega
    unfold Fo.elem
    have e : Fo.hd (xb :: r0) = .form := if_pos (by rw [← ht]; exact this)
    rw [e]
  obtain ⟨rfl, k4⟩ := hC
  have htag := htg.1 rfl
  have hhd : Fo.hd (xb :: r0) = Fo.hl t r0 := by
    unfold Fo.tag at htag
    rw [ht]; exact if_neg (by omega)
  have hR4 := hR3.keep (nx' := hi) (Nat.le_refl _) (k4 q (by omega)) (fun p hp _ => k4 p (by omega))
  simp only [↓gaW, ↓gaV, ↓gaC, ↓gaN, gaP, Nat.reduceEqDiff, Nat.reduceLeDiff, Nat.reduceAdd, Nat.reduceSub, Nat.reduceMul, Int.reduceLT, Int.reduceLE, Int.reduceEq, Int.reduceToNat, Int.reduceAdd, Int.reduceSub, Int.reduceMul, reduceCtorEq, ↓reduceIte]
  refine callP_of (cp_length t (by omega) (by omega) hR4) (fun v x5 g5 l5 k5 hC => ?_) (fun v x5 g5 l5 k5 hE => ?_) (by omega) (by omega)
  case refine_2 =>
    simp only [↓gaW, ↓gaV, ↓gaC, ↓gaN, gaP, Nat.reduceEqDiff, Nat.reduceLeDiff, Nat.reduceAdd, Nat.reduceSub, Nat.reduceMul, Int.reduceLT, Int.reduceLE, Int.reduceEq, Int.reduceToNat, Int.reduceAdd, Int.reduceSub, Int.reduceMul, reduceCtorEq, ↓reduceIte, endP_p]
    refine ⟨by omega, fun p hp hpq => by rw [k5 p (by omega) hpq, k4 p (by omega), F3 p hp hpq], ?_⟩
    rcases hE with ⟨h1, rfl⟩ | ⟨h1, rfl⟩
    · exact ⟨s, by unfold Fo.elem; rw [hhd, h1], rfl⟩
    · exact ⟨2, by unfold Fo.elem; rw [hhd, h1], rfl⟩
  obtain ⟨k, r, hhl, hk, rfl, hR5⟩ := hC
  have hq5 : g5 x1 = some (.cells [Value.int .i64 (t : Nat), .slice none 0 0, .slice none 0 0] false) := by rw [k5 x1 (by omega) (by omega), k4 x1 (by omega), hq3]
  have hb5 : g5 nx = some (.cells [Value.int .i64 0, .slice none 0 0, .slice none 0 0] false) := by rw [k5 nx (by omega) (by omega), k4 nx (by omega), hb3]
  have F5 : ∀ p, p < nx → p ≠ q → g5 p = gt p := fun p hp hpq => by rw [k5 p (by omega) hpq, k4 p (by omega), F3 p hp hpq]
  have hrl : r.length < r0.length := by
    have := Fo.hd_len (hhd.trans hhl)
    have := Fo.hn_le k
    simp only [List.length_cons] at *
    omega
  simp only [↓gaW, ↓gaV, ↓gaC, ↓gaN, gaP, Nat.reduceEqDiff, Nat.reduceLeDiff, Nat.reduceAdd, Nat.reduceSub, Nat.reduceMul, Int.reduceLT, Int.reduceLE, Int.reduceEq, Int.reduceToNat, Int.reduceAdd, Int.reduceSub, Int.reduceMul, reduceCtorEq, ↓reduceIte]
  refine callP_of (cp_take (n := k) (by omega) (by omega) hR5 (by omega)) (fun v x6 g6 l6 k6 hC => ?_) (fun v x6 g6 l6 k6 hE => ?_) (by omega) (by omega)
  case refine_2 =>
    obtain ⟨h1, rfl⟩ := hE
    simp only [↓gaW, ↓gaV, ↓gaC, ↓gaN, gaP, Nat.reduceEqDiff, Nat.reduceLeDiff, Nat.reduceAdd, Nat.reduceSub, Nat.reduceMul, Int.reduceLT, Int.reduceLE, Int.reduceEq, Int.reduceToNat, Int.reduceAdd, Int.reduceSub, Int.reduceMul, reduceCtorEq, ↓reduceIte, endP_p]
    exact ⟨by omega, fun p hp hpq => by rw [k6 p (by omega) hpq, F5 p hp hpq], s, by unfold Fo.elem; rw [hhd, hhl]; simp only; rw [if_pos h1], rfl⟩
  obtain ⟨hkr, hS6, hR6⟩ := hC
  have hq6 : g6 x1 = some (.cells [Value.int .i64 (t : Nat), .slice none 0 0, .slice none 0 0] false) := by rw [k6 x1 (by omega) (by omega), hq5]
  have hb6 : g6 nx = some (.cells [Value.int .i64 0, .slice none 0 0, .slice none 0 0] false) := by rw [k6 nx (by omega) (by omega), hb5]
  have F6 : ∀ p, p < nx → p ≠ q → g6 p = gt p := fun p hp hpq => by rw [k6 p (by omega) hpq, F5 p hp hpq]
  simp only [↓gaW, ↓gaV, ↓gaC, ↓gaN, gaP, Nat.reduceEqDiff, Nat.reduceLeDiff, Nat.reduceAdd, Nat.reduceSub, Nat.reduceMul, Int.reduceLT, Int.reduceLE, Int.reduceEq, Int.reduceToNat, Int.reduceAdd, Int.reduceSub, Int.reduceMul, reduceCtorEq, ↓reduceIte]
  refine callP_of (cp_must (q := q) (e := 4) _) (fun v x7 g7 l7 k7 hC => ?_) (fun v x7 g7 l7 k7 hE => ?_) (by omega) (by omega)
  case refine_2 =>
    obtain ⟨h1, rfl⟩ := hE
    have h1 := of_decide_eq_false h1
    simp only [↓gaW, ↓gaV, ↓gaC, ↓gaN, gaP, Nat.reduceEqDiff, Nat.reduceLeDiff, Nat.reduceAdd, Nat.reduceSub, Nat.reduceMul, Int.reduceLT, Int.reduceLE, Int.reduceEq, Int.reduceToNat, Int.reduceAdd, Int.reduceSub, Int.reduceMul, reduceCtorEq, ↓reduceIte, endP_p]
    exact ⟨by omega, fun p hp hpq => by rw [k7 p (by omega) hpq, F6 p hp hpq], 4, by unfold Fo.elem; rw [hhd, hhl]; simp only; rw [if_neg (by omega), if_pos (by omega)], rfl⟩
  obtain ⟨h1, k7⟩ := hC
  have h1 := of_decide_eq_true h1
  obtain ⟨d', hd'⟩ : ∃ d', 32 - dp = d' + 1 := ⟨31 - dp, by omega⟩
  rw [hd']
  have he : Fo.elem s (d' + 1) (xb :: r0) = if Fo.has (t : Nat) then (match Fo.KD d' (r.take k) with
      | .error e => .error e
      | .ok K => .ok (⟨t, [], K⟩, r.drop k)) else .ok (⟨t, r.take k, .nil⟩, r.drop k) := by
    unfold Fo.elem; rw [hhd, hhl]; simp only; rw [if_neg (by omega), if_neg (by omega)]; rfl
  rw [he]
  have hq7 : g7 x1 = some (.cells [Value.int .i64 (t : Nat), .slice none 0 0, .slice none 0 0] false) := by rw [k7 x1 (by omega), hq6]
  have hb7 : g7 nx = some (.cells [Value.int .i64 0, .slice none 0 0, .slice none 0 0] false) := by rw [k7 nx (by omega), hb6]
  have F7 : ∀ p, p < nx → p ≠ q → g7 p = gt p := fun p hp hpq => by rw [k7 p (by omega), F6 p hp hpq]
  have hR7 := hR6.keep (nx' := hi) (Nat.le_refl _) (k7 q (by omega)) (fun p hp _ => k7 p (by omega))
  have hS7 := hS6.keep (nx' := hi) (Nat.le_refl _) (fun p hp _ => k7 p (by omega))
  simp only [↓gaW, ↓gaV, ↓gaC, ↓gaN, gaP, Nat.reduceEqDiff, Nat.reduceLeDiff, Nat.reduceAdd, Nat.reduceSub, Nat.reduceMul, Int.reduceLT, Int.reduceLE, Int.reduceEq, Int.reduceToNat, Int.reduceAdd, Int.reduceSub, Int.reduceMul, reduceCtorEq, ↓reduceIte, hq7, List.getD_cons_zero]
  repeat refine And.intro (by omega) ?_
  refine callK_of (ct_holds (t : Nat)) (fun v x8 g8 l8 k8 hC => ?_) (by omega)
  subst hC
  have hq8 : g8 x1 = some (.cells [Value.int .i64 (t : Nat), .slice none 0 0, .slice none 0 0] false) := by rw [k8 x1 (by omega), hq7]
  have hb8 : g8 nx = some (.cells [Value.int .i64 0, .slice none 0 0, .slice none 0 0] false) := by rw [k8 nx (by omega), hb7]
  have F8 : ∀ p, p < nx → p ≠ q → g8 p = gt p := fun p hp hpq => by rw [k8 p (by omega), F7 p hp hpq]
  have hR8 := hR7.keep (nx' := hi) (Nat.le_refl _) (k8 q (by omega)) (fun p hp _ => k8 p (by omega))
  have hS8 := hS7.keep (nx' := hi) (Nat.le_refl _) (fun p hp _ => k8 p (by omega))
  clear hR hR0 hR1 hR2 hR3 hR4 hR5 hR6 hR7 hS1 hS6 hS7 k1 k3 k4 k5 k6 k7 k8 hq2 hq3 hq5 hq6 hq7 hb0 hb1 hb3 hb5 hb6 hb7 F1 F3 F5 F6 F7 G2 hF
  cases hw : Fo.has (t : Nat) with
  | false =>
    obtain ⟨A9, N9, c9, rfl, e1, e2, e3, e4, e5⟩ := hS8
    have hZ : ∀ p, p < x8 → upd g8 x8 (some (Blk.cells [] false)) p = g8 p := fun p hp => by simp only [upd_e]; rw [if_neg (by omega)]
    have hz : upd g8 x8 (some (Blk.cells [] false)) x8 = some (.cells [] false) := by simp only [upd_e, if_true]
    have hP1 := e4.keep (nx' := x8 + 1) (by omega) (fun p hp => hZ p (by omega))
    have e6 : rowOf ⟨x8 + 1, b, upd g8 x8 (some (Blk.cells [] false))⟩ A9 N9 = some ((r.take k).map u8V) := hP1.rowOf
    have hN9 : N9 ≤ k := by rw [← e1, List.length_take]; omega
    have hnx1 : (nx = x1) = False := by simp; omega
    simp only [↓gaW, ↓gaV, ↓gaC, ↓gaN, gaP, Nat.reduceEqDiff, Nat.reduceLeDiff, Nat.reduceAdd, Nat.reduceSub, Nat.reduceMul, Int.reduceLT, Int.reduceLE, Int.reduceEq, Int.reduceToNat, Int.reduceAdd, Int.reduceSub, Int.reduceMul, reduceCtorEq, ↓reduceIte, List.getD_cons_zero, List.getD_cons_succ, fillL, splice, List.take_zero, List.drop_zero, List.drop_succ_cons, List.take_succ_cons, List.drop_nil, List.take_nil, Bool.not_false, e6]
    refine app_lit (by omega) hz (by omega) (by rw [List.length_map, e1, Nat.mul_one]) (all_u8 _) (by omega) (by omega) fun A6 x6 g6 l6 k6 R6 => ?_
    rw [Nat.mul_one] at R6
    have hq6 : g6 x1 = some (.cells [Value.int .i64 (t : Nat), .slice none 0 0, .slice none 0 0] false) := by rw [k6 x1 (by omega), hZ x1 (by omega), hq8]
    have hb6 : g6 nx = some (.cells [Value.int .i64 0, .slice none 0 0, .slice none 0 0] false) := by rw [k6 nx (by omega), hZ nx (by omega), hb8]
    simp only [↓gaW, ↓gaV, ↓gaC, ↓gaN, gaP, Nat.reduceEqDiff, Nat.reduceLeDiff, Nat.reduceAdd, Nat.reduceSub, Nat.reduceMul, Int.reduceLT, Int.reduceLE, Int.reduceEq, Int.reduceToNat, Int.reduceAdd, Int.reduceSub, Int.reduceMul, reduceCtorEq, ↓reduceIte, List.getD_cons_zero, List.getD_cons_succ, fillL, splice, List.take_zero, List.drop_zero, List.drop_succ_cons, List.take_succ_cons, List.drop_nil, List.take_nil, hq6, hb6, hnx1]
    refine And.intro (by omega) (And.intro (all1 rfl) (And.intro (by omega) (And.intro (node_cells _ _ _ _ _ _ _) ?_)))
    obtain ⟨g9, hg9⟩ : ∃ g, g = upd (upd g6 x1 (some (.cells [Value.int .i64 (t : Nat), .slice A6 N9 N9, .slice none 0 0] false))) nx (some (.cells (nodeL (t : Nat) A6 N9 N9 none 0 0) false)) := ⟨_, rfl⟩
    have G9 : ∀ p, p ≠ x1 → p ≠ nx → g9 p = g6 p := fun p h1 h2 => by rw [hg9]; simp only [upd_e]; rw [if_neg h2, if_neg h1]
    have hc9 : g9 nx = some (.cells (nodeL (t : Nat) A6 N9 N9 none 0 0) false) := by rw [hg9]; simp only [upd_e, if_true]
    rw [← hg9]; clear hg9
    refine end_elP (s := s) (r := .error 0) (q4 := nx) (cs := nodeL (t : Nat) A6 N9 N9 none 0 0) (ro := false) (by first | (simp only [↓gaW, ↓gaV, ↓gaC, ↓gaN, gaP, Nat.reduceEqDiff, Nat.reduceLeDiff, Nat.reduceAdd, Nat.reduceSub, Nat.reduceMul, Int.reduceLT, Int.reduceLE, Int.reduceEq, Int.reduceToNat, Int.reduceAdd, Int.reduceSub, Int.reduceMul, reduceCtorEq, ↓reduceIte]; done) | (simp only [↓gaW, ↓gaV, ↓gaC, ↓gaN, gaP, Nat.reduceEqDiff, Nat.reduceLeDiff, Nat.reduceAdd, Nat.reduceSub, Nat.reduceMul, Int.reduceLT, Int.reduceLE, Int.reduceEq, Int.reduceToNat, Int.reduceAdd, Int.reduceSub, Int.reduceMul, reduceCtorEq, ↓reduceIte]; rfl)) hc9 (by simp) (by omega) (fun p hp hpq => by rw [G9 p (by omega) (by omega), k6 p (by omega), hZ p (by omega), F8 p hp hpq]) ?_
    refine ⟨_, _, rfl, ⟨A6, N9, N9, none, 0, 0, [], rfl, ⟨by simp only; omega, (R6.keep (Nat.le_refl _) fun p hp _ => G9 p (by omega) (by omega)).wid (by omega), Nat.le_refl _, .nil, Nat.le_refl _, rfl, rfl⟩⟩, ?_⟩
    exact hR8.keep (Nat.le_refl _) (by rw [G9 q (by omega) (by omega), k6 q (by omega), hZ q (by omega)]) (fun p hp _ => by rw [G9 p (by omega) (by omega), k6 p (by omega), hZ p (by omega)])
  | true =>
    obtain ⟨A9, N9, c9, rfl, e1, e2, e3, e4, e5⟩ := hS8
    have htl : (r.take k).length = k := by rw [List.length_take, Nat.min_eq_left (by omega)]
    have hN9 : N9 = k := by rw [← e1, htl]
    subst hN9
    have hZ : ∀ p, p < x8 → upd g8 x8 (some (Blk.cells [Value.slice A9 N9 c9, .int .i64 2] false)) p = g8 p := fun p hp => by simp only [upd_e]; rw [if_neg (by omega)]
    have hz : upd g8 x8 (some (Blk.cells [Value.slice A9 N9 c9, .int .i64 2] false)) x8 = some (.cells [Value.slice A9 N9 c9, .int .i64 2] false) := by simp only [upd_e, if_true]
    have hd2 : d' = 32 - (dp + 1) := by omega
    have iD : IntKind.i64.wrap ((dp : Int) + 1) = ((dp + 1 : Nat) : Int) := by rw [i64_w _ (by omega)]; omega
    have hnx1 : (nx = x1) = False := by simp; omega
    simp only [↓gaW, ↓gaV, ↓gaC, ↓gaN, gaP, Nat.reduceEqDiff, Nat.reduceLeDiff, Nat.reduceAdd, Nat.reduceSub, Nat.reduceMul, Int.reduceLT, Int.reduceLE, Int.reduceEq, Int.reduceToNat, Int.reduceAdd, Int.reduceSub, Int.reduceMul, reduceCtorEq, ↓reduceIte, List.getD_cons_zero, List.getD_cons_succ, fillL, splice, List.take_zero, List.drop_zero, List.drop_succ_cons, List.take_succ_cons, List.drop_nil, List.take_nil, Bool.not_true]
    generalize upd g8 x8 (some (Blk.cells [Value.slice A9 N9 c9, .int .i64 2] false)) = g9 at *
    refine loop_of (fun j f mm => ∃ (x9 hi9 N c' : Nat) (g : Nat → Option Blk) (Ak A' : Option Addr) (cs : List Value) (pre : Fo) (rem : List UInt8), j = rem.length ∧ rem.length ≤ r.length ∧ (Fo.KD d' (r.take N9) = match Fo.KD d' rem with
          | .error e => .error e
          | .ok K => .ok (pre.app K)) ∧ f 1 = .int .i64 (dp : Nat) ∧ f 4 = .pointer (some ⟨nx, 0, none⟩) ∧ f 5 = .pointer (some ⟨x1, 0, none⟩) ∧ f 7 = .pointer (some ⟨x8, 0, none⟩) ∧
          mm = ⟨x9, b, g⟩ ∧ x8 + 1 ≤ x9 ∧ (∀ p, p < x8 → p ≠ x1 → g p = g8 p) ∧ g x1 = some (.cells [Value.int .i64 (t : Nat), .slice none 0 0, .slice Ak N N] false) ∧ g x8 = some (.cells [Value.slice A' rem.length c', .int .i64 2] false) ∧ (rem ≠ [] → RdS hi g x8 rem 2) ∧ N = pre.len ∧ Own (x8 + 1) b x9 g 3 Ak N cs ∧ N + rem.length ≤ 1000000 ∧
          FoL (x8 + 1) hi9 g pre cs ∧ hi9 ≤ x9 ∧ (∀ a e, Ak = some a → a.spot = some e → hi9 ≤ a.block)) (r.take N9).length
      ⟨x8 + 1, x8 + 1, 0, c9, g9, none, A9, [], .nil, r.take N9, rfl, by omega, by cases Fo.KD d' (r.take N9) <;> rfl, (by first | (simp only [↓gaW, ↓gaV, ↓gaC, ↓gaN, gaP, Nat.reduceEqDiff, Nat.reduceLeDiff, Nat.reduceAdd, Nat.reduceSub, Nat.reduceMul, Int.reduceLT, Int.reduceLE, Int.reduceEq, Int.reduceToNat, Int.reduceAdd, Int.reduceSub, Int.reduceMul, reduceCtorEq, ↓reduceIte]; done) | (simp only [↓gaW, ↓gaV, ↓gaC, ↓gaN, gaP, Nat.reduceEqDiff, Nat.reduceLeDiff, Nat.reduceAdd, Nat.reduceSub, Nat.reduceMul, Int.reduceLT, Int.reduceLE, Int.reduceEq, Int.reduceToNat, Int.reduceAdd, Int.reduceSub, Int.reduceMul, reduceCtorEq, ↓reduceIte]; rfl)), (by first | (simp only [↓gaW, ↓gaV, ↓gaC, ↓gaN, gaP, Nat.reduceEqDiff, Nat.reduceLeDiff, Nat.reduceAdd, Nat.reduceSub, Nat.reduceMul, Int.reduceLT, Int.reduceLE, Int.reduceEq, Int.reduceToNat, Int.reduceAdd, Int.reduceSub, Int.reduceMul, reduceCtorEq, ↓reduceIte]; done) | (simp only [↓gaW, ↓gaV, ↓gaC, ↓gaN, gaP, Nat.reduceEqDiff, Nat.reduceLeDiff, Nat.reduceAdd, Nat.reduceSub, Nat.reduceMul, Int.reduceLT, Int.reduceLE, Int.reduceEq, Int.reduceToNat, Int.reduceAdd, Int.reduceSub, Int.reduceMul, reduceCtorEq, ↓reduceIte]; rfl)), (by first | (simp only [↓gaW, ↓gaV, ↓gaC, ↓gaN, gaP, Nat.reduceEqDiff, Nat.reduceLeDiff, Nat.reduceAdd, Nat.reduceSub, Nat.reduceMul, Int.reduceLT, Int.reduceLE, Int.reduceEq, Int.reduceToNat, Int.reduceAdd, Int.reduceSub, Int.reduceMul, reduceCtorEq, ↓reduceIte]; done) | (simp only [↓gaW, ↓gaV, ↓gaC, ↓gaN, gaP, Nat.reduceEqDiff, Nat.reduceLeDiff, Nat.reduceAdd, Nat.reduceSub, Nat.reduceMul, Int.reduceLT, Int.reduceLE, Int.reduceEq, Int.reduceToNat, Int.reduceAdd, Int.reduceSub, Int.reduceMul, reduceCtorEq, ↓reduceIte]; rfl)), (by first | (simp only [↓gaW, ↓gaV, ↓gaC, ↓gaN, gaP, Nat.reduceEqDiff, Nat.reduceLeDiff, Nat.reduceAdd, Nat.reduceSub, Nat.reduceMul, Int.reduceLT, Int.reduceLE, Int.reduceEq, Int.reduceToNat, Int.reduceAdd, Int.reduceSub, Int.reduceMul, reduceCtorEq, ↓reduceIte]; done) | (simp only [↓gaW, ↓gaV, ↓gaC, ↓gaN, gaP, Nat.reduceEqDiff, Nat.reduceLeDiff, Nat.reduceAdd, Nat.reduceSub, Nat.reduceMul, Int.reduceLT, Int.reduceLE, Int.reduceEq, Int.reduceToNat, Int.reduceAdd, Int.reduceSub, Int.reduceMul, reduceCtorEq, ↓reduceIte]; rfl)), rfl, by omega, fun p hp _ => hZ p hp, by rw [hZ x1 (by omega), hq8], by rw [hz, e1], fun hne => ⟨_, hz, ?_⟩, rfl, .nil, by omega, rfl, by omega, fun _ _ h => by cases h⟩ ?_
    · have S8 : SlB hi g8 q (.slice A9 N9 c9) (r.take N9) := ⟨A9, N9, c9, rfl, e1, e2, e3, e4, e5⟩
      exact S8.other (Nat.le_refl _) (fun p hp _ => hZ p (by omega)) (by omega) hne
    rintro j f mm ⟨x9, hi9, N, c', g, Ak, A', cs, pre, rem, hj, hrem, hKD, f1, f4, f5, f7, rfl, hx9, F9, hc1, hc8, hRd, hN, hOwn, hNr, hFo, hhi9, hAk⟩
    have F10 : ∀ p, p < nx → p ≠ q → g p = gt p := fun p hp hpq => by rw [F9 p (by omega) (by omega), F8 p hp hpq]
    have hb10 : g nx = some (.cells [Value.int .i64 0, .slice none 0 0, .slice none 0 0] false) := by rw [F9 nx (by omega) (by omega), hb8]
    have hblk := hOwn.blk
    by_cases hlt : (0 : Int) < (rem.length : Int)
    · have hne : rem ≠ [] := fun h => by rw [h] at hlt; simp at hlt
      have hR := hRd hne
      have hKs := Fo.KD_cons (d := d') hne
      simp only [↓gaW, ↓gaV, ↓gaC, ↓gaN, gaP, Nat.reduceEqDiff, Nat.reduceLeDiff, Nat.reduceAdd, Nat.reduceSub, Nat.reduceMul, Int.reduceLT, Int.reduceLE, Int.reduceEq, Int.reduceToNat, Int.reduceAdd, Int.reduceSub, Int.reduceMul, reduceCtorEq, ↓reduceIte, List.getD_cons_zero, List.getD_cons_succ, fillL, splice, List.take_zero, List.drop_zero, List.drop_succ_cons, List.take_succ_cons, List.drop_nil, List.take_nil, gaU, f7, hc8, hlt, decide_true]
      repeat refine And.intro (by omega) ?_
      obtain ⟨res, M1, hC, hcall⟩ := Fn.det (ih rem.length (by simp only [List.length_cons] at *; omega) x9 g x8 2 (dp + 1) hi rem (by omega) (by omega) hR (Nat.le_refl _) (by omega) (by omega) b (by omega) (by omega)) (by show b ≤ x9; omega)
      obtain ⟨x10, b10, g10⟩ := M1
      obtain ⟨hb10', hx10, k10, hres⟩ := hC
      have hx10 : x9 ≤ x10 := hx10
      have k10 : ∀ n, n < x9 → n ≠ x8 → g10 n = g n := k10
      have hb10' : b10 = b := hb10'
      subst hb10'
      rw [← hd2] at hres
      cases res with
      | pan v =>
        obtain ⟨e, hel, hv⟩ := hres
        subst hv
        rw [hel] at hKs
        simp only at hKs
        rw [hKs] at hKD
        simp only at hKD
        refine vc_tree_pan ⟨errV e, ⟨x10, b10, g10⟩, ?_, ?_, ?_⟩
        · simp only [↓gaW, ↓gaV, ↓gaC, ↓gaN, gaP, Nat.reduceEqDiff, Nat.reduceLeDiff, Nat.reduceAdd, Nat.reduceSub, Nat.reduceMul, Int.reduceLT, Int.reduceLE, Int.reduceEq, Int.reduceToNat, Int.reduceAdd, Int.reduceSub, Int.reduceMul, reduceCtorEq, ↓reduceIte, loopK_p, endP_p, hKD]
          exact ⟨by omega, fun p hp hpq => by rw [k10 p (by omega) (by omega), F10 p hp hpq], e, rfl, rfl⟩
        · refine ⟨rfl, hx10, fun p hp => ?_⟩
          have hp' : p < b10 := hp
          show g10 p = g p
          rw [k10 p (by omega) (by omega)]
        · refine tree_inv2 (fun S f mm => Held [(0, 43, .pointer (some ⟨x1, 2, none⟩)), (1, 44, .slice Ak N N), (2, 45, .pointer (some ⟨x8, 0, none⟩)), (3, 46, .int .i64 (dp : Nat)), (4, 47, .int .i64 ((dp + 1 : Nat) : Int))] S f ∧
            f 1 = .int .i64 (dp : Nat) ∧ f 5 = .pointer (some ⟨x1, 0, none⟩) ∧ f 7 = .pointer (some ⟨x8, 0, none⟩) ∧ S 5 = false ∧ mm = ⟨x9, b10, g⟩) rfl ?_ ?_ _ _ _ _ (by rw [lefts_zero]) ?_
          · rintro S i f mm ⟨h1, h2, h3, h4, h5, rfl⟩ hi hSi hdeps
            have hi' : i < 10 := hi
            rcases i with _ | _ | _ | _ | _ | _ | _ | _ | _ | _ | i
            · refine ⟨_, rfl, fun K hK _ => ?_⟩
              simp only [↓gaW, ↓gaV, ↓gaC, ↓gaN, gaP, Nat.reduceEqDiff, Nat.reduceLeDiff, Nat.reduceAdd, Nat.reduceSub, Nat.reduceMul, Int.reduceLT, Int.reduceLE, Int.reduceEq, Int.reduceToNat, Int.reduceAdd, Int.reduceSub, Int.reduceMul, reduceCtorEq, ↓reduceIte, h3]
              exact hK _ _ ⟨h1.step (by simp), by simp only [↓gaW, ↓gaV, ↓gaC, ↓gaN, gaP, Nat.reduceEqDiff, Nat.reduceLeDiff, Nat.reduceAdd, Nat.reduceSub, Nat.reduceMul, Int.reduceLT, Int.reduceLE, Int.reduceEq, Int.reduceToNat, Int.reduceAdd, Int.reduceSub, Int.reduceMul, reduceCtorEq, ↓reduceIte, h2], by simp only [↓gaW, ↓gaV, ↓gaC, ↓gaN, gaP, Nat.reduceEqDiff, Nat.reduceLeDiff, Nat.reduceAdd, Nat.reduceSub, Nat.reduceMul, Int.reduceLT, Int.reduceLE, Int.reduceEq, Int.reduceToNat, Int.reduceAdd, Int.reduceSub, Int.reduceMul, reduceCtorEq, ↓reduceIte, h3], by simp only [↓gaW, ↓gaV, ↓gaC, ↓gaN, gaP, Nat.reduceEqDiff, Nat.reduceLeDiff, Nat.reduceAdd, Nat.reduceSub, Nat.reduceMul, Int.reduceLT, Int.reduceLE, Int.reduceEq, Int.reduceToNat, Int.reduceAdd, Int.reduceSub, Int.reduceMul, reduceCtorEq, ↓reduceIte, h4], by simp [h5], rfl⟩
            · refine ⟨_, rfl, fun K hK _ => ?_⟩
              have q0 := h1.at 0 rfl (hdeps 0 (by decide))
              simp only at q0
              simp only [↓gaW, ↓gaV, ↓gaC, ↓gaN, gaP, Nat.reduceEqDiff, Nat.reduceLeDiff, Nat.reduceAdd, Nat.reduceSub, Nat.reduceMul, Int.reduceLT, Int.reduceLE, Int.reduceEq, Int.reduceToNat, Int.reduceAdd, Int.reduceSub, Int.reduceMul, reduceCtorEq, ↓reduceIte, q0, hc1, List.getD_cons_zero, List.getD_cons_succ]
              repeat refine And.intro (by omega) ?_
              exact hK _ _ ⟨h1.step (by simp), by simp only [↓gaW, ↓gaV, ↓gaC, ↓gaN, gaP, Nat.reduceEqDiff, Nat.reduceLeDiff, Nat.reduceAdd, Nat.reduceSub, Nat.reduceMul, Int.reduceLT, Int.reduceLE, Int.reduceEq, Int.reduceToNat, Int.reduceAdd, Int.reduceSub, Int.reduceMul, reduceCtorEq, ↓reduceIte, h2], by simp only [↓gaW, ↓gaV, ↓gaC, ↓gaN, gaP, Nat.reduceEqDiff, Nat.reduceLeDiff, Nat.reduceAdd, Nat.reduceSub, Nat.reduceMul, Int.reduceLT, Int.reduceLE, Int.reduceEq, Int.reduceToNat, Int.reduceAdd, Int.reduceSub, Int.reduceMul, reduceCtorEq, ↓reduceIte, h3], by simp only [↓gaW, ↓gaV, ↓gaC, ↓gaN, gaP, Nat.reduceEqDiff, Nat.reduceLeDiff, Nat.reduceAdd, Nat.reduceSub, Nat.reduceMul, Int.reduceLT, Int.reduceLE, Int.reduceEq, Int.reduceToNat, Int.reduceAdd, Int.reduceSub, Int.reduceMul, reduceCtorEq, ↓reduceIte, h4], by simp [h5], rfl⟩
            · refine ⟨_, rfl, fun K hK _ => ?_⟩
              simp only [↓gaW, ↓gaV, ↓gaC, ↓gaN, gaP, Nat.reduceEqDiff, Nat.reduceLeDiff, Nat.reduceAdd, Nat.reduceSub, Nat.reduceMul, Int.reduceLT, Int.reduceLE, Int.reduceEq, Int.reduceToNat, Int.reduceAdd, Int.reduceSub, Int.reduceMul, reduceCtorEq, ↓reduceIte, h4]
              exact hK _ _ ⟨h1.step (by simp), by simp only [↓gaW, ↓gaV, ↓gaC, ↓gaN, gaP, Nat.reduceEqDiff, Nat.reduceLeDiff, Nat.reduceAdd, Nat.reduceSub, Nat.reduceMul, Int.reduceLT, Int.reduceLE, Int.reduceEq, Int.reduceToNat, Int.reduceAdd, Int.reduceSub, Int.reduceMul, reduceCtorEq, ↓reduceIte, h2], by simp only [↓gaW, ↓gaV, ↓gaC, ↓gaN, gaP, Nat.reduceEqDiff, Nat.reduceLeDiff, Nat.reduceAdd, Nat.reduceSub, Nat.reduceMul, Int.reduceLT, Int.reduceLE, Int.reduceEq, Int.reduceToNat, Int.reduceAdd, Int.reduceSub, Int.reduceMul, reduceCtorEq, ↓reduceIte, h3], by simp only [↓gaW, ↓gaV, ↓gaC, ↓gaN, gaP, Nat.reduceEqDiff, Nat.reduceLeDiff, Nat.reduceAdd, Nat.reduceSub, Nat.reduceMul, Int.reduceLT, Int.reduceLE, Int.reduceEq, Int.reduceToNat, Int.reduceAdd, Int.reduceSub, Int.reduceMul, reduceCtorEq, ↓reduceIte, h4], by simp [h5], rfl⟩
            · refine ⟨_, rfl, fun K hK _ => ?_⟩
              simp only [↓gaW, ↓gaV, ↓gaC, ↓gaN, gaP, Nat.reduceEqDiff, Nat.reduceLeDiff, Nat.reduceAdd, Nat.reduceSub, Nat.reduceMul, Int.reduceLT, Int.reduceLE, Int.reduceEq, Int.reduceToNat, Int.reduceAdd, Int.reduceSub, Int.reduceMul, reduceCtorEq, ↓reduceIte, h2]
              exact hK _ _ ⟨h1.step (by simp), by simp only [↓gaW, ↓gaV, ↓gaC, ↓gaN, gaP, Nat.reduceEqDiff, Nat.reduceLeDiff, Nat.reduceAdd, Nat.reduceSub, Nat.reduceMul, Int.reduceLT, Int.reduceLE, Int.reduceEq, Int.reduceToNat, Int.reduceAdd, Int.reduceSub, Int.reduceMul, reduceCtorEq, ↓reduceIte, h2], by simp only [↓gaW, ↓gaV, ↓gaC, ↓gaN, gaP, Nat.reduceEqDiff, Nat.reduceLeDiff, Nat.reduceAdd, Nat.reduceSub, Nat.reduceMul, Int.reduceLT, Int.reduceLE, Int.reduceEq, Int.reduceToNat, Int.reduceAdd, Int.reduceSub, Int.reduceMul, reduceCtorEq, ↓reduceIte, h3], by simp only [↓gaW, ↓gaV, ↓gaC, ↓gaN, gaP, Nat.reduceEqDiff, Nat.reduceLeDiff, Nat.reduceAdd, Nat.reduceSub, Nat.reduceMul, Int.reduceLT, Int.reduceLE, Int.reduceEq, Int.reduceToNat, Int.reduceAdd, Int.reduceSub, Int.reduceMul, reduceCtorEq, ↓reduceIte, h4], by simp [h5], rfl⟩
            · refine ⟨_, rfl, fun K hK _ => ?_⟩
              have q0 := h1.at 3 rfl (hdeps 3 (by decide))
              simp only at q0
              simp only [↓gaW, ↓gaV, ↓gaC, ↓gaN, gaP, Nat.reduceEqDiff, Nat.reduceLeDiff, Nat.reduceAdd, Nat.reduceSub, Nat.reduceMul, Int.reduceLT, Int.reduceLE, Int.reduceEq, Int.reduceToNat, Int.reduceAdd, Int.reduceSub, Int.reduceMul, reduceCtorEq, ↓reduceIte, q0, iD]
              exact hK _ _ ⟨h1.step (by simp), by simp only [↓gaW, ↓gaV, ↓gaC, ↓gaN, gaP, Nat.reduceEqDiff, Nat.reduceLeDiff, Nat.reduceAdd, Nat.reduceSub, Nat.reduceMul, Int.reduceLT, Int.reduceLE, Int.reduceEq, Int.reduceToNat, Int.reduceAdd, Int.reduceSub, Int.reduceMul, reduceCtorEq, ↓reduceIte, h2], by simp only [↓gaW, ↓gaV, ↓gaC, ↓gaN, gaP, Nat.reduceEqDiff, Nat.reduceLeDiff, Nat.reduceAdd, Nat.reduceSub, Nat.reduceMul, Int.reduceLT, Int.reduceLE, Int.reduceEq, Int.reduceToNat, Int.reduceAdd, Int.reduceSub, Int.reduceMul, reduceCtorEq, ↓reduceIte, h3], by simp only [↓gaW, ↓gaV, ↓gaC, ↓gaN, gaP, Nat.reduceEqDiff, Nat.reduceLeDiff, Nat.reduceAdd, Nat.reduceSub, Nat.reduceMul, Int.reduceLT, Int.reduceLE, Int.reduceEq, Int.reduceToNat, Int.reduceAdd, Int.reduceSub, Int.reduceMul, reduceCtorEq, ↓reduceIte, h4], by simp [h5], rfl⟩
            · refine ⟨_, rfl, fun K hK hKp => ?_⟩
              have q0 := h1.at 2 rfl (hdeps 2 (by decide))
              have q1 := h1.at 4 rfl (hdeps 4 (by decide))
              simp only at q0 q1
              simp only [↓gaW, ↓gaV, ↓gaC, ↓gaN, gaP, Nat.reduceEqDiff, Nat.reduceLeDiff, Nat.reduceAdd, Nat.reduceSub, Nat.reduceMul, Int.reduceLT, Int.reduceLE, Int.reduceEq, Int.reduceToNat, Int.reduceAdd, Int.reduceSub, Int.reduceMul, reduceCtorEq, ↓reduceIte, q0, q1]
              refine callK_det hcall ?_
              exact hKp _ _ _ ⟨rfl, rfl⟩
            · rw [hdeps 5 (by decide)] at h5; cases h5
            · rw [hdeps 5 (by decide)] at h5; cases h5
            · rw [hdeps 5 (by decide)] at h5; cases h5
            · rw [hdeps 5 (by decide)] at h5; cases h5
            · omega
          · rintro S f mm ⟨h1, h2, h3, h4, h5, rfl⟩ hall
            rw [hall 5 (by decide)] at h5; cases h5
          · exact ⟨fun p hp hs => by simp at hs, f1, f5, f7, by simp, rfl⟩
      | ret v =>
        obtain ⟨y, r', hel, ⟨B', m', dd, A2, n2, c2', ks2, hv, hNd⟩, hR'⟩ := hres
        subst hv
        have hNd : NdL x9 x10 g10 y B' m' dd A2 n2 c2' ks2 := hNd
        rw [hel] at hKs
        simp only at hKs
        obtain ⟨hs1, hs2⟩ := Fo.elem_suf hel
        have hq10 : g10 x1 = some (.cells [Value.int .i64 (t : Nat), .slice none 0 0, .slice Ak N N] false) := by rw [k10 x1 (by omega) (by omega), hc1]
        obtain ⟨g11, hg11⟩ : ∃ g', g' = upd g10 x10 (some (.cells (nodeL y.t B' m' dd A2 n2 c2') false)) := ⟨_, rfl⟩
        have G11 : ∀ p, p < x10 → g11 p = g10 p := fun p hp => by rw [hg11]; simp only [upd_e]; rw [if_neg (by omega)]
        have hc11 : g11 x10 = some (.cells (nodeL y.t B' m' dd A2 n2 c2') false) := by rw [hg11]; simp only [upd_e, if_true]
        have e6 : rowOf ⟨x10 + 1, b10, g11⟩ (some ⟨x10, 0, none⟩) 3 = some (nodeL y.t B' m' dd A2 n2 c2') := (Row.lit (e := 1) (by omega) hc11 rfl).rowOf
        have hO11 : Own (x8 + 1) b10 (x10 + 1) g11 3 Ak N cs := by
          obtain ⟨o1, o2⟩ := hOwn
          refine ⟨o1, ?_⟩
          rcases o2 with o2 | ⟨qq, rfl, o3, o4, o5, o6⟩
          · exact .inl o2
          · exact .inr ⟨qq, rfl, o3, by omega, o5, by rw [G11 qq (by omega), k10 qq (by omega) (by omega), o6]⟩
        have hcsl : cs.length = N * 3 := hOwn.1
        obtain ⟨v7, M7, hC7, hap7⟩ := appendK_det (grow_fresh (e := 3) (bytes := 56) (k := 1) (news := nodeL y.t B' m' dd A2 n2 c2') (K := fun v M => v = .slice (some ⟨x10 + 1, 0, some 3⟩) (N + 1) (N + 1) ∧ ∃ g', M = ⟨x10 + 1 + 1, b10, g'⟩ ∧ (∀ i, i < x10 + 1 → (∀ a e, Ak = some a → a.spot = some e → a.block ≠ i) → g' i = g11 i) ∧ g' (x10 + 1) = some (.cells (cs ++ nodeL y.t B' m' dd A2 n2 c2') false))
          (.inl hO11) (by omega) (by omega) rfl (node_cells _ _ _ _ _ _ _) (by omega) (by omega) fun g' h1 h2 => ⟨rfl, g', rfl, h1, h2⟩)
        obtain ⟨rfl, g12, rfl, k12, c12⟩ := hC7
        have hq12 : g12 x1 = some (.cells [Value.int .i64 (t : Nat), .slice none 0 0, .slice Ak N N] false) := by rw [k12 x1 (by omega) (fun a e ha hs => by have := hblk a e ha hs; omega), G11 x1 (by omega), hq10]
        obtain ⟨g13, hg13⟩ : ∃ g', g' = upd g12 x1 (some (.cells [Value.int .i64 (t : Nat), .slice none 0 0, .slice (some ⟨x10 + 1, 0, some 3⟩) (N + 1) (N + 1)] false)) := ⟨_, rfl⟩
        have G13 : ∀ p, p ≠ x1 → g13 p = g12 p := fun p hp => by rw [hg13]; simp only [upd_e]; rw [if_neg hp]
        have hc13 : g13 x1 = some (.cells [Value.int .i64 (t : Nat), .slice none 0 0, .slice (some ⟨x10 + 1, 0, some 3⟩) (N + 1) (N + 1)] false) := by rw [hg13]; simp only [upd_e, if_true]
        have hlow : ∀ p, p < x8 + 1 → p ≠ x1 → g13 p = g10 p := fun p hp hpx => by rw [G13 p hpx, k12 p (by omega) (fun a e ha hs => by have := hblk a e ha hs; omega), G11 p (by omega)]
        refine vc_tree_same ⟨fun i => if i = 1 then .int .i64 (dp : Nat) else if i = 4 then .pointer (some ⟨nx, 0, none⟩) else if i = 5 then .pointer (some ⟨x1, 0, none⟩) else if i = 7 then .pointer (some ⟨x8, 0, none⟩) else botV, ⟨x10 + 1 + 1, b10, g13⟩, ?_, ?_, ?_⟩
        · obtain ⟨v', hv', A3, N3, c3', rfl, f1', f2', f3', f4', f5'⟩ := hR'
          have hv' : g10 x8 = _ := hv'
          simp only [↓gaW, ↓gaV, ↓gaC, ↓gaN, gaP, Nat.reduceEqDiff, Nat.reduceLeDiff, Nat.reduceAdd, Nat.reduceSub, Nat.reduceMul, Int.reduceLT, Int.reduceLE, Int.reduceEq, Int.reduceToNat, Int.reduceAdd, Int.reduceSub, Int.reduceMul, reduceCtorEq, ↓reduceIte, loopK_n]
          refine ⟨r'.length, by omega, x10 + 1 + 1, x10 + 1, N + 1, c3', g13, some ⟨x10 + 1, 0, some 3⟩, A3, cs ++ nodeL y.t B' m' dd A2 n2 c2', pre.app y.f, r', rfl, by omega, ?_, rfl, by omega, fun p hp hpx => ?_, hc13, ?_, fun hne' => ⟨.slice A3 N3 c3', ?_, ?_⟩, by rw [Fo.len_app, hN]; rfl, ?_, by omega, ?_, by omega, fun a e ha hs => by injection ha with ha; subst ha; exact Nat.le_refl _⟩
          · rw [hKD, hKs]
            cases Fo.KD d' r' with
            | error e => rfl
            | ok K => simp only [Fo.app_one]
          · rw [hlow p (by omega) hpx, k10 p (by omega) (by omega), F9 p hp hpx]
          · rw [hlow x8 (by omega) (by omega), hv', f1']; rfl
          · rw [hlow x8 (by omega) (by omega), hv']
          · exact SlB.keep (nx := hi) (g := g10) ⟨A3, N3, c3', rfl, f1', f2', f3', f4', f5'⟩ (Nat.le_refl _) (fun p hp _ => hlow p (by omega) (by omega))
          · exact Own.of (by simp only [List.length_append, hcsl, List.length_cons, List.length_nil]; omega) (by omega) (by omega) (by omega) (by rw [G13 _ (by omega), c12])
          · refine FoL.app (hFo.keep (by omega) fun p h1 h2 => ?_) ((hNd.one.keep (by omega) fun p h1 h2 => ?_).wid (by omega))
            · rw [G13 p (by omega), k12 p (by omega) (fun a e ha hs => by have := hAk a e ha hs; omega), G11 p (by omega), k10 p (by omega) (by omega)]
            · rw [G13 p (by omega), k12 p (by omega) (fun a e ha hs => by have := hblk a e ha hs; omega), G11 p (by omega)]
        · refine ⟨rfl, by show x9 ≤ x10 + 1 + 1; omega, fun p hp => ?_⟩
          have hp' : p < b10 := hp
          show g13 p = g p
          rw [hlow p (by omega) (by omega), k10 p (by omega) (by omega)]
        · refine tree_inv2 (fun S f mm => Held [(0, 43, .pointer (some ⟨x1, 2, none⟩)), (1, 44, .slice Ak N N), (2, 45, .pointer (some ⟨x8, 0, none⟩)), (3, 46, .int .i64 (dp : Nat)), (4, 47, .int .i64 ((dp + 1 : Nat) : Int)), (5, 48, nodeV y.t B' m' dd A2 n2 c2'), (6, 49, .slice (some ⟨x10, 0, none⟩) 1 1), (7, 50, .slice (some ⟨x10 + 1, 0, some 3⟩) (N + 1) (N + 1)), (8, 51, .pointer (some ⟨x1, 2, none⟩))] S f ∧
            (f 1 = .int .i64 (dp : Nat) ∧ f 4 = .pointer (some ⟨nx, 0, none⟩) ∧ f 5 = .pointer (some ⟨x1, 0, none⟩) ∧ f 7 = .pointer (some ⟨x8, 0, none⟩)) ∧ (S 6 = true → S 5 = true) ∧ (S 7 = true → S 6 = true ∧ S 1 = true) ∧ (S 9 = true → S 7 = true) ∧
            mm = if S 9 then ⟨x10 + 1 + 1, b10, g13⟩ else if S 7 then ⟨x10 + 1 + 1, b10, g12⟩ else if S 6 then ⟨x10 + 1, b10, g11⟩ else if S 5 then ⟨x10, b10, g10⟩ else ⟨x9, b10, g⟩) rfl ?_ ?_ _ _ _ _ (by rw [lefts_zero]) ?_
          · rintro S i f mm ⟨h1, ⟨h2, h3, h4, h5⟩, h6, h7, h9, hmm⟩ hi hSi hdeps
            have hi' : i < 10 := hi
            rcases i with _ | _ | _ | _ | _ | _ | _ | _ | _ | _ | i
            · refine ⟨_, rfl, fun K hK _ => ?_⟩
              simp only [↓gaW, ↓gaV, ↓gaC, ↓gaN, gaP, Nat.reduceEqDiff, Nat.reduceLeDiff, Nat.reduceAdd, Nat.reduceSub, Nat.reduceMul, Int.reduceLT, Int.reduceLE, Int.reduceEq, Int.reduceToNat, Int.reduceAdd, Int.reduceSub, Int.reduceMul, reduceCtorEq, ↓reduceIte, h4]
              exact hK _ _ ⟨h1.step (by simp), ⟨by simp only [↓gaW, ↓gaV, ↓gaC, ↓gaN, gaP, Nat.reduceEqDiff, Nat.reduceLeDiff, Nat.reduceAdd, Nat.reduceSub, Nat.reduceMul, Int.reduceLT, Int.reduceLE, Int.reduceEq, Int.reduceToNat, Int.reduceAdd, Int.reduceSub, Int.reduceMul, reduceCtorEq, ↓reduceIte, h2], by simp only [↓gaW, ↓gaV, ↓gaC, ↓gaN, gaP, Nat.reduceEqDiff, Nat.reduceLeDiff, Nat.reduceAdd, Nat.reduceSub, Nat.reduceMul, Int.reduceLT, Int.reduceLE, Int.reduceEq, Int.reduceToNat, Int.reduceAdd, Int.reduceSub, Int.reduceMul, reduceCtorEq, ↓reduceIte, h3], by simp only [↓gaW, ↓gaV, ↓gaC, ↓gaN, gaP, Nat.reduceEqDiff, Nat.reduceLeDiff, Nat.reduceAdd, Nat.reduceSub, Nat.reduceMul, Int.reduceLT, Int.reduceLE, Int.reduceEq, Int.reduceToNat, Int.reduceAdd, Int.reduceSub, Int.reduceMul, reduceCtorEq, ↓reduceIte, h4], by simp only [↓gaW, ↓gaV, ↓gaC, ↓gaN, gaP, Nat.reduceEqDiff, Nat.reduceLeDiff, Nat.reduceAdd, Nat.reduceSub, Nat.reduceMul, Int.reduceLT, Int.reduceLE, Int.reduceEq, Int.reduceToNat, Int.reduceAdd, Int.reduceSub, Int.reduceMul, reduceCtorEq, ↓reduceIte, h5]⟩, by simpa using h6, by simpa using h7, by simpa using h9, by simpa using hmm⟩
            · refine ⟨_, rfl, fun K hK _ => ?_⟩
              have q0 := h1.at 0 rfl (hdeps 0 (by decide))
              simp only at q0
              have s7 : S 7 = false := by cases h : S 7 with | false => rfl | true => rw [(h7 h).2] at hSi; cases hSi
              have s9 : S 9 = false := by cases h : S 9 with | false => rfl | true => rw [h9 h] at s7; cases s7
              have hcx : mm.get x1 = some (.cells [Value.int .i64 (t : Nat), .slice none 0 0, .slice Ak N N] false) := by
                rw [hmm, s9, s7]
                simp only [Bool.false_eq_true, if_false]
                split
                · show g11 x1 = _
                  rw [G11 x1 (by omega), hq10]
                · split
                  · exact hq10
                  · exact hc1
              simp only [↓gaW, ↓gaV, ↓gaC, ↓gaN, gaP, Nat.reduceEqDiff, Nat.reduceLeDiff, Nat.reduceAdd, Nat.reduceSub, Nat.reduceMul, Int.reduceLT, Int.reduceLE, Int.reduceEq, Int.reduceToNat, Int.reduceAdd, Int.reduceSub, Int.reduceMul, reduceCtorEq, ↓reduceIte, q0, hcx, List.getD_cons_zero, List.getD_cons_succ]
              repeat refine And.intro (by omega) ?_
              exact hK _ _ ⟨h1.step (by simp), ⟨by simp only [↓gaW, ↓gaV, ↓gaC, ↓gaN, gaP, Nat.reduceEqDiff, Nat.reduceLeDiff, Nat.reduceAdd, Nat.reduceSub, Nat.reduceMul, Int.reduceLT, Int.reduceLE, Int.reduceEq, Int.reduceToNat, Int.reduceAdd, Int.reduceSub, Int.reduceMul, reduceCtorEq, ↓reduceIte, h2], by simp only [↓gaW, ↓gaV, ↓gaC, ↓gaN, gaP, Nat.reduceEqDiff, Nat.reduceLeDiff, Nat.reduceAdd, Nat.reduceSub, Nat.reduceMul, Int.reduceLT, Int.reduceLE, Int.reduceEq, Int.reduceToNat, Int.reduceAdd, Int.reduceSub, Int.reduceMul, reduceCtorEq, ↓reduceIte, h3], by simp only [↓gaW, ↓gaV, ↓gaC, ↓gaN, gaP, Nat.reduceEqDiff, Nat.reduceLeDiff, Nat.reduceAdd, Nat.reduceSub, Nat.reduceMul, Int.reduceLT, Int.reduceLE, Int.reduceEq, Int.reduceToNat, Int.reduceAdd, Int.reduceSub, Int.reduceMul, reduceCtorEq, ↓reduceIte, h4], by simp only [↓gaW, ↓gaV, ↓gaC, ↓gaN, gaP, Nat.reduceEqDiff, Nat.reduceLeDiff, Nat.reduceAdd, Nat.reduceSub, Nat.reduceMul, Int.reduceLT, Int.reduceLE, Int.reduceEq, Int.reduceToNat, Int.reduceAdd, Int.reduceSub, Int.reduceMul, reduceCtorEq, ↓reduceIte, h5]⟩, by simpa using h6, by simp [s7], by simpa using h9, by simpa using hmm⟩
            · refine ⟨_, rfl, fun K hK _ => ?_⟩
              simp only [↓gaW, ↓gaV, ↓gaC, ↓gaN, gaP, Nat.reduceEqDiff, Nat.reduceLeDiff, Nat.reduceAdd, Nat.reduceSub, Nat.reduceMul, Int.reduceLT, Int.reduceLE, Int.reduceEq, Int.reduceToNat, Int.reduceAdd, Int.reduceSub, Int.reduceMul, reduceCtorEq, ↓reduceIte, h5]
              exact hK _ _ ⟨h1.step (by simp), ⟨by simp only [↓gaW, ↓gaV, ↓gaC, ↓gaN, gaP, Nat.reduceEqDiff, Nat.reduceLeDiff, Nat.reduceAdd, Nat.reduceSub, Nat.reduceMul, Int.reduceLT, Int.reduceLE, Int.reduceEq, Int.reduceToNat, Int.reduceAdd, Int.reduceSub, Int.reduceMul, reduceCtorEq, ↓reduceIte, h2], by simp only [↓gaW, ↓gaV, ↓gaC, ↓gaN, gaP, Nat.reduceEqDiff, Nat.reduceLeDiff, Nat.reduceAdd, Nat.reduceSub, Nat.reduceMul, Int.reduceLT, Int.reduceLE, Int.reduceEq, Int.reduceToNat, Int.reduceAdd, Int.reduceSub, Int.reduceMul, reduceCtorEq, ↓reduceIte, h3], by simp only [↓gaW, ↓gaV, ↓gaC, ↓gaN, gaP, Nat.reduceEqDiff, Nat.reduceLeDiff, Nat.reduceAdd, Nat.reduceSub, Nat.reduceMul, Int.reduceLT, Int.reduceLE, Int.reduceEq, Int.reduceToNat, Int.reduceAdd, Int.reduceSub, Int.reduceMul, reduceCtorEq, ↓reduceIte, h4], by simp only [↓gaW, ↓gaV, ↓gaC, ↓gaN, gaP, Nat.reduceEqDiff, Nat.reduceLeDiff, Nat.reduceAdd, Nat.reduceSub, Nat.reduceMul, Int.reduceLT, Int.reduceLE, Int.reduceEq, Int.reduceToNat, Int.reduceAdd, Int.reduceSub, Int.reduceMul, reduceCtorEq, ↓reduceIte, h5]⟩, by simpa using h6, by simpa using h7, by simpa using h9, by simpa using hmm⟩
            · refine ⟨_, rfl, fun K hK _ => ?_⟩
              simp only [↓gaW, ↓gaV, ↓gaC, ↓gaN, gaP, Nat.reduceEqDiff, Nat.reduceLeDiff, Nat.reduceAdd, Nat.reduceSub, Nat.reduceMul, Int.reduceLT, Int.reduceLE, Int.reduceEq, Int.reduceToNat, Int.reduceAdd, Int.reduceSub, Int.reduceMul, reduceCtorEq, ↓reduceIte, h2]
              exact hK _ _ ⟨h1.step (by simp), ⟨by simp only [↓gaW, ↓gaV, ↓gaC, ↓gaN, gaP, Nat.reduceEqDiff, Nat.reduceLeDiff, Nat.reduceAdd, Nat.reduceSub, Nat.reduceMul, Int.reduceLT, Int.reduceLE, Int.reduceEq, Int.reduceToNat, Int.reduceAdd, Int.reduceSub, Int.reduceMul, reduceCtorEq, ↓reduceIte, h2], by simp only [↓gaW, ↓gaV, ↓gaC, ↓gaN, gaP, Nat.reduceEqDiff, Nat.reduceLeDiff, Nat.reduceAdd, Nat.reduceSub, Nat.reduceMul, Int.reduceLT, Int.reduceLE, Int.reduceEq, Int.reduceToNat, Int.reduceAdd, Int.reduceSub, Int.reduceMul, reduceCtorEq, ↓reduceIte, h3], by simp only [↓gaW, ↓gaV, ↓gaC, ↓gaN, gaP, Nat.reduceEqDiff, Nat.reduceLeDiff, Nat.reduceAdd, Nat.reduceSub, Nat.reduceMul, Int.reduceLT, Int.reduceLE, Int.reduceEq, Int.reduceToNat, Int.reduceAdd, Int.reduceSub, Int.reduceMul, reduceCtorEq, ↓reduceIte, h4], by simp only [↓gaW, ↓gaV, ↓gaC, ↓gaN, gaP, Nat.reduceEqDiff, Nat.reduceLeDiff, Nat.reduceAdd, Nat.reduceSub, Nat.reduceMul, Int.reduceLT, Int.reduceLE, Int.reduceEq, Int.reduceToNat, Int.reduceAdd, Int.reduceSub, Int.reduceMul, reduceCtorEq, ↓reduceIte, h5]⟩, by simpa using h6, by simpa using h7, by simpa using h9, by simpa using hmm⟩
            · refine ⟨_, rfl, fun K hK _ => ?_⟩
              have q0 := h1.at 3 rfl (hdeps 3 (by decide))
              simp only at q0
              simp only [↓gaW, ↓gaV, ↓gaC, ↓gaN, gaP, Nat.reduceEqDiff, Nat.reduceLeDiff, Nat.reduceAdd, Nat.reduceSub, Nat.reduceMul, Int.reduceLT, Int.reduceLE, Int.reduceEq, Int.reduceToNat, Int.reduceAdd, Int.reduceSub, Int.reduceMul, reduceCtorEq, ↓reduceIte, q0, iD]
              exact hK _ _ ⟨h1.step (by simp), ⟨by simp only [↓gaW, ↓gaV, ↓gaC, ↓gaN, gaP, Nat.reduceEqDiff, Nat.reduceLeDiff, Nat.reduceAdd, Nat.reduceSub, Nat.reduceMul, Int.reduceLT, Int.reduceLE, Int.reduceEq, Int.reduceToNat, Int.reduceAdd, Int.reduceSub, Int.reduceMul, reduceCtorEq, ↓reduceIte, h2], by simp only [↓gaW, ↓gaV, ↓gaC, ↓gaN, gaP, Nat.reduceEqDiff, Nat.reduceLeDiff, Nat.reduceAdd, Nat.reduceSub, Nat.reduceMul, Int.reduceLT, Int.reduceLE, Int.reduceEq, Int.reduceToNat, Int.reduceAdd, Int.reduceSub, Int.reduceMul, reduceCtorEq, ↓reduceIte, h3], by simp only [↓gaW, ↓gaV, ↓gaC, ↓gaN, gaP, Nat.reduceEqDiff, Nat.reduceLeDiff, Nat.reduceAdd, Nat.reduceSub, Nat.reduceMul, Int.reduceLT, Int.reduceLE, Int.reduceEq, Int.reduceToNat, Int.reduceAdd, Int.reduceSub, Int.reduceMul, reduceCtorEq, ↓reduceIte, h4], by simp only [↓gaW, ↓gaV, ↓gaC, ↓gaN, gaP, Nat.reduceEqDiff, Nat.reduceLeDiff, Nat.reduceAdd, Nat.reduceSub, Nat.reduceMul, Int.reduceLT, Int.reduceLE, Int.reduceEq, Int.reduceToNat, Int.reduceAdd, Int.reduceSub, Int.reduceMul, reduceCtorEq, ↓reduceIte, h5]⟩, by simpa using h6, by simpa using h7, by simpa using h9, by simpa using hmm⟩
            · refine ⟨_, rfl, fun K hK hKp => ?_⟩
              have q0 := h1.at 2 rfl (hdeps 2 (by decide))
              have q1 := h1.at 4 rfl (hdeps 4 (by decide))
              simp only at q0 q1
              have s6 : S 6 = false := by cases h : S 6 with | false => rfl | true => rw [h6 h] at hSi; cases hSi
              have s7 : S 7 = false := by cases h : S 7 with | false => rfl | true => rw [(h7 h).1] at s6; cases s6
              have s9 : S 9 = false := by cases h : S 9 with | false => rfl | true => rw [h9 h] at s7; cases s7
              rw [hSi, s6, s7, s9] at hmm
              simp only [Bool.false_eq_true, if_false] at hmm
              subst hmm
              simp only [↓gaW, ↓gaV, ↓gaC, ↓gaN, gaP, Nat.reduceEqDiff, Nat.reduceLeDiff, Nat.reduceAdd, Nat.reduceSub, Nat.reduceMul, Int.reduceLT, Int.reduceLE, Int.reduceEq, Int.reduceToNat, Int.reduceAdd, Int.reduceSub, Int.reduceMul, reduceCtorEq, ↓reduceIte, q0, q1]
              refine callK_det hcall ?_
              simp only [↓gaW, ↓gaV, ↓gaC, ↓gaN, gaP, Nat.reduceEqDiff, Nat.reduceLeDiff, Nat.reduceAdd, Nat.reduceSub, Nat.reduceMul, Int.reduceLT, Int.reduceLE, Int.reduceEq, Int.reduceToNat, Int.reduceAdd, Int.reduceSub, Int.reduceMul, reduceCtorEq, ↓reduceIte]
              exact hK _ _ ⟨h1.step (by simp), ⟨by simp only [↓gaW, ↓gaV, ↓gaC, ↓gaN, gaP, Nat.reduceEqDiff, Nat.reduceLeDiff, Nat.reduceAdd, Nat.reduceSub, Nat.reduceMul, Int.reduceLT, Int.reduceLE, Int.reduceEq, Int.reduceToNat, Int.reduceAdd, Int.reduceSub, Int.reduceMul, reduceCtorEq, ↓reduceIte, h2], by simp only [↓gaW, ↓gaV, ↓gaC, ↓gaN, gaP, Nat.reduceEqDiff, Nat.reduceLeDiff, Nat.reduceAdd, Nat.reduceSub, Nat.reduceMul, Int.reduceLT, Int.reduceLE, Int.reduceEq, Int.reduceToNat, Int.reduceAdd, Int.reduceSub, Int.reduceMul, reduceCtorEq, ↓reduceIte, h3], by simp only [↓gaW, ↓gaV, ↓gaC, ↓gaN, gaP, Nat.reduceEqDiff, Nat.reduceLeDiff, Nat.reduceAdd, Nat.reduceSub, Nat.reduceMul, Int.reduceLT, Int.reduceLE, Int.reduceEq, Int.reduceToNat, Int.reduceAdd, Int.reduceSub, Int.reduceMul, reduceCtorEq, ↓reduceIte, h4], by simp only [↓gaW, ↓gaV, ↓gaC, ↓gaN, gaP, Nat.reduceEqDiff, Nat.reduceLeDiff, Nat.reduceAdd, Nat.reduceSub, Nat.reduceMul, Int.reduceLT, Int.reduceLE, Int.reduceEq, Int.reduceToNat, Int.reduceAdd, Int.reduceSub, Int.reduceMul, reduceCtorEq, ↓reduceIte, h5]⟩, by simp, by simp [s7], by simp [s9], by simp [s6, s7, s9]⟩
            · refine ⟨_, rfl, fun K hK _ => ?_⟩
              have s5 := hdeps 5 (by decide)
              have q0 := h1.at 5 rfl s5
              simp only at q0
              have s7 : S 7 = false := by cases h : S 7 with | false => rfl | true => rw [(h7 h).1] at hSi; cases hSi
              have s9 : S 9 = false := by cases h : S 9 with | false => rfl | true => rw [h9 h] at s7; cases s7
              rw [hSi, s5, s7, s9] at hmm
              simp only [Bool.false_eq_true, if_false, if_true] at hmm
              subst hmm
              simp only [↓gaW, ↓gaV, ↓gaC, ↓gaN, gaP, Nat.reduceEqDiff, Nat.reduceLeDiff, Nat.reduceAdd, Nat.reduceSub, Nat.reduceMul, Int.reduceLT, Int.reduceLE, Int.reduceEq, Int.reduceToNat, Int.reduceAdd, Int.reduceSub, Int.reduceMul, reduceCtorEq, ↓reduceIte, List.getD_cons_zero, List.getD_cons_succ, fillL, splice, List.take_zero, List.drop_zero, List.drop_succ_cons, List.take_succ_cons, List.drop_nil, List.take_nil, q0]
              repeat refine And.intro (by omega) ?_
              rw [← hg11]
              exact hK _ _ ⟨h1.step (by simp), ⟨by simp only [↓gaW, ↓gaV, ↓gaC, ↓gaN, gaP, Nat.reduceEqDiff, Nat.reduceLeDiff, Nat.reduceAdd, Nat.reduceSub, Nat.reduceMul, Int.reduceLT, Int.reduceLE, Int.reduceEq, Int.reduceToNat, Int.reduceAdd, Int.reduceSub, Int.reduceMul, reduceCtorEq, ↓reduceIte, h2], by simp only [↓gaW, ↓gaV, ↓gaC, ↓gaN, gaP, Nat.reduceEqDiff, Nat.reduceLeDiff, Nat.reduceAdd, Nat.reduceSub, Nat.reduceMul, Int.reduceLT, Int.reduceLE, Int.reduceEq, Int.reduceToNat, Int.reduceAdd, Int.reduceSub, Int.reduceMul, reduceCtorEq, ↓reduceIte, h3], by simp only [↓gaW, ↓gaV, ↓gaC, ↓gaN, gaP, Nat.reduceEqDiff, Nat.reduceLeDiff, Nat.reduceAdd, Nat.reduceSub, Nat.reduceMul, Int.reduceLT, Int.reduceLE, Int.reduceEq, Int.reduceToNat, Int.reduceAdd, Int.reduceSub, Int.reduceMul, reduceCtorEq, ↓reduceIte, h4], by simp only [↓gaW, ↓gaV, ↓gaC, ↓gaN, gaP, Nat.reduceEqDiff, Nat.reduceLeDiff, Nat.reduceAdd, Nat.reduceSub, Nat.reduceMul, Int.reduceLT, Int.reduceLE, Int.reduceEq, Int.reduceToNat, Int.reduceAdd, Int.reduceSub, Int.reduceMul, reduceCtorEq, ↓reduceIte, h5]⟩, by simp [s5], by simp [s7], by simp [s9], by simp [s5, s7, s9]⟩
            · refine ⟨_, rfl, fun K hK _ => ?_⟩
              have s6 := hdeps 6 (by decide)
              have s1 := hdeps 1 (by decide)
              have q0 := h1.at 1 rfl s1
              have q1 := h1.at 6 rfl s6
              simp only at q0 q1
              have s9 : S 9 = false := by cases h : S 9 with | false => rfl | true => rw [h9 h] at hSi; cases hSi
              rw [hSi, s6, s9] at hmm
              simp only [Bool.false_eq_true, if_false, if_true] at hmm
              subst hmm
              simp only [↓gaW, ↓gaV, ↓gaC, ↓gaN, gaP, Nat.reduceEqDiff, Nat.reduceLeDiff, Nat.reduceAdd, Nat.reduceSub, Nat.reduceMul, Int.reduceLT, Int.reduceLE, Int.reduceEq, Int.reduceToNat, Int.reduceAdd, Int.reduceSub, Int.reduceMul, reduceCtorEq, ↓reduceIte, q0, q1, e6]
              refine hap7 _ ?_
              exact hK _ _ ⟨h1.step (by simp), ⟨by simp only [↓gaW, ↓gaV, ↓gaC, ↓gaN, gaP, Nat.reduceEqDiff, Nat.reduceLeDiff, Nat.reduceAdd, Nat.reduceSub, Nat.reduceMul, Int.reduceLT, Int.reduceLE, Int.reduceEq, Int.reduceToNat, Int.reduceAdd, Int.reduceSub, Int.reduceMul, reduceCtorEq, ↓reduceIte, h2], by simp only [↓gaW, ↓gaV, ↓gaC, ↓gaN, gaP, Nat.reduceEqDiff, Nat.reduceLeDiff, Nat.reduceAdd, Nat.reduceSub, Nat.reduceMul, Int.reduceLT, Int.reduceLE, Int.reduceEq, Int.reduceToNat, Int.reduceAdd, Int.reduceSub, Int.reduceMul, reduceCtorEq, ↓reduceIte, h3], by simp only [↓gaW, ↓gaV, ↓gaC, ↓gaN, gaP, Nat.reduceEqDiff, Nat.reduceLeDiff, Nat.reduceAdd, Nat.reduceSub, Nat.reduceMul, Int.reduceLT, Int.reduceLE, Int.reduceEq, Int.reduceToNat, Int.reduceAdd, Int.reduceSub, Int.reduceMul, reduceCtorEq, ↓reduceIte, h4], by simp only [↓gaW, ↓gaV, ↓gaC, ↓gaN, gaP, Nat.reduceEqDiff, Nat.reduceLeDiff, Nat.reduceAdd, Nat.reduceSub, Nat.reduceMul, Int.reduceLT, Int.reduceLE, Int.reduceEq, Int.reduceToNat, Int.reduceAdd, Int.reduceSub, Int.reduceMul, reduceCtorEq, ↓reduceIte, h5]⟩, by simpa using h6, by simp [s6, s1], by simp [s9], by simp [s6, s9]⟩
            · refine ⟨_, rfl, fun K hK _ => ?_⟩
              simp only [↓gaW, ↓gaV, ↓gaC, ↓gaN, gaP, Nat.reduceEqDiff, Nat.reduceLeDiff, Nat.reduceAdd, Nat.reduceSub, Nat.reduceMul, Int.reduceLT, Int.reduceLE, Int.reduceEq, Int.reduceToNat, Int.reduceAdd, Int.reduceSub, Int.reduceMul, reduceCtorEq, ↓reduceIte, h4]
              exact hK _ _ ⟨h1.step (by simp), ⟨by simp only [↓gaW, ↓gaV, ↓gaC, ↓gaN, gaP, Nat.reduceEqDiff, Nat.reduceLeDiff, Nat.reduceAdd, Nat.reduceSub, Nat.reduceMul, Int.reduceLT, Int.reduceLE, Int.reduceEq, Int.reduceToNat, Int.reduceAdd, Int.reduceSub, Int.reduceMul, reduceCtorEq, ↓reduceIte, h2], by simp only [↓gaW, ↓gaV, ↓gaC, ↓gaN, gaP, Nat.reduceEqDiff, Nat.reduceLeDiff, Nat.reduceAdd, Nat.reduceSub, Nat.reduceMul, Int.reduceLT, Int.reduceLE, Int.reduceEq, Int.reduceToNat, Int.reduceAdd, Int.reduceSub, Int.reduceMul, reduceCtorEq, ↓reduceIte, h3], by simp only [↓gaW, ↓gaV, ↓gaC, ↓gaN, gaP, Nat.reduceEqDiff, Nat.reduceLeDiff, Nat.reduceAdd, Nat.reduceSub, Nat.reduceMul, Int.reduceLT, Int.reduceLE, Int.reduceEq, Int.reduceToNat, Int.reduceAdd, Int.reduceSub, Int.reduceMul, reduceCtorEq, ↓reduceIte, h4], by simp only [↓gaW, ↓gaV, ↓gaC, ↓gaN, gaP, Nat.reduceEqDiff, Nat.reduceLeDiff, Nat.reduceAdd, Nat.reduceSub, Nat.reduceMul, Int.reduceLT, Int.reduceLE, Int.reduceEq, Int.reduceToNat, Int.reduceAdd, Int.reduceSub, Int.reduceMul, reduceCtorEq, ↓reduceIte, h5]⟩, by simpa using h6, by simpa using h7, by simpa using h9, by simpa using hmm⟩
            · refine ⟨_, rfl, fun K hK _ => ?_⟩
              have s7 := hdeps 7 (by decide)
              have q0 := h1.at 7 rfl s7
              have q1 := h1.at 8 rfl (hdeps 8 (by decide))
              simp only at q0 q1
              rw [hSi, s7] at hmm
              simp only [Bool.false_eq_true, if_false, if_true] at hmm
              subst hmm
              simp only [↓gaW, ↓gaV, ↓gaC, ↓gaN, gaP, Nat.reduceEqDiff, Nat.reduceLeDiff, Nat.reduceAdd, Nat.reduceSub, Nat.reduceMul, Int.reduceLT, Int.reduceLE, Int.reduceEq, Int.reduceToNat, Int.reduceAdd, Int.reduceSub, Int.reduceMul, reduceCtorEq, ↓reduceIte, List.getD_cons_zero, List.getD_cons_succ, fillL, splice, List.take_zero, List.drop_zero, List.drop_succ_cons, List.take_succ_cons, List.drop_nil, List.take_nil, q0, q1, hq12]
              repeat refine And.intro (by omega) ?_
              refine And.intro (all1 rfl) ?_
              rw [← hg13]
              exact hK _ _ ⟨h1.nostep (by simp), ⟨h2, h3, h4, h5⟩, by simpa using h6, by simpa using h7, by simp [s7], by simp⟩
            · omega
          · rintro S f mm ⟨h1, ⟨h2, h3, h4, h5⟩, h6, h7, h9, hmm⟩ hall
            rw [hall 9 (by decide)] at hmm
            simp only [if_true] at hmm
            refine ⟨rfl, hmm, fun i => ?_⟩
            by_cases i1 : i = 1
            · subst i1; exact .inl (by simp only [↓gaW, ↓gaV, ↓gaC, ↓gaN, gaP, Nat.reduceEqDiff, Nat.reduceLeDiff, Nat.reduceAdd, Nat.reduceSub, Nat.reduceMul, Int.reduceLT, Int.reduceLE, Int.reduceEq, Int.reduceToNat, Int.reduceAdd, Int.reduceSub, Int.reduceMul, reduceCtorEq, ↓reduceIte, h2])
            by_cases i4 : i = 4
            · subst i4; exact .inl (by simp only [↓gaW, ↓gaV, ↓gaC, ↓gaN, gaP, Nat.reduceEqDiff, Nat.reduceLeDiff, Nat.reduceAdd, Nat.reduceSub, Nat.reduceMul, Int.reduceLT, Int.reduceLE, Int.reduceEq, Int.reduceToNat, Int.reduceAdd, Int.reduceSub, Int.reduceMul, reduceCtorEq, ↓reduceIte, h3])
            by_cases i5 : i = 5
            · subst i5; exact .inl (by simp only [↓gaW, ↓gaV, ↓gaC, ↓gaN, gaP, Nat.reduceEqDiff, Nat.reduceLeDiff, Nat.reduceAdd, Nat.reduceSub, Nat.reduceMul, Int.reduceLT, Int.reduceLE, Int.reduceEq, Int.reduceToNat, Int.reduceAdd, Int.reduceSub, Int.reduceMul, reduceCtorEq, ↓reduceIte, h4])
            by_cases i7 : i = 7
            · subst i7; exact .inl (by simp only [↓gaW, ↓gaV, ↓gaC, ↓gaN, gaP, Nat.reduceEqDiff, Nat.reduceLeDiff, Nat.reduceAdd, Nat.reduceSub, Nat.reduceMul, Int.reduceLT, Int.reduceLE, Int.reduceEq, Int.reduceToNat, Int.reduceAdd, Int.reduceSub, Int.reduceMul, reduceCtorEq, ↓reduceIte, h5])
            exact .inr (by simp only [if_neg i1, if_neg i4, if_neg i5, if_neg i7])
          · exact ⟨fun p hp hs => by simp at hs, ⟨f1, f4, f5, f7⟩, by simp, by simp, by simp, by simp⟩
    · have hr0 : rem = [] := List.eq_nil_of_length_eq_zero (by omega)
      subst hr0
      rw [Fo.KD_nil] at hKD
      simp only [Fo.app_nil] at hKD
      simp only [↓gaW, ↓gaV, ↓gaC, ↓gaN, gaP, Nat.reduceEqDiff, Nat.reduceLeDiff, Nat.reduceAdd, Nat.reduceSub, Nat.reduceMul, Int.reduceLT, Int.reduceLE, Int.reduceEq, Int.reduceToNat, Int.reduceAdd, Int.reduceSub, Int.reduceMul, reduceCtorEq, ↓reduceIte, List.getD_cons_zero, List.getD_cons_succ, fillL, splice, List.take_zero, List.drop_zero, List.drop_succ_cons, List.take_succ_cons, List.drop_nil, List.take_nil, gaU, f7, hc8, hlt, decide_false, f4, f5, hc1, hb10, hKD]
      repeat refine And.intro (by omega) ?_
      refine And.intro (node_cells _ _ _ _ _ _ _) ?_
      obtain ⟨g10, hg10⟩ : ∃ g', g' = upd g nx (some (.cells (nodeL (t : Nat) none 0 0 Ak N N) false)) := ⟨_, rfl⟩
      have G10 : ∀ p, p ≠ nx → g10 p = g p := fun p h2 => by rw [hg10]; simp only [upd_e]; rw [if_neg h2]
      have hc10 : g10 nx = some (.cells (nodeL (t : Nat) none 0 0 Ak N N) false) := by rw [hg10]; simp only [upd_e, if_true]
      rw [← hg10]; clear hg10
      refine end_elP (s := s) (r := .error 0) (q4 := nx) (cs := nodeL (t : Nat) none 0 0 Ak N N) (ro := false) (by simp only [↓gaW, ↓gaV, ↓gaC, ↓gaN, gaP, Nat.reduceEqDiff, Nat.reduceLeDiff, Nat.reduceAdd, Nat.reduceSub, Nat.reduceMul, Int.reduceLT, Int.reduceLE, Int.reduceEq, Int.reduceToNat, Int.reduceAdd, Int.reduceSub, Int.reduceMul, reduceCtorEq, ↓reduceIte, f4]) hc10 (by simp) (by omega) (fun p hp hpq => by rw [G10 p (by omega), F10 p hp hpq]) ?_
      refine ⟨_, _, rfl, ⟨none, 0, 0, Ak, N, N, cs, rfl, ⟨by simp only; omega, .nil, Nat.le_refl _, (hOwn.rowL.keep (Nat.le_refl _) fun p hp _ => G10 p (by omega)).wid (by omega), Nat.le_refl _, hN, (hFo.keep hhi9 fun p hp _ => G10 p (by omega)).wid (by omega)⟩⟩, ?_⟩
      exact hR8.keep (Nat.le_refl _) (by rw [G10 q (by omega), F9 q (by omega) (by omega)]) (fun p hp _ => by rw [G10 p (by omega), F9 p (by omega) (by omega)])
end Go.Ga

namespace Go.Ga
open Go Go.Proofs
set_option maxRecDepth 100000

def c_ReadA : RC :=
  (.ops [] [
  ⟨(some 2), (.op (.new [(.int .i64 0), (.slice none 0 0), (.slice none 0 0)])), none⟩,
  ⟨(some 3), (.op (.new [(.int .i64 0)])), none⟩])
def c_ReadB : RC :=
  (.seq
  (.ops [] [
  ⟨(some 5), (.op (.mv (.t 0))), none⟩,
  ⟨(some 6), (.op (.lenSl (.t 5))), none⟩,
  ⟨(some 7), (.op (.bin .gtr (.t 6) (.k (.int .i64 20000)))), none⟩])
  (.cond (.t 7)
  (.seq
  (.ops [] [
  ⟨(some 8), (.op (.build [(.int .i64 0), (.slice none 0 0), (.slice none 0 0)] [])), none⟩,
  ⟨none, (.op (.store 3 (.t 2) (.t 8))), none⟩,
  ⟨none, (.op (.store 1 (.t 3) (.k (.int .i64 5)))), none⟩])
  .ret)
  .skip))
def c_ReadC : RC :=
  (.seq
  (.ops [] [
  ⟨(some 10), (.op (.mv (.t 0))), none⟩,
  ⟨(some 11), (.op (.build [(.slice none 0 0), (.int .i64 0)] [(0, (1, (.t 10))), (1, (1, (.k (.int .i64 3))))])), none⟩,
  ⟨(some 12), (.op (.box (.t 11))), none⟩,
  ⟨(some 4), (.op (.mv (.t 12))), none⟩])
  (.seq
  (.ops [] [
  ⟨(some 13), (.op (.mv (.t 4))), none⟩,
  ⟨(some 14), (.call (.k (.func (.func 19) #[] #[])) [(.t 13), (.k (.int .i64 0))]), none⟩,
  ⟨none, (.op (.store 3 (.t 2) (.t 14))), none⟩])
  (.seq
  (.ops [] [
  ⟨(some 15), (.op (.mv (.t 4))), none⟩,
  ⟨(some 16), (.op (.chk (.t 15))), none⟩,
  ⟨(some 17), (.op (.fieldAddr 0 (.t 16))), none⟩,
  ⟨(some 18), (.op (.load1 (.t 17))), none⟩,
  ⟨(some 19), (.op (.lenSl (.t 18))), none⟩,
  ⟨(some 20), (.op (.bin .eql (.t 19) (.k (.int .i64 0)))), none⟩,
  ⟨(some 21), (.call (.k (.func (.func 20) #[] #[])) [(.t 20), (.k (.int .i64 2))]), none⟩])
  (.seq
  (.ops [] [
  ⟨(some 22), (.op (.loadN 3 (.t 2))), none⟩,
  ⟨none, (.op (.store 3 (.t 2) (.t 22))), none⟩,
  ⟨none, (.op (.store 1 (.t 3) (.k (.int .i64 0)))), none⟩])
  .ret))))
def c_ReadS : RC :=
  (.ops [] [
  ⟨(some 10), (.op (.build [(.int .i64 0), (.slice none 0 0), (.slice none 0 0)] [])), none⟩,
  ⟨(some 11), (.op (.mv (.t 2))), none⟩,
  ⟨none, (.op (.store 3 (.t 0) (.t 10))), none⟩,
  ⟨none, (.op (.store 1 (.t 1) (.t 11))), none⟩])
theorem r_ReadA : resolveCode Try.prog (Try.prog.funcs[10]!).ntmps [] (seqL ((Try.prog.funcs[10]!).body.getD .skip)) = some c_ReadA := by kernel_rfl
theorem r_ReadB : resolveCode Try.prog (Try.prog.funcs[10]!).ntmps [] (seqL (seqR ((Try.prog.funcs[10]!).body.getD .skip))) = some c_ReadB := by kernel_rfl
theorem r_ReadC : resolveCode Try.prog (Try.prog.funcs[10]!).ntmps [] (seqR (seqR (seqR ((Try.prog.funcs[10]!).body.getD .skip)))) = some c_ReadC := by kernel_rfl
theorem r_ReadS : resolveCode Try.prog 12 [] (cndL (seqR (seqR ((Try.prog.funcs[18]!).body.getD .skip)))) = some c_ReadS := by kernel_rfl
theorem b_Read : (Try.prog.funcs[10]!).body = some (.seq (seqL ((Try.prog.funcs[10]!).body.getD .skip)) (.seq (seqL (seqR ((Try.prog.funcs[10]!).body.getD .skip))) (.seq (.region (rgId (seqL (seqR (seqR ((Try.prog.funcs[10]!).body.getD .skip))))) #[⟨some 9, .makeFunc (.func 18) #[] #[.tmp 2, .tmp 3], (rgOp (seqL (seqR (seqR ((Try.prog.funcs[10]!).body.getD .skip)))) 0).type, (rgOp (seqL (seqR (seqR ((Try.prog.funcs[10]!).body.getD .skip)))) 0).pos, (rgOp (seqL (seqR (seqR ((Try.prog.funcs[10]!).body.getD .skip)))) 0).after, none⟩, ⟨none, .defer ⟨.value (.tmp 9), #[], #[]⟩, (rgOp (seqL (seqR (seqR ((Try.prog.funcs[10]!).body.getD .skip)))) 1).type, (rgOp (seqL (seqR (seqR ((Try.prog.funcs[10]!).body.getD .skip)))) 1).pos, (rgOp (seqL (seqR (seqR ((Try.prog.funcs[10]!).body.getD .skip)))) 1).after, none⟩] false) (seqR (seqR (seqR ((Try.prog.funcs[10]!).body.getD .skip))))))) := by kernel_rfl
theorem b_ReadS : (Try.prog.funcs[18]!).body = some (.seq (.region (rgId (seqL ((Try.prog.funcs[18]!).body.getD .skip))) (rec0 20 27 (rgOp (seqL ((Try.prog.funcs[18]!).body.getD .skip)) 0).type (rgOp (seqL ((Try.prog.funcs[18]!).body.getD .skip)) 1).type (rgOp (seqL ((Try.prog.funcs[18]!).body.getD .skip)) 2).type (rgOp (seqL ((Try.prog.funcs[18]!).body.getD .skip)) 3).type (rgOp (seqL ((Try.prog.funcs[18]!).body.getD .skip)) 4).type (rgOp (seqL ((Try.prog.funcs[18]!).body.getD .skip)) 5).type (rgOp (seqL ((Try.prog.funcs[18]!).body.getD .skip)) 6).type (rgOp (seqL ((Try.prog.funcs[18]!).body.getD .skip)) 0).pos (rgOp (seqL ((Try.prog.funcs[18]!).body.getD .skip)) 1).pos (rgOp (seqL ((Try.prog.funcs[18]!).body.getD .skip)) 2).pos (rgOp (seqL ((Try.prog.funcs[18]!).body.getD .skip)) 3).pos (rgOp (seqL ((Try.prog.funcs[18]!).body.getD .skip)) 4).pos (rgOp (seqL ((Try.prog.funcs[18]!).body.getD .skip)) 5).pos (rgOp (seqL ((Try.prog.funcs[18]!).body.getD .skip)) 6).pos (rgOp (seqL ((Try.prog.funcs[18]!).body.getD .skip)) 0).after (rgOp (seqL ((Try.prog.funcs[18]!).body.getD .skip)) 1).after (rgOp (seqL ((Try.prog.funcs[18]!).body.getD .skip)) 2).after (rgOp (seqL ((Try.prog.funcs[18]!).body.getD .skip)) 3).after (rgOp (seqL ((Try.prog.funcs[18]!).body.getD .skip)) 4).after (rgOp (seqL ((Try.prog.funcs[18]!).body.getD .skip)) 5).after (rgOp (seqL ((Try.prog.funcs[18]!).body.getD .skip)) 6).after) false) (.seq (.region (rgId (seqL (seqR ((Try.prog.funcs[18]!).body.getD .skip)))) (rec1 (rgOp (seqL (seqR ((Try.prog.funcs[18]!).body.getD .skip))) 0).type (rgOp (seqL (seqR ((Try.prog.funcs[18]!).body.getD .skip))) 0).pos (rgOp (seqL (seqR ((Try.prog.funcs[18]!).body.getD .skip))) 0).after) false) (.cond (.tmp 9) (cndL (seqR (seqR ((Try.prog.funcs[18]!).body.getD .skip)))) .skip))) := by kernel_rfl
theorem v_Read : resolveVars Try.prog (Try.prog.funcs[10]!).ntmps (Try.prog.funcs[10]!).results.toList = some [.cN 2 3, .c1 3] := by kernel_rfl
theorem n_Read : Try.prog.funcs[10]? = some (Try.prog.funcs[10]!) ∧ ((Try.prog.funcs[10]!).name == "runtime.NumGoroutine") = false ∧ (Try.prog.funcs[10]!).ntmps = 23 := by refine ⟨by kernel_rfl, by kernel_rfl, by kernel_rfl⟩
theorem n_ReadS : Try.prog.funcs[18]? = some (Try.prog.funcs[18]!) ∧ ((Try.prog.funcs[18]!).name == "runtime.NumGoroutine") = false ∧ (Try.prog.funcs[18]!).ntmps = 12 ∧ (Try.prog.funcs[18]!).results = #[] := by refine ⟨by kernel_rfl, by kernel_rfl, by kernel_rfl, by kernel_rfl⟩
theorem u_Read : Try.prog.underlying 27 = some (.int .i64) := by kernel_rfl
end Go.Ga

/- Read: a panic becomes an error. -/
namespace Go.Ga
open Go Go.Proofs
set_option linter.unusedSimpArgs false
set_option linter.unusedVariables false
set_option maxRecDepth 100000
attribute [local irreducible] appendK

def ctK (b nx : Nat) (gt : Nat → Option Blk) (C : Value → Nat → (Nat → Option Blk) → Prop) (res : Res) (m' : Mem) : Prop := ∃ v, res = .ret v ∧ m'.bar = b ∧ nx ≤ m'.next ∧ (∀ n, n < nx → m'.get n = gt n) ∧ C v m'.next m'.get
/-- Where it ends: a node, and an error. -/
theorem end_rdD {b nx : Nat} {gt : Nat → Option Blk} {f : Regs} {x' : Nat} {g' : Nat → Option Blk} {r : Except Nat Fo.El} {q q2 : Nat} {cs : List Value} {e : Value} {ro ro2 : Bool} (h2 : f 2 = .pointer (some ⟨q, 0, none⟩)) (h3 : f 3 = .pointer (some ⟨q2, 0, none⟩)) (hg : g' q = some (.cells cs ro)) (hc : 3 ≤ cs.length) (hg2 : g' q2 = some (.cells [e] ro2))
    (h4 : nx ≤ x') (h5 : ∀ n, n < nx → g' n = gt n) (h6 : ReadV x' g' (.tuple #[.agg (cs.take 3).toArray, e]) r) :
    asO (resVals f ⟨x', b, g'⟩ [.cN 2 3, .c1 3]) fun vs => ctK b nx gt (fun v x g => ReadV x g v r) (.ret (oneOrTuple vs)) ⟨x', b, g'⟩ := by
  rw [res_cN h2 hg (by omega), res_c1 h3 hg2 (by simp)]
  simp only [res_nil, Option.map_some, asO_e, one2, List.drop_zero, List.getD_cons_zero]
  exact ⟨_, rfl, rfl, h4, h5, h6⟩

theorem ct_Read {nx : Nat} {gt : Nat → Option Blk} {A : Option Addr} {n c : Nat} {l : List UInt8} (hA : Row nx gt 1 A n (l.map u8V)) (hc : n ≤ c) (hn : n ≤ 1000000) :
    Ct Try.prog 10 [.slice A n c] nx gt fun v x g => ReadV x g v (Fo.rd l) := by
  have hl : l.length = n := by simpa using hA.len
  have hA0 : A = none → n = 0 := fun h => by
    rcases Nat.eq_zero_or_pos n with h0 | h0
    · exact h0
    · obtain ⟨a, cl, ro, e, _⟩ := hA.cells h0
      rw [h] at e; cases e
  intro b hb
  show Fn Try.prog 10 [.slice A n c] ⟨nx, b, gt⟩ (ctK b nx gt fun v x g => ReadV x g v (Fo.rd l))
  refine fn_deferD hmx n_Read.1 n_Read.2.1 b_Read r_ReadA r_ReadB r_ReadC v_Read (by rw [n_Read.2.2]; omega) (by rw [n_Read.2.2]; omega) (by rw [n_Read.2.2]; omega) n_ReadS.2.1 n_ReadS.1 b_ReadS n_ReadS.2.2.1 n_ReadS.2.2.2 u_Read (z := .int .i64 0) (fun w => ?_) r_ReadS (by rw [n_Read.2.2]; simp) ?_
  · kernel_rfl
  have hF : ∀ p, p < nx → upd (upd gt nx (some (.cells [Value.int .i64 0, .slice none 0 0, .slice none 0 0] false))) (nx + 1) (some (.cells [Value.int .i64 0] false)) p = gt p := fun p hp => by simp only [upd_e]; rw [if_neg (by omega), if_neg (by omega)]
  have hb0 : upd (upd gt nx (some (.cells [Value.int .i64 0, .slice none 0 0, .slice none 0 0] false))) (nx + 1) (some (.cells [Value.int .i64 0] false)) nx = some (.cells [Value.int .i64 0, .slice none 0 0, .slice none 0 0] false) := by simp only [upd_e, if_true]; rw [if_neg (by omega)]
  have hc0 : upd (upd gt nx (some (.cells [Value.int .i64 0, .slice none 0 0, .slice none 0 0] false))) (nx + 1) (some (.cells [Value.int .i64 0] false)) (nx + 1) = some (.cells [Value.int .i64 0] false) := by simp only [upd_e, if_true]
  have hnn : (nx = nx + 1) = False := by simp
  have hnn' : (nx + 1 = nx) = False := by simp
  simp only [c_ReadA, c_ReadB, ↓gaW, ↓gaV, ↓gaC, ↓gaN, gaP, Nat.reduceEqDiff, Nat.reduceLeDiff, Nat.reduceAdd, Nat.reduceSub, Nat.reduceMul, Int.reduceLT, Int.reduceLE, Int.reduceEq, Int.reduceToNat, Int.reduceAdd, Int.reduceSub, Int.reduceMul, reduceCtorEq, ↓reduceIte, List.getD_cons_zero, List.getD_cons_succ, fillL, splice, List.take_zero, List.drop_zero, List.drop_succ_cons, List.take_succ_cons, List.drop_nil, List.take_nil, gaU, aK_n]
  generalize upd (upd gt nx (some (.cells [Value.int .i64 0, .slice none 0 0, .slice none 0 0] false))) (nx + 1) (some (.cells [Value.int .i64 0] false)) = g0 at *
  by_cases hbig : (20000 : Int) < (n : Int)
  · have e : Fo.rd l = .error 5 := by unfold Fo.rd; rw [if_pos (by omega)]
    simp only [↓gaW, ↓gaV, ↓gaC, ↓gaN, gaP, Nat.reduceEqDiff, Nat.reduceLeDiff, Nat.reduceAdd, Nat.reduceSub, Nat.reduceMul, Int.reduceLT, Int.reduceLE, Int.reduceEq, Int.reduceToNat, Int.reduceAdd, Int.reduceSub, Int.reduceMul, reduceCtorEq, ↓reduceIte, List.getD_cons_zero, List.getD_cons_succ, fillL, splice, List.take_zero, List.drop_zero, List.drop_succ_cons, List.take_succ_cons, List.drop_nil, List.take_nil, hbig, decide_true, hb0, hc0, hnn, hnn', e, bK_r]
    refine And.intro (by omega) (And.intro (node_cells _ _ _ _ _ _ _) (And.intro (by omega) (And.intro (all1 rfl) ?_)))
    exact end_rdD (q := nx) (q2 := nx + 1) (cs := nodeL 0 none 0 0 none 0 0) (e := .int .i64 5) (ro := false) (ro2 := false) (by first | (simp only [↓gaW, ↓gaV, ↓gaC, ↓gaN, gaP, Nat.reduceEqDiff, Nat.reduceLeDiff, Nat.reduceAdd, Nat.reduceSub, Nat.reduceMul, Int.reduceLT, Int.reduceLE, Int.reduceEq, Int.reduceToNat, Int.reduceAdd, Int.reduceSub, Int.reduceMul, reduceCtorEq, ↓reduceIte]; done) | (simp only [↓gaW, ↓gaV, ↓gaC, ↓gaN, gaP, Nat.reduceEqDiff, Nat.reduceLeDiff, Nat.reduceAdd, Nat.reduceSub, Nat.reduceMul, Int.reduceLT, Int.reduceLE, Int.reduceEq, Int.reduceToNat, Int.reduceAdd, Int.reduceSub, Int.reduceMul, reduceCtorEq, ↓reduceIte]; rfl)) (by first | (simp only [↓gaW, ↓gaV, ↓gaC, ↓gaN, gaP, Nat.reduceEqDiff, Nat.reduceLeDiff, Nat.reduceAdd, Nat.reduceSub, Nat.reduceMul, Int.reduceLT, Int.reduceLE, Int.reduceEq, Int.reduceToNat, Int.reduceAdd, Int.reduceSub, Int.reduceMul, reduceCtorEq, ↓reduceIte]; done) | (simp only [↓gaW, ↓gaV, ↓gaC, ↓gaN, gaP, Nat.reduceEqDiff, Nat.reduceLeDiff, Nat.reduceAdd, Nat.reduceSub, Nat.reduceMul, Int.reduceLT, Int.reduceLE, Int.reduceEq, Int.reduceToNat, Int.reduceAdd, Int.reduceSub, Int.reduceMul, reduceCtorEq, ↓reduceIte]; rfl)) (by simp only [upd_e, if_true]; rw [if_neg (by omega)]) (by simp) (by simp only [upd_e, if_true]) (by omega) (fun p hp => by simp only [upd_e]; rw [if_neg (by omega), if_neg (by omega), hF p hp]) rfl
  have hF1 : ∀ p, p < nx + 1 + 1 → upd g0 (nx + 1 + 1) (some (.cells [Value.slice A n c, .int .i64 3] false)) p = g0 p := fun p hp => by simp only [upd_e]; rw [if_neg (by omega)]
  have hr1 : upd g0 (nx + 1 + 1) (some (.cells [Value.slice A n c, .int .i64 3] false)) (nx + 1 + 1) = some (.cells [Value.slice A n c, .int .i64 3] false) := by simp only [upd_e, if_true]
  simp only [↓gaW, ↓gaV, ↓gaC, ↓gaN, gaP, Nat.reduceEqDiff, Nat.reduceLeDiff, Nat.reduceAdd, Nat.reduceSub, Nat.reduceMul, Int.reduceLT, Int.reduceLE, Int.reduceEq, Int.reduceToNat, Int.reduceAdd, Int.reduceSub, Int.reduceMul, reduceCtorEq, ↓reduceIte, List.getD_cons_zero, List.getD_cons_succ, fillL, splice, List.take_zero, List.drop_zero, List.drop_succ_cons, List.take_succ_cons, List.drop_nil, List.take_nil, gaU, hbig, decide_false, bK_n, c_ReadC]
  generalize upd g0 (nx + 1 + 1) (some (.cells [Value.slice A n c, .int .i64 3] false)) = g1 at *
  have F1 : ∀ p, p < nx → g1 p = gt p := fun p hp => by rw [hF1 p (by omega), hF p hp]
  have hb1 : g1 nx = some (.cells [Value.int .i64 0, .slice none 0 0, .slice none 0 0] false) := by rw [hF1 nx (by omega), hb0]
  have hc1 : g1 (nx + 1) = some (.cells [Value.int .i64 0] false) := by rw [hF1 (nx + 1) (by omega), hc0]
  have hN0 : 0 < n → ∃ a, A = some a ∧ a.block < nx := fun h => by
    obtain ⟨a, cl, ro, h1, h2, _⟩ := hA.cells h
    exact ⟨a, h1, h2⟩
  have hA1 := hA.keep (nx' := nx) (gt' := g1) (Nat.le_refl _) F1
  have hRd : RdS nx g1 (nx + 1 + 1) l 3 := ⟨_, hr1, A, n, c, rfl, hl, hc, hA0, hA1, fun h a ha => by
    obtain ⟨a', ha', hlt⟩ := hN0 h
    rw [ha] at ha'; injection ha' with ha'; subst ha'; omega⟩
  refine callP_of (cp_element n (nx + 1 + 1 + 1) g1 (nx + 1 + 1) 3 0 nx l (by omega) (by omega) hRd (by omega) (by omega) (by omega)) (fun v x2 g2 l2 k2 hC => ?_) (fun v x2 g2 l2 k2 hE => ?_) (by omega) (by omega)
  case refine_2 =>
    obtain ⟨e, hel, rfl⟩ := hE
    have er : Fo.rd l = .error e := by unfold Fo.rd; rw [if_neg (by omega), hel]
    have hb2 : g2 nx = some (.cells [Value.int .i64 0, .slice none 0 0, .slice none 0 0] false) := by rw [k2 nx (by omega) (by omega), hb1]
    have hc2 : g2 (nx + 1) = some (.cells [Value.int .i64 0] false) := by rw [k2 (nx + 1) (by omega) (by omega), hc1]
    rw [er]
    simp only [↓gaW, ↓gaV, ↓gaC, ↓gaN, gaP, Nat.reduceEqDiff, Nat.reduceLeDiff, Nat.reduceAdd, Nat.reduceSub, Nat.reduceMul, Int.reduceLT, Int.reduceLE, Int.reduceEq, Int.reduceToNat, Int.reduceAdd, Int.reduceSub, Int.reduceMul, reduceCtorEq, ↓reduceIte, deferK_p]
    refine ⟨_, rfl, ?_⟩
    simp only [c_ReadS, ↓gaW, ↓gaV, ↓gaC, ↓gaN, gaP, Nat.reduceEqDiff, Nat.reduceLeDiff, Nat.reduceAdd, Nat.reduceSub, Nat.reduceMul, Int.reduceLT, Int.reduceLE, Int.reduceEq, Int.reduceToNat, Int.reduceAdd, Int.reduceSub, Int.reduceMul, reduceCtorEq, ↓reduceIte, List.getD_cons_zero, List.getD_cons_succ, fillL, splice, List.take_zero, List.drop_zero, List.drop_succ_cons, List.take_succ_cons, List.drop_nil, List.take_nil, gaU, hb2, hc2, hnn, hnn']
    refine And.intro (by omega) (And.intro (node_cells _ _ _ _ _ _ _) (And.intro (by omega) (And.intro (all1 rfl) ?_)))
    exact end_rdD (q := nx) (q2 := nx + 1) (cs := nodeL 0 none 0 0 none 0 0) (e := .int .i64 (e : Nat)) (ro := false) (ro2 := false) (by first | (simp only [↓gaW, ↓gaV, ↓gaC, ↓gaN, gaP, Nat.reduceEqDiff, Nat.reduceLeDiff, Nat.reduceAdd, Nat.reduceSub, Nat.reduceMul, Int.reduceLT, Int.reduceLE, Int.reduceEq, Int.reduceToNat, Int.reduceAdd, Int.reduceSub, Int.reduceMul, reduceCtorEq, ↓reduceIte]; done) | (simp only [↓gaW, ↓gaV, ↓gaC, ↓gaN, gaP, Nat.reduceEqDiff, Nat.reduceLeDiff, Nat.reduceAdd, Nat.reduceSub, Nat.reduceMul, Int.reduceLT, Int.reduceLE, Int.reduceEq, Int.reduceToNat, Int.reduceAdd, Int.reduceSub, Int.reduceMul, reduceCtorEq, ↓reduceIte]; rfl)) (by first | (simp only [↓gaW, ↓gaV, ↓gaC, ↓gaN, gaP, Nat.reduceEqDiff, Nat.reduceLeDiff, Nat.reduceAdd, Nat.reduceSub, Nat.reduceMul, Int.reduceLT, Int.reduceLE, Int.reduceEq, Int.reduceToNat, Int.reduceAdd, Int.reduceSub, Int.reduceMul, reduceCtorEq, ↓reduceIte]; done) | (simp only [↓gaW, ↓gaV, ↓gaC, ↓gaN, gaP, Nat.reduceEqDiff, Nat.reduceLeDiff, Nat.reduceAdd, Nat.reduceSub, Nat.reduceMul, Int.reduceLT, Int.reduceLE, Int.reduceEq, Int.reduceToNat, Int.reduceAdd, Int.reduceSub, Int.reduceMul, reduceCtorEq, ↓reduceIte]; rfl)) (by simp only [upd_e, if_true]; rw [if_neg (by omega)]) (by simp) (by simp only [upd_e, if_true]) (by omega) (fun p hp => by simp only [upd_e]; rw [if_neg (by omega), if_neg (by omega), k2 p (by omega) (by omega), F1 p hp]) rfl
  obtain ⟨y, r, hel, ⟨B', m', dd, A', n', c', ks', rfl, hNd⟩, hR2⟩ := hC
  have hb2 : g2 nx = some (.cells [Value.int .i64 0, .slice none 0 0, .slice none 0 0] false) := by rw [k2 nx (by omega) (by omega), hb1]
  have hc2 : g2 (nx + 1) = some (.cells [Value.int .i64 0] false) := by rw [k2 (nx + 1) (by omega) (by omega), hc1]
  obtain ⟨v', hv', A3, N3, c3', rfl, f1', f2', f3', f4', f5'⟩ := hR2
  obtain ⟨g3, hg3⟩ : ∃ g', g' = upd g2 nx (some (.cells (nodeL y.t B' m' dd A' n' c') false)) := ⟨_, rfl⟩
  have G3 : ∀ p, p ≠ nx → g3 p = g2 p := fun p h2 => by rw [hg3]; simp only [upd_e]; rw [if_neg h2]
  have hb3 : g3 nx = some (.cells (nodeL y.t B' m' dd A' n' c') false) := by rw [hg3]; simp only [upd_e, if_true]
  have hv3 : g3 (nx + 1 + 1) = some (.cells [Value.slice A3 N3 c3', .int .i64 3] false) := by rw [G3 _ (by omega), hv']; rfl
  have hc3 : g3 (nx + 1) = some (.cells [Value.int .i64 0] false) := by rw [G3 _ (by omega), hc2]
  have hnn2 : (nx + 1 + 1 = nx) = False := by simp; omega
  have hv2 : g2 (nx + 1 + 1) = some (.cells [Value.slice A3 N3 c3', .int .i64 3] false) := hv'
  have F3 : ∀ p, p < nx → g3 p = gt p := fun p hp => by rw [G3 p (by omega), k2 p (by omega) (by omega), F1 p hp]
  simp only [↓gaW, ↓gaV, ↓gaC, ↓gaN, gaP, Nat.reduceEqDiff, Nat.reduceLeDiff, Nat.reduceAdd, Nat.reduceSub, Nat.reduceMul, Int.reduceLT, Int.reduceLE, Int.reduceEq, Int.reduceToNat, Int.reduceAdd, Int.reduceSub, Int.reduceMul, reduceCtorEq, ↓reduceIte, List.getD_cons_zero, List.getD_cons_succ, fillL, splice, List.take_zero, List.drop_zero, List.drop_succ_cons, List.take_succ_cons, List.drop_nil, List.take_nil, gaU, hb2, hnn2, hv2]
  refine And.intro (by omega) (And.intro (node_cells _ _ _ _ _ _ _) (And.intro (by omega) ?_))
  rw [← hg3]
  clear hg3
  refine callP_of (cp_must (q := nx + 1 + 1) (e := 2) _) (fun v x4 g4 l4 k4 hC => ?_) (fun v x4 g4 l4 k4 hE => ?_) (by omega) (by omega)
  case refine_2 =>
    obtain ⟨h1, rfl⟩ := hE
    have h1 := of_decide_eq_false h1
    have er : Fo.rd l = .error 2 := by
      unfold Fo.rd; rw [if_neg (by omega), hel]; simp only
      rw [if_neg (fun h => by rw [h] at f1'; simp at f1'; omega)]
    have hb4 : g4 nx = some (.cells (nodeL y.t B' m' dd A' n' c') false) := by rw [k4 nx (by omega) (by omega), hb3]
    have hc4 : g4 (nx + 1) = some (.cells [Value.int .i64 0] false) := by rw [k4 (nx + 1) (by omega) (by omega), hc3]
    rw [er]
    simp only [↓gaW, ↓gaV, ↓gaC, ↓gaN, gaP, Nat.reduceEqDiff, Nat.reduceLeDiff, Nat.reduceAdd, Nat.reduceSub, Nat.reduceMul, Int.reduceLT, Int.reduceLE, Int.reduceEq, Int.reduceToNat, Int.reduceAdd, Int.reduceSub, Int.reduceMul, reduceCtorEq, ↓reduceIte, deferK_p]
    refine ⟨_, rfl, ?_⟩
    simp only [c_ReadS, ↓gaW, ↓gaV, ↓gaC, ↓gaN, gaP, Nat.reduceEqDiff, Nat.reduceLeDiff, Nat.reduceAdd, Nat.reduceSub, Nat.reduceMul, Int.reduceLT, Int.reduceLE, Int.reduceEq, Int.reduceToNat, Int.reduceAdd, Int.reduceSub, Int.reduceMul, reduceCtorEq, ↓reduceIte, List.getD_cons_zero, List.getD_cons_succ, fillL, splice, List.take_zero, List.drop_zero, List.drop_succ_cons, List.take_succ_cons, List.drop_nil, List.take_nil, gaU, hb4, hc4, hnn, hnn']
    refine And.intro (by omega) (And.intro (node_cells _ _ _ _ _ _ _) (And.intro (by omega) (And.intro (all1 rfl) ?_)))
    exact end_rdD (q := nx) (q2 := nx + 1) (cs := nodeL 0 none 0 0 none 0 0) (e := .int .i64 2) (ro := false) (ro2 := false) (by first | (simp only [↓gaW, ↓gaV, ↓gaC, ↓gaN, gaP, Nat.reduceEqDiff, Nat.reduceLeDiff, Nat.reduceAdd, Nat.reduceSub, Nat.reduceMul, Int.reduceLT, Int.reduceLE, Int.reduceEq, Int.reduceToNat, Int.reduceAdd, Int.reduceSub, Int.reduceMul, reduceCtorEq, ↓reduceIte]; done) | (simp only [↓gaW, ↓gaV, ↓gaC, ↓gaN, gaP, Nat.reduceEqDiff, Nat.reduceLeDiff, Nat.reduceAdd, Nat.reduceSub, Nat.reduceMul, Int.reduceLT, Int.reduceLE, Int.reduceEq, Int.reduceToNat, Int.reduceAdd, Int.reduceSub, Int.reduceMul, reduceCtorEq, ↓reduceIte]; rfl)) (by first | (simp only [↓gaW, ↓gaV, ↓gaC, ↓gaN, gaP, Nat.reduceEqDiff, Nat.reduceLeDiff, Nat.reduceAdd, Nat.reduceSub, Nat.reduceMul, Int.reduceLT, Int.reduceLE, Int.reduceEq, Int.reduceToNat, Int.reduceAdd, Int.reduceSub, Int.reduceMul, reduceCtorEq, ↓reduceIte]; done) | (simp only [↓gaW, ↓gaV, ↓gaC, ↓gaN, gaP, Nat.reduceEqDiff, Nat.reduceLeDiff, Nat.reduceAdd, Nat.reduceSub, Nat.reduceMul, Int.reduceLT, Int.reduceLE, Int.reduceEq, Int.reduceToNat, Int.reduceAdd, Int.reduceSub, Int.reduceMul, reduceCtorEq, ↓reduceIte]; rfl)) (by simp only [upd_e, if_true]; rw [if_neg (by omega)]) (by simp) (by simp only [upd_e, if_true]) (by omega) (fun p hp => by simp only [upd_e]; rw [if_neg (by omega), if_neg (by omega), k4 p (by omega) (by omega), F3 p hp]) rfl
  obtain ⟨h1, k4⟩ := hC
  have h1 := of_decide_eq_true h1
  have er : Fo.rd l = .ok y := by
    unfold Fo.rd; rw [if_neg (by omega), hel]; simp only
    rw [if_pos (List.eq_nil_of_length_eq_zero (by omega))]
  have hb4 : g4 nx = some (.cells (nodeL y.t B' m' dd A' n' c') false) := by rw [k4 nx (by omega), hb3]
  have hc4 : g4 (nx + 1) = some (.cells [Value.int .i64 0] false) := by rw [k4 (nx + 1) (by omega), hc3]
  rw [er]
  simp only [↓gaW, ↓gaV, ↓gaC, ↓gaN, gaP, Nat.reduceEqDiff, Nat.reduceLeDiff, Nat.reduceAdd, Nat.reduceSub, Nat.reduceMul, Int.reduceLT, Int.reduceLE, Int.reduceEq, Int.reduceToNat, Int.reduceAdd, Int.reduceSub, Int.reduceMul, reduceCtorEq, ↓reduceIte, List.getD_cons_zero, List.getD_cons_succ, fillL, splice, List.take_zero, List.drop_zero, List.drop_succ_cons, List.take_succ_cons, List.drop_nil, List.take_nil, gaU, hb4, hc4, hnn, hnn', deferK_r]
  repeat refine And.intro (by omega) ?_
  refine And.intro (node_cells _ _ _ _ _ _ _) (And.intro (by omega) (And.intro (all1 rfl) ?_))
  refine end_rdD (q := nx) (q2 := nx + 1) (cs := nodeL y.t B' m' dd A' n' c') (e := .int .i64 0) (ro := false) (ro2 := false) (by first | (simp only [↓gaW, ↓gaV, ↓gaC, ↓gaN, gaP, Nat.reduceEqDiff, Nat.reduceLeDiff, Nat.reduceAdd, Nat.reduceSub, Nat.reduceMul, Int.reduceLT, Int.reduceLE, Int.reduceEq, Int.reduceToNat, Int.reduceAdd, Int.reduceSub, Int.reduceMul, reduceCtorEq, ↓reduceIte]; done) | (simp only [↓gaW, ↓gaV, ↓gaC, ↓gaN, gaP, Nat.reduceEqDiff, Nat.reduceLeDiff, Nat.reduceAdd, Nat.reduceSub, Nat.reduceMul, Int.reduceLT, Int.reduceLE, Int.reduceEq, Int.reduceToNat, Int.reduceAdd, Int.reduceSub, Int.reduceMul, reduceCtorEq, ↓reduceIte]; rfl)) (by first | (simp only [↓gaW, ↓gaV, ↓gaC, ↓gaN, gaP, Nat.reduceEqDiff, Nat.reduceLeDiff, Nat.reduceAdd, Nat.reduceSub, Nat.reduceMul, Int.reduceLT, Int.reduceLE, Int.reduceEq, Int.reduceToNat, Int.reduceAdd, Int.reduceSub, Int.reduceMul, reduceCtorEq, ↓reduceIte]; done) | (simp only [↓gaW, ↓gaV, ↓gaC, ↓gaN, gaP, Nat.reduceEqDiff, Nat.reduceLeDiff, Nat.reduceAdd, Nat.reduceSub, Nat.reduceMul, Int.reduceLT, Int.reduceLE, Int.reduceEq, Int.reduceToNat, Int.reduceAdd, Int.reduceSub, Int.reduceMul, reduceCtorEq, ↓reduceIte]; rfl)) (by simp only [upd_e, if_true]; rw [if_neg (by omega)]) (by simp) (by simp only [upd_e, if_true]) (by omega) (fun p hp => by simp only [upd_e]; rw [if_neg (by omega), if_neg (by omega), k4 p (by omega), F3 p hp]) ?_
  refine ⟨B', m', dd, A', n', c', ks', rfl, (hNd.keep (x' := x4) (by omega) fun p h1 h2 => ?_).r⟩
  simp only [upd_e]; rw [if_neg (by omega), if_neg (by omega), k4 p (by omega), G3 p (by omega)]
end Go.Ga

/- The laws TlvReads and TlvWrites. -/
namespace Go.Ga
open Go Go.Proofs
set_option linter.unusedSimpArgs false
set_option linter.unusedVariables false
set_option maxRecDepth 100000

theorem rd_one : Fo.rd [48, 3, 2, 1, 5] = .ok ⟨48, [], .cons 2 [5] .nil .nil⟩ := by kernel_rfl
theorem rd_two : Fo.rd [48, 3, 2, 2, 5] = .error 2 := by kernel_rfl

/-- A node in a block of its own. -/
theorem boxed {g : Nat → Option Blk} {x : Nat} {cs ds : List Value} : ∃ g', g' = upd (upd g x (some (.cells cs false))) x (some (.cells ds false)) ∧ (∀ p, p < x → g' p = g p) ∧ g' x = some (.cells ds false) :=
  ⟨_, rfl, fun p hp => by simp only [upd_e]; rw [if_neg (by omega), if_neg (by omega)], by simp only [upd_e, if_true]⟩

section
variable {nx : Nat} {gt : Nat → Option Blk}

theorem ct_awake04 : Ct Try.prog 9 [] nx gt fun v _ _ => v = .bool true := by
  refine Ct.of hmx r_lanyardlaw04_awake (by simp [c_lanyardlaw04_awake]) fun b hb => ?_
  have h1 : ∀ (x : Nat) (g : Nat → Option Blk), Row (x + 1) (upd g x (some (.cells [.int .u8 48, .int .u8 3, .int .u8 2, .int .u8 1, .int .u8 5] false))) 1 (some ⟨x, 0, none⟩) 5 (([48, 3, 2, 1, 5] : List UInt8).map u8V) := fun x g => Row.lit (by omega) (by simp only [upd_e, if_true]; rfl) rfl
  have h2 : ∀ (x : Nat) (g : Nat → Option Blk), Row (x + 1) (upd g x (some (.cells [.int .u8 48, .int .u8 3, .int .u8 2, .int .u8 2, .int .u8 5] false))) 1 (some ⟨x, 0, none⟩) 5 (([48, 3, 2, 2, 5] : List UInt8).map u8V) := fun x g => Row.lit (by omega) (by simp only [upd_e, if_true]; rfl) rfl
  have hF : ∀ (x : Nat) (g : Nat → Option Blk) (cs : List Value) p, p < x → upd g x (some (.cells cs false)) p = g p := fun x g cs p hp => by simp only [upd_e]; rw [if_neg (by omega)]
  simp only [c_lanyardlaw04_awake, ↓gaW, ↓gaV, ↓gaC, ↓gaN, gaP, Nat.reduceEqDiff, Nat.reduceLeDiff, Nat.reduceAdd, Nat.reduceSub, Nat.reduceMul, Int.reduceLT, Int.reduceLE, Int.reduceEq, Int.reduceToNat, Int.reduceAdd, Int.reduceSub, Int.reduceMul, reduceCtorEq, ↓reduceIte, List.getD_cons_zero, List.getD_cons_succ, fillL, splice, List.take_zero, List.drop_zero, List.drop_succ_cons, List.take_succ_cons, List.drop_nil, List.take_nil, gaU]
  refine callK_of (ct_Read (h1 _ _) (Nat.le_refl _) (by omega)) (fun v x1 g1 l1 k1 hC => ?_) (by omega)
  rw [rd_one] at hC
  obtain ⟨B, m, d, A, n, c, ks, rfl, hN⟩ := hC
  have F1 : ∀ p, p < nx → g1 p = gt p := fun p hp => by rw [k1 p (by omega), hF _ _ _ p (by omega)]
  have hn1 : n = 1 := hN.len
  simp only [↓gaW, ↓gaV, ↓gaC, ↓gaN, gaP, Nat.reduceEqDiff, Nat.reduceLeDiff, Nat.reduceAdd, Nat.reduceSub, Nat.reduceMul, Int.reduceLT, Int.reduceLE, Int.reduceEq, Int.reduceToNat, Int.reduceAdd, Int.reduceSub, Int.reduceMul, reduceCtorEq, ↓reduceIte, List.getD_cons_zero, List.getD_cons_succ, fillL, splice, List.take_zero, List.drop_zero, List.drop_succ_cons, List.take_succ_cons, List.drop_nil, List.take_nil, gaU]
  refine And.intro (by omega) (And.intro (by omega) (And.intro (by omega) (And.intro (node_cells _ _ _ _ _ _ _) ?_)))
  obtain ⟨g2, e2, G2, hb2⟩ := boxed (g := g1) (x := x1) (cs := [Value.int .i64 0, .slice none 0 0, .slice none 0 0]) (ds := nodeL 48 B m d A n c)
  rw [← e2]; clear e2
  have hN2 := hN.keep (x' := x1 + 1) (by omega) G2
  refine callK_of (ct_Write (x := ⟨48, [], .cons 2 [5] .nil .nil⟩) (by decide) hN2) (fun v x3 g3 l3 k3 hC => ?_) (by omega)
  rw [Fo.wr_rd rd_one] at hC
  obtain ⟨A3, N3, rfl, hN3, r3⟩ := hC
  have F3 : ∀ p, p < nx → g3 p = gt p := fun p hp => by rw [k3 p (by omega), G2 p (by omega), F1 p hp]
  have hb3 : g3 x1 = some (.cells (nodeL 48 B m d A n c) false) := by rw [k3 x1 (by omega), hb2]
  simp only [↓gaW, ↓gaV, ↓gaC, ↓gaN, gaP, Nat.reduceEqDiff, Nat.reduceLeDiff, Nat.reduceAdd, Nat.reduceSub, Nat.reduceMul, Int.reduceLT, Int.reduceLE, Int.reduceEq, Int.reduceToNat, Int.reduceAdd, Int.reduceSub, Int.reduceMul, reduceCtorEq, ↓reduceIte, List.getD_cons_zero, List.getD_cons_succ, fillL, splice, List.take_zero, List.drop_zero, List.drop_succ_cons, List.take_succ_cons, List.drop_nil, List.take_nil, gaU]
  have r4 := r3.keep (nx' := x3 + 1) (by omega) (hF x3 g3 [.int .u8 48, .int .u8 3, .int .u8 2, .int .u8 2, .int .u8 5])
  repeat refine And.intro (by omega) ?_
  refine callK_of (ct_Read (h2 _ _) (Nat.le_refl _) (by omega)) (fun v x5 g5 l5 k5 hC => ?_) (by omega)
  rw [rd_two] at hC
  have hC : v = _ := hC
  subst hC
  have F5 : ∀ p, p < nx → g5 p = gt p := fun p hp => by rw [k5 p (by omega), hF _ _ _ p (by omega), F3 p hp]
  have hb5 : g5 x1 = some (.cells (nodeL 48 B m d A n c) false) := by rw [k5 x1 (by omega), hF _ _ _ x1 (by omega), hb3]
  have r5 := r4.keep l5 k5
  obtain ⟨g6, e6, G6, hb6⟩ := boxed (g := g5) (x := x5) (cs := [Value.int .i64 0, .slice none 0 0, .slice none 0 0]) (ds := nodeL 0 none 0 0 none 0 0)
  have hx15 : (x1 = x5) = False := by simp; omega
  have r6 := r5.keep (nx' := x5 + 1) (gt' := g6) (by omega) G6
  have e7 : rowOf ⟨x5 + 1, b, g6⟩ A3 N3 = some _ := r6.rowOf
  have hb7 : g6 x1 = some (.cells (nodeL 48 B m d A n c) false) := by rw [G6 x1 (by omega), hb5]
  have hs : (([48, 3, 2, 1, 5] : List UInt8) == [48, 3, 2, 1, 5]) = true := by decide
  subst hn1
  have hbs : bytesOf [u8V 48, u8V 3, u8V 2, u8V 1, u8V 5] = some [48, 3, 2, 1, 5] := bytesOf_map [48, 3, 2, 1, 5]
  simp only [↓gaW, ↓gaV, ↓gaC, ↓gaN, gaP, Nat.reduceEqDiff, Nat.reduceLeDiff, Nat.reduceAdd, Nat.reduceSub, Nat.reduceMul, Int.reduceLT, Int.reduceLE, Int.reduceEq, Int.reduceToNat, Int.reduceAdd, Int.reduceSub, Int.reduceMul, reduceCtorEq, ↓reduceIte, List.getD_cons_zero, List.getD_cons_succ, fillL, splice, List.take_zero, List.drop_zero, List.drop_succ_cons, List.take_succ_cons, List.drop_nil, List.take_nil, gaU]
  refine And.intro (by omega) (And.intro (by omega) (And.intro (by omega) (And.intro (node_cells _ _ _ _ _ _ _) ?_)))
  rw [← e6]
  simp only [↓gaW, ↓gaV, ↓gaC, ↓gaN, gaP, Nat.reduceEqDiff, Nat.reduceLeDiff, Nat.reduceAdd, Nat.reduceSub, Nat.reduceMul, Int.reduceLT, Int.reduceLE, Int.reduceEq, Int.reduceToNat, Int.reduceAdd, Int.reduceSub, Int.reduceMul, reduceCtorEq, ↓reduceIte, List.getD_cons_zero, List.getD_cons_succ, fillL, splice, List.take_zero, List.drop_zero, List.drop_succ_cons, List.take_succ_cons, List.drop_nil, List.take_nil, gaE, implies_true, Nat.le_refl, Int.sub_zero, Nat.sub_zero, Int.le_refl, true_or, or_true, gaU, hx15, hb5, nodeL, e7, hbs, str_eq, hs]
  repeat refine And.intro (by omega) ?_
  exact fun p hp => by rw [G6 p (by omega), F5 p hp]

theorem fo_ws {x : Fo.El} (h : x.f.rs) : x.f.ws ≤ x.f.ly.length := by
  have key : ∀ F : Fo, F.rs → F.ws ≤ F.ly.length := by
    intro F
    induction F with
    | nil => intro _; exact Nat.le_refl _
    | cons t b k r ih1 ih2 =>
      intro h
      simp only [Fo.rs] at h
      have h1 := ih1 h.2.1
      have h2 := ih2 h.2.2
      simp only [Fo.ws, Fo.ly, List.length_append, Fo.hb_len]
      have := Fo.hn_le (b.length + k.ly.length)
      omega
  exact key _ h
theorem rd_ws {l : List UInt8} {x : Fo.El} (h : Fo.rd l = .ok x) : x.f.ws ≤ l.length ∧ x.f.rs := by
  obtain ⟨h1, h2, h3, rfl⟩ := Fo.wr_ok (Fo.wr_rd h)
  exact ⟨fo_ws h1, h1⟩

/-- A node, of which nothing more is known. -/
theorem ReadV.some {x : Nat} {g : Nat → Option Blk} {v : Value} {r : Except Nat Fo.El} (h : ReadV x g v r) : ∃ (y : Fo.El) (e : Nat) (B : Option Addr) (m d : Nat) (A : Option Addr) (k c : Nat) (ks : List Value), v = .tuple #[nodeV y.t B m d A k c, .int .i64 (e : Nat)] ∧ NdR x g y B m d A k c ks ∧
    ((r = .ok y ∧ e = 0) ∨ (r = .error e ∧ y = ⟨0, [], .nil⟩)) := by
  cases r with
  | error e => exact ⟨⟨0, [], .nil⟩, e, none, 0, 0, none, 0, 0, [], h, .zero, .inr ⟨rfl, rfl⟩⟩
  | ok y =>
    obtain ⟨B, m, d, A, k, c, ks, h1, h2⟩ := h
    exact ⟨y, 0, B, m, d, A, k, c, ks, h1, h2, .inl ⟨rfl, rfl⟩⟩

theorem fn_Reads {A : Option Addr} {n c : Nat} {l : List UInt8} (hA : Row nx gt 1 A n (l.map u8V)) (hc : n ≤ c) :
    Ct Try.prog 3 [.slice A n c] nx gt fun v _ _ => v = .bool true := by
  have hl : l.length = n := by simpa using hA.len
  refine Ct.of hmx r_lanyardlaw04_TlvReads (by simp [c_lanyardlaw04_TlvReads]) fun b hb => ?_
  simp only [c_lanyardlaw04_TlvReads, ↓gaW, ↓gaV, ↓gaC, ↓gaN, gaP, Nat.reduceEqDiff, Nat.reduceLeDiff, Nat.reduceAdd, Nat.reduceSub, Nat.reduceMul, Int.reduceLT, Int.reduceLE, Int.reduceEq, Int.reduceToNat, Int.reduceAdd, Int.reduceSub, Int.reduceMul, reduceCtorEq, ↓reduceIte, List.getD_cons_zero, List.getD_cons_succ, fillL, splice, List.take_zero, List.drop_zero, List.drop_succ_cons, List.take_succ_cons, List.drop_nil, List.take_nil, gaU]
  refine callK_of ct_awake04 (fun v x1 g1 l1 k1 hC => ?_) (by omega)
  subst hC
  have hA1 := hA.keep l1 k1
  by_cases hn : (21000 : Int) < (n : Int)
  · simp only [↓gaW, ↓gaV, ↓gaC, ↓gaN, gaP, Nat.reduceEqDiff, Nat.reduceLeDiff, Nat.reduceAdd, Nat.reduceSub, Nat.reduceMul, Int.reduceLT, Int.reduceLE, Int.reduceEq, Int.reduceToNat, Int.reduceAdd, Int.reduceSub, Int.reduceMul, reduceCtorEq, ↓reduceIte, gaE, implies_true, Nat.le_refl, Int.sub_zero, Nat.sub_zero, Int.le_refl, true_or, or_true, List.getD_cons_zero, List.getD_cons_succ, fillL, splice, List.take_zero, List.drop_zero, List.drop_succ_cons, List.take_succ_cons, List.drop_nil, List.take_nil, hn, decide_true]
    exact ⟨by omega, k1⟩
  simp only [↓gaW, ↓gaV, ↓gaC, ↓gaN, gaP, Nat.reduceEqDiff, Nat.reduceLeDiff, Nat.reduceAdd, Nat.reduceSub, Nat.reduceMul, Int.reduceLT, Int.reduceLE, Int.reduceEq, Int.reduceToNat, Int.reduceAdd, Int.reduceSub, Int.reduceMul, reduceCtorEq, ↓reduceIte, List.getD_cons_zero, List.getD_cons_succ, fillL, splice, List.take_zero, List.drop_zero, List.drop_succ_cons, List.take_succ_cons, List.drop_nil, List.take_nil, gaU, hn, decide_false]
  refine callK_of (ct_Read hA1 hc (by omega)) (fun v x2 g2 l2 k2 hC => ?_) (by omega)
  obtain ⟨y, e, B, m, d, A2, k, c2, ks, rfl, hN, hy⟩ := hC.some
  have F2 : ∀ p, p < nx → g2 p = gt p := fun p hp => by rw [k2 p (by omega), k1 p hp]
  have hA2 := hA1.keep l2 k2
  obtain ⟨g3, e3, G3, hb3⟩ := boxed (g := g2) (x := x2) (cs := [Value.int .i64 0, .slice none 0 0, .slice none 0 0]) (ds := nodeL y.t B m d A2 k c2)
  have hA3 := hA2.keep (nx' := x2 + 1) (gt' := g3) (by omega) G3
  have hN3 := hN.keep (x' := x2 + 1) (by omega) G3
  simp only [↓gaW, ↓gaV, ↓gaC, ↓gaN, gaP, Nat.reduceEqDiff, Nat.reduceLeDiff, Nat.reduceAdd, Nat.reduceSub, Nat.reduceMul, Int.reduceLT, Int.reduceLE, Int.reduceEq, Int.reduceToNat, Int.reduceAdd, Int.reduceSub, Int.reduceMul, reduceCtorEq, ↓reduceIte, List.getD_cons_zero, List.getD_cons_succ, fillL, splice, List.take_zero, List.drop_zero, List.drop_succ_cons, List.take_succ_cons, List.drop_nil, List.take_nil, gaU]
  repeat refine And.intro (by omega) ?_
  refine And.intro (node_cells _ _ _ _ _ _ _) ?_
  rw [← e3]; clear e3
  refine callK_of (ct_rRead hA3 hc (by omega)) (fun v x4 g4 l4 k4 hC => ?_) (by omega)
  obtain ⟨z, e', B', m', d', A', k', c', ks', rfl, hM, hz⟩ := hC.some
  have F4 : ∀ p, p < nx → g4 p = gt p := fun p hp => by rw [k4 p (by omega), G3 p (by omega), F2 p hp]
  have hb4 : g4 x2 = some (.cells (nodeL y.t B m d A2 k c2) false) := by rw [k4 x2 (by omega), hb3]
  obtain ⟨g5, e5, G5, hb5⟩ := boxed (g := g4) (x := x4) (cs := [Value.int .i64 0, .slice none 0 0, .slice none 0 0]) (ds := nodeL z.t B' m' d' A' k' c')
  have hN5 := (hN3.keep l4 k4).keep (x' := x4 + 1) (by omega) G5
  have hM5 := hM.keep (x' := x4 + 1) (by omega) G5
  have hb6 : g5 x2 = some (.cells (nodeL y.t B m d A2 k c2) false) := by rw [G5 x2 (by omega), hb4]
  have hx24 : (x2 = x4) = False := by simp; omega
  have hyz : y = z ∧ e = e' := by
    rcases hy with ⟨h1, h2⟩ | ⟨h1, h2⟩ <;> rcases hz with ⟨h3, h4⟩ | ⟨h3, h4⟩ <;> rw [h1] at h3
    · injection h3 with h3; exact ⟨h3, by omega⟩
    · cases h3
    · cases h3
    · injection h3 with h3; exact ⟨by rw [h2, h4], h3⟩
  obtain ⟨rfl, rfl⟩ := hyz
  have hws : y.f.ws < 1000000000000 := by
    rcases hy with ⟨h1, h2⟩ | ⟨h1, h2⟩
    · have := (rd_ws h1).1; omega
    · rw [h2]; decide
  simp only [↓gaW, ↓gaV, ↓gaC, ↓gaN, gaP, Nat.reduceEqDiff, Nat.reduceLeDiff, Nat.reduceAdd, Nat.reduceSub, Nat.reduceMul, Int.reduceLT, Int.reduceLE, Int.reduceEq, Int.reduceToNat, Int.reduceAdd, Int.reduceSub, Int.reduceMul, reduceCtorEq, ↓reduceIte, List.getD_cons_zero, List.getD_cons_succ, fillL, splice, List.take_zero, List.drop_zero, List.drop_succ_cons, List.take_succ_cons, List.drop_nil, List.take_nil, gaU, hx24, hb4, nodeL]
  repeat refine And.intro (by omega) ?_
  refine And.intro (node_cells _ _ _ _ _ _ _) ?_
  repeat refine And.intro (by omega) ?_
  rw [← e5]
  refine callK_of (ct_Same y hws y _ _ _ _ _ _ _ _ _ _ _ _ _ _ _ _ hN5 hM5) (fun v x6 g6 l6 k6 hC => ?_) (by omega)
  obtain ⟨r, rfl, hr⟩ := hC
  have hr : r = true := hr.2 rfl
  subst hr
  simp only [↓gaW, ↓gaV, ↓gaC, ↓gaN, gaP, Nat.reduceEqDiff, Nat.reduceLeDiff, Nat.reduceAdd, Nat.reduceSub, Nat.reduceMul, Int.reduceLT, Int.reduceLE, Int.reduceEq, Int.reduceToNat, Int.reduceAdd, Int.reduceSub, Int.reduceMul, reduceCtorEq, ↓reduceIte, gaE, implies_true, Nat.le_refl, Int.sub_zero, Nat.sub_zero, Int.le_refl, true_or, or_true, List.getD_cons_zero, List.getD_cons_succ, fillL, splice, List.take_zero, List.drop_zero, List.drop_succ_cons, List.take_succ_cons, List.drop_nil, List.take_nil, gaU, decide_true]
  exact ⟨by omega, fun p hp => by rw [k6 p (by omega), G5 p (by omega), F4 p hp]⟩
end
end Go.Ga

/- An array of whole numbers that a law is given. -/
namespace Go.Ga
open Go

section
variable {P : Program} {H : Type} {enc : TypeId × Value → H} {w : World} {base : Nat} {sp : Nat → Bool} {held : Bool} {t e : TypeId} {n : Nat} {k : IntKind}

def intOf : Option Value → Int
  | some (.int _ z) => z
  | _ => 0
theorem mapM_all {α β : Type} (f : α → Option β) (g : α → β) : ∀ (L : List α), (∀ i ∈ L, f i = some (g i)) → L.mapM f = some (L.map g)
  | [], _ => rfl
  | a :: L, h => by
    rw [List.mapM_cons, h a (by simp), mapM_all f g L fun i hi => h i (by simp [hi])]
    rfl
theorem mapM_inv {α β : Type} (f : α → Option β) : ∀ (L : List α) (xs : List β), L.mapM f = some xs → ∃ g : α → Option β, (∀ i ∈ L, f i = g i ∧ (g i).isSome) ∧ xs.map some = L.map g
  | [], xs, h => by
    simp at h
    subst h
    exact ⟨fun _ => none, by simp, rfl⟩
  | a :: L, xs, h => by
    rw [List.mapM_cons] at h
    simp only [bind, Option.bind_eq_some_iff, pure, Option.some.injEq] at h
    obtain ⟨y, hy, ys, hys, rfl⟩ := h
    obtain ⟨g, h1, h2⟩ := mapM_inv f L ys hys
    refine ⟨f, fun i hi => ⟨rfl, ?_⟩, ?_⟩
    · rcases List.mem_cons.1 hi with rfl | hi
      · simp [hy]
      · rw [(h1 i hi).1]; exact (h1 i hi).2
    · simp only [List.map_cons, hy, h2, List.cons.injEq, true_and]
      exact List.map_congr_left fun i hi => (h1 i hi).1.symm

def arrD (k : IntKind) (zs : List Int) : DataW H := .agg (zs.map fun z => .lit (.int k z))

theorem shut_arrI (ht : P.underlying t = some (.array n e)) (he : P.underlying e = some (.int k)) (hc : P.cellsOf e = 1) (hct : P.cellsOf t = n) {zs : List Int} (hl : zs.length = n) (hw : ∀ z ∈ zs, (Lit.int k z).wf = true) :
    DataW.Trod enc P w base sp held t (.agg (zs.map (Value.int k)).toArray) (arrD k zs) [] := by
  refine ⟨2, ?_⟩
  have h1 : ∀ i ∈ List.range n, DataW.trod enc P w base sp held 1 e (((zs.map (Value.int k)).drop (i * 1)).take 1) = some ((.lit (.int k (zs.getD i 0)) : DataW H), []) := by
    intro i hi
    have hi : i < zs.length := by rw [hl]; exact List.mem_range.1 hi
    have e1 : ((zs.map (Value.int k)).drop (i * 1)).take 1 = [.int k (zs.getD i 0)] := by
      rw [Nat.mul_one, List.drop_eq_getElem_cons (by simpa using hi)]
      simp [List.getD_eq_getElem?_getD, hi]
    rw [e1]
    have hwi : (Lit.int k (zs.getD i 0)).wf = true := hw _ (by rw [List.getD_eq_getElem?_getD, List.getElem?_eq_getElem hi]; exact List.getElem_mem hi)
    have hwi' := hwi
    simp only [List.getD_eq_getElem?_getD] at hwi' ⊢
    simp [DataW.trod, he, hwi']
  rw [DataW.trod_step]
  unfold DataW.trodStep
  simp only [ht, Value.cells, hct, hc, List.length_map, hl, if_true]
  rw [mapM_all _ _ _ h1]
  simp only [Option.map_some, List.map_map, arrD, Option.some.injEq, Prod.mk.injEq, DataW.agg.injEq]
  refine ⟨?_, by simp⟩
  refine List.ext_getElem (by simp [hl]) fun i h1 h2 => ?_
  have hi : i < zs.length := by simpa using h2
  simp [hi]

theorem open_arrI (ht : P.underlying t = some (.array n e)) (he : P.underlying e = some (.int k)) (hc : P.cellsOf e = 1) (hct : P.cellsOf t = n) {r : Reach} {b0 : Nat} {v : Value} {d : DataW H} {ps : List MemPlace} (hval : Value.okWide P w r b0 t v) (hd : DataW.Trod enc P w base sp held t v d ps) :
    ∃ zs : List Int, v = .agg (zs.map (Value.int k)).toArray ∧ zs.length = n ∧ (∀ z ∈ zs, (Lit.int k z).wf = true) ∧ d = arrD k zs ∧ ps = [] := by
  simp only [Value.okWide, ht] at hval
  obtain ⟨cs, rfl, hcs, _⟩ := hval
  obtain ⟨fuel, hf⟩ := hd
  cases fuel with
  | zero => simp [DataW.trod] at hf
  | succ fuel =>
    rw [DataW.trod_step] at hf
    unfold DataW.trodStep at hf
    simp only [ht, Value.cells] at hf
    rw [if_pos (by simpa using hcs)] at hf
    simp only [Option.map_eq_some_iff] at hf
    obtain ⟨xs, hx, e1⟩ := hf
    obtain ⟨g, hg, hgx⟩ := mapM_inv _ _ _ hx
    have hlen : cs.toList.length = n := by simp [hcs, hct]
    have cell : ∀ i, i < n → ∃ z, cs.toList[i]? = some (.int k z) ∧ (Lit.int k z).wf = true ∧ g i = some ((.lit (.int k z) : DataW H), []) := by
      intro i hi
      obtain ⟨h1, h2⟩ := hg i (List.mem_range.2 hi)
      obtain ⟨y, hy⟩ := Option.isSome_iff_exists.1 h2
      rw [hy] at h1
      obtain ⟨z, h3, rfl, h4⟩ := DataW.trod_int he h1
      refine ⟨z, ?_, h4, hy⟩
      rw [hc, Nat.mul_one, List.drop_eq_getElem_cons (by omega)] at h3
      simp at h3
      rw [List.getElem?_eq_getElem (by omega)]
      simp [h3]
    have hzs : ∃ zs : List Int, zs.length = n ∧ ∀ i, i < n → cs.toList[i]? = some (.int k (zs.getD i 0)) ∧ (Lit.int k (zs.getD i 0)).wf = true ∧ g i = some ((.lit (.int k (zs.getD i 0)) : DataW H), []) := by
      refine ⟨(List.range n).map fun i => intOf cs.toList[i]?, by simp, fun i hi => ?_⟩
      obtain ⟨z, h1, h2, h3⟩ := cell i hi
      have : ((List.range n).map fun i => intOf cs.toList[i]?).getD i 0 = z := by
        rw [List.getD_eq_getElem?_getD, List.getElem?_map, List.getElem?_range hi]
        simp only [Option.map_some, h1, Option.getD_some, intOf]
      rw [this]
      exact ⟨h1, h2, h3⟩
    obtain ⟨zs, hl, hz⟩ := hzs
    refine ⟨zs, ?_, hl, fun z hmem => ?_, ?_, ?_⟩
    · congr 1
      apply Array.ext'
      refine List.ext_getElem? fun i => ?_
      rcases Nat.lt_or_ge i n with h | h
      · rw [(hz i h).1]
        simp [List.getElem?_map, List.getD_eq_getElem?_getD, List.getElem?_eq_getElem (show i < zs.length by omega)]
      · rw [List.getElem?_eq_none (by omega), List.getElem?_eq_none (by simp; omega)]
    · obtain ⟨i, hi, rfl⟩ := List.getElem_of_mem hmem
      have := (hz i (by omega)).2.1
      simpa [List.getD_eq_getElem?_getD, List.getElem?_eq_getElem hi] using this
    · simp only [Prod.mk.injEq] at e1
      rw [← e1.1, arrD]
      congr 1
      refine List.ext_getElem? fun i => ?_
      have hxi : (xs.map some)[i]? = ((List.range n).map g)[i]? := by rw [hgx]
      rcases Nat.lt_or_ge i n with h | h
      · rw [List.getElem?_map, List.getElem?_map, List.getElem?_range h, Option.map_some, (hz i h).2.2] at hxi
        cases hx1 : xs[i]? with
        | none => simp [hx1] at hxi
        | some y =>
          simp only [hx1, Option.map_some, Option.some.injEq] at hxi
          simp [hx1, hxi, List.getD_eq_getElem?_getD, List.getElem?_eq_getElem (show i < zs.length by omega)]
      · have : xs.length = n := by
          have := congrArg List.length hgx
          simpa using this
        rw [List.getElem?_eq_none (by simp; omega), List.getElem?_eq_none (by simp; omega)]
    · simp only [Prod.mk.injEq] at e1
      rw [← e1.2, List.flatMap_eq_nil_iff]
      intro y hy
      obtain ⟨i, hi, rfl⟩ := List.getElem_of_mem hy
      have hn : xs.length = n := by
        have := congrArg List.length hgx
        simpa using this
      have hxi : (xs.map some)[i]? = ((List.range n).map g)[i]? := by rw [hgx]
      rw [List.getElem?_map, List.getElem?_eq_getElem hi, List.getElem?_map, List.getElem?_range (by omega), Option.map_some, Option.map_some, (hz i (by omega)).2.2] at hxi
      simp only [Option.some.injEq] at hxi
      rw [hxi]
end

theorem absV_arr {w : World} {k : IntKind} {zs : List Int} : absV w (.agg (zs.map (Value.int k)).toArray) = .agg (zs.map (Value.int k)).toArray := by
  simp only [absV]
  congr 1
  apply Array.ext'
  simp [Function.comp_def, absC, goodV]
theorem list6 {zs : List Int} (h : zs.length = 6) : ∃ a b c d e f, zs = [a, b, c, d, e, f] := by
  match zs, h with
  | [a, b, c, d, e, f], _ => exact ⟨a, b, c, d, e, f, rfl⟩
end Go.Ga

/- A slice of words that a law is given. -/
namespace Go.Ga
open Go

theorem wf_u32 {n : Int} (h : (Lit.int .u32 n).wf = true) : 0 ≤ n ∧ n ≤ 4294967295 := by
  have := (Lit.wf_int_iff _ _).1 h
  simpa [IntKind.min, IntKind.max, IntKind.signed, IntKind.bits] using this
theorem wf_u32N {n : Int} (h : (Lit.int .u32 n).wf = true) : ∃ x : Nat, n = x ∧ x < 4294967296 := by
  have := wf_u32 h
  exact ⟨n.toNat, by omega, by omega⟩

/-- A row's slice of words. -/
theorem absV_words {w : World} {a : Option Addr} {len cap : Nat} {zs : List Int} (h : IsRow .u32 w a len cap zs) :
    ∃ A, absV w (.slice a len cap) = .slice A len cap ∧ len ≤ cap ∧ ∃ l : List UInt32, Row w.heap.size (m0 w).get 1 A len (l.map u32V) := by
  rcases h with ⟨rfl, rfl, rfl, rfl⟩ | ⟨x, rfl, h1, h2, h3, h4, h5⟩
  · exact ⟨none, rfl, Nat.le_refl _, [], .nil⟩
  by_cases hc : cap = 0
  · subst hc
    have : len = 0 := by omega
    subst this
    exact ⟨some ⟨x.block, x.off, none⟩, by simp [absV, absC], Nat.le_refl _, [], ⟨fun a ha => by injection ha with ha; subst ha; exact .inl rfl, rfl, fun h => absurd h (Nat.lt_irrefl 0)⟩⟩
  have c0 := h4 0 (by omega)
  have hx : x.add 0 = x := by simp [Addr.add]
  rw [hx] at c0
  unfold World.cell? at c0
  split at c0
  · rename_i ce el fr hb
    have hsp : x.spot = none := by
      by_cases h : x.spot.isSome
      · rw [if_pos h] at c0; cases c0
      · simpa using h
    have hlt : x.block < w.heap.size := by
      rcases Nat.lt_or_ge x.block w.heap.size with h | h
      · exact h
      · rw [Array.getElem?_eq_none h] at hb; cases hb
    have hcell : ∀ i, i < cap → ce[x.off + i]? = some (.int .u32 (zs.getD i 0)) := by
      intro i hi
      have := h4 i (by omega)
      unfold World.cell? Addr.add at this
      by_cases h0 : i = 0
      · subst h0
        simp only [if_true, hb, hsp] at this
        simpa using this
      · simp only [if_neg h0, hb] at this
        simpa using this
    have hsz : x.off + cap ≤ ce.size := by
      have := hcell (cap - 1) (by omega)
      rcases Nat.lt_or_ge (x.off + (cap - 1)) ce.size with h | h
      · omega
      · rw [Array.getElem?_eq_none h] at this; cases this
    refine ⟨some x, ?_, h1, (zs.take len).map fun n => UInt32.ofNat n.toNat, ⟨fun a ha => by injection ha with ha; subst ha; exact .inl hsp, ?_, fun hN => ⟨x, ce.toList.map (absC w), true, rfl, hlt, ?_, ?_, fun i hi => ?_⟩⟩⟩
    · have : isCells w x.block = true := by simp [isCells, hb]
      simp [absV, absC, hc, hsp, h1, this]
    · simp; omega
    · simp [m0, hb]
    · simp; omega
    · have e1 := hcell i (by omega)
      have hz : i < zs.length := by omega
      have hw := wf_u32 (h5 (zs.getD i 0) (by rw [List.getD_eq_getElem?_getD, List.getElem?_eq_getElem hz]; exact List.getElem_mem hz))
      have e2 : ce.toList[x.off + i]? = some (.int .u32 (zs.getD i 0)) := by simpa using e1
      have e3 : (ce.toList.map (absC w)).getD (x.off + i) undef = .int .u32 (zs.getD i 0) := by
        rw [List.getD_eq_getElem?_getD, List.getElem?_map, e2]
        rfl
      rw [e3, getD_u32 (by simp; omega)]
      congr 1
      have e4 : ((zs.take len).map fun n => UInt32.ofNat n.toNat).getD i 0 = UInt32.ofNat (zs.getD i 0).toNat := by
        simp [List.getD_eq_getElem?_getD, List.getElem?_map, hi, List.getElem?_eq_getElem hz]
      rw [e4, UInt32.toNat_ofNat']
      omega
  · cases c0

end Go.Ga

/- What a law is given: what its values are made of, in the abstract memory. -/
namespace Go.Ga
open Go

section
variable {H : Type} {enc : TypeId × Value → H} {P : Program} {w : World} {held : Bool} {f : Nat} {t : TypeId} {cs : List Value}

/-- These cells are a value of this type. -/
def Shp (enc : TypeId × Value → H) (P : Program) (w : World) (held : Bool) (f : Nat) (t : TypeId) (cs : List Value) : Prop := ∃ x, DataW.trod enc P w 0 (fun _ => true) held f t cs = some x

theorem Shp.int {k : IntKind} (ht : P.underlying t = some (.int k)) (h : Shp enc P w held f t cs) : ∃ n, cs = [.int k n] ∧ (Lit.int k n).wf = true := by
  obtain ⟨x, hx⟩ := h
  obtain ⟨n, h1, _, h2⟩ := DataW.trod_int ht hx
  exact ⟨n, h1, h2⟩
theorem Shp.bool (ht : P.underlying t = some .bool) (h : Shp enc P w held f t cs) : ∃ b, cs = [.bool b] := by
  obtain ⟨x, hx⟩ := h
  obtain ⟨n, h1, _⟩ := DataW.trod_bool ht hx
  exact ⟨n, h1⟩
theorem Shp.string (ht : P.underlying t = some .string) (h : Shp enc P w held f t cs) : ∃ s : ByteArray, cs = [.string s] ∧ s.size ≤ maxLen := by
  obtain ⟨x, hx⟩ := h
  obtain ⟨n, h1, _, h2⟩ := DataW.trod_string ht hx
  exact ⟨n, h1, h2⟩
theorem Shp.struct {fs : Array Field} (ht : P.underlying t = some (.struct fs)) (h : Shp enc P w held f t cs) :
    ∃ n, f = n + 1 ∧ cs.length = P.cellsOf t ∧ ∀ (i : Nat) (fl : Field), fs[i]? = some fl → Shp enc P w held n fl.type ((cs.drop fl.offset).take (P.cellsOf fl.type)) := by
  obtain ⟨x, hx⟩ := h
  obtain ⟨xs, n, h1, _, h2, h3, h4⟩ := DataW.trod_struct ht hx
  refine ⟨n, h1, h2, fun i fl hi => ?_⟩
  have hlt : i < xs.length := by
    rw [h3]
    exact (Array.getElem?_eq_some_iff.1 hi).1
  exact ⟨xs[i], by rw [h4 i fl hi, List.getElem?_eq_getElem hlt]⟩
theorem Shp.array {m : Nat} {e : TypeId} (ht : P.underlying t = some (.array m e)) (h : Shp enc P w held f t cs) :
    ∃ n, f = n + 1 ∧ cs.length = P.cellsOf t ∧ ∀ i, i < m → Shp enc P w held n e ((cs.drop (i * P.cellsOf e)).take (P.cellsOf e)) := by
  obtain ⟨x, hx⟩ := h
  obtain ⟨xs, n, h1, _, h2, h3, h4⟩ := DataW.trod_array ht hx
  exact ⟨n, h1, h2, fun i hi => ⟨xs[i]'(by omega), by rw [h4 i hi, List.getElem?_eq_getElem (by omega)]⟩⟩

theorem cells_all {w : World} {a : Addr} {N : Nat} {g : Nat → Value} (hN : 0 < N) (h : ∀ i, i < N → w.cell? (a.add i) = some (g i)) :
    a.spot = none ∧ isCells w a.block = true ∧ a.block < w.heap.size ∧ ∃ ce : List Value, (m0 w).get a.block = some (.cells (ce.map (absC w)) true) ∧ a.off + N ≤ ce.length ∧ ∀ i, i < N → ce[a.off + i]? = some (g i) := by
  have c0 := h 0 hN
  have hx : a.add 0 = a := by simp [Addr.add]
  rw [hx] at c0
  unfold World.cell? at c0
  split at c0
  · rename_i ce el fr hb
    have hsp : a.spot = none := by
      by_cases h : a.spot.isSome
      · rw [if_pos h] at c0; cases c0
      · simpa using h
    have hlt : a.block < w.heap.size := by
      rcases Nat.lt_or_ge a.block w.heap.size with h | h
      · exact h
      · rw [Array.getElem?_eq_none h] at hb; cases hb
    have hcell : ∀ i, i < N → ce.toList[a.off + i]? = some (g i) := by
      intro i hi
      have := h i hi
      unfold World.cell? Addr.add at this
      by_cases h0 : i = 0
      · subst h0
        simp only [if_true, hb, hsp] at this
        simpa using this
      · simp only [if_neg h0, hb] at this
        simpa using this
    refine ⟨hsp, by simp [isCells, hb], hlt, ce.toList, by simp [m0, hb], ?_, hcell⟩
    have := hcell (N - 1) (by omega)
    rcases Nat.lt_or_ge (a.off + (N - 1)) ce.toList.length with h | h
    · omega
    · rw [List.getElem?_eq_none h] at this; cases this
  · cases c0

theorem add_addr {a : Addr} {i j : Nat} (_ : a.spot = none) : (a.add i).add j = a.add (i + j) := by
  unfold Addr.add
  by_cases h1 : i = 0 <;> by_cases h2 : j = 0 <;> simp [h1, h2, Nat.add_assoc]

theorem Shp.slice {e : TypeId} (ht : P.underlying t = some (.slice e)) (hc : 0 < P.cellsOf e) (h : Shp enc P w held f t cs) :
    ∃ n v A len cap, ∃ l : List Value, f = n + 1 ∧ cs = [v] ∧ absC w v = .slice A len cap ∧ len ≤ cap ∧ Row w.heap.size (m0 w).get (P.cellsOf e) A (len * P.cellsOf e) (l.map (absC w)) ∧ l.length = len * P.cellsOf e ∧
      ∀ i, i < len → Shp enc P w held n e ((l.drop (i * P.cellsOf e)).take (P.cellsOf e)) := by
  obtain ⟨x, hx⟩ := h
  rcases DataW.trod_slice ht hx with ⟨rfl, _⟩ | ⟨a, len, cap, elems, rest, n, rfl, rfl, _, _, hl, hm, he, hel, hsp, _⟩
  · cases f with
    | zero => simp [DataW.trod] at hx
    | succ n => exact ⟨n, _, none, 0, 0, [], rfl, rfl, rfl, Nat.le_refl _, by rw [Nat.zero_mul]; exact .nil, by simp, fun i hi => absurd hi (Nat.not_lt_zero i)⟩
  · obtain ⟨hr, hrest⟩ := hsp rfl
    have one : ∀ i, i < cap → ∃ cs', w.cells? 0 (a.add (i * P.cellsOf e)) (P.cellsOf e) = some cs' ∧ Shp enc P w held n e cs' := by
      intro i hi
      rcases Nat.lt_or_ge i len with h | h
      · have h1 := hel i h
        rw [List.getElem?_eq_getElem (by omega), Option.bind_eq_some_iff] at h1
        obtain ⟨cs', h1, h2⟩ := h1
        exact ⟨cs', h1, _, h2⟩
      · have h1 := hrest (i - len) (by omega)
        rw [List.getElem?_eq_getElem (by omega), Option.bind_eq_some_iff, show len + (i - len) = i by omega] at h1
        obtain ⟨cs', h1, h2⟩ := h1
        exact ⟨cs', h1, _, h2⟩
    rcases Nat.eq_zero_or_pos cap with h0 | h0
    · subst h0
      have : len = 0 := by omega
      subst this
      exact ⟨n, _, some ⟨a.block, a.off, none⟩, 0, 0, [], rfl, rfl, by simp [absC], Nat.le_refl _, ⟨fun a ha => by injection ha with ha; subst ha; exact .inl rfl, by simp, fun h => by rw [Nat.zero_mul] at h; exact absurd h (Nat.lt_irrefl 0)⟩, by simp, fun i hi => absurd hi (Nat.not_lt_zero i)⟩
    · obtain ⟨cs0, hc0, ht0⟩ := one 0 h0
      obtain ⟨_, hl0, hg0⟩ := World.cells?_some hc0
      have hx0 : a.add (0 * P.cellsOf e) = a := by simp [Addr.add]
      rw [hx0] at hg0
      have hspot : a.spot = none := by
        refine (cells_all (w := w) (a := a) (N := 1) (g := fun i => cs0.getD 0 undef) (by omega) fun i hi => ?_).1
        have : i = 0 := by omega
        subst this
        rw [hg0 0 hc, List.getD_eq_getElem?_getD, List.getElem?_eq_getElem (by omega)]
        rfl
      have hpos : 0 < cap * P.cellsOf e := Nat.mul_pos h0 hc
      have hall : ∀ j, j < cap * P.cellsOf e → ∃ v, w.cell? (a.add j) = some v := by
        intro j hj
        have hd := Nat.div_add_mod j (P.cellsOf e)
        have hm := Nat.mod_lt j hc
        obtain ⟨cs', h1, _⟩ := one (j / P.cellsOf e) ((Nat.div_lt_iff_lt_mul hc).2 hj)
        obtain ⟨_, h2, h3⟩ := World.cells?_some h1
        have h4 := h3 (j % P.cellsOf e) hm
        rw [add_addr hspot, show j / P.cellsOf e * P.cellsOf e + j % P.cellsOf e = j by rw [Nat.mul_comm]; exact hd, List.getElem?_eq_getElem (by omega)] at h4
        exact ⟨_, h4⟩
      obtain ⟨g, hg⟩ : ∃ g : Nat → Value, ∀ j, j < cap * P.cellsOf e → w.cell? (a.add j) = some (g j) := by
        refine ⟨fun j => (w.cell? (a.add j)).getD undef, fun j hj => ?_⟩
        obtain ⟨v, hv⟩ := hall j hj
        simp only [hv, Option.getD_some]
      obtain ⟨h1, h2, h3, ce, h4, h5, h6⟩ := cells_all hpos hg
      have hle : len * P.cellsOf e ≤ cap * P.cellsOf e := Nat.mul_le_mul_right _ hl
      refine ⟨n, _, some a, len, cap, (ce.drop a.off).take (len * P.cellsOf e), rfl, rfl, ?_, hl, ⟨fun a' ha => by injection ha with ha; subst ha; exact .inl h1, by simp; omega, fun _ => ⟨a, _, true, rfl, h3, h4, by simp; omega, fun i hi => ?_⟩⟩, by simp; omega, fun i hi => ?_⟩
      · obtain ⟨ab, ao, asp⟩ := a
        simp only at h1
        subst h1
        simp [absC, show cap ≠ 0 by omega, hl, h2]
      · rw [List.getD_eq_getElem?_getD, List.getD_eq_getElem?_getD, List.getElem?_map, List.getElem?_map, List.getElem?_take_of_lt hi, List.getElem?_drop]
      · obtain ⟨cs', e1, e2⟩ := one i (by omega)
        obtain ⟨_, e3, e4⟩ := World.cells?_some e1
        have hik : i * P.cellsOf e + P.cellsOf e ≤ len * P.cellsOf e := by
          have := Nat.mul_le_mul_right (P.cellsOf e) (show i + 1 ≤ len by omega)
          rw [Nat.add_mul, Nat.one_mul] at this
          exact this
        have : ((((ce.drop a.off).take (len * P.cellsOf e)).drop (i * P.cellsOf e)).take (P.cellsOf e)) = cs' := by
          refine List.ext_getElem? fun k => ?_
          rcases Nat.lt_or_ge k (P.cellsOf e) with hk | hk
          · rw [List.getElem?_take_of_lt hk, List.getElem?_drop, List.getElem?_take_of_lt (by omega), List.getElem?_drop, h6 _ (by omega), ← hg _ (by omega), ← add_addr h1, e4 k hk]
          · rw [List.getElem?_eq_none (by simp; omega), List.getElem?_eq_none (by omega)]
        rw [this]
        exact e2

theorem Shp.bytes {e : TypeId} (ht : P.underlying t = some (.slice e)) (he : P.underlying e = some (.int .u8)) (hc : P.cellsOf e = 1) (h : Shp enc P w held f t cs) :
    ∃ v A len cap, ∃ l : List UInt8, cs = [v] ∧ absC w v = .slice A len cap ∧ len ≤ cap ∧ Row w.heap.size (m0 w).get 1 A len (l.map u8V) := by
  obtain ⟨n, v, A, len, cap, l, rfl, h1, h2, h3, h4, h5, h6⟩ := h.slice ht (by omega)
  rw [hc, Nat.mul_one] at h4 h5
  refine ⟨v, A, len, cap, l.map fun v => UInt8.ofNat (intOf (some v)).toNat, h1, h2, h3, ?_⟩
  have : (l.map fun v => UInt8.ofNat (intOf (some v)).toNat).map u8V = l.map (absC w) := by
    rw [List.map_map]
    refine List.map_congr_left fun v hv => ?_
    obtain ⟨i, hi, rfl⟩ := List.getElem_of_mem hv
    obtain ⟨z, e1, e2⟩ := (h6 i (by omega)).int he
    have e1' : l[i] = .int .u8 z := by
      rw [hc, Nat.mul_one, List.drop_eq_getElem_cons hi] at e1
      simp only [List.take_succ_cons, List.take_zero, List.cons.injEq, and_true] at e1
      exact e1
    rw [e1']
    obtain ⟨b1, b2⟩ := wf_u8 e2
    simp only [Function.comp, intOf, u8V, absC, goodV, if_true]
    rw [UInt8.toNat_ofNat']
    congr 1
    omega
  rw [this]
  exact h4
theorem Shp.words {e : TypeId} (ht : P.underlying t = some (.slice e)) (he : P.underlying e = some (.int .u32)) (hc : P.cellsOf e = 1) (h : Shp enc P w held f t cs) :
    ∃ v A len cap, ∃ l : List UInt32, cs = [v] ∧ absC w v = .slice A len cap ∧ len ≤ cap ∧ Row w.heap.size (m0 w).get 1 A len (l.map u32V) := by
  obtain ⟨n, v, A, len, cap, l, rfl, h1, h2, h3, h4, h5, h6⟩ := h.slice ht (by omega)
  rw [hc, Nat.mul_one] at h4 h5
  refine ⟨v, A, len, cap, l.map fun v => UInt32.ofNat (intOf (some v)).toNat, h1, h2, h3, ?_⟩
  have : (l.map fun v => UInt32.ofNat (intOf (some v)).toNat).map u32V = l.map (absC w) := by
    rw [List.map_map]
    refine List.map_congr_left fun v hv => ?_
    obtain ⟨i, hi, rfl⟩ := List.getElem_of_mem hv
    obtain ⟨z, e1, e2⟩ := (h6 i (by omega)).int he
    have e1' : l[i] = .int .u32 z := by
      rw [hc, Nat.mul_one, List.drop_eq_getElem_cons hi] at e1
      simp only [List.take_succ_cons, List.take_zero, List.cons.injEq, and_true] at e1
      exact e1
    rw [e1']
    obtain ⟨b1, b2⟩ := wf_u32 e2
    simp only [Function.comp, intOf, u32V, absC, goodV, if_true]
    rw [UInt32.toNat_ofNat']
    congr 1
    omega
  rw [this]
  exact h4

theorem list_two {cs : List Value} {a b : Value} (hl : cs.length = 2) (h0 : (cs.drop 0).take 1 = [a]) (h1 : (cs.drop 1).take 1 = [b]) : cs = [a, b] := by
  match cs, hl with
  | [x, y], _ =>
    simp at h0 h1
    rw [h0, h1]
theorem take_one {cs : List Value} {i : Nat} (h : i < cs.length) : (cs.drop i).take 1 = [cs[i]] := by
  rw [List.drop_eq_getElem_cons h]; rfl

/-- An array of two. -/
theorem open_two {e : TypeId} (ht : P.underlying t = some (.array 2 e)) (hc : P.cellsOf e = 1) (hct : P.cellsOf t = 2) {r : Reach} {b0 : Nat} {v : Value} {d : DataW H} {ps : List MemPlace} (hval : Value.okWide P w r b0 t v) (hd : DataW.Trod enc P w 0 (fun _ => true) held t v d ps) :
    ∃ a b n, v = .agg #[a, b] ∧ Shp enc P w held n e [a] ∧ Shp enc P w held n e [b] := by
  simp only [Value.okWide, ht] at hval
  obtain ⟨cs, rfl, hcs, _⟩ := hval
  obtain ⟨fuel, hf⟩ := hd
  obtain ⟨n, rfl, hl, h⟩ := Shp.array ht ⟨_, hf⟩
  have h0 := h 0 (by omega)
  have h1 := h 1 (by omega)
  simp only [Value.cells] at hl h0 h1
  rw [hct] at hl
  rw [hc, take_one (by omega)] at h0 h1
  refine ⟨_, _, n, ?_, h0, h1⟩
  congr 1
  apply Array.ext'
  exact list_two hl (take_one (by omega)) (take_one (by omega))
theorem open_words2 {e e' : TypeId} (ht : P.underlying t = some (.array 2 e)) (he : P.underlying e = some (.slice e')) (he' : P.underlying e' = some (.int .u32)) (hc : P.cellsOf e = 1) (hct : P.cellsOf t = 2) (hc' : P.cellsOf e' = 1) {r : Reach} {b0 : Nat} {v : Value} {d : DataW H} {ps : List MemPlace} (hval : Value.okWide P w r b0 t v) (hd : DataW.Trod enc P w 0 (fun _ => true) held t v d ps) :
    ∃ (A : Option Addr) (n c : Nat) (l : List UInt32) (B : Option Addr) (m d : Nat) (k : List UInt32), absV w v = .agg #[.slice A n c, .slice B m d] ∧ Row w.heap.size (m0 w).get 1 A n (l.map u32V) ∧ n ≤ c ∧ Row w.heap.size (m0 w).get 1 B m (k.map u32V) ∧ m ≤ d := by
  obtain ⟨a, b, n, rfl, h0, h1⟩ := open_two ht hc hct hval hd
  obtain ⟨_, A, n, c, l, e0, e1, e2, e3⟩ := h0.words he he' hc'
  obtain ⟨_, B, m, d, k, f0, f1, f2, f3⟩ := h1.words he he' hc'
  injection e0 with e0
  injection f0 with f0
  subst e0 f0
  exact ⟨A, n, c, l, B, m, d, k, by simp [absV, e1, f1], e3, e2, f3, f2⟩
theorem open_bytes2 {e e' : TypeId} (ht : P.underlying t = some (.array 2 e)) (he : P.underlying e = some (.slice e')) (he' : P.underlying e' = some (.int .u8)) (hc : P.cellsOf e = 1) (hct : P.cellsOf t = 2) (hc' : P.cellsOf e' = 1) {r : Reach} {b0 : Nat} {v : Value} {d : DataW H} {ps : List MemPlace} (hval : Value.okWide P w r b0 t v) (hd : DataW.Trod enc P w 0 (fun _ => true) held t v d ps) :
    ∃ (A : Option Addr) (n c : Nat) (l : List UInt8) (B : Option Addr) (m d : Nat) (k : List UInt8), absV w v = .agg #[.slice A n c, .slice B m d] ∧ Row w.heap.size (m0 w).get 1 A n (l.map u8V) ∧ n ≤ c ∧ Row w.heap.size (m0 w).get 1 B m (k.map u8V) ∧ m ≤ d := by
  obtain ⟨a, b, n, rfl, h0, h1⟩ := open_two ht hc hct hval hd
  obtain ⟨_, A, n, c, l, e0, e1, e2, e3⟩ := h0.bytes he he' hc'
  obtain ⟨_, B, m, d, k, f0, f1, f2, f3⟩ := h1.bytes he he' hc'
  injection e0 with e0
  injection f0 with f0
  subst e0 f0
  exact ⟨A, n, c, l, B, m, d, k, by simp [absV, e1, f1], e3, e2, f3, f2⟩
end
theorem list2 {zs : List Int} (h : zs.length = 2) : ∃ a b, zs = [a, b] := by
  match zs, h with
  | [a, b], _ => exact ⟨a, b, rfl⟩
end Go.Ga

/- A slice of slices of bytes that a law is given. -/
namespace Go.Ga
open Go

/-- Slices of bytes in a row. -/
def RowB (nx : Nat) (gt : Nat → Option Blk) (A : Option Addr) (n : Nat) (ls : List (List UInt8)) : Prop := ls.length = n ∧ (∀ a, A = some a → a.spot = none ∨ a.spot = some 1) ∧ (0 < n → ∃ a ce ro, A = some a ∧ a.block < nx ∧ gt a.block = some (.cells ce ro) ∧ a.off + n ≤ ce.length ∧
  ∀ i, i < n → ∃ B m d, ce.getD (a.off + i) undef = .slice B m d ∧ m ≤ d ∧ Row nx gt 1 B m ((ls.getD i []).map u8V))
theorem RowB.keep {nx gt A n ls nx' gt'} (h : RowB nx gt A n ls) (h1 : nx ≤ nx') (h2 : ∀ p, p < nx → gt' p = gt p) : RowB nx' gt' A n ls := by
  refine ⟨h.1, h.2.1, fun h0 => ?_⟩
  obtain ⟨a, ce, ro, e1, e2, e3, e4, e5⟩ := h.2.2 h0
  refine ⟨a, ce, ro, e1, by omega, by rw [h2 _ e2, e3], e4, fun i hi => ?_⟩
  obtain ⟨B, m, d, f1, f2, f3⟩ := e5 i hi
  exact ⟨B, m, d, f1, f2, f3.keep h1 h2⟩

section
variable {H : Type} {enc : TypeId × Value → H} {P : Program} {w : World} {held : Bool} {t : TypeId}

theorem open_lbytes {e e' : TypeId} (ht : P.underlying t = some (.slice e)) (he : P.underlying e = some (.slice e')) (he' : P.underlying e' = some (.int .u8)) (hc : P.cellsOf e = 1) (hc' : P.cellsOf e' = 1) {r : Reach} {b0 : Nat} {v : Value} {d : DataW H} {ps : List MemPlace} (hval : Value.okWide P w r b0 t v) (hd : DataW.Trod enc P w 0 (fun _ => true) held t v d ps) :
    ∃ (A : Option Addr) (n c : Nat) (ls : List (List UInt8)), absV w v = .slice A n c ∧ RowB w.heap.size (m0 w).get A n ls ∧ n ≤ c := by
  obtain ⟨a, len, cap, rfl⟩ := WideShapes.okWide_slice ht hval
  obtain ⟨fuel, hf⟩ := hd
  obtain ⟨n, v, A, len', cap', l, _, h1, h2, h3, h4, h5, h6⟩ := Shp.slice ht (by omega) ⟨_, hf⟩
  have hv : v = .slice a len cap := by
    simp only [Value.cells] at h1
    injection h1 with h1
    exact h1.symm
  subst hv
  rw [hc, Nat.mul_one] at h4 h5
  have hB : ∀ i, i < len' → ∃ (B : Option Addr) (m d : Nat) (k : List UInt8), (l.map (absC w)).getD i undef = .slice B m d ∧ m ≤ d ∧ Row w.heap.size (m0 w).get 1 B m (k.map u8V) := fun i hi => by
    obtain ⟨v', B, m, d, k, e1, e2, e3, e4⟩ := (h6 i hi).bytes he he' hc'
    have e1' : l[i]'(by omega) = v' := by
      rw [hc, Nat.mul_one, take_one (by omega)] at e1
      simpa using e1
    refine ⟨B, m, d, k, ?_, e3, e4⟩
    rw [List.getD_eq_getElem?_getD, List.getElem?_map, List.getElem?_eq_getElem (show i < l.length by omega), e1']
    exact e2
  have hls : ∃ ls : List (List UInt8), ls.length = len' ∧ ∀ i, i < len' → ∃ (B : Option Addr) (m d : Nat), (l.map (absC w)).getD i undef = .slice B m d ∧ m ≤ d ∧ Row w.heap.size (m0 w).get 1 B m ((ls.getD i []).map u8V) := by
    have key : ∀ k, k ≤ len' → ∃ ls : List (List UInt8), ls.length = k ∧ ∀ i, i < k → ∃ (B : Option Addr) (m d : Nat), (l.map (absC w)).getD i undef = .slice B m d ∧ m ≤ d ∧ Row w.heap.size (m0 w).get 1 B m ((ls.getD i []).map u8V) := by
      intro k
      induction k with
      | zero => intro _; exact ⟨[], rfl, fun i hi => absurd hi (Nat.not_lt_zero i)⟩
      | succ k ih =>
        intro hk
        obtain ⟨ls, e1, e2⟩ := ih (by omega)
        obtain ⟨B, m, d, x, f1, f2, f3⟩ := hB k (by omega)
        refine ⟨ls ++ [x], by simp [e1], fun i hi => ?_⟩
        rcases Nat.lt_or_ge i k with h | h
        · obtain ⟨B, m, d, g1, g2, g3⟩ := e2 i h
          refine ⟨B, m, d, g1, g2, ?_⟩
          rw [List.getD_eq_getElem?_getD, List.getElem?_append_left (by omega), ← List.getD_eq_getElem?_getD]
          exact g3
        · have : i = k := by omega
          subst this
          refine ⟨B, m, d, f1, f2, ?_⟩
          rw [List.getD_eq_getElem?_getD, List.getElem?_append_right (by omega), e1, Nat.sub_self]
          exact f3
    exact key len' (Nat.le_refl _)
  obtain ⟨ls, e1, e2⟩ := hls
  refine ⟨A, len', cap', ls, h2, ⟨e1, fun a ha => h4.spot a ha, fun h0 => ?_⟩, h3⟩
  obtain ⟨a, ce, ro, g1, g2, g3, g4, g5⟩ := h4.cells h0
  refine ⟨a, ce, ro, g1, g2, g3, g4, fun i hi => ?_⟩
  rw [g5 i hi]
  exact e2 i hi
end
end Go.Ga

/- A key and a hash that a law is given. -/
namespace Go.Ga
open Go

section
variable {H : Type} {enc : TypeId × Value → H} {P : Program} {w : World} {held : Bool} {t : TypeId}

theorem open_hash {m : Nat} {e : TypeId} (ht : P.underlying t = some (.array m e)) (he : P.underlying e = some (.int .u8)) (hc : P.cellsOf e = 1) (hct : P.cellsOf t = m) {r : Reach} {b0 : Nat} {v : Value} {d : DataW H} {ps : List MemPlace} (hval : Value.okWide P w r b0 t v) (hd : DataW.Trod enc P w 0 (fun _ => true) held t v d ps) :
    ∃ l : List UInt8, absV w v = .agg (l.map u8V).toArray ∧ l.length = m := by
  obtain ⟨zs, rfl, hl, hw, _, _⟩ := open_arrI (k := .u8) ht he hc hct hval hd
  refine ⟨zs.map fun z => UInt8.ofNat z.toNat, ?_, by simp [hl]⟩
  rw [absV_arr, List.map_map]
  congr 2
  refine List.map_congr_left fun z hz => ?_
  obtain ⟨b1, b2⟩ := wf_u8 (hw z hz)
  simp only [Function.comp, u8V]
  rw [UInt8.toNat_ofNat']
  congr 1
  omega

/-- A structure of bytes and a word. -/
theorem open_key {fs : Array Field} {t0 t1 e : TypeId} (ht : P.underlying t = some (.struct fs)) (ht0 : P.underlying t0 = some (.slice e)) (he : P.underlying e = some (.int .u8)) (ht1 : P.underlying t1 = some (.int .u32)) (h0 : (fs[0]?).map (fun f => (f.type, f.offset)) = some (t0, 0)) (h1 : (fs[1]?).map (fun f => (f.type, f.offset)) = some (t1, 1))
    (hc : P.cellsOf e = 1) (hc0 : P.cellsOf t0 = 1) (hc1 : P.cellsOf t1 = 1) (hct : P.cellsOf t = 2)
    {r : Reach} {b0 : Nat} {v : Value} {d : DataW H} {ps : List MemPlace} (hval : Value.okWide P w r b0 t v) (hd : DataW.Trod enc P w 0 (fun _ => true) held t v d ps) :
    ∃ (A : Option Addr) (n c : Nat) (l : List UInt8) (E : Nat), absV w v = .agg #[.slice A n c, .int .u32 (E : Nat)] ∧ Row w.heap.size (m0 w).get 1 A n (l.map u8V) ∧ n ≤ c ∧ E < 4294967296 := by
  simp only [Value.okWide, ht] at hval
  obtain ⟨cs, rfl, hcs, _⟩ := hval
  obtain ⟨fuel, hf⟩ := hd
  obtain ⟨n, rfl, hl, h⟩ := Shp.struct ht ⟨_, hf⟩
  simp only [Option.map_eq_some_iff] at h0 h1
  obtain ⟨f0, e0, e0'⟩ := h0
  obtain ⟨f1, e1, e1'⟩ := h1
  injection e0' with a0 b0
  injection e1' with a1 b1
  have g0 := h 0 f0 e0
  have g1 := h 1 f1 e1
  simp only [Value.cells] at hl g0 g1
  rw [hct] at hl
  rw [a0, b0, hc0, take_one (by omega)] at g0
  rw [a1, b1, hc1, take_one (by omega)] at g1
  obtain ⟨_, A, n, c, l, q0, q1, q2, q3⟩ := g0.bytes ht0 he hc
  obtain ⟨z, z1, z2⟩ := g1.int ht1
  obtain ⟨b1, b2⟩ := wf_u32 z2
  injection q0 with q0
  injection z1 with z1
  refine ⟨A, n, c, l, z.toNat, ?_, q3, q2, by omega⟩
  have hcs2 : cs = #[cs.toList[0], cs.toList[1]] := by
    apply Array.ext'
    exact list_two hl (take_one (by omega)) (take_one (by omega))
  have hz : (z.toNat : Int) = z := by omega
  have i1 : absC w (.int .u32 z) = .int .u32 z := by simp [absC, goodV]
  rw [q0, z1] at hcs2
  rw [hcs2]
  simp [absV, q1, i1, hz]
end
end Go.Ga

/- An element that a law is given. -/
namespace Go.Ga
open Go

theorem list_three {cs : List Value} {a b c : Value} (hl : cs.length = 3) (h0 : (cs.drop 0).take 1 = [a]) (h1 : (cs.drop 1).take 1 = [b]) (h2 : (cs.drop 2).take 1 = [c]) : cs = [a, b, c] := by
  match cs, hl with
  | [x, y, z], _ =>
    simp at h0 h1 h2
    rw [h0, h1, h2]

section
variable {H : Type} {enc : TypeId × Value → H} {P : Program} {w : World} {held : Bool} {t : TypeId}

/-- The types of a node, as the program has them. -/
structure NodeT (P : Program) (t ti tb tk te : TypeId) : Prop where
  str : ∃ fs : Array Field, P.underlying t = some (.struct fs) ∧ (fs[0]?).map (fun f => (f.type, f.offset)) = some (ti, 0) ∧ (fs[1]?).map (fun f => (f.type, f.offset)) = some (tb, 1) ∧ (fs[2]?).map (fun f => (f.type, f.offset)) = some (tk, 2)
  int : P.underlying ti = some (.int .i64)
  bytes : P.underlying tb = some (.slice te)
  byte : P.underlying te = some (.int .u8)
  kids : P.underlying tk = some (.slice t)
  ct : P.cellsOf t = 3
  ci : P.cellsOf ti = 1
  cb : P.cellsOf tb = 1
  ce : P.cellsOf te = 1
  ck : P.cellsOf tk = 1

theorem Shp.nodes {f : Nat} {t ti tb tk te : TypeId} (hT : NodeT P t ti tb tk te) (hnode : ∀ cs, Shp enc P w held f t cs → ∃ (x : Fo.El) (B : Option Addr) (m d : Nat) (A : Option Addr) (n c : Nat) (ks : List Value), cs.map (absC w) = nodeL x.t B m d A n c ∧ NdR w.heap.size (m0 w).get x B m d A n c ks)
    {cs : List Value} {tk' : TypeId} (hk : P.underlying tk' = some (.slice t)) (h : Shp enc P w held (f + 1) tk' cs) :
    ∃ (v : Value) (A : Option Addr) (n c : Nat) (F : Fo) (ks : List Value), cs = [v] ∧ absC w v = .slice A n c ∧ n ≤ c ∧ n = F.len ∧ Row w.heap.size (m0 w).get 3 A (n * 3) ks ∧ FoR w.heap.size (m0 w).get F ks := by
  obtain ⟨n, v, A, len, cap, l, hf, rfl, h2, h3, h4, h5, h6⟩ := h.slice hk (by rw [hT.ct]; omega)
  injection hf with hf
  subst hf
  rw [hT.ct] at h4 h5 h6
  have key : ∀ i, i ≤ len → ∃ F : Fo, F.len = i ∧ FoR w.heap.size (m0 w).get F ((l.map (absC w)).take (i * 3)) := by
    intro i
    induction i with
    | zero => intro _; exact ⟨.nil, rfl, by rw [Nat.zero_mul]; rfl⟩
    | succ i ih =>
      intro hi
      obtain ⟨F, e1, e2⟩ := ih (by omega)
      obtain ⟨x, B, m, d, A', n', c', ks', g1, g2⟩ := hnode _ (h6 i (by omega))
      refine ⟨F.app x.f, by rw [Fo.len_app, e1]; rfl, ?_⟩
      have e : (l.map (absC w)).take ((i + 1) * 3) = (l.map (absC w)).take (i * 3) ++ nodeL x.t B m d A' n' c' := by
        rw [← g1, Nat.add_mul, Nat.one_mul, List.take_add, List.map_take, List.map_drop]
      rw [e]
      exact e2.app g2.one
  obtain ⟨F, e1, e2⟩ := key len (Nat.le_refl _)
  rw [List.take_of_length_le (by simp; omega)] at e2
  exact ⟨v, A, len, cap, F, _, rfl, h2, h3, e1.symm, h4, e2⟩

theorem Shp.node {t ti tb tk te : TypeId} (hT : NodeT P t ti tb tk te) : ∀ (f : Nat) (cs : List Value), Shp enc P w held f t cs →
    ∃ (x : Fo.El) (B : Option Addr) (m d : Nat) (A : Option Addr) (n c : Nat) (ks : List Value), cs.map (absC w) = nodeL x.t B m d A n c ∧ NdR w.heap.size (m0 w).get x B m d A n c ks := by
  intro f
  induction f using Nat.strongRecOn with
  | ind f ih =>
    intro cs h
    obtain ⟨fs, hs, h0, h1, h2⟩ := hT.str
    obtain ⟨k, rfl, hl, hfl⟩ := h.struct hs
    simp only [Option.map_eq_some_iff] at h0 h1 h2
    obtain ⟨f0, e0, e0'⟩ := h0
    obtain ⟨f1, e1, e1'⟩ := h1
    obtain ⟨f2, e2, e2'⟩ := h2
    injection e0' with a0 b0
    injection e1' with a1 b1
    injection e2' with a2 b2
    have g0 := hfl 0 f0 e0
    have g1 := hfl 1 f1 e1
    have g2 := hfl 2 f2 e2
    rw [hT.ct] at hl
    rw [a0, b0, hT.ci, take_one (by omega)] at g0
    rw [a1, b1, hT.cb, take_one (by omega)] at g1
    rw [a2, b2, hT.ck, take_one (by omega)] at g2
    obtain ⟨z, z1, z2⟩ := g0.int hT.int
    obtain ⟨vb, B, m, d, lb, q0, q1, q2, q3⟩ := g1.bytes hT.bytes hT.byte hT.ce
    cases k with
    | zero =>
      obtain ⟨y, hy⟩ := g2
      rcases DataW.trod_slice hT.kids hy with ⟨_, h⟩ | ⟨a, len, cap, elems, rest, n, h, _⟩
      · simp [DataW.trod] at hy
      · simp [DataW.trod] at hy
    | succ k =>
      obtain ⟨vk, A, n, c, F, ks, p0, p1, p2, p3, p4, p5⟩ := g2.nodes hT (ih k (by omega)) hT.kids
      injection z1 with z1
      injection q0 with q0
      injection p0 with p0
      refine ⟨⟨z, lb, F⟩, B, m, d, A, n, c, ks, ?_, ⟨wf_i64 z2, q3, q2, p4, p2, p3, p5⟩⟩
      have hcs : cs = [cs[0], cs[1], cs[2]] := list_three hl (take_one (by omega)) (take_one (by omega)) (take_one (by omega))
      rw [hcs, z1, q0, p0]
      simp only [List.map_cons, List.map_nil, q1, p1]
      simp [absC, goodV]

theorem open_node {t ti tb tk te : TypeId} (hT : NodeT P t ti tb tk te) {r : Reach} {b0 : Nat} {v : Value} {d : DataW H} {ps : List MemPlace} (hval : Value.okWide P w r b0 t v) (hd : DataW.Trod enc P w 0 (fun _ => true) held t v d ps) :
    ∃ (x : Fo.El) (B : Option Addr) (m d : Nat) (A : Option Addr) (n c : Nat) (ks : List Value), absV w v = nodeV x.t B m d A n c ∧ NdR w.heap.size (m0 w).get x B m d A n c ks := by
  obtain ⟨fs, hs, _⟩ := hT.str
  simp only [Value.okWide, hs] at hval
  obtain ⟨cs, rfl, hcs, _⟩ := hval
  obtain ⟨fuel, hf⟩ := hd
  obtain ⟨x, B, m, d, A, n, c, ks, h1, h2⟩ := Shp.node hT _ _ ⟨_, hf⟩
  refine ⟨x, B, m, d, A, n, c, ks, ?_, h2⟩
  simp only [Value.cells] at h1
  simp only [absV]
  congr 1
  apply Array.ext'
  simpa using h1

theorem open_nodes {t ti tb tk te : TypeId} (hT : NodeT P t ti tb tk te) {tk' : TypeId} (hk : P.underlying tk' = some (.slice t)) {r : Reach} {b0 : Nat} {v : Value} {d : DataW H} {ps : List MemPlace} (hval : Value.okWide P w r b0 tk' v) (hd : DataW.Trod enc P w 0 (fun _ => true) held tk' v d ps) :
    ∃ (A : Option Addr) (n c : Nat) (F : Fo) (ks : List Value), absV w v = .slice A n c ∧ n ≤ c ∧ n = F.len ∧ Row w.heap.size (m0 w).get 3 A (n * 3) ks ∧ FoR w.heap.size (m0 w).get F ks := by
  obtain ⟨a, len, cap, rfl⟩ := WideShapes.okWide_slice hk hval
  obtain ⟨fuel, hf⟩ := hd
  cases fuel with
  | zero => simp [DataW.trod] at hf
  | succ fuel =>
    obtain ⟨v, A, n, c, F, ks, h0, h1, h2, h3, h4, h5⟩ := Shp.nodes hT (Shp.node hT fuel) hk ⟨_, hf⟩
    have hv : v = .slice a len cap := by
      simp only [Value.cells] at h0
      injection h0 with h0
      exact h0.symm
    subst hv
    exact ⟨A, n, c, F, ks, h1, h2, h3, h4, h5⟩
end
end Go.Ga

/- The laws TlvWrites, TlvBack and TlvCut. -/
namespace Go.Ga
open Go Go.Proofs
set_option linter.unusedSimpArgs false
set_option linter.unusedVariables false
set_option maxRecDepth 100000
attribute [local irreducible] appendK

theorem BytesV.some {x : Nat} {g : Nat → Option Blk} {v : Value} {r : Except Nat (List UInt8)} (h : BytesV x g v r) : ∃ (l : List UInt8) (e : Nat) (A : Option Addr) (N : Nat), v = .tuple #[.slice A N N, .int .i64 (e : Nat)] ∧ l.length = N ∧ Row x g 1 A N (l.map u8V) ∧
    ((r = .ok l ∧ e = 0) ∨ (r = .error e ∧ l = [])) := by
  cases r with
  | error e => exact ⟨[], e, none, 0, h, rfl, .nil, .inr ⟨rfl, rfl⟩⟩
  | ok l =>
    obtain ⟨A, N, h1, h2, h3⟩ := h
    exact ⟨l, 0, A, N, h1, h2, h3, .inl ⟨rfl, rfl⟩⟩
theorem wr_err {x : Fo.El} {e : Nat} (h : Fo.wr x = .error e) : e = 2 ∨ e = 4 ∨ e = 5 := by
  unfold Fo.wr at h
  split at h
  · injection h with h; omega
  · split at h
    · injection h with h; omega
    · split at h
      · injection h with h; omega
      · cases h
theorem rd_err {l : List UInt8} {e : Nat} (h : Fo.rd l = .error e) : e ≠ 0 := by
  unfold Fo.rd at h
  split at h
  · injection h with h; omega
  · split at h
    · rename_i e' he
      injection h with h; subst h
      have := Fo.elem_errs he; omega
    · split at h
      · cases h
      · injection h with h; omega

def fieldsOf : Option TypeDesc → Array Field
  | some (.struct fs) => fs
  | _ => #[]
theorem nodeT : NodeT Try.prog 26 3 22 24 5 :=
  ⟨⟨fieldsOf (Try.prog.underlying 26), by kernel_rfl, by kernel_rfl, by kernel_rfl, by kernel_rfl⟩, by kernel_rfl, by kernel_rfl, by kernel_rfl, by kernel_rfl, by kernel_rfl, by kernel_rfl, by kernel_rfl, by kernel_rfl, by kernel_rfl⟩

section
variable {nx : Nat} {gt : Nat → Option Blk}


theorem fn_Writes {x : Fo.El} {B : Option Addr} {m d : Nat} {A : Option Addr} {n c : Nat} {ks : List Value} (h : NdR nx gt x B m d A n c ks) :
    Ct Try.prog 4 [nodeV x.t B m d A n c] nx gt fun v _ _ => v = .bool true := by
  refine Ct.of hmx r_lanyardlaw04_TlvWrites (by simp [c_lanyardlaw04_TlvWrites]) fun b hb => ?_
  have hF : ∀ q, q < nx → upd gt nx (some (.cells (nodeL x.t B m d A n c) false)) q = gt q := fun q hq => by simp only [upd_e]; rw [if_neg (by omega)]
  have hb0 : upd gt nx (some (.cells (nodeL x.t B m d A n c) false)) nx = some (.cells (nodeL x.t B m d A n c) false) := by simp only [upd_e, if_true]
  simp only [c_lanyardlaw04_TlvWrites, ↓gaW, ↓gaV, ↓gaC, ↓gaN, gaP, Nat.reduceEqDiff, Nat.reduceLeDiff, Nat.reduceAdd, Nat.reduceSub, Nat.reduceMul, Int.reduceLT, Int.reduceLE, Int.reduceEq, Int.reduceToNat, Int.reduceAdd, Int.reduceSub, Int.reduceMul, reduceCtorEq, ↓reduceIte, List.getD_cons_zero, List.getD_cons_succ, fillL, splice, List.take_zero, List.drop_zero, List.drop_succ_cons, List.take_succ_cons, List.drop_nil, List.take_nil, gaU]
  generalize upd gt nx (some (.cells (nodeL x.t B m d A n c) false)) = g0 at *
  refine callK_of ct_awake04 (fun v x1 g1 l1 k1 hC => ?_) (by omega)
  subst hC
  have F1 : ∀ p, p < nx → g1 p = gt p := fun p hp => by rw [k1 p (by omega), hF p hp]
  have hb1 : g1 nx = some (.cells (nodeL x.t B m d A n c) false) := by rw [k1 nx (by omega), hb0]
  simp only [↓gaW, ↓gaV, ↓gaC, ↓gaN, gaP, Nat.reduceEqDiff, Nat.reduceLeDiff, Nat.reduceAdd, Nat.reduceSub, Nat.reduceMul, Int.reduceLT, Int.reduceLE, Int.reduceEq, Int.reduceToNat, Int.reduceAdd, Int.reduceSub, Int.reduceMul, reduceCtorEq, ↓reduceIte, List.getD_cons_zero, List.getD_cons_succ, fillL, splice, List.take_zero, List.drop_zero, List.drop_succ_cons, List.take_succ_cons, List.drop_nil, List.take_nil, hb1]
  repeat refine And.intro (by omega) ?_
  refine callK_of (ct_Light (h.keep (x' := x1) (by omega) F1)) (fun v x2 g2 l2 k2 hC => ?_) (by omega)
  obtain ⟨ok, rfl, hok⟩ := hC
  have F2 : ∀ p, p < nx → g2 p = gt p := fun p hp => by rw [k2 p (by omega), F1 p hp]
  have hb2 : g2 nx = some (.cells (nodeL x.t B m d A n c) false) := by rw [k2 nx (by omega), hb1]
  cases ok with
  | false =>
    simp only [↓gaW, ↓gaV, ↓gaC, ↓gaN, gaP, Nat.reduceEqDiff, Nat.reduceLeDiff, Nat.reduceAdd, Nat.reduceSub, Nat.reduceMul, Int.reduceLT, Int.reduceLE, Int.reduceEq, Int.reduceToNat, Int.reduceAdd, Int.reduceSub, Int.reduceMul, reduceCtorEq, ↓reduceIte, gaE, implies_true, Nat.le_refl, Int.sub_zero, Nat.sub_zero, Int.le_refl, true_or, or_true, List.getD_cons_zero, List.getD_cons_succ, fillL, splice, List.take_zero, List.drop_zero, List.drop_succ_cons, List.take_succ_cons, List.drop_nil, List.take_nil, Bool.not_false]
    exact ⟨by omega, F2⟩
  | true =>
    have hw := hok rfl
    simp only [↓gaW, ↓gaV, ↓gaC, ↓gaN, gaP, Nat.reduceEqDiff, Nat.reduceLeDiff, Nat.reduceAdd, Nat.reduceSub, Nat.reduceMul, Int.reduceLT, Int.reduceLE, Int.reduceEq, Int.reduceToNat, Int.reduceAdd, Int.reduceSub, Int.reduceMul, reduceCtorEq, ↓reduceIte, List.getD_cons_zero, List.getD_cons_succ, fillL, splice, List.take_zero, List.drop_zero, List.drop_succ_cons, List.take_succ_cons, List.drop_nil, List.take_nil, Bool.not_true, hb2]
    repeat refine And.intro (by omega) ?_
    refine callK_of (ct_Write (x := x) (by omega) (h.keep (x' := x2) (by omega) F2)) (fun v x3 g3 l3 k3 hC => ?_) (by omega)
    obtain ⟨l, e, A3, N3, rfl, hl, r3, hy⟩ := hC.some
    have F3 : ∀ p, p < nx → g3 p = gt p := fun p hp => by rw [k3 p (by omega), F2 p hp]
    have hb3 : g3 nx = some (.cells (nodeL x.t B m d A n c) false) := by rw [k3 nx (by omega), hb2]
    simp only [↓gaW, ↓gaV, ↓gaC, ↓gaN, gaP, Nat.reduceEqDiff, Nat.reduceLeDiff, Nat.reduceAdd, Nat.reduceSub, Nat.reduceMul, Int.reduceLT, Int.reduceLE, Int.reduceEq, Int.reduceToNat, Int.reduceAdd, Int.reduceSub, Int.reduceMul, reduceCtorEq, ↓reduceIte, List.getD_cons_zero, List.getD_cons_succ, fillL, splice, List.take_zero, List.drop_zero, List.drop_succ_cons, List.take_succ_cons, List.drop_nil, List.take_nil, hb3]
    repeat refine And.intro (by omega) ?_
    refine callK_of (ct_rWrite (x := x) (by omega) (h.keep (x' := x3) (by omega) F3)) (fun v x4 g4 l4 k4 hC => ?_) (by omega)
    obtain ⟨l', e', A4, N4, rfl, hl', r4, hz⟩ := hC.some
    have F4 : ∀ p, p < nx → g4 p = gt p := fun p hp => by rw [k4 p (by omega), F3 p hp]
    have hb4 : g4 nx = some (.cells (nodeL x.t B m d A n c) false) := by rw [k4 nx (by omega), hb3]
    have hyz : l = l' ∧ e = e' := by
      rcases hy with ⟨h1, h2⟩ | ⟨h1, h2⟩ <;> rcases hz with ⟨h3, h4⟩ | ⟨h3, h4⟩ <;> rw [h1] at h3
      · injection h3 with h3; exact ⟨h3, by omega⟩
      · cases h3
      · cases h3
      · injection h3 with h3; exact ⟨by rw [h2, h4], h3⟩
    obtain ⟨rfl, rfl⟩ := hyz
    simp only [↓gaW, ↓gaV, ↓gaC, ↓gaN, gaP, Nat.reduceEqDiff, Nat.reduceLeDiff, Nat.reduceAdd, Nat.reduceSub, Nat.reduceMul, Int.reduceLT, Int.reduceLE, Int.reduceEq, Int.reduceToNat, Int.reduceAdd, Int.reduceSub, Int.reduceMul, reduceCtorEq, ↓reduceIte, List.getD_cons_zero, List.getD_cons_succ, fillL, splice, List.take_zero, List.drop_zero, List.drop_succ_cons, List.take_succ_cons, List.drop_nil, List.take_nil, hb4]
    repeat refine And.intro (by omega) ?_
    refine callK_of (ct_Size x (by omega) _ _ _ _ _ _ _ _ _ (h.keep (x' := x4) (by omega) F4)) (fun v x5 g5 l5 k5 hC => ?_) (by omega)
    subst hC
    have F5 : ∀ p, p < nx → g5 p = gt p := fun p hp => by rw [k5 p (by omega), F4 p hp]
    have hb5 : g5 nx = some (.cells (nodeL x.t B m d A n c) false) := by rw [k5 nx (by omega), hb4]
    simp only [↓gaW, ↓gaV, ↓gaC, ↓gaN, gaP, Nat.reduceEqDiff, Nat.reduceLeDiff, Nat.reduceAdd, Nat.reduceSub, Nat.reduceMul, Int.reduceLT, Int.reduceLE, Int.reduceEq, Int.reduceToNat, Int.reduceAdd, Int.reduceSub, Int.reduceMul, reduceCtorEq, ↓reduceIte, List.getD_cons_zero, List.getD_cons_succ, fillL, splice, List.take_zero, List.drop_zero, List.drop_succ_cons, List.take_succ_cons, List.drop_nil, List.take_nil, hb5]
    repeat refine And.intro (by omega) ?_
    refine callK_of (ct_rSize x (by omega) _ _ _ _ _ _ _ _ _ (h.keep (x' := x5) (by omega) F5)) (fun v x6 g6 l6 k6 hC => ?_) (by omega)
    subst hC
    have F6 : ∀ p, p < nx → g6 p = gt p := fun p hp => by rw [k6 p (by omega), F5 p hp]
    have e3 : rowOf ⟨x6, b, g6⟩ A3 N3 = some (l.map u8V) := ((((r3.keep l4 k4).keep l5 k5).keep l6 k6)).rowOf
    have e4 : rowOf ⟨x6, b, g6⟩ A4 N4 = some (l.map u8V) := ((((r4).keep l5 k5).keep l6 k6)).rowOf
    simp only [↓gaW, ↓gaV, ↓gaC, ↓gaN, gaP, Nat.reduceEqDiff, Nat.reduceLeDiff, Nat.reduceAdd, Nat.reduceSub, Nat.reduceMul, Int.reduceLT, Int.reduceLE, Int.reduceEq, Int.reduceToNat, Int.reduceAdd, Int.reduceSub, Int.reduceMul, reduceCtorEq, ↓reduceIte, List.getD_cons_zero, List.getD_cons_succ, fillL, splice, List.take_zero, List.drop_zero, List.drop_succ_cons, List.take_succ_cons, List.drop_nil, List.take_nil, gaE, implies_true, Nat.le_refl, Int.sub_zero, Nat.sub_zero, Int.le_refl, true_or, or_true, e3, e4, bytesOf_map, str_eq]
    repeat refine And.intro (by omega) ?_
    exact F6
end
end Go.Ga

/- The laws TlvBack and TlvCut. -/
namespace Go.Ga
open Go Go.Proofs
set_option linter.unusedSimpArgs false
set_option linter.unusedVariables false
set_option maxRecDepth 100000
attribute [local irreducible] appendK

section
variable {nx : Nat} {gt : Nat → Option Blk}

theorem fn_Back {x : Fo.El} {B : Option Addr} {m d : Nat} {A : Option Addr} {n c : Nat} {ks : List Value} {A9 : Option Addr} {n9 c9 : Nat} {b9 : List UInt8} (h : NdR nx gt x B m d A n c ks) (hA9 : Row nx gt 1 A9 n9 (b9.map u8V)) (hc9 : n9 ≤ c9) :
    Ct Try.prog 5 [nodeV x.t B m d A n c, .slice A9 n9 c9] nx gt fun v _ _ => v = .bool true := by
  have hl9 : b9.length = n9 := by simpa using hA9.len
  refine Ct.of hmx r_lanyardlaw04_TlvBack (by simp [c_lanyardlaw04_TlvBack]) fun b hb => ?_
  have hF : ∀ q, q < nx → upd gt nx (some (.cells (nodeL x.t B m d A n c) false)) q = gt q := fun q hq => by simp only [upd_e]; rw [if_neg (by omega)]
  have hb0 : upd gt nx (some (.cells (nodeL x.t B m d A n c) false)) nx = some (.cells (nodeL x.t B m d A n c) false) := by simp only [upd_e, if_true]
  simp only [c_lanyardlaw04_TlvBack, ↓gaW, ↓gaV, ↓gaC, ↓gaN, gaP, Nat.reduceEqDiff, Nat.reduceLeDiff, Nat.reduceAdd, Nat.reduceSub, Nat.reduceMul, Int.reduceLT, Int.reduceLE, Int.reduceEq, Int.reduceToNat, Int.reduceAdd, Int.reduceSub, Int.reduceMul, reduceCtorEq, ↓reduceIte, List.getD_cons_zero, List.getD_cons_succ, fillL, splice, List.take_zero, List.drop_zero, List.drop_succ_cons, List.take_succ_cons, List.drop_nil, List.take_nil, gaU]
  generalize upd gt nx (some (.cells (nodeL x.t B m d A n c) false)) = g0 at *
  refine callK_of ct_awake04 (fun v x1 g1 l1 k1 hC => ?_) (by omega)
  subst hC
  have F1 : ∀ p, p < nx → g1 p = gt p := fun p hp => by rw [k1 p (by omega), hF p hp]
  have hb1 : g1 nx = some (.cells (nodeL x.t B m d A n c) false) := by rw [k1 nx (by omega), hb0]
  simp only [↓gaW, ↓gaV, ↓gaC, ↓gaN, gaP, Nat.reduceEqDiff, Nat.reduceLeDiff, Nat.reduceAdd, Nat.reduceSub, Nat.reduceMul, Int.reduceLT, Int.reduceLE, Int.reduceEq, Int.reduceToNat, Int.reduceAdd, Int.reduceSub, Int.reduceMul, reduceCtorEq, ↓reduceIte, List.getD_cons_zero, List.getD_cons_succ, fillL, splice, List.take_zero, List.drop_zero, List.drop_succ_cons, List.take_succ_cons, List.drop_nil, List.take_nil, hb1]
  repeat refine And.intro (by omega) ?_
  refine callK_of (ct_Light (h.keep (x' := x1) (by omega) F1)) (fun v x2 g2 l2 k2 hC => ?_) (by omega)
  obtain ⟨ok, rfl, hok⟩ := hC
  have F2 : ∀ p, p < nx → g2 p = gt p := fun p hp => by rw [k2 p (by omega), F1 p hp]
  have hb2 : g2 nx = some (.cells (nodeL x.t B m d A n c) false) := by rw [k2 nx (by omega), hb1]
  cases ok with
  | false =>
    simp only [↓gaW, ↓gaV, ↓gaC, ↓gaN, gaP, Nat.reduceEqDiff, Nat.reduceLeDiff, Nat.reduceAdd, Nat.reduceSub, Nat.reduceMul, Int.reduceLT, Int.reduceLE, Int.reduceEq, Int.reduceToNat, Int.reduceAdd, Int.reduceSub, Int.reduceMul, reduceCtorEq, ↓reduceIte, gaE, implies_true, Nat.le_refl, Int.sub_zero, Nat.sub_zero, Int.le_refl, true_or, or_true, List.getD_cons_zero, List.getD_cons_succ, fillL, splice, List.take_zero, List.drop_zero, List.drop_succ_cons, List.take_succ_cons, List.drop_nil, List.take_nil, Bool.not_false]
    exact ⟨by omega, F2⟩
  | true =>
    have hw := hok rfl
    by_cases hbig : (5000 : Int) < (n9 : Int)
    · simp only [↓gaW, ↓gaV, ↓gaC, ↓gaN, gaP, Nat.reduceEqDiff, Nat.reduceLeDiff, Nat.reduceAdd, Nat.reduceSub, Nat.reduceMul, Int.reduceLT, Int.reduceLE, Int.reduceEq, Int.reduceToNat, Int.reduceAdd, Int.reduceSub, Int.reduceMul, reduceCtorEq, ↓reduceIte, gaE, implies_true, Nat.le_refl, Int.sub_zero, Nat.sub_zero, Int.le_refl, true_or, or_true, List.getD_cons_zero, List.getD_cons_succ, fillL, splice, List.take_zero, List.drop_zero, List.drop_succ_cons, List.take_succ_cons, List.drop_nil, List.take_nil, Bool.not_true, hbig, decide_true]
      exact ⟨by omega, F2⟩
    simp only [↓gaW, ↓gaV, ↓gaC, ↓gaN, gaP, Nat.reduceEqDiff, Nat.reduceLeDiff, Nat.reduceAdd, Nat.reduceSub, Nat.reduceMul, Int.reduceLT, Int.reduceLE, Int.reduceEq, Int.reduceToNat, Int.reduceAdd, Int.reduceSub, Int.reduceMul, reduceCtorEq, ↓reduceIte, List.getD_cons_zero, List.getD_cons_succ, fillL, splice, List.take_zero, List.drop_zero, List.drop_succ_cons, List.take_succ_cons, List.drop_nil, List.take_nil, Bool.not_true, hb2, hbig, decide_false]
    repeat refine And.intro (by omega) ?_
    refine callK_of (ct_Write (x := x) (by omega) (h.keep (x' := x2) (by omega) F2)) (fun v x3 g3 l3 k3 hC => ?_) (by omega)
    obtain ⟨l, e, A3, N3, rfl, hl, r3, hz⟩ := hC.some
    have F3 : ∀ p, p < nx → g3 p = gt p := fun p hp => by rw [k3 p (by omega), F2 p hp]
    have hb3 : g3 nx = some (.cells (nodeL x.t B m d A n c) false) := by rw [k3 nx (by omega), hb2]
    by_cases he : (e : Int) = 0
    · have he0 : e = 0 := by omega
      subst he0
      rcases hz with ⟨h3, h4⟩ | ⟨h3, h4⟩
      case inr => have := wr_err h3; omega
      have hrd := Fo.rd_wr h3
      obtain ⟨w1, w2, w3, w4⟩ := Fo.wr_ok h3
      have hls : l.length = x.f.bs := by rw [w4, Fo.ly_bs w1]
      simp only [↓gaW, ↓gaV, ↓gaC, ↓gaN, gaP, Nat.reduceEqDiff, Nat.reduceLeDiff, Nat.reduceAdd, Nat.reduceSub, Nat.reduceMul, Int.reduceLT, Int.reduceLE, Int.reduceEq, Int.reduceToNat, Int.reduceAdd, Int.reduceSub, Int.reduceMul, reduceCtorEq, ↓reduceIte, List.getD_cons_zero, List.getD_cons_succ, fillL, splice, List.take_zero, List.drop_zero, List.drop_succ_cons, List.take_succ_cons, List.drop_nil, List.take_nil, he, decide_true]
      repeat refine And.intro (by omega) ?_
      refine callK_of (ct_Read r3 (Nat.le_refl _) (by omega)) (fun v x4 g4 l4 k4 hC => ?_) (by omega)
      rw [hrd] at hC
      obtain ⟨B', m', d', A', n', c', ks', rfl, hM⟩ := hC
      have F4 : ∀ p, p < nx → g4 p = gt p := fun p hp => by rw [k4 p (by omega), F3 p hp]
      have hb4 : g4 nx = some (.cells (nodeL x.t B m d A n c) false) := by rw [k4 nx (by omega), hb3]
      obtain ⟨g5, e5, G5, hb5⟩ := boxed (g := g4) (x := x4) (cs := [Value.int .i64 0, .slice none 0 0, .slice none 0 0]) (ds := nodeL x.t B' m' d' A' n' c')
      have hM5 := hM.keep (x' := x4 + 1) (by omega) G5
      have hb6 : g5 nx = some (.cells (nodeL x.t B m d A n c) false) := by rw [G5 nx (by omega), hb4]
      have F5 : ∀ p, p < nx → g5 p = gt p := fun p hp => by rw [G5 p (by omega), F4 p hp]
      have hnx4 : (nx = x4) = False := by simp; omega
      simp only [↓gaW, ↓gaV, ↓gaC, ↓gaN, gaP, Nat.reduceEqDiff, Nat.reduceLeDiff, Nat.reduceAdd, Nat.reduceSub, Nat.reduceMul, Int.reduceLT, Int.reduceLE, Int.reduceEq, Int.reduceToNat, Int.reduceAdd, Int.reduceSub, Int.reduceMul, reduceCtorEq, ↓reduceIte, List.getD_cons_zero, List.getD_cons_succ, fillL, splice, List.take_zero, List.drop_zero, List.drop_succ_cons, List.take_succ_cons, List.drop_nil, List.take_nil, hb4, hnx4, nodeL]
      repeat refine And.intro (by omega) ?_
      refine And.intro (node_cells _ _ _ _ _ _ _) ?_
      repeat refine And.intro (by omega) ?_
      rw [← e5]; clear e5
      refine callK_of (ct_Same x (by omega) x _ _ _ _ _ _ _ _ _ _ _ _ _ _ _ _ hM5 (h.keep (x' := x4 + 1) (by omega) F5)) (fun v x6 g6 l6 k6 hC => ?_) (by omega)
      obtain ⟨r, rfl, hr⟩ := hC
      have hr : r = true := hr.2 rfl
      subst hr
      have F6 : ∀ p, p < nx → g6 p = gt p := fun p hp => by rw [k6 p (by omega), F5 p hp]
      have hb7 : g6 nx = some (.cells (nodeL x.t B m d A n c) false) := by rw [k6 nx (by omega), hb6]
      simp only [↓gaW, ↓gaV, ↓gaC, ↓gaN, gaP, Nat.reduceEqDiff, Nat.reduceLeDiff, Nat.reduceAdd, Nat.reduceSub, Nat.reduceMul, Int.reduceLT, Int.reduceLE, Int.reduceEq, Int.reduceToNat, Int.reduceAdd, Int.reduceSub, Int.reduceMul, reduceCtorEq, ↓reduceIte, List.getD_cons_zero, List.getD_cons_succ, fillL, splice, List.take_zero, List.drop_zero, List.drop_succ_cons, List.take_succ_cons, List.drop_nil, List.take_nil, hb7]
      repeat refine And.intro (by omega) ?_
      refine callK_of (ct_Size x (by omega) _ _ _ _ _ _ _ _ _ (h.keep (x' := x6) (by omega) F6)) (fun v x7 g7 l7 k7 hC => ?_) (by omega)
      subst hC
      have F7 : ∀ p, p < nx → g7 p = gt p := fun p hp => by rw [k7 p (by omega), F6 p hp]
      have hNs : ((N3 : Nat) : Int) = (x.f.bs : Nat) := by omega
      simp only [↓gaW, ↓gaV, ↓gaC, ↓gaN, gaP, Nat.reduceEqDiff, Nat.reduceLeDiff, Nat.reduceAdd, Nat.reduceSub, Nat.reduceMul, Int.reduceLT, Int.reduceLE, Int.reduceEq, Int.reduceToNat, Int.reduceAdd, Int.reduceSub, Int.reduceMul, reduceCtorEq, ↓reduceIte, List.getD_cons_zero, List.getD_cons_succ, fillL, splice, List.take_zero, List.drop_zero, List.drop_succ_cons, List.take_succ_cons, List.drop_nil, List.take_nil, Bool.not_true, Bool.not_false, hNs, decide_true]
      repeat refine And.intro (by omega) ?_
      have hR := hA9.keep (nx' := x7) (gt' := g7) (by omega) F7
      refine callK_of (ct_Read hR hc9 (by omega)) (fun v xa ga la ka hC => ?_) (by omega)
      obtain ⟨y, f0, Ba, ma, da, Aa, na, ca, ksa, rfl, hM, hy⟩ := hC.some
      have Fa : ∀ p, p < nx → ga p = gt p := fun p hp => by rw [ka p (by omega), F7 p hp]
      obtain ⟨gb, eb, Gb, hbb⟩ := boxed (g := ga) (x := xa) (cs := [Value.int .i64 0, .slice none 0 0, .slice none 0 0]) (ds := nodeL y.t Ba ma da Aa na ca)
      have hMb := hM.keep (x' := xa + 1) (by omega) Gb
      have Fb : ∀ p, p < nx → gb p = gt p := fun p hp => by rw [Gb p (by omega), Fa p hp]
      rcases hy with ⟨h1, h2⟩ | ⟨h1, h2⟩
      case inr =>
        have hf0 : ¬ (f0 : Int) = 0 := by have := rd_err h1; omega
        simp only [↓gaW, ↓gaV, ↓gaC, ↓gaN, gaP, Nat.reduceEqDiff, Nat.reduceLeDiff, Nat.reduceAdd, Nat.reduceSub, Nat.reduceMul, Int.reduceLT, Int.reduceLE, Int.reduceEq, Int.reduceToNat, Int.reduceAdd, Int.reduceSub, Int.reduceMul, reduceCtorEq, ↓reduceIte, gaE, implies_true, Nat.le_refl, Int.sub_zero, Nat.sub_zero, Int.le_refl, true_or, or_true, List.getD_cons_zero, List.getD_cons_succ, fillL, splice, List.take_zero, List.drop_zero, List.drop_succ_cons, List.take_succ_cons, List.drop_nil, List.take_nil, hf0, he, decide_true, decide_false]
        repeat refine And.intro (by omega) ?_
        refine And.intro (node_cells _ _ _ _ _ _ _) ?_
        repeat refine And.intro (by omega) ?_
        exact fun p hp => by rw [if_neg (by omega), if_neg (by omega), Fa p hp]
      subst h2
      have hwr := Fo.wr_rd h1
      have hyw := (rd_ws h1).1
      have hz0 : ((0 : Nat) : Int) = 0 := rfl
      simp only [↓gaW, ↓gaV, ↓gaC, ↓gaN, gaP, Nat.reduceEqDiff, Nat.reduceLeDiff, Nat.reduceAdd, Nat.reduceSub, Nat.reduceMul, Int.reduceLT, Int.reduceLE, Int.reduceEq, Int.reduceToNat, Int.reduceAdd, Int.reduceSub, Int.reduceMul, reduceCtorEq, ↓reduceIte, List.getD_cons_zero, List.getD_cons_succ, fillL, splice, List.take_zero, List.drop_zero, List.drop_succ_cons, List.take_succ_cons, List.drop_nil, List.take_nil, hz0, decide_true, decide_false]
      repeat refine And.intro (by omega) ?_
      refine And.intro (node_cells _ _ _ _ _ _ _) ?_
      repeat refine And.intro (by omega) ?_
      rw [← eb]
      refine callK_of (ct_Write (x := y) (by omega) hMb) (fun v xc gc lc kc hC => ?_) (by omega)
      rw [hwr] at hC
      obtain ⟨Ac, Nc, rfl, hlc, rc⟩ := hC
      have Fc : ∀ p, p < nx → gc p = gt p := fun p hp => by rw [kc p (by omega), Fb p hp]
      have e1 : rowOf ⟨xc, b, gc⟩ Ac Nc = some (b9.map u8V) := rc.rowOf
      have e2 : rowOf ⟨xc, b, gc⟩ A9 n9 = some (b9.map u8V) := (hA9.keep (nx' := xc) (gt' := gc) (by omega) Fc).rowOf
      simp only [↓gaW, ↓gaV, ↓gaC, ↓gaN, gaP, Nat.reduceEqDiff, Nat.reduceLeDiff, Nat.reduceAdd, Nat.reduceSub, Nat.reduceMul, Int.reduceLT, Int.reduceLE, Int.reduceEq, Int.reduceToNat, Int.reduceAdd, Int.reduceSub, Int.reduceMul, reduceCtorEq, ↓reduceIte, gaE, implies_true, Nat.le_refl, Int.sub_zero, Nat.sub_zero, Int.le_refl, true_or, or_true, List.getD_cons_zero, List.getD_cons_succ, fillL, splice, List.take_zero, List.drop_zero, List.drop_succ_cons, List.take_succ_cons, List.drop_nil, List.take_nil, e1, e2, bytesOf_map, str_eq]
      repeat refine And.intro (by omega) ?_
      exact Fc
    · simp only [↓gaW, ↓gaV, ↓gaC, ↓gaN, gaP, Nat.reduceEqDiff, Nat.reduceLeDiff, Nat.reduceAdd, Nat.reduceSub, Nat.reduceMul, Int.reduceLT, Int.reduceLE, Int.reduceEq, Int.reduceToNat, Int.reduceAdd, Int.reduceSub, Int.reduceMul, reduceCtorEq, ↓reduceIte, List.getD_cons_zero, List.getD_cons_succ, fillL, splice, List.take_zero, List.drop_zero, List.drop_succ_cons, List.take_succ_cons, List.drop_nil, List.take_nil, he, decide_false]
      repeat refine And.intro (by omega) ?_
      have hlz : l = [] ∧ N3 = 0 := by
        rcases hz with ⟨h3, h4⟩ | ⟨h3, h4⟩
        · omega
        · subst h4; exact ⟨rfl, by rw [← hl]; rfl⟩
      obtain ⟨rfl, rfl⟩ := hlz
      have hz00 : ((0 : Nat) : Int) = 0 := rfl
      have hR := hA9.keep (nx' := x3) (gt' := g3) (by omega) F3
      refine callK_of (ct_Read hR hc9 (by omega)) (fun v xa ga la ka hC => ?_) (by omega)
      obtain ⟨y, f0, Ba, ma, da, Aa, na, ca, ksa, rfl, hM, hy⟩ := hC.some
      have Fa : ∀ p, p < nx → ga p = gt p := fun p hp => by rw [ka p (by omega), F3 p hp]
      obtain ⟨gb, eb, Gb, hbb⟩ := boxed (g := ga) (x := xa) (cs := [Value.int .i64 0, .slice none 0 0, .slice none 0 0]) (ds := nodeL y.t Ba ma da Aa na ca)
      have hMb := hM.keep (x' := xa + 1) (by omega) Gb
      have Fb : ∀ p, p < nx → gb p = gt p := fun p hp => by rw [Gb p (by omega), Fa p hp]
      rcases hy with ⟨h1, h2⟩ | ⟨h1, h2⟩
      case inr =>
        have hf0 : ¬ (f0 : Int) = 0 := by have := rd_err h1; omega
        simp only [↓gaW, ↓gaV, ↓gaC, ↓gaN, gaP, Nat.reduceEqDiff, Nat.reduceLeDiff, Nat.reduceAdd, Nat.reduceSub, Nat.reduceMul, Int.reduceLT, Int.reduceLE, Int.reduceEq, Int.reduceToNat, Int.reduceAdd, Int.reduceSub, Int.reduceMul, reduceCtorEq, ↓reduceIte, gaE, implies_true, Nat.le_refl, Int.sub_zero, Nat.sub_zero, Int.le_refl, true_or, or_true, List.getD_cons_zero, List.getD_cons_succ, fillL, splice, List.take_zero, List.drop_zero, List.drop_succ_cons, List.take_succ_cons, List.drop_nil, List.take_nil, hf0, he, hz00, decide_true, decide_false]
        repeat refine And.intro (by omega) ?_
        refine And.intro (node_cells _ _ _ _ _ _ _) ?_
        repeat refine And.intro (by omega) ?_
        exact fun p hp => by rw [if_neg (by omega), if_neg (by omega), Fa p hp]
      subst h2
      have hwr := Fo.wr_rd h1
      have hyw := (rd_ws h1).1
      have hz0 : ((0 : Nat) : Int) = 0 := rfl
      simp only [↓gaW, ↓gaV, ↓gaC, ↓gaN, gaP, Nat.reduceEqDiff, Nat.reduceLeDiff, Nat.reduceAdd, Nat.reduceSub, Nat.reduceMul, Int.reduceLT, Int.reduceLE, Int.reduceEq, Int.reduceToNat, Int.reduceAdd, Int.reduceSub, Int.reduceMul, reduceCtorEq, ↓reduceIte, List.getD_cons_zero, List.getD_cons_succ, fillL, splice, List.take_zero, List.drop_zero, List.drop_succ_cons, List.take_succ_cons, List.drop_nil, List.take_nil, hz0, decide_true, decide_false]
      repeat refine And.intro (by omega) ?_
      refine And.intro (node_cells _ _ _ _ _ _ _) ?_
      repeat refine And.intro (by omega) ?_
      rw [← eb]
      refine callK_of (ct_Write (x := y) (by omega) hMb) (fun v xc gc lc kc hC => ?_) (by omega)
      rw [hwr] at hC
      obtain ⟨Ac, Nc, rfl, hlc, rc⟩ := hC
      have Fc : ∀ p, p < nx → gc p = gt p := fun p hp => by rw [kc p (by omega), Fb p hp]
      have e1 : rowOf ⟨xc, b, gc⟩ Ac Nc = some (b9.map u8V) := rc.rowOf
      have e2 : rowOf ⟨xc, b, gc⟩ A9 n9 = some (b9.map u8V) := (hA9.keep (nx' := xc) (gt' := gc) (by omega) Fc).rowOf
      simp only [↓gaW, ↓gaV, ↓gaC, ↓gaN, gaP, Nat.reduceEqDiff, Nat.reduceLeDiff, Nat.reduceAdd, Nat.reduceSub, Nat.reduceMul, Int.reduceLT, Int.reduceLE, Int.reduceEq, Int.reduceToNat, Int.reduceAdd, Int.reduceSub, Int.reduceMul, reduceCtorEq, ↓reduceIte, gaE, implies_true, Nat.le_refl, Int.sub_zero, Nat.sub_zero, Int.le_refl, true_or, or_true, List.getD_cons_zero, List.getD_cons_succ, fillL, splice, List.take_zero, List.drop_zero, List.drop_succ_cons, List.take_succ_cons, List.drop_nil, List.take_nil, e1, e2, bytesOf_map, str_eq]
      repeat refine And.intro (by omega) ?_
      exact Fc

theorem fn_Cut {x : Fo.El} {B : Option Addr} {m d : Nat} {A : Option Addr} {n c : Nat} {ks : List Value} {cut : Int} (h : NdR nx gt x B m d A n c ks) (hcut : -9223372036854775808 ≤ cut ∧ cut ≤ 9223372036854775807) :
    Ct Try.prog 6 [nodeV x.t B m d A n c, .int .i64 cut] nx gt fun v _ _ => v = .bool true := by
  refine Ct.of hmx r_lanyardlaw04_TlvCut (by simp [c_lanyardlaw04_TlvCut]) fun b hb => ?_
  have hF : ∀ q, q < nx → upd gt nx (some (.cells (nodeL x.t B m d A n c) false)) q = gt q := fun q hq => by simp only [upd_e]; rw [if_neg (by omega)]
  have hb0 : upd gt nx (some (.cells (nodeL x.t B m d A n c) false)) nx = some (.cells (nodeL x.t B m d A n c) false) := by simp only [upd_e, if_true]
  simp only [c_lanyardlaw04_TlvCut, ↓gaW, ↓gaV, ↓gaC, ↓gaN, gaP, Nat.reduceEqDiff, Nat.reduceLeDiff, Nat.reduceAdd, Nat.reduceSub, Nat.reduceMul, Int.reduceLT, Int.reduceLE, Int.reduceEq, Int.reduceToNat, Int.reduceAdd, Int.reduceSub, Int.reduceMul, reduceCtorEq, ↓reduceIte, List.getD_cons_zero, List.getD_cons_succ, fillL, splice, List.take_zero, List.drop_zero, List.drop_succ_cons, List.take_succ_cons, List.drop_nil, List.take_nil, gaU]
  generalize upd gt nx (some (.cells (nodeL x.t B m d A n c) false)) = g0 at *
  refine callK_of ct_awake04 (fun v x1 g1 l1 k1 hC => ?_) (by omega)
  subst hC
  have F1 : ∀ p, p < nx → g1 p = gt p := fun p hp => by rw [k1 p (by omega), hF p hp]
  have hb1 : g1 nx = some (.cells (nodeL x.t B m d A n c) false) := by rw [k1 nx (by omega), hb0]
  simp only [↓gaW, ↓gaV, ↓gaC, ↓gaN, gaP, Nat.reduceEqDiff, Nat.reduceLeDiff, Nat.reduceAdd, Nat.reduceSub, Nat.reduceMul, Int.reduceLT, Int.reduceLE, Int.reduceEq, Int.reduceToNat, Int.reduceAdd, Int.reduceSub, Int.reduceMul, reduceCtorEq, ↓reduceIte, List.getD_cons_zero, List.getD_cons_succ, fillL, splice, List.take_zero, List.drop_zero, List.drop_succ_cons, List.take_succ_cons, List.drop_nil, List.take_nil, hb1]
  repeat refine And.intro (by omega) ?_
  refine callK_of (ct_Light (h.keep (x' := x1) (by omega) F1)) (fun v x2 g2 l2 k2 hC => ?_) (by omega)
  obtain ⟨ok, rfl, hok⟩ := hC
  have F2 : ∀ p, p < nx → g2 p = gt p := fun p hp => by rw [k2 p (by omega), F1 p hp]
  have hb2 : g2 nx = some (.cells (nodeL x.t B m d A n c) false) := by rw [k2 nx (by omega), hb1]
  cases ok with
  | false =>
    simp only [↓gaW, ↓gaV, ↓gaC, ↓gaN, gaP, Nat.reduceEqDiff, Nat.reduceLeDiff, Nat.reduceAdd, Nat.reduceSub, Nat.reduceMul, Int.reduceLT, Int.reduceLE, Int.reduceEq, Int.reduceToNat, Int.reduceAdd, Int.reduceSub, Int.reduceMul, reduceCtorEq, ↓reduceIte, gaE, implies_true, Nat.le_refl, Int.sub_zero, Nat.sub_zero, Int.le_refl, true_or, or_true, List.getD_cons_zero, List.getD_cons_succ, fillL, splice, List.take_zero, List.drop_zero, List.drop_succ_cons, List.take_succ_cons, List.drop_nil, List.take_nil, Bool.not_false]
    exact ⟨by omega, F2⟩
  | true =>
    have hw := hok rfl
    by_cases hneg : cut < 0
    · simp only [↓gaW, ↓gaV, ↓gaC, ↓gaN, gaP, Nat.reduceEqDiff, Nat.reduceLeDiff, Nat.reduceAdd, Nat.reduceSub, Nat.reduceMul, Int.reduceLT, Int.reduceLE, Int.reduceEq, Int.reduceToNat, Int.reduceAdd, Int.reduceSub, Int.reduceMul, reduceCtorEq, ↓reduceIte, gaE, implies_true, Nat.le_refl, Int.sub_zero, Nat.sub_zero, Int.le_refl, true_or, or_true, List.getD_cons_zero, List.getD_cons_succ, fillL, splice, List.take_zero, List.drop_zero, List.drop_succ_cons, List.take_succ_cons, List.drop_nil, List.take_nil, Bool.not_true, hneg, decide_true]
      exact ⟨by omega, F2⟩
    simp only [↓gaW, ↓gaV, ↓gaC, ↓gaN, gaP, Nat.reduceEqDiff, Nat.reduceLeDiff, Nat.reduceAdd, Nat.reduceSub, Nat.reduceMul, Int.reduceLT, Int.reduceLE, Int.reduceEq, Int.reduceToNat, Int.reduceAdd, Int.reduceSub, Int.reduceMul, reduceCtorEq, ↓reduceIte, List.getD_cons_zero, List.getD_cons_succ, fillL, splice, List.take_zero, List.drop_zero, List.drop_succ_cons, List.take_succ_cons, List.drop_nil, List.take_nil, Bool.not_true, hb2, hneg, decide_false]
    repeat refine And.intro (by omega) ?_
    refine callK_of (ct_Write (x := x) (by omega) (h.keep (x' := x2) (by omega) F2)) (fun v x3 g3 l3 k3 hC => ?_) (by omega)
    obtain ⟨l, e, A3, N3, rfl, hl, r3, hz⟩ := hC.some
    have F3 : ∀ p, p < nx → g3 p = gt p := fun p hp => by rw [k3 p (by omega), F2 p hp]
    by_cases he : (e : Int) = 0
    case neg =>
      simp only [↓gaW, ↓gaV, ↓gaC, ↓gaN, gaP, Nat.reduceEqDiff, Nat.reduceLeDiff, Nat.reduceAdd, Nat.reduceSub, Nat.reduceMul, Int.reduceLT, Int.reduceLE, Int.reduceEq, Int.reduceToNat, Int.reduceAdd, Int.reduceSub, Int.reduceMul, reduceCtorEq, ↓reduceIte, gaE, implies_true, Nat.le_refl, Int.sub_zero, Nat.sub_zero, Int.le_refl, true_or, or_true, List.getD_cons_zero, List.getD_cons_succ, fillL, splice, List.take_zero, List.drop_zero, List.drop_succ_cons, List.take_succ_cons, List.drop_nil, List.take_nil, he, decide_true, decide_false]
      repeat refine And.intro (by omega) ?_
      exact F3
    have he0 : e = 0 := by omega
    subst he0
    rcases hz with ⟨h3, h4⟩ | ⟨h3, h4⟩
    case inr => have := wr_err h3; omega
    obtain ⟨w1, w2, w3, w4⟩ := Fo.wr_ok h3
    have hls : l.length = x.f.bs := by rw [w4, Fo.ly_bs w1]
    have hpos : 0 < N3 := by
      have : 2 ≤ x.f.ly.length := by
        simp only [Fo.El.f, Fo.ly, List.length_append, Fo.hb_len]
        have := Fo.hn_le (x.b.length + x.k.ly.length)
        omega
      rw [← hl, w4]; omega
    have hN0 : ¬ (N3 : Int) = 0 := by omega
    have hN1 : (0 : Int) < (N3 : Int) := by omega
    by_cases h20 : (N3 : Int) = 20000
    · simp only [↓gaW, ↓gaV, ↓gaC, ↓gaN, gaP, Nat.reduceEqDiff, Nat.reduceLeDiff, Nat.reduceAdd, Nat.reduceSub, Nat.reduceMul, Int.reduceLT, Int.reduceLE, Int.reduceEq, Int.reduceToNat, Int.reduceAdd, Int.reduceSub, Int.reduceMul, reduceCtorEq, ↓reduceIte, gaE, implies_true, Nat.le_refl, Int.sub_zero, Nat.sub_zero, Int.le_refl, true_or, or_true, List.getD_cons_zero, List.getD_cons_succ, fillL, splice, List.take_zero, List.drop_zero, List.drop_succ_cons, List.take_succ_cons, List.drop_nil, List.take_nil, he, hN0, hN1, h20, decide_true, decide_false]
      first
        | exact F3
        | (repeat refine And.intro (by omega) ?_
           exact F3)
        | (trace_state; sorry)
    obtain ⟨ct, hct⟩ : ∃ ct : Nat, cut = ct := ⟨cut.toNat, by omega⟩
    subst hct
    obtain ⟨q, hq⟩ : ∃ q, q = ct % N3 := ⟨_, rfl⟩
    have hqlt : q < N3 := by rw [hq]; exact Nat.mod_lt _ hpos
    have htm : (ct : Int).tmod (N3 : Nat) = (q : Nat) := by rw [Int.tmod_eq_emod_of_nonneg (by omega), hq]; omega
    obtain ⟨a, cl, ro, rfl, r2, r3', r4, r5⟩ := r3.cells hpos
    have hsp := r3.spot a rfl
    have P1 := r3.part (lo := 0) (hi := q) (by omega) (by omega) rfl
    rw [Nat.add_zero, Nat.sub_zero, List.drop_zero, ← List.map_take] at P1
    simp only [↓gaW, ↓gaV, ↓gaC, ↓gaN, gaP, Nat.reduceEqDiff, Nat.reduceLeDiff, Nat.reduceAdd, Nat.reduceSub, Nat.reduceMul, Int.reduceLT, Int.reduceLE, Int.reduceEq, Int.reduceToNat, Int.reduceAdd, Int.reduceSub, Int.reduceMul, reduceCtorEq, ↓reduceIte, List.getD_cons_zero, List.getD_cons_succ, fillL, splice, List.take_zero, List.drop_zero, List.drop_succ_cons, List.take_succ_cons, List.drop_nil, List.take_nil, he, hN0, hN1, h20, htm, decide_true, decide_false]
    repeat refine And.intro (by omega) ?_
    refine And.intro (.inr hsp) ?_
    rw [show ((q : Int) - 0).toNat = q by omega, show ((N3 : Int) - 0).toNat = N3 by omega]
    refine callK_of (ct_Read P1 (by omega) (by omega)) (fun v x4 g4 l4 k4 hC => ?_) (by omega)
    rw [Fo.rd_cut h3 (by omega)] at hC
    have hC : v = _ := hC
    subst hC
    have F4 : ∀ p, p < nx → g4 p = gt p := fun p hp => by rw [k4 p (by omega), F3 p hp]
    have r34 := r3.keep l4 k4
    obtain ⟨g5, e5, G5, hb5⟩ := boxed (g := g4) (x := x4) (cs := [Value.int .i64 0, .slice none 0 0, .slice none 0 0]) (ds := nodeL 0 none 0 0 none 0 0)
    have r35 := r34.keep (nx' := x4 + 1) (gt' := g5) (by omega) G5
    have F5 : ∀ p, p < nx → g5 p = gt p := fun p hp => by rw [G5 p (by omega), F4 p hp]
    simp only [↓gaW, ↓gaV, ↓gaC, ↓gaN, gaP, Nat.reduceEqDiff, Nat.reduceLeDiff, Nat.reduceAdd, Nat.reduceSub, Nat.reduceMul, Int.reduceLT, Int.reduceLE, Int.reduceEq, Int.reduceToNat, Int.reduceAdd, Int.reduceSub, Int.reduceMul, reduceCtorEq, ↓reduceIte, List.getD_cons_zero, List.getD_cons_succ, fillL, splice, List.take_zero, List.drop_zero, List.drop_succ_cons, List.take_succ_cons, List.drop_nil, List.take_nil]
    repeat refine And.intro (by omega) ?_
    refine And.intro (node_cells _ _ _ _ _ _ _) ?_
    repeat refine And.intro (by omega) ?_
    rw [← e5]; clear e5
    have hZ : ∀ p, p < x4 + 1 → upd g5 (x4 + 1) (some (Blk.cells [] false)) p = g5 p := fun p hp => by simp only [upd_e]; rw [if_neg (by omega)]
    have hz6 : upd g5 (x4 + 1) (some (Blk.cells [] false)) (x4 + 1) = some (.cells [] false) := by simp only [upd_e, if_true]
    generalize upd g5 (x4 + 1) (some (Blk.cells [] false)) = g6 at *
    have r36 := r35.keep (nx' := x4 + 1 + 1) (gt' := g6) (by omega) hZ
    have e6 : rowOf ⟨x4 + 1 + 1, b, g6⟩ (some a) N3 = some (l.map u8V) := r36.rowOf
    rw [e6]
    simp only [asO_e]
    refine grow_app (Grow.lit (nx := x4 + 1 + 1) (b := b) (q := x4 + 1) (n := 0) (ro := false) (by omega) hz6 rfl) (by omega) (by omega) (by omega) (by rw [List.length_map, hl, Nat.mul_one]) (all_u8 _) (by omega) (by omega) fun A7 x7 g7 l7 k7 G7 => ?_
    rw [Nat.zero_add, List.nil_append] at G7
    have F7 : ∀ p, p < nx → g7 p = gt p := fun p hp => by rw [k7 p (by omega), hZ p (by omega), F5 p hp]
    have hZ7 : ∀ p, p < x7 → upd g7 x7 (some (Blk.cells [Value.int .u8 0] false)) p = g7 p := fun p hp => by simp only [upd_e]; rw [if_neg (by omega)]
    have hz7 : upd g7 x7 (some (Blk.cells [Value.int .u8 0] false)) x7 = some (.cells [Value.int .u8 0] false) := by simp only [upd_e, if_true]
    simp only [↓gaW, ↓gaV, ↓gaC, ↓gaN, gaP, Nat.reduceEqDiff, Nat.reduceLeDiff, Nat.reduceAdd, Nat.reduceSub, Nat.reduceMul, Int.reduceLT, Int.reduceLE, Int.reduceEq, Int.reduceToNat, Int.reduceAdd, Int.reduceSub, Int.reduceMul, reduceCtorEq, ↓reduceIte, List.getD_cons_zero, List.getD_cons_succ, fillL, splice, List.take_zero, List.drop_zero, List.drop_succ_cons, List.take_succ_cons, List.drop_nil, List.take_nil]
    generalize upd g7 x7 (some (Blk.cells [Value.int .u8 0] false)) = g8 at *
    have e8 : rowOf ⟨x7 + 1, b, g8⟩ (some ⟨x7, 0, none⟩) 1 = some [Value.int .u8 0] := (Row.lit (e := 1) (by omega) hz7 rfl).rowOf
    rw [e8]
    simp only [asO_e]
    have G8 := G7.keep (x' := x7 + 1) (g' := g8) (by omega) hZ7
    refine grow_app (bytes := 1) G8 (by omega) (by omega) (by omega) rfl (all1 rfl) (by omega) (by omega) fun A9 x9 g9 l9 k9 G9 => ?_
    have F9 : ∀ p, p < nx → g9 p = gt p := fun p hp => by rw [k9 p (by omega), hZ7 p (by omega), F7 p hp]
    have r9 := G9.row
    rw [Nat.mul_one] at r9
    have e9 : (l.map u8V ++ [Value.int .u8 0]) = (l ++ [0]).map u8V := by rw [List.map_append]; rfl
    rw [e9] at r9
    refine callK_of (ct_Read r9 (Nat.le_refl _) (by omega)) (fun v xa ga la ka hC => ?_) (by omega)
    rw [Fo.rd_more h3 (by simp) (by simp; omega)] at hC
    have hC : v = _ := hC
    subst hC
    simp only [↓gaW, ↓gaV, ↓gaC, ↓gaN, gaP, Nat.reduceEqDiff, Nat.reduceLeDiff, Nat.reduceAdd, Nat.reduceSub, Nat.reduceMul, Int.reduceLT, Int.reduceLE, Int.reduceEq, Int.reduceToNat, Int.reduceAdd, Int.reduceSub, Int.reduceMul, reduceCtorEq, ↓reduceIte, gaE, implies_true, Nat.le_refl, Int.sub_zero, Nat.sub_zero, Int.le_refl, true_or, or_true, List.getD_cons_zero, List.getD_cons_succ, fillL, splice, List.take_zero, List.drop_zero, List.drop_succ_cons, List.take_succ_cons, List.drop_nil, List.take_nil, decide_true]
    repeat refine And.intro (by omega) ?_
    refine And.intro (node_cells _ _ _ _ _ _ _) ?_
    repeat refine And.intro (by omega) ?_
    exact fun p hp => by rw [if_neg (by omega), if_neg (by omega), ka p (by omega), F9 p hp]
end
end Go.Ga

/- The laws TlvDeep and TlvJoined. -/
namespace Go.Ga
open Go Go.Proofs
set_option linter.unusedSimpArgs false
set_option linter.unusedVariables false
set_option maxRecDepth 100000
attribute [local irreducible] appendK

/-- So many elements, each within another one. -/
def deepE : Nat → Fo.El
  | 0 => ⟨5, [], .nil⟩
  | i + 1 => ⟨48, [], (deepE i).f⟩
theorem deep_ws (i : Nat) : (deepE i).f.ws = i + 1 := by
  induction i with
  | zero => rfl
  | succ i ih => show 1 + 0 + (deepE i).f.ws + 0 = _; omega
theorem deep_ds (i : Nat) : (deepE i).f.ds = i + 1 := by
  induction i with
  | zero => rfl
  | succ i ih =>
    show max (if Fo.has 48 then (deepE i).f.ds + 1 else 1) 0 = _
    rw [if_pos (by decide)]; omega
theorem deep_rs (i : Nat) : (deepE i).f.rs := by
  induction i with
  | zero => exact ⟨⟨by unfold Fo.tag; decide, fun _ => rfl, fun _ => rfl⟩, trivial, trivial⟩
  | succ i ih => exact ⟨⟨by show Fo.tag 48; unfold Fo.tag; decide, fun _ => rfl, fun h => absurd (show Fo.has 48 = false from h) (by decide)⟩, ih, trivial⟩

section
variable {nx : Nat} {gt : Nat → Option Blk}

theorem fn_Deep {z : Int} (hz : -9223372036854775808 ≤ z ∧ z ≤ 9223372036854775807) :
    Ct Try.prog 7 [.int .i64 z] nx gt fun v _ _ => v = .bool true := by
  refine Ct.of hmx r_lanyardlaw04_TlvDeep (by simp [c_lanyardlaw04_TlvDeep]) fun b hb => ?_
  simp only [c_lanyardlaw04_TlvDeep, ↓gaW, ↓gaV, ↓gaC, ↓gaN, gaP, Nat.reduceEqDiff, Nat.reduceLeDiff, Nat.reduceAdd, Nat.reduceSub, Nat.reduceMul, Int.reduceLT, Int.reduceLE, Int.reduceEq, Int.reduceToNat, Int.reduceAdd, Int.reduceSub, Int.reduceMul, reduceCtorEq, ↓reduceIte, List.getD_cons_zero, List.getD_cons_succ, fillL, splice, List.take_zero, List.drop_zero, List.drop_succ_cons, List.take_succ_cons, List.drop_nil, List.take_nil, gaU]
  refine callK_of ct_awake04 (fun v x1 g1 l1 k1 hC => ?_) (by omega)
  subst hC
  by_cases hneg : z < 0
  · simp only [↓gaW, ↓gaV, ↓gaC, ↓gaN, gaP, Nat.reduceEqDiff, Nat.reduceLeDiff, Nat.reduceAdd, Nat.reduceSub, Nat.reduceMul, Int.reduceLT, Int.reduceLE, Int.reduceEq, Int.reduceToNat, Int.reduceAdd, Int.reduceSub, Int.reduceMul, reduceCtorEq, ↓reduceIte, gaE, implies_true, Nat.le_refl, Int.sub_zero, Nat.sub_zero, Int.le_refl, true_or, or_true, List.getD_cons_zero, List.getD_cons_succ, fillL, splice, List.take_zero, List.drop_zero, List.drop_succ_cons, List.take_succ_cons, List.drop_nil, List.take_nil, hneg, decide_true]
    exact ⟨by omega, k1⟩
  by_cases hbig : 50 < z
  · simp only [↓gaW, ↓gaV, ↓gaC, ↓gaN, gaP, Nat.reduceEqDiff, Nat.reduceLeDiff, Nat.reduceAdd, Nat.reduceSub, Nat.reduceMul, Int.reduceLT, Int.reduceLE, Int.reduceEq, Int.reduceToNat, Int.reduceAdd, Int.reduceSub, Int.reduceMul, reduceCtorEq, ↓reduceIte, gaE, implies_true, Nat.le_refl, Int.sub_zero, Nat.sub_zero, Int.le_refl, true_or, or_true, List.getD_cons_zero, List.getD_cons_succ, fillL, splice, List.take_zero, List.drop_zero, List.drop_succ_cons, List.take_succ_cons, List.drop_nil, List.take_nil, hneg, hbig, decide_true, decide_false]
    exact ⟨by omega, k1⟩
  obtain ⟨n, rfl⟩ : ∃ n : Nat, z = n := ⟨z.toNat, by omega⟩
  obtain ⟨g2, e2, G2, hb2⟩ := boxed (g := g1) (x := x1) (cs := [Value.int .i64 0, .slice none 0 0, .slice none 0 0]) (ds := nodeL 5 none 0 0 none 0 0)
  simp only [↓gaW, ↓gaV, ↓gaC, ↓gaN, gaP, Nat.reduceEqDiff, Nat.reduceLeDiff, Nat.reduceAdd, Nat.reduceSub, Nat.reduceMul, Int.reduceLT, Int.reduceLE, Int.reduceEq, Int.reduceToNat, Int.reduceAdd, Int.reduceSub, Int.reduceMul, reduceCtorEq, ↓reduceIte, List.getD_cons_zero, List.getD_cons_succ, fillL, splice, List.take_zero, List.drop_zero, List.drop_succ_cons, List.take_succ_cons, List.drop_nil, List.take_nil, gaU, hneg, hbig, decide_false]
  repeat refine And.intro (by omega) ?_
  refine And.intro (node_cells _ _ _ _ _ _ _) ?_
  rw [← e2]; clear e2
  refine loop_of (fun j f mm => ∃ (i x3 : Nat) (g : Nat → Option Blk) (A : Option Addr) (k c : Nat) (ks : List Value), j = n - i ∧ i ≤ n ∧ f 0 = .int .i64 (n : Nat) ∧ f 3 = .bool true ∧ f 4 = .pointer (some ⟨x1, 0, none⟩) ∧ f 5 = .int .i64 (i : Nat) ∧
    mm = ⟨x3, b, g⟩ ∧ x1 + 1 ≤ x3 ∧ (∀ p, p < x1 → g p = g1 p) ∧ g x1 = some (.cells (nodeL (deepE i).t none 0 0 A k c) false) ∧ NdL (x1 + 1) x3 g (deepE i) none 0 0 A k c ks) n
    ⟨0, x1 + 1, g2, none, 0, 0, [], by omega, by omega, (by first | (simp only [↓gaW, ↓gaV, ↓gaC, ↓gaN, gaP, Nat.reduceEqDiff, Nat.reduceLeDiff, Nat.reduceAdd, Nat.reduceSub, Nat.reduceMul, Int.reduceLT, Int.reduceLE, Int.reduceEq, Int.reduceToNat, Int.reduceAdd, Int.reduceSub, Int.reduceMul, reduceCtorEq, ↓reduceIte]; done) | (simp only [↓gaW, ↓gaV, ↓gaC, ↓gaN, gaP, Nat.reduceEqDiff, Nat.reduceLeDiff, Nat.reduceAdd, Nat.reduceSub, Nat.reduceMul, Int.reduceLT, Int.reduceLE, Int.reduceEq, Int.reduceToNat, Int.reduceAdd, Int.reduceSub, Int.reduceMul, reduceCtorEq, ↓reduceIte]; rfl)), (by first | (simp only [↓gaW, ↓gaV, ↓gaC, ↓gaN, gaP, Nat.reduceEqDiff, Nat.reduceLeDiff, Nat.reduceAdd, Nat.reduceSub, Nat.reduceMul, Int.reduceLT, Int.reduceLE, Int.reduceEq, Int.reduceToNat, Int.reduceAdd, Int.reduceSub, Int.reduceMul, reduceCtorEq, ↓reduceIte]; done) | (simp only [↓gaW, ↓gaV, ↓gaC, ↓gaN, gaP, Nat.reduceEqDiff, Nat.reduceLeDiff, Nat.reduceAdd, Nat.reduceSub, Nat.reduceMul, Int.reduceLT, Int.reduceLE, Int.reduceEq, Int.reduceToNat, Int.reduceAdd, Int.reduceSub, Int.reduceMul, reduceCtorEq, ↓reduceIte]; rfl)), (by first | (simp only [↓gaW, ↓gaV, ↓gaC, ↓gaN, gaP, Nat.reduceEqDiff, Nat.reduceLeDiff, Nat.reduceAdd, Nat.reduceSub, Nat.reduceMul, Int.reduceLT, Int.reduceLE, Int.reduceEq, Int.reduceToNat, Int.reduceAdd, Int.reduceSub, Int.reduceMul, reduceCtorEq, ↓reduceIte]; done) | (simp only [↓gaW, ↓gaV, ↓gaC, ↓gaN, gaP, Nat.reduceEqDiff, Nat.reduceLeDiff, Nat.reduceAdd, Nat.reduceSub, Nat.reduceMul, Int.reduceLT, Int.reduceLE, Int.reduceEq, Int.reduceToNat, Int.reduceAdd, Int.reduceSub, Int.reduceMul, reduceCtorEq, ↓reduceIte]; rfl)), (by first | (simp only [↓gaW, ↓gaV, ↓gaC, ↓gaN, gaP, Nat.reduceEqDiff, Nat.reduceLeDiff, Nat.reduceAdd, Nat.reduceSub, Nat.reduceMul, Int.reduceLT, Int.reduceLE, Int.reduceEq, Int.reduceToNat, Int.reduceAdd, Int.reduceSub, Int.reduceMul, reduceCtorEq, ↓reduceIte]; done) | (simp only [↓gaW, ↓gaV, ↓gaC, ↓gaN, gaP, Nat.reduceEqDiff, Nat.reduceLeDiff, Nat.reduceAdd, Nat.reduceSub, Nat.reduceMul, Int.reduceLT, Int.reduceLE, Int.reduceEq, Int.reduceToNat, Int.reduceAdd, Int.reduceSub, Int.reduceMul, reduceCtorEq, ↓reduceIte]; rfl)), rfl, by omega, G2, hb2, ⟨by show _ ∧ _; simp [deepE], .nil, Nat.le_refl _, .nil, Nat.le_refl _, rfl, rfl⟩⟩ ?_
  rintro j f mm ⟨i, x3, g3, A, k, c, ks, hj, hi, f0, f3, f4, f5, rfl, hx3, F3, hb3, hN⟩
  by_cases hlt : (i : Int) < (n : Int)
  · have i3 : IntKind.i64.wrap ((i : Int) + 1) = ((i + 1 : Nat) : Int) := by rw [i64_w _ (by omega)]; omega
    have hx13 : (x1 = x3) = False := by simp; omega
    simp only [↓gaW, ↓gaV, ↓gaC, ↓gaN, gaP, Nat.reduceEqDiff, Nat.reduceLeDiff, Nat.reduceAdd, Nat.reduceSub, Nat.reduceMul, Int.reduceLT, Int.reduceLE, Int.reduceEq, Int.reduceToNat, Int.reduceAdd, Int.reduceSub, Int.reduceMul, reduceCtorEq, ↓reduceIte, List.getD_cons_zero, List.getD_cons_succ, fillL, splice, List.take_zero, List.drop_zero, List.drop_succ_cons, List.take_succ_cons, List.drop_nil, List.take_nil, f0, f4, f5, hlt, decide_true, hb3, hx13, i3, loopK_n]
    repeat refine And.intro (by omega) ?_
    refine And.intro (node_cells _ _ _ _ _ _ _) ?_
    obtain ⟨g4, e4⟩ : ∃ g', g' = upd (upd g3 x3 (some (.cells (nodeL (deepE i).t none 0 0 A k c) false))) x1 (some (.cells (nodeL 48 none 0 0 (some ⟨x3, 0, none⟩) 1 1) false)) := ⟨_, rfl⟩
    have G4 : ∀ p, p ≠ x1 → p ≠ x3 → g4 p = g3 p := fun p h1 h2 => by rw [e4]; simp only [upd_e]; rw [if_neg h1, if_neg h2]
    have hb4 : g4 x1 = some (.cells (nodeL 48 none 0 0 (some ⟨x3, 0, none⟩) 1 1) false) := by rw [e4]; simp only [upd_e, if_true]
    have hc4 : g4 x3 = some (.cells (nodeL (deepE i).t none 0 0 A k c) false) := by rw [e4]; simp only [upd_e, if_true]; rw [if_neg (by omega)]
    refine ⟨n - (i + 1), by omega, i + 1, x3 + 1, g4, some ⟨x3, 0, none⟩, 1, 1, nodeL (deepE i).t none 0 0 A k c, rfl, by omega, f3, rfl, by rw [e4], by omega, fun p hp => by rw [G4 p (by omega) (by omega), F3 p hp], hb4, ⟨by show _ ∧ _; simp [deepE], .nil, Nat.le_refl _, ⟨Row.lit (by omega) hc4 rfl, fun _ a ha => by injection ha with ha; subst ha; exact hx3⟩, Nat.le_refl _, rfl, ?_⟩⟩
    exact (hN.keep (x' := x3 + 1) (by omega) fun p h1 h2 => G4 p (by omega) (by omega)).one
  have hin : i = n := by omega
  subst hin
  have hw := deep_ws i
  have hd := deep_ds i
  have hr := deep_rs i
  have hbs := Fo.bs_ws (deepE i).f
  have F3' : ∀ p, p < nx → g3 p = gt p := fun p hp => by rw [F3 p (by omega), k1 p hp]
  simp only [↓gaW, ↓gaV, ↓gaC, ↓gaN, gaP, Nat.reduceEqDiff, Nat.reduceLeDiff, Nat.reduceAdd, Nat.reduceSub, Nat.reduceMul, Int.reduceLT, Int.reduceLE, Int.reduceEq, Int.reduceToNat, Int.reduceAdd, Int.reduceSub, Int.reduceMul, reduceCtorEq, ↓reduceIte, List.getD_cons_zero, List.getD_cons_succ, fillL, splice, List.take_zero, List.drop_zero, List.drop_succ_cons, List.take_succ_cons, List.drop_nil, List.take_nil, f0, f3, f4, f5, hlt, decide_false, hb3]
  repeat refine And.intro (by omega) ?_
  refine callK_of (ct_Write (x := deepE i) (by omega) hN.r) (fun v x4 g4 l4 k4 hC => ?_) (by omega)
  obtain ⟨l, e, A4, N4, rfl, hl, r4, hz⟩ := hC.some
  have hb4 : g4 x1 = some (.cells (nodeL (deepE i).t none 0 0 A k c) false) := by rw [k4 x1 (by omega), hb3]
  have hN4 := hN.keep (x' := x4) l4 (fun p _ hp => k4 p hp)
  have F4 : ∀ p, p < nx → g4 p = gt p := fun p hp => by rw [k4 p (by omega), F3' p hp]
  simp only [↓gaW, ↓gaV, ↓gaC, ↓gaN, gaP, Nat.reduceEqDiff, Nat.reduceLeDiff, Nat.reduceAdd, Nat.reduceSub, Nat.reduceMul, Int.reduceLT, Int.reduceLE, Int.reduceEq, Int.reduceToNat, Int.reduceAdd, Int.reduceSub, Int.reduceMul, reduceCtorEq, ↓reduceIte, List.getD_cons_zero, List.getD_cons_succ, fillL, splice, List.take_zero, List.drop_zero, List.drop_succ_cons, List.take_succ_cons, List.drop_nil, List.take_nil, f0, f3, f4, hb4]
  repeat refine And.intro (by omega) ?_
  refine callK_of (ct_Size (deepE i) (by omega) _ _ _ _ _ _ _ _ _ hN4.r) (fun v x5 g5 l5 k5 hC => ?_) (by omega)
  subst hC
  have hb5 : g5 x1 = some (.cells (nodeL (deepE i).t none 0 0 A k c) false) := by rw [k5 x1 (by omega), hb4]
  have hN5 := hN4.keep (x' := x5) l5 (fun p _ hp => k5 p hp)
  have F5 : ∀ p, p < nx → g5 p = gt p := fun p hp => by rw [k5 p (by omega), F4 p hp]
  have r5 := r4.keep l5 k5
  have i4 : IntKind.i64.wrap ((i : Int) + 1) = (((deepE i).f.ds : Nat) : Int) := by rw [i64_w _ (by omega)]; omega
  by_cases h31 : (31 : Int) < (i : Int)
  · have hwr : Fo.wr (deepE i) = .error 4 := by
      unfold Fo.wr; rw [if_neg (by simpa using hr), if_pos (by omega)]
    rcases hz with ⟨h3, h4⟩ | ⟨h3, h4⟩
    · rw [hwr] at h3; cases h3
    · rw [hwr] at h3; injection h3 with h3
      subst h3 h4
      have hN0 : N4 = 0 := by rw [← hl]; rfl
      subst hN0
      have z4 : ((4 : Nat) : Int) = 4 := rfl
      have z0 : ((0 : Nat) : Int) = 0 := rfl
      simp only [↓gaW, ↓gaV, ↓gaC, ↓gaN, gaP, Nat.reduceEqDiff, Nat.reduceLeDiff, Nat.reduceAdd, Nat.reduceSub, Nat.reduceMul, Int.reduceLT, Int.reduceLE, Int.reduceEq, Int.reduceToNat, Int.reduceAdd, Int.reduceSub, Int.reduceMul, reduceCtorEq, ↓reduceIte, gaE, implies_true, Nat.le_refl, Int.sub_zero, Nat.sub_zero, Int.le_refl, true_or, or_true, List.getD_cons_zero, List.getD_cons_succ, fillL, splice, List.take_zero, List.drop_zero, List.drop_succ_cons, List.take_succ_cons, List.drop_nil, List.take_nil, f0, f3, f4, h31, i4, z4, z0, decide_true]
      repeat refine And.intro (by omega) ?_
      exact F5
  · have hwr : Fo.wr (deepE i) = .ok (deepE i).f.ly := Fo.wr_of hr (by omega) (by omega)
    rcases hz with ⟨h3, h4⟩ | ⟨h3, h4⟩
    case inr => rw [hwr] at h3; cases h3
    subst h4
    have hrd := Fo.rd_wr h3
    simp only [↓gaW, ↓gaV, ↓gaC, ↓gaN, gaP, Nat.reduceEqDiff, Nat.reduceLeDiff, Nat.reduceAdd, Nat.reduceSub, Nat.reduceMul, Int.reduceLT, Int.reduceLE, Int.reduceEq, Int.reduceToNat, Int.reduceAdd, Int.reduceSub, Int.reduceMul, reduceCtorEq, ↓reduceIte, List.getD_cons_zero, List.getD_cons_succ, fillL, splice, List.take_zero, List.drop_zero, List.drop_succ_cons, List.take_succ_cons, List.drop_nil, List.take_nil, f0, f3, f4, h31, decide_false]
    have hlb : l.length = (deepE i).f.bs := by rw [hwr] at h3; injection h3 with h3; rw [← h3, Fo.ly_bs hr]
    repeat refine And.intro (by omega) ?_
    refine callK_of (ct_Read r5 (Nat.le_refl _) (by omega)) (fun v x6 g6 l6 k6 hC => ?_) (by omega)
    rw [hrd] at hC
    obtain ⟨B', m', d', A', n', c', ks', rfl, hM⟩ := hC
    have hb6 : g6 x1 = some (.cells (nodeL (deepE i).t none 0 0 A k c) false) := by rw [k6 x1 (by omega), hb5]
    have hN6 := hN5.keep (x' := x6) l6 (fun p _ hp => k6 p hp)
    have F6 : ∀ p, p < nx → g6 p = gt p := fun p hp => by rw [k6 p (by omega), F5 p hp]
    obtain ⟨g7, e7, G7, hb7⟩ := boxed (g := g6) (x := x6) (cs := [Value.int .i64 0, .slice none 0 0, .slice none 0 0]) (ds := nodeL (deepE i).t B' m' d' A' n' c')
    have hx16 : (x1 = x6) = False := by simp; omega
    simp only [↓gaW, ↓gaV, ↓gaC, ↓gaN, gaP, Nat.reduceEqDiff, Nat.reduceLeDiff, Nat.reduceAdd, Nat.reduceSub, Nat.reduceMul, Int.reduceLT, Int.reduceLE, Int.reduceEq, Int.reduceToNat, Int.reduceAdd, Int.reduceSub, Int.reduceMul, reduceCtorEq, ↓reduceIte, List.getD_cons_zero, List.getD_cons_succ, fillL, splice, List.take_zero, List.drop_zero, List.drop_succ_cons, List.take_succ_cons, List.drop_nil, List.take_nil, f0, f3, f4, hb6, hx16, nodeL]
    repeat refine And.intro (by omega) ?_
    refine And.intro (node_cells _ _ _ _ _ _ _) ?_
    repeat refine And.intro (by omega) ?_
    rw [← e7]; clear e7
    refine callK_of (ct_Same (deepE i) (by omega) (deepE i) _ _ _ _ _ _ _ _ _ _ _ _ _ _ _ _ (hN6.keep (x' := x6 + 1) (by omega) (fun p _ hp => G7 p hp)).r (hM.keep (x' := x6 + 1) (by omega) G7)) (fun v x8 g8 l8 k8 hC => ?_) (by omega)
    obtain ⟨rr, rfl, hrr⟩ := hC
    have hrr : rr = true := hrr.2 rfl
    subst hrr
    have z0 : ((0 : Nat) : Int) = 0 := rfl
    simp only [↓gaW, ↓gaV, ↓gaC, ↓gaN, gaP, Nat.reduceEqDiff, Nat.reduceLeDiff, Nat.reduceAdd, Nat.reduceSub, Nat.reduceMul, Int.reduceLT, Int.reduceLE, Int.reduceEq, Int.reduceToNat, Int.reduceAdd, Int.reduceSub, Int.reduceMul, reduceCtorEq, ↓reduceIte, gaE, implies_true, Nat.le_refl, Int.sub_zero, Nat.sub_zero, Int.le_refl, true_or, or_true, List.getD_cons_zero, List.getD_cons_succ, fillL, splice, List.take_zero, List.drop_zero, List.drop_succ_cons, List.take_succ_cons, List.drop_nil, List.take_nil, f0, f3, f4, i4, z0, decide_true]
    exact ⟨by omega, fun p hp => by rw [k8 p (by omega), G7 p (by omega), F6 p hp]⟩
end
end Go.Ga

/- The law TlvJoined. -/
namespace Go.Ga
open Go Go.Proofs
set_option linter.unusedSimpArgs false
set_option linter.unusedVariables false
set_option maxRecDepth 100000
attribute [local irreducible] appendK

theorem ds_one (y : Fo.El) (p : Fo) : (p.app y.f).ds ≤ 31 ↔ p.ds ≤ 31 ∧ y.f.ds ≤ 31 := by rw [Fo.ds_app]; omega

section
variable {nx : Nat} {gt : Nat → Option Blk}

theorem fn_Joined {A : Option Addr} {n c : Nat} {F : Fo} {ks : List Value} (hc : n ≤ c) (hn : n = F.len) (hr : Row nx gt 3 A (n * 3) ks) (hf : FoR nx gt F ks) :
    Ct Try.prog 8 [.slice A n c] nx gt fun v _ _ => v = .bool true := by
  refine Ct.of hmx r_lanyardlaw04_TlvJoined (by simp [c_lanyardlaw04_TlvJoined]) fun b hb => ?_
  simp only [c_lanyardlaw04_TlvJoined, ↓gaW, ↓gaV, ↓gaC, ↓gaN, gaP, Nat.reduceEqDiff, Nat.reduceLeDiff, Nat.reduceAdd, Nat.reduceSub, Nat.reduceMul, Int.reduceLT, Int.reduceLE, Int.reduceEq, Int.reduceToNat, Int.reduceAdd, Int.reduceSub, Int.reduceMul, reduceCtorEq, ↓reduceIte, List.getD_cons_zero, List.getD_cons_succ, fillL, splice, List.take_zero, List.drop_zero, List.drop_succ_cons, List.take_succ_cons, List.drop_nil, List.take_nil, gaU]
  refine callK_of ct_awake04 (fun v x1 g1 l1 k1 hC => ?_) (by omega)
  subst hC
  by_cases hbig : (40 : Int) < (n : Int)
  · simp only [↓gaW, ↓gaV, ↓gaC, ↓gaN, gaP, Nat.reduceEqDiff, Nat.reduceLeDiff, Nat.reduceAdd, Nat.reduceSub, Nat.reduceMul, Int.reduceLT, Int.reduceLE, Int.reduceEq, Int.reduceToNat, Int.reduceAdd, Int.reduceSub, Int.reduceMul, reduceCtorEq, ↓reduceIte, gaE, implies_true, Nat.le_refl, Int.sub_zero, Nat.sub_zero, Int.le_refl, true_or, or_true, List.getD_cons_zero, List.getD_cons_succ, fillL, splice, List.take_zero, List.drop_zero, List.drop_succ_cons, List.take_succ_cons, List.drop_nil, List.take_nil, hbig, decide_true]
    exact ⟨by omega, k1⟩
  simp only [↓gaW, ↓gaV, ↓gaC, ↓gaN, gaP, Nat.reduceEqDiff, Nat.reduceLeDiff, Nat.reduceAdd, Nat.reduceSub, Nat.reduceMul, Int.reduceLT, Int.reduceLE, Int.reduceEq, Int.reduceToNat, Int.reduceAdd, Int.reduceSub, Int.reduceMul, reduceCtorEq, ↓reduceIte, List.getD_cons_zero, List.getD_cons_succ, fillL, splice, List.take_zero, List.drop_zero, List.drop_succ_cons, List.take_succ_cons, List.drop_nil, List.take_nil, gaU, hbig, decide_false]
  refine loop_of (fun j f mm => ∃ (i x3 N : Nat) (g : Nat → Option Blk) (A3 : Option Addr) (pre post : Fo), j = n - i ∧ i ≤ n ∧ F = pre.app post ∧ pre.len = i ∧ pre.rs ∧ pre.ds ≤ 31 ∧ pre.ws ≤ 30000 * i ∧ pre.ly.length = N ∧ f 0 = .slice A n c ∧ f 3 = .bool true ∧ f 4 = .slice A3 N N ∧ f 5 = .int .i64 (i : Nat) ∧
    mm = ⟨x3, b, g⟩ ∧ x1 ≤ x3 ∧ (∀ p, p < nx → g p = gt p) ∧ Grow nx b x3 g 1 A3 N (pre.ly.map u8V)) n
    ⟨0, x1, 0, g1, none, .nil, F, by omega, by omega, rfl, rfl, trivial, by simp [Fo.ds], by simp [Fo.ws], rfl, (by first | (simp only [↓gaW, ↓gaV, ↓gaC, ↓gaN, gaP, Nat.reduceEqDiff, Nat.reduceLeDiff, Nat.reduceAdd, Nat.reduceSub, Nat.reduceMul, Int.reduceLT, Int.reduceLE, Int.reduceEq, Int.reduceToNat, Int.reduceAdd, Int.reduceSub, Int.reduceMul, reduceCtorEq, ↓reduceIte]; done) | (simp only [↓gaW, ↓gaV, ↓gaC, ↓gaN, gaP, Nat.reduceEqDiff, Nat.reduceLeDiff, Nat.reduceAdd, Nat.reduceSub, Nat.reduceMul, Int.reduceLT, Int.reduceLE, Int.reduceEq, Int.reduceToNat, Int.reduceAdd, Int.reduceSub, Int.reduceMul, reduceCtorEq, ↓reduceIte]; rfl)), (by first | (simp only [↓gaW, ↓gaV, ↓gaC, ↓gaN, gaP, Nat.reduceEqDiff, Nat.reduceLeDiff, Nat.reduceAdd, Nat.reduceSub, Nat.reduceMul, Int.reduceLT, Int.reduceLE, Int.reduceEq, Int.reduceToNat, Int.reduceAdd, Int.reduceSub, Int.reduceMul, reduceCtorEq, ↓reduceIte]; done) | (simp only [↓gaW, ↓gaV, ↓gaC, ↓gaN, gaP, Nat.reduceEqDiff, Nat.reduceLeDiff, Nat.reduceAdd, Nat.reduceSub, Nat.reduceMul, Int.reduceLT, Int.reduceLE, Int.reduceEq, Int.reduceToNat, Int.reduceAdd, Int.reduceSub, Int.reduceMul, reduceCtorEq, ↓reduceIte]; rfl)), (by first | (simp only [↓gaW, ↓gaV, ↓gaC, ↓gaN, gaP, Nat.reduceEqDiff, Nat.reduceLeDiff, Nat.reduceAdd, Nat.reduceSub, Nat.reduceMul, Int.reduceLT, Int.reduceLE, Int.reduceEq, Int.reduceToNat, Int.reduceAdd, Int.reduceSub, Int.reduceMul, reduceCtorEq, ↓reduceIte]; done) | (simp only [↓gaW, ↓gaV, ↓gaC, ↓gaN, gaP, Nat.reduceEqDiff, Nat.reduceLeDiff, Nat.reduceAdd, Nat.reduceSub, Nat.reduceMul, Int.reduceLT, Int.reduceLE, Int.reduceEq, Int.reduceToNat, Int.reduceAdd, Int.reduceSub, Int.reduceMul, reduceCtorEq, ↓reduceIte]; rfl)), (by first | (simp only [↓gaW, ↓gaV, ↓gaC, ↓gaN, gaP, Nat.reduceEqDiff, Nat.reduceLeDiff, Nat.reduceAdd, Nat.reduceSub, Nat.reduceMul, Int.reduceLT, Int.reduceLE, Int.reduceEq, Int.reduceToNat, Int.reduceAdd, Int.reduceSub, Int.reduceMul, reduceCtorEq, ↓reduceIte]; done) | (simp only [↓gaW, ↓gaV, ↓gaC, ↓gaN, gaP, Nat.reduceEqDiff, Nat.reduceLeDiff, Nat.reduceAdd, Nat.reduceSub, Nat.reduceMul, Int.reduceLT, Int.reduceLE, Int.reduceEq, Int.reduceToNat, Int.reduceAdd, Int.reduceSub, Int.reduceMul, reduceCtorEq, ↓reduceIte]; rfl)), rfl, by omega, k1, .nil⟩ ?_
  rintro j f mm ⟨i, x3, N, g3, A3, pre, post, hj, hi, e1, e2, hpr, hpd, hpw, eN, f0, f3, f4, f5, rfl, hx3, F3, G3⟩
  have hlyb := Fo.ly_bs hpr
  have hbw := Fo.bs_ws pre
  by_cases hin : (i : Int) < (n : Int)
  · have hf3 := hf.keep (x := x3) (g := g3) (by omega) F3
    have hr3 := hr.keep (nx' := x3) (gt' := g3) (by omega) F3
    obtain ⟨y, pre', post', B', m', d', A', n', c', ks', q1, q2, q3, q4⟩ := hf3.at (i := i) (by omega)
    obtain ⟨rfl, rfl⟩ := Fo.app_inj (e1.symm.trans q1) (by omega)
    obtain ⟨a, cl, ro, rfl, r2, r3, r4, r5⟩ := hr3.cells (by omega)
    have hld := hr3.load rfl r3 (j := i * 3) (k := 3) (by omega) (by omega)
    rw [q4] at hld
    have ha : a.block < nx := by
      obtain ⟨a', cl', ro', h1, h2, _⟩ := hr.cells (by omega)
      injection h1 with h1; subst h1; exact h2
    have i3 : IntKind.i64.wrap ((i : Int) + 1) = ((i + 1 : Nat) : Int) := by rw [i64_w _ (by omega)]; omega
    simp only [↓gaW, ↓gaV, ↓gaC, ↓gaN, gaP, Nat.reduceEqDiff, Nat.reduceLeDiff, Nat.reduceAdd, Nat.reduceSub, Nat.reduceMul, Int.reduceLT, Int.reduceLE, Int.reduceEq, Int.reduceToNat, Int.reduceAdd, Int.reduceSub, Int.reduceMul, reduceCtorEq, ↓reduceIte, List.getD_cons_zero, List.getD_cons_succ, fillL, splice, List.take_zero, List.drop_zero, List.drop_succ_cons, List.take_succ_cons, List.drop_nil, List.take_nil, f0, f5, hin, decide_true, r3, hld]
    repeat refine And.intro (by omega) ?_
    refine callK_of (ct_Light q3) (fun v x4 g4 l4 k4 hC => ?_) (by omega)
    obtain ⟨ok, rfl, hok⟩ := hC
    have F4 : ∀ p, p < nx → g4 p = gt p := fun p hp => by rw [k4 p (by omega), F3 p hp]
    have c4 : g4 a.block = some (.cells cl ro) := by rw [k4 _ (by omega), r3]
    have q4' := q3.keep l4 k4
    have G4 := G3.keep l4 k4
    cases ok with
    | false =>
      simp only [↓gaW, ↓gaV, ↓gaC, ↓gaN, gaP, Nat.reduceEqDiff, Nat.reduceLeDiff, Nat.reduceAdd, Nat.reduceSub, Nat.reduceMul, Int.reduceLT, Int.reduceLE, Int.reduceEq, Int.reduceToNat, Int.reduceAdd, Int.reduceSub, Int.reduceMul, reduceCtorEq, ↓reduceIte, gaE, implies_true, Nat.le_refl, Int.sub_zero, Nat.sub_zero, Int.le_refl, true_or, or_true, List.getD_cons_zero, List.getD_cons_succ, fillL, splice, List.take_zero, List.drop_zero, List.drop_succ_cons, List.take_succ_cons, List.drop_nil, List.take_nil, f3, Bool.not_false, loopK_r]
      exact ⟨by omega, F4⟩
    | true =>
      have hyw := hok rfl
      simp only [↓gaW, ↓gaV, ↓gaC, ↓gaN, gaP, Nat.reduceEqDiff, Nat.reduceLeDiff, Nat.reduceAdd, Nat.reduceSub, Nat.reduceMul, Int.reduceLT, Int.reduceLE, Int.reduceEq, Int.reduceToNat, Int.reduceAdd, Int.reduceSub, Int.reduceMul, reduceCtorEq, ↓reduceIte, List.getD_cons_zero, List.getD_cons_succ, fillL, splice, List.take_zero, List.drop_zero, List.drop_succ_cons, List.take_succ_cons, List.drop_nil, List.take_nil, f0, f5, Bool.not_true, c4, hin, hld]
      repeat refine And.intro (by omega) ?_
      refine callK_of (ct_Write (x := y) (by omega) q4') (fun v x5 g5 l5 k5 hC => ?_) (by omega)
      obtain ⟨l, e, A5, N5, rfl, hl, r5, hz⟩ := hC.some
      have F5 : ∀ p, p < nx → g5 p = gt p := fun p hp => by rw [k5 p (by omega), F4 p hp]
      have c5 : g5 a.block = some (.cells cl ro) := by rw [k5 _ (by omega), c4]
      have q5 := q4'.keep l5 k5
      have G5 := G4.keep l5 k5
      simp only [↓gaW, ↓gaV, ↓gaC, ↓gaN, gaP, Nat.reduceEqDiff, Nat.reduceLeDiff, Nat.reduceAdd, Nat.reduceSub, Nat.reduceMul, Int.reduceLT, Int.reduceLE, Int.reduceEq, Int.reduceToNat, Int.reduceAdd, Int.reduceSub, Int.reduceMul, reduceCtorEq, ↓reduceIte, List.getD_cons_zero, List.getD_cons_succ, fillL, splice, List.take_zero, List.drop_zero, List.drop_succ_cons, List.take_succ_cons, List.drop_nil, List.take_nil, f0, f5, c5, hin, hld]
      repeat refine And.intro (by omega) ?_
      refine callK_of (ct_Size y (by omega) _ _ _ _ _ _ _ _ _ q5) (fun v x6 g6 l6 k6 hC => ?_) (by omega)
      subst hC
      have F6 : ∀ p, p < nx → g6 p = gt p := fun p hp => by rw [k6 p (by omega), F5 p hp]
      have G6 := G5.keep l6 k6
      have r6 := r5.keep l6 k6
      by_cases he : (e : Int) = 0
      case neg =>
        simp only [↓gaW, ↓gaV, ↓gaC, ↓gaN, gaP, Nat.reduceEqDiff, Nat.reduceLeDiff, Nat.reduceAdd, Nat.reduceSub, Nat.reduceMul, Int.reduceLT, Int.reduceLE, Int.reduceEq, Int.reduceToNat, Int.reduceAdd, Int.reduceSub, Int.reduceMul, reduceCtorEq, ↓reduceIte, gaE, implies_true, Nat.le_refl, Int.sub_zero, Nat.sub_zero, Int.le_refl, true_or, or_true, List.getD_cons_zero, List.getD_cons_succ, fillL, splice, List.take_zero, List.drop_zero, List.drop_succ_cons, List.take_succ_cons, List.drop_nil, List.take_nil, f3, he, decide_true, decide_false, Bool.not_false, loopK_r]
        repeat refine And.intro (by omega) ?_
        exact F6
      by_cases hd : (31 : Int) < (y.f.ds : Int)
      · simp only [↓gaW, ↓gaV, ↓gaC, ↓gaN, gaP, Nat.reduceEqDiff, Nat.reduceLeDiff, Nat.reduceAdd, Nat.reduceSub, Nat.reduceMul, Int.reduceLT, Int.reduceLE, Int.reduceEq, Int.reduceToNat, Int.reduceAdd, Int.reduceSub, Int.reduceMul, reduceCtorEq, ↓reduceIte, gaE, implies_true, Nat.le_refl, Int.sub_zero, Nat.sub_zero, Int.le_refl, true_or, or_true, List.getD_cons_zero, List.getD_cons_succ, fillL, splice, List.take_zero, List.drop_zero, List.drop_succ_cons, List.take_succ_cons, List.drop_nil, List.take_nil, f3, he, hd, decide_true, decide_false, Bool.not_false, loopK_r]
        repeat refine And.intro (by omega) ?_
        exact F6
      have he0 : e = 0 := by omega
      subst he0
      rcases hz with ⟨h3, h4⟩ | ⟨h3, h4⟩
      case inr => have := wr_err h3; omega
      obtain ⟨w1, w2, w3, w4⟩ := Fo.wr_ok h3
      subst w4
      have e6 : rowOf ⟨x6, b, g6⟩ A5 N5 = some (y.f.ly.map u8V) := r6.rowOf
      have hN5 : N5 ≤ 20000 := by rw [← hl, Fo.ly_bs w1]; exact w3
      simp only [↓gaW, ↓gaV, ↓gaC, ↓gaN, gaP, Nat.reduceEqDiff, Nat.reduceLeDiff, Nat.reduceAdd, Nat.reduceSub, Nat.reduceMul, Int.reduceLT, Int.reduceLE, Int.reduceEq, Int.reduceToNat, Int.reduceAdd, Int.reduceSub, Int.reduceMul, reduceCtorEq, ↓reduceIte, List.getD_cons_zero, List.getD_cons_succ, fillL, splice, List.take_zero, List.drop_zero, List.drop_succ_cons, List.take_succ_cons, List.drop_nil, List.take_nil, f4, he, hd, decide_false, e6]
      repeat refine And.intro (by omega) ?_
      refine grow_app (bytes := 1) G6 (by omega) (by omega) (by omega) (by rw [List.length_map, hl, Nat.mul_one]) (all_u8 _) (by omega) (by omega) fun A7 x7 g7 l7 k7 G7 => ?_
      simp only [↓gaW, ↓gaV, ↓gaC, ↓gaN, gaP, Nat.reduceEqDiff, Nat.reduceLeDiff, Nat.reduceAdd, Nat.reduceSub, Nat.reduceMul, Int.reduceLT, Int.reduceLE, Int.reduceEq, Int.reduceToNat, Int.reduceAdd, Int.reduceSub, Int.reduceMul, reduceCtorEq, ↓reduceIte, List.getD_cons_zero, List.getD_cons_succ, fillL, splice, List.take_zero, List.drop_zero, List.drop_succ_cons, List.take_succ_cons, List.drop_nil, List.take_nil, f5, i3, loopK_n]
      refine ⟨n - (i + 1), by omega, i + 1, x7, N + N5, g7, A7, pre.app y.f, post', rfl, by omega, by rw [q1, Fo.app_one], by rw [Fo.len_app]; simp only [Fo.El.f, Fo.len]; omega, by rw [Fo.rs_app]; exact ⟨hpr, w1⟩, by rw [ds_one]; omega, by rw [Fo.ws_app]; omega, by rw [Fo.ly_app, List.length_append]; omega, f0, f3, rfl, rfl, rfl, by omega, fun p hp => by rw [k7 p (by omega), F6 p hp], by rw [Fo.ly_app, List.map_append]; exact G7⟩
  · have e : pre.len = F.len := by omega
    obtain ⟨rfl, rfl⟩ := Fo.app_end e1 e
    obtain ⟨x, hx⟩ : ∃ x : Fo.El, x = ⟨49, [], pre⟩ := ⟨_, rfl⟩
    have hN : NdR x3 g3 x none 0 0 A n c ks := by
      subst hx
      exact ⟨by simp, .nil, Nat.le_refl _, hr.keep (by omega) F3, hc, hn, hf.keep (by omega) F3⟩
    have hxt : x.t = 49 := by rw [hx]
    have hxw : x.f.ws = 1 + pre.ws := by rw [hx]; show 1 + 0 + pre.ws + 0 = _; omega
    have hxr : x.f.rs := by rw [hx]; exact ⟨⟨by show Fo.tag 49; unfold Fo.tag; decide, fun _ => rfl, fun h => absurd (show Fo.has 49 = false from h) (by decide)⟩, hpr, trivial⟩
    have hxd : x.f.ds = pre.ds + 1 := by
      rw [hx]
      show max (if Fo.has 49 then pre.ds + 1 else 1) 0 = _
      rw [if_pos (by decide)]; omega
    have hxl : x.f.ly = Fo.hb 49 N ++ pre.ly := by
      rw [hx]
      simp only [Fo.El.f, Fo.ly, List.nil_append, List.append_nil, eN]
    simp only [↓gaW, ↓gaV, ↓gaC, ↓gaN, gaP, Nat.reduceEqDiff, Nat.reduceLeDiff, Nat.reduceAdd, Nat.reduceSub, Nat.reduceMul, Int.reduceLT, Int.reduceLE, Int.reduceEq, Int.reduceToNat, Int.reduceAdd, Int.reduceSub, Int.reduceMul, reduceCtorEq, ↓reduceIte, List.getD_cons_zero, List.getD_cons_succ, fillL, splice, List.take_zero, List.drop_zero, List.drop_succ_cons, List.take_succ_cons, List.drop_nil, List.take_nil, f0, f3, f5, hin, decide_false]
    rw [← hxt]
    refine callK_of (ct_Write (x := x) (by omega) hN) (fun v x5 g5 l5 k5 hC => ?_) (by omega)
    obtain ⟨l, e, A5, N5, rfl, hl, r5, hz⟩ := hC.some
    have F5 : ∀ p, p < nx → g5 p = gt p := fun p hp => by rw [k5 p (by omega), F3 p hp]
    by_cases he : (e : Int) = 0
    case neg =>
      have he5 : (e : Int) = 5 := by
        rcases hz with ⟨h3, h4⟩ | ⟨h3, h4⟩
        · omega
        · unfold Fo.wr at h3
          rw [if_neg (by simpa using hxr), if_neg (by omega)] at h3
          split at h3
          · injection h3 with h3; omega
          · cases h3
      have h50 : ¬ (5 : Int) = 0 := by omega
      simp only [↓gaW, ↓gaV, ↓gaC, ↓gaN, gaP, Nat.reduceEqDiff, Nat.reduceLeDiff, Nat.reduceAdd, Nat.reduceSub, Nat.reduceMul, Int.reduceLT, Int.reduceLE, Int.reduceEq, Int.reduceToNat, Int.reduceAdd, Int.reduceSub, Int.reduceMul, reduceCtorEq, ↓reduceIte, gaE, implies_true, Nat.le_refl, Int.sub_zero, Nat.sub_zero, Int.le_refl, true_or, or_true, List.getD_cons_zero, List.getD_cons_succ, fillL, splice, List.take_zero, List.drop_zero, List.drop_succ_cons, List.take_succ_cons, List.drop_nil, List.take_nil, f3, he5, h50, decide_true, decide_false, Bool.not_false]
      repeat refine And.intro (by omega) ?_
      exact F5
    have he0 : e = 0 := by omega
    subst he0
    rcases hz with ⟨h3, h4⟩ | ⟨h3, h4⟩
    case inr => have := wr_err h3; omega
    obtain ⟨w1, w2, w3, w4⟩ := Fo.wr_ok h3
    have hl' := hl
    rw [w4, hxl, List.length_append, Fo.hb_len] at hl'
    have hhn := Fo.hn_le N
    have hlt : (N : Int) < (N5 : Int) := by omega
    have i4 : IntKind.i64.wrap ((N5 : Int) - (N : Int)) = ((N5 - N : Nat) : Int) := by rw [i64_w _ (by omega)]; omega
    obtain ⟨a, cl, ro, rfl, c2, c3, c4, c5⟩ := r5.cells (by omega)
    have hsp := r5.spot a rfl
    have P1 := r5.part (lo := N5 - N) (hi := N5) (by omega) (by omega) rfl
    have hdr : l.drop (N5 - N) = pre.ly := by
      rw [w4, hxl, show N5 - N = (Fo.hb 49 N).length by rw [Fo.hb_len]; omega, List.drop_left]
    rw [← List.map_drop, ← List.map_take, hdr, List.take_of_length_le (by omega)] at P1
    have G5 := (G3.keep l5 k5).row
    rw [Nat.mul_one] at G5
    have e5 : ∀ b, rowOf ⟨x5, b, g5⟩ A3 N = some (pre.ly.map u8V) := fun b => G5.rowOf
    have hNN : (((N5 : Nat) : Int) - ((N5 - N : Nat) : Int)).toNat = N5 - (N5 - N) := by omega
    have e6 : ∀ b, rowOf ⟨x5, b, g5⟩ (some ⟨a.block, a.off + (N5 - N), a.spot⟩) (N5 - (N5 - N)) = some (pre.ly.map u8V) := fun b => P1.rowOf
    simp only [↓gaW, ↓gaV, ↓gaC, ↓gaN, gaP, Nat.reduceEqDiff, Nat.reduceLeDiff, Nat.reduceAdd, Nat.reduceSub, Nat.reduceMul, Int.reduceLT, Int.reduceLE, Int.reduceEq, Int.reduceToNat, Int.reduceAdd, Int.reduceSub, Int.reduceMul, reduceCtorEq, ↓reduceIte, gaE, implies_true, Nat.le_refl, Int.sub_zero, Nat.sub_zero, Int.le_refl, true_or, or_true, List.getD_cons_zero, List.getD_cons_succ, fillL, splice, List.take_zero, List.drop_zero, List.drop_succ_cons, List.take_succ_cons, List.drop_nil, List.take_nil, gaU, f3, f4, he, hlt, i4, hNN, decide_true, decide_false, e5, e6, bytesOf_map, str_eq, Mem.raise, Mem.lower]
    repeat refine And.intro (by omega) ?_
    exact ⟨.inr hsp, by omega, F5⟩
end
end Go.Ga
