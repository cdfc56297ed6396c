/- Words and contracts of functions for the statement's proof. No condition. -/
import Derived.Test.YtjmihdhbbheflaaDoorA5
set_option linter.all false

namespace Go.Ga
open Go Go.Proofs
set_option maxRecDepth 100000
structure Vp.wf (v : Vp) : Prop where
  a : v.a.length = 16
  len : -9223372036854775808 ≤ v.len ∧ v.len ≤ 9223372036854775807
  mx : -9223372036854775808 ≤ v.mx ∧ v.mx ≤ 9223372036854775807
theorem cv_vp (v : Vp) : cellsV (vpV v) = some (vpL v) := by simp [vpV, cellsV]
section
variable {nx : Nat} {gt : Nat → Option Blk}
theorem ct_rCmpP {v6 v6' : Bool} {a a' : List UInt8} {len len' : Int} (ha : a.length = 16) (ha' : a'.length = 16) :
    Ct Tryd.prog 39 [pxV v6 a len, pxV v6' a' len'] nx gt fun v _ _ => v = .int .i64 (Vr.cmpP v6 a len v6' a' len') := by
  refine Ct.of hmx r_lanyardref10_Cmp (by simp [c_lanyardref10_Cmp]) fun b hb => ?_
  have hnn : (nx = nx + 1) = False := by simp
  have hF : ∀ (c0 c1 : Option Blk) q, q < nx → upd (upd gt nx c0) (nx + 1) c1 q = gt q := fun c0 c1 q hq => by simp only [upd_e]; rw [if_neg (by omega), if_neg (by omega)]
  simp only [c_lanyardref10_Cmp, ↓gaH, gaP, simprocAttr, cv_px, hnn, pxL_len ha, pxL_len ha', pxL_0]
  repeat refine And.intro (by omega) ?_
  by_cases hv : v6 = v6'
  · subst hv
    simp only [↓gaH, gaP, simprocAttr, pxL_len ha, pxL_len ha', pxL_a ha, pxL_a ha', hnn]
    refine callK_of (ct_CmpAddr ha ha') (fun v x1 g1 l1 k1 hC => ?_) (by omega)
    subst hC
    have F1 : ∀ p, p < nx → g1 p = gt p := fun p hp => by rw [k1 p (by omega), hF _ _ p hp]
    have hb1 : g1 nx = _ := k1 nx (by omega)
    have hb2 : g1 (nx + 1) = _ := k1 (nx + 1) (by omega)
    simp only [upd_e, hnn, if_false, if_true] at hb1 hb2
    by_cases hc : cmpL a a' = 0
    · simp only [↓gaH, gaP, simprocAttr, hc, decide_true, hb1, hb2, pxL_len ha, pxL_len ha', pxL_n ha, pxL_n ha']
      repeat refine And.intro (by omega) ?_
      refine condK_dec (fun h => ?_) fun h => ?_
      · simp only [↓gaH, gaP, simprocAttr, gaE, Vr.cmpP, hc, h]
        exact ⟨by omega, F1⟩
      simp only [↓gaH, gaP, simprocAttr, hc, decide_true, hb1, hb2, pxL_len ha, pxL_len ha', pxL_n ha, pxL_n ha']
      repeat refine And.intro (by omega) ?_
      refine condK_dec (fun h2 => ?_) fun h2 => ?_
      · simp only [↓gaH, gaP, simprocAttr, gaE, Vr.cmpP, hc, h, h2]
        exact ⟨by omega, F1⟩
      simp only [↓gaH, gaP, simprocAttr, gaE, Vr.cmpP, hc, h, h2]
      exact ⟨by omega, F1⟩
    · simp only [↓gaH, gaP, simprocAttr, gaE, Vr.cmpP, hc, decide_false]
      exact ⟨by omega, F1⟩
  · have h1 : (v6 == v6') = false := by simpa using hv
    cases v6 <;> cases v6' <;> first | exact absurd rfl hv | skip
    all_goals
      simp only [↓gaH, gaP, Nat.reduceEqDiff, Nat.reduceLeDiff, Nat.reduceAdd, Nat.reduceSub, Nat.reduceMul, Int.reduceLT, Int.reduceLE, Int.reduceEq, Int.reduceToNat, Int.reduceAdd, Int.reduceSub, Int.reduceMul, reduceCtorEq, ↓reduceIte, hnn, pxL_len ha, pxL_len ha', pxL_0]
      refine And.intro (by omega) ?_
      simp only [↓gaH, gaP, simprocAttr, gaE, Vr.cmpP]
      exact ⟨by omega, fun p hp => hF _ _ p hp⟩
theorem ct_One {v : Vp} (hv : v.wf) : Ct Tryd.prog 18 [vpV v] nx gt fun r _ _ => r = .bool (Vr.one v) := by
  refine Ct.of hmx r_roa_One (by simp [c_roa_One]) fun b hb => ?_
  simp only [c_roa_One, ↓gaH, gaP, simprocAttr, cv_vp, vpL_len hv.a, vpL_p hv.a, vpL_m hv.a, vpL_n hv.a, vpL_6]
  refine callQ_of (ct_Right hv.a hv.len) (fun v1 x1 g1 l1 k1 hC => ?_)
  subst hC
  have hb1 : g1 nx = some (.cells (vpL v) false) := by rw [k1 nx (by omega)]; simp only [upd_e, if_true]
  have F1 : ∀ p, p < nx → g1 p = gt p := fun p hp => by rw [k1 p (by omega)]; simp only [upd_e]; rw [if_neg (by omega)]
  cases hR : Vr.ok v.v6 v.a v.len with
  | false =>
    simp only [↓gaH, gaP, simprocAttr, gaE, Vr.one, hR, Bool.false_and]
    exact ⟨by omega, F1⟩
  | true =>
    simp only [↓gaH, gaP, simprocAttr, hb1, vpL_len hv.a, vpL_p hv.a, vpL_m hv.a, vpL_n hv.a, vpL_6]
    repeat refine And.intro (by omega) ?_
    by_cases hm : v.len ≤ v.mx
    · simp only [↓gaH, gaP, simprocAttr, hm, decide_true, hb1, vpL_len hv.a, vpL_m hv.a, vpL_6]
      repeat refine And.intro (by omega) ?_
      refine callQ_of (ct_most v.v6) (fun v2 x2 g2 l2 k2 hC => ?_)
      subst hC
      simp only [↓gaH, gaP, simprocAttr, gaE, Vr.one, hR, hm, decide_true, Bool.true_and]
      exact ⟨by omega, fun p hp => by rw [k2 p (by omega), F1 p hp]⟩
    · simp only [↓gaH, gaP, simprocAttr, gaE, Vr.one, hR, hm, decide_false, Bool.true_and, Bool.false_and]
      exact ⟨by omega, F1⟩
theorem ct_rOne {v : Vp} (hv : v.wf) : Ct Tryd.prog 19 [vpV v] nx gt fun r _ _ => r = .bool (Vr.one v) := by
  refine Ct.of hmx r_lanyardref18_One (by simp [c_lanyardref18_One]) fun b hb => ?_
  simp only [c_lanyardref18_One, ↓gaH, gaP, simprocAttr, cv_vp, vpL_len hv.a, vpL_p hv.a, vpL_m hv.a, vpL_n hv.a, vpL_6]
  refine callQ_of (ct_rRight hv.a hv.len) (fun v1 x1 g1 l1 k1 hC => ?_)
  subst hC
  have hb1 : g1 nx = some (.cells (vpL v) false) := by rw [k1 nx (by omega)]; simp only [upd_e, if_true]
  have F1 : ∀ p, p < nx → g1 p = gt p := fun p hp => by rw [k1 p (by omega)]; simp only [upd_e]; rw [if_neg (by omega)]
  cases hR : Vr.ok v.v6 v.a v.len with
  | false =>
    simp only [↓gaH, gaP, simprocAttr, gaE, Vr.one, hR, Bool.false_and]
    exact ⟨by omega, F1⟩
  | true =>
    simp only [↓gaH, gaP, simprocAttr, hb1, vpL_len hv.a, vpL_p hv.a, vpL_m hv.a, vpL_n hv.a, vpL_6]
    repeat refine And.intro (by omega) ?_
    by_cases hm : v.len ≤ v.mx
    · simp only [↓gaH, gaP, simprocAttr, hm, decide_true, hb1, vpL_len hv.a, vpL_m hv.a, vpL_6]
      repeat refine And.intro (by omega) ?_
      refine callQ_of (ct_rMost v.v6) (fun v2 x2 g2 l2 k2 hC => ?_)
      subst hC
      simp only [↓gaH, gaP, simprocAttr, gaE, Vr.one, hR, hm, decide_true, Bool.true_and]
      exact ⟨by omega, fun p hp => by rw [k2 p (by omega), F1 p hp]⟩
    · simp only [↓gaH, gaP, simprocAttr, gaE, Vr.one, hR, hm, decide_false, Bool.true_and, Bool.false_and]
      exact ⟨by omega, F1⟩
theorem ct_isNaNI (n : Int) : Ct Tryd.prog 66 [.int .i64 n] nx gt fun r _ _ => r = .bool false := by
  refine Ct.of hmx r_cmp_isNaN_int_ (by simp [c_cmp_isNaN_int_]) fun b hb => ?_
  simp only [c_cmp_isNaN_int_, ↓gaH, gaP, simprocAttr, gaE]
  exact ⟨by omega, fun _ _ => trivial⟩
theorem ct_CompareI (x y : Int) : Ct Tryd.prog 37 [.int .i64 x, .int .i64 y] nx gt fun r _ _ => r = .int .i64 (Vr.c3 x y) := by
  refine Ct.of hmx r_cmp_Compare_int_ (by simp [c_cmp_Compare_int_]) fun b hb => ?_
  simp only [c_cmp_Compare_int_, ↓gaH, gaP, simprocAttr]
  refine callK_of (ct_isNaNI x) (fun v1 x1 g1 l1 k1 hC => ?_) (by omega)
  subst hC
  simp only [↓gaH, gaP, simprocAttr]
  refine callK_of (ct_isNaNI y) (fun v2 x2 g2 l2 k2 hC => ?_) (by omega)
  subst hC
  have F2 : ∀ p, p < nx → g2 p = gt p := fun p hp => by rw [k2 p (by omega), k1 p hp]
  simp only [↓gaH, gaP, simprocAttr]
  refine condK_dec (fun h => ?_) fun h => ?_
  · simp only [↓gaH, gaP, simprocAttr, gaE, Vr.c3, h]
    exact ⟨by omega, F2⟩
  simp only [↓gaH, gaP, simprocAttr]
  refine condK_dec (fun h2 => ?_) fun h2 => ?_
  · simp only [↓gaH, gaP, simprocAttr, gaE, Vr.c3, h, h2]
    exact ⟨by omega, F2⟩
  simp only [↓gaH, gaP, simprocAttr, gaE, Vr.c3, h, h2]
  exact ⟨by omega, F2⟩
theorem ct_isNaNU (n : Int) : Ct Tryd.prog 67 [.int .u32 n] nx gt fun r _ _ => r = .bool false := by
  refine Ct.of hmx r_cmp_isNaN_uint32_ (by simp [c_cmp_isNaN_uint32_]) fun b hb => ?_
  simp only [c_cmp_isNaN_uint32_, ↓gaH, gaP, simprocAttr, gaE]
  exact ⟨by omega, fun _ _ => trivial⟩
theorem ct_CompareU (x y : Int) : Ct Tryd.prog 38 [.int .u32 x, .int .u32 y] nx gt fun r _ _ => r = .int .i64 (Vr.c3 x y) := by
  refine Ct.of hmx r_cmp_Compare_uint32_ (by simp [c_cmp_Compare_uint32_]) fun b hb => ?_
  simp only [c_cmp_Compare_uint32_, ↓gaH, gaP, simprocAttr]
  refine callK_of (ct_isNaNU x) (fun v1 x1 g1 l1 k1 hC => ?_) (by omega)
  subst hC
  simp only [↓gaH, gaP, simprocAttr]
  refine callK_of (ct_isNaNU y) (fun v2 x2 g2 l2 k2 hC => ?_) (by omega)
  subst hC
  have F2 : ∀ p, p < nx → g2 p = gt p := fun p hp => by rw [k2 p (by omega), k1 p hp]
  simp only [↓gaH, gaP, simprocAttr]
  refine condK_dec (fun h => ?_) fun h => ?_
  · simp only [↓gaH, gaP, simprocAttr, gaE, Vr.c3, h]
    exact ⟨by omega, F2⟩
  simp only [↓gaH, gaP, simprocAttr]
  refine condK_dec (fun h2 => ?_) fun h2 => ?_
  · simp only [↓gaH, gaP, simprocAttr, gaE, Vr.c3, h, h2]
    exact ⟨by omega, F2⟩
  simp only [↓gaH, gaP, simprocAttr, gaE, Vr.c3, h, h2]
  exact ⟨by omega, F2⟩
theorem ct_Or {A : Option Addr} {n c : Nat} {l : List Int} (hr : Row nx gt 1 A n (l.map (Value.int .i64))) (hn : n ≤ 1000) : Ct Tryd.prog 35 [.slice A n c] nx gt fun r _ _ => r = .int .i64 (Vr.orL l) := by
  have hl : l.length = n := by simpa using hr.len
  refine Ct.of hmx r_cmp_Or_int_ (by simp [c_cmp_Or_int_]) fun b hb => ?_
  simp only [c_cmp_Or_int_, ↓gaH, gaP, simprocAttr]
  refine loop_of (fun j f m => ∃ i, j = n - i ∧ i ≤ n ∧ f 3 = .int .i64 0 ∧ f 6 = .slice A n c ∧ f 7 = .int .i64 (n : Nat) ∧ f 8 = .int .i64 (i : Nat) ∧ m = ⟨nx, b, gt⟩ ∧ Vr.orL (l.drop i) = Vr.orL l) n ?_ ?_
  · exact ⟨0, rfl, by omega, (by simp only [↓gaH, gaP, simprocAttr]; try rfl), (by simp only [↓gaH, gaP, simprocAttr]; try rfl), (by simp only [↓gaH, gaP, simprocAttr]; try rfl), (by simp only [↓gaH, gaP, simprocAttr]; try rfl), rfl, rfl⟩
  rintro j f m ⟨i, rfl, hi, h3, h6, h7, h8, rfl, ho⟩
  simp only [↓gaH, gaP, simprocAttr, h7, h8]
  refine condK_dec (fun hlt => ?_) fun hge => ?_
  · obtain ⟨a, ce, ro, rfl, e2, e3, e4, e5⟩ := hr.cells (by omega)
    have e5' := e5 i (by omega)
    have hd : l.drop i = l.getD i 0 :: l.drop (i + 1) := by rw [List.drop_eq_getElem_cons (by omega), List.getD_eq_getElem?_getD, List.getElem?_eq_getElem (by omega)]; rfl
    have hg : (l.map (Value.int .i64)).getD i undef = .int .i64 (l.getD i 0) := by
      rw [List.getD_eq_getElem?_getD, List.getElem?_map, List.getD_eq_getElem?_getD, List.getElem?_eq_getElem (by omega)]; rfl
    rw [hg] at e5'
    rw [hd, Vr.orL] at ho
    simp only [↓gaH, gaP, simprocAttr, h3, h6, h8, e3, e5']
    repeat refine And.intro (by omega) ?_
    by_cases h0 : l.getD i 0 = 0
    · rw [if_pos h0] at ho
      simp only [↓gaH, gaP, simprocAttr, h0, h8, i64_w ((i : Int) + 1) (by omega), decide_true, decide_false, not_true_eq_false]
      simp only [↓gaH, gaP, simprocAttr, loopK_n, h8, i64_w ((i : Int) + 1) (by omega)]
      exact ⟨n - (i + 1), by omega, i + 1, rfl, by omega, by simp only [↓gaH, gaP, simprocAttr, h3], by simp only [↓gaH, gaP, simprocAttr, h6], by simp only [↓gaH, gaP, simprocAttr, h7], rfl, ho⟩
    · rw [if_neg h0] at ho
      have h0' : ¬ Vr.orL l = 0 := by rw [← ho]; exact h0
      simp only [↓gaH, gaP, simprocAttr, ho, h0', decide_true, not_false_eq_true, gaE]
      exact ⟨by omega, fun _ _ => trivial⟩
  · have : i = n := by omega
    subst this
    rw [List.drop_of_length_le (by omega), Vr.orL] at ho
    simp only [↓gaH, gaP, simprocAttr, gaE, h3, ← ho]
    exact ⟨by omega, fun _ _ => trivial⟩
theorem ct_VCmp {v w : Vp} (hv : v.wf) (hw : w.wf) : Ct Tryd.prog 16 [vpV v, vpV w] nx gt fun r _ _ => r = .int .i64 (Vr.cmp v w) := by
  refine Ct.of hmx r_roa_Cmp (by simp [c_roa_Cmp]) fun b hb => ?_
  have hnn : (nx = nx + 1) = False := by simp
  have hF : ∀ (c0 c1 : Option Blk) q, q < nx → upd (upd gt nx c0) (nx + 1) c1 q = gt q := fun c0 c1 q hq => by simp only [upd_e]; rw [if_neg (by omega), if_neg (by omega)]
  simp only [c_roa_Cmp, ↓gaH, gaP, simprocAttr, cv_vp, hnn, vpL_len hv.a, vpL_len hw.a, vpL_p hv.a, vpL_p hw.a]
  refine callQ_of (ct_Cmp hv.a hw.a) (fun v1 x1 g1 l1 k1 hC => ?_)
  subst hC
  have F1 : ∀ p, p < nx → g1 p = gt p := fun p hp => by rw [k1 p (by omega), hF _ _ p hp]
  have hb1 : g1 nx = _ := k1 nx (by omega)
  have hc1 : g1 (nx + 1) = _ := k1 (nx + 1) (by omega)
  simp only [upd_e, hnn, if_false, if_true] at hb1 hc1
  simp only [↓gaH, gaP, simprocAttr, hb1, hc1, vpL_len hv.a, vpL_len hw.a, vpL_m hv.a, vpL_m hw.a]
  repeat refine And.intro (by omega) ?_
  refine callQ_of (ct_CompareI v.mx w.mx) (fun v2 x2 g2 l2 k2 hC => ?_)
  subst hC
  have F2 : ∀ p, p < nx → g2 p = gt p := fun p hp => by rw [k2 p (by omega), F1 p hp]
  have hb2 : g2 nx = some (.cells (vpL v) false) := by rw [k2 nx (by omega), hb1]
  have hc2 : g2 (nx + 1) = some (.cells (vpL w) false) := by rw [k2 (nx + 1) (by omega), hc1]
  simp only [↓gaH, gaP, simprocAttr, hb2, hc2, vpL_len hv.a, vpL_len hw.a, vpL_0, u32V]
  repeat refine And.intro (by omega) ?_
  refine callK_of (ct_CompareU _ _) (fun v3 x3 g3 l3 k3 hC => ?_) (by omega)
  subst hC
  have F3 : ∀ p, p < nx → g3 p = gt p := fun p hp => by rw [k3 p (by omega), F2 p hp]
  simp only [↓gaH, gaP, simprocAttr, gaF, fillL, splice]
  repeat refine And.intro (by omega) ?_
  refine callK_of (ct_Or (l := [_, _, _]) (n := 3) (Row.lit (q := x3) (ro := false) (by omega) (by simp only [upd_e, if_true]; rfl) rfl) (by omega)) (fun v4 x4 g4 l4 k4 hC => ?_) (by omega)
  subst hC
  simp only [↓gaH, gaP, simprocAttr, gaE, Vr.cmp]
  exact ⟨by omega, fun p hp => by rw [k4 p (by omega)]; simp only [upd_e]; rw [if_neg (by omega), F3 p hp]⟩
theorem ct_rVCmp {v w : Vp} (hv : v.wf) (hw : w.wf) : Ct Tryd.prog 17 [vpV v, vpV w] nx gt fun r _ _ => r = .int .i64 (Vr.cmp v w) := by
  refine Ct.of hmx r_lanyardref18_Cmp (by simp [c_lanyardref18_Cmp]) fun b hb => ?_
  have hnn : (nx = nx + 1) = False := by simp
  have hF : ∀ (c0 c1 : Option Blk) q, q < nx → upd (upd gt nx c0) (nx + 1) c1 q = gt q := fun c0 c1 q hq => by simp only [upd_e]; rw [if_neg (by omega), if_neg (by omega)]
  simp only [c_lanyardref18_Cmp, ↓gaH, gaP, simprocAttr, cv_vp, hnn, vpL_len hv.a, vpL_len hw.a, vpL_p hv.a, vpL_p hw.a]
  refine callK_of (ct_rCmpP hv.a hw.a) (fun v1 x1 g1 l1 k1 hC => ?_) (by omega)
  subst hC
  have F1 : ∀ p, p < nx → g1 p = gt p := fun p hp => by rw [k1 p (by omega), hF _ _ p hp]
  have hb1 : g1 nx = _ := k1 nx (by omega)
  have hc1 : g1 (nx + 1) = _ := k1 (nx + 1) (by omega)
  simp only [upd_e, hnn, if_false, if_true] at hb1 hc1
  simp only [↓gaH, gaP, simprocAttr]
  by_cases h0 : Vr.cmpP v.v6 v.a v.len w.v6 w.a w.len = 0
  case neg =>
    simp only [↓gaH, gaP, simprocAttr, h0, not_false_eq_true, decide_true, gaE, Vr.cmp, Vr.orL]
    exact ⟨by omega, F1⟩
  simp only [↓gaH, gaP, simprocAttr, h0, not_true_eq_false, decide_false, hb1, hc1, vpL_len hv.a, vpL_len hw.a, vpL_m hv.a, vpL_m hw.a]
  repeat refine And.intro (by omega) ?_
  refine condK_dec (fun h1 => ?_) fun h1 => ?_
  · simp only [↓gaH, gaP, simprocAttr, gaE, Vr.cmp, Vr.orL, Vr.c3, h0, h1]
    exact ⟨by omega, F1⟩
  simp only [↓gaH, gaP, simprocAttr, hb1, hc1, vpL_len hv.a, vpL_len hw.a, vpL_m hv.a, vpL_m hw.a]
  repeat refine And.intro (by omega) ?_
  refine condK_dec (fun h2 => ?_) fun h2 => ?_
  · simp only [↓gaH, gaP, simprocAttr, gaE, Vr.cmp, Vr.orL, Vr.c3, h0, h1, h2]
    exact ⟨by omega, F1⟩
  simp only [↓gaH, gaP, simprocAttr, hb1, hc1, vpL_len hv.a, vpL_len hw.a, vpL_0, u32V]
  repeat refine And.intro (by omega) ?_
  refine condK_dec (fun h3 => ?_) fun h3 => ?_
  · simp only [↓gaH, gaP, simprocAttr, gaE, Vr.cmp, Vr.orL, Vr.c3, h0, h1, h2, h3]
    exact ⟨by omega, F1⟩
  simp only [↓gaH, gaP, simprocAttr, hb1, hc1, vpL_len hv.a, vpL_len hw.a, vpL_0, u32V]
  repeat refine And.intro (by omega) ?_
  refine condK_dec (fun h4 => ?_) fun h4 => ?_
  · simp only [↓gaH, gaP, simprocAttr, gaE, Vr.cmp, Vr.orL, Vr.c3, h0, h1, h2, h3, h4]
    exact ⟨by omega, F1⟩
  simp only [↓gaH, gaP, simprocAttr, gaE, Vr.cmp, Vr.orL, Vr.c3, h0, h1, h2, h3, h4]
  exact ⟨by omega, F1⟩
end
end Go.Ga

namespace Go.Ga
open Go Go.Proofs
set_option maxRecDepth 100000
def vpsL : List Vp → List Value
  | [] => []
  | v :: l => vpL v ++ vpsL l
structure VpR (nx : Nat) (gt : Nat → Option Blk) (A : Option Addr) (n : Nat) (l : List Vp) : Prop where
  row : Row nx gt 20 A (n * 20) (vpsL l)
  len : l.length = n
  wf : ∀ v ∈ l, v.wf
theorem VpR.keep {nx x : Nat} {gt g : Nat → Option Blk} {A : Option Addr} {n : Nat} {l : List Vp} (h : VpR nx gt A n l) (h1 : nx ≤ x) (h2 : ∀ p, p < nx → g p = gt p) : VpR x g A n l := ⟨h.row.keep h1 h2, h.len, h.wf⟩
theorem VpR.nil {nx : Nat} {gt : Nat → Option Blk} : VpR nx gt none 0 [] := ⟨.nil, rfl, fun _ h => nomatch h⟩
theorem vpsL_app (l k : List Vp) : vpsL (l ++ k) = vpsL l ++ vpsL k := by
  induction l with
  | nil => rfl
  | cons v l ih => rw [List.cons_append, vpsL, vpsL, ih, List.append_assoc]
theorem vpsL_at {l : List Vp} (h : ∀ v ∈ l, v.wf) : ∀ {i : Nat}, i < l.length → ((vpsL l).drop (i * 20)).take 20 = vpL (Vr.at' l i) := by
  induction l with
  | nil => intro i hi; cases hi
  | cons v l ih =>
    intro i hi
    have h1 := vpL_len (h v (by simp)).a
    cases i with
    | zero =>
      rw [Nat.zero_mul, List.drop_zero, vpsL, List.take_append_of_le_length (by omega), List.take_of_length_le (by omega)]
      rfl
    | succ i =>
      rw [vpsL, show (i + 1) * 20 = 20 + i * 20 by omega, ← h1, ← List.drop_drop, List.drop_left, h1, ih (fun x hx => h x (by simp [hx])) (by simpa using hi)]
      rfl
theorem VpR.wfAt {nx : Nat} {gt : Nat → Option Blk} {A : Option Addr} {n : Nat} {l : List Vp} (h : VpR nx gt A n l) {i : Nat} (hi : i < n) : (Vr.at' l i).wf := by
  have hl := h.len
  refine h.wf _ ?_
  unfold Vr.at'
  rw [List.getD_eq_getElem?_getD, List.getElem?_eq_getElem (by omega)]
  exact List.getElem_mem _
theorem VpR.at {nx : Nat} {gt : Nat → Option Blk} {A : Option Addr} {n : Nat} {l : List Vp} (h : VpR nx gt A n l) (hn : 0 < n) :
    ∃ (a : Addr) (cl : List Value) (ro : Bool), A = some a ∧ a.block < nx ∧ gt a.block = some (.cells cl ro) ∧ a.off + n * 20 ≤ cl.length ∧ (∀ i, i < n → (cl.drop (a.off + i * 20)).take 20 = vpL (Vr.at' l i)) ∧
      ∀ i j, i < n → j < 20 → cl.getD (a.off + i * 20 + j) undef = (vpL (Vr.at' l i)).getD j undef := by
  obtain ⟨a, cl, ro, rfl, e2, e3, e4, e5⟩ := h.row.cells (by omega)
  have hl := h.len
  have key : ∀ i, i < n → (cl.drop (a.off + i * 20)).take 20 = vpL (Vr.at' l i) := fun i hi => by
    rw [h.row.load rfl e3 (j := i * 20) (k := 20) (by omega) (by omega), vpsL_at h.wf (by omega)]
  refine ⟨a, cl, ro, rfl, e2, e3, e4, key, fun i j hi hj => ?_⟩
  rw [← key i hi, List.getD_eq_getElem?_getD, List.getD_eq_getElem?_getD, List.getElem?_take_of_lt hj, List.getElem?_drop]
section
variable {nx : Nat} {gt : Nat → Option Blk}
theorem ct_rVRight {A : Option Addr} {n c : Nat} {l : List Vp} (hr : VpR nx gt A n l) (hc : n ≤ c) (hn : n < 1000000) : Ct Tryd.prog 15 [.slice A n c] nx gt fun r _ _ => r = .bool (Vr.right l) := by
  refine Ct.of hmx r_lanyardref18_Right (by simp [c_lanyardref18_Right]) fun b hb => ?_
  have hl := hr.len
  simp only [c_lanyardref18_Right, ↓gaH, gaP, simprocAttr]
  refine loop_of (fun j f m => ∃ i y g, j = n - i ∧ i ≤ n ∧ f 0 = .slice A n c ∧ f 3 = .int .i64 (i : Nat) ∧ m = ⟨y, b, g⟩ ∧ nx ≤ y ∧ (∀ p, p < nx → g p = gt p) ∧ ∀ k, k < i → Vr.stepR l k = true) n ?_ ?_
  · exact ⟨0, _, _, rfl, by omega, (by simp only [↓gaH, gaP, simprocAttr]; try rfl), (by simp only [↓gaH, gaP, simprocAttr]; try rfl), rfl, Nat.le_refl _, fun _ _ => rfl, fun k hk => by omega⟩
  rintro j f m ⟨i, y, g, rfl, hi, h0, h3, rfl, hy, hF, hst⟩
  simp only [↓gaH, gaP, simprocAttr, h0, h3]
  refine condK_dec (fun hlt => ?_) fun hge => ?_
  · have hi' : i < n := by omega
    have hR := hr.keep hy hF
    obtain ⟨a, cl, ro, rfl, e2, e3, e4, e5, e6⟩ := hR.at (by omega)
    have hwi := hR.wfAt hi'
    have hw0 := hR.wfAt (i := 0) (by omega)
    have c0 := e6 0 0 (by omega) (by omega)
    have ci := e6 i 0 (by omega) (by omega)
    rw [vpL_0] at c0 ci
    simp only [Nat.zero_mul, Nat.add_zero] at c0 ci
    have no : (Vr.stepR l i = false) → ¬ (Vr.right l = true) := fun h h' => by
      simp only [Vr.right, Bool.and_eq_true, List.all_eq_true] at h'
      have := h'.1 i (List.mem_range.2 (by omega))
      rw [h] at this; cases this
    have no' : (Vr.stepR l i = false) → Vr.right l = false := fun h => by simpa using no h
    simp only [↓gaH, gaP, simprocAttr, h0, h3, e3, e5 i hi']
    repeat refine And.intro (by omega) ?_
    refine callQ_of (ct_rOne hwi) (fun v1 x1 g1 l1 k1 hC => ?_)
    subst hC
    have F1 : ∀ p, p < nx → g1 p = gt p := fun p hp => by rw [k1 p (by omega), hF p hp]
    have e31 : g1 a.block = some (.cells cl ro) := by rw [k1 _ e2, e3]
    cases hone : Vr.one (Vr.at' l i) with
    | false =>
      have hno := no' (by simp only [Vr.stepR, hone, Bool.false_and])
      simp only [↓gaH, gaP, simprocAttr, gaE, hno]
      exact ⟨by omega, F1⟩
    | true =>
    by_cases has : ((Vr.at' l i).asn.toNat : Int) = ((Vr.at' l 0).asn.toNat : Int)
    case neg =>
      have hno := no' (by simp only [Vr.stepR]; rw [decide_eq_false (fun h => has (by rw [h]))]; simp)
      simp only [↓gaH, gaP, simprocAttr, h0, h3, e31, c0, ci, u32V, has, not_false_eq_true, decide_true]
      repeat refine And.intro (by omega) ?_
      simp only [↓gaH, gaP, simprocAttr, gaE, hno]
      exact ⟨by omega, F1⟩
    have has' : (Vr.at' l i).asn = (Vr.at' l 0).asn := UInt32.toNat_inj.1 (by omega)
    have next : Vr.stepR l i = true → ∀ k, k < i + 1 → Vr.stepR l k = true := fun q k hk => by
      rcases Nat.lt_or_ge k i with h | h
      · exact hst k h
      · rw [show k = i by omega]; exact q
    by_cases hi0 : i = 0
    · subst hi0
      simp only [↓gaH, gaP, simprocAttr, h0, h3, e31, c0, ci, u32V, has, not_true_eq_false, decide_false]
      repeat refine And.intro (by omega) ?_
      simp only [↓gaH, gaP, simprocAttr, h0, h3, loopK_n]
      exact ⟨n - 1, by omega, 1, x1, g1, rfl, by omega, rfl, rfl, by omega, F1, next (by simp only [Vr.stepR, hone, has', decide_true, Bool.true_and, Bool.true_or])⟩
    · have hpos : (0 : Int) < (i : Int) := by omega
      have w1 : IntKind.i64.wrap ((i : Int) - 1) = ((i - 1 : Nat) : Int) := by rw [i64_w _ (by omega)]; omega
      have hwp := hR.wfAt (i := i - 1) (by omega)
      simp only [↓gaH, gaP, simprocAttr, h0, h3, e31, c0, ci, u32V, has, not_true_eq_false, decide_false, hpos, decide_true, w1, e5 i hi', e5 (i - 1) (by omega)]
      repeat refine And.intro (by omega) ?_
      refine callK_of (ct_rVCmp hwp hwi) (fun v2 x2 g2 l2 k2 hC => ?_) (by omega)
      subst hC
      have F2 : ∀ p, p < nx → g2 p = gt p := fun p hp => by rw [k2 p (by omega), F1 p hp]
      by_cases hcm : 0 ≤ Vr.cmp (Vr.at' l (i - 1)) (Vr.at' l i)
      · have hno := no' (by simp only [Vr.stepR, hone, has', hi0, decide_true, decide_false, Bool.true_and, Bool.false_or]; exact decide_eq_false (by omega))
        simp only [↓gaH, gaP, simprocAttr, hcm, decide_true]
        simp only [↓gaH, gaP, simprocAttr, gaE, hno]
        exact ⟨by omega, F2⟩
      · have hs := next (by simp only [Vr.stepR, hone, has', hi0, decide_true, decide_false, Bool.true_and, Bool.false_or]; exact decide_eq_true (by omega))
        simp only [↓gaH, gaP, simprocAttr, hcm, decide_false, h0, h3, i64_w ((i : Int) + 1) (by omega), loopK_n]
        exact ⟨n - (i + 1), by omega, i + 1, x2, g2, rfl, by omega, rfl, rfl, by omega, F2, hs⟩
  · have hin : i = n := by omega
    have hall : (List.range l.length).all (Vr.stepR l) = true := List.all_eq_true.2 fun k hk => hst k (by have := List.mem_range.1 hk; omega)
    simp only [↓gaH, gaP, simprocAttr, h0]
    by_cases h1 : (1 : Int) ≤ (n : Int)
    · simp only [↓gaH, gaP, simprocAttr, h1, decide_true, h0, gaE, Vr.right, hall, Bool.true_and]
      refine ⟨by omega, hF, ?_⟩
      rw [decide_eq_true (show 1 ≤ l.length by omega), Bool.true_and, hl]
      congr 1
      exact decide_eq_decide.2 (by omega)
    · simp only [↓gaH, gaP, simprocAttr, h1, decide_false, h0, gaE, Vr.right, hall, Bool.true_and]
      refine ⟨by omega, hF, ?_⟩
      rw [decide_eq_false (show ¬ 1 ≤ l.length by omega), Bool.false_and]
theorem ct_VRight {A : Option Addr} {n c : Nat} {l : List Vp} (hr : VpR nx gt A n l) (hc : n ≤ c) (hn : n < 1000000) : Ct Tryd.prog 14 [.slice A n c] nx gt fun r _ _ => r = .bool (Vr.right l) := by
  refine Ct.of hmx r_roa_Right (by simp [c_roa_Right]) fun b hb => ?_
  have hl := hr.len
  simp only [c_roa_Right, ↓gaH, gaP, simprocAttr, go_mkMap, goQ_mapGet, go_mapPut]
  refine loop_of (fun j f m => ∃ i y g, j = n - i ∧ i ≤ n ∧ f 0 = .slice A n c ∧ f 3 = .map (some nx) ∧ f 7 = .slice A n c ∧ f 8 = .int .i64 (n : Nat) ∧ f 9 = .int .i64 (i : Nat) ∧ m = ⟨y, b, g⟩ ∧ nx + 1 ≤ y ∧ g nx = some (keysM (l.take i)) ∧ (∀ p, p < nx → g p = gt p) ∧ ∀ k, k < i → Vr.stepP l k = true) n ?_ ?_
  · exact ⟨0, _, _, rfl, by omega, (by simp only [↓gaH, gaP, simprocAttr]; try rfl), (by simp only [↓gaH, gaP, simprocAttr]; try rfl), (by simp only [↓gaH, gaP, simprocAttr]; try rfl), (by simp only [↓gaH, gaP, simprocAttr]; try rfl), (by simp only [↓gaH, gaP, simprocAttr]; try rfl), rfl, Nat.le_refl _, by simp only [upd_e, if_true]; rfl, fun p hp => by simp only [upd_e]; rw [if_neg (by omega)], fun k hk => by omega⟩
  rintro j f m ⟨i, y, g, rfl, hi, h0, h3, h7, h8, h9, rfl, hy, hmap, hF, hst⟩
  simp only [↓gaH, gaP, simprocAttr, h8, h9]
  refine condK_dec (fun hlt => ?_) fun hge => ?_
  · have hi' : i < n := by omega
    have hR := hr.keep (x := y) (by omega) hF
    obtain ⟨a, cl, ro, rfl, e2, e3, e4, e5, e6⟩ := hR.at (by omega)
    have hab : a.block < nx := by
      obtain ⟨a', _, _, ea, eb, _⟩ := hr.at (by omega)
      injection ea with ea; rw [ea]; exact eb
    have hwi := hR.wfAt hi'
    have hw0 := hR.wfAt (i := 0) (by omega)
    have c0 := e6 0 0 (by omega) (by omega)
    rw [vpL_0] at c0
    simp only [Nat.zero_mul, Nat.add_zero] at c0
    have no : (Vr.stepP l i = false) → Vr.right l = false := fun h => by
      rw [← Bool.not_eq_true]
      intro h'
      rw [Vr.right, ← Vr.steps] at h'
      simp only [Bool.and_eq_true, List.all_eq_true] at h'
      have := h'.1 i (List.mem_range.2 (by omega))
      rw [h] at this; cases this
    have hsp : ∀ z : List Value, z.length = 20 → splice z 0 (vpL (Vr.at' l i)) = vpL (Vr.at' l i) := fun z hz => by
      unfold splice
      rw [List.take_zero, List.nil_append, Nat.zero_add, List.drop_of_length_le (by rw [hz, vpL_len hwi.a]; omega), List.append_nil]
    have ht : (vpL (Vr.at' l i)).take 20 = vpL (Vr.at' l i) := List.take_of_length_le (by rw [vpL_len hwi.a]; omega)
    have hF0 : ∀ c0 c1 p, p < y → upd (upd g y c0) y c1 p = g p := fun c0 c1 p hp => by simp only [upd_e]; rw [if_neg (by omega), if_neg (by omega)]
    simp only [↓gaH, gaP, simprocAttr, h0, h7, h9, e3, e5 i hi', hsp, vpL_len hwi.a, List.drop_zero, ht]
    repeat refine And.intro (by omega) ?_
    refine And.intro (vpL_cells _) ?_
    refine callQ_of (ct_One hwi) (fun v1 x1 g1 l1 k1 hC => ?_)
    subst hC
    have F1 : ∀ p, p < y → g1 p = g p := fun p hp => by rw [k1 p (by omega), hF0 _ _ p hp]
    have G1 : ∀ p, p < nx → g1 p = gt p := fun p hp => by rw [F1 p (by omega), hF p hp]
    have e31 : g1 a.block = some (.cells cl ro) := by rw [F1 _ e2, e3]
    have hm1 : g1 nx = some (keysM (l.take i)) := by rw [F1 nx (by omega), hmap]
    have hv1 : g1 y = some (.cells (vpL (Vr.at' l i)) false) := by rw [k1 y (by omega)]; simp only [upd_e, if_true]
    clear k1
    cases hone : Vr.one (Vr.at' l i) with
    | false =>
      have hno := no (by simp only [Vr.stepP, hone, Bool.false_and])
      simp only [↓gaH, gaP, simprocAttr, gaE, hno]
      exact ⟨by omega, G1⟩
    | true =>
    have hks : ∀ x ∈ l.take i, x.a.length = 16 := fun x hx => (hr.wf x (List.mem_of_mem_take hx)).a
    simp only [↓gaH, gaP, simprocAttr, h0, h3, h9, hv1, vpL_len hwi.a, List.drop_zero, ht, goQ_mapGet]
    refine getK_vp tPx tVp hwi.a hks hm1 ?_
    by_cases hmet : Vr.at' l i ∈ l.take i
    · have hno := no (by simp only [Vr.stepP]; rw [decide_eq_false (show ¬ (Vr.at' l i ∉ l.take i) from fun h => h hmet)]; simp)
      simp only [↓gaH, gaP, simprocAttr, hmet, decide_true, gaE, hno]
      exact ⟨by omega, G1⟩
    by_cases has : ((Vr.at' l i).asn.toNat : Int) = ((Vr.at' l 0).asn.toNat : Int)
    case neg =>
      have hno := no (by simp only [Vr.stepP]; rw [decide_eq_false (p := (Vr.at' l i).asn = (Vr.at' l 0).asn) (fun h => has (by rw [h]))]; simp)
      simp only [↓gaH, gaP, simprocAttr, h0, h3, h9, e31, c0, hv1, hmet, decide_false, vpL_len hwi.a, vpL_0, u32V, has, not_false_eq_true, decide_true]
      repeat refine And.intro (by omega) ?_
      simp only [↓gaH, gaP, simprocAttr, gaE, hno]
      exact ⟨by omega, G1⟩
    have has' : (Vr.at' l i).asn = (Vr.at' l 0).asn := UInt32.toNat_inj.1 (by omega)
    have next : Vr.stepP l i = true → ∀ k, k < i + 1 → Vr.stepP l k = true := fun q k hk => by
      rcases Nat.lt_or_ge k i with h | h
      · exact hst k h
      · rw [show k = i by omega]; exact q
    have htk : l.take i ++ [Vr.at' l i] = l.take (i + 1) := by
      rw [List.take_add_one, List.getElem?_eq_getElem (by omega)]
      unfold Vr.at'
      rw [List.getD_eq_getElem?_getD, List.getElem?_eq_getElem (by omega)]
      rfl
    by_cases hi0 : i = 0
    · subst hi0
      simp only [↓gaH, gaP, simprocAttr, h0, h3, h9, e31, c0, hv1, hmet, decide_false, vpL_len hwi.a, vpL_0, u32V, has, not_true_eq_false, decide_false]
      repeat refine And.intro (by omega) ?_
      simp only [↓gaH, gaP, simprocAttr, h0, h3, h9, hv1, vpL_len hwi.a, List.drop_zero, ht, go_mapPut]
      refine putK_vp tPx tVp hwi.a hks hmet hm1 (by omega) ?_
      rw [htk]
      simp only [↓gaH, gaP, simprocAttr, h0, h3, h7, h8, h9, loopK_n]
      exact ⟨n - 1, by omega, 1, x1, _, rfl, by omega, rfl, rfl, by omega, by simp only [upd_e, if_true], fun p hp => by simp only [upd_e]; rw [if_neg (by omega), G1 p hp], next (by simp only [Vr.stepP, hone, has', hmet, not_false_eq_true, decide_true, Bool.true_and, Bool.true_or])⟩
    · have hpos : (0 : Int) < (i : Int) := by omega
      have w1 : IntKind.i64.wrap ((i : Int) - 1) = ((i - 1 : Nat) : Int) := by rw [i64_w _ (by omega)]; omega
      have hwp := hR.wfAt (i := i - 1) (by omega)
      simp only [↓gaH, gaP, simprocAttr, h0, h3, h9, e31, c0, hv1, hmet, decide_false, vpL_len hwi.a, vpL_0, u32V, has, not_true_eq_false, hpos, decide_true, w1, e5 i hi', e5 (i - 1) (by omega), List.drop_zero, ht]
      repeat refine And.intro (by omega) ?_
      refine callK_of (ct_VCmp hwp hwi) (fun v2 x2 g2 l2 k2 hC => ?_) (by omega)
      subst hC
      have G2 : ∀ p, p < nx → g2 p = gt p := fun p hp => by rw [k2 p (by omega), G1 p hp]
      have hm2 : g2 nx = some (keysM (l.take i)) := by rw [k2 nx (by omega), hm1]
      have hv2 : g2 y = some (.cells (vpL (Vr.at' l i)) false) := by rw [k2 y (by omega), hv1]
      by_cases hcm : 0 < Vr.cmp (Vr.at' l (i - 1)) (Vr.at' l i)
      · have hno := no (by simp only [Vr.stepP, hone, has', hmet, hi0, not_false_eq_true, decide_true, decide_false, Bool.true_and, Bool.false_or]; exact decide_eq_false (by omega))
        simp only [↓gaH, gaP, simprocAttr, hcm, decide_true]
        simp only [↓gaH, gaP, simprocAttr, gaE, hno]
        exact ⟨by omega, G2⟩
      · have hs := next (by simp only [Vr.stepP, hone, has', hmet, hi0, not_false_eq_true, decide_true, decide_false, Bool.true_and, Bool.false_or]; exact decide_eq_true (by omega))
        simp only [↓gaH, gaP, simprocAttr, hcm, decide_false]
        simp only [↓gaH, gaP, simprocAttr, h0, h3, h9, hv2, vpL_len hwi.a, List.drop_zero, ht, go_mapPut]
        refine putK_vp tPx tVp hwi.a hks hmet hm2 (by omega) ?_
        rw [htk]
        simp only [↓gaH, gaP, simprocAttr, h0, h3, h7, h8, h9, i64_w ((i : Int) + 1) (by omega), loopK_n]
        exact ⟨n - (i + 1), by omega, i + 1, x2, _, rfl, by omega, rfl, rfl, by omega, by simp only [upd_e, if_true], fun p hp => by simp only [upd_e]; rw [if_neg (by omega), G2 p hp], hs⟩
  · have hin : i = n := by omega
    have hall : (List.range l.length).all (Vr.stepR l) = true := by rw [← Vr.steps]; exact List.all_eq_true.2 fun k hk => hst k (by have := List.mem_range.1 hk; omega)
    simp only [↓gaH, gaP, simprocAttr, h0]
    by_cases h1 : (0 : Int) < (n : Int)
    · simp only [↓gaH, gaP, simprocAttr, h1, decide_true, h0, gaE, Vr.right, hall, Bool.true_and]
      refine ⟨by omega, hF, ?_⟩
      rw [decide_eq_true (show 1 ≤ l.length by omega), Bool.true_and, hl]
      congr 1
      exact decide_eq_decide.2 (by omega)
    · simp only [↓gaH, gaP, simprocAttr, h1, decide_false, h0, gaE, Vr.right, hall, Bool.true_and]
      refine ⟨by omega, hF, ?_⟩
      rw [decide_eq_false (show ¬ 1 ≤ l.length by omega), Bool.false_and]
end
end Go.Ga

namespace Go.Ga
open Go Go.Proofs
set_option maxRecDepth 100000
section
variable {nx : Nat} {gt : Nat → Option Blk}
theorem ct_VSame {A B : Option Addr} {n c k d : Nat} {l l' : List Vp} (hr : VpR nx gt A n l) (hc : n ≤ c) (hr' : VpR nx gt B k l') (hd : k ≤ d) (hn : n < 1000000) : Ct Tryd.prog 13 [.slice A n c, .slice B k d] nx gt fun r _ _ => r = .bool (decide (l = l')) := by
  refine Ct.of hmx r_lanyardref18_Same (by simp [c_lanyardref18_Same]) fun b hb => ?_
  have hl := hr.len
  have hl' := hr'.len
  simp only [c_lanyardref18_Same, ↓gaH, gaP, simprocAttr]
  by_cases hnk : (n : Int) = (k : Int)
  case neg =>
    have e : l ≠ l' := fun h => hnk (by rw [← hl, ← hl', h])
    simp only [↓gaH, gaP, simprocAttr, gaE, hnk, not_false_eq_true, decide_true, e]
    exact ⟨by omega, fun _ _ => trivial⟩
  obtain rfl : n = k := by omega
  simp only [↓gaH, gaP, simprocAttr, hnk, not_true_eq_false, decide_false]
  refine loop_of (fun j f m => ∃ i, j = n - i ∧ i ≤ n ∧ f 0 = .slice A n c ∧ f 1 = .slice B n d ∧ f 5 = .int .i64 (i : Nat) ∧ m = ⟨nx, b, gt⟩ ∧ ∀ j, j < i → Vr.at' l j = Vr.at' l' j) n ?_ ?_
  · exact ⟨0, rfl, by omega, (by simp only [↓gaH, gaP, simprocAttr]; try rfl), (by simp only [↓gaH, gaP, simprocAttr]; try rfl), (by simp only [↓gaH, gaP, simprocAttr]; try rfl), rfl, fun j hj => by omega⟩
  rintro j f m ⟨i, rfl, hi, f0, f1, f5, rfl, hst⟩
  simp only [↓gaH, gaP, simprocAttr, f0, f5]
  refine condK_dec (fun hlt => ?_) fun hge => ?_
  · have hi' : i < n := by omega
    obtain ⟨a, cl, ro, rfl, e2, e3, e4, e5, e6⟩ := hr.at (by omega)
    obtain ⟨a', cl', ro', rfl, e2', e3', e4', e5', e6'⟩ := hr'.at (by omega)
    have w1 := hr.wfAt hi'
    have w2 := hr'.wfAt hi'
    simp only [↓gaH, gaP, simprocAttr, f0, f1, f5, e3, e3', e5 i hi', e5' i hi', o_eqA, eqK_vpN tPx tVp w1.a w2.a]
    repeat refine And.intro (by omega) ?_
    by_cases hq : Vr.at' l i = Vr.at' l' i
    · simp only [↓gaH, gaP, simprocAttr, hq, decide_true, Bool.not_true, i64_w ((i : Int) + 1) (by omega), f5]
      simp only [loopK_n]
      refine ⟨n - (i + 1), by omega, i + 1, rfl, by omega, by simp only [↓gaH, gaP, simprocAttr, f0], by simp only [↓gaH, gaP, simprocAttr, f1], by simp only [↓gaH, gaP, simprocAttr]; rfl, by first | trivial | rfl, fun j hj => ?_⟩
      rcases Nat.lt_or_ge j i with h | h
      · exact hst j h
      · obtain rfl : j = i := by omega
        exact hq
    · have e : l ≠ l' := fun h => hq (by rw [h])
      simp only [↓gaH, gaP, simprocAttr, gaE, hq, decide_false, Bool.not_false, e]
      exact ⟨by omega, fun _ _ => trivial⟩
  · have hin : i = n := by omega
    subst hin
    have e : l = l' := by
      refine List.ext_getElem (by omega) fun j h1 h2 => ?_
      have := hst j (by omega)
      unfold Vr.at' at this
      rw [List.getD_eq_getElem?_getD, List.getD_eq_getElem?_getD, List.getElem?_eq_getElem h1, List.getElem?_eq_getElem h2] at this
      exact this
    simp only [↓gaH, gaP, simprocAttr, gaE, e, decide_true]
    exact ⟨by omega, fun _ _ => trivial⟩
end
end Go.Ga

namespace Go.Ga
open Go
def shC (τ : Nat → Nat) (k : Nat) : Value → Value
  | .pointer (some a) => if a.block < k then .pointer (some ⟨τ a.block, a.off, a.spot⟩) else botV
  | .slice (some a) n c => if a.block < k then .slice (some ⟨τ a.block, a.off, a.spot⟩) n c else if n = 0 ∧ c = 0 then .slice (some ⟨0, 0, none⟩) 0 0 else botV
  | .map (some b) => if b < k then .map (some (τ b)) else botV
  | .func _ _ _ => botV
  | .iface _ _ => botV
  | .agg _ => botV
  | .tuple cs => if cs.size = 0 then undef else botV
  | v => v
def shA (τ : Nat → Nat) (k : Nat) : Value → Value
  | .agg cs => .agg (cs.map (shC τ k))
  | v => shC τ k v
def shV (τ : Nat → Nat) (k : Nat) : Value → Value
  | .tuple cs => .tuple (cs.map (shA τ k))
  | v => shA τ k v
def shB (τ : Nat → Nat) (k : Nat) : Option Blk → Option Blk
  | some (.cells l ro) => some (.cells (l.map (shC τ k)) ro)
  | some (.map es) => some (.map (es.map fun p => (p.1, shV τ k p.2)))
  | none => none
theorem shC_und (τ : Nat → Nat) (k : Nat) : shC τ k undef = undef := rfl
theorem shA_und (τ : Nat → Nat) (k : Nat) : shA τ k undef = undef := rfl
theorem shV_und (τ : Nat → Nat) (k : Nat) : shV τ k undef = undef := by simp [shV, undef]
theorem shA_of {τ : Nat → Nat} {k : Nat} {v : Value} (h : ∀ cs, v ≠ .agg cs) : shA τ k v = shC τ k v := by
  cases v <;> first | rfl | exact absurd rfl (h _)
theorem shV_of {τ : Nat → Nat} {k : Nat} {v : Value} (h : ∀ cs, v ≠ .tuple cs) : shV τ k v = shA τ k v := by
  cases v <;> first | rfl | exact absurd rfl (h _)
theorem amap_getD (f : Value → Value) (h : f undef = undef) (cs : Array Value) (i : Nat) : (cs.map f).getD i undef = f (cs.getD i undef) := by
  simp only [Array.getD, Array.size_map]
  split
  · simp
  · exact h.symm
theorem lmap_getD (f : Value → Value) (h : f undef = undef) (l : List Value) (i : Nat) : (l.map f).getD i undef = f (l.getD i undef) := by
  rw [List.getD_eq_getElem?_getD, List.getD_eq_getElem?_getD, List.getElem?_map]
  cases l[i]? with
  | none => exact h.symm
  | some v => rfl
section
variable {r1 r2 : Ren} {τ : Nat → Nat} {k : Nat}
theorem shC_vr (hT : ∀ n l, r1 n = some l → n < k ∧ r2 (τ n) = some l) {v y : Value} (h : VR r1 v y) : VR r2 (shC τ k v) y := by
  cases h with
  | bool b => exact .bool b
  | int k n => exact .int k n
  | string s => exact .string s
  | und => exact .und
  | bot v => exact .bot _
  | pnil => exact .pnil
  | ptr hs h =>
    obtain ⟨hs1, l, hl, hat⟩ := h
    obtain ⟨h1, h2⟩ := hT _ _ hl
    simp only [shC, h1, if_true]
    exact .ptr hs ⟨hs1, l, h2, hat⟩
  | snil => exact .snil
  | slice hn h =>
    rename_i a a' n c c'
    by_cases hk : a.block < k
    · simp only [shC, hk, if_true]
      exact .slice hn (SR.ren (b' := a.block) (fun l hl => (hT _ _ hl).2) h)
    · simp only [shC, hk, if_false]
      have hc : c' = 0 := by
        rcases h.loc with h0 | ⟨_, l, hl, _⟩
        · exact h0
        · exact absurd (hT _ _ hl).1 hk
      subst hc
      have h1 := h.le
      rw [if_pos ⟨by omega, by omega⟩]
      have e1 : n = 0 := by omega
      have e2 : c = 0 := by omega
      rw [e1]
      exact .slice (Nat.le_refl _) ⟨Nat.le_refl _, .inl rfl, fun _ _ => .inl rfl, fun _ => rfl⟩
  | mnil => exact .mnil
  | map h =>
    obtain ⟨l, hl, hat⟩ := h
    obtain ⟨h1, h2⟩ := hT _ _ hl
    simp only [shC, h1, if_true]
    exact .map ⟨l, h2, hat⟩
  | func fn hs h => exact .bot _
  | nilFunc => exact .nilFunc
  | nilIface => exact .nilIface
  | iface t h => exact .bot _
  | agg hs h => exact .bot _
  | tuple hs h =>
    rename_i cs cs'
    simp only [shC]
    split
    · have e : cs' = #[] := Array.size_eq_zero_iff.1 (by omega)
      subst e
      exact .und
    · exact .bot _
theorem shA_vr (hT : ∀ n l, r1 n = some l → n < k ∧ r2 (τ n) = some l) {v y : Value} (h : VR r1 v y) : VR r2 (shA τ k v) y := by
  by_cases h0 : ∃ cs, v = .agg cs
  · obtain ⟨cs, rfl⟩ := h0
    cases h with
    | agg hs h =>
      refine .agg (by simpa using hs) fun i => ?_
      rw [amap_getD _ (shC_und τ k)]
      exact shC_vr hT (h i)
  · rw [shA_of fun cs e => h0 ⟨cs, e⟩]
    exact shC_vr hT h
theorem shV_vr (hT : ∀ n l, r1 n = some l → n < k ∧ r2 (τ n) = some l) {v y : Value} (h : VR r1 v y) : VR r2 (shV τ k v) y := by
  by_cases h0 : ∃ cs, v = .tuple cs
  · obtain ⟨cs, rfl⟩ := h0
    cases h with
    | tuple hs h =>
      refine .tuple (by simpa using hs) fun i => ?_
      rw [amap_getD _ (shA_und τ k)]
      exact shA_vr hT (h i)
    | und => exact (shV_und τ k).symm ▸ VR.und
  · rw [shV_of fun cs e => h0 ⟨cs, e⟩]
    exact shA_vr hT h
theorem shB_br (hT : ∀ n l, r1 n = some l → n < k ∧ r2 (τ n) = some l) {b : Blk} {o : Option Obj} {base csz : Nat} (h : BR r1 b o base csz) : ∃ b', shB τ k (some b) = some b' ∧ BR r2 b' o base csz := by
  cases b with
  | cells l ro =>
    obtain ⟨c, e, fr, e1, e2, e3, e4, e5⟩ := h
    refine ⟨_, rfl, c, e, fr, e1, by simpa using e2, e3, fun i hi => ?_, e5⟩
    rw [lmap_getD _ (shC_und τ k)]
    exact shC_vr hT (e4 i (by simpa using hi))
  | map es =>
    obtain ⟨c, q, e1, e2, e3, e4⟩ := h
    refine ⟨_, rfl, c, q, e1, by rw [e2, List.map_map]; rfl, fun p hp => ?_, fun i => ?_⟩
    · obtain ⟨q, hq, rfl⟩ := List.mem_map.1 hp
      exact e3 q hq
    · have : (List.map (fun x => x.2) (es.map fun p => (p.1, shV τ k p.2))) = (es.map (·.2)).map (shV τ k) := by rw [List.map_map, List.map_map]; rfl
      rw [this, lmap_getD _ (shV_und τ k)]
      exact shV_vr hT (e4 i)
variable {S : Nat → Nat → Prop} {τ' : Nat → Nat}
theorem shC_nv (h : ∀ n, n < k → S (τ n) (τ' n)) (v : Value) : NV S (shC τ k v) (shC τ' k v) := by
  cases v with
  | pointer a =>
    cases a with
    | none => exact .same rfl
    | some a =>
      simp only [shC]
      split
      · exact .ptr (h _ (by assumption))
      · exact .bot _
  | slice a n c =>
    cases a with
    | none => exact .same rfl
    | some a =>
      simp only [shC]
      split
      · exact .slice (h _ (by assumption))
      · split
        · exact .slice0
        · exact .bot _
  | map b =>
    cases b with
    | none => exact .same rfl
    | some b =>
      simp only [shC]
      split
      · exact .map (h _ (by assumption))
      · exact .bot _
  | func _ _ _ => exact .bot _
  | iface _ _ => exact .bot _
  | agg _ => exact .bot _
  | tuple cs =>
    simp only [shC]
    split
    · exact .und
    · exact .bot _
  | _ => exact .same rfl
theorem shA_nv (h : ∀ n, n < k → S (τ n) (τ' n)) (v : Value) : NV S (shA τ k v) (shA τ' k v) := by
  by_cases h0 : ∃ cs, v = .agg cs
  · obtain ⟨cs, rfl⟩ := h0
    refine .agg (by simp) fun i => ?_
    rw [amap_getD _ (shC_und τ k), amap_getD _ (shC_und τ' k)]
    exact shC_nv h _
  · rw [shA_of fun cs e => h0 ⟨cs, e⟩, shA_of fun cs e => h0 ⟨cs, e⟩]
    exact shC_nv h _
theorem shV_nv (h : ∀ n, n < k → S (τ n) (τ' n)) (v : Value) : NV S (shV τ k v) (shV τ' k v) := by
  by_cases h0 : ∃ cs, v = .tuple cs
  · obtain ⟨cs, rfl⟩ := h0
    refine .tuple (by simp) fun i => ?_
    rw [amap_getD _ (shA_und τ k), amap_getD _ (shA_und τ' k)]
    exact shA_nv h _
  · rw [shV_of fun cs e => h0 ⟨cs, e⟩, shV_of fun cs e => h0 ⟨cs, e⟩]
    exact shA_nv h _
theorem shB_nb (h : ∀ n, n < k → S (τ n) (τ' n)) (b : Option Blk) : NB S (shB τ k b) (shB τ' k b) := by
  cases b with
  | none => trivial
  | some b =>
    cases b with
    | cells l ro =>
      refine ⟨rfl, by simp, fun i => ?_⟩
      rw [lmap_getD _ (shC_und τ k), lmap_getD _ (shC_und τ' k)]
      exact shC_nv h _
    | map es =>
      refine ⟨by rw [List.map_map, List.map_map]; rfl, fun i => ?_⟩
      have : ∀ t, (List.map (fun x => x.2) (es.map fun p => (p.1, shV t k p.2))) = (es.map (·.2)).map (shV t k) := fun t => by rw [List.map_map, List.map_map]; rfl
      rw [this, this, lmap_getD _ (shV_und τ k), lmap_getD _ (shV_und τ' k)]
      exact shV_nv h _
end
def tau (K x : Nat) (ι : Nat → Nat) (n : Nat) : Nat := if n < K then ι n else n - K + x
def shG (K k x : Nat) (ι : Nat → Nat) (gt G : Nat → Option Blk) (n : Nat) : Option Blk := if n < x then gt n else shB (tau K x ι) k (G (n - x + K))
theorem FnEv.shift {P : Program} {g : FuncId} {args args2 : List Value} {v : Value} {m' : Mem} {K x b : Nat} {gs gt : Nat → Option Blk} {ι : Nat → Nat} (h : FnEv P g args ⟨K, K, gs⟩ (.ret v) m') (hb : b ≤ x) (hι : ∀ n, n < K → ι n < x)
    (hinj : ∀ n n', n < K → n' < K → ι n = ι n' → n = n') (hg : ∀ n, n < K → gs n = gt (ι n) ∧ flatB (gs n) = true) (hl : args2.length = args.length) (ha : ∀ i, NV (fun a b => a < K ∧ b = ι a) (args.getD i undef) (args2.getD i undef)) :
    FnEv P g args2 ⟨x, b, gt⟩ (.ret (shV (tau K x ι) m'.next v)) ⟨x + (m'.next - K), b, shG K m'.next x ι gt m'.get⟩ := by
  obtain ⟨hfn, hext, hc⟩ := h
  have hnext : K ≤ m'.next := hext.next
  refine ⟨hfn, ⟨rfl, Nat.le_add_right _ _, fun n hn => if_pos (by simp only at hn; omega)⟩, fun r w args' hm hsz hva => ?_⟩
  let r0 : Ren := fun n => if n < K then r (ι n) else none
  have r0lo : ∀ n, n < K → r0 n = r (ι n) := fun n hn => by simp only [r0]; rw [if_pos hn]
  have r0no : ∀ n, K ≤ n → r0 n = none := fun n hn => by simp only [r0]; rw [if_neg (by omega)]
  have r0lt : ∀ n l, r0 n = some l → n < K := fun n l hn => by
    rcases Nat.lt_or_ge n K with h1 | h1
    · exact h1
    · rw [r0no n h1] at hn; cases hn
  have hm0 : MemRel r0 ⟨K, K, gs⟩ w := by
    refine ⟨Nat.le_refl _, fun n l hn => r0lt n l hn, fun n hn => ?_, fun n cb base csz hn => ?_, fun n n' cb b1 c1 b2 c2 h1 h2 => ?_⟩
    · have hK := r0lt n _ hn
      rw [r0lo n hK] at hn
      show gs n = none
      rw [(hg n hK).1]; exact hm.dead _ hn
    · have hK := r0lt n _ hn
      rw [r0lo n hK] at hn
      obtain ⟨bb, e1, e2⟩ := hm.live _ _ _ _ hn
      have e1' : gs n = some bb := (hg n hK).1.trans e1
      exact ⟨bb, e1', e2.flat (by rw [← e1']; exact (hg n hK).2)⟩
    · have k1 := r0lt n _ h1
      have k2 := r0lt n' _ h2
      rw [r0lo n k1] at h1
      rw [r0lo n' k2] at h2
      exact hinj n n' k1 k2 (hm.inj _ _ _ _ _ _ _ h1 h2)
  refine (hc r0 w args' hm0 (by rw [hsz, hl]) fun i => (ha i).vr (fun a c l hS hl => by obtain ⟨h1, rfl⟩ := hS; rw [r0lo a h1]; exact hl) (hva i)).mono fun e w' hw => ?_
  obtain ⟨r0', hres, hm', hf'⟩ := hw
  let r' : Ren := fun n => if n < x then r n else r0' (n - x + K)
  have r'lo : ∀ n, n < x → r' n = r n := fun n hn => by simp only [r']; rw [if_pos hn]
  have r'hi : ∀ n, x ≤ n → r' n = r0' (n - x + K) := fun n hn => by simp only [r']; rw [if_neg (by omega)]
  have hlow : ∀ n, n < K → r0' n = r0 n := fun n hn => hf'.lowR n hn
  have hT : ∀ n l, r0' n = some l → n < m'.next ∧ r' (tau K x ι n) = some l := fun n l hn => by
    refine ⟨hm'.born n l hn, ?_⟩
    unfold tau
    split
    · rename_i h1
      rw [r'lo _ (hι n h1), ← r0lo n h1, ← hlow n h1]; exact hn
    · rw [r'hi _ (by omega), show n - K + x - x + K = n by omega]; exact hn
  have hext' : Ext r r' := fun n l hn => .inl (by rw [r'lo n (hm.born n l hn)]; exact hn)
  have newer : ∀ n cb base csz, K ≤ n → r0' n = some (.at cb base csz) → w.heap.size ≤ cb := fun n cb base csz hn h => by
    rcases hf'.img n cb base csz h with h1 | h1 | ⟨n0, b0, c0, h1, h2⟩
    · have := r0lt n _ h1; omega
    · exact h1
    · have := r0lt n0 _ h2; simp only at h1; omega
  have heapOld : ∀ n cb base csz, r n = some (.at cb base csz) → w'.heap[cb]? = w.heap[cb]? := fun n cb base csz hn => by
    by_cases hex : ∃ j b1 c1, r0 j = some (.at cb b1 c1)
    · obtain ⟨j, b1, c1, hj⟩ := hex
      exact hf'.low j cb b1 c1 (r0lt j _ hj) hj
    · exact hf'.out cb (hm.lt hn) fun j b1 c1 hj => hex ⟨j, b1, c1, hj⟩
  refine ⟨r', ?_, ⟨by show b ≤ x + _; omega, fun n l hn => ?_, fun n hn => ?_, fun n cb base csz hn => ?_, fun n n' cb b1 c1 b2 c2 h1 h2 => ?_⟩, ⟨hf'.size, hf'.os, hf'.tape, hf'.output, fun cb hcb hno => ?_, fun n cb base csz hn hr => heapOld n cb base csz hr, fun n hn => r'lo n (by simp only at hn; omega), hext', fun n h1 h2 => ?_, fun n cb base csz hn => ?_⟩⟩
  · cases e with
    | returned v' => exact shV_vr hT hres
    | panicked ch => exact hres.elim
    | outgrown => exact hres.elim
  · show n < x + (m'.next - K)
    rcases Nat.lt_or_ge n x with h1 | h1
    · omega
    · rw [r'hi n h1] at hn
      have := hm'.born _ _ hn
      omega
  · show shG K m'.next x ι gt m'.get n = none
    unfold shG
    rcases Nat.lt_or_ge n x with h1 | h1
    · rw [if_pos h1]
      rw [r'lo n h1] at hn
      exact hm.dead n hn
    · rw [if_neg (by omega)]
      rw [r'hi n h1] at hn
      rw [hm'.dead _ hn]; rfl
  · show ∃ bb, shG K m'.next x ι gt m'.get n = some bb ∧ _
    unfold shG
    rcases Nat.lt_or_ge n x with h1 | h1
    · rw [if_pos h1]
      rw [r'lo n h1] at hn
      obtain ⟨bb, e1, e2⟩ := hm.live n cb base csz hn
      refine ⟨bb, e1, ?_⟩
      rw [heapOld n cb base csz hn]
      exact e2.mono hext'
    · rw [if_neg (by omega)]
      rw [r'hi n h1] at hn
      obtain ⟨bb, e1, e2⟩ := hm'.live _ cb base csz hn
      rw [e1]
      exact shB_br hT e2
  · rcases Nat.lt_or_ge n x with g1 | g1 <;> rcases Nat.lt_or_ge n' x with g2 | g2
    · rw [r'lo n g1] at h1; rw [r'lo n' g2] at h2
      exact hm.inj _ _ _ _ _ _ _ h1 h2
    · rw [r'lo n g1] at h1; rw [r'hi n' g2] at h2
      have := hm.lt h1; have := newer _ _ _ _ (by omega) h2; omega
    · rw [r'hi n g1] at h1; rw [r'lo n' g2] at h2
      have := hm.lt h2; have := newer _ _ _ _ (by omega) h1; omega
    · rw [r'hi n g1] at h1; rw [r'hi n' g2] at h2
      have := hm'.inj _ _ _ _ _ _ _ h1 h2
      omega
  · refine hf'.out cb hcb fun j b1 c1 hj => ?_
    have := r0lt j _ hj
    rw [r0lo j this] at hj
    exact hno _ _ _ hj
  · show x ≤ n
    rcases Nat.lt_or_ge n x with h3 | h3
    · rw [r'lo n h3] at h2; exact absurd h1 h2
    · exact h3
  · rcases Nat.lt_or_ge n x with h3 | h3
    · rw [r'lo n h3] at hn; exact .inl hn
    · rw [r'hi n h3] at hn
      exact .inr (.inl (newer _ _ _ _ (by omega) hn))
end Go.Ga

namespace Go.Ga
open Go Go.Proofs
set_option maxRecDepth 100000
theorem callK_ev {P : Program} {g : Nat} {args : List Value} {d : Option Nat} {l : List RO} {f : Regs} {m m' : Mem} {v : Value} {Q : AEx → Regs → Mem → Prop} (h : FnEv P g args m (.ret v) m') (k : goOps P l (putR f d v) m' Q) : callK P g args d l f m Q := by
  unfold callK
  exact fun _ => ⟨_, _, h, k⟩
def shS (τ : Nat → Nat) (k : Nat) : Option Addr → Option Addr
  | none => none
  | some a => if a.block < k then some ⟨τ a.block, a.off, a.spot⟩ else some ⟨0, 0, none⟩
theorem VR.slice_real {r : Ren} {m : Mem} {w : World} (hm : MemRel r m w) {A : Option Addr} {n c : Nat} {y : Value} (h : VR r (.slice A n c) y) : A = none ∨ (n = 0 ∧ c = 0) ∨ ∃ a, A = some a ∧ a.block < m.next := by
  cases h with
  | snil => exact .inl rfl
  | slice hn h =>
    rename_i a a' c'
    rcases h.loc with h0 | ⟨_, l, hl, _⟩
    · have := h.le
      exact .inr (.inl ⟨by omega, by omega⟩)
    · exact .inr (.inr ⟨a, rfl, hm.born _ _ hl⟩)
theorem shC_slice {τ : Nat → Nat} {k : Nat} {A : Option Addr} {n c : Nat} (h : A = none ∨ (n = 0 ∧ c = 0) ∨ ∃ a, A = some a ∧ a.block < k) : shC τ k (.slice A n c) = .slice (shS τ k A) n c := by
  cases A with
  | none => rfl
  | some a =>
    simp only [shC, shS]
    by_cases hk : a.block < k
    · simp only [hk, if_true]
    · rcases h with h | ⟨h1, h2⟩ | ⟨b, hb, h⟩
      · cases h
      · simp only [hk, if_false, h1, h2, and_self, if_true]
      · injection hb with hb; subst hb; exact absurd h hk
theorem RowL.shift {K k x : Nat} {ι : Nat → Nat} {gt G : Nat → Option Blk} {B : Option Addr} {N e : Nat} {l : List UInt8} (hK : K ≤ k) (h : RowL K k G e B N (l.map u8V)) : RowL x (x + (k - K)) (shG K k x ι gt G) e (shS (tau K x ι) k B) N (l.map u8V) := by
  refine ⟨⟨fun a ha => ?_, h.1.len, fun hN => ?_⟩, fun hN a ha => ?_⟩
  · cases B with
    | none => cases ha
    | some a0 =>
      simp only [shS] at ha
      split at ha
      · injection ha with ha; subst ha; exact h.1.spot a0 rfl
      · injection ha with ha; subst ha; exact .inl rfl
  · obtain ⟨a, c, ro, rfl, e2, e3, e4, e5⟩ := h.1.cells hN
    have hlo := h.2 hN a rfl
    simp only [shS, e2, if_true]
    have ht : tau K x ι a.block = a.block - K + x := by unfold tau; rw [if_neg (by omega)]
    refine ⟨_, c.map (shC (tau K x ι) k), ro, rfl, by simp only [ht]; omega, ?_, by simp only [List.length_map]; exact e4, fun i hi => ?_⟩
    · simp only [shG, ht]
      rw [if_neg (by omega), show a.block - K + x - x + K = a.block by omega, e3]
      rfl
    · simp only
      rw [lmap_getD _ (shC_und _ _), e5 i hi]
      have := h.1.len
      rw [getD_u8 (by simpa using (by omega : i < N) |> fun h' => by have := h.1.len; simp at this; omega)]
      rfl
  · obtain ⟨a0, c, ro, rfl, e2, e3, e4, e5⟩ := h.1.cells hN
    have hlo := h.2 hN a0 rfl
    simp only [shS, e2, if_true] at ha
    injection ha with ha; subst ha
    simp only [tau]
    rw [if_neg (by omega)]; omega
theorem NodeIs.shift {K k x : Nat} {ι : Nat → Nat} {gt G : Nat → Option Blk} {v y : Value} {E : Fo.El} {r : Ren} {m : Mem} {w : World} (hK : K ≤ k) (hE : E.k = .nil) (h : NodeIs K k G v E) (hm : MemRel r m w) (hk : m.next = k) (hv : VR r v y) :
    NodeIs x (x + (k - K)) (shG K k x ι gt G) (shV (tau K x ι) k v) E := by
  obtain ⟨B, n1, d1, A, n2, c2, ks, rfl, hN⟩ := h
  cases hv with
  | agg hs hc =>
    have h1 := hc 1
    have h2 := hc 2
    have q1 := (VR.slice_real hm (A := B) (n := n1) (c := d1) h1)
    have q2 := (VR.slice_real hm (A := A) (n := n2) (c := c2) h2)
    rw [hk] at q1 q2
    have e : shV (tau K x ι) k (nodeV E.t B n1 d1 A n2 c2) = nodeV E.t (shS (tau K x ι) k B) n1 d1 (shS (tau K x ι) k A) n2 c2 := by
      show Value.agg (#[Value.int .i64 E.t, .slice B n1 d1, .slice A n2 c2].map (shC (tau K x ι) k)) = _
      simp only [Array.map, nodeV]
      have : (#[Value.int .i64 E.t, .slice B n1 d1, .slice A n2 c2].map (shC (tau K x ι) k)) = #[shC (tau K x ι) k (.int .i64 E.t), shC (tau K x ι) k (.slice B n1 d1), shC (tau K x ι) k (.slice A n2 c2)] := by simp
      rw [← shC_slice q1, ← shC_slice q2]
      exact congrArg Value.agg this
    have hn0 : n2 = 0 := by have := hN.len; rw [hE] at this; exact this
    subst hn0
    have hks : ks = [] := by have := hN.kids; rw [hE] at this; exact this
    subst hks
    refine ⟨_, n1, d1, _, 0, c2, [], e, ⟨hN.tg, hN.body.shift hK, hN.md, ⟨⟨fun a ha => ?_, rfl, fun h => absurd h (by simp)⟩, fun h => absurd h (by simp)⟩, hN.nc, by rw [hE]; rfl, by rw [hE]; rfl⟩⟩
    cases A with
    | none => cases ha
    | some a0 =>
      simp only [shS] at ha
      split at ha
      · injection ha with ha; subst ha; exact hN.row.1.spot a0 rfl
      · injection ha with ha; subst ha; exact .inl rfl
end Go.Ga

namespace Go.Ga
open Go Go.Proofs
set_option maxRecDepth 100000
theorem Ct.mono {P : Program} {g : Nat} {args : List Value} {nx : Nat} {gt : Nat → Option Blk} {C C' : Value → Nat → (Nat → Option Blk) → Prop} (h : Ct P g args nx gt C) (hC : ∀ v x g, C v x g → C' v x g) : Ct P g args nx gt C' := fun b hb =>
  (h b hb).mono fun res m' _ hh => by
    obtain ⟨v, h1, h2, h3, h4, h5⟩ := hh
    exact ⟨v, h1, h2, h3, h4, hC _ _ _ h5⟩
noncomputable def intN (n : Nat) : Fo.El := open Classical in if h : ∃ y, intE n y then h.choose else ⟨0, [], .nil⟩
theorem intN_is {n : Nat} (hn : n < 18446744073709551616) : intE n (intN n) := by
  unfold intN
  rw [dif_pos (intE_ex hn)]
  exact (intE_ex hn).choose_spec
theorem ct_IntN {nx : Nat} {gt : Nat → Option Blk} {n : Nat} (hn : n < 18446744073709551616) : Ct Tryd.prog 21 [.int .u64 (n : Nat)] nx gt fun v x g => NodeIs nx x g v (intN n) :=
  (ct_Int hn).mono fun v x g ⟨y, h1, h2⟩ => by rw [intE_one (intN_is hn) h1]; exact h2
theorem ct_rIntN {nx : Nat} {gt : Nat → Option Blk} {n : Nat} (hn : n < 18446744073709551616) : Ct Tryd.prog 26 [.int .u64 (n : Nat)] nx gt fun v x g => NodeIs nx x g v (intN n) :=
  (ct_rInt hn).mono fun v x g ⟨y, h1, h2⟩ => by rw [intE_one (intN_is hn) h1]; exact h2
theorem keepStep {L : List Nat} {F f : Regs} {r : Nat} {v : Value} (h : ∀ i ∈ L, F i = f i) (hr : r ∉ L) : ∀ i ∈ L, putR F (some r) v i = f i := fun i hi => by
  simp only [putR]
  rw [if_neg fun e => hr (by rw [← e]; exact hi)]
  exact h i hi
def makeT1 : RC :=
  (.tree [
  ⟨(some 19), (.op (.mv (.t 7))), none⟩,
  ⟨(some 20), (.op (.mv (.t 7))), none⟩,
  ⟨(some 21), (.op (.fieldAddr 1 (.t 6))), none⟩,
  ⟨(some 22), (.op (.fieldAddr 0 (.t 21))), none⟩,
  ⟨(some 23), (.op (.load1 (.t 22))), none⟩,
  ⟨(some 24), (.call (.k (.func (.func 20) #[] #[])) [(.t 23)]), none⟩,
  ⟨(some 25), (.op (.fieldAddr 19 (.t 6))), none⟩,
  ⟨(some 26), (.op (.load1 (.t 25))), none⟩,
  ⟨(some 27), (.op (.toInt .u64 (.t 26))), none⟩,
  ⟨(some 28), (.call (.k (.func (.func 21) #[] #[])) [(.t 27)]), none⟩,
  ⟨(some 29), (.op (.ixAddr 3 (.t 19) (.k (.int .i64 0)))), none⟩,
  ⟨none, (.op (.store 3 (.t 29) (.t 24))), none⟩,
  ⟨(some 30), (.op (.ixAddr 3 (.t 20) (.k (.int .i64 2)))), none⟩,
  ⟨none, (.op (.store 3 (.t 30) (.t 28))), none⟩] d_roa_Make q_roa_Make)
def makeT2 : RC :=
  (.tree [
  ⟨(some 32), (.op (.mv (.t 7))), none⟩,
  ⟨(some 33), (.op (.fieldAddr 1 (.t 6))), none⟩,
  ⟨(some 34), (.op (.fieldAddr 1 (.t 33))), none⟩,
  ⟨(some 35), (.op (.fieldAddr 1 (.t 6))), none⟩,
  ⟨(some 36), (.op (.fieldAddr 17 (.t 35))), none⟩,
  ⟨(some 37), (.op (.load1 (.t 36))), none⟩,
  ⟨(some 38), (.op (.bin .add (.t 37) (.k (.int .i64 7)))), none⟩,
  ⟨(some 39), (.op (.bin .quo (.t 38) (.k (.int .i64 8)))), none⟩,
  ⟨(some 40), (.op (.slArr 16 1 (.t 34) none (some (.t 39)) none)), none⟩,
  ⟨(some 41), (.op (.fieldAddr 1 (.t 6))), none⟩,
  ⟨(some 42), (.op (.fieldAddr 17 (.t 41))), none⟩,
  ⟨(some 43), (.op (.load1 (.t 42))), none⟩,
  ⟨(some 44), (.call (.k (.func (.func 22) #[] #[])) [(.t 40), (.t 43)]), none⟩,
  ⟨(some 31), (.op (.mv (.t 44))), none⟩,
  ⟨(some 45), (.op (.extract (.t 31) 0)), none⟩,
  ⟨(some 46), (.op (.extract (.t 31) 1)), none⟩,
  ⟨(some 47), (.op (.ixAddr 3 (.t 32) (.k (.int .i64 1)))), none⟩,
  ⟨none, (.op (.store 3 (.t 47) (.t 45))), none⟩] d_roa_Make1 q_roa_Make1)
def kept (L : List Nat) (f : Regs) : Regs := fun i => if i ∈ L then f i else botV
theorem make_tree1 {x b y q : Nat} {g : Nat → Option Blk} {f : Regs} {v : Vp} {z : List Value} {Q : AEx → Regs → Mem → Prop} (hv : v.wf) (hmx : 0 ≤ v.mx) (hb : b ≤ q) (h6 : f 6 = .pointer (some ⟨y, 0, none⟩)) (h7 : f 7 = .slice (some ⟨q, 0, none⟩) 3 3) (hy : y < q) (hq : q < x)
    (hgy : g y = some (.cells (vpL v) false)) (hgq : g q = some (.cells z false)) (hz : z.length = 9)
    (hQ : ∀ x' g' t1 B1 m1 d1 A1 n1 c1 k1 t3 B3 m3 d3 A3 n3 c3 k3, x ≤ x' → (∀ p, p < x → p ≠ q → g' p = g p) → t1 = (boolE v.v6).t → t3 = (intN v.mx.toNat).t → g' q = some (.cells (nodeL t1 B1 m1 d1 A1 n1 c1 ++ ((z.drop 3).take 3 ++ nodeL t3 B3 m3 d3 A3 n3 c3)) false) →
      NdL x x' g' (boolE v.v6) B1 m1 d1 A1 n1 c1 k1 → NdL x x' g' (intN v.mx.toNat) B3 m3 d3 A3 n3 c3 k3 → Q .normal (kept [0, 4, 6, 7, 12, 13, 14] f) ⟨x', b, g'⟩) :
    RC.vc Tryd.prog makeT1 f ⟨x, b, g⟩ Q := by
  have hmxN : IntKind.u64.wrap v.mx = ((v.mx.toNat : Nat) : Int) := by have := hv.mx; rw [u64_w]; omega
  obtain ⟨res, M1, hC, hcall1⟩ := Fn.det (ct_Bool v.v6 (nx := x) (gt := g) b (by omega)) (by show b ≤ x; omega)
  obtain ⟨w1, rfl, e1, e2, e3, B1, m1, d1, A1, n1, c1, k1, rfl, N1⟩ := hC
  obtain ⟨x1, b1, g1⟩ := M1
  simp only at e1 e2 e3 N1
  subst e1
  obtain ⟨res, M2, hC, hcall2⟩ := Fn.det (ct_IntN (n := v.mx.toNat) (nx := x1) (gt := g1) (by have := hv.mx; omega) b1 (by omega)) (by show b1 ≤ x1; omega)
  obtain ⟨w2, rfl, f1, f2, f3, B3, m3, d3, A3, n3, c3, k3, rfl, N3⟩ := hC
  obtain ⟨x2, b2, g2⟩ := M2
  simp only at f1 f2 f3 N3
  subst f1
  have hgy2 : ∀ M : Mem, (M = ⟨x, b2, g⟩ ∨ M = ⟨x1, b2, g1⟩ ∨ M = ⟨x2, b2, g2⟩) → M.get y = some (.cells (vpL v) false) := fun M h => by
    rcases h with rfl | rfl | rfl
    · exact hgy
    · show g1 y = _; rw [e3 y (by omega), hgy]
    · show g2 y = _; rw [f3 y (by omega), e3 y (by omega), hgy]
  have hq2 : g2 q = some (.cells z false) := by rw [f3 q (by omega), e3 q (by omega), hgq]
  obtain ⟨g3, hg3⟩ : ∃ g, g = upd g2 q (some (.cells (splice z 0 (nodeL (boolE v.v6).t B1 m1 d1 A1 n1 c1)) false)) := ⟨_, rfl⟩
  obtain ⟨g4, hg4⟩ : ∃ g, g = upd g3 q (some (.cells (splice (splice z 0 (nodeL (boolE v.v6).t B1 m1 d1 A1 n1 c1)) 6 (nodeL (intN v.mx.toNat).t B3 m3 d3 A3 n3 c3)) false)) := ⟨_, rfl⟩
  have hq3 : g3 q = some (.cells (splice z 0 (nodeL (boolE v.v6).t B1 m1 d1 A1 n1 c1)) false) := by rw [hg3]; simp only [upd_e, if_true]
  have hy3 : g3 y = some (.cells (vpL v) false) := by rw [hg3]; simp only [upd_e]; rw [if_neg (by omega)]; exact hgy2 _ (.inr (.inr rfl))
  have hl1 : (splice z 0 (nodeL (boolE v.v6).t B1 m1 d1 A1 n1 c1)).length = 9 := by rw [length_splice (by simp [hz]), hz]
  have F4 : ∀ p, p ≠ q → g4 p = g2 p := fun p hp => by rw [hg4, hg3]; simp only [upd_e]; rw [if_neg hp, if_neg hp]
  unfold makeT1
  refine vc_tree_same ⟨kept [0, 4, 6, 7, 12, 13, 14] f, ⟨x2, b2, g4⟩, ?_, ⟨rfl, by show x ≤ x2; omega, fun p hp => ?_⟩, ?_⟩
  · refine hQ x2 g4 _ B1 m1 d1 A1 n1 c1 k1 _ B3 m3 d3 A3 n3 c3 k3 (by omega) (fun p hp hpq => by rw [F4 p hpq, f3 p (by omega), e3 p hp]) rfl rfl ?_ ?_ ?_
    · rw [hg4]; simp only [upd_e, if_true]
      congr 2
      match z, hz with
      | [z0, z1, z2, z3, z4, z5, z6, z7, z8], _ => rfl
    · exact (N1.keep (x' := x2) (g := g4) f2 fun p h1 h2 => by rw [F4 p (by omega), f3 p h2])
    · exact (N3.keep (x' := x2) (g := g4) (Nat.le_refl _) fun p h1 h2 => by rw [F4 p (by omega)]).wid e2
  · show g4 p = g p
    have hp' : p < b2 := hp
    rw [F4 p (by omega), f3 p (by omega), e3 p (by omega)]
  · refine tree_inv2 (fun S F mm => Held [(0, 19, .slice (some ⟨q, 0, none⟩) 3 3), (1, 20, .slice (some ⟨q, 0, none⟩) 3 3), (2, 21, .pointer (some ⟨y, 1, none⟩)), (3, 22, .pointer (some ⟨y, 1, none⟩)), (4, 23, .bool v.v6), (5, 24, nodeV (boolE v.v6).t B1 m1 d1 A1 n1 c1), (6, 25, .pointer (some ⟨y, 19, none⟩)), (7, 26, .int .i64 v.mx), (8, 27, .int .u64 (v.mx.toNat : Nat)), (9, 28, nodeV (intN v.mx.toNat).t B3 m3 d3 A3 n3 c3), (10, 29, .pointer (some ⟨q, 0, none⟩)), (12, 30, .pointer (some ⟨q, 6, none⟩))] S F ∧
        (∀ i ∈ [0, 4, 6, 7, 12, 13, 14], F i = f i) ∧ (S 9 = true → S 5 = true) ∧ (S 11 = true → S 9 = true) ∧ (S 13 = true → S 11 = true) ∧ mm = if S 13 then ⟨x2, b2, g4⟩ else if S 11 then ⟨x2, b2, g3⟩ else if S 9 then ⟨x2, b2, g2⟩ else if S 5 then ⟨x1, b2, g1⟩ else ⟨x, b2, g⟩) rfl ?_ ?_ _ _ _ _ (by rw [lefts_zero]) ?_
    · rintro S i F mm ⟨h1, hk, o1, o2, o3, hmm⟩ hi hSi hdeps
      have hbm : mm.get y = some (.cells (vpL v) false) := by
        rw [hmm]
        split
        · show g4 y = _
          rw [F4 y (by omega)]; exact hgy2 _ (.inr (.inr rfl))
        split
        · exact hy3
        · split
          · exact hgy2 _ (.inr (.inr rfl))
          · split
            · exact hgy2 _ (.inr (.inl rfl))
            · exact hgy2 _ (.inl rfl)
      have k6 : F 6 = .pointer (some ⟨y, 0, none⟩) := (hk 6 (by decide)).trans h6
      have k7 : F 7 = .slice (some ⟨q, 0, none⟩) 3 3 := (hk 7 (by decide)).trans h7
      have hi' : i < 14 := hi
      rcases i with _ | _ | _ | _ | _ | _ | _ | _ | _ | _ | _ | _ | _ | _ | i
      · refine ⟨_, rfl, fun K hK _ => ?_⟩
        simp only [↓gaH, gaP, simprocAttr, k7]
        exact hK _ _ ⟨h1.step (by simp), keepStep hk (by decide), by simpa using o1, by simpa using o2, by simpa using o3, by simpa using hmm⟩
      · refine ⟨_, rfl, fun K hK _ => ?_⟩
        simp only [↓gaH, gaP, simprocAttr, k7]
        exact hK _ _ ⟨h1.step (by simp), keepStep hk (by decide), by simpa using o1, by simpa using o2, by simpa using o3, by simpa using hmm⟩
      · refine ⟨_, rfl, fun K hK _ => ?_⟩
        simp only [↓gaH, gaP, simprocAttr, k6]
        exact hK _ _ ⟨h1.step (by simp), keepStep hk (by decide), by simpa using o1, by simpa using o2, by simpa using o3, by simpa using hmm⟩
      · refine ⟨_, rfl, fun K hK _ => ?_⟩
        have q2 := h1.at 2 rfl (hdeps 2 (by decide))
        simp only at q2
        simp only [↓gaH, gaP, simprocAttr, q2]
        exact hK _ _ ⟨h1.step (by simp), keepStep hk (by decide), by simpa using o1, by simpa using o2, by simpa using o3, by simpa using hmm⟩
      · refine ⟨_, rfl, fun K hK _ => ?_⟩
        have q2 := h1.at 3 rfl (hdeps 3 (by decide))
        simp only at q2
        simp only [↓gaH, gaP, simprocAttr, q2, hbm, vpL_len hv.a, vpL_6]
        repeat refine And.intro (by omega) ?_
        exact hK _ _ ⟨h1.step (by simp), keepStep hk (by decide), by simpa using o1, by simpa using o2, by simpa using o3, by simpa using hmm⟩
      · refine ⟨_, rfl, fun K hK _ => ?_⟩
        have q2 := h1.at 4 rfl (hdeps 4 (by decide))
        simp only at q2
        have s9 : S 9 = false := by cases h : S 9 with | false => rfl | true => rw [o1 h] at hSi; cases hSi
        have s11 : S 11 = false := by cases h : S 11 with | false => rfl | true => rw [o2 h] at s9; cases s9
        have s13 : S 13 = false := by cases h : S 13 with | false => rfl | true => rw [o3 h] at s11; cases s11
        rw [hSi, s9, s11, s13] at hmm
        simp only [Bool.false_eq_true, if_false] at hmm
        subst hmm
        simp only [↓gaH, gaP, simprocAttr, q2]
        refine callK_det hcall1 ?_
        simp only [↓gaH, gaP, simprocAttr]
        exact hK _ _ ⟨h1.step (by simp), keepStep hk (by decide), by simp, by simpa using o2, by simpa using o3, by simp [s9, s11, s13]⟩
      · refine ⟨_, rfl, fun K hK _ => ?_⟩
        simp only [↓gaH, gaP, simprocAttr, k6]
        exact hK _ _ ⟨h1.step (by simp), keepStep hk (by decide), by simpa using o1, by simpa using o2, by simpa using o3, by simpa using hmm⟩
      · refine ⟨_, rfl, fun K hK _ => ?_⟩
        have q2 := h1.at 6 rfl (hdeps 6 (by decide))
        simp only at q2
        simp only [↓gaH, gaP, simprocAttr, q2, hbm, vpL_len hv.a, vpL_m hv.a]
        repeat refine And.intro (by omega) ?_
        exact hK _ _ ⟨h1.step (by simp), keepStep hk (by decide), by simpa using o1, by simpa using o2, by simpa using o3, by simpa using hmm⟩
      · refine ⟨_, rfl, fun K hK _ => ?_⟩
        have q2 := h1.at 7 rfl (hdeps 7 (by decide))
        simp only at q2
        simp only [↓gaH, gaP, simprocAttr, q2, hmxN]
        exact hK _ _ ⟨h1.step (by simp), keepStep hk (by decide), by simpa using o1, by simpa using o2, by simpa using o3, by simpa using hmm⟩
      · refine ⟨_, rfl, fun K hK _ => ?_⟩
        have q2 := h1.at 8 rfl (hdeps 8 (by decide))
        simp only at q2
        have s5 := hdeps 5 (by decide)
        have s11 : S 11 = false := by cases h : S 11 with | false => rfl | true => rw [o2 h] at hSi; cases hSi
        have s13 : S 13 = false := by cases h : S 13 with | false => rfl | true => rw [o3 h] at s11; cases s11
        rw [hSi, s5, s11, s13] at hmm
        simp only [Bool.false_eq_true, if_false, if_true] at hmm
        subst hmm
        simp only [↓gaH, gaP, simprocAttr, q2]
        refine callK_det hcall2 ?_
        simp only [↓gaH, gaP, simprocAttr]
        exact hK _ _ ⟨h1.step (by simp), keepStep hk (by decide), by simp [s5], by simp, by simpa using o3, by simp [s11, s13]⟩
      · refine ⟨_, rfl, fun K hK _ => ?_⟩
        have q2 := h1.at 0 rfl (hdeps 0 (by decide))
        simp only at q2
        simp only [↓gaH, gaP, simprocAttr, q2]
        repeat refine And.intro (by omega) ?_
        exact hK _ _ ⟨h1.step (by simp), keepStep hk (by decide), by simpa using o1, by simpa using o2, by simpa using o3, by simpa using hmm⟩
      · refine ⟨_, rfl, fun K hK _ => ?_⟩
        have q2 := h1.at 10 rfl (hdeps 10 (by decide))
        have q3 := h1.at 5 rfl (hdeps 5 (by decide))
        simp only at q2 q3
        have s9 := hdeps 9 (by decide)
        have s13 : S 13 = false := by cases h : S 13 with | false => rfl | true => rw [o3 h] at hSi; cases hSi
        rw [hSi, s9, s13] at hmm
        simp only [Bool.false_eq_true, if_false, if_true] at hmm
        subst hmm
        simp only [↓gaH, gaP, simprocAttr, q2, q3, hq2, hz]
        repeat refine And.intro (by omega) ?_
        refine And.intro (node_cells _ _ _ _ _ _ _) ?_
        rw [← hg3]
        exact hK _ _ ⟨h1.nostep (by simp), hk, by simp [s9, hdeps 5 (by decide)], by simp [s9], by simp, by simp [s13]⟩
      · refine ⟨_, rfl, fun K hK _ => ?_⟩
        have q2 := h1.at 1 rfl (hdeps 1 (by decide))
        simp only at q2
        simp only [↓gaH, gaP, simprocAttr, q2]
        repeat refine And.intro (by omega) ?_
        exact hK _ _ ⟨h1.step (by simp), keepStep hk (by decide), by simpa using o1, by simpa using o2, by simpa using o3, by simpa using hmm⟩
      · refine ⟨_, rfl, fun K hK _ => ?_⟩
        have q2 := h1.at 11 rfl (hdeps 12 (by decide))
        have q3 := h1.at 9 rfl (hdeps 9 (by decide))
        simp only at q2 q3
        have s11 := hdeps 11 (by decide)
        rw [hSi, s11] at hmm
        simp only [Bool.false_eq_true, if_false, if_true] at hmm
        subst hmm
        simp only [↓gaH, gaP, simprocAttr, q2, q3, hq3, hl1]
        repeat refine And.intro (by omega) ?_
        refine And.intro (node_cells _ _ _ _ _ _ _) ?_
        rw [← hg4]
        exact hK _ _ ⟨h1.nostep (by simp), hk, by simpa using o1, by simpa using o2, by simp [s11], by simp⟩
      · omega
    · rintro S F mm ⟨h1, hk, o1, o2, o3, hmm⟩ hall
      have s13 := hall 13 (by decide)
      rw [s13] at hmm
      simp only [if_true] at hmm
      refine ⟨rfl, hmm, fun i => ?_⟩
      unfold kept
      split
      · exact .inl (hk i (by assumption)).symm
      · exact .inr rfl
    · exact ⟨fun p hp hs => by simp at hs, fun _ _ => rfl, by simp, by simp, by simp, by simp⟩
namespace Vr
def oct (len : Int) : Nat := ((len + 7) / 8).toNat
def bitE (v : Vp) : Fo.El := ⟨3, UInt8.ofNat (8 * (oct v.len : Int) - v.len).toNat :: v.a.take (oct v.len), .nil⟩
theorem low_small : ∀ k : Nat, k < 8 → ∀ x : Nat, x < 256 → (∀ j : Nat, j < 8 → k ≤ j → x / 2 ^ (7 - j) % 2 ≠ 1) → x % 2 ^ (8 - k) = 0 := by decide +kernel
theorem bits_ok {v : Vp} (ha : v.a.length = 16) (h : ok v.v6 v.a v.len = true) : bitsR (v.a.take (oct v.len)) v.len = .ok (bitE v) := by
  obtain ⟨h1, h2, h3⟩ := (ok_iff ha).1 h
  have hm := most_le v.v6
  have hk : ((oct v.len : Nat) : Int) = (v.len + 7) / 8 := by unfold oct; omega
  have hk16 : oct v.len ≤ 16 := by omega
  have hl : (v.a.take (oct v.len)).length = oct v.len := by rw [List.length_take, ha]; omega
  have hok : bitsOk (v.a.take (oct v.len)) v.len = true := by
    unfold bitsOk
    rw [hl]
    rw [decide_eq_true (show 0 ≤ v.len from h1), decide_eq_true (show v.len ≤ 8 * (oct v.len : Int) by omega), decide_eq_true (show 8 * (oct v.len : Int) - v.len ≤ 7 by omega)]
    simp only [Bool.true_and]
    refine decide_eq_true ?_
    by_cases h0 : oct v.len = 0
    · rw [h0]
      simp
    · have hg : (v.a.take (oct v.len)).getD (oct v.len - 1) 0 = v.a.getD (oct v.len - 1) 0 := by
        rw [List.getD_eq_getElem?_getD, List.getD_eq_getElem?_getD, List.getElem?_take_of_lt (by omega)]
      rw [hg]
      have hx := (v.a.getD (oct v.len - 1) 0).toNat_lt
      rcases Nat.lt_or_ge (v.len - 8 * ((oct v.len - 1 : Nat) : Int)).toNat 8 with h8 | h8
      · rw [show (8 * (oct v.len : Int) - v.len).toNat = 8 - (v.len - 8 * ((oct v.len - 1 : Nat) : Int)).toNat by omega]
        refine low_small _ h8 _ (by omega) fun j hj hkj => ?_
        have := h3 (8 * (oct v.len - 1) + j) (by omega) (by omega)
        unfold bit at this
        rw [show (8 * (oct v.len - 1) + j) / 8 = oct v.len - 1 by omega, show (8 * (oct v.len - 1) + j) % 8 = j by omega] at this
        exact this
      · rw [show (8 * (oct v.len : Int) - v.len).toNat = 0 by omega]
        simp [Nat.mod_one]
  unfold bitsR
  rw [if_pos hok, hl]
  rfl
end Vr
theorem Row.vpa {x q k : Nat} {g : Nat → Option Blk} {v : Vp} {ro : Bool} (ha : v.a.length = 16) (hk : k ≤ 16) (hq : q < x) (hg : g q = some (.cells (vpL v) ro)) : Row x g 1 (some ⟨q, 2, none⟩) k ((v.a.take k).map u8V) :=
  ⟨fun _ h => by injection h with h; subst h; exact .inl rfl, by simp [ha]; omega, fun _ => ⟨_, _, ro, rfl, hq, hg, by simp only [vpL_len ha]; omega, fun i hi => by
    rw [getD_u8 (by simp [ha]; omega)]
    have : (v.a.take k).getD i 0 = v.a.getD i 0 := by rw [List.getD_eq_getElem?_getD, List.getD_eq_getElem?_getD, List.getElem?_take_of_lt hi]
    rw [this]
    exact vpL_at ha (by omega)⟩⟩
theorem make_tree2 {x b y q : Nat} {g : Nat → Option Blk} {f : Regs} {v : Vp} {z : List Value} {Q : AEx → Regs → Mem → Prop} (hv : v.wf) (hok : Vr.ok v.v6 v.a v.len = true) (hb : b ≤ q) (h6 : f 6 = .pointer (some ⟨y, 0, none⟩)) (h7 : f 7 = .slice (some ⟨q, 0, none⟩) 3 3) (hy : y < q) (hq : q < x)
    (hgy : g y = some (.cells (vpL v) false)) (hgq : g q = some (.cells z false)) (hz : z.length = 9)
    (hQ : ∀ x' g' t1 B1 m1 d1 A1 n1 c1 k1, x ≤ x' → (∀ p, p < x → p ≠ q → g' p = g p) → t1 = (Vr.bitE v).t → g' q = some (.cells (z.take 3 ++ (nodeL t1 B1 m1 d1 A1 n1 c1 ++ z.drop 6)) false) →
      NdL x x' g' (Vr.bitE v) B1 m1 d1 A1 n1 c1 k1 → Q .normal (kept [0, 4, 6, 7, 12, 13, 14] f) ⟨x', b, g'⟩) :
    RC.vc Tryd.prog makeT2 f ⟨x, b, g⟩ Q := by
  obtain ⟨p1, p2, p3⟩ := (Vr.ok_iff hv.a).1 hok
  have hm := Vr.most_le v.v6
  have hk : ((Vr.oct v.len : Nat) : Int) = (v.len + 7) / 8 := by unfold Vr.oct; omega
  obtain ⟨k, ek⟩ : ∃ k, k = Vr.oct v.len := ⟨_, rfl⟩
  have hk16 : k ≤ 16 := by omega
  have w1 : IntKind.i64.wrap (v.len + 7) = v.len + 7 := i64_w _ (by omega)
  have w2 : (v.len + 7).tdiv 8 = (k : Int) := by rw [ek, hk, Int.tdiv_eq_ediv_of_nonneg (by omega)]
  have w3 : IntKind.i64.wrap (k : Int) = (k : Int) := i64_w _ (by omega)
  obtain ⟨res, M1, hC, hcall1⟩ := Fn.det (ct_Bits (many := v.len) (c := 16) (nx := x) (gt := g) (Row.vpa hv.a hk16 (by omega) hgy) (by omega) (by omega) (by omega) b (by omega)) (by show b ≤ x; omega)
  rw [ek, Vr.bits_ok hv.a hok] at hC
  obtain ⟨w1', rfl, e1, e2, e3, u, rfl, B1, m1, d1, A1, n1, c1, k1, rfl, N1⟩ := hC
  obtain ⟨x1, b1, g1⟩ := M1
  simp only at e1 e2 e3 N1
  subst e1
  have hq1 : g1 q = some (.cells z false) := by rw [e3 q (by omega), hgq]
  have hy1 : g1 y = some (.cells (vpL v) false) := by rw [e3 y (by omega), hgy]
  obtain ⟨g2, hg2⟩ : ∃ g, g = upd g1 q (some (.cells (splice z 3 (nodeL (Vr.bitE v).t B1 m1 d1 A1 n1 c1)) false)) := ⟨_, rfl⟩
  have F2 : ∀ p, p ≠ q → g2 p = g1 p := fun p hp => by rw [hg2]; simp only [upd_e]; rw [if_neg hp]
  unfold makeT2
  refine vc_tree_same ⟨kept [0, 4, 6, 7, 12, 13, 14] f, ⟨x1, b1, g2⟩, ?_, ⟨rfl, by show x ≤ x1; omega, fun p hp => ?_⟩, ?_⟩
  · refine hQ x1 g2 _ B1 m1 d1 A1 n1 c1 k1 (by omega) (fun p hp hpq => by rw [F2 p hpq, e3 p hp]) rfl ?_ ?_
    · rw [hg2]; simp only [upd_e, if_true]
      congr 2
      match z, hz with
      | [z0, z1, z2, z3, z4, z5, z6, z7, z8], _ => rfl
    · exact N1.keep (x' := x1) (g := g2) (Nat.le_refl _) fun p h1 h2 => by rw [F2 p (by omega)]
  · show g2 p = g p
    have hp' : p < b1 := hp
    rw [F2 p (by omega), e3 p (by omega)]
  · refine tree_inv2 (fun S F mm => Held [(0, 32, .slice (some ⟨q, 0, none⟩) 3 3), (1, 33, .pointer (some ⟨y, 1, none⟩)), (2, 34, .pointer (some ⟨y, 2, none⟩)), (3, 35, .pointer (some ⟨y, 1, none⟩)), (4, 36, .pointer (some ⟨y, 18, none⟩)), (5, 37, .int .i64 v.len), (6, 38, .int .i64 (v.len + 7)), (7, 39, .int .i64 (k : Nat)), (8, 40, .slice (some ⟨y, 2, none⟩) k 16), (9, 41, .pointer (some ⟨y, 1, none⟩)), (10, 42, .pointer (some ⟨y, 18, none⟩)), (11, 43, .int .i64 v.len), (12, 44, .tuple #[nodeV (Vr.bitE v).t B1 m1 d1 A1 n1 c1, .int .i64 0]), (13, 31, .tuple #[nodeV (Vr.bitE v).t B1 m1 d1 A1 n1 c1, .int .i64 0]), (14, 45, nodeV (Vr.bitE v).t B1 m1 d1 A1 n1 c1), (15, 46, .int .i64 0), (16, 47, .pointer (some ⟨q, 3, none⟩))] S F ∧
        (∀ i ∈ [0, 4, 6, 7, 12, 13, 14], F i = f i) ∧ (S 17 = true → S 12 = true) ∧ mm = if S 17 then ⟨x1, b1, g2⟩ else if S 12 then ⟨x1, b1, g1⟩ else ⟨x, b1, g⟩) rfl ?_ ?_ _ _ _ _ (by rw [lefts_zero]) ?_
    · rintro S i F mm ⟨h1, hk, o1, hmm⟩ hi hSi hdeps
      have hbm : mm.get y = some (.cells (vpL v) false) := by
        rw [hmm]
        split
        · show g2 y = _
          rw [F2 y (by omega)]; exact hy1
        split
        · exact hy1
        · exact hgy
      have k6 : F 6 = .pointer (some ⟨y, 0, none⟩) := (hk 6 (by decide)).trans h6
      have k7 : F 7 = .slice (some ⟨q, 0, none⟩) 3 3 := (hk 7 (by decide)).trans h7
      have hi' : i < 18 := hi
      rcases i with _ | _ | _ | _ | _ | _ | _ | _ | _ | _ | _ | _ | _ | _ | _ | _ | _ | _ | i
      · refine ⟨_, rfl, fun K hK _ => ?_⟩
        simp only [↓gaH, gaP, simprocAttr, k7]
        exact hK _ _ ⟨h1.step (by simp), keepStep hk (by decide), by simpa using o1, by simpa using hmm⟩
      · refine ⟨_, rfl, fun K hK _ => ?_⟩
        simp only [↓gaH, gaP, simprocAttr, k6]
        exact hK _ _ ⟨h1.step (by simp), keepStep hk (by decide), by simpa using o1, by simpa using hmm⟩
      · refine ⟨_, rfl, fun K hK _ => ?_⟩
        have q2 := h1.at 1 rfl (hdeps 1 (by decide))
        simp only at q2
        simp only [↓gaH, gaP, simprocAttr, q2]
        exact hK _ _ ⟨h1.step (by simp), keepStep hk (by decide), by simpa using o1, by simpa using hmm⟩
      · refine ⟨_, rfl, fun K hK _ => ?_⟩
        simp only [↓gaH, gaP, simprocAttr, k6]
        exact hK _ _ ⟨h1.step (by simp), keepStep hk (by decide), by simpa using o1, by simpa using hmm⟩
      · refine ⟨_, rfl, fun K hK _ => ?_⟩
        have q2 := h1.at 3 rfl (hdeps 3 (by decide))
        simp only at q2
        simp only [↓gaH, gaP, simprocAttr, q2]
        exact hK _ _ ⟨h1.step (by simp), keepStep hk (by decide), by simpa using o1, by simpa using hmm⟩
      · refine ⟨_, rfl, fun K hK _ => ?_⟩
        have q2 := h1.at 4 rfl (hdeps 4 (by decide))
        simp only at q2
        simp only [↓gaH, gaP, simprocAttr, q2, hbm, vpL_len hv.a, vpL_n hv.a]
        repeat refine And.intro (by omega) ?_
        exact hK _ _ ⟨h1.step (by simp), keepStep hk (by decide), by simpa using o1, by simpa using hmm⟩
      · refine ⟨_, rfl, fun K hK _ => ?_⟩
        have q2 := h1.at 5 rfl (hdeps 5 (by decide))
        simp only at q2
        simp only [↓gaH, gaP, simprocAttr, q2, w1]
        exact hK _ _ ⟨h1.step (by simp), keepStep hk (by decide), by simpa using o1, by simpa using hmm⟩
      · refine ⟨_, rfl, fun K hK _ => ?_⟩
        have q2 := h1.at 6 rfl (hdeps 6 (by decide))
        simp only at q2
        simp only [↓gaH, gaP, simprocAttr, q2, w2, w3]
        repeat refine And.intro (by omega) ?_
        exact hK _ _ ⟨h1.step (by simp), keepStep hk (by decide), by simpa using o1, by simpa using hmm⟩
      · refine ⟨_, rfl, fun K hK _ => ?_⟩
        have q2 := h1.at 7 rfl (hdeps 7 (by decide))
        have q3 := h1.at 2 rfl (hdeps 2 (by decide))
        simp only at q2 q3
        simp only [↓gaH, gaP, simprocAttr, q2, q3, Int.sub_zero]
        repeat refine And.intro (by omega) ?_
        exact hK _ _ ⟨h1.step (by simp), keepStep hk (by decide), by simpa using o1, by simpa using hmm⟩
      · refine ⟨_, rfl, fun K hK _ => ?_⟩
        simp only [↓gaH, gaP, simprocAttr, k6]
        exact hK _ _ ⟨h1.step (by simp), keepStep hk (by decide), by simpa using o1, by simpa using hmm⟩
      · refine ⟨_, rfl, fun K hK _ => ?_⟩
        have q2 := h1.at 9 rfl (hdeps 9 (by decide))
        simp only at q2
        simp only [↓gaH, gaP, simprocAttr, q2]
        exact hK _ _ ⟨h1.step (by simp), keepStep hk (by decide), by simpa using o1, by simpa using hmm⟩
      · refine ⟨_, rfl, fun K hK _ => ?_⟩
        have q2 := h1.at 10 rfl (hdeps 10 (by decide))
        simp only at q2
        simp only [↓gaH, gaP, simprocAttr, q2, hbm, vpL_len hv.a, vpL_n hv.a]
        repeat refine And.intro (by omega) ?_
        exact hK _ _ ⟨h1.step (by simp), keepStep hk (by decide), by simpa using o1, by simpa using hmm⟩
      · refine ⟨_, rfl, fun K hK _ => ?_⟩
        have q2 := h1.at 8 rfl (hdeps 8 (by decide))
        have q3 := h1.at 11 rfl (hdeps 11 (by decide))
        simp only at q2 q3
        have s17 : S 17 = false := by cases h : S 17 with | false => rfl | true => rw [o1 h] at hSi; cases hSi
        rw [hSi, s17] at hmm
        simp only [Bool.false_eq_true, if_false] at hmm
        subst hmm
        simp only [↓gaH, gaP, simprocAttr, q2, q3]
        refine callK_det hcall1 ?_
        simp only [↓gaH, gaP, simprocAttr]
        exact hK _ _ ⟨h1.step (by simp), keepStep hk (by decide), by simp, by simp [s17]⟩
      · refine ⟨_, rfl, fun K hK _ => ?_⟩
        have q2 := h1.at 12 rfl (hdeps 12 (by decide))
        simp only at q2
        simp only [↓gaH, gaP, simprocAttr, q2]
        exact hK _ _ ⟨h1.step (by simp), keepStep hk (by decide), by simpa using o1, by simpa using hmm⟩
      · refine ⟨_, rfl, fun K hK _ => ?_⟩
        have q2 := h1.at 13 rfl (hdeps 13 (by decide))
        simp only at q2
        simp only [↓gaH, gaP, simprocAttr, q2]
        repeat refine And.intro (by omega) ?_
        exact hK _ _ ⟨h1.step (by simp), keepStep hk (by decide), by simpa using o1, by simpa using hmm⟩
      · refine ⟨_, rfl, fun K hK _ => ?_⟩
        have q2 := h1.at 13 rfl (hdeps 13 (by decide))
        simp only at q2
        simp only [↓gaH, gaP, simprocAttr, q2]
        repeat refine And.intro (by omega) ?_
        exact hK _ _ ⟨h1.step (by simp), keepStep hk (by decide), by simpa using o1, by simpa using hmm⟩
      · refine ⟨_, rfl, fun K hK _ => ?_⟩
        have q2 := h1.at 0 rfl (hdeps 0 (by decide))
        simp only at q2
        simp only [↓gaH, gaP, simprocAttr, q2]
        repeat refine And.intro (by omega) ?_
        exact hK _ _ ⟨h1.step (by simp), keepStep hk (by decide), by simpa using o1, by simpa using hmm⟩
      · refine ⟨_, rfl, fun K hK _ => ?_⟩
        have q2 := h1.at 16 rfl (hdeps 16 (by decide))
        have q3 := h1.at 14 rfl (hdeps 14 (by decide))
        simp only at q2 q3
        have s12 := hdeps 12 (by decide)
        rw [hSi, s12] at hmm
        simp only [Bool.false_eq_true, if_false, if_true] at hmm
        subst hmm
        simp only [↓gaH, gaP, simprocAttr, q2, q3, hq1, hz]
        repeat refine And.intro (by omega) ?_
        refine And.intro (node_cells _ _ _ _ _ _ _) ?_
        rw [← hg2]
        exact hK _ _ ⟨h1.nostep (by simp), hk, by simp [s12], by simp⟩
      · omega
    · rintro S F mm ⟨h1, hk, o1, hmm⟩ hall
      have s17 := hall 17 (by decide)
      rw [s17] at hmm
      simp only [if_true] at hmm
      refine ⟨rfl, hmm, fun i => ?_⟩
      unfold kept
      split
      · exact .inl (hk i (by assumption)).symm
      · exact .inr rfl
    · exact ⟨fun p hp hs => by simp at hs, fun _ _ => rfl, by simp, by simp⟩
end Go.Ga

namespace Go.Ga
open Go Go.Proofs
set_option maxRecDepth 100000
attribute [local irreducible] appendK
namespace Vr
noncomputable def entE (v : Vp) : Fo.El := ⟨48, [], (boolE v.v6).f.app ((bitE v).f.app (intN v.mx.toNat).f)⟩
noncomputable def listF : List Vp → Fo
  | [] => .nil
  | v :: l => (entE v).f.app (listF l)
noncomputable def inE (l : List Vp) : Fo.El := ⟨48, [], listF l⟩
noncomputable def roaE (l : List Vp) : Fo.El := ⟨48, [], (intN (at' l 0).asn.toNat).f.app (inE l).f⟩
noncomputable def makeR (l : List Vp) : Except Nat (List UInt8) := if right l then Fo.wr (roaE l) else .error 1
theorem listF_app (l k : List Vp) : listF (l ++ k) = (listF l).app (listF k) := by
  induction l with
  | nil => rfl
  | cons v l ih => rw [List.cons_append, listF, listF, ih, Fo.app_assoc]
theorem listF_len (l : List Vp) : (listF l).len = l.length := by
  induction l with
  | nil => rfl
  | cons v l ih => rw [listF, Fo.len_app, ih]; simp [Fo.El.f, Fo.len]; omega
theorem listF_take {l : List Vp} {i : Nat} (h : i < l.length) : listF (l.take (i + 1)) = (listF (l.take i)).app (entE (at' l i)).f := by
  have : l.take (i + 1) = l.take i ++ [at' l i] := by
    rw [List.take_add_one, List.getElem?_eq_getElem h]
    unfold at'
    rw [List.getD_eq_getElem?_getD, List.getElem?_eq_getElem h]
    rfl
  rw [this, listF_app]
  simp only [listF, Fo.app_nil]
theorem bool_ws (b : Bool) : (boolE b).f.ws = 2 := rfl
theorem bit_ws {v : Vp} (ha : v.a.length = 16) : (bitE v).f.ws ≤ 18 := by
  simp only [bitE, Fo.El.f, Fo.ws, List.length_cons, List.length_take]; omega
theorem ent_ws {v : Vp} (ha : v.a.length = 16) (hm : v.mx.toNat < 18446744073709551616) : (entE v).f.ws ≤ 40 := by
  have h1 := bool_ws v.v6; have h2 := bit_ws ha; have h3 := intE_ws (intN_is hm)
  have : (entE v).f.ws = 1 + ((boolE v.v6).f.app ((bitE v).f.app (intN v.mx.toNat).f)).ws := by simp only [entE, Fo.El.f, Fo.ws, List.length_nil]; omega
  rw [this, Fo.ws_app, Fo.ws_app]; omega
theorem list_ws {l : List Vp} (h : ∀ v ∈ l, v.a.length = 16 ∧ v.mx.toNat < 18446744073709551616) : (listF l).ws ≤ 40 * l.length := by
  induction l with
  | nil => simp [listF, Fo.ws]
  | cons v l ih =>
    have h1 := ent_ws (h v (by simp)).1 (h v (by simp)).2
    have h2 := ih fun x hx => h x (by simp [hx])
    rw [listF, Fo.ws_app, List.length_cons]; omega
theorem roa_ws {l : List Vp} (h : ∀ v ∈ l, v.a.length = 16 ∧ v.mx.toNat < 18446744073709551616) : (roaE l).f.ws ≤ 12 + 40 * l.length := by
  have h1 := list_ws h
  have h2 := intE_ws (intN_is (n := (at' l 0).asn.toNat) (by have := (at' l 0).asn.toNat_lt; omega))
  have e1 : (inE l).f.ws = 1 + (listF l).ws := by simp only [inE, Fo.El.f, Fo.ws, List.length_nil]; omega
  have : (roaE l).f.ws = 1 + ((intN (at' l 0).asn.toNat).f.app (inE l).f).ws := by simp only [roaE, Fo.El.f, Fo.ws, List.length_nil]; omega
  rw [this, Fo.ws_app, e1]; omega
theorem right_at {l : List Vp} (h : right l = true) {i : Nat} (hi : i < l.length) : one (at' l i) = true := by
  simp only [right, Bool.and_eq_true, List.all_eq_true] at h
  have := h.1 i (List.mem_range.2 hi)
  simp only [stepR, Bool.and_eq_true] at this
  exact this.1
theorem right_as {l : List Vp} (h : right l = true) {i : Nat} (hi : i < l.length) : (at' l i).asn = (at' l 0).asn := by
  simp only [right, Bool.and_eq_true, List.all_eq_true] at h
  have := h.1 i (List.mem_range.2 hi)
  simp only [stepR, Bool.and_eq_true, decide_eq_true_eq] at this
  exact this.2.1
theorem right_len {l : List Vp} (h : right l = true) : 1 ≤ l.length ∧ l.length ≤ 400 := by
  simp only [right, Bool.and_eq_true, decide_eq_true_eq] at h
  exact h.2
theorem one_ok {v : Vp} (h : one v = true) : ok v.v6 v.a v.len = true ∧ v.len ≤ v.mx ∧ v.mx ≤ most v.v6 := by
  simpa only [one, Bool.and_eq_true, decide_eq_true_eq] using h
end Vr
section
variable {nx : Nat} {gt : Nat → Option Blk}
theorem ct_Make {A : Option Addr} {n c : Nat} {l : List Vp} (hr : VpR nx gt A n l) (hc : n ≤ c) (hn : n < 1000000) : Ct Tryd.prog 9 [.slice A n c] nx gt fun r x g => BytesV x g r (Vr.makeR l) := by
  refine Ct.ofT hmx r_roa_Make (by simp [c_roa_Make]) fun b hb => ?_
  have hl := hr.len
  simp only [c_roa_Make, ↓gaH, gaP, simprocAttr]
  refine callK_of (ct_VRight hr hc hn) (fun v x1 g1 l1 k1 hC => ?_) (by omega)
  subst hC
  cases hR : Vr.right l with
  | false =>
    simp only [↓gaH, gaP, simprocAttr, gaE, Bool.not_false]
    refine ⟨l1, k1, ?_⟩
    unfold Vr.makeR
    rw [if_neg (by rw [hR]; simp)]
    rfl
  | true =>
  have hlen := Vr.right_len hR
  simp only [↓gaH, gaP, simprocAttr, gaF, fillL, splice, Bool.not_true]
  repeat refine And.intro (by omega) ?_
  refine And.intro (node_cells _ _ _ _ _ _ _) ?_
  obtain ⟨g2, hg2⟩ : ∃ g, g = upd (upd g1 x1 (some (.cells [Value.int .i64 0, .slice none 0 0, .slice none 0 0] false))) x1 (some (.cells [Value.int .i64 48, .slice none 0 0, .slice none 0 0] false)) := ⟨_, rfl⟩
  have hp2 : g2 x1 = some (.cells (nodeL 48 none 0 0 none 0 0) false) := by rw [hg2]; simp only [upd_e, if_true]
  have F2 : ∀ p, p < nx → g2 p = gt p := fun p hp => by rw [hg2]; simp only [upd_e]; rw [if_neg (by omega), if_neg (by omega), k1 p hp]
  rw [← hg2]; clear hg2
  refine loop_of (fun j f mm => ∃ (i x hi9 : Nat) (g : Nat → Option Blk) (Ak : Option Addr) (cs : List Value), j = n - i ∧ i ≤ n ∧ f 0 = .slice A n c ∧ f 4 = .pointer (some ⟨x1, 0, none⟩) ∧ f 12 = .slice A n c ∧ f 13 = .int .i64 (n : Nat) ∧ f 14 = .int .i64 (i : Nat) ∧ mm = ⟨x, b, g⟩ ∧ x1 + 1 ≤ x ∧ (∀ p, p < nx → g p = gt p) ∧
      g x1 = some (.cells (nodeL 48 none 0 0 Ak i i) false) ∧ Own (x1 + 1) b x g 3 Ak i cs ∧ FoL (x1 + 1) hi9 g (Vr.listF (l.take i)) cs ∧ hi9 ≤ x ∧ (∀ a e, Ak = some a → a.spot = some e → hi9 ≤ a.block)) n ?_ ?_
  · exact ⟨0, x1 + 1, x1 + 1, g2, none, [], rfl, by omega, (by simp only [↓gaH, gaP, simprocAttr]; try rfl), (by simp only [↓gaH, gaP, simprocAttr]; try rfl), (by simp only [↓gaH, gaP, simprocAttr]; try rfl), (by simp only [↓gaH, gaP, simprocAttr]; try rfl), (by simp only [↓gaH, gaP, simprocAttr]; try rfl), rfl, Nat.le_refl _, F2, hp2, .nil, rfl, Nat.le_refl _, fun _ _ h => nomatch h⟩
  rintro j f mm ⟨i, x, hi9, g, Ak, cs, rfl, hi, f0, f4, f12, f13, f14, rfl, hx, F, hp, hOwn, hFo, hhi, hAk⟩
  simp only [↓gaH, gaP, simprocAttr, f13, f14]
  refine condK_dec (fun hlt => ?_) fun hge => ?_
  · have hi' : i < n := by omega
    have hRr := hr.keep (x := x) (by omega) F
    obtain ⟨a, cl, ro, rfl, e2, e3, e4, e5, e6⟩ := hRr.at (by omega)
    have hwi := hRr.wfAt hi'
    obtain ⟨hok, hlm, hmm⟩ := Vr.one_ok (Vr.right_at hR (by omega : i < l.length))
    obtain ⟨p1, p2, p3⟩ := (Vr.ok_iff hwi.a).1 hok
    have hsp : ∀ z : List Value, z.length = 20 → splice z 0 (vpL (Vr.at' l i)) = vpL (Vr.at' l i) := fun z hz => by
      unfold splice
      rw [List.take_zero, List.nil_append, Nat.zero_add, List.drop_of_length_le (by rw [hz, vpL_len hwi.a]; omega), List.append_nil]
    simp only [↓gaH, gaP, simprocAttr, f12, f14, e3, e5 i hi', hsp, vpL_len hwi.a]
    repeat refine And.intro (by omega) ?_
    refine And.intro (vpL_cells _) ?_
    obtain ⟨z, hz⟩ : ∃ z, z = List.map (fun i => [Value.int IntKind.i64 0, Value.slice none 0 0, Value.slice none 0 0].getD (i % 3) undef) (List.range 9) := ⟨_, rfl⟩
    have hzl : z.length = 9 := by rw [hz]; rfl
    rw [← hz]
    obtain ⟨g3, hg3⟩ : ∃ g', g' = upd (upd (upd g x (some (Blk.cells [Value.int .u32 0, .bool false, .int .u8 0, .int .u8 0, .int .u8 0, .int .u8 0, .int .u8 0, .int .u8 0, .int .u8 0, .int .u8 0, .int .u8 0, .int .u8 0, .int .u8 0, .int .u8 0, .int .u8 0, .int .u8 0, .int .u8 0, .int .u8 0, .int .i64 0, .int .i64 0] false))) x (some (.cells (vpL (Vr.at' l i)) false))) (x + 1) (some (.cells z false)) := ⟨_, rfl⟩
    rw [← hg3]
    have hy3 : g3 x = some (.cells (vpL (Vr.at' l i)) false) := by rw [hg3]; simp only [upd_e]; rw [if_neg (by omega)]; simp only [if_true]
    have hq3 : g3 (x + 1) = some (.cells z false) := by rw [hg3]; simp only [upd_e, if_true]
    have F3 : ∀ p, p < x → g3 p = g p := fun p hp => by rw [hg3]; simp only [upd_e]; rw [if_neg (by omega), if_neg (by omega), if_neg (by omega)]
    clear hg3 hz
    refine make_tree1 (v := Vr.at' l i) (y := x) (q := x + 1) hwi (by omega) (by omega) (by simp only [↓gaH, gaP, simprocAttr]; try rfl) (by simp only [↓gaH, gaP, simprocAttr]; try rfl) (by omega) (by omega) hy3 hq3 hzl ?_
    intro x4 g4 t1 B1 m1 d1 A1 n1 c1' k1' t3 B3 m3 d3 A3 n3 c3 k3 l4 F4 et1 et3 hq4 N1 N3
    subst et1 et3
    have e4' : ∀ {L : List Nat} {F : Regs} {i : Nat}, i ∈ L → kept L F i = F i := fun h => if_pos h
    simp only [↓gaN, vc_seq]
    have hy4 : g4 x = some (.cells (vpL (Vr.at' l i)) false) := by rw [F4 x (by omega) (by omega), hy3]
    obtain ⟨z2, hz2⟩ : ∃ z2, z2 = nodeL (boolE (Vr.at' l i).v6).t B1 m1 d1 A1 n1 c1' ++ ((z.drop 3).take 3 ++ nodeL (intN (Vr.at' l i).mx.toNat).t B3 m3 d3 A3 n3 c3) := ⟨_, rfl⟩
    rw [← hz2] at hq4
    have hz2l : z2.length = 9 := by rw [hz2]; simp [hzl]
    refine make_tree2 (v := Vr.at' l i) (y := x) (q := x + 1) hwi hok (by omega) ((e4' (by decide)).trans (by simp only [↓gaH, gaP, simprocAttr]; try rfl)) ((e4' (by decide)).trans (by simp only [↓gaH, gaP, simprocAttr]; try rfl)) (by omega) (by omega) hy4 hq4 hz2l ?_
    intro x5 g5 t2 B2 m2 d2 A2 n2 c2 k2' l5 F5 et2 hq5 N2
    subst et2
    have hkk : z2.take 3 ++ (nodeL (Vr.bitE (Vr.at' l i)).t B2 m2 d2 A2 n2 c2 ++ z2.drop 6) = nodeL (boolE (Vr.at' l i).v6).t B1 m1 d1 A1 n1 c1' ++ (nodeL (Vr.bitE (Vr.at' l i)).t B2 m2 d2 A2 n2 c2 ++ nodeL (intN (Vr.at' l i).mx.toNat).t B3 m3 d3 A3 n3 c3) := by
      rw [hz2]
      match z, hzl with
      | [z0, z1, z2, z3, z4, z5, z6, z7, z8], _ => rfl
    rw [hkk] at hq5
    obtain ⟨F', hF'⟩ : ∃ F', F' = kept [0, 4, 6, 7, 12, 13, 14] (kept [0, 4, 6, 7, 12, 13, 14] (putR (putR (putR (putR (putR (putR f (some 15) (Value.bool (decide ((i : Int) < (n : Int))))) (some 16) (Value.pointer (some ⟨a.block, a.off + i * 20, none⟩))) (some 17) (Value.agg (vpL (Vr.at' l i)).toArray)) (some 6) (Value.pointer (some ⟨x, 0, none⟩))) (some 18) (Value.slice (some ⟨x + 1, 0, none⟩) 3 3)) (some 7) (Value.slice (some ⟨x + 1, 0, none⟩) 3 3))) := ⟨_, rfl⟩
    rw [← hF']
    have v0 : F' 0 = .slice (some a) n c := by rw [hF', e4' (by decide), e4' (by decide)]; simp only [↓gaH, gaP, simprocAttr, f0]
    have v4 : F' 4 = .pointer (some ⟨x1, 0, none⟩) := by rw [hF', e4' (by decide), e4' (by decide)]; simp only [↓gaH, gaP, simprocAttr, f4]
    have v7 : F' 7 = .slice (some ⟨x + 1, 0, none⟩) 3 3 := by rw [hF', e4' (by decide), e4' (by decide)]; simp only [↓gaH, gaP, simprocAttr]
    have v12 : F' 12 = .slice (some a) n c := by rw [hF', e4' (by decide), e4' (by decide)]; simp only [↓gaH, gaP, simprocAttr, f12]
    have v13 : F' 13 = .int .i64 (n : Nat) := by rw [hF', e4' (by decide), e4' (by decide)]; simp only [↓gaH, gaP, simprocAttr, f13]
    have v14 : F' 14 = .int .i64 (i : Nat) := by rw [hF', e4' (by decide), e4' (by decide)]; simp only [↓gaH, gaP, simprocAttr, f14]
    clear hF'
    have hp5 : g5 x1 = some (.cells (nodeL 48 none 0 0 Ak i i) false) := by rw [F5 x1 (by omega) (by omega), F4 x1 (by omega) (by omega), F3 x1 (by omega), hp]
    simp only [↓gaH, gaP, Nat.reduceEqDiff, Nat.reduceLeDiff, Nat.reduceAdd, Nat.reduceSub, Nat.reduceMul, Int.reduceLT, Int.reduceLE, Int.reduceEq, Int.reduceToNat, Int.reduceAdd, Int.reduceSub, Int.reduceMul, reduceCtorEq, ↓reduceIte, gaF, fillL, splice, v4, v7, hp5]
    refine And.intro (by omega) ?_
    have hblk := hOwn.blk
    obtain ⟨g6, hg6⟩ : ∃ g', g' = upd g5 x5 (some (.cells (nodeL 48 none 0 0 (some ⟨x + 1, 0, none⟩) 3 3) false)) := ⟨_, rfl⟩
    rw [← hg6]
    have G6 : ∀ p, p < x5 → g6 p = g5 p := fun p hp => by rw [hg6]; simp only [upd_e]; rw [if_neg (by omega)]
    have c6 : g6 x5 = some (.cells (nodeL 48 none 0 0 (some ⟨x + 1, 0, none⟩) 3 3) false) := by rw [hg6]; simp only [upd_e, if_true]
    have e6' : rowOf ⟨x5 + 1, b, g6⟩ (some ⟨x5, 0, none⟩) 3 = some (nodeL 48 none 0 0 (some ⟨x + 1, 0, none⟩) 3 3) := (Row.lit (e := 1) (by omega) c6 rfl).rowOf
    have hO6 : Own (x1 + 1) b (x5 + 1) g6 3 Ak i cs := hOwn.keep (by omega) fun p hp => by rw [G6 p (by omega), F5 p (by omega) (by omega), F4 p (by omega) (by omega), F3 p hp]
    have hcsl : cs.length = i * 3 := hOwn.1
    rw [e6']
    simp only [asO_e]
    refine grow_fresh (.inl hO6) (by omega) (by omega) rfl (node_cells _ _ _ _ _ _ _) (by omega) (by omega) fun g7 k7 c7 => ?_
    have hp7 : g7 x1 = some (.cells (nodeL 48 none 0 0 Ak i i) false) := by rw [k7 x1 (by omega) (fun a e ha hs => by have := hblk a e ha hs; omega), G6 x1 (by omega), hp5]
    simp only [↓gaH, gaP, simprocAttr, gaF, fillL, splice, v14, hp7, i64_w ((i : Int) + 1) (by omega)]
    repeat refine And.intro (by omega) ?_
    refine And.intro (all1 rfl) ?_
    obtain ⟨g8, hg8⟩ : ∃ g', g' = upd g7 x1 (some (.cells [Value.int .i64 48, .slice none 0 0, .slice (some ⟨x5 + 1, 0, some 3⟩) (i + 1) (i + 1)] false)) := ⟨_, rfl⟩
    have G8 : ∀ p, p ≠ x1 → g8 p = g7 p := fun p hp => by rw [hg8]; simp only [upd_e]; rw [if_neg hp]
    have hp8 : g8 x1 = some (.cells (nodeL 48 none 0 0 (some ⟨x5 + 1, 0, some 3⟩) (i + 1) (i + 1)) false) := by rw [hg8]; simp only [upd_e, if_true]
    have low8 : ∀ p, p < x5 + 1 → p ≠ x1 → (∀ a e, Ak = some a → a.spot = some e → a.block ≠ p) → g8 p = g6 p := fun p h1 h2 h3 => by rw [G8 p h2, k7 p (by omega) h3]
    have new8 : ∀ p, x ≤ p → p < x5 + 1 → g8 p = g6 p := fun p h1 h2 => low8 p h2 (by omega) fun a e ha hs => by have := hblk a e ha hs; omega
    rw [← hg8]
    simp only [loopK_n]
    refine ⟨n - (i + 1), by omega, i + 1, x5 + 1 + 1, x5 + 1, g8, some ⟨x5 + 1, 0, some 3⟩, cs ++ nodeL 48 none 0 0 (some ⟨x + 1, 0, none⟩) 3 3, rfl, by omega, by simp only [↓gaH, gaP, simprocAttr, v0], by simp only [↓gaH, gaP, simprocAttr, v4], by simp only [↓gaH, gaP, simprocAttr, v12], by simp only [↓gaH, gaP, simprocAttr, v13], by simp only [↓gaH, gaP, simprocAttr]; rfl, rfl, by omega, fun p hp => ?_, hp8, ?_, ?_, by omega, fun a e ha hs => by injection ha with ha; subst ha; exact Nat.le_refl _⟩
    · rw [low8 p (by omega) (by omega) (fun a e ha hs => by have := hblk a e ha hs; omega), G6 p (by omega), F5 p (by omega) (by omega), F4 p (by omega) (by omega), F3 p (by omega), F p hp]
    · exact Own.of (by simp only [List.length_append, hcsl, List.length_cons, List.length_nil]; omega) (by omega) (by omega) (by omega) (by rw [G8 _ (by omega), c7])
    · rw [Vr.listF_take (by omega)]
      have hq8 : g8 (x + 1) = some (.cells (nodeL (boolE (Vr.at' l i).v6).t B1 m1 d1 A1 n1 c1' ++ (nodeL (Vr.bitE (Vr.at' l i)).t B2 m2 d2 A2 n2 c2 ++ nodeL (intN (Vr.at' l i).mx.toNat).t B3 m3 d3 A3 n3 c3)) false) := by rw [new8 _ (by omega) (by omega), G6 _ (by omega), hq5]
      have K1 := (N1.keep (x' := x5 + 1) (g := g8) (by omega) fun p h1 h2 => by rw [new8 p (by omega) (by omega), G6 p (by omega), F5 p (by omega) (by omega)]).wid (lo' := x1 + 1) (by omega)
      have K2 := (N2.keep (x' := x5 + 1) (g := g8) (by omega) fun p h1 h2 => by rw [new8 p (by omega) (by omega), G6 p (by omega)]).wid (lo' := x1 + 1) (by omega)
      have K3 := (N3.keep (x' := x5 + 1) (g := g8) (by omega) fun p h1 h2 => by rw [new8 p (by omega) (by omega), G6 p (by omega), F5 p (by omega) (by omega)]).wid (lo' := x1 + 1) (by omega)
      have hE : NdL (x1 + 1) (x5 + 1) g8 (Vr.entE (Vr.at' l i)) none 0 0 (some ⟨x + 1, 0, none⟩) 3 3 (nodeL (boolE (Vr.at' l i).v6).t B1 m1 d1 A1 n1 c1' ++ (nodeL (Vr.bitE (Vr.at' l i)).t B2 m2 d2 A2 n2 c2 ++ nodeL (intN (Vr.at' l i).mx.toNat).t B3 m3 d3 A3 n3 c3)) :=
        ⟨by simp [Vr.entE], .nil, Nat.le_refl _, ⟨Row.lit (by omega) hq8 rfl, fun _ a ha => by injection ha with ha; subst ha; simp only; omega⟩, Nat.le_refl _, rfl, FoL.app K1.one (FoL.app K2.one K3.one)⟩
      refine FoL.app (hFo.keep (by omega) fun p h1 h2 => ?_) hE.one
      rw [low8 p (by omega) (by omega) (fun a e ha hs => by have := hAk a e ha hs; omega), G6 p (by omega), F5 p (by omega) (by omega), F4 p (by omega) (by omega), F3 p (by omega)]
  · have hin : i = n := by omega
    subst hin
    have hRr := hr.keep (x := x) (by omega) F
    obtain ⟨a, cl, ro, rfl, e2, e3, e4, e5, e6⟩ := hRr.at (by omega)
    have c0 := e6 0 0 (by omega) (by omega)
    rw [vpL_0, u32V] at c0
    simp only [Nat.zero_mul, Nat.add_zero] at c0
    obtain ⟨w, hw⟩ : ∃ w, w = (Vr.at' l 0).asn.toNat := ⟨_, rfl⟩
    have hasl := (Vr.at' l 0).asn.toNat_lt
    rw [← hw] at c0 hasl
    have w1 : IntKind.u64.wrap ((w : Nat) : Int) = ((w : Nat) : Int) := by rw [u64_w]; omega
    simp only [↓gaH, gaP, simprocAttr, f0, f4, e3, c0, w1]
    repeat refine And.intro (by omega) ?_
    refine callQ_of (ct_IntN (n := w) (by omega)) (fun v x6 g6 l6 k6 hC => ?_)
    obtain ⟨B1, m1, d1, A1, n1, c1, k1', rfl, N1⟩ := hC
    have hp6 : g6 x1 = some (.cells (nodeL 48 none 0 0 Ak i i) false) := by rw [k6 x1 (by omega), hp]
    have F6 : ∀ p, p < nx → g6 p = gt p := fun p hp => by rw [k6 p (by omega), F p hp]
    simp only [↓gaH, gaP, simprocAttr, gaF, fillL, splice, f0, f4, hp6]
    repeat refine And.intro (by omega) ?_
    have htake : l.take i = l := List.take_of_length_le (by omega)
    rw [htake] at hFo
    obtain ⟨g7, hg7⟩ : ∃ g', g' = upd g6 x6 (some (.cells (nodeL (intN w).t B1 m1 d1 A1 n1 c1 ++ nodeL 48 none 0 0 Ak i i) false)) := ⟨_, rfl⟩
    have hg7' : upd g6 x6 (some (Blk.cells [Value.int .i64 (intN w).t, .slice B1 m1 d1, .slice A1 n1 c1, .int .i64 48, .slice none 0 0, .slice Ak i i] false)) = g7 := hg7.symm
    rw [hg7']
    have G7 : ∀ p, p < x6 → g7 p = g6 p := fun p hp => by rw [hg7]; simp only [upd_e]; rw [if_neg (by omega)]
    have c7 : g7 x6 = some (.cells (nodeL (intN w).t B1 m1 d1 A1 n1 c1 ++ nodeL 48 none 0 0 Ak i i) false) := by rw [hg7]; simp only [upd_e, if_true]
    have hKN := (N1.r.keep (x' := x6 + 1) (g := g7) (by omega) G7)
    have hlo : ∀ p, p < x → g7 p = g p := fun p hp => by rw [G7 p (by omega), k6 p hp]
    have hIN : NdR (x6 + 1) g7 (Vr.inE l) none 0 0 Ak i i cs :=
      ⟨by simp [Vr.inE], .nil, Nat.le_refl _, hOwn.row.keep (by omega) hlo, Nat.le_refl _, by simp only [Vr.inE]; rw [Vr.listF_len, hl], (hFo.r.keep (by omega) fun p hp => hlo p (by omega))⟩
    have hE : NdR (x6 + 1) g7 (Vr.roaE l) none 0 0 (some ⟨x6, 0, none⟩) 2 2 (nodeL (intN w).t B1 m1 d1 A1 n1 c1 ++ nodeL 48 none 0 0 Ak i i) :=
      ⟨by simp [Vr.roaE], .nil, Nat.le_refl _, Row.lit (by omega) c7 rfl, Nat.le_refl _, rfl, by
        simp only [Vr.roaE]
        rw [← hw]
        exact FoR.app hKN.one hIN.one⟩
    have hws := Vr.roa_ws (l := l) fun v hv => ⟨(hr.wf v hv).a, by have := (hr.wf v hv).mx; omega⟩
    refine callQ_of (ct_Write (x := Vr.roaE l) (by omega) hE) (fun v x8 g8 l8 k8 hC => ?_)
    have F8 : ∀ p, p < nx → g8 p = gt p := fun p hp => by rw [k8 p (by omega), G7 p (by omega), F6 p hp]
    have hmk : Vr.makeR l = Fo.wr (Vr.roaE l) := by unfold Vr.makeR; rw [if_pos hR]
    rw [hmk]
    cases hwr : Fo.wr (Vr.roaE l) with
    | error e =>
      rw [hwr] at hC
      have hC : v = _ := hC
      subst hC
      simp only [↓gaH, gaP, Nat.reduceEqDiff, Nat.reduceLeDiff, Nat.reduceAdd, Nat.reduceSub, Nat.reduceMul, Int.reduceLT, Int.reduceLE, Int.reduceEq, Int.reduceToNat, Int.reduceAdd, Int.reduceSub, Int.reduceMul, reduceCtorEq, ↓reduceIte, gaE]
      exact ⟨by omega, by omega, by omega, F8, rfl⟩
    | ok bs =>
      rw [hwr] at hC
      obtain ⟨A9, N9, rfl, q1, q2⟩ := hC
      simp only [↓gaH, gaP, Nat.reduceEqDiff, Nat.reduceLeDiff, Nat.reduceAdd, Nat.reduceSub, Nat.reduceMul, Int.reduceLT, Int.reduceLE, Int.reduceEq, Int.reduceToNat, Int.reduceAdd, Int.reduceSub, Int.reduceMul, reduceCtorEq, ↓reduceIte, gaE]
      exact ⟨by omega, by omega, by omega, F8, A9, N9, rfl, q1, q2⟩
end
end Go.Ga

namespace Go.Ga
open Go Go.Proofs
set_option maxRecDepth 100000
def oneG (cells : List Value) (n : Nat) : Option Blk := if n = 0 then some (.cells cells false) else none
theorem leaf_call1 {P : Program} {g : Nat} {o k0 c0 : Nat} {many : Int} {cells : List Value} {E : Fo.El} (hE : E.k = .nil) (hp : cells.all plain = true) (hok : o + k0 ≤ cells.length) (hkc : k0 ≤ c0)
    (hc : Ct P g [.slice (some ⟨0, o, none⟩) k0 c0, .int .i64 many] 1 (oneG cells) fun v x G => ∃ u, v = .tuple #[u, .int .i64 0] ∧ NodeIs 1 x G u E) :
    ∃ (k : Nat) (G : Nat → Option Blk) (u : Value), 1 ≤ k ∧ (∀ x b q gt, b ≤ x → q < x → gt q = some (.cells cells false) → FnEv P g [.slice (some ⟨q, o, none⟩) k0 c0, .int .i64 many] ⟨x, b, gt⟩ (.ret (.tuple #[shV (tau 1 x fun _ => q) k u, .int .i64 0])) ⟨x + (k - 1), b, shG 1 k x (fun _ => q) gt G⟩) ∧
      ∀ x q gt, NodeIs x (x + (k - 1)) (shG 1 k x (fun _ => q) gt G) (shV (tau 1 x fun _ => q) k u) E := by
  obtain ⟨res, m', hev, v, rfl, _, hnx, _, u, rfl, hN⟩ := hc 1 (Nat.le_refl _) (Nat.le_refl _)
  have hsh : ∀ τ, shV τ m'.next (.tuple #[u, .int .i64 0]) = .tuple #[shV τ m'.next u, .int .i64 0] := fun τ => by
    obtain ⟨B, n1, d1, A, n2, c2, ks, rfl, _⟩ := hN
    show Value.tuple (#[nodeV E.t B n1 d1 A n2 c2, Value.int .i64 0].map (shA τ m'.next)) = _
    have : (#[nodeV E.t B n1 d1 A n2 c2, Value.int .i64 0].map (shA τ m'.next)) = #[shA τ m'.next (nodeV E.t B n1 d1 A n2 c2), shA τ m'.next (.int .i64 0)] := by simp
    rw [this]
    rfl
  refine ⟨m'.next, m'.get, u, hnx, fun x b q gt hb hq hgq => ?_, fun x q gt => ?_⟩
  · have := hev.shift (x := x) (b := b) (gt := gt) (ι := fun _ => q) (args2 := [.slice (some ⟨q, o, none⟩) k0 c0, .int .i64 many]) hb (fun n h => hq) (fun n n' h h' _ => by omega) (fun n h => by
      have : n = 0 := by omega
      subst this
      exact ⟨hgq.symm, hp⟩) rfl (fun i => by
        rcases i with _ | _ | i
        · exact .slice ⟨Nat.zero_lt_one, rfl⟩
        · exact .same rfl
        · exact .und)
    rw [hsh] at this
    exact this
  · have hw : MemRel (fun n => if n = 0 then some (.at 0 0 cells.length) else none) ⟨1, 1, oneG cells⟩ { (default : World) with heap := #[.cells cells.toArray 0 (0, 0)] } := by
      refine ⟨Nat.le_refl _, fun n l h => ?_, fun n h => ?_, fun n cb base csz h => ?_, fun n n' cb b c b' c' h h' => ?_⟩
      · split at h
        · rename_i h0; show n < 1; omega
        · cases h
      · split at h <;> cases h
      · split at h
        · rename_i h0
          subst h0
          injection h with h; injection h with h1 h2 h3
          subst h1 h2 h3
          refine ⟨_, rfl, cells.toArray, 0, (0, 0), rfl, Nat.le_refl _, by simp, fun i hi => ?_, fun _ => .inl rfl⟩
          have e : cells.toArray.getD (0 + i) undef = cells.getD i undef := by rw [Nat.zero_add, ← toList_getD]
          rw [e]
          refine VR.of_plain ?_
          rw [List.getD_eq_getElem?_getD, List.getElem?_eq_getElem hi]
          exact List.all_eq_true.1 hp _ (List.getElem_mem hi)
        · cases h
      · split at h <;> split at h' <;> first | omega | (cases h'; done) | (cases h; done)
    obtain ⟨_, _, hcalls⟩ := hev
    have hargs : ∀ i, VR (fun n => if n = 0 then some (.at 0 0 cells.length) else none) ([Value.slice (some ⟨0, o, none⟩) k0 c0, .int .i64 many].getD i undef) ([Value.slice (some ⟨0, o, none⟩) k0 c0, .int .i64 many].toArray.getD i undef) := fun i => by
      rcases i with _ | _ | i
      · exact .slice hkc ⟨Nat.le_refl _, .inr ⟨rfl, _, rfl, fun _ _ _ h => by injection h with h1 h2 h3; exact ⟨h1, by simp only; omega⟩⟩, fun e he => (nomatch he), fun _ => rfl⟩
      · exact .int _ _
      · exact .und
    obtain ⟨e, w', fr, ⟨r', hres, hm', _⟩, _⟩ := hcalls _ _ _ hw (by simp) hargs []
    cases e with
    | returned y =>
      cases hres with
      | tuple hs h => exact hN.shift hnx hE hm' rfl (h 0)
    | panicked ch => exact hres.elim
    | outgrown => exact hres.elim
def makeT3 : RC :=
  (.tree [
  ⟨(some 25), (.op (.fieldAddr 1 (.t 6))), none⟩,
  ⟨(some 26), (.op (.fieldAddr 17 (.t 6))), none⟩,
  ⟨(some 27), (.op (.load1 (.t 26))), none⟩,
  ⟨(some 28), (.op (.bin .add (.t 27) (.k (.int .i64 7)))), none⟩,
  ⟨(some 29), (.op (.bin .quo (.t 28) (.k (.int .i64 8)))), none⟩,
  ⟨(some 30), (.op (.slArr 16 1 (.t 25) none (some (.t 29)) none)), none⟩,
  ⟨(some 31), (.op (.fieldAddr 17 (.t 6))), none⟩,
  ⟨(some 32), (.op (.load1 (.t 31))), none⟩,
  ⟨(some 33), (.call (.k (.func (.func 24) #[] #[])) [(.t 30), (.t 32)]), none⟩,
  ⟨(some 24), (.op (.mv (.t 33))), none⟩,
  ⟨(some 34), (.op (.extract (.t 24) 0)), none⟩,
  ⟨(some 35), (.op (.extract (.t 24) 1)), none⟩,
  ⟨(some 7), (.op (.new [(.int .i64 0), (.slice none 0 0), (.slice none 0 0)])), none⟩,
  ⟨none, (.op (.store 3 (.t 7) (.t 34))), none⟩,
  ⟨(some 8), (.op (.mv (.t 35))), none⟩] d_lanyardref18_Make q_lanyardref18_Make)
def t3vals (q x kk k : Nat) (len : Int) (uA uB : Value) (o : Bool) : List (Nat × Nat × Value) :=
  [(0, 25, .pointer (some ⟨q, 1, none⟩)), (1, 26, .pointer (some ⟨q, 17, none⟩)), (2, 27, .int .i64 len), (3, 28, .int .i64 (len + 7)), (4, 29, .int .i64 (k : Nat)), (5, 30, .slice (some ⟨q, 1, none⟩) k 16), (6, 31, .pointer (some ⟨q, 17, none⟩)), (7, 32, .int .i64 len),
   (8, 33, .tuple #[if o then uA else uB, .int .i64 0]), (9, 24, .tuple #[if o then uA else uB, .int .i64 0]), (10, 34, if o then uA else uB), (11, 35, .int .i64 0), (12, 7, .pointer (some ⟨if o then x + kk else x, 0, none⟩)), (14, 8, .int .i64 0)]
def t3mem (x kk : Nat) (g gA1 gA2 gA3 gB1 gB2 gB3 : Nat → Option Blk) (o s8 s12 s13 : Bool) : Mem :=
  if s13 then ⟨x + kk + 1, x, if o then gA3 else gB3⟩ else if s8 then (if s12 then ⟨x + kk + 1, x, if o then gA2 else gB2⟩ else ⟨x + kk, x, gA1⟩) else if s12 then ⟨x + 1, x, gB1⟩ else ⟨x, x, g⟩
theorem NV.node {S : Nat → Nat → Prop} {t : Int} {B B' A A' : Option Addr} {m d n c m' d' n' c' : Nat} (h : NV S (nodeV t B m d A n c) (nodeV t B' m' d' A' n' c')) : NB S (some (.cells (nodeL t B m d A n c) false)) (some (.cells (nodeL t B' m' d' A' n' c') false)) := by
  cases h with
  | same h => cases h
  | agg hs h =>
    refine ⟨rfl, rfl, fun i => ?_⟩
    have := h i
    rw [← toList_getD, ← toList_getD] at this
    exact this
theorem make_tree3 {x b q : Nat} {g : Nat → Option Blk} {f : Regs} {v : Vp} {Q : AEx → Regs → Mem → Prop} (hv : v.wf) (hok : Vr.ok v.v6 v.a v.len = true) (hb : b ≤ x) (h6 : f 6 = .pointer (some ⟨q, 0, none⟩)) (hq : q < x) (hgq : g q = some (.cells (pxL v.v6 v.a v.len) false))
    (hS : ∀ i ∈ [0, 4, 5, 6], ∀ S : Nat → Nat → Prop, (∀ a, a < x → S a a) → NV S (f i) (f i))
    (hQ : ∀ x' g' p t1 B1 m1 d1 A1 n1 c1 k1, x ≤ x' → (∀ p, p < x → g' p = g p) → x ≤ p → p < x' → t1 = (Vr.bitE v).t → g' p = some (.cells (nodeL t1 B1 m1 d1 A1 n1 c1) false) →
      NdL x x' g' (Vr.bitE v) B1 m1 d1 A1 n1 c1 k1 → Q .normal (fun i => if i = 7 then .pointer (some ⟨p, 0, none⟩) else kept [0, 4, 5, 6] f i) ⟨x', b, g'⟩) :
    RC.vc Tryd.prog makeT3 f ⟨x, b, g⟩ Q := by
  obtain ⟨p1, p2, p3⟩ := (Vr.ok_iff hv.a).1 hok
  have hm := Vr.most_le v.v6
  have hk : ((Vr.oct v.len : Nat) : Int) = (v.len + 7) / 8 := by unfold Vr.oct; omega
  obtain ⟨k, ek⟩ : ∃ k, k = Vr.oct v.len := ⟨_, rfl⟩
  have hk16 : k ≤ 16 := by omega
  have w1 : IntKind.i64.wrap (v.len + 7) = v.len + 7 := i64_w _ (by omega)
  have w2 : (v.len + 7).tdiv 8 = (k : Int) := by rw [ek, hk, Int.tdiv_eq_ediv_of_nonneg (by omega)]
  have w3 : IntKind.i64.wrap (k : Int) = (k : Int) := i64_w _ (by omega)
  have hrow : ∀ (y p : Nat) (g' : Nat → Option Blk), p < y → g' p = some (.cells (pxL v.v6 v.a v.len) false) → Row y g' 1 (some ⟨p, 1, none⟩) k ((v.a.take k).map u8V) := fun y p g' hp hg => by
    have := (Row.px hv.a hp hg).part (lo := 0) (hi := k) (by omega) hk16 rfl
    simp only [Nat.sub_zero, Nat.add_zero, List.drop_zero, ← List.map_take] at this
    exact this
  obtain ⟨K0, G, u, hK0, hcall, hnode⟩ := leaf_call1 (P := Tryd.prog) (g := 24) (o := 1) (k0 := k) (c0 := 16) (many := v.len) (cells := pxL v.v6 v.a v.len) (E := Vr.bitE v) rfl (pxL_plain _ _ _) (by rw [pxL_len hv.a]; omega) hk16 (by
    refine (ct_rBits (many := v.len) (c := 16) (nx := 1) (gt := oneG (pxL v.v6 v.a v.len)) (hrow 1 0 _ (by omega) rfl) (by omega) (by omega) (by omega)).mono fun r y g' h => ?_
    rw [ek, Vr.bits_ok hv.a hok] at h
    obtain ⟨u, h1, h2⟩ := h
    exact ⟨u, h1, h2⟩)
  obtain ⟨kk, hkk⟩ : ∃ kk, kk = K0 - 1 := ⟨_, rfl⟩
  rw [← hkk] at hcall hnode
  obtain ⟨uA, huA⟩ : ∃ w, w = shV (tau 1 x fun _ => q) K0 u := ⟨_, rfl⟩
  obtain ⟨uB, huB⟩ : ∃ w, w = shV (tau 1 (x + 1) fun _ => q) K0 u := ⟨_, rfl⟩
  obtain ⟨gA1, hA1⟩ : ∃ g', g' = shG 1 K0 x (fun _ => q) g G := ⟨_, rfl⟩
  obtain ⟨gB1, hB1⟩ : ∃ g', g' = upd g x (some (.cells [Value.int .i64 0, .slice none 0 0, .slice none 0 0] false)) := ⟨_, rfl⟩
  obtain ⟨gB2, hB2⟩ : ∃ g', g' = shG 1 K0 (x + 1) (fun _ => q) gB1 G := ⟨_, rfl⟩
  have hqB : gB1 q = some (.cells (pxL v.v6 v.a v.len) false) := by rw [hB1]; simp only [upd_e]; rw [if_neg (by omega)]; exact hgq
  have hcA := hcall x x q g (Nat.le_refl _) hq hgq
  have hcB := hcall (x + 1) x q gB1 (by omega) (by omega) hqB
  have hnA := hnode x q g
  have hnB := hnode (x + 1) q gB1
  rw [← huA, ← hA1] at hcA hnA
  rw [← huB, ← hB2] at hcB hnB
  rw [show x + 1 + kk = x + kk + 1 by omega] at hcB
  obtain ⟨BA, mA, dA, AA, nA, cA, kA, eA, NA⟩ := hnA
  obtain ⟨BB, mB, dB, AB, nB, cB, kB, eB, NB'⟩ := hnB
  have hz3 : ∀ (z : List Value) t B m d A n c, z.length = 3 → splice z 0 (nodeL t B m d A n c) = nodeL t B m d A n c := fun z t B m d A n c hz => by
    match z, hz with
    | [z0, z1, z2], _ => rfl
  obtain ⟨gA2, hA2⟩ : ∃ g', g' = upd gA1 (x + kk) (some (.cells [Value.int .i64 0, .slice none 0 0, .slice none 0 0] false)) := ⟨_, rfl⟩
  obtain ⟨gA3, hA3⟩ : ∃ g', g' = upd gA2 (x + kk) (some (.cells (nodeL (Vr.bitE v).t BA mA dA AA nA cA) false)) := ⟨_, rfl⟩
  obtain ⟨gB3, hB3⟩ : ∃ g', g' = upd gB2 x (some (.cells (nodeL (Vr.bitE v).t BB mB dB AB nB cB) false)) := ⟨_, rfl⟩
  have a1 : ∀ p, p < x → gA1 p = g p := fun p hp => by rw [hA1]; exact if_pos hp
  have b1 : ∀ p, p < x → gB1 p = g p := fun p hp => by rw [hB1]; simp only [upd_e]; rw [if_neg (by omega)]
  have b2 : ∀ p, p < x → gB2 p = g p := fun p hp => by rw [hB2]; exact (if_pos (by omega)).trans (b1 p hp)
  have a2 : ∀ p, p < x → gA2 p = g p := fun p hp => by rw [hA2]; simp only [upd_e]; rw [if_neg (by omega), a1 p hp]
  have a3 : ∀ p, p < x → gA3 p = g p := fun p hp => by rw [hA3]; simp only [upd_e]; rw [if_neg (by omega), a2 p hp]
  have b3 : ∀ p, p < x → gB3 p = g p := fun p hp => by rw [hB3]; simp only [upd_e]; rw [if_neg (by omega), b2 p hp]
  have a3x : gA3 (x + kk) = some (.cells (nodeL (Vr.bitE v).t BA mA dA AA nA cA) false) := by rw [hA3]; simp only [upd_e, if_true]
  have b3x : gB3 x = some (.cells (nodeL (Vr.bitE v).t BB mB dB AB nB cB) false) := by rw [hB3]; simp only [upd_e, if_true]
  have a3n : ∀ p, p ≠ x + kk → gA3 p = gA1 p := fun p hp => by rw [hA3, hA2]; simp only [upd_e]; rw [if_neg hp, if_neg hp]
  have b3n : ∀ p, p ≠ x → gB3 p = gB2 p := fun p hp => by rw [hB3]; simp only [upd_e]; rw [if_neg hp]
  have a2x : gA2 (x + kk) = some (.cells [Value.int .i64 0, .slice none 0 0, .slice none 0 0] false) := by rw [hA2]; simp only [upd_e, if_true]
  have b2x : gB2 x = some (.cells [Value.int .i64 0, .slice none 0 0, .slice none 0 0] false) := by rw [hB2]; refine (if_pos (by omega)).trans ?_; rw [hB1]; simp only [upd_e, if_true]
  unfold makeT3
  refine vc_tree_ren ⟨x, fun i => if i = 7 then .pointer (some ⟨x + kk, 0, none⟩) else kept [0, 4, 5, 6] f i, ⟨x + kk + 1, b, gA3⟩, hb, Nat.le_refl _, ?_, ⟨rfl, by show x ≤ x + kk + 1; omega, fun p hp => a3 p (by simp only at hp; omega)⟩, ?_⟩
  · exact hQ _ _ _ _ BA mA dA AA nA cA kA (by omega) a3 (by omega) (by omega) rfl a3x (NA.keep (by omega) fun p h1 h2 => a3n p (by omega))
  refine tree_inv2 (fun S F mm => ∃ o : Bool, (S 8 = true → S 12 = false → o = true) ∧ (S 12 = true → S 8 = false → o = false) ∧ (S 9 = true → S 8 = true) ∧ (S 10 = true → S 9 = true) ∧ (S 11 = true → S 9 = true) ∧ (S 13 = true → S 12 = true ∧ S 10 = true) ∧
      Held (t3vals q x kk k v.len uA uB o) S F ∧ (∀ i ∈ [0, 4, 5, 6], F i = f i) ∧ mm = t3mem x kk g gA1 gA2 gA3 gB1 gB2 gB3 o (S 8) (S 12) (S 13)) rfl ?_ ?_ _ _ _ _ (by rw [lefts_zero]) ?_
  · rintro S i F mm ⟨o, o1, o2, o3, o4, o5, o6, h1, hk, hmm⟩ hi hSi hdeps
    have hbm : mm.get q = some (.cells (pxL v.v6 v.a v.len) false) := by
      rw [hmm, ← hgq]
      unfold t3mem
      cases S 13 <;> cases S 8 <;> cases S 12 <;> cases o <;> simp only [if_true, Bool.false_eq_true, if_false] <;> first | rfl | exact a1 q hq | exact a2 q hq | exact a3 q hq | exact b1 q hq | exact b2 q hq | exact b3 q hq
    have k6 : F 6 = .pointer (some ⟨q, 0, none⟩) := (hk 6 (by decide)).trans h6
    have flip : ∀ o', S 8 = false → S 12 = false → Held (t3vals q x kk k v.len uA uB o') S F := fun o' h8 h12 => by
      have h9 : S 9 = false := by cases h : S 9 with | false => rfl | true => rw [o3 h] at h8; cases h8
      have h10 : S 10 = false := by cases h : S 10 with | false => rfl | true => rw [o4 h] at h9; cases h9
      have h11 : S 11 = false := by cases h : S 11 with | false => rfl | true => rw [o5 h] at h9; cases h9
      intro p hp hs
      simp only [t3vals, List.mem_cons, List.not_mem_nil, or_false] at hp
      rcases hp with rfl | rfl | rfl | rfl | rfl | rfl | rfl | rfl | rfl | rfl | rfl | rfl | rfl | rfl
      all_goals first | (simp only [h8, h9, h10, h11, h12] at hs; cases hs; done) | exact h1 _ (by simp [t3vals]) hs
    have hi' : i < 15 := hi
    rcases i with _ | _ | _ | _ | _ | _ | _ | _ | _ | _ | _ | _ | _ | _ | _ | i
    · refine ⟨_, rfl, fun K hK _ => ?_⟩
      simp only [↓gaH, gaP, simprocAttr, k6]
      exact hK _ _ ⟨o, by simpa using o1, by simpa using o2, by simpa using o3, by simpa using o4, by simpa using o5, by simpa using o6, h1.step (by simp [t3vals]), keepStep hk (by decide), by simpa using hmm⟩
    · refine ⟨_, rfl, fun K hK _ => ?_⟩
      simp only [↓gaH, gaP, simprocAttr, k6]
      exact hK _ _ ⟨o, by simpa using o1, by simpa using o2, by simpa using o3, by simpa using o4, by simpa using o5, by simpa using o6, h1.step (by simp [t3vals]), keepStep hk (by decide), by simpa using hmm⟩
    · refine ⟨_, rfl, fun K hK _ => ?_⟩
      have q2 := h1.at 1 rfl (hdeps 1 (by decide))
      simp only at q2
      simp only [↓gaH, gaP, simprocAttr, q2, hbm, pxL_len hv.a, pxL_n hv.a]
      repeat refine And.intro (by omega) ?_
      exact hK _ _ ⟨o, by simpa using o1, by simpa using o2, by simpa using o3, by simpa using o4, by simpa using o5, by simpa using o6, h1.step (by simp [t3vals]), keepStep hk (by decide), by simpa using hmm⟩
    · refine ⟨_, rfl, fun K hK _ => ?_⟩
      have q2 := h1.at 2 rfl (hdeps 2 (by decide))
      simp only at q2
      simp only [↓gaH, gaP, simprocAttr, q2, w1]
      exact hK _ _ ⟨o, by simpa using o1, by simpa using o2, by simpa using o3, by simpa using o4, by simpa using o5, by simpa using o6, h1.step (by simp [t3vals]), keepStep hk (by decide), by simpa using hmm⟩
    · refine ⟨_, rfl, fun K hK _ => ?_⟩
      have q2 := h1.at 3 rfl (hdeps 3 (by decide))
      simp only at q2
      simp only [↓gaH, gaP, simprocAttr, q2, w2, w3]
      repeat refine And.intro (by omega) ?_
      exact hK _ _ ⟨o, by simpa using o1, by simpa using o2, by simpa using o3, by simpa using o4, by simpa using o5, by simpa using o6, h1.step (by simp [t3vals]), keepStep hk (by decide), by simpa using hmm⟩
    · refine ⟨_, rfl, fun K hK _ => ?_⟩
      have q2 := h1.at 0 rfl (hdeps 0 (by decide))
      have q3 := h1.at 4 rfl (hdeps 4 (by decide))
      simp only at q2 q3
      simp only [↓gaH, gaP, simprocAttr, q2, q3, Int.sub_zero]
      repeat refine And.intro (by omega) ?_
      exact hK _ _ ⟨o, by simpa using o1, by simpa using o2, by simpa using o3, by simpa using o4, by simpa using o5, by simpa using o6, h1.step (by simp [t3vals]), keepStep hk (by decide), by simpa using hmm⟩
    · refine ⟨_, rfl, fun K hK _ => ?_⟩
      simp only [↓gaH, gaP, simprocAttr, k6]
      exact hK _ _ ⟨o, by simpa using o1, by simpa using o2, by simpa using o3, by simpa using o4, by simpa using o5, by simpa using o6, h1.step (by simp [t3vals]), keepStep hk (by decide), by simpa using hmm⟩
    · refine ⟨_, rfl, fun K hK _ => ?_⟩
      have q2 := h1.at 6 rfl (hdeps 6 (by decide))
      simp only at q2
      simp only [↓gaH, gaP, simprocAttr, q2, hbm, pxL_len hv.a, pxL_n hv.a]
      repeat refine And.intro (by omega) ?_
      exact hK _ _ ⟨o, by simpa using o1, by simpa using o2, by simpa using o3, by simpa using o4, by simpa using o5, by simpa using o6, h1.step (by simp [t3vals]), keepStep hk (by decide), by simpa using hmm⟩
    · refine ⟨_, rfl, fun K hK _ => ?_⟩
      have q2 := h1.at 5 rfl (hdeps 5 (by decide))
      have q3 := h1.at 7 rfl (hdeps 7 (by decide))
      simp only at q2 q3
      have s9 : S 9 = false := by cases h : S 9 with | false => rfl | true => rw [o3 h] at hSi; cases hSi
      have s13 : S 13 = false := by cases h : S 13 with | false => rfl | true => rw [o4 (o6 h).2] at s9; cases s9
      cases h12 : S 12 with
      | true =>
        have ho := o2 h12 hSi
        subst ho
        rw [hSi, h12, s13] at hmm
        simp only [t3mem, Bool.false_eq_true, if_false, if_true] at hmm
        subst hmm
        simp only [↓gaH, gaP, simprocAttr, q2, q3]
        refine callK_ev hcB ?_
        simp only [↓gaH, gaP, simprocAttr]
        exact hK _ _ ⟨false, by simp [h12], by simp [h12], by simp, by simpa using o4, by simpa using o5, by simpa using o6, h1.step (by simp [t3vals]), keepStep hk (by decide), by simp [t3mem, h12, s13]⟩
      | false =>
        have h1' := flip true hSi h12
        rw [hSi, h12, s13] at hmm
        simp only [t3mem, Bool.false_eq_true, if_false] at hmm
        subst hmm
        simp only [↓gaH, gaP, simprocAttr, q2, q3]
        refine callK_ev hcA ?_
        simp only [↓gaH, gaP, simprocAttr]
        exact hK _ _ ⟨true, by simp [h12], by simp [h12], by simp, by simpa using o4, by simpa using o5, by simpa using o6, h1'.step (by simp [t3vals]), keepStep hk (by decide), by simp [t3mem, h12, s13]⟩
    · refine ⟨_, rfl, fun K hK _ => ?_⟩
      have q2 := h1.at 8 rfl (hdeps 8 (by decide))
      have s8 := hdeps 8 (by decide)
      simp only at q2
      simp only [↓gaH, gaP, simprocAttr, q2]
      exact hK _ _ ⟨o, by simpa using o1, by simpa using o2, by simp [s8], by simp, by simp, by simpa using o6, h1.step (by simp [t3vals]), keepStep hk (by decide), by simpa using hmm⟩
    · refine ⟨_, rfl, fun K hK _ => ?_⟩
      have q2 := h1.at 9 rfl (hdeps 9 (by decide))
      have s9 := hdeps 9 (by decide)
      simp only at q2
      simp only [↓gaH, gaP, simprocAttr, q2]
      repeat refine And.intro (by omega) ?_
      exact hK _ _ ⟨o, by simpa using o1, by simpa using o2, by simpa using o3, by simp [s9], by simpa using o5, by simp; intro h; exact (o6 h).1, h1.step (by simp [t3vals]), keepStep hk (by decide), by simpa using hmm⟩
    · refine ⟨_, rfl, fun K hK _ => ?_⟩
      have q2 := h1.at 9 rfl (hdeps 9 (by decide))
      have s9 := hdeps 9 (by decide)
      simp only at q2
      simp only [↓gaH, gaP, simprocAttr, q2]
      repeat refine And.intro (by omega) ?_
      exact hK _ _ ⟨o, by simpa using o1, by simpa using o2, by simpa using o3, by simpa using o4, by simp [s9], by simpa using o6, h1.step (by simp [t3vals]), keepStep hk (by decide), by simpa using hmm⟩
    · refine ⟨_, rfl, fun K hK _ => ?_⟩
      have s13 : S 13 = false := by cases h : S 13 with | false => rfl | true => rw [(o6 h).1] at hSi; cases hSi
      cases h8 : S 8 with
      | true =>
        have ho := o1 h8 hSi
        subst ho
        rw [hSi, h8, s13] at hmm
        simp only [t3mem, Bool.false_eq_true, if_false, if_true] at hmm
        subst hmm
        simp only [↓gaH, gaP, simprocAttr]
        rw [← hA2]
        exact hK _ _ ⟨true, by simp, by simp [h8], by simpa using o3, by simpa using o4, by simpa using o5, by simp [s13], h1.step (by simp [t3vals]), keepStep hk (by decide), by simp [t3mem, h8, s13]⟩
      | false =>
        have h1' := flip false h8 hSi
        rw [hSi, h8, s13] at hmm
        simp only [t3mem, Bool.false_eq_true, if_false] at hmm
        subst hmm
        simp only [↓gaH, gaP, simprocAttr]
        rw [← hB1]
        exact hK _ _ ⟨false, by simp [h8], by simp, by simpa using o3, by simpa using o4, by simpa using o5, by simp [s13], h1'.step (by simp [t3vals]), keepStep hk (by decide), by simp [t3mem, h8, s13]⟩
    · refine ⟨_, rfl, fun K hK _ => ?_⟩
      have s12 := hdeps 12 (by decide)
      have s10 := hdeps 10 (by decide)
      have s8 := hdeps 8 (by decide)
      have q2 := h1.at 12 rfl s12
      have q3 := h1.at 10 rfl s10
      simp only at q2 q3
      rw [hSi, s12, s8] at hmm
      cases o with
      | true =>
        simp only [t3mem, Bool.false_eq_true, if_false, if_true] at hmm q2 q3
        subst hmm
        rw [eA] at q3
        simp only [↓gaH, gaP, simprocAttr, q2, q3, a2x, hz3]
        repeat refine And.intro (by omega) ?_
        refine And.intro (node_cells _ _ _ _ _ _ _) ?_
        rw [← hA3]
        exact hK _ _ ⟨true, by simp [s8, s12], by simp [s8, s12], by simpa using o3, by simpa using o4, by simpa using o5, by simp [s12, s10], h1.nostep (by simp [t3vals]), hk, by simp [t3mem]⟩
      | false =>
        simp only [t3mem, Bool.false_eq_true, if_false, if_true] at hmm q2 q3
        subst hmm
        rw [eB] at q3
        simp only [↓gaH, gaP, simprocAttr, q2, q3, b2x, hz3]
        repeat refine And.intro (by omega) ?_
        refine And.intro (node_cells _ _ _ _ _ _ _) ?_
        rw [← hB3]
        exact hK _ _ ⟨false, by simp [s8, s12], by simp [s8, s12], by simpa using o3, by simpa using o4, by simpa using o5, by simp [s12, s10], h1.nostep (by simp [t3vals]), hk, by simp [t3mem]⟩
    · refine ⟨_, rfl, fun K hK _ => ?_⟩
      have q2 := h1.at 11 rfl (hdeps 11 (by decide))
      simp only at q2
      simp only [↓gaH, gaP, simprocAttr, q2]
      exact hK _ _ ⟨o, by simpa using o1, by simpa using o2, by simpa using o3, by simpa using o4, by simpa using o5, by simpa using o6, h1.step (by simp [t3vals]), keepStep hk (by decide), by simpa using hmm⟩
    · omega
  · rintro S F mm ⟨o, o1, o2, o3, o4, o5, o6, h1, hk, hmm⟩ hall
    have s13 := hall 13 (by decide)
    have q7 := h1.at 12 rfl (hall 12 (by decide))
    simp only at q7
    rw [s13] at hmm
    simp only [t3mem, if_true] at hmm
    subst hmm
    have keepNV : ∀ (σ : Nat → Nat) i, i ≠ 7 → NV (renS x (x + kk + 1) σ) (kept [0, 4, 5, 6] f i) (F i) := fun σ i hi => by
      unfold kept
      split
      · rename_i hm
        rw [hk i hm]
        exact hS i hm _ fun a ha => .inl ⟨ha, rfl⟩
      · exact .bot _
    cases o with
    | true =>
      simp only [if_true] at q7 ⊢
      have hs : ∀ n, n < K0 → renS x (x + kk + 1) id (tau 1 x (fun _ => q) n) (tau 1 x (fun _ => q) n) := fun n hn => by
        unfold tau
        split
        · exact .inl ⟨hq, rfl⟩
        · exact .inr ⟨by omega, by omega, rfl⟩
      refine ⟨rfl, a3, id, fun _ _ _ => rfl, fun n h _ => h, fun n n' _ _ _ _ h => h, fun n h1 h2 => ?_, fun i => ?_⟩
      · have h2 : n < x + kk + 1 := h2
        show NB _ (gA3 n) (gA3 n)
        by_cases hn : n = x + kk
        · subst hn
          rw [a3x]
          refine NV.node ?_
          rw [← eA, huA]
          exact shV_nv hs u
        · rw [a3n n hn, hA1]
          unfold shG
          rw [if_neg (by omega)]
          exact shB_nb hs _
      · by_cases hi : i = 7
        · subst hi
          simp only [if_true]
          rw [q7]
          exact .ptr (.inr ⟨by omega, by omega, rfl⟩)
        · simp only [if_neg hi]
          exact keepNV _ i hi
    | false =>
      simp only [Bool.false_eq_true, if_false] at q7 ⊢
      obtain ⟨σ, hσ⟩ : ∃ σ : Nat → Nat, σ = fun n => if n = x + kk then x else n + 1 := ⟨_, rfl⟩
      have hσ1 : σ (x + kk) = x := by rw [hσ]; exact if_pos rfl
      have hσ2 : ∀ n, n ≠ x + kk → σ n = n + 1 := fun n hn => by rw [hσ]; exact if_neg hn
      have hs : ∀ n, n < K0 → renS x (x + kk + 1) σ (tau 1 x (fun _ => q) n) (tau 1 (x + 1) (fun _ => q) n) := fun n hn => by
        unfold tau
        split
        · exact .inl ⟨hq, rfl⟩
        · exact .inr ⟨by omega, by omega, by rw [hσ2 _ (by omega)]; omega⟩
      refine ⟨rfl, a3, σ, fun n h h' => absurd h' (by show ¬ n < x; omega), fun n h _ => ?_, fun n n' g1 g2 g3 g4 h => ?_, fun n h1 h2 => ?_, fun i => ?_⟩
      · have h : x ≤ n := h
        show x ≤ σ n
        by_cases hn : n = x + kk
        · rw [hn, hσ1]; omega
        · rw [hσ2 n hn]; omega
      · have g1 : x ≤ n := g1
        have g3 : x ≤ n' := g3
        by_cases hn : n = x + kk
        · by_cases hn' : n' = x + kk
          · omega
          · rw [hn, hσ1, hσ2 n' hn'] at h; omega
        · by_cases hn' : n' = x + kk
          · rw [hn', hσ1, hσ2 n hn] at h; omega
          · rw [hσ2 n hn, hσ2 n' hn'] at h; omega
      · have h1 : x ≤ n := h1
        have h2 : n < x + kk + 1 := h2
        show NB _ (gA3 n) (gB3 (σ n))
        by_cases hn : n = x + kk
        · subst hn
          rw [hσ1, a3x, b3x]
          refine NV.node ?_
          rw [← eA, ← eB, huA, huB]
          exact shV_nv hs u
        · rw [hσ2 n hn, a3n n hn, b3n (n + 1) (by omega), hA1, hB2]
          unfold shG
          rw [if_neg (by omega), if_neg (by omega), show n + 1 - (x + 1) + 1 = n - x + 1 by omega]
          exact shB_nb hs _
      · by_cases hi : i = 7
        · subst hi
          simp only [if_true]
          rw [q7]
          exact .ptr (.inr ⟨by omega, by omega, hσ1.symm⟩)
        · simp only [if_neg hi]
          exact keepNV _ i hi
  · exact ⟨true, by simp, by simp, by simp, by simp, by simp, by simp, fun p hp hs => by simp at hs, fun _ _ => rfl, by simp [t3mem, Mem.barAt]⟩
end Go.Ga

namespace Go.Ga
open Go Go.Proofs
set_option maxRecDepth 100000
attribute [local irreducible] appendK
section
variable {nx : Nat} {gt : Nat → Option Blk}
theorem ct_rMake {A : Option Addr} {n c : Nat} {l : List Vp} (hr : VpR nx gt A n l) (hc : n ≤ c) (hn : n < 1000000) : Ct Tryd.prog 10 [.slice A n c] nx gt fun r x g => BytesV x g r (Vr.makeR l) := by
  refine Ct.ofT hmx r_lanyardref18_Make (by simp [c_lanyardref18_Make]) fun b hb => ?_
  have hl := hr.len
  simp only [c_lanyardref18_Make, ↓gaH, gaP, simprocAttr]
  refine callK_of (ct_rVRight hr hc hn) (fun v x1 g1 l1 k1 hC => ?_) (by omega)
  subst hC
  cases hR : Vr.right l with
  | false =>
    simp only [↓gaH, gaP, simprocAttr, gaE, Bool.not_false]
    refine ⟨l1, k1, ?_⟩
    unfold Vr.makeR
    rw [if_neg (by rw [hR]; simp)]
    rfl
  | true =>
  have hlen := Vr.right_len hR
  simp only [↓gaH, gaP, simprocAttr, gaF, fillL, splice, Bool.not_true]
  repeat refine And.intro (by omega) ?_
  refine And.intro (node_cells _ _ _ _ _ _ _) ?_
  obtain ⟨g2, hg2⟩ : ∃ g, g = upd (upd g1 x1 (some (.cells [Value.int .i64 0, .slice none 0 0, .slice none 0 0] false))) x1 (some (.cells [Value.int .i64 48, .slice none 0 0, .slice none 0 0] false)) := ⟨_, rfl⟩
  have hp2 : g2 x1 = some (.cells (nodeL 48 none 0 0 none 0 0) false) := by rw [hg2]; simp only [upd_e, if_true]
  have F2 : ∀ p, p < nx → g2 p = gt p := fun p hp => by rw [hg2]; simp only [upd_e]; rw [if_neg (by omega), if_neg (by omega), k1 p hp]
  rw [← hg2]; clear hg2
  refine loop_of (fun j f mm => ∃ (i x hi9 : Nat) (g : Nat → Option Blk) (Ak : Option Addr) (cs : List Value), j = n - i ∧ i ≤ n ∧ f 0 = .slice A n c ∧ f 4 = .pointer (some ⟨x1, 0, none⟩) ∧ f 5 = .int .i64 (i : Nat) ∧ mm = ⟨x, b, g⟩ ∧ x1 + 1 ≤ x ∧ (∀ p, p < nx → g p = gt p) ∧
      g x1 = some (.cells (nodeL 48 none 0 0 Ak i i) false) ∧ Own (x1 + 1) b x g 3 Ak i cs ∧ FoL (x1 + 1) hi9 g (Vr.listF (l.take i)) cs ∧ hi9 ≤ x ∧ (∀ a e, Ak = some a → a.spot = some e → hi9 ≤ a.block)) n ?_ ?_
  · exact ⟨0, x1 + 1, x1 + 1, g2, none, [], rfl, by omega, (by simp only [↓gaH, gaP, simprocAttr]; try rfl), (by simp only [↓gaH, gaP, simprocAttr]; try rfl), (by simp only [↓gaH, gaP, simprocAttr]; try rfl), rfl, Nat.le_refl _, F2, hp2, .nil, rfl, Nat.le_refl _, fun _ _ h => nomatch h⟩
  rintro j f mm ⟨i, x, hi9, g, Ak, cs, rfl, hi, f0, f4, f5, rfl, hx, F, hp, hOwn, hFo, hhi, hAk⟩
  simp only [↓gaH, gaP, simprocAttr, f0, f5]
  refine condK_dec (fun hlt => ?_) fun hge => ?_
  · have hi' : i < n := by omega
    have hRr := hr.keep (x := x) (by omega) F
    obtain ⟨a, cl, ro, rfl, e2, e3, e4, e5, e6⟩ := hRr.at (by omega)
    have hanx : a.block < nx := by
      obtain ⟨a', _, _, ea, eb, _⟩ := hr.at (by omega)
      injection ea with ea; rw [ea]; exact eb
    have hwi := hRr.wfAt hi'
    obtain ⟨hok, hlm, hmm⟩ := Vr.one_ok (Vr.right_at hR (by omega : i < l.length))
    obtain ⟨p1, p2, p3⟩ := (Vr.ok_iff hwi.a).1 hok
    have hml := Vr.most_le (Vr.at' l i).v6
    have hpx : (cl.drop (a.off + i * 20 + 1)).take 18 = pxL (Vr.at' l i).v6 (Vr.at' l i).a (Vr.at' l i).len := by
      have := vpL_p (v := Vr.at' l i) hwi.a
      rw [← e5 i hi'] at this
      rw [List.drop_take, List.take_take, List.drop_drop] at this
      exact this
    have cm := e6 i 19 hi' (by omega)
    rw [vpL_m hwi.a] at cm
    have hsp : ∀ z : List Value, z.length = 18 → splice z 0 (pxL (Vr.at' l i).v6 (Vr.at' l i).a (Vr.at' l i).len) = pxL (Vr.at' l i).v6 (Vr.at' l i).a (Vr.at' l i).len := fun z hz => by
      unfold splice
      rw [List.take_zero, List.nil_append, Nat.zero_add, List.drop_of_length_le (by rw [hz, pxL_len hwi.a]; omega), List.append_nil]
    simp only [↓gaH, gaP, simprocAttr, f0, f5, e3, hpx, hsp, pxL_len hwi.a]
    repeat refine And.intro (by omega) ?_
    refine And.intro (pxL_cells _ _ _) ?_
    obtain ⟨g3, hg3⟩ : ∃ g', g' = upd (upd g x (some (Blk.cells [Value.bool false, .int .u8 0, .int .u8 0, .int .u8 0, .int .u8 0, .int .u8 0, .int .u8 0, .int .u8 0, .int .u8 0, .int .u8 0, .int .u8 0, .int .u8 0, .int .u8 0, .int .u8 0, .int .u8 0, .int .u8 0, .int .u8 0, .int .i64 0] false))) x (some (.cells (pxL (Vr.at' l i).v6 (Vr.at' l i).a (Vr.at' l i).len) false)) := ⟨_, rfl⟩
    rw [← hg3]
    have hy3 : g3 x = some (.cells (pxL (Vr.at' l i).v6 (Vr.at' l i).a (Vr.at' l i).len) false) := by rw [hg3]; simp only [upd_e, if_true]
    have F3 : ∀ p, p < x → g3 p = g p := fun p hp => by rw [hg3]; simp only [upd_e]; rw [if_neg (by omega), if_neg (by omega)]
    clear hg3
    refine make_tree3 (v := Vr.at' l i) (q := x) hwi hok (by omega) (by simp only [↓gaH, gaP, simprocAttr]; try rfl) (by omega) hy3 (fun j hj S hS => ?_) ?_
    · simp only [List.mem_cons, List.not_mem_nil, or_false] at hj
      rcases hj with rfl | rfl | rfl | rfl
      · simp only [↓gaH, gaP, simprocAttr, f0]; exact .slice (hS _ (by omega))
      · simp only [↓gaH, gaP, simprocAttr, f4]; exact .ptr (hS _ (by omega))
      · simp only [↓gaH, gaP, simprocAttr, f5]; exact .same rfl
      · simp only [↓gaH, gaP, simprocAttr]; exact .ptr (hS _ (by omega))
    intro x4 g4 p t2 B2 m2 d2 A2 n2 c2 k2' l4 F4 hpx4 hpx4' et2 hp4 N2
    subst et2
    have e4' : ∀ {L : List Nat} {F : Regs} {i : Nat}, i ∈ L → kept L F i = F i := fun h => if_pos h
    simp only [↓gaN, vc_seq]
    obtain ⟨F', hF'⟩ : ∃ F', F' = fun j => if j = 7 then Value.pointer (some ⟨p, 0, none⟩) else kept [0, 4, 5, 6] (putR (putR (putR (putR (putR (putR (putR (putR (putR (putR f (some 13) (Value.int .i64 (i : Nat))) (some 14) (Value.slice (some a) n c)) (some 15) (Value.int .i64 (n : Nat))) (some 16) (Value.bool (decide ((i : Int) < (n : Int))))) (some 19) (Value.slice (some a) n c)) (some 20) (Value.int .i64 (i : Nat))) (some 21) (Value.pointer (some ⟨a.block, a.off + i * 20, none⟩))) (some 22) (Value.pointer (some ⟨a.block, a.off + i * 20 + 1, none⟩))) (some 23) (Value.agg (pxL (Vr.at' l i).v6 (Vr.at' l i).a (Vr.at' l i).len).toArray)) (some 6) (Value.pointer (some ⟨x, 0, none⟩))) j := ⟨_, rfl⟩
    rw [← hF']
    have v0 : F' 0 = .slice (some a) n c := by rw [hF']; refine (if_neg (by decide)).trans ?_; rw [e4' (by decide)]; simp only [↓gaH, gaP, simprocAttr, f0]
    have v4 : F' 4 = .pointer (some ⟨x1, 0, none⟩) := by rw [hF']; refine (if_neg (by decide)).trans ?_; rw [e4' (by decide)]; simp only [↓gaH, gaP, simprocAttr, f4]
    have v5 : F' 5 = .int .i64 (i : Nat) := by rw [hF']; refine (if_neg (by decide)).trans ?_; rw [e4' (by decide)]; simp only [↓gaH, gaP, simprocAttr, f5]
    have v6 : F' 6 = .pointer (some ⟨x, 0, none⟩) := by rw [hF']; refine (if_neg (by decide)).trans ?_; rw [e4' (by decide)]; simp only [↓gaH, gaP, simprocAttr]
    have v7 : F' 7 = .pointer (some ⟨p, 0, none⟩) := by rw [hF']; exact if_pos rfl
    clear hF'
    have hp5 : g4 x1 = some (.cells (nodeL 48 none 0 0 Ak i i) false) := by rw [F4 x1 (by omega), F3 x1 (by omega), hp]
    have hy4 : g4 x = some (.cells (pxL (Vr.at' l i).v6 (Vr.at' l i).a (Vr.at' l i).len) false) := by rw [F4 x (by omega), hy3]
    have ha4 : g4 a.block = some (.cells cl ro) := by rw [F4 _ (by omega), F3 _ (by omega), e3]
    have hmxN : IntKind.u64.wrap (Vr.at' l i).mx = (((Vr.at' l i).mx.toNat : Nat) : Int) := by have := hwi.mx; rw [u64_w]; omega
    simp only [↓gaH, gaP, simprocAttr, gaF, fillL, splice, v4, v6, hp5, hy4, pxL_len hwi.a, pxL_0]
    repeat refine And.intro (by omega) ?_
    refine callQ_of (ct_rBool _) (fun w1 x5 g5 l5 k5 hC => ?_)
    obtain ⟨B1, m1, d1, A1, n1, c1', k1', rfl, N1⟩ := hC
    have hp5' : g5 p = some (.cells (nodeL (Vr.bitE (Vr.at' l i)).t B2 m2 d2 A2 n2 c2) false) := by rw [k5 p (by omega), hp4]
    have ha5 : g5 a.block = some (.cells cl ro) := by rw [k5 _ (by omega), ha4]
    simp only [↓gaH, gaP, simprocAttr, gaF, fillL, splice, v0, v5, v7, hp5', ha5, cm, hmxN]
    repeat refine And.intro (by omega) ?_
    refine callQ_of (ct_rIntN (n := (Vr.at' l i).mx.toNat) (by have := hwi.mx; omega)) (fun w3 x6 g6 l6 k6 hC => ?_)
    obtain ⟨B3, m3, d3, A3, n3, c3, k3, rfl, N3⟩ := hC
    simp only [↓gaH, gaP, simprocAttr, gaF, fillL, splice]
    repeat refine And.intro (by omega) ?_
    have hblk := hOwn.blk
    obtain ⟨g7, hg7⟩ : ∃ g', g' = upd (upd g6 x6 (some (.cells (nodeL (boolE (Vr.at' l i).v6).t B1 m1 d1 A1 n1 c1' ++ (nodeL (Vr.bitE (Vr.at' l i)).t B2 m2 d2 A2 n2 c2 ++ nodeL (intN (Vr.at' l i).mx.toNat).t B3 m3 d3 A3 n3 c3)) false))) (x6 + 1) (some (.cells (nodeL 48 none 0 0 (some ⟨x6, 0, none⟩) 3 3) false)) := ⟨_, rfl⟩
    have G7 : ∀ p, p < x6 → g7 p = g6 p := fun p hp => by rw [hg7]; simp only [upd_e]; rw [if_neg (by omega), if_neg (by omega)]
    have c7 : g7 (x6 + 1) = some (.cells (nodeL 48 none 0 0 (some ⟨x6, 0, none⟩) 3 3) false) := by rw [hg7]; simp only [upd_e, if_true]
    have c7' : g7 x6 = some (.cells (nodeL (boolE (Vr.at' l i).v6).t B1 m1 d1 A1 n1 c1' ++ (nodeL (Vr.bitE (Vr.at' l i)).t B2 m2 d2 A2 n2 c2 ++ nodeL (intN (Vr.at' l i).mx.toNat).t B3 m3 d3 A3 n3 c3)) false) := by rw [hg7]; simp only [upd_e]; rw [if_neg (by omega)]; simp only [if_true]
    have low7 : ∀ p, p < x4 → g7 p = g4 p := fun p hp => by rw [G7 p (by omega), k6 p (by omega), k5 p hp]
    have e6' : rowOf ⟨x6 + 1 + 1, b, g7⟩ (some ⟨x6 + 1, 0, none⟩) 3 = some (nodeL 48 none 0 0 (some ⟨x6, 0, none⟩) 3 3) := (Row.lit (e := 1) (by omega) c7 rfl).rowOf
    have hO7 : Own (x1 + 1) b (x6 + 1 + 1) g7 3 Ak i cs := hOwn.keep (by omega) fun p hp => by rw [low7 p (by omega), F4 p (by omega), F3 p hp]
    have hcsl : cs.length = i * 3 := hOwn.1
    have hgg : upd (upd g6 x6 (some (Blk.cells [Value.int .i64 (boolE (Vr.at' l i).v6).t, .slice B1 m1 d1, .slice A1 n1 c1', .int .i64 (Vr.bitE (Vr.at' l i)).t, .slice B2 m2 d2, .slice A2 n2 c2, .int .i64 (intN (Vr.at' l i).mx.toNat).t, .slice B3 m3 d3, .slice A3 n3 c3] false))) (x6 + 1) (some (Blk.cells [Value.int .i64 48, .slice none 0 0, .slice (some ⟨x6, 0, none⟩) 3 3] false)) = g7 := hg7.symm
    rw [hgg]
    rw [e6']
    simp only [asO_e]
    refine grow_fresh (.inl hO7) (by omega) (by omega) rfl (node_cells _ _ _ _ _ _ _) (by omega) (by omega) fun g8' k8' c8' => ?_
    have hp8' : g8' x1 = some (.cells (nodeL 48 none 0 0 Ak i i) false) := by rw [k8' x1 (by omega) (fun a e ha hs => by have := hblk a e ha hs; omega), low7 x1 (by omega), hp5]
    simp only [↓gaH, gaP, simprocAttr, gaF, fillL, splice, v4, v5, hp8', i64_w ((i : Int) + 1) (by omega)]
    repeat refine And.intro (by omega) ?_
    refine And.intro (all1 rfl) ?_
    obtain ⟨g8, hg8⟩ : ∃ g', g' = upd g8' x1 (some (.cells [Value.int .i64 48, .slice none 0 0, .slice (some ⟨x6 + 1 + 1, 0, some 3⟩) (i + 1) (i + 1)] false)) := ⟨_, rfl⟩
    have G8 : ∀ p, p ≠ x1 → g8 p = g8' p := fun p hp => by rw [hg8]; simp only [upd_e]; rw [if_neg hp]
    have hp8 : g8 x1 = some (.cells (nodeL 48 none 0 0 (some ⟨x6 + 1 + 1, 0, some 3⟩) (i + 1) (i + 1)) false) := by rw [hg8]; simp only [upd_e, if_true]
    have low8 : ∀ p, p < x6 + 1 + 1 → p ≠ x1 → (∀ a e, Ak = some a → a.spot = some e → a.block ≠ p) → g8 p = g7 p := fun p h1 h2 h3 => by rw [G8 p h2, k8' p (by omega) h3]
    have new8 : ∀ p, x ≤ p → p < x6 + 1 + 1 → g8 p = g7 p := fun p h1 h2 => low8 p h2 (by omega) fun a e ha hs => by have := hblk a e ha hs; omega
    rw [← hg8]
    simp only [loopK_n]
    refine ⟨n - (i + 1), by omega, i + 1, x6 + 1 + 1 + 1, x6 + 1 + 1, g8, some ⟨x6 + 1 + 1, 0, some 3⟩, cs ++ nodeL 48 none 0 0 (some ⟨x6, 0, none⟩) 3 3, rfl, by omega, by simp only [↓gaH, gaP, simprocAttr, v0], by simp only [↓gaH, gaP, simprocAttr, v4], by simp only [↓gaH, gaP, simprocAttr]; rfl, rfl, by omega, fun p hp => ?_, hp8, ?_, ?_, by omega, fun a e ha hs => by injection ha with ha; subst ha; exact Nat.le_refl _⟩
    · rw [low8 p (by omega) (by omega) (fun a e ha hs => by have := hblk a e ha hs; omega), low7 p (by omega), F4 p (by omega), F3 p (by omega), F p hp]
    · exact Own.of (by simp only [List.length_append, hcsl, List.length_cons, List.length_nil]; omega) (by omega) (by omega) (by omega) (by rw [G8 _ (by omega), c8'])
    · rw [Vr.listF_take (by omega)]
      have hq8 : g8 x6 = _ := (new8 x6 (by omega) (by omega)).trans c7'
      have K1 := (N1.keep (x' := x6 + 1 + 1) (g := g8) (by omega) fun p h1 h2 => by rw [new8 p (by omega) (by omega), G7 p (by omega), k6 p (by omega)]).wid (lo' := x1 + 1) (by omega)
      have K2 := (N2.keep (x' := x6 + 1 + 1) (g := g8) (by omega) fun p h1 h2 => by rw [new8 p (by omega) (by omega), low7 p (by omega)]).wid (lo' := x1 + 1) (by omega)
      have K3 := (N3.keep (x' := x6 + 1 + 1) (g := g8) (by omega) fun p h1 h2 => by rw [new8 p (by omega) (by omega), G7 p (by omega)]).wid (lo' := x1 + 1) (by omega)
      have hE : NdL (x1 + 1) (x6 + 1 + 1) g8 (Vr.entE (Vr.at' l i)) none 0 0 (some ⟨x6, 0, none⟩) 3 3 (nodeL (boolE (Vr.at' l i).v6).t B1 m1 d1 A1 n1 c1' ++ (nodeL (Vr.bitE (Vr.at' l i)).t B2 m2 d2 A2 n2 c2 ++ nodeL (intN (Vr.at' l i).mx.toNat).t B3 m3 d3 A3 n3 c3)) :=
        ⟨by simp [Vr.entE], .nil, Nat.le_refl _, ⟨Row.lit (by omega) hq8 rfl, fun _ a ha => by injection ha with ha; subst ha; simp only; omega⟩, Nat.le_refl _, rfl, FoL.app K1.one (FoL.app K2.one K3.one)⟩
      refine FoL.app (hFo.keep (by omega) fun p h1 h2 => ?_) hE.one
      rw [low8 p (by omega) (by omega) (fun a e ha hs => by have := hAk a e ha hs; omega), low7 p (by omega), F4 p (by omega), F3 p (by omega)]
  · have hin : i = n := by omega
    subst hin
    have hRr := hr.keep (x := x) (by omega) F
    obtain ⟨a, cl, ro, rfl, e2, e3, e4, e5, e6⟩ := hRr.at (by omega)
    have c0 := e6 0 0 (by omega) (by omega)
    rw [vpL_0, u32V] at c0
    simp only [Nat.zero_mul, Nat.add_zero] at c0
    obtain ⟨w, hw⟩ : ∃ w, w = (Vr.at' l 0).asn.toNat := ⟨_, rfl⟩
    have hasl := (Vr.at' l 0).asn.toNat_lt
    rw [← hw] at c0 hasl
    have w1 : IntKind.u64.wrap ((w : Nat) : Int) = ((w : Nat) : Int) := by rw [u64_w]; omega
    simp only [↓gaH, gaP, simprocAttr, f0, f4, e3, c0, w1]
    repeat refine And.intro (by omega) ?_
    refine callQ_of (ct_rIntN (n := w) (by omega)) (fun v x6 g6 l6 k6 hC => ?_)
    obtain ⟨B1, m1, d1, A1, n1, c1, k1', rfl, N1⟩ := hC
    have hp6 : g6 x1 = some (.cells (nodeL 48 none 0 0 Ak i i) false) := by rw [k6 x1 (by omega), hp]
    have F6 : ∀ p, p < nx → g6 p = gt p := fun p hp => by rw [k6 p (by omega), F p hp]
    simp only [↓gaH, gaP, simprocAttr, gaF, fillL, splice, f0, f4, hp6]
    repeat refine And.intro (by omega) ?_
    have htake : l.take i = l := List.take_of_length_le (by omega)
    rw [htake] at hFo
    obtain ⟨g7, hg7⟩ : ∃ g', g' = upd g6 x6 (some (.cells (nodeL (intN w).t B1 m1 d1 A1 n1 c1 ++ nodeL 48 none 0 0 Ak i i) false)) := ⟨_, rfl⟩
    have hg7' : upd g6 x6 (some (Blk.cells [Value.int .i64 (intN w).t, .slice B1 m1 d1, .slice A1 n1 c1, .int .i64 48, .slice none 0 0, .slice Ak i i] false)) = g7 := hg7.symm
    rw [hg7']
    have G7 : ∀ p, p < x6 → g7 p = g6 p := fun p hp => by rw [hg7]; simp only [upd_e]; rw [if_neg (by omega)]
    have c7 : g7 x6 = some (.cells (nodeL (intN w).t B1 m1 d1 A1 n1 c1 ++ nodeL 48 none 0 0 Ak i i) false) := by rw [hg7]; simp only [upd_e, if_true]
    have hKN := (N1.r.keep (x' := x6 + 1) (g := g7) (by omega) G7)
    have hlo : ∀ p, p < x → g7 p = g p := fun p hp => by rw [G7 p (by omega), k6 p hp]
    have hIN : NdR (x6 + 1) g7 (Vr.inE l) none 0 0 Ak i i cs :=
      ⟨by simp [Vr.inE], .nil, Nat.le_refl _, hOwn.row.keep (by omega) hlo, Nat.le_refl _, by simp only [Vr.inE]; rw [Vr.listF_len, hl], (hFo.r.keep (by omega) fun p hp => hlo p (by omega))⟩
    have hE : NdR (x6 + 1) g7 (Vr.roaE l) none 0 0 (some ⟨x6, 0, none⟩) 2 2 (nodeL (intN w).t B1 m1 d1 A1 n1 c1 ++ nodeL 48 none 0 0 Ak i i) :=
      ⟨by simp [Vr.roaE], .nil, Nat.le_refl _, Row.lit (by omega) c7 rfl, Nat.le_refl _, rfl, by
        simp only [Vr.roaE]
        rw [← hw]
        exact FoR.app hKN.one hIN.one⟩
    have hws := Vr.roa_ws (l := l) fun v hv => ⟨(hr.wf v hv).a, by have := (hr.wf v hv).mx; omega⟩
    refine callQ_of (ct_rWrite (x := Vr.roaE l) (by omega) hE) (fun v x8 g8 l8 k8 hC => ?_)
    have F8 : ∀ p, p < nx → g8 p = gt p := fun p hp => by rw [k8 p (by omega), G7 p (by omega), F6 p hp]
    have hmk : Vr.makeR l = Fo.wr (Vr.roaE l) := by unfold Vr.makeR; rw [if_pos hR]
    rw [hmk]
    cases hwr : Fo.wr (Vr.roaE l) with
    | error e =>
      rw [hwr] at hC
      have hC : v = _ := hC
      subst hC
      simp only [↓gaH, gaP, Nat.reduceEqDiff, Nat.reduceLeDiff, Nat.reduceAdd, Nat.reduceSub, Nat.reduceMul, Int.reduceLT, Int.reduceLE, Int.reduceEq, Int.reduceToNat, Int.reduceAdd, Int.reduceSub, Int.reduceMul, reduceCtorEq, ↓reduceIte, gaE]
      exact ⟨by omega, by omega, by omega, F8, rfl⟩
    | ok bs =>
      rw [hwr] at hC
      obtain ⟨A9, N9, rfl, q1, q2⟩ := hC
      simp only [↓gaH, gaP, Nat.reduceEqDiff, Nat.reduceLeDiff, Nat.reduceAdd, Nat.reduceSub, Nat.reduceMul, Int.reduceLT, Int.reduceLE, Int.reduceEq, Int.reduceToNat, Int.reduceAdd, Int.reduceSub, Int.reduceMul, reduceCtorEq, ↓reduceIte, gaE]
      exact ⟨by omega, by omega, by omega, F8, A9, N9, rfl, q1, q2⟩
end
end Go.Ga

namespace Go.Ga
open Go
namespace Vr
def kid : Fo → Nat → Fo.El
  | .nil, _ => ⟨0, [], .nil⟩
  | .cons t b k _, 0 => ⟨t, b, k⟩
  | .cons _ _ _ r, i + 1 => kid r i
theorem kid_app {pre post : Fo} {x : Fo.El} : kid (pre.app (.cons x.t x.b x.k post)) pre.len = x := by
  induction pre with
  | nil => rfl
  | cons t b k r _ ih => exact ih
def pad (a : List UInt8) : List UInt8 := (List.range 16).map fun i => a.getD i 0
theorem pad_len (a : List UInt8) : (pad a).length = 16 := by simp [pad]
theorem pad_at (a : List UInt8) {i : Nat} (h : i < 16) : (pad a).getD i 0 = a.getD i 0 := by simp [pad, List.getD_eq_getElem?_getD, h]
noncomputable def oneR (wa : UInt32) (x : Fo.El) : Option Vp :=
  open Classical in if x.t = 48 ∧ x.k.len = 3 ∧ (trueR (kid x.k 0)).2 = 0 ∧ (ofR (kid x.k 1)).2.2 = 0 ∧ (uintR (kid x.k 2)).2 = 0 ∧ (ofR (kid x.k 1)).1.length ≤ 16 ∧ (uintR (kid x.k 2)).1 ≤ 128
  then some ⟨wa, (trueR (kid x.k 0)).1, pad (ofR (kid x.k 1)).1, (ofR (kid x.k 1)).2.1, (uintR (kid x.k 2)).1⟩ else none
noncomputable def lenR (wa : UInt32) (x : Fo.El) : Option Vp :=
  if x.k.len = 3 then some ⟨wa, (trueR (kid x.k 0)).1, pad (ofR (kid x.k 1)).1, (ofR (kid x.k 1)).2.1, ((min (uintR (kid x.k 2)).1 1000 : Nat) : Int)⟩ else none
def goR (f : Fo.El → Option Vp) : Fo → Option (List Vp)
  | .nil => some []
  | .cons t b k r => match f ⟨t, b, k⟩ with
    | none => none
    | some v => (goR f r).map (v :: ·)
noncomputable def progR (b : List UInt8) : Except Nat (List Vp) := match Fo.rd b with
  | .error e => .error e
  | .ok n => open Classical in if n.t = 48 ∧ n.k.len = 2 ∧ (kid n.k 1).t = 48 ∧ (uintR (kid n.k 0)).2 = 0 ∧ (uintR (kid n.k 0)).1 < 4294967296 then
      match goR (oneR (UInt32.ofNat (uintR (kid n.k 0)).1)) (kid n.k 1).k with
      | none => .error 2
      | some l => if right l then .ok l else .error 2
    else .error 2
noncomputable def refR (b : List UInt8) : Except Nat (List Vp) := match Fo.rd b with
  | .error e => .error e
  | .ok n => if n.k.len = 2 then
      match goR (lenR (UInt32.ofNat (uintR (kid n.k 0)).1)) (kid n.k 1).k with
      | none => .error 2
      | some l => match makeR l with
        | .error _ => .error 2
        | .ok c => if c = b then .ok l else .error 2
    else .error 2
theorem true_ok {x : Fo.El} (h : (trueR x).2 = 0) : x = boolE (trueR x).1 := by
  unfold trueR at h ⊢
  split at h
  · rename_i h1; rw [if_pos h1]; exact h1
  · rename_i h1
    split at h
    · rename_i h2; rw [if_neg h1, if_pos h2]; exact h2
    · cases h
theorem true_bool (b : Bool) : trueR (boolE b) = (b, 0) := (trueR_is (boolE b) b (isT_bool b)).1 rfl
theorem uint_ok {x : Fo.El} (h : (uintR x).2 = 0) : x = intN (uintR x).1 ∧ (uintR x).1 < 18446744073709551616 := by
  unfold uintR at h ⊢
  split at h
  · rename_i h1
    rw [if_pos h1]
    exact ⟨intE_one h1.2 (intN_is h1.1), h1.1⟩
  · cases h
theorem uint_intN {n : Nat} (h : n < 18446744073709551616) : uintR (intN n) = (n, 0) := uint_int h (intN_is h)
theorem of_ok {x : Fo.El} (h : (ofR x).2.2 = 0) : bitsR (ofR x).1 (ofR x).2.1 = .ok x := by
  unfold ofR at h ⊢
  split at h
  · rename_i h1
    rw [if_pos h1]
    exact h1.2
  · cases h
theorem bits_in {l : List UInt8} {m : Int} {y : Fo.El} (h : bitsR l m = .ok y) : y = ⟨3, UInt8.ofNat (8 * (l.length : Int) - m).toNat :: l, .nil⟩ ∧ 0 ≤ m ∧ m ≤ 8 * (l.length : Int) ∧ 8 * (l.length : Int) - m ≤ 7 := by
  unfold bitsR at h
  split at h
  · rename_i hb
    injection h with h
    simp only [bitsOk, Bool.and_eq_true, decide_eq_true_eq] at hb
    exact ⟨h.symm, hb.1.1.1, hb.1.1.2, hb.1.2⟩
  · cases h
theorem of_bits {l : List UInt8} {m : Int} {y : Fo.El} (h : bitsR l m = .ok y) : ofR y = (l, m, 0) := by
  obtain ⟨hy, h1, h2, h3⟩ := bits_in h
  have b1 : y.b.tail = l := by rw [hy]; rfl
  have b2 : (((y.b.headD 0).toNat : Nat) : Int) = 8 * (l.length : Int) - m := by
    rw [hy]
    simp only [List.headD_cons]
    rw [UInt8.toNat_ofNat', Nat.mod_eq_of_lt (by omega)]; omega
  have b3 : y.b ≠ [] := by rw [hy]; simp
  unfold ofR
  rw [b1, b2, show 8 * (l.length : Int) - (8 * (l.length : Int) - m) = m by omega, if_pos ⟨b3, h⟩]
theorem pad_oct {a : List UInt8} {m : Int} {y : Fo.El} (h : bitsR a m = .ok y) (ha : a.length ≤ 16) : y = ⟨3, UInt8.ofNat (8 * (oct m : Int) - m).toNat :: (pad a).take (oct m), .nil⟩ := by
  obtain ⟨rfl, h1, h2, h3⟩ := bits_in h
  have ho : oct m = a.length := by unfold oct; omega
  have ht : (pad a).take a.length = a := by
    refine List.ext_getElem (by simp [pad_len]; omega) fun i hi1 hi2 => ?_
    have := pad_at a (i := i) (by omega)
    rw [List.getD_eq_getElem?_getD, List.getD_eq_getElem?_getD, List.getElem?_eq_getElem (by rw [pad_len]; omega), List.getElem?_eq_getElem hi2] at this
    simpa using this
  rw [ho, ht]
theorem three {F : Fo} (h : F.len = 3) : F = (kid F 0).f.app ((kid F 1).f.app (kid F 2).f) := by
  match F with
  | .cons t b k (.cons t1 b1 k1 (.cons t2 b2 k2 .nil)) => rfl
  | .nil => simp [Fo.len] at h
  | .cons _ _ _ .nil => simp [Fo.len] at h
  | .cons _ _ _ (.cons _ _ _ .nil) => simp [Fo.len] at h
  | .cons _ _ _ (.cons _ _ _ (.cons _ _ _ (.cons _ _ _ r))) => simp [Fo.len] at h
theorem two {F : Fo} (h : F.len = 2) : F = (kid F 0).f.app (kid F 1).f := by
  match F with
  | .cons t b k (.cons t1 b1 k1 .nil) => rfl
  | .nil => simp [Fo.len] at h
  | .cons _ _ _ .nil => simp [Fo.len] at h
  | .cons _ _ _ (.cons _ _ _ (.cons _ _ _ r)) => simp [Fo.len] at h
theorem one_ent {wa : UInt32} {x : Fo.El} {v : Vp} (hb : x.b = []) (h : oneR wa x = some v) : x = entE v ∧ v.asn = wa ∧ v.a.length = 16 := by
  unfold oneR at h
  split at h
  · rename_i hc
    obtain ⟨h1, h2, h3, h4, h5, h6, h7⟩ := hc
    injection h with h
    subst h
    refine ⟨?_, rfl, pad_len _⟩
    obtain ⟨u1, u2⟩ := uint_ok h5
    have e1 := true_ok h3
    have e2 := pad_oct (of_ok h4) h6
    obtain ⟨t, b, k⟩ := x
    simp only at hb h1 h2 h3 h4 h5 h6 h7 u1 u2 e1 e2 ⊢
    subst hb h1
    rw [entE]
    congr 1
    simp only [bitE, Int.toNat_natCast]
    rw [← e2, ← u1, ← e1]
    exact three h2
  · cases h
theorem pad_take {v : Vp} (ha : v.a.length = 16) (hok : ok v.v6 v.a v.len = true) : pad (v.a.take (oct v.len)) = v.a := by
  obtain ⟨p1, p2, p3⟩ := (ok_iff ha).1 hok
  have hm := most_le v.v6
  have hk : ((oct v.len : Nat) : Int) = (v.len + 7) / 8 := by unfold oct; omega
  refine List.ext_getElem (by rw [pad_len, ha]) fun i hi1 hi2 => ?_
  rw [pad_len] at hi1
  have e : ∀ (l : List UInt8) (h : i < l.length), l[i] = l.getD i 0 := fun l h => by simp [List.getD_eq_getElem?_getD, h]
  rw [e, e, pad_at _ hi1]
  rcases Nat.lt_or_ge i (oct v.len) with h | h
  · rw [List.getD_eq_getElem?_getD, List.getD_eq_getElem?_getD, List.getElem?_take_of_lt h]
  · have e0 : (v.a.take (oct v.len)).getD i 0 = 0 := by
      rw [List.getD_eq_getElem?_getD, List.getElem?_eq_none (by simp; omega)]; rfl
    rw [e0]
    have hx := (v.a.getD i 0).toNat_lt
    have := low_small 0 (by omega) (v.a.getD i 0).toNat (by omega) fun j hj _ => by
      have := p3 (8 * i + j) (by omega) (by omega)
      unfold bit at this
      rw [show (8 * i + j) / 8 = i by omega, show (8 * i + j) % 8 = j by omega] at this
      exact this
    have h0 : (v.a.getD i 0).toNat = 0 := by
      rw [Nat.sub_zero, Nat.mod_eq_of_lt (by omega)] at this; exact this
    exact (UInt8.toNat_inj.1 h0).symm
theorem kid_ent (v : Vp) : kid (entE v).k 0 = boolE v.v6 ∧ kid (entE v).k 1 = bitE v ∧ kid (entE v).k 2 = intN v.mx.toNat ∧ (entE v).k.len = 3 := ⟨rfl, rfl, rfl, rfl⟩
theorem ent_one {v : Vp} (ha : v.a.length = 16) (h1 : one v = true) : oneR v.asn (entE v) = some v ∧ lenR v.asn (entE v) = some v := by
  obtain ⟨hok, hl, hm⟩ := one_ok h1
  obtain ⟨p1, p2, p3⟩ := (ok_iff ha).1 hok
  have hml := most_le v.v6
  obtain ⟨k0, k1, k2, kl⟩ := kid_ent v
  have e0 := true_bool v.v6
  have e1 := of_bits (bits_ok ha hok)
  have e2 := uint_intN (n := v.mx.toNat) (by omega)
  have hpt := pad_take ha hok
  have hmx : ((v.mx.toNat : Nat) : Int) = v.mx := by omega
  constructor
  · unfold oneR
    rw [k0, k1, k2, kl, e0, e1, e2]
    rw [if_pos ⟨rfl, rfl, rfl, rfl, rfl, by simp only [List.length_take]; unfold oct; omega, by simp only; omega⟩]
    simp only [hpt, hmx]
  · unfold lenR
    rw [k0, k1, k2, kl, e0, e1, e2]
    rw [if_pos rfl]
    simp only [hpt, Nat.min_eq_left (show v.mx.toNat ≤ 1000 by omega), hmx]
theorem go_list {f : Fo.El → Option Vp} {l : List Vp} (h : ∀ v ∈ l, f (entE v) = some v) : goR f (listF l) = some l := by
  induction l with
  | nil => rfl
  | cons v l ih =>
    show goR f (.cons (entE v).t (entE v).b (entE v).k (listF l)) = _
    have : f ⟨(entE v).t, (entE v).b, (entE v).k⟩ = some v := h v (by simp)
    simp only [goR, this, ih fun x hx => h x (by simp [hx]), Option.map_some]
theorem list_go {wa : UInt32} : ∀ {F : Fo} {l : List Vp}, F.rs → goR (oneR wa) F = some l → (∀ v ∈ l, v.asn = wa ∧ v.a.length = 16) ∧ F = listF l
  | .nil, l, _, h => by
    simp only [goR, Option.some.injEq] at h
    subst h
    exact ⟨(fun _ h => nomatch h), rfl⟩
  | .cons t b k r, l, hrs, h => by
    simp only [goR] at h
    split at h
    · cases h
    · rename_i v hv
      cases hr : goR (oneR wa) r with
      | none => rw [hr] at h; cases h
      | some l' =>
        rw [hr] at h
        simp only [Option.map_some, Option.some.injEq] at h
        subst h
        obtain ⟨⟨h1, h2, h3⟩, h4, h5⟩ := hrs
        obtain ⟨i1, i2⟩ := list_go h5 hr
        have ht48 : t = 48 := by
          unfold oneR at hv
          split at hv
          · rename_i hc; exact hc.1
          · cases hv
        have hb : b = [] := h2 (by rw [ht48]; decide)
        obtain ⟨e1, e2, e3⟩ := one_ent (x := ⟨t, b, k⟩) hb hv
        refine ⟨fun w hw => ?_, ?_⟩
        · rcases List.mem_cons.1 hw with rfl | hw
          · exact ⟨e2, e3⟩
          · exact i1 w hw
        · rw [listF, ← e1, ← i2]; rfl
theorem len_go {wa : UInt32} : ∀ {F : Fo} {l : List Vp}, goR (lenR wa) F = some l → ∀ v ∈ l, v.asn = wa ∧ v.a.length = 16
  | .nil, l, h => by
    simp only [goR, Option.some.injEq] at h
    subst h
    exact fun _ h => nomatch h
  | .cons t b k r, l, h => by
    simp only [goR] at h
    split at h
    · cases h
    · rename_i v hv
      cases hr : goR (lenR wa) r with
      | none => rw [hr] at h; cases h
      | some l' =>
        rw [hr] at h
        simp only [Option.map_some, Option.some.injEq] at h
        subst h
        intro w hw
        rcases List.mem_cons.1 hw with rfl | hw
        · unfold lenR at hv
          split at hv
          · injection hv with hv
            subst hv
            exact ⟨rfl, pad_len _⟩
          · cases hv
        · exact len_go hr w hw
theorem right_mem {l : List Vp} (h : right l = true) : ∀ v ∈ l, one v = true ∧ v.asn = (at' l 0).asn := fun v hv => by
  obtain ⟨i, hi, rfl⟩ := List.mem_iff_getElem.1 hv
  have e : l[i] = at' l i := by simp [at', List.getD_eq_getElem?_getD, hi]
  rw [e]
  exact ⟨right_at h hi, right_as h hi⟩
theorem kid_roa (l : List Vp) : kid (roaE l).k 0 = intN (at' l 0).asn.toNat ∧ kid (roaE l).k 1 = inE l ∧ (roaE l).k.len = 2 := ⟨rfl, rfl, rfl⟩
theorem of_nat32 (a : UInt32) : UInt32.ofNat a.toNat = a := by simp
theorem prog_of {b : List UInt8} {l : List Vp} (ha : ∀ v ∈ l, v.a.length = 16) (hr : right l = true) (hn : Fo.rd b = .ok (roaE l)) : progR b = .ok l := by
  obtain ⟨k0, k1, kl⟩ := kid_roa l
  have hlt := (at' l 0).asn.toNat_lt
  have e0 := uint_intN (n := (at' l 0).asn.toNat) (by omega)
  unfold progR
  rw [hn]
  simp only
  rw [k0, k1, kl, e0]
  rw [if_pos ⟨rfl, rfl, rfl, rfl, by simp only; omega⟩]
  have hg : goR (oneR (UInt32.ofNat (at' l 0).asn.toNat)) (inE l).k = some l := go_list fun v hv => by
    obtain ⟨h1, h2⟩ := right_mem hr v hv
    rw [of_nat32, ← h2]
    exact (ent_one (ha v hv) h1).1
  simp only [hg, hr, if_true]
theorem ref_of {b : List UInt8} {l : List Vp} (ha : ∀ v ∈ l, v.a.length = 16) (hr : right l = true) (hn : Fo.rd b = .ok (roaE l)) : refR b = .ok l := by
  obtain ⟨k0, k1, kl⟩ := kid_roa l
  have hlt := (at' l 0).asn.toNat_lt
  have e0 := uint_intN (n := (at' l 0).asn.toNat) (by omega)
  unfold refR
  rw [hn]
  simp only
  rw [k0, k1, kl, e0, if_pos rfl]
  have hg : goR (lenR (UInt32.ofNat (at' l 0).asn.toNat)) (inE l).k = some l := go_list fun v hv => by
    obtain ⟨h1, h2⟩ := right_mem hr v hv
    rw [of_nat32, ← h2]
    exact (ent_one (ha v hv) h1).2
  have hmk : makeR l = .ok b := by unfold makeR; rw [if_pos hr]; exact Fo.wr_rd hn
  simp only [hg, hmk, if_true]
theorem prog_in {b : List UInt8} {l : List Vp} (h : progR b = .ok l) : (∀ v ∈ l, v.a.length = 16) ∧ right l = true ∧ Fo.rd b = .ok (roaE l) := by
  unfold progR at h
  split at h
  · cases h
  · rename_i n hn
    split at h
    · rename_i hc
      obtain ⟨h1, h2, h3, h4, h5⟩ := hc
      split at h
      · cases h
      · rename_i l' hg
        split at h
        · rename_i hr
          injection h with h
          subst h
          have hrs := (Fo.wr_ok (Fo.wr_rd hn)).1
          obtain ⟨t, bb, k⟩ := n
          simp only at h1 h2 h3 h4 h5 hg
          subst h1
          obtain ⟨⟨q1, q2, q3⟩, q4, q5⟩ := hrs
          have hbb : bb = [] := q2 (show Fo.has 48 = true by decide)
          subst hbb
          have htwo := two h2
          have hk1 : (kid k 1).f.rs := by
            rw [htwo] at q4
            exact ((Fo.rs_app _ _).1 q4).2
          obtain ⟨⟨r1, r2, r3⟩, r4, r5⟩ := hk1
          obtain ⟨i1, i2⟩ := list_go r4 hg
          refine ⟨fun v hv => (i1 v hv).2, hr, ?_⟩
          rw [hn]
          obtain ⟨u1, u2⟩ := uint_ok h4
          have hin : kid k 1 = inE l' := by
            have hb1 : (kid k 1).b = [] := r2 (by rw [h3]; decide)
            generalize kid k 1 = y at h3 hb1 i2
            obtain ⟨yt, yb, yk⟩ := y
            simp only at h3 hb1 i2
            subst h3 hb1 i2
            rfl
          have hlen := (right_len hr).1
          have has : (at' l' 0).asn.toNat = (uintR (kid k 0)).1 := by
            have hm : at' l' 0 ∈ l' := by
              unfold at'
              rw [List.getD_eq_getElem?_getD, List.getElem?_eq_getElem (by omega)]
              exact List.getElem_mem _
            rw [(i1 _ hm).1, UInt32.toNat_ofNat']
            omega
          congr 1
          rw [roaE, has, ← u1, ← hin]
          congr 1
        · cases h
    · cases h
theorem ref_in {b : List UInt8} {l : List Vp} (h : refR b = .ok l) : (∀ v ∈ l, v.a.length = 16) ∧ right l = true ∧ Fo.rd b = .ok (roaE l) := by
  unfold refR at h
  split at h
  · cases h
  · split at h
    · split at h
      · cases h
      · rename_i l' hg
        split at h
        · cases h
        · rename_i c hc
          split at h
          · rename_i hcb
            injection h with h
            subst h hcb
            unfold makeR at hc
            split at hc
            · rename_i hr
              exact ⟨fun v hv => (len_go hg v hv).2, hr, Fo.rd_wr hc⟩
            · cases hc
          · cases h
    · cases h
theorem prog_err {b : List UInt8} {e : Nat} (h : progR b = .error e) : (∃ e', Fo.rd b = .error e' ∧ e = e') ∨ ((∃ n, Fo.rd b = .ok n) ∧ e = 2) := by
  unfold progR at h
  split at h
  · rename_i e' he; injection h with h; exact .inl ⟨e', he, h.symm⟩
  · rename_i n hn
    refine .inr ⟨⟨n, hn⟩, ?_⟩
    repeat' split at h
    all_goals first | (injection h with h; exact h.symm) | cases h
theorem ref_err {b : List UInt8} {e : Nat} (h : refR b = .error e) : (∃ e', Fo.rd b = .error e' ∧ e = e') ∨ ((∃ n, Fo.rd b = .ok n) ∧ e = 2) := by
  unfold refR at h
  split at h
  · rename_i e' he; injection h with h; exact .inl ⟨e', he, h.symm⟩
  · rename_i n hn
    refine .inr ⟨⟨n, hn⟩, ?_⟩
    repeat' split at h
    all_goals first | (injection h with h; exact h.symm) | cases h
theorem prog_ref (b : List UInt8) : progR b = refR b := by
  cases hp : progR b with
  | ok l =>
    obtain ⟨h1, h2, h3⟩ := prog_in hp
    exact (ref_of h1 h2 h3).symm
  | error e =>
    cases hq : refR b with
    | ok l =>
      obtain ⟨h1, h2, h3⟩ := ref_in hq
      rw [prog_of h1 h2 h3] at hp
      cases hp
    | error e' =>
      rcases prog_err hp with ⟨e1, h1, rfl⟩ | ⟨⟨n, h1⟩, rfl⟩ <;> rcases ref_err hq with ⟨e2, h2, rfl⟩ | ⟨⟨n', h2⟩, rfl⟩ <;> rw [h1] at h2
      · injection h2 with h2; rw [h2]
      · cases h2
      · cases h2
end Vr
end Go.Ga

namespace Go.Ga
open Go Go.Proofs
set_option maxRecDepth 100000
theorem NdR.kid {nx : Nat} {gt : Nat → Option Blk} {x : Fo.El} {B : Option Addr} {m d : Nat} {A : Option Addr} {n c : Nat} {ks : List Value} (h : NdR nx gt x B m d A n c ks) {i : Nat} (hi : i < n) :
    ∃ (B' : Option Addr) (m' d' : Nat) (A' : Option Addr) (n' c' : Nat) (ks' : List Value), NdR nx gt (Vr.kid x.k i) B' m' d' A' n' c' ks' ∧ (ks.drop (i * 3)).take 3 = nodeL (Vr.kid x.k i).t B' m' d' A' n' c' ∧ (Vr.kid x.k i).f.ws ≤ x.k.ws := by
  obtain ⟨y, pre, post, B', m', d', A', n', c', ks', e1, e2, e3, e4⟩ := h.kids.at (i := i) (by have := h.len; omega)
  have hk : Vr.kid x.k i = y := by rw [e1, ← e2]; exact Vr.kid_app
  rw [hk]
  exact ⟨B', m', d', A', n', c', ks', e3, e4, Fo.ws_in e1⟩
def vp0 : Vp := ⟨0, false, List.replicate 16 0, 0, 0⟩
theorem vp0_wf : vp0.wf := ⟨rfl, by decide, by decide⟩
theorem vp0_L : vpL vp0 = [.int .u32 0, .bool false, .int .u8 0, .int .u8 0, .int .u8 0, .int .u8 0, .int .u8 0, .int .u8 0, .int .u8 0, .int .u8 0, .int .u8 0, .int .u8 0, .int .u8 0, .int .u8 0, .int .u8 0, .int .u8 0, .int .u8 0, .int .u8 0, .int .i64 0, .int .i64 0] := rfl
def OneV (r : Value) : Option Vp → Prop
  | none => ∃ v, v.wf ∧ r = .tuple #[vpV v, .bool false]
  | some v => v.wf ∧ r = .tuple #[vpV v, .bool true]
theorem pad_eq {l : List UInt8} (h : l.length ≤ 16) : Vr.pad l = l ++ List.replicate (16 - l.length) 0 := by
  refine List.ext_getElem (by simp [Vr.pad_len]; omega) fun i h1 h2 => ?_
  rw [Vr.pad_len] at h1
  have e : ∀ (k : List UInt8) (h : i < k.length), k[i] = k.getD i 0 := fun k h => by simp [List.getD_eq_getElem?_getD, h]
  rw [e, e, Vr.pad_at _ h1]
  rw [List.getD_eq_getElem?_getD, List.getD_eq_getElem?_getD]
  rcases Nat.lt_or_ge i l.length with h3 | h3
  · rw [List.getElem?_append_left h3]
  · rw [List.getElem?_append_right h3, List.getElem?_eq_none h3, List.getElem?_replicate, if_pos (by omega)]; rfl
theorem splice_pad {wa : UInt32} {v6 : Bool} {l : List UInt8} {m t : Int} (h : l.length ≤ 16) : splice (vpL ⟨wa, v6, List.replicate 16 0, m, t⟩) 2 (l.map u8V) = vpL ⟨wa, v6, Vr.pad l, m, t⟩ := by
  rw [pad_eq h]
  simp only [vpL, pxL, splice, List.length_map, List.cons_append, List.take_succ_cons, List.take_zero, List.nil_append, Nat.add_comm 2, List.drop_succ_cons, List.map_append, List.append_assoc]
  rw [List.drop_append_of_le_length (by simp; omega)]
  rw [← List.map_drop, List.drop_replicate]
theorem vp0_u8 {i : Nat} {y : UInt8} {wa : UInt32} {v6 : Bool} {m t : Int} (h : (vpL vp0).getD i undef = u8V y) : (vpL ⟨wa, v6, List.replicate 16 0, m, t⟩).getD i undef = u8V y := by
  have hi : i < 20 ∨ 20 ≤ i := by omega
  rcases hi with hi | hi
  · have : i = 0 ∨ i = 1 ∨ i = 18 ∨ i = 19 ∨ (2 ≤ i ∧ i < 18) := by omega
    rcases this with rfl | rfl | rfl | rfl | ⟨h1, h2⟩
    · cases h
    · cases h
    · cases h
    · cases h
    · have a1 := vpL_at (v := vp0) rfl (i := i - 2) (by omega)
      have a2 := vpL_at (v := ⟨wa, v6, List.replicate 16 0, m, t⟩) (by simp) (i := i - 2) (by omega)
      rw [show 2 + (i - 2) = i by omega] at a1 a2
      rw [a2, ← h, a1]
      rfl
  · rw [List.getD_eq_getElem?_getD, List.getElem?_eq_none (by rw [vpL_len rfl]; exact hi)] at h
    cases h
section
variable {nx : Nat} {gt : Nat → Option Blk}
theorem ct_one {x : Fo.El} {B : Option Addr} {m d : Nat} {A : Option Addr} {n c : Nat} {ks : List Value} {wa : UInt32} (h : NdR nx gt x B m d A n c ks) (hxw : x.f.ws < 900000) :
    Ct Tryd.prog 30 [nodeV x.t B m d A n c, u32V wa] nx gt fun r _ _ => OneV r (Vr.oneR wa x) := by
  refine Ct.of hmx r_roa_one (by simp [c_roa_one]) fun b hb => ?_
  have hnn : (nx = nx + 1) = False := by simp
  have hn1 : (nx + 1 = nx) = False := by simp
  have xw : x.f.ws = 1 + x.b.length + x.k.ws := by simp only [Fo.El.f, Fo.ws]; omega
  have hkl := h.len
  have htz : (vpL vp0).take 20 = vpL vp0 := List.take_of_length_le (by rw [vpL_len vp0_wf.a]; omega)
  have hspz : splice (vpL vp0) 0 (vpL vp0) = vpL vp0 := rfl
  simp only [c_roa_one, ↓gaH, gaP, Nat.reduceEqDiff, Nat.reduceLeDiff, Nat.reduceAdd, Nat.reduceSub, Nat.reduceMul, Int.reduceLT, Int.reduceLE, Int.reduceEq, Int.reduceToNat, Int.reduceAdd, Int.reduceSub, Int.reduceMul, reduceCtorEq, ↓reduceIte, gaF, fillL, splice, gaU, hnn]
  refine And.intro (by omega) ?_
  rw [← vp0_L]
  obtain ⟨g3, hg3⟩ : ∃ g', g' = upd (upd gt nx (some (.cells [Value.int .i64 x.t, .slice B m d, .slice A n c] false))) (nx + 1) (some (.cells (vpL vp0) false)) := ⟨_, rfl⟩
  rw [← hg3]
  have hb3 : g3 nx = some (.cells (nodeL x.t B m d A n c) false) := by rw [hg3]; simp only [upd_e, hnn, if_false, if_true]
  have hz3 : g3 (nx + 1) = some (.cells (vpL vp0) false) := by rw [hg3]; simp only [upd_e, if_true]
  have H3 : ∀ p, p < nx → g3 p = gt p := fun p hp => by rw [hg3]; simp only [upd_e]; rw [if_neg (by omega), if_neg (by omega)]
  clear hg3
  by_cases ht : x.t = 48
  case neg =>
    have e : Vr.oneR wa x = none := by unfold Vr.oneR; rw [if_neg fun hc => ht hc.1]
    simp only [↓gaH, gaP, simprocAttr, ht, not_false_eq_true, decide_true, e]
    simp only [↓gaH, gaP, simprocAttr, hz3, vpL_len vp0_wf.a, List.drop_zero, htz, hspz]
    repeat refine And.intro (by omega) ?_
    refine And.intro (vpL_cells _) ?_
    rw [end_r, res_cN (q := nx + 1) (o := 0) (s := none) (c := vpL vp0) (ro := false) (by simp only [↓gaH, gaP, simprocAttr]) (by simp only [upd_e, if_true]) (by rw [vpL_len vp0_wf.a]; omega)]
    simp only [↓gaH, gaP, simprocAttr, res_t, res_nil, Option.map_some, asO_e, one2, List.drop_zero, htz]
    exact ⟨by omega, fun p hp => by rw [if_neg (by omega), H3 p hp], _, vp0_wf, rfl⟩
  by_cases hn : (n : Int) = 3
  case neg =>
    have e : Vr.oneR wa x = none := by unfold Vr.oneR; rw [if_neg fun hc => hn (by rw [hkl, hc.2.1]; rfl)]
    simp only [↓gaH, gaP, simprocAttr, List.getD_cons_zero, List.getD_cons_succ, ht, hb3, hn, not_true_eq_false, not_false_eq_true, decide_true, decide_false, e, nodeL]
    repeat refine And.intro (by omega) ?_
    simp only [↓gaH, gaP, simprocAttr, hz3, vpL_len vp0_wf.a, List.drop_zero, htz, hspz]
    repeat refine And.intro (by omega) ?_
    refine And.intro (vpL_cells _) ?_
    rw [end_r, res_cN (q := nx + 1) (o := 0) (s := none) (c := vpL vp0) (ro := false) (by simp only [↓gaH, gaP, simprocAttr]) (by simp only [upd_e, if_true]) (by rw [vpL_len vp0_wf.a]; omega)]
    simp only [↓gaH, gaP, simprocAttr, res_t, res_nil, Option.map_some, asO_e, one2, List.drop_zero, htz]
    exact ⟨by omega, fun p hp => by rw [if_neg (by omega), H3 p hp], _, vp0_wf, rfl⟩
  have hn3 : n = 3 := by omega
  subst hn3
  obtain ⟨a, cl, ro, rfl, r2, r3, r4, r5⟩ := h.row.cells (by omega)
  obtain ⟨B0, m0, d0, A0, n0, c0, ks0, N0, q0, ws0⟩ := h.kid (i := 0) (by omega)
  obtain ⟨B1, m1, d1, A1, n1, c1, ks1, N1, q1, ws1⟩ := h.kid (i := 1) (by omega)
  obtain ⟨B2, m2, d2, A2, n2, c2, ks2, N2, q2, ws2⟩ := h.kid (i := 2) (by omega)
  have t0 := (h.row.load rfl r3 (j := 0 * 3) (k := 3) (by omega) (by omega)).trans q0
  have t1 := (h.row.load rfl r3 (j := 1 * 3) (k := 3) (by omega) (by omega)).trans q1
  have t2 := (h.row.load rfl r3 (j := 2 * 3) (k := 3) (by omega) (by omega)).trans q2
  simp only [Nat.zero_mul, Nat.add_zero, Nat.one_mul, Nat.reduceMul] at t0 t1 t2
  have hcl3 : g3 a.block = some (.cells cl ro) := by rw [H3 _ r2, r3]
  have M0 := N0.keep (x' := nx + 1 + 1) (g := g3) (by omega) H3
  simp only [↓gaH, gaP, simprocAttr, gaF, fillL, splice, ht, hb3, nodeL, not_true_eq_false, decide_true, decide_false, hcl3, t0]
  repeat refine And.intro (by omega) ?_
  refine callK_of (ct_True M0 (by omega)) (fun v x4 g4 l4 k4 hC => ?_) (by omega)
  subst hC
  have hb4 : g4 nx = some (.cells [Value.int .i64 x.t, .slice B m d, .slice (some a) 3 c] false) := by rw [k4 nx (by omega), hb3]
  have hz4 : g4 (nx + 1) = some (.cells (vpL vp0) false) := by rw [k4 (nx + 1) (by omega), hz3]
  have hcl4 : g4 a.block = some (.cells cl ro) := by rw [k4 _ (by omega), hcl3]
  have H4 : ∀ p, p < nx → g4 p = gt p := fun p hp => by rw [k4 p (by omega), H3 p hp]
  have M1 := N1.keep (x' := x4) (g := g4) (by omega) H4
  simp only [↓gaH, gaP, simprocAttr, gaF, fillL, splice, hb4, hcl4, t1]
  repeat refine And.intro (by omega) ?_
  refine callK_of (ct_Of M1 (by omega)) (fun v x5 g5 l5 k5 hC => ?_) (by omega)
  obtain ⟨u, rfl, Au, nu, cu, rfl, hcu, hlu, ru⟩ := hC
  have hb5 : g5 nx = some (.cells [Value.int .i64 x.t, .slice B m d, .slice (some a) 3 c] false) := by rw [k5 nx (by omega), hb4]
  have hz5 : g5 (nx + 1) = some (.cells (vpL vp0) false) := by rw [k5 (nx + 1) (by omega), hz4]
  have hcl5 : g5 a.block = some (.cells cl ro) := by rw [k5 _ (by omega), hcl4]
  have H5 : ∀ p, p < nx → g5 p = gt p := fun p hp => by rw [k5 p (by omega), H4 p hp]
  have M2 := N2.keep (x' := x5) (g := g5) (by omega) H5
  simp only [↓gaH, gaP, simprocAttr, gaF, fillL, splice, hb5, hcl5, t2]
  repeat refine And.intro (by omega) ?_
  refine callK_of (ct_Uint M2 (by omega)) (fun v x6 g6 l6 k6 hC => ?_) (by omega)
  subst hC
  have hz6 : g6 (nx + 1) = some (.cells (vpL vp0) false) := by rw [k6 (nx + 1) (by omega), hz5]
  have H6 : ∀ p, p < nx → g6 p = gt p := fun p hp => by rw [k6 p (by omega), H5 p hp]
  have ru6 := ru.keep (nx' := x6) (gt' := g6) l6 k6
  simp only [↓gaH, gaP, simprocAttr, gaF, fillL, splice]
  repeat refine And.intro (by omega) ?_
  by_cases q3 : (((trueR (Vr.kid x.k 0)).2 : Nat) : Int) = 0
  case neg =>
    have e : Vr.oneR wa x = none := by unfold Vr.oneR; rw [if_neg fun hc => q3 (by rw [hc.2.2.1]; rfl)]
    simp only [↓gaH, gaP, simprocAttr, q3, not_false_eq_true, decide_true, e]
    simp only [↓gaH, gaP, simprocAttr, hz6, vpL_len vp0_wf.a, List.drop_zero, htz, hspz]
    repeat refine And.intro (by omega) ?_
    refine And.intro (vpL_cells _) ?_
    rw [end_r, res_cN (q := nx + 1) (o := 0) (s := none) (c := vpL vp0) (ro := false) (by simp only [↓gaH, gaP, simprocAttr]) (by simp only [upd_e, if_true]) (by rw [vpL_len vp0_wf.a]; omega)]
    simp only [↓gaH, gaP, simprocAttr, res_t, res_nil, Option.map_some, asO_e, one2, List.drop_zero, htz]
    exact ⟨by omega, fun p hp => by rw [if_neg (by omega), H6 p hp], _, vp0_wf, rfl⟩
  by_cases q4 : (((ofR (Vr.kid x.k 1)).2.2 : Nat) : Int) = 0
  case neg =>
    have e : Vr.oneR wa x = none := by unfold Vr.oneR; rw [if_neg fun hc => q4 (by rw [hc.2.2.2.1]; rfl)]
    simp only [↓gaH, gaP, simprocAttr, q3, q4, not_true_eq_false, decide_false, not_false_eq_true, decide_true, e]
    simp only [↓gaH, gaP, simprocAttr, hz6, vpL_len vp0_wf.a, List.drop_zero, htz, hspz]
    repeat refine And.intro (by omega) ?_
    refine And.intro (vpL_cells _) ?_
    rw [end_r, res_cN (q := nx + 1) (o := 0) (s := none) (c := vpL vp0) (ro := false) (by simp only [↓gaH, gaP, simprocAttr]) (by simp only [upd_e, if_true]) (by rw [vpL_len vp0_wf.a]; omega)]
    simp only [↓gaH, gaP, simprocAttr, res_t, res_nil, Option.map_some, asO_e, one2, List.drop_zero, htz]
    exact ⟨by omega, fun p hp => by rw [if_neg (by omega), H6 p hp], _, vp0_wf, rfl⟩
  by_cases q5 : (((uintR (Vr.kid x.k 2)).2 : Nat) : Int) = 0
  case neg =>
    have e : Vr.oneR wa x = none := by unfold Vr.oneR; rw [if_neg fun hc => q5 (by rw [hc.2.2.2.2.1]; rfl)]
    simp only [↓gaH, gaP, simprocAttr, q3, q4, q5, not_true_eq_false, decide_false, not_false_eq_true, decide_true, e]
    simp only [↓gaH, gaP, simprocAttr, hz6, vpL_len vp0_wf.a, List.drop_zero, htz, hspz]
    repeat refine And.intro (by omega) ?_
    refine And.intro (vpL_cells _) ?_
    rw [end_r, res_cN (q := nx + 1) (o := 0) (s := none) (c := vpL vp0) (ro := false) (by simp only [↓gaH, gaP, simprocAttr]) (by simp only [upd_e, if_true]) (by rw [vpL_len vp0_wf.a]; omega)]
    simp only [↓gaH, gaP, simprocAttr, res_t, res_nil, Option.map_some, asO_e, one2, List.drop_zero, htz]
    exact ⟨by omega, fun p hp => by rw [if_neg (by omega), H6 p hp], _, vp0_wf, rfl⟩
  by_cases q6 : (16 : Int) < ((nu : Nat) : Int)
  · have e : Vr.oneR wa x = none := by unfold Vr.oneR; rw [if_neg fun hc => by have := hc.2.2.2.2.2.1; omega]
    simp only [↓gaH, gaP, simprocAttr, q3, q4, q5, q6, not_true_eq_false, decide_false, decide_true, e]
    simp only [↓gaH, gaP, simprocAttr, hz6, vpL_len vp0_wf.a, List.drop_zero, htz, hspz]
    repeat refine And.intro (by omega) ?_
    refine And.intro (vpL_cells _) ?_
    rw [end_r, res_cN (q := nx + 1) (o := 0) (s := none) (c := vpL vp0) (ro := false) (by simp only [↓gaH, gaP, simprocAttr]) (by simp only [upd_e, if_true]) (by rw [vpL_len vp0_wf.a]; omega)]
    simp only [↓gaH, gaP, simprocAttr, res_t, res_nil, Option.map_some, asO_e, one2, List.drop_zero, htz]
    exact ⟨by omega, fun p hp => by rw [if_neg (by omega), H6 p hp], _, vp0_wf, rfl⟩
  by_cases q7 : (128 : Int) < (((uintR (Vr.kid x.k 2)).1 : Nat) : Int)
  · have e : Vr.oneR wa x = none := by unfold Vr.oneR; rw [if_neg fun hc => by have := hc.2.2.2.2.2.2; omega]
    simp only [↓gaH, gaP, simprocAttr, q3, q4, q5, q6, q7, not_true_eq_false, decide_false, decide_true, e]
    simp only [↓gaH, gaP, simprocAttr, hz6, vpL_len vp0_wf.a, List.drop_zero, htz, hspz]
    repeat refine And.intro (by omega) ?_
    refine And.intro (vpL_cells _) ?_
    rw [end_r, res_cN (q := nx + 1) (o := 0) (s := none) (c := vpL vp0) (ro := false) (by simp only [↓gaH, gaP, simprocAttr]) (by simp only [upd_e, if_true]) (by rw [vpL_len vp0_wf.a]; omega)]
    simp only [↓gaH, gaP, simprocAttr, res_t, res_nil, Option.map_some, asO_e, one2, List.drop_zero, htz]
    exact ⟨by omega, fun p hp => by rw [if_neg (by omega), H6 p hp], _, vp0_wf, rfl⟩
  obtain ⟨top, htop⟩ : ∃ top, top = (uintR (Vr.kid x.k 2)).1 := ⟨_, rfl⟩
  obtain ⟨many, hmany⟩ : ∃ many, many = (ofR (Vr.kid x.k 1)).2.1 := ⟨_, rfl⟩
  obtain ⟨v6, hv6⟩ : ∃ v6, v6 = (trueR (Vr.kid x.k 0)).1 := ⟨_, rfl⟩
  obtain ⟨l, hl⟩ : ∃ l, l = (ofR (Vr.kid x.k 1)).1 := ⟨_, rfl⟩
  rw [← htop] at q7
  rw [← hl] at hlu ru6
  have wt : IntKind.i64.wrap (top : Int) = (top : Int) := i64_w _ (by omega)
  obtain ⟨_, m0', m1', m2'⟩ := Vr.bits_in (Vr.of_ok (x := Vr.kid x.k 1) (by omega))
  rw [← hmany] at m0' m1' m2'
  rw [← hl] at m1' m2'
  have e : Vr.oneR wa x = some ⟨wa, v6, Vr.pad l, many, top⟩ := by
    unfold Vr.oneR
    rw [if_pos ⟨ht, by rw [← hkl], by omega, by omega, by omega, by rw [← hl]; omega, by rw [← htop]; omega⟩, hl, hmany, hv6, htop]
  have hvw : (⟨wa, v6, Vr.pad l, many, top⟩ : Vp).wf := ⟨Vr.pad_len _, by simp only; omega, by simp only; omega⟩
  rw [e]
  have hz6L := hz6
  rw [vp0_L] at hz6L
  have hlit : ([u32V wa, .bool v6, .int .u8 0, .int .u8 0, .int .u8 0, .int .u8 0, .int .u8 0, .int .u8 0, .int .u8 0, .int .u8 0, .int .u8 0, .int .u8 0, .int .u8 0, .int .u8 0, .int .u8 0, .int .u8 0, .int .u8 0, .int .u8 0, .int .i64 many, .int .i64 (top : Nat)] : List Value) = vpL ⟨wa, v6, List.replicate 16 0, many, top⟩ := rfl
  have hll : (vpL ⟨wa, v6, List.replicate 16 0, many, (top : Nat)⟩).length = 20 := vpL_len rfl
  have hdd : List.drop 20 ([.int .u32 0, .bool false, .int .u8 0, .int .u8 0, .int .u8 0, .int .u8 0, .int .u8 0, .int .u8 0, .int .u8 0, .int .u8 0, .int .u8 0, .int .u8 0, .int .u8 0, .int .u8 0, .int .u8 0, .int .u8 0, .int .u8 0, .int .u8 0, .int .i64 0, .int .i64 0] : List Value) = [] := rfl
  have hmin : nu.min 16 = nu := Nat.min_eq_left (by omega)
  simp only [↓gaH, gaP, Nat.reduceEqDiff, Nat.reduceLeDiff, Nat.reduceAdd, Nat.reduceSub, Nat.reduceMul, Int.reduceLT, Int.reduceLE, Int.reduceEq, Int.reduceToNat, Int.reduceAdd, Int.reduceSub, Int.reduceMul, reduceCtorEq, ↓reduceIte, gaF, fillL, splice, gaU, q3, q4, q5, q6, ← htop, ← hmany, ← hv6, q7, wt, not_true_eq_false, decide_false, decide_true, hz6L, vp0_L, hlit, hll, hdd, hmin]
  repeat refine And.intro (by omega) ?_
  refine And.intro (vpL_cells _) ?_
  obtain ⟨g7, hg7⟩ : ∃ g', g' = upd g6 (nx + 1) (some (.cells (vpL ⟨wa, v6, List.replicate 16 0, many, (top : Nat)⟩) false)) := ⟨_, rfl⟩
  rw [← hg7]
  have hz7 : g7 (nx + 1) = some (.cells (vpL ⟨wa, v6, List.replicate 16 0, many, (top : Nat)⟩) false) := by rw [hg7]; simp only [upd_e, if_true]
  have G7 : ∀ p, p ≠ nx + 1 → g7 p = g6 p := fun p hp => by rw [hg7]; simp only [upd_e]; rw [if_neg hp]
  have ru7 : Row x6 g7 1 Au nu (l.map u8V) := by
    refine ⟨ru6.spot, ru6.len, fun hN => ?_⟩
    obtain ⟨a', ce, ro', rfl, s2, s3, s4, s5⟩ := ru6.cells hN
    by_cases hab : a'.block = nx + 1
    · rw [hab, hz6] at s3
      injection s3 with s3; injection s3 with s31 s32
      subst s31
      refine ⟨a', _, false, rfl, s2, by rw [hab]; exact hz7, by rw [hll]; rw [vpL_len vp0_wf.a] at s4; exact s4, fun i hi => ?_⟩
      have := s5 i hi
      rw [getD_u8 (by omega)] at this ⊢
      exact vp0_u8 (y := l.getD i 0) this
    · exact ⟨a', ce, ro', rfl, s2, by rw [G7 _ hab]; exact s3, s4, s5⟩
  have e7 : rowOf ⟨x6, b, g7⟩ Au nu = some (l.map u8V) := ru7.rowOf
  rw [e7]
  simp only [asO_e]
  have hspl := splice_pad (wa := wa) (v6 := v6) (l := l) (m := many) (t := (top : Nat)) (by omega)
  have fin : ∀ (g8 : Nat → Option Blk) (F : Regs), F 4 = .pointer (some ⟨nx + 1, 0, none⟩) → F 5 = .bool true → g8 (nx + 1) = some (.cells (vpL ⟨wa, v6, Vr.pad l, many, (top : Nat)⟩) false) → (∀ p, p ≠ nx + 1 → g8 p = g6 p) →
      endK [RVar.cN 4 20, RVar.t 5] b nx gt (fun r x x_2 => OneV r (some ⟨wa, v6, Vr.pad l, many, (top : Nat)⟩)) .ret F ⟨x6, b, g8⟩ := fun g8 F f4 f5 hz8 G8 => by
    rw [end_r, res_cN (q := nx + 1) (o := 0) (s := none) (c := vpL ⟨wa, v6, Vr.pad l, many, (top : Nat)⟩) (ro := false) f4 hz8 (by rw [vpL_len hvw.a]; omega)]
    simp only [↓gaH, gaP, simprocAttr, res_t, res_nil, Option.map_some, asO_e, one2, List.drop_zero, f5]
    rw [List.take_of_length_le (by rw [vpL_len hvw.a]; omega)]
    exact ⟨by omega, fun p hp => by rw [G8 p (by omega), H6 p hp], hvw, rfl⟩
  have htk : (vpL ⟨wa, v6, Vr.pad l, many, (top : Nat)⟩).take 20 = vpL ⟨wa, v6, Vr.pad l, many, (top : Nat)⟩ := List.take_of_length_le (by rw [vpL_len hvw.a]; omega)
  have hsp20 : splice (vpL ⟨wa, v6, Vr.pad l, many, (top : Nat)⟩) 0 (vpL ⟨wa, v6, Vr.pad l, many, (top : Nat)⟩) = vpL ⟨wa, v6, Vr.pad l, many, (top : Nat)⟩ := by
    unfold splice
    rw [List.take_zero, List.nil_append, List.drop_of_length_le (by omega), List.append_nil]
  by_cases hn0 : nu = 0
  · subst hn0
    have hl0 : l = [] := List.eq_nil_of_length_eq_zero hlu
    rw [hl0, List.map_nil] at hspl
    have hsp0 : ∀ k : List Value, splice k 2 [] = k := fun k => by unfold splice; simp
    rw [hsp0, ← hl0] at hspl
    rw [hspl] at hz7
    simp only [↓gaH, gaP, simprocAttr, gaU, hz7, vpL_len hvw.a, htk, hsp20]
    repeat refine And.intro (by omega) ?_
    refine And.intro (vpL_cells _) ?_
    exact fin _ _ (by simp only [↓gaH, gaP, simprocAttr]) (by simp only [↓gaH, gaP, simprocAttr]) (by simp only [upd_e, if_true]) fun p hp => by simp only [upd_e]; rw [if_neg hp, G7 p hp]
  · rw [cpK_s hn0]
    simp only [↓gaH, gaP, Nat.reduceEqDiff, Nat.reduceLeDiff, Nat.reduceAdd, Nat.reduceSub, Nat.reduceMul, Int.reduceLT, Int.reduceLE, Int.reduceEq, Int.reduceToNat, Int.reduceAdd, Int.reduceSub, Int.reduceMul, reduceCtorEq, ↓reduceIte, gaU, hz7, hspl, hll, List.length_map, vpL_len hvw.a, htk, hsp20]
    refine And.intro (by omega) (And.intro (by omega) (And.intro (all_u8 _) (And.intro (by omega) (And.intro (vpL_cells _) ?_))))
    exact fin _ _ (by simp only [↓gaH, gaP, simprocAttr]) (by simp only [↓gaH, gaP, simprocAttr]) (by simp only [upd_e, if_true]) fun p hp => by simp only [upd_e]; rw [if_neg hp, if_neg hp, G7 p hp]
end
end Go.Ga

namespace Go.Ga
open Go Go.Proofs
set_option maxRecDepth 100000
attribute [local irreducible] appendK
theorem Fo.ws_bs {f : Fo} (h : f.rs) : f.ws ≤ f.bs := by
  induction f with
  | nil => simp [Fo.ws, Fo.bs]
  | cons t b k r ih1 ih2 =>
    obtain ⟨⟨h1, h2, h3⟩, h4, h5⟩ := h
    have i1 := ih1 h4
    have i2 := ih2 h5
    simp only [Fo.ws, Fo.bs]
    cases hh : Fo.has t with
    | true =>
      have := Fo.hn_le k.bs
      rw [h2 hh]
      simp only [List.length_nil, if_true]; omega
    | false =>
      have := Fo.hn_le b.length
      rw [h3 hh]
      simp only [Fo.ws, Bool.false_eq_true, if_false]; omega
theorem Fo.rd_ws {l : List UInt8} {x : Fo.El} (h : Fo.rd l = .ok x) : x.f.ws ≤ 20000 ∧ -9223372036854775808 ≤ x.t ∧ x.f.rs := by
  obtain ⟨h1, h2, h3, h4⟩ := Fo.wr_ok (Fo.wr_rd h)
  have := Fo.ws_bs h1
  have h5 := h1.1.1
  unfold Fo.tag at h5
  exact ⟨by omega, by omega, h1⟩
namespace Vr
theorem goR_app {f : Fo.El → Option Vp} : ∀ {p q : Fo} {d : List Vp}, goR f p = some d → goR f (p.app q) = (goR f q).map (d ++ ·)
  | .nil, q, d, h => by
    simp only [goR, Option.some.injEq] at h
    subst h
    simp [Fo.app]
  | .cons t b k r, q, d, h => by
    simp only [goR, Fo.app] at h ⊢
    split at h
    · cases h
    · rename_i v hv
      cases hr : goR f r with
      | none => rw [hr] at h; cases h
      | some d' =>
        rw [hr] at h
        simp only [Option.map_some, Option.some.injEq] at h
        subst h
        rw [goR_app hr, Option.map_map]
        rfl
theorem goR_snoc {f : Fo.El → Option Vp} {p : Fo} {d : List Vp} {y : Fo.El} {v : Vp} (h : goR f p = some d) (hy : f y = some v) : goR f (p.app y.f) = some (d ++ [v]) := by
  rw [goR_app h]
  show (goR f (.cons y.t y.b y.k .nil)).map _ = _
  have : f ⟨y.t, y.b, y.k⟩ = some v := hy
  simp [goR, this]
theorem goR_none {f : Fo.El → Option Vp} {p q : Fo} {d : List Vp} {y : Fo.El} (h : goR f p = some d) (hy : f y = none) : goR f (p.app (.cons y.t y.b y.k q)) = none := by
  rw [goR_app h]
  have : f ⟨y.t, y.b, y.k⟩ = none := hy
  simp [goR, this]
end Vr
def ReadL (nx : Nat) (g : Nat → Option Blk) (v : Value) : Except Nat (List Vp) → Prop
  | .error e => v = .tuple #[.slice none 0 0, .int .i64 (e : Nat)]
  | .ok l => ∃ A N, v = .tuple #[.slice A N N, .int .i64 0] ∧ VpR nx g A N l
section
variable {nx : Nat} {gt : Nat → Option Blk}
theorem ct_RRead {A : Option Addr} {n c : Nat} {l : List UInt8} (hA : Row nx gt 1 A n (l.map u8V)) (hc : n ≤ c) (hn : n ≤ 1000000) : Ct Tryd.prog 11 [.slice A n c] nx gt fun r x g => ReadL x g r (Vr.progR l) := by
  refine Ct.of hmx r_roa_Read (by simp [c_roa_Read]) fun b hb => ?_
  simp only [c_roa_Read, ↓gaH, gaP, simprocAttr]
  refine callK_of (ct_Read hA hc hn) (fun v x1 g1 l1 k1 hC => ?_) (by omega)
  cases hrd : Fo.rd l with
  | error e =>
    rw [hrd] at hC
    have hC : v = _ := hC
    subst hC
    have e0 : e ≠ 0 := by
      rintro rfl
      unfold Fo.rd at hrd
      split at hrd
      · cases hrd
      · split at hrd
        · rename_i e' he
          injection hrd with hrd
          have := Fo.elem_errs he
          omega
        · split at hrd <;> cases hrd
    have e0i : ¬ ((e : Nat) : Int) = 0 := by omega
    have er : Vr.progR l = .error e := by unfold Vr.progR; rw [hrd]
    simp only [↓gaH, gaP, simprocAttr, gaF, fillL, splice]
    repeat refine And.intro (by omega) ?_
    refine And.intro (node_cells _ _ _ _ _ _ _) ?_
    simp only [↓gaH, gaP, simprocAttr, e0i, not_false_eq_true, decide_true, gaE, er]
    exact ⟨by omega, fun p hp => by rw [if_neg (by omega), if_neg (by omega), k1 p hp], rfl⟩
  | ok y =>
  rw [hrd] at hC
  obtain ⟨B, m, d, A0, n0, c0, ks, rfl, N0⟩ := hC
  obtain ⟨hws, _, hrs⟩ := Fo.rd_ws hrd
  simp only [↓gaH, gaP, Nat.reduceEqDiff, Nat.reduceLeDiff, Nat.reduceAdd, Nat.reduceSub, Nat.reduceMul, Int.reduceLT, Int.reduceLE, Int.reduceEq, Int.reduceToNat, Int.reduceAdd, Int.reduceSub, Int.reduceMul, reduceCtorEq, ↓reduceIte, gaF, fillL, splice]
  repeat refine And.intro (by omega) ?_
  refine And.intro (node_cells _ _ _ _ _ _ _) ?_
  obtain ⟨g2, hg2⟩ : ∃ g', g' = upd (upd g1 x1 (some (.cells [Value.int .i64 0, .slice none 0 0, .slice none 0 0] false))) x1 (some (.cells (nodeL y.t B m d A0 n0 c0) false)) := ⟨_, rfl⟩
  have hb2 : g2 x1 = some (.cells (nodeL y.t B m d A0 n0 c0) false) := by rw [hg2]; simp only [upd_e, if_true]
  have G2 : ∀ p, p < x1 → g2 p = g1 p := fun p hp => by rw [hg2]; simp only [upd_e]; rw [if_neg (by omega), if_neg (by omega)]
  have F2 : ∀ p, p < nx → g2 p = gt p := fun p hp => by rw [G2 p (by omega), k1 p hp]
  have hgg : upd (upd g1 x1 (some (Blk.cells [Value.int .i64 0, .slice none 0 0, .slice none 0 0] false))) x1 (some (.cells [Value.int .i64 y.t, .slice B m d, .slice A0 n0 c0] false)) = g2 := hg2.symm
  simp only [↓gaH, gaP, Nat.reduceEqDiff, Nat.reduceLeDiff, Nat.reduceAdd, Nat.reduceSub, Nat.reduceMul, Int.reduceLT, Int.reduceLE, Int.reduceEq, Int.reduceToNat, Int.reduceAdd, Int.reduceSub, Int.reduceMul, reduceCtorEq, ↓reduceIte, hgg, not_true_eq_false, decide_false]
  clear hg2 hgg
  have N2 := N0.keep (x' := x1 + 1) (g := g2) (by omega) G2
  refine And.intro (by omega) ?_
  have bad : ¬ (y.t = 48 ∧ y.k.len = 2 ∧ (Vr.kid y.k 1).t = 48 ∧ (uintR (Vr.kid y.k 0)).2 = 0 ∧ (uintR (Vr.kid y.k 0)).1 < 4294967296) → Vr.progR l = .error 2 := fun h => by
    unfold Vr.progR
    rw [hrd]
    simp only
    rw [if_neg h]
  have hkl := N0.len
  by_cases ht : y.t = 48
  case neg =>
    have er := bad fun h => ht h.1
    simp only [↓gaH, gaP, simprocAttr, ht, not_false_eq_true, decide_true, gaE, er]
    exact ⟨by omega, F2, rfl⟩
  by_cases hn2 : (n0 : Int) = 2
  case neg =>
    have er := bad fun h => hn2 (by rw [hkl, h.2.1]; rfl)
    simp only [↓gaH, gaP, Nat.reduceEqDiff, Nat.reduceLeDiff, Nat.reduceAdd, Nat.reduceSub, Nat.reduceMul, Int.reduceLT, Int.reduceLE, Int.reduceEq, Int.reduceToNat, Int.reduceAdd, Int.reduceSub, Int.reduceMul, reduceCtorEq, ↓reduceIte, List.getD_cons_zero, List.getD_cons_succ, hb2, ht, hn2, not_true_eq_false, not_false_eq_true, decide_true, decide_false, gaE, er]
    refine And.intro (by omega) ?_
    refine And.intro (by omega) ?_
    refine And.intro F2 ?_
    repeat refine And.intro (by omega) ?_
    exact rfl
  have hn2' : n0 = 2 := by omega
  subst hn2'
  obtain ⟨a, cl, ro, rfl, r2, r3, r4, r5⟩ := N2.row.cells (by omega)
  obtain ⟨B3, m3, d3, A3, n3, c3, ks3, M0, q0, ws0⟩ := N2.kid (i := 0) (by omega)
  obtain ⟨B4, m4, d4, A4, n4, c4, ks4, M1, q1, ws1⟩ := N2.kid (i := 1) (by omega)
  have t0 := (N2.row.load rfl r3 (j := 0 * 3) (k := 3) (by omega) (by omega)).trans q0
  have t1 := (N2.row.load rfl r3 (j := 1 * 3) (k := 3) (by omega) (by omega)).trans q1
  simp only [Nat.zero_mul, Nat.add_zero, Nat.one_mul] at t0 t1
  have yw : y.f.ws = 1 + y.b.length + y.k.ws := by simp only [Fo.El.f, Fo.ws]; omega
  have cell : ∀ j v, j < 3 → (nodeL (Vr.kid y.k 1).t B4 m4 d4 A4 n4 c4).getD j undef = v → cl.getD (a.off + 3 + j) undef = v := fun j v hj h => by
    rw [← h, ← t1, List.getD_eq_getElem?_getD, List.getD_eq_getElem?_getD, List.getElem?_take_of_lt hj, List.getElem?_drop]
  have ct := cell 0 (.int .i64 (Vr.kid y.k 1).t) (by omega) rfl
  have ck := cell 2 (.slice A4 n4 c4) (by omega) rfl
  simp only [Nat.add_zero] at ct
  by_cases ht1 : (Vr.kid y.k 1).t = 48
  case neg =>
    have er := bad fun h => ht1 h.2.2.1
    simp only [↓gaH, gaP, simprocAttr, List.getD_cons_zero, List.getD_cons_succ, hb2, r3, ct, ht, ht1, not_true_eq_false, not_false_eq_true, decide_true, decide_false, gaE, er]
    repeat refine And.intro (by omega) ?_
    exact rfl
  simp only [↓gaH, gaP, simprocAttr, List.getD_cons_zero, List.getD_cons_succ, hb2, r3, ct, t0, ht, ht1, not_true_eq_false, decide_true, decide_false]
  repeat refine And.intro (by omega) ?_
  refine callK_of (ct_Uint M0 (by omega)) (fun v x5 g5 l5 k5 hC => ?_) (by omega)
  subst hC
  have F5 : ∀ p, p < nx → g5 p = gt p := fun p hp => by rw [k5 p (by omega), F2 p hp]
  have hb5 : g5 x1 = some (.cells (nodeL y.t B m d (some a) 2 c0) false) := by rw [k5 x1 (by omega), hb2]
  have r35 : g5 a.block = some (.cells cl ro) := by rw [k5 _ r2, r3]
  have M5 := M1.keep (x' := x5) (g := g5) l5 k5
  clear k5
  simp only [↓gaH, gaP, simprocAttr]
  repeat refine And.intro (by omega) ?_
  by_cases he : (((uintR (Vr.kid y.k 0)).2 : Nat) : Int) = 0
  case neg =>
    have er := bad fun h => he (by rw [h.2.2.2.1]; rfl)
    simp only [↓gaH, gaP, simprocAttr, he, not_false_eq_true, decide_true, gaE, er]
    exact ⟨by omega, F5, rfl⟩
  obtain ⟨w, hw⟩ : ∃ w, w = (uintR (Vr.kid y.k 0)).1 := ⟨_, rfl⟩
  have hwl : w < 18446744073709551616 := by rw [hw]; exact (Vr.uint_ok (by omega)).2
  have hsh : shrV .u64 (w : Int) 32 = ((w / 4294967296 : Nat) : Int) := shr_nat (k := .u64) w 32 (by decide)
  by_cases hbig : ((w / 4294967296 : Nat) : Int) = 0
  case neg =>
    have er := bad fun h => hbig (by have := h.2.2.2.2; rw [← hw] at this; omega)
    simp only [↓gaH, gaP, simprocAttr, he, ← hw, hsh, hbig, not_true_eq_false, decide_false, not_false_eq_true, decide_true, gaE, er]
    repeat refine And.intro (by omega) ?_
    exact rfl
  have hw32 : w < 4294967296 := by omega
  have eP : Vr.progR l = match Vr.goR (Vr.oneR (UInt32.ofNat w)) (Vr.kid y.k 1).k with
      | none => .error 2
      | some l => if Vr.right l then .ok l else .error 2 := by
    unfold Vr.progR
    rw [hrd]
    simp only
    rw [if_pos ⟨ht, by omega, ht1, by omega, by rw [← hw]; exact hw32⟩, ← hw]
    all_goals rfl
  simp only [↓gaH, gaP, simprocAttr, List.getD_cons_zero, List.getD_cons_succ, hb5, r35, ck, he, ← hw, hsh, hbig, not_true_eq_false, decide_false]
  repeat refine And.intro (by omega) ?_
  rw [eP]
  generalize hF : (Vr.kid y.k 1).k = Fk at *
  have hFk : FoR x5 g5 Fk ks4 := by rw [← hF]; exact M5.kids
  have hFl : n4 = Fk.len := by rw [← hF]; exact M5.len
  have hFw : Fk.ws ≤ 20000 := by
    have : (Vr.kid y.k 1).f.ws = 1 + (Vr.kid y.k 1).b.length + (Vr.kid y.k 1).k.ws := by simp only [Fo.El.f, Fo.ws]; omega
    rw [hF] at this; omega
  have hFn : n4 ≤ 20000 := by have := Fo.len_ws Fk; omega
  have hW : IntKind.u32.wrap (w : Int) = (w : Int) := by rw [u32_w]; omega
  have hW' : (Value.int .u32 (w : Nat)) = u32V (UInt32.ofNat w) := by
    rw [u32V, UInt32.toNat_ofNat', Nat.mod_eq_of_lt (by omega)]
  refine loop_of (fun j f mm => ∃ (i x : Nat) (g : Nat → Option Blk) (A7 : Option Addr) (l7 : List Vp) (pre post : Fo), j = n4 - i ∧ i ≤ n4 ∧ Fk = pre.app post ∧ pre.len = i ∧ Vr.goR (Vr.oneR (UInt32.ofNat w)) pre = some l7 ∧ l7.length = i ∧ (∀ v ∈ l7, v.wf) ∧
      f 6 = .int .u64 (w : Nat) ∧ f 7 = .slice A7 i i ∧ f 56 = .slice A4 n4 c4 ∧ f 57 = .int .i64 (n4 : Nat) ∧ f 58 = .int .i64 (i : Nat) ∧ mm = ⟨x, b, g⟩ ∧ x5 ≤ x ∧ (∀ p, p < x5 → g p = g5 p) ∧ Own x5 b x g 20 A7 i (vpsL l7)) n4 ?_ ?_
  · exact ⟨0, x5, g5, none, [], .nil, Fk, rfl, by omega, rfl, rfl, rfl, rfl, (fun _ h => nomatch h), (by simp only [↓gaH, gaP, simprocAttr]; try rfl), (by simp only [↓gaH, gaP, simprocAttr]; try rfl), (by simp only [↓gaH, gaP, simprocAttr]; try rfl), (by simp only [↓gaH, gaP, simprocAttr]; try rfl), (by simp only [↓gaH, gaP, simprocAttr]; try rfl), rfl, Nat.le_refl _, fun _ _ => rfl, .nil⟩
  rintro j f mm ⟨i, x, g, A7, l7, pre, post, rfl, hi, eF, hpl, hgo, hll, hwf, f6, f7, f56, f57, f58, rfl, hx, F, hOwn⟩
  simp only [↓gaH, gaP, simprocAttr, f57, f58]
  refine condK_dec (fun hlt => ?_) fun hge => ?_
  · have hi' : i < n4 := by omega
    have Mx := M5.keep (x' := x) (g := g) hx F
    obtain ⟨a', cl', ro', rfl, s2, s3, s4, s5⟩ := Mx.row.cells (by omega)
    obtain ⟨z, pre', post', Bz, mz, dz, Az, nz, cz, kz, e1, e2, e3, e4⟩ := FoR.at (nx := x) (gt := g) (F := Fk) (cs := ks4) (i := i) (by rw [← hF]; exact Mx.kids) (by omega)
    have hpp : pre' = pre := (Fo.app_inj (e1.symm.trans eF) (by omega)).1
    subst hpp
    have tz := (Mx.row.load rfl s3 (j := i * 3) (k := 3) (by omega) (by omega)).trans e4
    have zw := Fo.ws_in e1
    have hz3 : ∀ (k : List Value) t B m d A n c, k.length = 3 → splice k 0 (nodeL t B m d A n c) = nodeL t B m d A n c := fun k t B m d A n c hk => by
      match k, hk with
      | [_, _, _], _ => rfl
    have hs3 : splice [Value.int .i64 0, .slice none 0 0, .slice none 0 0] 0 (nodeL z.t Bz mz dz Az nz cz) = nodeL z.t Bz mz dz Az nz cz := rfl
    have ht3 : (nodeL z.t Bz mz dz Az nz cz).take 3 = nodeL z.t Bz mz dz Az nz cz := rfl
    simp only [↓gaH, gaP, simprocAttr, f56, f58, s3, tz, hs3]
    repeat refine And.intro (by omega) ?_
    refine And.intro (node_cells _ _ _ _ _ _ _) ?_
    obtain ⟨g3, hg3⟩ : ∃ g', g' = upd (upd g x (some (.cells [Value.int .i64 0, .slice none 0 0, .slice none 0 0] false))) x (some (.cells (nodeL z.t Bz mz dz Az nz cz) false)) := ⟨_, rfl⟩
    have hp3 : g3 x = some (.cells (nodeL z.t Bz mz dz Az nz cz) false) := by rw [hg3]; simp only [upd_e, if_true]
    have F3 : ∀ p, p < x → g3 p = g p := fun p hp => by rw [hg3]; simp only [upd_e]; rw [if_neg (by omega), if_neg (by omega)]
    have hgg : upd (upd g x (some (Blk.cells [Value.int .i64 0, .slice none 0 0, .slice none 0 0] false))) x (some (.cells [Value.int .i64 z.t, .slice Bz mz dz, .slice Az nz cz] false)) = g3 := hg3.symm
    simp only [↓gaH, gaP, simprocAttr, hgg, hp3, f6, hW, hW', hs3, ht3, List.drop_zero]
    clear hg3 hgg
    repeat refine And.intro (by omega) ?_
    have e3' := e3.keep (x' := x + 1) (g := g3) (by omega) F3
    refine callK_of (ct_one (wa := UInt32.ofNat w) e3' (by omega)) (fun v x6 g6 l6 k6 hC => ?_) (by omega)
    obtain ⟨zr, hzr⟩ : ∃ zr : List Value, zr = [.int .u32 0, .bool false, .int .u8 0, .int .u8 0, .int .u8 0, .int .u8 0, .int .u8 0, .int .u8 0, .int .u8 0, .int .u8 0, .int .u8 0, .int .u8 0, .int .u8 0, .int .u8 0, .int .u8 0, .int .u8 0, .int .u8 0, .int .u8 0, .int .i64 0, .int .i64 0] := ⟨_, rfl⟩
    have hzl : zr.length = 20 := by rw [hzr]; rfl
    have hcv : ∀ v', cellsV (vpV v') = some (vpL v') := fun v' => rfl
    have hsp : ∀ v', v'.wf → splice zr 0 (vpL v') = vpL v' := fun v' hv => by
      unfold splice
      rw [List.take_zero, List.nil_append, Nat.zero_add, List.drop_of_length_le (by rw [hzl, vpL_len hv.a]; omega), List.append_nil]
    have hcl' : ∀ v', ∀ x ∈ vpL v', cellVal x = true := fun v' => vpL_cells v'
    have htk : ∀ v', v'.wf → (vpL v').take 20 = vpL v' := fun v' hv => List.take_of_length_le (by rw [vpL_len hv.a]; omega)
    cases ho : Vr.oneR (UInt32.ofNat w) z with
    | none =>
      rw [ho] at hC
      obtain ⟨v', hv', rfl⟩ := hC
      have eG : Vr.goR (Vr.oneR (UInt32.ofNat w)) Fk = none := by rw [e1]; exact Vr.goR_none hgo ho
      simp only [↓gaH, gaP, simprocAttr, eG, ← hzr, hcv, asO_e, hsp _ hv', vpL_len hv'.a]
      repeat refine And.intro (by omega) ?_
      refine And.intro (vpL_cells _) ?_
      simp only [↓gaH, gaP, simprocAttr, gaE]
      exact ⟨by omega, fun p hp => by rw [if_neg (by omega), if_neg (by omega), k6 p (by omega), F3 p (by omega), F p (by omega), F5 p hp], rfl⟩
    | some v' =>
      rw [ho] at hC
      obtain ⟨hv', rfl⟩ := hC
      simp only [↓gaH, gaP, simprocAttr, ← hzr, hcv, asO_e, hsp _ hv', vpL_len hv'.a]
      repeat refine And.intro (by omega) ?_
      refine And.intro (vpL_cells _) ?_
      have hlit : Row (x6 + 1 + 1) (upd (upd (upd g6 x6 (some (.cells zr false))) x6 (some (.cells (vpL v') false))) (x6 + 1) (some (.cells (vpL v') false))) 20 (some ⟨x6 + 1, 0, none⟩) 20 (vpL v') := Row.lit (ro := false) (by omega) (by simp only [upd_e, if_true]) (vpL_len hv'.a)
      simp only [↓gaH, gaP, simprocAttr, fillL, List.drop_zero, htk _ hv', hcv, hsp _ hv', f7, f58, asO_e]
      rw [if_pos ⟨vpL_len hv'.a, by omega⟩]
      simp only [asO_e, hlit.rowOf]
      obtain ⟨g7, hg7⟩ : ∃ g', g' = upd (upd (upd g6 x6 (some (.cells zr false))) x6 (some (.cells (vpL v') false))) (x6 + 1) (some (.cells (vpL v') false)) := ⟨_, rfl⟩
      have F7 : ∀ p, p < x → g7 p = g p := fun p hp => by rw [hg7]; simp only [upd_e]; rw [if_neg (by omega), if_neg (by omega), if_neg (by omega), k6 p (by omega), F3 p hp]
      rw [← hg7]
      clear hg7 hlit
      refine own_append (nx := x5) (hOwn.keep (x' := x6 + 1 + 1) (by omega) F7) (by omega) (by omega) (by omega) (by omega) (vpL_len hv'.a) (vpL_cells _) (by omega) (by omega) fun g8 F8 hOwn8 => ?_
      simp only [↓gaH, gaP, simprocAttr, loopK_n, i64_w ((i : Int) + 1) (by omega)]
      refine ⟨n4 - (i + 1), by omega, i + 1, x6 + 1 + 1 + 1, g8, some ⟨x6 + 1 + 1, 0, some 20⟩, l7 ++ [v'], pre'.app z.f, post', rfl, by omega, ?_, ?_, Vr.goR_snoc hgo ho, by simp [hll], ?_, ?_, ?_, ?_, ?_, ?_, rfl, by omega, fun p hp => by rw [F8 p hp, F7 p (by omega), F p hp], ?_⟩
      · rw [← Fo.app_one]; exact e1
      · rw [Fo.len_app, hpl]; rfl
      · intro u hu
        rcases List.mem_append.1 hu with h | h
        · exact hwf u h
        · rw [List.mem_singleton.1 h]; exact hv'
      · simp only [↓gaH, gaP, simprocAttr, f6]
      · rfl
      · simp only [↓gaH, gaP, simprocAttr, f56]
      · simp only [↓gaH, gaP, simprocAttr, f57]
      · rfl
      · rw [vpsL_app]
        simpa only [vpsL, List.append_nil] using hOwn8
  · have hin : i = n4 := by omega
    subst hin
    have hpF := (Fo.app_end eF (by omega)).1
    subst hpF
    simp only [↓gaH, gaP, simprocAttr, f7, hgo]
    refine callK_of (ct_VRight (l := l7) ⟨hOwn.row, hll, hwf⟩ (Nat.le_refl _) (by omega)) (fun v x6 g6 l6 k6 hC => ?_) (by omega)
    subst hC
    cases hR : Vr.right l7 with
    | false =>
      simp only [↓gaH, gaP, simprocAttr, gaE, Bool.not_false]
      exact ⟨by omega, fun p hp => by rw [k6 p (by omega), F p (by omega), F5 p hp], rfl⟩
    | true =>
      simp only [↓gaH, gaP, simprocAttr, gaE, Bool.not_true]
      exact ⟨by omega, fun p hp => by rw [k6 p (by omega), F p (by omega), F5 p hp], _, _, by rw [f7], ⟨hOwn.row.keep l6 k6, hll, hwf⟩⟩
end
end Go.Ga

namespace Go.Ga
open Go Go.Proofs
set_option maxRecDepth 100000
namespace Vr
def v0 : Vp := ⟨7, false, [10, 0, 0, 0, 0, 0, 0, 0, 0, 0, 0, 0, 0, 0, 0, 0], 8, 24⟩
theorem v0_wf : v0.wf := ⟨rfl, by decide, by decide⟩
theorem right_one (v : Vp) : right [v] = one v := by
  have e : at' [v] 0 = v := rfl
  unfold right
  simp [stepR, e]
theorem make_one {v : Vp} (hv : v.wf) (h1 : one v = true) : ∃ b, makeR [v] = .ok b ∧ Fo.rd b = .ok (roaE [v]) := by
  obtain ⟨hok, hl, hm⟩ := one_ok h1
  have hmx := hv.mx
  have hws := roa_ws (l := [v]) fun w hw => by
    rw [List.mem_singleton.1 hw]; exact ⟨hv.a, by omega⟩
  have hbs := Fo.bs_ws (roaE [v]).f
  simp only [List.length_singleton] at hws
  have lf : ∀ (t : Int) (l : List UInt8), 0 ≤ t → t < 31 → (Fo.El.f ⟨t, l, .nil⟩).rs ∧ (Fo.El.f ⟨t, l, .nil⟩).ds = 1 := fun t l h1 h2 => by
    have hh : Fo.has t = false := by unfold Fo.has; rw [decide_eq_false_iff_not]; omega
    exact ⟨⟨⟨(show Fo.tag t by unfold Fo.tag; omega), (fun h => by rw [show Fo.has (Fo.El.t ⟨t, l, .nil⟩) = false from hh] at h; cases h), fun _ => rfl⟩, trivial, trivial⟩, by simp [Fo.El.f, Fo.ds, hh]⟩
  have rI : ∀ n, n < 18446744073709551616 → (intN n).f.rs ∧ (intN n).f.ds = 1 := fun n hn => by
    obtain ⟨k, _, h⟩ := intN_is hn
    rw [h]
    exact lf _ _ (by omega) (by omega)
  have rB : (boolE v.v6).f.rs ∧ (boolE v.v6).f.ds = 1 := lf _ _ (by omega) (by omega)
  have rS : (bitE v).f.rs ∧ (bitE v).f.ds = 1 := lf _ _ (by omega) (by omega)
  have sq : ∀ f : Fo, f.rs → (Fo.El.f ⟨48, [], f⟩).rs ∧ (Fo.El.f ⟨48, [], f⟩).ds = f.ds + 1 := fun f hf =>
    ⟨⟨⟨(show Fo.tag 48 by unfold Fo.tag; omega), (fun _ => rfl), fun h => by cases h⟩, hf, trivial⟩, by simp [Fo.El.f, Fo.ds, show Fo.has 48 = true by decide]⟩
  obtain ⟨i1, i2⟩ := rI v.mx.toNat (by omega)
  obtain ⟨a1, a2⟩ := rI v.asn.toNat (by have := v.asn.toNat_lt; omega)
  obtain ⟨e1, e2⟩ := sq ((boolE v.v6).f.app ((bitE v).f.app (intN v.mx.toNat).f)) ((Fo.rs_app _ _).2 ⟨rB.1, (Fo.rs_app _ _).2 ⟨rS.1, i1⟩⟩)
  have e2' : (entE v).f.ds = 2 := by
    show (Fo.El.f ⟨48, [], _⟩).ds = _
    rw [e2, Fo.ds_app, Fo.ds_app, rB.2, rS.2, i2]; rfl
  have l1 : (listF [v]).rs ∧ (listF [v]).ds = 2 := by
    rw [show listF [v] = (entE v).f.app .nil from rfl, Fo.app_nil]
    exact ⟨e1, e2'⟩
  obtain ⟨s1, s2⟩ := sq (listF [v]) l1.1
  obtain ⟨t1, t2⟩ := sq ((intN v.asn.toNat).f.app (inE [v]).f) ((Fo.rs_app _ _).2 ⟨a1, s1⟩)
  have t2' : (roaE [v]).f.ds = 4 := by
    show (Fo.El.f ⟨48, [], _⟩).ds = _
    have : (inE [v]).f.ds = 3 := s2.trans (by rw [l1.2])
    rw [show (at' [v] 0).asn.toNat = v.asn.toNat from rfl, t2, Fo.ds_app, a2, this]; rfl
  have hw := Fo.wr_of (x := roaE [v]) t1 (by omega) (by omega)
  exact ⟨_, by unfold makeR; rw [right_one, h1, if_pos rfl]; exact hw, Fo.rd_wr hw⟩
theorem one_v0 : one v0 = true := by decide +kernel
end Vr
theorem VpR.lit {x q : Nat} {g : Nat → Option Blk} {ro : Bool} {v : Vp} (hv : v.wf) (hq : q < x) (hg : g q = some (.cells (vpL v) ro)) : VpR x g (some ⟨q, 0, none⟩) 1 [v] :=
  ⟨by
    have := Row.lit (e := 20) hq hg (vpL_len hv.a)
    simpa only [vpsL, List.append_nil, Nat.one_mul] using this, rfl, fun w hw => by rw [List.mem_singleton.1 hw]; exact hv⟩
end Go.Ga

namespace Go.Ga
open Go Go.Proofs
set_option maxRecDepth 100000
section
variable {nx : Nat} {gt : Nat → Option Blk}
theorem ct_awake : Ct Tryd.prog 8 [] nx gt fun r _ _ => r = .bool true := by
  refine Ct.of hmx r_lanyardlaw18_awake (by simp [c_lanyardlaw18_awake]) fun b hb => ?_
  obtain ⟨bs, hmk, hrd⟩ := Vr.make_one Vr.v0_wf Vr.one_v0
  have hpr : Vr.progR bs = .ok [Vr.v0] := Vr.prog_of (fun v hv => by rw [List.mem_singleton.1 hv]; rfl) (by rw [Vr.right_one]; exact Vr.one_v0) hrd
  have hf1 : ∀ F : Regs, fillL ([.int .u8 0, .int .u8 0, .int .u8 0, .int .u8 0, .int .u8 0, .int .u8 0, .int .u8 0, .int .u8 0, .int .u8 0, .int .u8 0, .int .u8 0, .int .u8 0, .int .u8 0, .int .u8 0, .int .u8 0, .int .u8 0] : List Value) F [(0, 1, .k (.int .u8 10))] = some (Vr.v0.a.map u8V) := fun F => rfl
  have hf2 : ∀ F : Regs, fillL ([.bool false, .int .u8 0, .int .u8 0, .int .u8 0, .int .u8 0, .int .u8 0, .int .u8 0, .int .u8 0, .int .u8 0, .int .u8 0, .int .u8 0, .int .u8 0, .int .u8 0, .int .u8 0, .int .u8 0, .int .u8 0, .int .u8 0, .int .i64 0] : List Value) (putR F (some 6) (.agg (Vr.v0.a.map u8V).toArray)) [(1, 16, .t 6), (17, 1, .k (.int .i64 8))] = some (pxL Vr.v0.v6 Vr.v0.a Vr.v0.len) := fun F => rfl
  have hf3 : ∀ F : Regs, fillL ([.int .u32 0, .bool false, .int .u8 0, .int .u8 0, .int .u8 0, .int .u8 0, .int .u8 0, .int .u8 0, .int .u8 0, .int .u8 0, .int .u8 0, .int .u8 0, .int .u8 0, .int .u8 0, .int .u8 0, .int .u8 0, .int .u8 0, .int .u8 0, .int .i64 0, .int .i64 0] : List Value) (putR F (some 7) (.agg (pxL Vr.v0.v6 Vr.v0.a Vr.v0.len).toArray)) [(0, 1, .k (.int .u32 7)), (1, 18, .t 7), (19, 1, .k (.int .i64 24))] = some (vpL Vr.v0) := fun F => rfl
  have hf4 : ∀ F : Regs, fillL ([.int .u32 0, .bool false, .int .u8 0, .int .u8 0, .int .u8 0, .int .u8 0, .int .u8 0, .int .u8 0, .int .u8 0, .int .u8 0, .int .u8 0, .int .u8 0, .int .u8 0, .int .u8 0, .int .u8 0, .int .u8 0, .int .u8 0, .int .u8 0, .int .i64 0, .int .i64 0] : List Value) (putR F (some 8) (.agg (vpL Vr.v0).toArray)) [(0, 20, .t 8)] = some (vpL Vr.v0) := fun F => rfl
  simp only [c_lanyardlaw18_awake, ↓gaH, gaP, simprocAttr, hf1, hf2, hf3, hf4, asO_e]
  have hg1 : upd gt nx (some (.cells (vpL Vr.v0) false)) nx = some (.cells (vpL Vr.v0) false) := by simp only [upd_e, if_true]
  have F1 : ∀ p, p < nx → upd gt nx (some (.cells (vpL Vr.v0) false)) p = gt p := fun p hp => by simp only [upd_e]; rw [if_neg (by omega)]
  refine callK_of (ct_Make (l := [Vr.v0]) (VpR.lit Vr.v0_wf (by omega) hg1) (Nat.le_refl _) (by omega)) (fun v x2 g2 l2 k2 hC => ?_) (by omega)
  rw [hmk] at hC
  obtain ⟨A2, N2, rfl, hl2, r2⟩ := hC
  have F2 : ∀ p, p < nx → g2 p = gt p := fun p hp => by rw [k2 p (by omega), F1 p hp]
  have hN2 : N2 ≤ 1000000 := by
    have h1 := Fo.wr_ok (Fo.wr_rd hrd)
    have h2 := Fo.ly_bs h1.1
    rw [← hl2, h1.2.2.2, h2]; omega
  simp only [↓gaH, gaP, simprocAttr, gaF, fillL, splice]
  repeat refine And.intro (by omega) ?_
  refine callK_of (ct_RRead (l := bs) r2 (Nat.le_refl _) hN2) (fun v x3 g3 l3 k3 hC => ?_) (by omega)
  rw [hpr] at hC
  obtain ⟨A3, N3, rfl, r3⟩ := hC
  have F3 : ∀ p, p < nx → g3 p = gt p := fun p hp => by rw [k3 p (by omega), F2 p hp]
  obtain rfl : N3 = 1 := r3.len.symm
  obtain ⟨a, cl, ro, rfl, e2, e3, e4, e5, e6⟩ := r3.at (by omega)
  have c0 := e6 0 0 (by omega) (by omega)
  have c1 := e6 0 19 (by omega) (by omega)
  have c2 := e6 0 2 (by omega) (by omega)
  rw [show (vpL (Vr.at' [Vr.v0] 0)).getD 0 undef = .int .u32 7 from rfl] at c0
  rw [show (vpL (Vr.at' [Vr.v0] 0)).getD 19 undef = .int .i64 24 from rfl] at c1
  rw [show (vpL (Vr.at' [Vr.v0] 0)).getD 2 undef = .int .u8 10 from rfl] at c2
  simp only [Nat.zero_mul, Nat.add_zero] at c0 c1 c2
  simp only [↓gaH, gaP, simprocAttr, gaF, fillL, splice, gaE, e3, c0, c1, c2]
  repeat refine And.intro (by omega) ?_
  exact F3
end
end Go.Ga

namespace Go.Ga
open Go Go.Proofs
set_option maxRecDepth 100000
theorem BytesV.some {x : Nat} {g : Nat → Option Blk} {v : Value} {r : Except Nat (List UInt8)} (h : BytesV x g v r) : ∃ (l : List UInt8) (e : Nat) (A : Option Addr) (N : Nat), v = .tuple #[.slice A N N, .int .i64 (e : Nat)] ∧ l.length = N ∧ Row x g 1 A N (l.map u8V) ∧
    ((r = .ok l ∧ e = 0) ∨ (r = .error e ∧ l = [])) := by
  cases r with
  | error e => exact ⟨[], e, none, 0, h, rfl, .nil, .inr ⟨rfl, rfl⟩⟩
  | ok l =>
    obtain ⟨A, N, h1, h2, h3⟩ := h
    exact ⟨l, 0, A, N, h1, h2, h3, .inl ⟨rfl, rfl⟩⟩
theorem ReadL.some {x : Nat} {g : Nat → Option Blk} {v : Value} {r : Except Nat (List Vp)} (h : ReadL x g v r) : ∃ (l : List Vp) (e : Nat) (A : Option Addr) (N : Nat), v = .tuple #[.slice A N N, .int .i64 (e : Nat)] ∧ VpR x g A N l ∧
    ((r = .ok l ∧ e = 0) ∨ (r = .error e ∧ l = [])) := by
  cases r with
  | error e => exact ⟨[], e, none, 0, h, .nil, .inr ⟨rfl, rfl⟩⟩
  | ok l =>
    obtain ⟨A, N, h1, h2⟩ := h
    exact ⟨l, 0, A, N, h1, h2, .inl ⟨rfl, rfl⟩⟩
theorem Vr.make_ok {l : List Vp} {b : List UInt8} (ha : ∀ v ∈ l, v.a.length = 16) (h : Vr.makeR l = .ok b) : Vr.right l = true ∧ Vr.progR b = .ok l ∧ b.length ≤ 20000 := by
  unfold Vr.makeR at h
  split at h
  · rename_i hr
    have h1 := Fo.wr_ok h
    have h2 := Fo.ly_bs h1.1
    exact ⟨hr, Vr.prog_of ha hr (Fo.rd_wr h), by rw [h1.2.2.2, h2]; omega⟩
  · cases h
theorem Vr.prog_make {b : List UInt8} {l : List Vp} (h : Vr.progR b = .ok l) : Vr.makeR l = .ok b ∧ l.length ≤ 400 := by
  obtain ⟨h1, h2, h3⟩ := Vr.prog_in h
  exact ⟨by unfold Vr.makeR; rw [if_pos h2]; exact Fo.wr_rd h3, (Vr.right_len h2).2⟩
section
variable {nx : Nat} {gt : Nat → Option Blk}
end
end Go.Ga

namespace Go.Ga
open Go Go.Proofs
set_option maxRecDepth 100000
attribute [local irreducible] appendK
def vpZ (wa : UInt32) : Vp := ⟨wa, false, List.replicate 16 0, 0, 0⟩
theorem vpZ_u8 {wa : UInt32} {i : Nat} {y : UInt8} (h : (vpL (vpZ wa)).getD i undef = u8V y) : 2 ≤ i ∧ i < 18 ∧ y = 0 := by
  have hi : i < 20 ∨ 20 ≤ i := by omega
  rcases hi with hi | hi
  · have : i = 0 ∨ i = 1 ∨ i = 18 ∨ i = 19 ∨ (2 ≤ i ∧ i < 18) := by omega
    rcases this with rfl | rfl | rfl | rfl | ⟨h1, h2⟩
    · cases h
    · cases h
    · cases h
    · cases h
    · refine ⟨h1, h2, ?_⟩
      have a1 := vpL_at (v := vpZ wa) rfl (i := i - 2) (by omega)
      rw [show 2 + (i - 2) = i by omega, h] at a1
      have e : (vpZ wa).a.getD (i - 2) 0 = 0 := by
        show (List.replicate 16 (0 : UInt8)).getD (i - 2) 0 = 0
        rw [List.getD_eq_getElem?_getD, List.getElem?_replicate, if_pos (by omega)]; rfl
      rw [e] at a1
      have a2 : ((y.toNat : Nat) : Int) = ((0 : UInt8).toNat : Nat) := by
        unfold u8V at a1
        injection a1
      exact UInt8.toNat_inj.1 (by omega)
  · rw [List.getD_eq_getElem?_getD, List.getElem?_eq_none (by rw [vpL_len rfl]; exact hi)] at h
    cases h
theorem keepY {x y n i : Nat} {g g' : Nat → Option Blk} {A : Option Addr} {l : List UInt8} {wa : UInt32} {v6 : Bool} {many mx : Int} (hr : Row x g 1 A n (l.map u8V)) (hl : l.length = n) (hy : g y = some (.cells (vpL (vpZ wa)) false)) (hg : ∀ p, p ≠ y → g' p = g p)
    (hy' : g' y = some (.cells (vpL ⟨wa, v6, Vr.pad (l.take i), many, mx⟩) false)) : Row x g' 1 A n (l.map u8V) := by
  refine ⟨hr.spot, hr.len, fun hN => ?_⟩
  obtain ⟨a', ce, ro', rfl, s2, s3, s4, s5⟩ := hr.cells hN
  by_cases hab : a'.block = y
  · rw [hab, hy] at s3
    injection s3 with s3; injection s3 with s31 s32
    subst s31
    have key : ∀ j, j < n → 2 ≤ a'.off + j ∧ a'.off + j < 18 ∧ l.getD j 0 = 0 := fun j hj => by
      have := s5 j hj
      rw [getD_u8 (by omega)] at this
      exact vpZ_u8 (y := l.getD j 0) this
    have hz : Vr.pad (l.take i) = List.replicate 16 0 := by
      refine List.ext_getElem (by simp [Vr.pad_len]) fun j h1 h2 => ?_
      rw [Vr.pad_len] at h1
      have e : ∀ (k : List UInt8) (h : j < k.length), k[j] = k.getD j 0 := fun k h => by simp [List.getD_eq_getElem?_getD, h]
      rw [e, Vr.pad_at _ h1, List.getElem_replicate, List.getD_eq_getElem?_getD, List.getElem?_take]
      split
      · rcases Nat.lt_or_ge j n with h3 | h3
        · have := (key j h3).2.2
          rwa [List.getD_eq_getElem?_getD] at this
        · rw [List.getElem?_eq_none (by omega)]; rfl
      · rfl
    rw [hz] at hy'
    refine ⟨a', _, false, rfl, s2, by rw [hab]; exact hy', by rw [vpL_len (by simp)]; rw [vpL_len rfl] at s4; exact s4, fun j hj => ?_⟩
    obtain ⟨h1, h2, h3⟩ := key j hj
    have a2 := vpL_at (v := ⟨wa, v6, List.replicate 16 0, many, mx⟩) (by simp) (i := a'.off + j - 2) (by omega)
    rw [show 2 + (a'.off + j - 2) = a'.off + j by omega] at a2
    rw [a2, getD_u8 (by omega)]
    have e : (List.replicate 16 (0 : UInt8)).getD (a'.off + j - 2) 0 = 0 := by
      rw [List.getD_eq_getElem?_getD, List.getElem?_replicate, if_pos (by omega)]; rfl
    show u8V ((List.replicate 16 (0 : UInt8)).getD (a'.off + j - 2) 0) = u8V (l.getD j 0)
    rw [e, h3]
  · exact ⟨a', ce, ro', rfl, s2, by rw [hg _ hab]; exact s3, s4, s5⟩
theorem pad_step {l : List UInt8} {i : Nat} (hi : i < l.length) (h16 : i < 16) : (Vr.pad (l.take i)).set i (l.getD i 0) = Vr.pad (l.take (i + 1)) := by
  refine List.ext_getElem (by simp [Vr.pad_len]) fun j h1 h2 => ?_
  rw [Vr.pad_len] at h2
  have e : ∀ (k : List UInt8) (h : j < k.length), k[j] = k.getD j 0 := fun k h => by simp [List.getD_eq_getElem?_getD, h]
  rw [List.getElem_set]
  split
  · rename_i hij
    subst hij
    rw [e, Vr.pad_at _ h2]
    simp only [List.getD_eq_getElem?_getD]
    rw [List.getElem?_take_of_lt (by omega)]
  · rw [e, e, Vr.pad_at _ h2, Vr.pad_at _ h2]
    simp only [List.getD_eq_getElem?_getD, List.getElem?_take]
    by_cases hj : j < i
    · rw [if_pos hj, if_pos (by omega)]
    · rw [if_neg hj, if_neg (by omega)]
theorem splice_step {wa : UInt32} {v6 : Bool} {many mx : Int} {l : List UInt8} {i : Nat} (hi : i < l.length) (h16 : i < 16) : splice (vpL ⟨wa, v6, Vr.pad (l.take i), many, mx⟩) (2 + i) [u8V (l.getD i 0)] = vpL ⟨wa, v6, Vr.pad (l.take (i + 1)), many, mx⟩ := by
  rw [splice_one (by rw [vpL_len (Vr.pad_len _)]; omega), ← pad_step hi h16, Nat.add_comm]
  simp only [vpL, pxL, List.cons_append, List.set_cons_succ, List.append_assoc]
  rw [List.set_append_left _ _ (by rw [List.length_map, Vr.pad_len]; exact h16), List.map_set]
theorem pad_full (l : List UInt8) {i : Nat} (h : 16 ≤ i ∨ l.length ≤ i) : Vr.pad (l.take i) = Vr.pad l := by
  refine List.ext_getElem (by simp [Vr.pad_len]) fun j h1 h2 => ?_
  rw [Vr.pad_len] at h2
  have e : ∀ (k : List UInt8) (h : j < k.length), k[j] = k.getD j 0 := fun k h => by simp [List.getD_eq_getElem?_getD, h]
  rw [e, e, Vr.pad_at _ h2, Vr.pad_at _ h2]
  simp only [List.getD_eq_getElem?_getD, List.getElem?_take]
  split
  · rfl
  · rw [List.getElem?_eq_none (by omega)]
end Go.Ga
