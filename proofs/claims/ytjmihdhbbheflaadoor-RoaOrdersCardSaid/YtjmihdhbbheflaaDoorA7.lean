/- Words and contracts of functions for the statement's proof. No condition. -/
import Derived.Test.YtjmihdhbbheflaaDoorA6
import Derived.ChangeArms
import Derived.OpenShut
import Derived.DataReads
set_option linter.all false

/- One of an AS's prefixes, read off an element. -/
namespace Go.Ga
open Go Go.Proofs
set_option linter.unusedSimpArgs false
set_option linter.unusedVariables false
set_option maxRecDepth 100000

theorem NdR.kid {nx : Nat} {gt : Nat → Option Blk} {x : Fo.El} {B : Option Addr} {m d : Nat} {A : Option Addr} {n c : Nat} {ks : List Value} (h : NdR nx gt x B m d A n c ks) {i : Nat} (hi : i < n) :
    ∃ (B' : Option Addr) (m' d' : Nat) (A' : Option Addr) (n' c' : Nat) (ks' : List Value), NdR nx gt (Vr.kid x.k i) B' m' d' A' n' c' ks' ∧ (ks.drop (i * 3)).take 3 = nodeL (Vr.kid x.k i).t B' m' d' A' n' c' ∧ (Vr.kid x.k i).f.ws ≤ x.k.ws := by
  obtain ⟨y, pre, post, B', m', d', A', n', c', ks', e1, e2, e3, e4⟩ := h.kids.at (i := i) (by have := h.len; omega)
  have hk : Vr.kid x.k i = y := by rw [e1, ← e2]; exact Vr.kid_app
  rw [hk]
  exact ⟨B', m', d', A', n', c', ks', e3, e4, Fo.ws_in e1⟩

def vp0 : Vp := ⟨0, false, List.replicate 16 0, 0, 0⟩
theorem vp0_wf : vp0.wf := ⟨rfl, by decide, by decide⟩
theorem vp0_L : vpL vp0 = [.int .u32 0, .bool false, .int .u8 0, .int .u8 0, .int .u8 0, .int .u8 0, .int .u8 0, .int .u8 0, .int .u8 0, .int .u8 0, .int .u8 0, .int .u8 0, .int .u8 0, .int .u8 0, .int .u8 0, .int .u8 0, .int .u8 0, .int .u8 0, .int .i64 0, .int .i64 0] := rfl
def OneV (r : Value) : Option Vp → Prop
  | none => ∃ v, v.wf ∧ r = .tuple #[vpV v, .bool false]
  | some v => v.wf ∧ r = .tuple #[vpV v, .bool true]

theorem pad_eq {l : List UInt8} (h : l.length ≤ 16) : Vr.pad l = l ++ List.replicate (16 - l.length) 0 := by
  refine List.ext_getElem (by simp [Vr.pad_len]; omega) fun i h1 h2 => ?_
  rw [Vr.pad_len] at h1
  have e : ∀ (k : List UInt8) (h : i < k.length), k[i] = k.getD i 0 := fun k h => by simp [List.getD_eq_getElem?_getD, h]
  rw [e, e, Vr.pad_at _ h1]
  rw [List.getD_eq_getElem?_getD, List.getD_eq_getElem?_getD]
  rcases Nat.lt_or_ge i l.length with h3 | h3
  · rw [List.getElem?_append_left h3]
  · rw [List.getElem?_append_right h3, List.getElem?_eq_none h3, List.getElem?_replicate, if_pos (by omega)]; rfl
theorem splice_pad {wa : UInt32} {v6 : Bool} {l : List UInt8} {m t : Int} (h : l.length ≤ 16) : splice (vpL ⟨wa, v6, List.replicate 16 0, m, t⟩) 2 (l.map u8V) = vpL ⟨wa, v6, Vr.pad l, m, t⟩ := by
  rw [pad_eq h]
  simp only [vpL, pxL, splice, List.length_map, List.cons_append, List.take_succ_cons, List.take_zero, List.nil_append, Nat.add_comm 2, List.drop_succ_cons, List.map_append, List.append_assoc]
  rw [List.drop_append_of_le_length (by simp; omega)]
  rw [← List.map_drop, List.drop_replicate]
theorem vp0_u8 {i : Nat} {y : UInt8} {wa : UInt32} {v6 : Bool} {m t : Int} (h : (vpL vp0).getD i undef = u8V y) : (vpL ⟨wa, v6, List.replicate 16 0, m, t⟩).getD i undef = u8V y := by
  have hi : i < 20 ∨ 20 ≤ i := by omega
  rcases hi with hi | hi
  · have : i = 0 ∨ i = 1 ∨ i = 18 ∨ i = 19 ∨ (2 ≤ i ∧ i < 18) := by omega
    rcases this with rfl | rfl | rfl | rfl | ⟨h1, h2⟩
    · cases h
    · cases h
    · cases h
    · cases h
    · have a1 := vpL_at (v := vp0) rfl (i := i - 2) (by omega)
      have a2 := vpL_at (v := ⟨wa, v6, List.replicate 16 0, m, t⟩) (by simp) (i := i - 2) (by omega)
      rw [show 2 + (i - 2) = i by omega] at a1 a2
      rw [a2, ← h, a1]
      rfl
  · rw [List.getD_eq_getElem?_getD, List.getElem?_eq_none (by rw [vpL_len rfl]; exact hi)] at h
    cases h

section
variable {nx : Nat} {gt : Nat → Option Blk}

theorem ct_one {x : Fo.El} {B : Option Addr} {m d : Nat} {A : Option Addr} {n c : Nat} {ks : List Value} {wa : UInt32} (h : NdR nx gt x B m d A n c ks) (hxw : x.f.ws < 900000) :
    Ct Tryd.prog 30 [nodeV x.t B m d A n c, u32V wa] nx gt fun r _ _ => OneV r (Vr.oneR wa x) := by
  refine Ct.of hmx r_roa_one (by simp [c_roa_one]) fun b hb => ?_
  have hnn : (nx = nx + 1) = False := by simp
  have hn1 : (nx + 1 = nx) = False := by simp
  have xw : x.f.ws = 1 + x.b.length + x.k.ws := by simp only [Fo.El.f, Fo.ws]; omega
  have hkl := h.len
  have htz : (vpL vp0).take 20 = vpL vp0 := List.take_of_length_le (by rw [vpL_len vp0_wf.a]; omega)
  have hspz : splice (vpL vp0) 0 (vpL vp0) = vpL vp0 := rfl
  simp only [c_roa_one, ↓gaW, ↓gaV, ↓gaC, ↓gaN, gaP, Nat.reduceEqDiff, Nat.reduceLeDiff, Nat.reduceAdd, Nat.reduceSub, Nat.reduceMul, Int.reduceLT, Int.reduceLE, Int.reduceEq, Int.reduceToNat, Int.reduceAdd, Int.reduceSub, Int.reduceMul, reduceCtorEq, ↓reduceIte, List.getD_cons_zero, List.getD_cons_succ, fillL, splice, List.take_zero, List.drop_zero, List.drop_succ_cons, List.take_succ_cons, List.drop_nil, List.take_nil, gaU, hnn]
  refine And.intro (by omega) ?_
  rw [← vp0_L]
  obtain ⟨g3, hg3⟩ : ∃ g', g' = upd (upd gt nx (some (.cells [Value.int .i64 x.t, .slice B m d, .slice A n c] false))) (nx + 1) (some (.cells (vpL vp0) false)) := ⟨_, rfl⟩
  rw [← hg3]
  have hb3 : g3 nx = some (.cells (nodeL x.t B m d A n c) false) := by rw [hg3]; simp only [upd_e, hnn, if_false, if_true]
  have hz3 : g3 (nx + 1) = some (.cells (vpL vp0) false) := by rw [hg3]; simp only [upd_e, if_true]
  have H3 : ∀ p, p < nx → g3 p = gt p := fun p hp => by rw [hg3]; simp only [upd_e]; rw [if_neg (by omega), if_neg (by omega)]
  clear hg3
  by_cases ht : x.t = 48
  case neg =>
    have e : Vr.oneR wa x = none := by unfold Vr.oneR; rw [if_neg fun hc => ht hc.1]
    simp only [↓gaW, ↓gaV, ↓gaC, ↓gaN, gaP, Nat.reduceEqDiff, Nat.reduceLeDiff, Nat.reduceAdd, Nat.reduceSub, Nat.reduceMul, Int.reduceLT, Int.reduceLE, Int.reduceEq, Int.reduceToNat, Int.reduceAdd, Int.reduceSub, Int.reduceMul, reduceCtorEq, ↓reduceIte, ht, not_false_eq_true, decide_true, e]
    simp only [↓gaW, ↓gaV, ↓gaC, ↓gaN, gaP, Nat.reduceEqDiff, Nat.reduceLeDiff, Nat.reduceAdd, Nat.reduceSub, Nat.reduceMul, Int.reduceLT, Int.reduceLE, Int.reduceEq, Int.reduceToNat, Int.reduceAdd, Int.reduceSub, Int.reduceMul, reduceCtorEq, ↓reduceIte, hz3, vpL_len vp0_wf.a, List.drop_zero, htz, hspz]
    repeat refine And.intro (by omega) ?_
    refine And.intro (vpL_cells _) ?_
    rw [end_r, res_cN (q := nx + 1) (o := 0) (s := none) (c := vpL vp0) (ro := false) (by simp only [↓gaW, ↓gaV, ↓gaC, ↓gaN, gaP, Nat.reduceEqDiff, Nat.reduceLeDiff, Nat.reduceAdd, Nat.reduceSub, Nat.reduceMul, Int.reduceLT, Int.reduceLE, Int.reduceEq, Int.reduceToNat, Int.reduceAdd, Int.reduceSub, Int.reduceMul, reduceCtorEq, ↓reduceIte]) (by simp only [upd_e, if_true]) (by rw [vpL_len vp0_wf.a]; omega)]
    simp only [↓gaW, ↓gaV, ↓gaC, ↓gaN, gaP, Nat.reduceEqDiff, Nat.reduceLeDiff, Nat.reduceAdd, Nat.reduceSub, Nat.reduceMul, Int.reduceLT, Int.reduceLE, Int.reduceEq, Int.reduceToNat, Int.reduceAdd, Int.reduceSub, Int.reduceMul, reduceCtorEq, ↓reduceIte, res_t, res_nil, Option.map_some, asO_e, one2, List.drop_zero, htz]
    exact ⟨by omega, fun p hp => by rw [if_neg (by omega), H3 p hp], _, vp0_wf, rfl⟩
  by_cases hn : (n : Int) = 3
  case neg =>
    have e : Vr.oneR wa x = none := by unfold Vr.oneR; rw [if_neg fun hc => hn (by rw [hkl, hc.2.1]; rfl)]
    simp only [↓gaW, ↓gaV, ↓gaC, ↓gaN, gaP, Nat.reduceEqDiff, Nat.reduceLeDiff, Nat.reduceAdd, Nat.reduceSub, Nat.reduceMul, Int.reduceLT, Int.reduceLE, Int.reduceEq, Int.reduceToNat, Int.reduceAdd, Int.reduceSub, Int.reduceMul, reduceCtorEq, ↓reduceIte, List.getD_cons_zero, List.getD_cons_succ, ht, hb3, hn, not_true_eq_false, not_false_eq_true, decide_true, decide_false, e, nodeL]
    repeat refine And.intro (by omega) ?_
    simp only [↓gaW, ↓gaV, ↓gaC, ↓gaN, gaP, Nat.reduceEqDiff, Nat.reduceLeDiff, Nat.reduceAdd, Nat.reduceSub, Nat.reduceMul, Int.reduceLT, Int.reduceLE, Int.reduceEq, Int.reduceToNat, Int.reduceAdd, Int.reduceSub, Int.reduceMul, reduceCtorEq, ↓reduceIte, hz3, vpL_len vp0_wf.a, List.drop_zero, htz, hspz]
    repeat refine And.intro (by omega) ?_
    refine And.intro (vpL_cells _) ?_
    rw [end_r, res_cN (q := nx + 1) (o := 0) (s := none) (c := vpL vp0) (ro := false) (by simp only [↓gaW, ↓gaV, ↓gaC, ↓gaN, gaP, Nat.reduceEqDiff, Nat.reduceLeDiff, Nat.reduceAdd, Nat.reduceSub, Nat.reduceMul, Int.reduceLT, Int.reduceLE, Int.reduceEq, Int.reduceToNat, Int.reduceAdd, Int.reduceSub, Int.reduceMul, reduceCtorEq, ↓reduceIte]) (by simp only [upd_e, if_true]) (by rw [vpL_len vp0_wf.a]; omega)]
    simp only [↓gaW, ↓gaV, ↓gaC, ↓gaN, gaP, Nat.reduceEqDiff, Nat.reduceLeDiff, Nat.reduceAdd, Nat.reduceSub, Nat.reduceMul, Int.reduceLT, Int.reduceLE, Int.reduceEq, Int.reduceToNat, Int.reduceAdd, Int.reduceSub, Int.reduceMul, reduceCtorEq, ↓reduceIte, res_t, res_nil, Option.map_some, asO_e, one2, List.drop_zero, htz]
    exact ⟨by omega, fun p hp => by rw [if_neg (by omega), H3 p hp], _, vp0_wf, rfl⟩
  have hn3 : n = 3 := by omega
  subst hn3
  obtain ⟨a, cl, ro, rfl, r2, r3, r4, r5⟩ := h.row.cells (by omega)
  obtain ⟨B0, m0, d0, A0, n0, c0, ks0, N0, q0, ws0⟩ := h.kid (i := 0) (by omega)
  obtain ⟨B1, m1, d1, A1, n1, c1, ks1, N1, q1, ws1⟩ := h.kid (i := 1) (by omega)
  obtain ⟨B2, m2, d2, A2, n2, c2, ks2, N2, q2, ws2⟩ := h.kid (i := 2) (by omega)
  have t0 := (h.row.load rfl r3 (j := 0 * 3) (k := 3) (by omega) (by omega)).trans q0
  have t1 := (h.row.load rfl r3 (j := 1 * 3) (k := 3) (by omega) (by omega)).trans q1
  have t2 := (h.row.load rfl r3 (j := 2 * 3) (k := 3) (by omega) (by omega)).trans q2
  simp only [Nat.zero_mul, Nat.add_zero, Nat.one_mul, Nat.reduceMul] at t0 t1 t2
  have hcl3 : g3 a.block = some (.cells cl ro) := by rw [H3 _ r2, r3]
  have M0 := N0.keep (x' := nx + 1 + 1) (g := g3) (by omega) H3
  simp only [↓gaW, ↓gaV, ↓gaC, ↓gaN, gaP, Nat.reduceEqDiff, Nat.reduceLeDiff, Nat.reduceAdd, Nat.reduceSub, Nat.reduceMul, Int.reduceLT, Int.reduceLE, Int.reduceEq, Int.reduceToNat, Int.reduceAdd, Int.reduceSub, Int.reduceMul, reduceCtorEq, ↓reduceIte, List.getD_cons_zero, List.getD_cons_succ, fillL, splice, List.take_zero, List.drop_zero, List.drop_succ_cons, List.take_succ_cons, List.drop_nil, List.take_nil, ht, hb3, nodeL, not_true_eq_false, decide_true, decide_false, hcl3, t0]
  repeat refine And.intro (by omega) ?_
  refine callK_of (ct_True M0 (by omega)) (fun v x4 g4 l4 k4 hC => ?_) (by omega)
  subst hC
  have hb4 : g4 nx = some (.cells [Value.int .i64 x.t, .slice B m d, .slice (some a) 3 c] false) := by rw [k4 nx (by omega), hb3]
  have hz4 : g4 (nx + 1) = some (.cells (vpL vp0) false) := by rw [k4 (nx + 1) (by omega), hz3]
  have hcl4 : g4 a.block = some (.cells cl ro) := by rw [k4 _ (by omega), hcl3]
  have H4 : ∀ p, p < nx → g4 p = gt p := fun p hp => by rw [k4 p (by omega), H3 p hp]
  have M1 := N1.keep (x' := x4) (g := g4) (by omega) H4
  simp only [↓gaW, ↓gaV, ↓gaC, ↓gaN, gaP, Nat.reduceEqDiff, Nat.reduceLeDiff, Nat.reduceAdd, Nat.reduceSub, Nat.reduceMul, Int.reduceLT, Int.reduceLE, Int.reduceEq, Int.reduceToNat, Int.reduceAdd, Int.reduceSub, Int.reduceMul, reduceCtorEq, ↓reduceIte, List.getD_cons_zero, List.getD_cons_succ, fillL, splice, List.take_zero, List.drop_zero, List.drop_succ_cons, List.take_succ_cons, List.drop_nil, List.take_nil, hb4, hcl4, t1]
  repeat refine And.intro (by omega) ?_
  refine callK_of (ct_Of M1 (by omega)) (fun v x5 g5 l5 k5 hC => ?_) (by omega)
  obtain ⟨u, rfl, Au, nu, cu, rfl, hcu, hlu, ru⟩ := hC
  have hb5 : g5 nx = some (.cells [Value.int .i64 x.t, .slice B m d, .slice (some a) 3 c] false) := by rw [k5 nx (by omega), hb4]
  have hz5 : g5 (nx + 1) = some (.cells (vpL vp0) false) := by rw [k5 (nx + 1) (by omega), hz4]
  have hcl5 : g5 a.block = some (.cells cl ro) := by rw [k5 _ (by omega), hcl4]
  have H5 : ∀ p, p < nx → g5 p = gt p := fun p hp => by rw [k5 p (by omega), H4 p hp]
  have M2 := N2.keep (x' := x5) (g := g5) (by omega) H5
  simp only [↓gaW, ↓gaV, ↓gaC, ↓gaN, gaP, Nat.reduceEqDiff, Nat.reduceLeDiff, Nat.reduceAdd, Nat.reduceSub, Nat.reduceMul, Int.reduceLT, Int.reduceLE, Int.reduceEq, Int.reduceToNat, Int.reduceAdd, Int.reduceSub, Int.reduceMul, reduceCtorEq, ↓reduceIte, List.getD_cons_zero, List.getD_cons_succ, fillL, splice, List.take_zero, List.drop_zero, List.drop_succ_cons, List.take_succ_cons, List.drop_nil, List.take_nil, hb5, hcl5, t2]
  repeat refine And.intro (by omega) ?_
  refine callK_of (ct_Uint M2 (by omega)) (fun v x6 g6 l6 k6 hC => ?_) (by omega)
  subst hC
  have hz6 : g6 (nx + 1) = some (.cells (vpL vp0) false) := by rw [k6 (nx + 1) (by omega), hz5]
  have H6 : ∀ p, p < nx → g6 p = gt p := fun p hp => by rw [k6 p (by omega), H5 p hp]
  have ru6 := ru.keep (nx' := x6) (gt' := g6) l6 k6
  simp only [↓gaW, ↓gaV, ↓gaC, ↓gaN, gaP, Nat.reduceEqDiff, Nat.reduceLeDiff, Nat.reduceAdd, Nat.reduceSub, Nat.reduceMul, Int.reduceLT, Int.reduceLE, Int.reduceEq, Int.reduceToNat, Int.reduceAdd, Int.reduceSub, Int.reduceMul, reduceCtorEq, ↓reduceIte, List.getD_cons_zero, List.getD_cons_succ, fillL, splice, List.take_zero, List.drop_zero, List.drop_succ_cons, List.take_succ_cons, List.drop_nil, List.take_nil]
  repeat refine And.intro (by omega) ?_
  by_cases q3 : (((trueR (Vr.kid x.k 0)).2 : Nat) : Int) = 0
  case neg =>
    have e : Vr.oneR wa x = none := by unfold Vr.oneR; rw [if_neg fun hc => q3 (by rw [hc.2.2.1]; rfl)]
    simp only [↓gaW, ↓gaV, ↓gaC, ↓gaN, gaP, Nat.reduceEqDiff, Nat.reduceLeDiff, Nat.reduceAdd, Nat.reduceSub, Nat.reduceMul, Int.reduceLT, Int.reduceLE, Int.reduceEq, Int.reduceToNat, Int.reduceAdd, Int.reduceSub, Int.reduceMul, reduceCtorEq, ↓reduceIte, q3, not_false_eq_true, decide_true, e]
    simp only [↓gaW, ↓gaV, ↓gaC, ↓gaN, gaP, Nat.reduceEqDiff, Nat.reduceLeDiff, Nat.reduceAdd, Nat.reduceSub, Nat.reduceMul, Int.reduceLT, Int.reduceLE, Int.reduceEq, Int.reduceToNat, Int.reduceAdd, Int.reduceSub, Int.reduceMul, reduceCtorEq, ↓reduceIte, hz6, vpL_len vp0_wf.a, List.drop_zero, htz, hspz]
    repeat refine And.intro (by omega) ?_
    refine And.intro (vpL_cells _) ?_
    rw [end_r, res_cN (q := nx + 1) (o := 0) (s := none) (c := vpL vp0) (ro := false) (by simp only [↓gaW, ↓gaV, ↓gaC, ↓gaN, gaP, Nat.reduceEqDiff, Nat.reduceLeDiff, Nat.reduceAdd, Nat.reduceSub, Nat.reduceMul, Int.reduceLT, Int.reduceLE, Int.reduceEq, Int.reduceToNat, Int.reduceAdd, Int.reduceSub, Int.reduceMul, reduceCtorEq, ↓reduceIte]) (by simp only [upd_e, if_true]) (by rw [vpL_len vp0_wf.a]; omega)]
    simp only [↓gaW, ↓gaV, ↓gaC, ↓gaN, gaP, Nat.reduceEqDiff, Nat.reduceLeDiff, Nat.reduceAdd, Nat.reduceSub, Nat.reduceMul, Int.reduceLT, Int.reduceLE, Int.reduceEq, Int.reduceToNat, Int.reduceAdd, Int.reduceSub, Int.reduceMul, reduceCtorEq, ↓reduceIte, res_t, res_nil, Option.map_some, asO_e, one2, List.drop_zero, htz]
    exact ⟨by omega, fun p hp => by rw [if_neg (by omega), H6 p hp], _, vp0_wf, rfl⟩
  by_cases q4 : (((ofR (Vr.kid x.k 1)).2.2 : Nat) : Int) = 0
  case neg =>
    have e : Vr.oneR wa x = none := by unfold Vr.oneR; rw [if_neg fun hc => q4 (by rw [hc.2.2.2.1]; rfl)]
    simp only [↓gaW, ↓gaV, ↓gaC, ↓gaN, gaP, Nat.reduceEqDiff, Nat.reduceLeDiff, Nat.reduceAdd, Nat.reduceSub, Nat.reduceMul, Int.reduceLT, Int.reduceLE, Int.reduceEq, Int.reduceToNat, Int.reduceAdd, Int.reduceSub, Int.reduceMul, reduceCtorEq, ↓reduceIte, q3, q4, not_true_eq_false, decide_false, not_false_eq_true, decide_true, e]
    simp only [↓gaW, ↓gaV, ↓gaC, ↓gaN, gaP, Nat.reduceEqDiff, Nat.reduceLeDiff, Nat.reduceAdd, Nat.reduceSub, Nat.reduceMul, Int.reduceLT, Int.reduceLE, Int.reduceEq, Int.reduceToNat, Int.reduceAdd, Int.reduceSub, Int.reduceMul, reduceCtorEq, ↓reduceIte, hz6, vpL_len vp0_wf.a, List.drop_zero, htz, hspz]
    repeat refine And.intro (by omega) ?_
    refine And.intro (vpL_cells _) ?_
    rw [end_r, res_cN (q := nx + 1) (o := 0) (s := none) (c := vpL vp0) (ro := false) (by simp only [↓gaW, ↓gaV, ↓gaC, ↓gaN, gaP, Nat.reduceEqDiff, Nat.reduceLeDiff, Nat.reduceAdd, Nat.reduceSub, Nat.reduceMul, Int.reduceLT, Int.reduceLE, Int.reduceEq, Int.reduceToNat, Int.reduceAdd, Int.reduceSub, Int.reduceMul, reduceCtorEq, ↓reduceIte]) (by simp only [upd_e, if_true]) (by rw [vpL_len vp0_wf.a]; omega)]
    simp only [↓gaW, ↓gaV, ↓gaC, ↓gaN, gaP, Nat.reduceEqDiff, Nat.reduceLeDiff, Nat.reduceAdd, Nat.reduceSub, Nat.reduceMul, Int.reduceLT, Int.reduceLE, Int.reduceEq, Int.reduceToNat, Int.reduceAdd, Int.reduceSub, Int.reduceMul, reduceCtorEq, ↓reduceIte, res_t, res_nil, Option.map_some, asO_e, one2, List.drop_zero, htz]
    exact ⟨by omega, fun p hp => by rw [if_neg (by omega), H6 p hp], _, vp0_wf, rfl⟩
  by_cases q5 : (((uintR (Vr.kid x.k 2)).2 : Nat) : Int) = 0
  case neg =>
    have e : Vr.oneR wa x = none := by unfold Vr.oneR; rw [if_neg fun hc => q5 (by rw [hc.2.2.2.2.1]; rfl)]
    simp only [↓gaW, ↓gaV, ↓gaC, ↓gaN, gaP, Nat.reduceEqDiff, Nat.reduceLeDiff, Nat.reduceAdd, Nat.reduceSub, Nat.reduceMul, Int.reduceLT, Int.reduceLE, Int.reduceEq, Int.reduceToNat, Int.reduceAdd, Int.reduceSub, Int.reduceMul, reduceCtorEq, ↓reduceIte, q3, q4, q5, not_true_eq_false, decide_false, not_false_eq_true, decide_true, e]
    simp only [↓gaW, ↓gaV, ↓gaC, ↓gaN, gaP, Nat.reduceEqDiff, Nat.reduceLeDiff, Nat.reduceAdd, Nat.reduceSub, Nat.reduceMul, Int.reduceLT, Int.reduceLE, Int.reduceEq, Int.reduceToNat, Int.reduceAdd, Int.reduceSub, Int.reduceMul, reduceCtorEq, ↓reduceIte, hz6, vpL_len vp0_wf.a, List.drop_zero, htz, hspz]
    repeat refine And.intro (by omega) ?_
    refine And.intro (vpL_cells _) ?_
    rw [end_r, res_cN (q := nx + 1) (o := 0) (s := none) (c := vpL vp0) (ro := false) (by simp only [↓gaW, ↓gaV, ↓gaC, ↓gaN, gaP, Nat.reduceEqDiff, Nat.reduceLeDiff, Nat.reduceAdd, Nat.reduceSub, Nat.reduceMul, Int.reduceLT, Int.reduceLE, Int.reduceEq, Int.reduceToNat, Int.reduceAdd, Int.reduceSub, Int.reduceMul, reduceCtorEq, ↓reduceIte]) (by simp only [upd_e, if_true]) (by rw [vpL_len vp0_wf.a]; omega)]
    simp only [↓gaW, ↓gaV, ↓gaC, ↓gaN, gaP, Nat.reduceEqDiff, Nat.reduceLeDiff, Nat.reduceAdd, Nat.reduceSub, Nat.reduceMul, Int.reduceLT, Int.reduceLE, Int.reduceEq, Int.reduceToNat, Int.reduceAdd, Int.reduceSub, Int.reduceMul, reduceCtorEq, ↓reduceIte, res_t, res_nil, Option.map_some, asO_e, one2, List.drop_zero, htz]
    exact ⟨by omega, fun p hp => by rw [if_neg (by omega), H6 p hp], _, vp0_wf, rfl⟩
  by_cases q6 : (16 : Int) < ((nu : Nat) : Int)
  · have e : Vr.oneR wa x = none := by unfold Vr.oneR; rw [if_neg fun hc => by have := hc.2.2.2.2.2.1; omega]
    simp only [↓gaW, ↓gaV, ↓gaC, ↓gaN, gaP, Nat.reduceEqDiff, Nat.reduceLeDiff, Nat.reduceAdd, Nat.reduceSub, Nat.reduceMul, Int.reduceLT, Int.reduceLE, Int.reduceEq, Int.reduceToNat, Int.reduceAdd, Int.reduceSub, Int.reduceMul, reduceCtorEq, ↓reduceIte, q3, q4, q5, q6, not_true_eq_false, decide_false, decide_true, e]
    simp only [↓gaW, ↓gaV, ↓gaC, ↓gaN, gaP, Nat.reduceEqDiff, Nat.reduceLeDiff, Nat.reduceAdd, Nat.reduceSub, Nat.reduceMul, Int.reduceLT, Int.reduceLE, Int.reduceEq, Int.reduceToNat, Int.reduceAdd, Int.reduceSub, Int.reduceMul, reduceCtorEq, ↓reduceIte, hz6, vpL_len vp0_wf.a, List.drop_zero, htz, hspz]
    repeat refine And.intro (by omega) ?_
    refine And.intro (vpL_cells _) ?_
    rw [end_r, res_cN (q := nx + 1) (o := 0) (s := none) (c := vpL vp0) (ro := false) (by simp only [↓gaW, ↓gaV, ↓gaC, ↓gaN, gaP, Nat.reduceEqDiff, Nat.reduceLeDiff, Nat.reduceAdd, Nat.reduceSub, Nat.reduceMul, Int.reduceLT, Int.reduceLE, Int.reduceEq, Int.reduceToNat, Int.reduceAdd, Int.reduceSub, Int.reduceMul, reduceCtorEq, ↓reduceIte]) (by simp only [upd_e, if_true]) (by rw [vpL_len vp0_wf.a]; omega)]
    simp only [↓gaW, ↓gaV, ↓gaC, ↓gaN, gaP, Nat.reduceEqDiff, Nat.reduceLeDiff, Nat.reduceAdd, Nat.reduceSub, Nat.reduceMul, Int.reduceLT, Int.reduceLE, Int.reduceEq, Int.reduceToNat, Int.reduceAdd, Int.reduceSub, Int.reduceMul, reduceCtorEq, ↓reduceIte, res_t, res_nil, Option.map_some, asO_e, one2, List.drop_zero, htz]
    exact ⟨by omega, fun p hp => by rw [if_neg (by omega), H6 p hp], _, vp0_wf, rfl⟩
  by_cases q7 : (128 : Int) < (((uintR (Vr.kid x.k 2)).1 : Nat) : Int)
  · have e : Vr.oneR wa x = none := by unfold Vr.oneR; rw [if_neg fun hc => by have := hc.2.2.2.2.2.2; omega]
    simp only [↓gaW, ↓gaV, ↓gaC, ↓gaN, gaP, Nat.reduceEqDiff, Nat.reduceLeDiff, Nat.reduceAdd, Nat.reduceSub, Nat.reduceMul, Int.reduceLT, Int.reduceLE, Int.reduceEq, Int.reduceToNat, Int.reduceAdd, Int.reduceSub, Int.reduceMul, reduceCtorEq, ↓reduceIte, q3, q4, q5, q6, q7, not_true_eq_false, decide_false, decide_true, e]
    simp only [↓gaW, ↓gaV, ↓gaC, ↓gaN, gaP, Nat.reduceEqDiff, Nat.reduceLeDiff, Nat.reduceAdd, Nat.reduceSub, Nat.reduceMul, Int.reduceLT, Int.reduceLE, Int.reduceEq, Int.reduceToNat, Int.reduceAdd, Int.reduceSub, Int.reduceMul, reduceCtorEq, ↓reduceIte, hz6, vpL_len vp0_wf.a, List.drop_zero, htz, hspz]
    repeat refine And.intro (by omega) ?_
    refine And.intro (vpL_cells _) ?_
    rw [end_r, res_cN (q := nx + 1) (o := 0) (s := none) (c := vpL vp0) (ro := false) (by simp only [↓gaW, ↓gaV, ↓gaC, ↓gaN, gaP, Nat.reduceEqDiff, Nat.reduceLeDiff, Nat.reduceAdd, Nat.reduceSub, Nat.reduceMul, Int.reduceLT, Int.reduceLE, Int.reduceEq, Int.reduceToNat, Int.reduceAdd, Int.reduceSub, Int.reduceMul, reduceCtorEq, ↓reduceIte]) (by simp only [upd_e, if_true]) (by rw [vpL_len vp0_wf.a]; omega)]
    simp only [↓gaW, ↓gaV, ↓gaC, ↓gaN, gaP, Nat.reduceEqDiff, Nat.reduceLeDiff, Nat.reduceAdd, Nat.reduceSub, Nat.reduceMul, Int.reduceLT, Int.reduceLE, Int.reduceEq, Int.reduceToNat, Int.reduceAdd, Int.reduceSub, Int.reduceMul, reduceCtorEq, ↓reduceIte, res_t, res_nil, Option.map_some, asO_e, one2, List.drop_zero, htz]
    exact ⟨by omega, fun p hp => by rw [if_neg (by omega), H6 p hp], _, vp0_wf, rfl⟩
  obtain ⟨top, htop⟩ : ∃ top, top = (uintR (Vr.kid x.k 2)).1 := ⟨_, rfl⟩
  obtain ⟨many, hmany⟩ : ∃ many, many = (ofR (Vr.kid x.k 1)).2.1 := ⟨_, rfl⟩
  obtain ⟨v6, hv6⟩ : ∃ v6, v6 = (trueR (Vr.kid x.k 0)).1 := ⟨_, rfl⟩
  obtain ⟨l, hl⟩ : ∃ l, l = (ofR (Vr.kid x.k 1)).1 := ⟨_, rfl⟩
  rw [← htop] at q7
  rw [← hl] at hlu ru6
  have wt : IntKind.i64.wrap (top : Int) = (top : Int) := i64_w _ (by omega)
  obtain ⟨_, m0', m1', m2'⟩ := Vr.bits_in (Vr.of_ok (x := Vr.kid x.k 1) (by omega))
  rw [← hmany] at m0' m1' m2'
  rw [← hl] at m1' m2'
  have e : Vr.oneR wa x = some ⟨wa, v6, Vr.pad l, many, top⟩ := by
    unfold Vr.oneR
    rw [if_pos ⟨ht, by rw [← hkl], by omega, by omega, by omega, by rw [← hl]; omega, by rw [← htop]; omega⟩, hl, hmany, hv6, htop]
  have hvw : (⟨wa, v6, Vr.pad l, many, top⟩ : Vp).wf := ⟨Vr.pad_len _, by simp only; omega, by simp only; omega⟩
  rw [e]
  have hz6L := hz6
  rw [vp0_L] at hz6L
  have hlit : ([u32V wa, .bool v6, .int .u8 0, .int .u8 0, .int .u8 0, .int .u8 0, .int .u8 0, .int .u8 0, .int .u8 0, .int .u8 0, .int .u8 0, .int .u8 0, .int .u8 0, .int .u8 0, .int .u8 0, .int .u8 0, .int .u8 0, .int .u8 0, .int .i64 many, .int .i64 (top : Nat)] : List Value) = vpL ⟨wa, v6, List.replicate 16 0, many, top⟩ := rfl
  have hll : (vpL ⟨wa, v6, List.replicate 16 0, many, (top : Nat)⟩).length = 20 := vpL_len rfl
  have hdd : List.drop 20 ([.int .u32 0, .bool false, .int .u8 0, .int .u8 0, .int .u8 0, .int .u8 0, .int .u8 0, .int .u8 0, .int .u8 0, .int .u8 0, .int .u8 0, .int .u8 0, .int .u8 0, .int .u8 0, .int .u8 0, .int .u8 0, .int .u8 0, .int .u8 0, .int .i64 0, .int .i64 0] : List Value) = [] := rfl
  have hmin : nu.min 16 = nu := Nat.min_eq_left (by omega)
  simp only [↓gaW, ↓gaV, ↓gaC, ↓gaN, gaP, Nat.reduceEqDiff, Nat.reduceLeDiff, Nat.reduceAdd, Nat.reduceSub, Nat.reduceMul, Int.reduceLT, Int.reduceLE, Int.reduceEq, Int.reduceToNat, Int.reduceAdd, Int.reduceSub, Int.reduceMul, reduceCtorEq, ↓reduceIte, List.getD_cons_zero, List.getD_cons_succ, fillL, splice, List.take_zero, List.drop_zero, List.drop_succ_cons, List.take_succ_cons, List.drop_nil, List.take_nil, gaU, q3, q4, q5, q6, ← htop, ← hmany, ← hv6, q7, wt, not_true_eq_false, decide_false, decide_true, hz6L, vp0_L, hlit, hll, hdd, hmin]
  repeat refine And.intro (by omega) ?_
  refine And.intro (vpL_cells _) ?_
  obtain ⟨g7, hg7⟩ : ∃ g', g' = upd g6 (nx + 1) (some (.cells (vpL ⟨wa, v6, List.replicate 16 0, many, (top : Nat)⟩) false)) := ⟨_, rfl⟩
  rw [← hg7]
  have hz7 : g7 (nx + 1) = some (.cells (vpL ⟨wa, v6, List.replicate 16 0, many, (top : Nat)⟩) false) := by rw [hg7]; simp only [upd_e, if_true]
  have G7 : ∀ p, p ≠ nx + 1 → g7 p = g6 p := fun p hp => by rw [hg7]; simp only [upd_e]; rw [if_neg hp]
  have ru7 : Row x6 g7 1 Au nu (l.map u8V) := by
    refine ⟨ru6.spot, ru6.len, fun hN => ?_⟩
    obtain ⟨a', ce, ro', rfl, s2, s3, s4, s5⟩ := ru6.cells hN
    by_cases hab : a'.block = nx + 1
    · rw [hab, hz6] at s3
      injection s3 with s3; injection s3 with s31 s32
      subst s31
      refine ⟨a', _, false, rfl, s2, by rw [hab]; exact hz7, by rw [hll]; rw [vpL_len vp0_wf.a] at s4; exact s4, fun i hi => ?_⟩
      have := s5 i hi
      rw [getD_u8 (by omega)] at this ⊢
      exact vp0_u8 (y := l.getD i 0) this
    · exact ⟨a', ce, ro', rfl, s2, by rw [G7 _ hab]; exact s3, s4, s5⟩
  have e7 : rowOf ⟨x6, b, g7⟩ Au nu = some (l.map u8V) := ru7.rowOf
  rw [e7]
  simp only [asO_e]
  have hspl := splice_pad (wa := wa) (v6 := v6) (l := l) (m := many) (t := (top : Nat)) (by omega)
  have fin : ∀ (g8 : Nat → Option Blk) (F : Regs), F 4 = .pointer (some ⟨nx + 1, 0, none⟩) → F 5 = .bool true → g8 (nx + 1) = some (.cells (vpL ⟨wa, v6, Vr.pad l, many, (top : Nat)⟩) false) → (∀ p, p ≠ nx + 1 → g8 p = g6 p) →
      endK [RVar.cN 4 20, RVar.t 5] b nx gt (fun r x x_2 => OneV r (some ⟨wa, v6, Vr.pad l, many, (top : Nat)⟩)) .ret F ⟨x6, b, g8⟩ := fun g8 F f4 f5 hz8 G8 => by
    rw [end_r, res_cN (q := nx + 1) (o := 0) (s := none) (c := vpL ⟨wa, v6, Vr.pad l, many, (top : Nat)⟩) (ro := false) f4 hz8 (by rw [vpL_len hvw.a]; omega)]
    simp only [↓gaW, ↓gaV, ↓gaC, ↓gaN, gaP, Nat.reduceEqDiff, Nat.reduceLeDiff, Nat.reduceAdd, Nat.reduceSub, Nat.reduceMul, Int.reduceLT, Int.reduceLE, Int.reduceEq, Int.reduceToNat, Int.reduceAdd, Int.reduceSub, Int.reduceMul, reduceCtorEq, ↓reduceIte, res_t, res_nil, Option.map_some, asO_e, one2, List.drop_zero, f5]
    rw [List.take_of_length_le (by rw [vpL_len hvw.a]; omega)]
    exact ⟨by omega, fun p hp => by rw [G8 p (by omega), H6 p hp], hvw, rfl⟩
  have htk : (vpL ⟨wa, v6, Vr.pad l, many, (top : Nat)⟩).take 20 = vpL ⟨wa, v6, Vr.pad l, many, (top : Nat)⟩ := List.take_of_length_le (by rw [vpL_len hvw.a]; omega)
  have hsp20 : splice (vpL ⟨wa, v6, Vr.pad l, many, (top : Nat)⟩) 0 (vpL ⟨wa, v6, Vr.pad l, many, (top : Nat)⟩) = vpL ⟨wa, v6, Vr.pad l, many, (top : Nat)⟩ := by
    unfold splice
    rw [List.take_zero, List.nil_append, List.drop_of_length_le (by omega), List.append_nil]
  by_cases hn0 : nu = 0
  · subst hn0
    have hl0 : l = [] := List.eq_nil_of_length_eq_zero hlu
    rw [hl0, List.map_nil] at hspl
    have hsp0 : ∀ k : List Value, splice k 2 [] = k := fun k => by unfold splice; simp
    rw [hsp0, ← hl0] at hspl
    rw [hspl] at hz7
    simp only [↓gaW, ↓gaV, ↓gaC, ↓gaN, gaP, Nat.reduceEqDiff, Nat.reduceLeDiff, Nat.reduceAdd, Nat.reduceSub, Nat.reduceMul, Int.reduceLT, Int.reduceLE, Int.reduceEq, Int.reduceToNat, Int.reduceAdd, Int.reduceSub, Int.reduceMul, reduceCtorEq, ↓reduceIte, gaU, hz7, vpL_len hvw.a, htk, hsp20]
    repeat refine And.intro (by omega) ?_
    refine And.intro (vpL_cells _) ?_
    exact fin _ _ (by simp only [↓gaW, ↓gaV, ↓gaC, ↓gaN, gaP, Nat.reduceEqDiff, Nat.reduceLeDiff, Nat.reduceAdd, Nat.reduceSub, Nat.reduceMul, Int.reduceLT, Int.reduceLE, Int.reduceEq, Int.reduceToNat, Int.reduceAdd, Int.reduceSub, Int.reduceMul, reduceCtorEq, ↓reduceIte]) (by simp only [↓gaW, ↓gaV, ↓gaC, ↓gaN, gaP, Nat.reduceEqDiff, Nat.reduceLeDiff, Nat.reduceAdd, Nat.reduceSub, Nat.reduceMul, Int.reduceLT, Int.reduceLE, Int.reduceEq, Int.reduceToNat, Int.reduceAdd, Int.reduceSub, Int.reduceMul, reduceCtorEq, ↓reduceIte]) (by simp only [upd_e, if_true]) fun p hp => by simp only [upd_e]; rw [if_neg hp, G7 p hp]
  · rw [cpK_s hn0]
    simp only [↓gaW, ↓gaV, ↓gaC, ↓gaN, gaP, Nat.reduceEqDiff, Nat.reduceLeDiff, Nat.reduceAdd, Nat.reduceSub, Nat.reduceMul, Int.reduceLT, Int.reduceLE, Int.reduceEq, Int.reduceToNat, Int.reduceAdd, Int.reduceSub, Int.reduceMul, reduceCtorEq, ↓reduceIte, gaU, hz7, hspl, hll, List.length_map, vpL_len hvw.a, htk, hsp20]
    refine And.intro (by omega) (And.intro (by omega) (And.intro (all_u8 _) (And.intro (by omega) (And.intro (vpL_cells _) ?_))))
    exact fin _ _ (by simp only [↓gaW, ↓gaV, ↓gaC, ↓gaN, gaP, Nat.reduceEqDiff, Nat.reduceLeDiff, Nat.reduceAdd, Nat.reduceSub, Nat.reduceMul, Int.reduceLT, Int.reduceLE, Int.reduceEq, Int.reduceToNat, Int.reduceAdd, Int.reduceSub, Int.reduceMul, reduceCtorEq, ↓reduceIte]) (by simp only [↓gaW, ↓gaV, ↓gaC, ↓gaN, gaP, Nat.reduceEqDiff, Nat.reduceLeDiff, Nat.reduceAdd, Nat.reduceSub, Nat.reduceMul, Int.reduceLT, Int.reduceLE, Int.reduceEq, Int.reduceToNat, Int.reduceAdd, Int.reduceSub, Int.reduceMul, reduceCtorEq, ↓reduceIte]) (by simp only [upd_e, if_true]) fun p hp => by simp only [upd_e]; rw [if_neg hp, if_neg hp, G7 p hp]
end
end Go.Ga

/- Read. -/
namespace Go.Ga
open Go Go.Proofs
set_option linter.unusedSimpArgs false
set_option linter.unusedVariables false
set_option maxRecDepth 100000
attribute [local irreducible] appendK

theorem Fo.ws_bs {f : Fo} (h : f.rs) : f.ws ≤ f.bs := by
  induction f with
  | nil => simp [Fo.ws, Fo.bs]
  | cons t b k r ih1 ih2 =>
    obtain ⟨⟨h1, h2, h3⟩, h4, h5⟩ := h
    have i1 := ih1 h4
    have i2 := ih2 h5
    simp only [Fo.ws, Fo.bs]
    cases hh : Fo.has t with
    | true =>
      have := Fo.hn_le k.bs
      rw [h2 hh]
      simp only [List.length_nil, if_true]; omega
    | false =>
      have := Fo.hn_le b.length
      rw [h3 hh]
      simp only [Fo.ws, Bool.false_eq_true, if_false]; omega
theorem Fo.rd_ws {l : List UInt8} {x : Fo.El} (h : Fo.rd l = .ok x) : x.f.ws ≤ 20000 ∧ -9223372036854775808 ≤ x.t ∧ x.f.rs := by
  obtain ⟨h1, h2, h3, h4⟩ := Fo.wr_ok (Fo.wr_rd h)
  have := Fo.ws_bs h1
  have h5 := h1.1.1
  unfold Fo.tag at h5
  exact ⟨by omega, by omega, h1⟩
namespace Vr
theorem goR_app {f : Fo.El → Option Vp} : ∀ {p q : Fo} {d : List Vp}, goR f p = some d → goR f (p.app q) = (goR f q).map (d ++ ·)
  | .nil, q, d, h => by
    simp only [goR, Option.some.injEq] at h
    subst h
    simp [Fo.app]
  | .cons t b k r, q, d, h => by
    simp only [goR, Fo.app] at h ⊢
    split at h
    · cases h
    · rename_i v hv
      cases hr : goR f r with
      | none => rw [hr] at h; cases h
      | some d' =>
        rw [hr] at h
        simp only [Option.map_some, Option.some.injEq] at h
        subst h
        rw [goR_app hr, Option.map_map]
        rfl
theorem goR_snoc {f : Fo.El → Option Vp} {p : Fo} {d : List Vp} {y : Fo.El} {v : Vp} (h : goR f p = some d) (hy : f y = some v) : goR f (p.app y.f) = some (d ++ [v]) := by
  rw [goR_app h]
  show (goR f (.cons y.t y.b y.k .nil)).map _ = _
  have : f ⟨y.t, y.b, y.k⟩ = some v := hy
  simp [goR, this]
theorem goR_none {f : Fo.El → Option Vp} {p q : Fo} {d : List Vp} {y : Fo.El} (h : goR f p = some d) (hy : f y = none) : goR f (p.app (.cons y.t y.b y.k q)) = none := by
  rw [goR_app h]
  have : f ⟨y.t, y.b, y.k⟩ = none := hy
  simp [goR, this]
end Vr

/-- Prefixes, or an error. -/
def ReadL (nx : Nat) (g : Nat → Option Blk) (v : Value) : Except Nat (List Vp) → Prop
  | .error e => v = .tuple #[.slice none 0 0, .int .i64 (e : Nat)]
  | .ok l => ∃ A N, v = .tuple #[.slice A N N, .int .i64 0] ∧ VpR nx g A N l

section
variable {nx : Nat} {gt : Nat → Option Blk}

theorem ct_RRead {A : Option Addr} {n c : Nat} {l : List UInt8} (hA : Row nx gt 1 A n (l.map u8V)) (hc : n ≤ c) (hn : n ≤ 1000000) : Ct Tryd.prog 11 [.slice A n c] nx gt fun r x g => ReadL x g r (Vr.progR l) := by
  refine Ct.of hmx r_roa_Read (by simp [c_roa_Read]) fun b hb => ?_
  simp only [c_roa_Read, ↓gaW, ↓gaV, ↓gaC, ↓gaN, gaP, Nat.reduceEqDiff, Nat.reduceLeDiff, Nat.reduceAdd, Nat.reduceSub, Nat.reduceMul, Int.reduceLT, Int.reduceLE, Int.reduceEq, Int.reduceToNat, Int.reduceAdd, Int.reduceSub, Int.reduceMul, reduceCtorEq, ↓reduceIte]
  refine callK_of (ct_Read hA hc hn) (fun v x1 g1 l1 k1 hC => ?_) (by omega)
  cases hrd : Fo.rd l with
  | error e =>
    rw [hrd] at hC
    have hC : v = _ := hC
    subst hC
    have e0 : e ≠ 0 := by
      rintro rfl
      unfold Fo.rd at hrd
      split at hrd
      · cases hrd
      · split at hrd
        · rename_i e' he
          injection hrd with hrd
          have := Fo.elem_errs he
          omega
        · split at hrd <;> cases hrd
    have e0i : ¬ ((e : Nat) : Int) = 0 := by omega
    have er : Vr.progR l = .error e := by unfold Vr.progR; rw [hrd]
    simp only [↓gaW, ↓gaV, ↓gaC, ↓gaN, gaP, Nat.reduceEqDiff, Nat.reduceLeDiff, Nat.reduceAdd, Nat.reduceSub, Nat.reduceMul, Int.reduceLT, Int.reduceLE, Int.reduceEq, Int.reduceToNat, Int.reduceAdd, Int.reduceSub, Int.reduceMul, reduceCtorEq, ↓reduceIte, List.getD_cons_zero, List.getD_cons_succ, fillL, splice, List.take_zero, List.drop_zero, List.drop_succ_cons, List.take_succ_cons, List.drop_nil, List.take_nil]
    repeat refine And.intro (by omega) ?_
    refine And.intro (node_cells _ _ _ _ _ _ _) ?_
    simp only [↓gaW, ↓gaV, ↓gaC, ↓gaN, gaP, Nat.reduceEqDiff, Nat.reduceLeDiff, Nat.reduceAdd, Nat.reduceSub, Nat.reduceMul, Int.reduceLT, Int.reduceLE, Int.reduceEq, Int.reduceToNat, Int.reduceAdd, Int.reduceSub, Int.reduceMul, reduceCtorEq, ↓reduceIte, e0i, not_false_eq_true, decide_true, gaE, er]
    exact ⟨by omega, fun p hp => by rw [if_neg (by omega), if_neg (by omega), k1 p hp], rfl⟩
  | ok y =>
  rw [hrd] at hC
  obtain ⟨B, m, d, A0, n0, c0, ks, rfl, N0⟩ := hC
  obtain ⟨hws, _, hrs⟩ := Fo.rd_ws hrd
  simp only [↓gaW, ↓gaV, ↓gaC, ↓gaN, gaP, Nat.reduceEqDiff, Nat.reduceLeDiff, Nat.reduceAdd, Nat.reduceSub, Nat.reduceMul, Int.reduceLT, Int.reduceLE, Int.reduceEq, Int.reduceToNat, Int.reduceAdd, Int.reduceSub, Int.reduceMul, reduceCtorEq, ↓reduceIte, List.getD_cons_zero, List.getD_cons_succ, fillL, splice, List.take_zero, List.drop_zero, List.drop_succ_cons, List.take_succ_cons, List.drop_nil, List.take_nil]
  repeat refine And.intro (by omega) ?_
  refine And.intro (node_cells _ _ _ _ _ _ _) ?_
  obtain ⟨g2, hg2⟩ : ∃ g', g' = upd (upd g1 x1 (some (.cells [Value.int .i64 0, .slice none 0 0, .slice none 0 0] false))) x1 (some (.cells (nodeL y.t B m d A0 n0 c0) false)) := ⟨_, rfl⟩
  have hb2 : g2 x1 = some (.cells (nodeL y.t B m d A0 n0 c0) false) := by rw [hg2]; simp only [upd_e, if_true]
  have G2 : ∀ p, p < x1 → g2 p = g1 p := fun p hp => by rw [hg2]; simp only [upd_e]; rw [if_neg (by omega), if_neg (by omega)]
  have F2 : ∀ p, p < nx → g2 p = gt p := fun p hp => by rw [G2 p (by omega), k1 p hp]
  have hgg : upd (upd g1 x1 (some (Blk.cells [Value.int .i64 0, .slice none 0 0, .slice none 0 0] false))) x1 (some (.cells [Value.int .i64 y.t, .slice B m d, .slice A0 n0 c0] false)) = g2 := hg2.symm
  simp only [↓gaW, ↓gaV, ↓gaC, ↓gaN, gaP, Nat.reduceEqDiff, Nat.reduceLeDiff, Nat.reduceAdd, Nat.reduceSub, Nat.reduceMul, Int.reduceLT, Int.reduceLE, Int.reduceEq, Int.reduceToNat, Int.reduceAdd, Int.reduceSub, Int.reduceMul, reduceCtorEq, ↓reduceIte, hgg, not_true_eq_false, decide_false]
  clear hg2 hgg
  have N2 := N0.keep (x' := x1 + 1) (g := g2) (by omega) G2
  refine And.intro (by omega) ?_
  have bad : ¬ (y.t = 48 ∧ y.k.len = 2 ∧ (Vr.kid y.k 1).t = 48 ∧ (uintR (Vr.kid y.k 0)).2 = 0 ∧ (uintR (Vr.kid y.k 0)).1 < 4294967296) → Vr.progR l = .error 2 := fun h => by
    unfold Vr.progR
    rw [hrd]
    simp only
    rw [if_neg h]
  have hkl := N0.len
  by_cases ht : y.t = 48
  case neg =>
    have er := bad fun h => ht h.1
    simp only [↓gaW, ↓gaV, ↓gaC, ↓gaN, gaP, Nat.reduceEqDiff, Nat.reduceLeDiff, Nat.reduceAdd, Nat.reduceSub, Nat.reduceMul, Int.reduceLT, Int.reduceLE, Int.reduceEq, Int.reduceToNat, Int.reduceAdd, Int.reduceSub, Int.reduceMul, reduceCtorEq, ↓reduceIte, ht, not_false_eq_true, decide_true, gaE, er]
    exact ⟨by omega, F2, rfl⟩
  by_cases hn2 : (n0 : Int) = 2
  case neg =>
    have er := bad fun h => hn2 (by rw [hkl, h.2.1]; rfl)
    simp only [↓gaW, ↓gaV, ↓gaC, ↓gaN, gaP, Nat.reduceEqDiff, Nat.reduceLeDiff, Nat.reduceAdd, Nat.reduceSub, Nat.reduceMul, Int.reduceLT, Int.reduceLE, Int.reduceEq, Int.reduceToNat, Int.reduceAdd, Int.reduceSub, Int.reduceMul, reduceCtorEq, ↓reduceIte, List.getD_cons_zero, List.getD_cons_succ, hb2, ht, hn2, not_true_eq_false, not_false_eq_true, decide_true, decide_false, gaE, er]
    refine And.intro (by omega) ?_
    refine And.intro (by omega) ?_
    refine And.intro F2 ?_
    repeat refine And.intro (by omega) ?_
    exact rfl
  have hn2' : n0 = 2 := by omega
  subst hn2'
  obtain ⟨a, cl, ro, rfl, r2, r3, r4, r5⟩ := N2.row.cells (by omega)
  obtain ⟨B3, m3, d3, A3, n3, c3, ks3, M0, q0, ws0⟩ := N2.kid (i := 0) (by omega)
  obtain ⟨B4, m4, d4, A4, n4, c4, ks4, M1, q1, ws1⟩ := N2.kid (i := 1) (by omega)
  have t0 := (N2.row.load rfl r3 (j := 0 * 3) (k := 3) (by omega) (by omega)).trans q0
  have t1 := (N2.row.load rfl r3 (j := 1 * 3) (k := 3) (by omega) (by omega)).trans q1
  simp only [Nat.zero_mul, Nat.add_zero, Nat.one_mul] at t0 t1
  have yw : y.f.ws = 1 + y.b.length + y.k.ws := by simp only [Fo.El.f, Fo.ws]; omega
  have cell : ∀ j v, j < 3 → (nodeL (Vr.kid y.k 1).t B4 m4 d4 A4 n4 c4).getD j undef = v → cl.getD (a.off + 3 + j) undef = v := fun j v hj h => by
    rw [← h, ← t1, List.getD_eq_getElem?_getD, List.getD_eq_getElem?_getD, List.getElem?_take_of_lt hj, List.getElem?_drop]
  have ct := cell 0 (.int .i64 (Vr.kid y.k 1).t) (by omega) rfl
  have ck := cell 2 (.slice A4 n4 c4) (by omega) rfl
  simp only [Nat.add_zero] at ct
  by_cases ht1 : (Vr.kid y.k 1).t = 48
  case neg =>
    have er := bad fun h => ht1 h.2.2.1
    simp only [↓gaW, ↓gaV, ↓gaC, ↓gaN, gaP, Nat.reduceEqDiff, Nat.reduceLeDiff, Nat.reduceAdd, Nat.reduceSub, Nat.reduceMul, Int.reduceLT, Int.reduceLE, Int.reduceEq, Int.reduceToNat, Int.reduceAdd, Int.reduceSub, Int.reduceMul, reduceCtorEq, ↓reduceIte, List.getD_cons_zero, List.getD_cons_succ, hb2, r3, ct, ht, ht1, not_true_eq_false, not_false_eq_true, decide_true, decide_false, gaE, er]
    repeat refine And.intro (by omega) ?_
    exact rfl
  simp only [↓gaW, ↓gaV, ↓gaC, ↓gaN, gaP, Nat.reduceEqDiff, Nat.reduceLeDiff, Nat.reduceAdd, Nat.reduceSub, Nat.reduceMul, Int.reduceLT, Int.reduceLE, Int.reduceEq, Int.reduceToNat, Int.reduceAdd, Int.reduceSub, Int.reduceMul, reduceCtorEq, ↓reduceIte, List.getD_cons_zero, List.getD_cons_succ, hb2, r3, ct, t0, ht, ht1, not_true_eq_false, decide_true, decide_false]
  repeat refine And.intro (by omega) ?_
  refine callK_of (ct_Uint M0 (by omega)) (fun v x5 g5 l5 k5 hC => ?_) (by omega)
  subst hC
  have F5 : ∀ p, p < nx → g5 p = gt p := fun p hp => by rw [k5 p (by omega), F2 p hp]
  have hb5 : g5 x1 = some (.cells (nodeL y.t B m d (some a) 2 c0) false) := by rw [k5 x1 (by omega), hb2]
  have r35 : g5 a.block = some (.cells cl ro) := by rw [k5 _ r2, r3]
  have M5 := M1.keep (x' := x5) (g := g5) l5 k5
  clear k5
  simp only [↓gaW, ↓gaV, ↓gaC, ↓gaN, gaP, Nat.reduceEqDiff, Nat.reduceLeDiff, Nat.reduceAdd, Nat.reduceSub, Nat.reduceMul, Int.reduceLT, Int.reduceLE, Int.reduceEq, Int.reduceToNat, Int.reduceAdd, Int.reduceSub, Int.reduceMul, reduceCtorEq, ↓reduceIte]
  repeat refine And.intro (by omega) ?_
  by_cases he : (((uintR (Vr.kid y.k 0)).2 : Nat) : Int) = 0
  case neg =>
    have er := bad fun h => he (by rw [h.2.2.2.1]; rfl)
    simp only [↓gaW, ↓gaV, ↓gaC, ↓gaN, gaP, Nat.reduceEqDiff, Nat.reduceLeDiff, Nat.reduceAdd, Nat.reduceSub, Nat.reduceMul, Int.reduceLT, Int.reduceLE, Int.reduceEq, Int.reduceToNat, Int.reduceAdd, Int.reduceSub, Int.reduceMul, reduceCtorEq, ↓reduceIte, he, not_false_eq_true, decide_true, gaE, er]
    exact ⟨by omega, F5, rfl⟩
  obtain ⟨w, hw⟩ : ∃ w, w = (uintR (Vr.kid y.k 0)).1 := ⟨_, rfl⟩
  have hwl : w < 18446744073709551616 := by rw [hw]; exact (Vr.uint_ok (by omega)).2
  have hsh : shrV .u64 (w : Int) 32 = ((w / 4294967296 : Nat) : Int) := shr_nat (k := .u64) w 32 (by decide)
  by_cases hbig : ((w / 4294967296 : Nat) : Int) = 0
  case neg =>
    have er := bad fun h => hbig (by have := h.2.2.2.2; rw [← hw] at this; omega)
    simp only [↓gaW, ↓gaV, ↓gaC, ↓gaN, gaP, Nat.reduceEqDiff, Nat.reduceLeDiff, Nat.reduceAdd, Nat.reduceSub, Nat.reduceMul, Int.reduceLT, Int.reduceLE, Int.reduceEq, Int.reduceToNat, Int.reduceAdd, Int.reduceSub, Int.reduceMul, reduceCtorEq, ↓reduceIte, he, ← hw, hsh, hbig, not_true_eq_false, decide_false, not_false_eq_true, decide_true, gaE, er]
    repeat refine And.intro (by omega) ?_
    exact rfl
  have hw32 : w < 4294967296 := by omega
  have eP : Vr.progR l = match Vr.goR (Vr.oneR (UInt32.ofNat w)) (Vr.kid y.k 1).k with
      | none => .error 2
      | some l => if Vr.right l then .ok l else .error 2 := by
    unfold Vr.progR
    rw [hrd]
    simp only
    rw [if_pos ⟨ht, by omega, ht1, by omega, by rw [← hw]; exact hw32⟩, ← hw]
    rfl
  simp only [↓gaW, ↓gaV, ↓gaC, ↓gaN, gaP, Nat.reduceEqDiff, Nat.reduceLeDiff, Nat.reduceAdd, Nat.reduceSub, Nat.reduceMul, Int.reduceLT, Int.reduceLE, Int.reduceEq, Int.reduceToNat, Int.reduceAdd, Int.reduceSub, Int.reduceMul, reduceCtorEq, ↓reduceIte, List.getD_cons_zero, List.getD_cons_succ, hb5, r35, ck, he, ← hw, hsh, hbig, not_true_eq_false, decide_false]
  repeat refine And.intro (by omega) ?_
  rw [eP]
  generalize hF : (Vr.kid y.k 1).k = Fk at *
  have hFk : FoR x5 g5 Fk ks4 := by rw [← hF]; exact M5.kids
  have hFl : n4 = Fk.len := by rw [← hF]; exact M5.len
  have hFw : Fk.ws ≤ 20000 := by
    have : (Vr.kid y.k 1).f.ws = 1 + (Vr.kid y.k 1).b.length + (Vr.kid y.k 1).k.ws := by simp only [Fo.El.f, Fo.ws]; omega
    rw [hF] at this; omega
  have hFn : n4 ≤ 20000 := by have := Fo.len_ws Fk; omega
  have hW : IntKind.u32.wrap (w : Int) = (w : Int) := by rw [u32_w]; omega
  have hW' : (Value.int .u32 (w : Nat)) = u32V (UInt32.ofNat w) := by
    rw [u32V, UInt32.toNat_ofNat', Nat.mod_eq_of_lt (by omega)]
  refine loop_of (fun j f mm => ∃ (i x : Nat) (g : Nat → Option Blk) (A7 : Option Addr) (l7 : List Vp) (pre post : Fo), j = n4 - i ∧ i ≤ n4 ∧ Fk = pre.app post ∧ pre.len = i ∧ Vr.goR (Vr.oneR (UInt32.ofNat w)) pre = some l7 ∧ l7.length = i ∧ (∀ v ∈ l7, v.wf) ∧
      f 6 = .int .u64 (w : Nat) ∧ f 7 = .slice A7 i i ∧ f 56 = .slice A4 n4 c4 ∧ f 57 = .int .i64 (n4 : Nat) ∧ f 58 = .int .i64 (i : Nat) ∧ mm = ⟨x, b, g⟩ ∧ x5 ≤ x ∧ (∀ p, p < x5 → g p = g5 p) ∧ Own x5 b x g 20 A7 i (vpsL l7)) n4 ?_ ?_
  · exact ⟨0, x5, g5, none, [], .nil, Fk, rfl, by omega, rfl, rfl, rfl, rfl, (fun _ h => nomatch h), (by first | (simp only [↓gaW, ↓gaV, ↓gaC, ↓gaN, gaP, Nat.reduceEqDiff, Nat.reduceLeDiff, Nat.reduceAdd, Nat.reduceSub, Nat.reduceMul, Int.reduceLT, Int.reduceLE, Int.reduceEq, Int.reduceToNat, Int.reduceAdd, Int.reduceSub, Int.reduceMul, reduceCtorEq, ↓reduceIte]; done) | (simp only [↓gaW, ↓gaV, ↓gaC, ↓gaN, gaP, Nat.reduceEqDiff, Nat.reduceLeDiff, Nat.reduceAdd, Nat.reduceSub, Nat.reduceMul, Int.reduceLT, Int.reduceLE, Int.reduceEq, Int.reduceToNat, Int.reduceAdd, Int.reduceSub, Int.reduceMul, reduceCtorEq, ↓reduceIte]; rfl)), (by first | (simp only [↓gaW, ↓gaV, ↓gaC, ↓gaN, gaP, Nat.reduceEqDiff, Nat.reduceLeDiff, Nat.reduceAdd, Nat.reduceSub, Nat.reduceMul, Int.reduceLT, Int.reduceLE, Int.reduceEq, Int.reduceToNat, Int.reduceAdd, Int.reduceSub, Int.reduceMul, reduceCtorEq, ↓reduceIte]; done) | (simp only [↓gaW, ↓gaV, ↓gaC, ↓gaN, gaP, Nat.reduceEqDiff, Nat.reduceLeDiff, Nat.reduceAdd, Nat.reduceSub, Nat.reduceMul, Int.reduceLT, Int.reduceLE, Int.reduceEq, Int.reduceToNat, Int.reduceAdd, Int.reduceSub, Int.reduceMul, reduceCtorEq, ↓reduceIte]; rfl)), (by first | (simp only [↓gaW, ↓gaV, ↓gaC, ↓gaN, gaP, Nat.reduceEqDiff, Nat.reduceLeDiff, Nat.reduceAdd, Nat.reduceSub, Nat.reduceMul, Int.reduceLT, Int.reduceLE, Int.reduceEq, Int.reduceToNat, Int.reduceAdd, Int.reduceSub, Int.reduceMul, reduceCtorEq, ↓reduceIte]; done) | (simp only [↓gaW, ↓gaV, ↓gaC, ↓gaN, gaP, Nat.reduceEqDiff, Nat.reduceLeDiff, Nat.reduceAdd, Nat.reduceSub, Nat.reduceMul, Int.reduceLT, Int.reduceLE, Int.reduceEq, Int.reduceToNat, Int.reduceAdd, Int.reduceSub, Int.reduceMul, reduceCtorEq, ↓reduceIte]; rfl)), (by first | (simp only [↓gaW, ↓gaV, ↓gaC, ↓gaN, gaP, Nat.reduceEqDiff, Nat.reduceLeDiff, Nat.reduceAdd, Nat.reduceSub, Nat.reduceMul, Int.reduceLT, Int.reduceLE, Int.reduceEq, Int.reduceToNat, Int.reduceAdd, Int.reduceSub, Int.reduceMul, reduceCtorEq, ↓reduceIte]; done) | (simp only [↓gaW, ↓gaV, ↓gaC, ↓gaN, gaP, Nat.reduceEqDiff, Nat.reduceLeDiff, Nat.reduceAdd, Nat.reduceSub, Nat.reduceMul, Int.reduceLT, Int.reduceLE, Int.reduceEq, Int.reduceToNat, Int.reduceAdd, Int.reduceSub, Int.reduceMul, reduceCtorEq, ↓reduceIte]; rfl)), (by first | (simp only [↓gaW, ↓gaV, ↓gaC, ↓gaN, gaP, Nat.reduceEqDiff, Nat.reduceLeDiff, Nat.reduceAdd, Nat.reduceSub, Nat.reduceMul, Int.reduceLT, Int.reduceLE, Int.reduceEq, Int.reduceToNat, Int.reduceAdd, Int.reduceSub, Int.reduceMul, reduceCtorEq, ↓reduceIte]; done) | (simp only [↓gaW, ↓gaV, ↓gaC, ↓gaN, gaP, Nat.reduceEqDiff, Nat.reduceLeDiff, Nat.reduceAdd, Nat.reduceSub, Nat.reduceMul, Int.reduceLT, Int.reduceLE, Int.reduceEq, Int.reduceToNat, Int.reduceAdd, Int.reduceSub, Int.reduceMul, reduceCtorEq, ↓reduceIte]; rfl)), rfl, Nat.le_refl _, fun _ _ => rfl, .nil⟩
  rintro j f mm ⟨i, x, g, A7, l7, pre, post, rfl, hi, eF, hpl, hgo, hll, hwf, f6, f7, f56, f57, f58, rfl, hx, F, hOwn⟩
  simp only [↓gaW, ↓gaV, ↓gaC, ↓gaN, gaP, Nat.reduceEqDiff, Nat.reduceLeDiff, Nat.reduceAdd, Nat.reduceSub, Nat.reduceMul, Int.reduceLT, Int.reduceLE, Int.reduceEq, Int.reduceToNat, Int.reduceAdd, Int.reduceSub, Int.reduceMul, reduceCtorEq, ↓reduceIte, f57, f58]
  refine condK_dec (fun hlt => ?_) fun hge => ?_
  · have hi' : i < n4 := by omega
    have Mx := M5.keep (x' := x) (g := g) hx F
    obtain ⟨a', cl', ro', rfl, s2, s3, s4, s5⟩ := Mx.row.cells (by omega)
    obtain ⟨z, pre', post', Bz, mz, dz, Az, nz, cz, kz, e1, e2, e3, e4⟩ := FoR.at (nx := x) (gt := g) (F := Fk) (cs := ks4) (i := i) (by rw [← hF]; exact Mx.kids) (by omega)
    have hpp : pre' = pre := (Fo.app_inj (e1.symm.trans eF) (by omega)).1
    subst hpp
    have tz := (Mx.row.load rfl s3 (j := i * 3) (k := 3) (by omega) (by omega)).trans e4
    have zw := Fo.ws_in e1
    have hz3 : ∀ (k : List Value) t B m d A n c, k.length = 3 → splice k 0 (nodeL t B m d A n c) = nodeL t B m d A n c := fun k t B m d A n c hk => by
      match k, hk with
      | [_, _, _], _ => rfl
    have hs3 : splice [Value.int .i64 0, .slice none 0 0, .slice none 0 0] 0 (nodeL z.t Bz mz dz Az nz cz) = nodeL z.t Bz mz dz Az nz cz := rfl
    have ht3 : (nodeL z.t Bz mz dz Az nz cz).take 3 = nodeL z.t Bz mz dz Az nz cz := rfl
    simp only [↓gaW, ↓gaV, ↓gaC, ↓gaN, gaP, Nat.reduceEqDiff, Nat.reduceLeDiff, Nat.reduceAdd, Nat.reduceSub, Nat.reduceMul, Int.reduceLT, Int.reduceLE, Int.reduceEq, Int.reduceToNat, Int.reduceAdd, Int.reduceSub, Int.reduceMul, reduceCtorEq, ↓reduceIte, f56, f58, s3, tz, hs3]
    repeat refine And.intro (by omega) ?_
    refine And.intro (node_cells _ _ _ _ _ _ _) ?_
    obtain ⟨g3, hg3⟩ : ∃ g', g' = upd (upd g x (some (.cells [Value.int .i64 0, .slice none 0 0, .slice none 0 0] false))) x (some (.cells (nodeL z.t Bz mz dz Az nz cz) false)) := ⟨_, rfl⟩
    have hp3 : g3 x = some (.cells (nodeL z.t Bz mz dz Az nz cz) false) := by rw [hg3]; simp only [upd_e, if_true]
    have F3 : ∀ p, p < x → g3 p = g p := fun p hp => by rw [hg3]; simp only [upd_e]; rw [if_neg (by omega), if_neg (by omega)]
    have hgg : upd (upd g x (some (Blk.cells [Value.int .i64 0, .slice none 0 0, .slice none 0 0] false))) x (some (.cells [Value.int .i64 z.t, .slice Bz mz dz, .slice Az nz cz] false)) = g3 := hg3.symm
    simp only [↓gaW, ↓gaV, ↓gaC, ↓gaN, gaP, Nat.reduceEqDiff, Nat.reduceLeDiff, Nat.reduceAdd, Nat.reduceSub, Nat.reduceMul, Int.reduceLT, Int.reduceLE, Int.reduceEq, Int.reduceToNat, Int.reduceAdd, Int.reduceSub, Int.reduceMul, reduceCtorEq, ↓reduceIte, hgg, hp3, f6, hW, hW', hs3, ht3, List.drop_zero]
    clear hg3 hgg
    repeat refine And.intro (by omega) ?_
    have e3' := e3.keep (x' := x + 1) (g := g3) (by omega) F3
    refine callK_of (ct_one (wa := UInt32.ofNat w) e3' (by omega)) (fun v x6 g6 l6 k6 hC => ?_) (by omega)
    obtain ⟨zr, hzr⟩ : ∃ zr : List Value, zr = [.int .u32 0, .bool false, .int .u8 0, .int .u8 0, .int .u8 0, .int .u8 0, .int .u8 0, .int .u8 0, .int .u8 0, .int .u8 0, .int .u8 0, .int .u8 0, .int .u8 0, .int .u8 0, .int .u8 0, .int .u8 0, .int .u8 0, .int .u8 0, .int .i64 0, .int .i64 0] := ⟨_, rfl⟩
    have hzl : zr.length = 20 := by rw [hzr]; rfl
    have hcv : ∀ v', cellsV (vpV v') = some (vpL v') := fun v' => rfl
    have hsp : ∀ v', v'.wf → splice zr 0 (vpL v') = vpL v' := fun v' hv => by
      unfold splice
      rw [List.take_zero, List.nil_append, Nat.zero_add, List.drop_of_length_le (by rw [hzl, vpL_len hv.a]; omega), List.append_nil]
    have hcl' : ∀ v', ∀ x ∈ vpL v', cellVal x = true := fun v' => vpL_cells v'
    have htk : ∀ v', v'.wf → (vpL v').take 20 = vpL v' := fun v' hv => List.take_of_length_le (by rw [vpL_len hv.a]; omega)
    cases ho : Vr.oneR (UInt32.ofNat w) z with
    | none =>
      rw [ho] at hC
      obtain ⟨v', hv', rfl⟩ := hC
      have eG : Vr.goR (Vr.oneR (UInt32.ofNat w)) Fk = none := by rw [e1]; exact Vr.goR_none hgo ho
      simp only [↓gaW, ↓gaV, ↓gaC, ↓gaN, gaP, Nat.reduceEqDiff, Nat.reduceLeDiff, Nat.reduceAdd, Nat.reduceSub, Nat.reduceMul, Int.reduceLT, Int.reduceLE, Int.reduceEq, Int.reduceToNat, Int.reduceAdd, Int.reduceSub, Int.reduceMul, reduceCtorEq, ↓reduceIte, eG, ← hzr, hcv, asO_e, hsp _ hv', vpL_len hv'.a]
      repeat refine And.intro (by omega) ?_
      refine And.intro (vpL_cells _) ?_
      simp only [↓gaW, ↓gaV, ↓gaC, ↓gaN, gaP, Nat.reduceEqDiff, Nat.reduceLeDiff, Nat.reduceAdd, Nat.reduceSub, Nat.reduceMul, Int.reduceLT, Int.reduceLE, Int.reduceEq, Int.reduceToNat, Int.reduceAdd, Int.reduceSub, Int.reduceMul, reduceCtorEq, ↓reduceIte, gaE]
      exact ⟨by omega, fun p hp => by rw [if_neg (by omega), if_neg (by omega), k6 p (by omega), F3 p (by omega), F p (by omega), F5 p hp], rfl⟩
    | some v' =>
      rw [ho] at hC
      obtain ⟨hv', rfl⟩ := hC
      simp only [↓gaW, ↓gaV, ↓gaC, ↓gaN, gaP, Nat.reduceEqDiff, Nat.reduceLeDiff, Nat.reduceAdd, Nat.reduceSub, Nat.reduceMul, Int.reduceLT, Int.reduceLE, Int.reduceEq, Int.reduceToNat, Int.reduceAdd, Int.reduceSub, Int.reduceMul, reduceCtorEq, ↓reduceIte, ← hzr, hcv, asO_e, hsp _ hv', vpL_len hv'.a]
      repeat refine And.intro (by omega) ?_
      refine And.intro (vpL_cells _) ?_
      have hlit : Row (x6 + 1 + 1) (upd (upd (upd g6 x6 (some (.cells zr false))) x6 (some (.cells (vpL v') false))) (x6 + 1) (some (.cells (vpL v') false))) 20 (some ⟨x6 + 1, 0, none⟩) 20 (vpL v') := Row.lit (ro := false) (by omega) (by simp only [upd_e, if_true]) (vpL_len hv'.a)
      simp only [↓gaW, ↓gaV, ↓gaC, ↓gaN, gaP, Nat.reduceEqDiff, Nat.reduceLeDiff, Nat.reduceAdd, Nat.reduceSub, Nat.reduceMul, Int.reduceLT, Int.reduceLE, Int.reduceEq, Int.reduceToNat, Int.reduceAdd, Int.reduceSub, Int.reduceMul, reduceCtorEq, ↓reduceIte, fillL, List.drop_zero, htk _ hv', hcv, hsp _ hv', f7, f58, asO_e]
      rw [if_pos ⟨vpL_len hv'.a, by omega⟩]
      simp only [asO_e, hlit.rowOf]
      obtain ⟨g7, hg7⟩ : ∃ g', g' = upd (upd (upd g6 x6 (some (.cells zr false))) x6 (some (.cells (vpL v') false))) (x6 + 1) (some (.cells (vpL v') false)) := ⟨_, rfl⟩
      have F7 : ∀ p, p < x → g7 p = g p := fun p hp => by rw [hg7]; simp only [upd_e]; rw [if_neg (by omega), if_neg (by omega), if_neg (by omega), k6 p (by omega), F3 p hp]
      rw [← hg7]
      clear hg7 hlit
      refine own_append (nx := x5) (hOwn.keep (x' := x6 + 1 + 1) (by omega) F7) (by omega) (by omega) (by omega) (by omega) (vpL_len hv'.a) (vpL_cells _) (by omega) (by omega) fun g8 F8 hOwn8 => ?_
      simp only [↓gaW, ↓gaV, ↓gaC, ↓gaN, gaP, Nat.reduceEqDiff, Nat.reduceLeDiff, Nat.reduceAdd, Nat.reduceSub, Nat.reduceMul, Int.reduceLT, Int.reduceLE, Int.reduceEq, Int.reduceToNat, Int.reduceAdd, Int.reduceSub, Int.reduceMul, reduceCtorEq, ↓reduceIte, loopK_n, i64_w ((i : Int) + 1) (by omega)]
      refine ⟨n4 - (i + 1), by omega, i + 1, x6 + 1 + 1 + 1, g8, some ⟨x6 + 1 + 1, 0, some 20⟩, l7 ++ [v'], pre'.app z.f, post', rfl, by omega, ?_, ?_, Vr.goR_snoc hgo ho, by simp [hll], ?_, ?_, ?_, ?_, ?_, ?_, rfl, by omega, fun p hp => by rw [F8 p hp, F7 p (by omega), F p hp], ?_⟩
      · rw [← Fo.app_one]; exact e1
      · rw [Fo.len_app, hpl]; rfl
      · intro u hu
        rcases List.mem_append.1 hu with h | h
        · exact hwf u h
        · rw [List.mem_singleton.1 h]; exact hv'
      · simp only [↓gaW, ↓gaV, ↓gaC, ↓gaN, gaP, Nat.reduceEqDiff, Nat.reduceLeDiff, Nat.reduceAdd, Nat.reduceSub, Nat.reduceMul, Int.reduceLT, Int.reduceLE, Int.reduceEq, Int.reduceToNat, Int.reduceAdd, Int.reduceSub, Int.reduceMul, reduceCtorEq, ↓reduceIte, f6]
      · rfl
      · simp only [↓gaW, ↓gaV, ↓gaC, ↓gaN, gaP, Nat.reduceEqDiff, Nat.reduceLeDiff, Nat.reduceAdd, Nat.reduceSub, Nat.reduceMul, Int.reduceLT, Int.reduceLE, Int.reduceEq, Int.reduceToNat, Int.reduceAdd, Int.reduceSub, Int.reduceMul, reduceCtorEq, ↓reduceIte, f56]
      · simp only [↓gaW, ↓gaV, ↓gaC, ↓gaN, gaP, Nat.reduceEqDiff, Nat.reduceLeDiff, Nat.reduceAdd, Nat.reduceSub, Nat.reduceMul, Int.reduceLT, Int.reduceLE, Int.reduceEq, Int.reduceToNat, Int.reduceAdd, Int.reduceSub, Int.reduceMul, reduceCtorEq, ↓reduceIte, f57]
      · rfl
      · rw [vpsL_app]
        simpa only [vpsL, List.append_nil] using hOwn8
  · have hin : i = n4 := by omega
    subst hin
    have hpF := (Fo.app_end eF (by omega)).1
    subst hpF
    simp only [↓gaW, ↓gaV, ↓gaC, ↓gaN, gaP, Nat.reduceEqDiff, Nat.reduceLeDiff, Nat.reduceAdd, Nat.reduceSub, Nat.reduceMul, Int.reduceLT, Int.reduceLE, Int.reduceEq, Int.reduceToNat, Int.reduceAdd, Int.reduceSub, Int.reduceMul, reduceCtorEq, ↓reduceIte, f7, hgo]
    refine callK_of (ct_VRight (l := l7) ⟨hOwn.row, hll, hwf⟩ (Nat.le_refl _) (by omega)) (fun v x6 g6 l6 k6 hC => ?_) (by omega)
    subst hC
    cases hR : Vr.right l7 with
    | false =>
      simp only [↓gaW, ↓gaV, ↓gaC, ↓gaN, gaP, Nat.reduceEqDiff, Nat.reduceLeDiff, Nat.reduceAdd, Nat.reduceSub, Nat.reduceMul, Int.reduceLT, Int.reduceLE, Int.reduceEq, Int.reduceToNat, Int.reduceAdd, Int.reduceSub, Int.reduceMul, reduceCtorEq, ↓reduceIte, gaE, Bool.not_false]
      exact ⟨by omega, fun p hp => by rw [k6 p (by omega), F p (by omega), F5 p hp], rfl⟩
    | true =>
      simp only [↓gaW, ↓gaV, ↓gaC, ↓gaN, gaP, Nat.reduceEqDiff, Nat.reduceLeDiff, Nat.reduceAdd, Nat.reduceSub, Nat.reduceMul, Int.reduceLT, Int.reduceLE, Int.reduceEq, Int.reduceToNat, Int.reduceAdd, Int.reduceSub, Int.reduceMul, reduceCtorEq, ↓reduceIte, gaE, Bool.not_true]
      exact ⟨by omega, fun p hp => by rw [k6 p (by omega), F p (by omega), F5 p hp], _, _, by rw [f7], ⟨hOwn.row.keep l6 k6, hll, hwf⟩⟩
end
end Go.Ga

/- That the law's program does anything: one prefix, written and read. -/
namespace Go.Ga
open Go Go.Proofs
set_option linter.unusedSimpArgs false
set_option linter.unusedVariables false
set_option maxRecDepth 100000

namespace Vr
def v0 : Vp := ⟨7, false, [10, 0, 0, 0, 0, 0, 0, 0, 0, 0, 0, 0, 0, 0, 0, 0], 8, 24⟩
theorem v0_wf : v0.wf := ⟨rfl, by decide, by decide⟩
theorem right_one (v : Vp) : right [v] = one v := by
  have e : at' [v] 0 = v := rfl
  unfold right
  simp [stepR, e]
theorem make_one {v : Vp} (hv : v.wf) (h1 : one v = true) : ∃ b, makeR [v] = .ok b ∧ Fo.rd b = .ok (roaE [v]) := by
  obtain ⟨hok, hl, hm⟩ := one_ok h1
  have hmx := hv.mx
  have hws := roa_ws (l := [v]) fun w hw => by
    rw [List.mem_singleton.1 hw]; exact ⟨hv.a, by omega⟩
  have hbs := Fo.bs_ws (roaE [v]).f
  simp only [List.length_singleton] at hws
  have lf : ∀ (t : Int) (l : List UInt8), 0 ≤ t → t < 31 → (Fo.El.f ⟨t, l, .nil⟩).rs ∧ (Fo.El.f ⟨t, l, .nil⟩).ds = 1 := fun t l h1 h2 => by
    have hh : Fo.has t = false := by unfold Fo.has; rw [decide_eq_false_iff_not]; omega
    exact ⟨⟨⟨(show Fo.tag t by unfold Fo.tag; omega), (fun h => by rw [show Fo.has (Fo.El.t ⟨t, l, .nil⟩) = false from hh] at h; cases h), fun _ => rfl⟩, trivial, trivial⟩, by simp [Fo.El.f, Fo.ds, hh]⟩
  have rI : ∀ n, n < 18446744073709551616 → (intN n).f.rs ∧ (intN n).f.ds = 1 := fun n hn => by
    obtain ⟨k, _, h⟩ := intN_is hn
    rw [h]
    exact lf _ _ (by omega) (by omega)
  have rB : (boolE v.v6).f.rs ∧ (boolE v.v6).f.ds = 1 := lf _ _ (by omega) (by omega)
  have rS : (bitE v).f.rs ∧ (bitE v).f.ds = 1 := lf _ _ (by omega) (by omega)
  have sq : ∀ f : Fo, f.rs → (Fo.El.f ⟨48, [], f⟩).rs ∧ (Fo.El.f ⟨48, [], f⟩).ds = f.ds + 1 := fun f hf =>
    ⟨⟨⟨(show Fo.tag 48 by unfold Fo.tag; omega), (fun _ => rfl), fun h => by cases h⟩, hf, trivial⟩, by simp [Fo.El.f, Fo.ds, show Fo.has 48 = true by decide]⟩
  obtain ⟨i1, i2⟩ := rI v.mx.toNat (by omega)
  obtain ⟨a1, a2⟩ := rI v.asn.toNat (by have := v.asn.toNat_lt; omega)
  obtain ⟨e1, e2⟩ := sq ((boolE v.v6).f.app ((bitE v).f.app (intN v.mx.toNat).f)) ((Fo.rs_app _ _).2 ⟨rB.1, (Fo.rs_app _ _).2 ⟨rS.1, i1⟩⟩)
  have e2' : (entE v).f.ds = 2 := by
    show (Fo.El.f ⟨48, [], _⟩).ds = _
    rw [e2, Fo.ds_app, Fo.ds_app, rB.2, rS.2, i2]; rfl
  have l1 : (listF [v]).rs ∧ (listF [v]).ds = 2 := by
    rw [show listF [v] = (entE v).f.app .nil from rfl, Fo.app_nil]
    exact ⟨e1, e2'⟩
  obtain ⟨s1, s2⟩ := sq (listF [v]) l1.1
  obtain ⟨t1, t2⟩ := sq ((intN v.asn.toNat).f.app (inE [v]).f) ((Fo.rs_app _ _).2 ⟨a1, s1⟩)
  have t2' : (roaE [v]).f.ds = 4 := by
    show (Fo.El.f ⟨48, [], _⟩).ds = _
    have : (inE [v]).f.ds = 3 := s2.trans (by rw [l1.2])
    rw [show (at' [v] 0).asn.toNat = v.asn.toNat from rfl, t2, Fo.ds_app, a2, this]; rfl
  have hw := Fo.wr_of (x := roaE [v]) t1 (by omega) (by omega)
  exact ⟨_, by unfold makeR; rw [right_one, h1, if_pos rfl]; exact hw, Fo.rd_wr hw⟩
theorem one_v0 : one v0 = true := by decide +kernel
end Vr

/-- One prefix, in a literal. -/
theorem VpR.lit {x q : Nat} {g : Nat → Option Blk} {ro : Bool} {v : Vp} (hv : v.wf) (hq : q < x) (hg : g q = some (.cells (vpL v) ro)) : VpR x g (some ⟨q, 0, none⟩) 1 [v] :=
  ⟨by
    have := Row.lit (e := 20) hq hg (vpL_len hv.a)
    simpa only [vpsL, List.append_nil, Nat.one_mul] using this, rfl, fun w hw => by rw [List.mem_singleton.1 hw]; exact hv⟩
end Go.Ga

/- Awake. -/
namespace Go.Ga
open Go Go.Proofs
set_option linter.unusedSimpArgs false
set_option linter.unusedVariables false
set_option maxRecDepth 100000

section
variable {nx : Nat} {gt : Nat → Option Blk}
theorem ct_awake : Ct Tryd.prog 8 [] nx gt fun r _ _ => r = .bool true := by
  refine Ct.of hmx r_lanyardlaw18_awake (by simp [c_lanyardlaw18_awake]) fun b hb => ?_
  obtain ⟨bs, hmk, hrd⟩ := Vr.make_one Vr.v0_wf Vr.one_v0
  have hpr : Vr.progR bs = .ok [Vr.v0] := Vr.prog_of (fun v hv => by rw [List.mem_singleton.1 hv]; rfl) (by rw [Vr.right_one]; exact Vr.one_v0) hrd
  have hf1 : ∀ F : Regs, fillL ([.int .u8 0, .int .u8 0, .int .u8 0, .int .u8 0, .int .u8 0, .int .u8 0, .int .u8 0, .int .u8 0, .int .u8 0, .int .u8 0, .int .u8 0, .int .u8 0, .int .u8 0, .int .u8 0, .int .u8 0, .int .u8 0] : List Value) F [(0, 1, .k (.int .u8 10))] = some (Vr.v0.a.map u8V) := fun F => rfl
  have hf2 : ∀ F : Regs, fillL ([.bool false, .int .u8 0, .int .u8 0, .int .u8 0, .int .u8 0, .int .u8 0, .int .u8 0, .int .u8 0, .int .u8 0, .int .u8 0, .int .u8 0, .int .u8 0, .int .u8 0, .int .u8 0, .int .u8 0, .int .u8 0, .int .u8 0, .int .i64 0] : List Value) (putR F (some 6) (.agg (Vr.v0.a.map u8V).toArray)) [(1, 16, .t 6), (17, 1, .k (.int .i64 8))] = some (pxL Vr.v0.v6 Vr.v0.a Vr.v0.len) := fun F => rfl
  have hf3 : ∀ F : Regs, fillL ([.int .u32 0, .bool false, .int .u8 0, .int .u8 0, .int .u8 0, .int .u8 0, .int .u8 0, .int .u8 0, .int .u8 0, .int .u8 0, .int .u8 0, .int .u8 0, .int .u8 0, .int .u8 0, .int .u8 0, .int .u8 0, .int .u8 0, .int .u8 0, .int .i64 0, .int .i64 0] : List Value) (putR F (some 7) (.agg (pxL Vr.v0.v6 Vr.v0.a Vr.v0.len).toArray)) [(0, 1, .k (.int .u32 7)), (1, 18, .t 7), (19, 1, .k (.int .i64 24))] = some (vpL Vr.v0) := fun F => rfl
  have hf4 : ∀ F : Regs, fillL ([.int .u32 0, .bool false, .int .u8 0, .int .u8 0, .int .u8 0, .int .u8 0, .int .u8 0, .int .u8 0, .int .u8 0, .int .u8 0, .int .u8 0, .int .u8 0, .int .u8 0, .int .u8 0, .int .u8 0, .int .u8 0, .int .u8 0, .int .u8 0, .int .i64 0, .int .i64 0] : List Value) (putR F (some 8) (.agg (vpL Vr.v0).toArray)) [(0, 20, .t 8)] = some (vpL Vr.v0) := fun F => rfl
  simp only [c_lanyardlaw18_awake, ↓gaW, ↓gaV, ↓gaC, ↓gaN, gaP, Nat.reduceEqDiff, Nat.reduceLeDiff, Nat.reduceAdd, Nat.reduceSub, Nat.reduceMul, Int.reduceLT, Int.reduceLE, Int.reduceEq, Int.reduceToNat, Int.reduceAdd, Int.reduceSub, Int.reduceMul, reduceCtorEq, ↓reduceIte, hf1, hf2, hf3, hf4, asO_e]
  have hg1 : upd gt nx (some (.cells (vpL Vr.v0) false)) nx = some (.cells (vpL Vr.v0) false) := by simp only [upd_e, if_true]
  have F1 : ∀ p, p < nx → upd gt nx (some (.cells (vpL Vr.v0) false)) p = gt p := fun p hp => by simp only [upd_e]; rw [if_neg (by omega)]
  refine callK_of (ct_Make (l := [Vr.v0]) (VpR.lit Vr.v0_wf (by omega) hg1) (Nat.le_refl _) (by omega)) (fun v x2 g2 l2 k2 hC => ?_) (by omega)
  rw [hmk] at hC
  obtain ⟨A2, N2, rfl, hl2, r2⟩ := hC
  have F2 : ∀ p, p < nx → g2 p = gt p := fun p hp => by rw [k2 p (by omega), F1 p hp]
  have hN2 : N2 ≤ 1000000 := by
    have h1 := Fo.wr_ok (Fo.wr_rd hrd)
    have h2 := Fo.ly_bs h1.1
    rw [← hl2, h1.2.2.2, h2]; omega
  simp only [↓gaW, ↓gaV, ↓gaC, ↓gaN, gaP, Nat.reduceEqDiff, Nat.reduceLeDiff, Nat.reduceAdd, Nat.reduceSub, Nat.reduceMul, Int.reduceLT, Int.reduceLE, Int.reduceEq, Int.reduceToNat, Int.reduceAdd, Int.reduceSub, Int.reduceMul, reduceCtorEq, ↓reduceIte, List.getD_cons_zero, List.getD_cons_succ, fillL, splice, List.take_zero, List.drop_zero, List.drop_succ_cons, List.take_succ_cons, List.drop_nil, List.take_nil]
  repeat refine And.intro (by omega) ?_
  refine callK_of (ct_RRead (l := bs) r2 (Nat.le_refl _) hN2) (fun v x3 g3 l3 k3 hC => ?_) (by omega)
  rw [hpr] at hC
  obtain ⟨A3, N3, rfl, r3⟩ := hC
  have F3 : ∀ p, p < nx → g3 p = gt p := fun p hp => by rw [k3 p (by omega), F2 p hp]
  obtain rfl : N3 = 1 := r3.len.symm
  obtain ⟨a, cl, ro, rfl, e2, e3, e4, e5, e6⟩ := r3.at (by omega)
  have c0 := e6 0 0 (by omega) (by omega)
  have c1 := e6 0 19 (by omega) (by omega)
  have c2 := e6 0 2 (by omega) (by omega)
  rw [show (vpL (Vr.at' [Vr.v0] 0)).getD 0 undef = .int .u32 7 from rfl] at c0
  rw [show (vpL (Vr.at' [Vr.v0] 0)).getD 19 undef = .int .i64 24 from rfl] at c1
  rw [show (vpL (Vr.at' [Vr.v0] 0)).getD 2 undef = .int .u8 10 from rfl] at c2
  simp only [Nat.zero_mul, Nat.add_zero] at c0 c1 c2
  simp only [↓gaW, ↓gaV, ↓gaC, ↓gaN, gaP, Nat.reduceEqDiff, Nat.reduceLeDiff, Nat.reduceAdd, Nat.reduceSub, Nat.reduceMul, Int.reduceLT, Int.reduceLE, Int.reduceEq, Int.reduceToNat, Int.reduceAdd, Int.reduceSub, Int.reduceMul, reduceCtorEq, ↓reduceIte, List.getD_cons_zero, List.getD_cons_succ, fillL, splice, List.take_zero, List.drop_zero, List.drop_succ_cons, List.take_succ_cons, List.drop_nil, List.take_nil, gaE, e3, c0, c1, c2]
  repeat refine And.intro (by omega) ?_
  exact F3
end
end Go.Ga

/- RoaOrders. -/
namespace Go.Ga
open Go Go.Proofs
set_option linter.unusedSimpArgs false
set_option linter.unusedVariables false
set_option maxRecDepth 100000

section
variable {nx : Nat} {gt : Nat → Option Blk}
theorem ct_RoaOrders {v w : Vp} (hv : v.wf) (hw : w.wf) : Ct Tryd.prog 4 [vpV v, vpV w] nx gt fun r _ _ => r = .bool true := by
  refine Ct.of hmx r_lanyardlaw18_RoaOrders (by simp [c_lanyardlaw18_RoaOrders]) fun b hb => ?_
  have hnn : (nx = nx + 1) = False := by simp
  have hn1 : (nx + 1 = nx) = False := by simp
  simp only [c_lanyardlaw18_RoaOrders, ↓gaW, ↓gaV, ↓gaC, ↓gaN, gaP, Nat.reduceEqDiff, Nat.reduceLeDiff, Nat.reduceAdd, Nat.reduceSub, Nat.reduceMul, Int.reduceLT, Int.reduceLE, Int.reduceEq, Int.reduceToNat, Int.reduceAdd, Int.reduceSub, Int.reduceMul, reduceCtorEq, ↓reduceIte, cv_vp, hnn, hn1]
  obtain ⟨g2, hg2⟩ : ∃ g', g' = upd (upd gt nx (some (.cells (vpL v) false))) (nx + 1) (some (.cells (vpL w) false)) := ⟨_, rfl⟩
  have ha2 : g2 nx = some (.cells (vpL v) false) := by rw [hg2]; simp only [upd_e, hnn, if_false, if_true]
  have hb2 : g2 (nx + 1) = some (.cells (vpL w) false) := by rw [hg2]; simp only [upd_e, if_true]
  have F2 : ∀ p, p < nx → g2 p = gt p := fun p hp => by rw [hg2]; simp only [upd_e]; rw [if_neg (by omega), if_neg (by omega)]
  simp only [← hg2]
  clear hg2
  have tv : (vpL v).take 20 = vpL v := List.take_of_length_le (by rw [vpL_len hv.a]; omega)
  have tw : (vpL w).take 20 = vpL w := List.take_of_length_le (by rw [vpL_len hw.a]; omega)
  refine callK_of ct_awake (fun r x3 g3 l3 k3 hC => ?_) (by omega)
  subst hC
  have ha3 : g3 nx = some (.cells (vpL v) false) := by rw [k3 nx (by omega), ha2]
  have hb3 : g3 (nx + 1) = some (.cells (vpL w) false) := by rw [k3 (nx + 1) (by omega), hb2]
  have F3 : ∀ p, p < nx → g3 p = gt p := fun p hp => by rw [k3 p (by omega), F2 p hp]
  simp only [↓gaW, ↓gaV, ↓gaC, ↓gaN, gaP, Nat.reduceEqDiff, Nat.reduceLeDiff, Nat.reduceAdd, Nat.reduceSub, Nat.reduceMul, Int.reduceLT, Int.reduceLE, Int.reduceEq, Int.reduceToNat, Int.reduceAdd, Int.reduceSub, Int.reduceMul, reduceCtorEq, ↓reduceIte, ha3, hb3, tv, tw, List.drop_zero, vpL_len hv.a, vpL_len hw.a]
  repeat refine And.intro (by omega) ?_
  refine callQ_of (ct_VCmp hv hw) (fun r x4 g4 l4 k4 hC => ?_)
  subst hC
  have ha4 : g4 nx = some (.cells (vpL v) false) := by rw [k4 nx (by omega), ha3]
  have hb4 : g4 (nx + 1) = some (.cells (vpL w) false) := by rw [k4 (nx + 1) (by omega), hb3]
  have F4 : ∀ p, p < nx → g4 p = gt p := fun p hp => by rw [k4 p (by omega), F3 p hp]
  simp only [↓gaW, ↓gaV, ↓gaC, ↓gaN, gaP, Nat.reduceEqDiff, Nat.reduceLeDiff, Nat.reduceAdd, Nat.reduceSub, Nat.reduceMul, Int.reduceLT, Int.reduceLE, Int.reduceEq, Int.reduceToNat, Int.reduceAdd, Int.reduceSub, Int.reduceMul, reduceCtorEq, ↓reduceIte, ha4, hb4, tv, tw, List.drop_zero, vpL_len hv.a, vpL_len hw.a]
  repeat refine And.intro (by omega) ?_
  refine callQ_of (ct_rVCmp hv hw) (fun r x5 g5 l5 k5 hC => ?_)
  subst hC
  have ha5 : g5 nx = some (.cells (vpL v) false) := by rw [k5 nx (by omega), ha4]
  have F5 : ∀ p, p < nx → g5 p = gt p := fun p hp => by rw [k5 p (by omega), F4 p hp]
  simp only [↓gaW, ↓gaV, ↓gaC, ↓gaN, gaP, Nat.reduceEqDiff, Nat.reduceLeDiff, Nat.reduceAdd, Nat.reduceSub, Nat.reduceMul, Int.reduceLT, Int.reduceLE, Int.reduceEq, Int.reduceToNat, Int.reduceAdd, Int.reduceSub, Int.reduceMul, reduceCtorEq, ↓reduceIte, ha5, tv, tw, List.drop_zero, vpL_len hv.a, vpL_len hw.a]
  repeat refine And.intro (by omega) ?_
  refine callQ_of (ct_One hv) (fun r x6 g6 l6 k6 hC => ?_)
  subst hC
  have ha6 : g6 nx = some (.cells (vpL v) false) := by rw [k6 nx (by omega), ha5]
  have F6 : ∀ p, p < nx → g6 p = gt p := fun p hp => by rw [k6 p (by omega), F5 p hp]
  simp only [↓gaW, ↓gaV, ↓gaC, ↓gaN, gaP, Nat.reduceEqDiff, Nat.reduceLeDiff, Nat.reduceAdd, Nat.reduceSub, Nat.reduceMul, Int.reduceLT, Int.reduceLE, Int.reduceEq, Int.reduceToNat, Int.reduceAdd, Int.reduceSub, Int.reduceMul, reduceCtorEq, ↓reduceIte, ha6, tv, tw, List.drop_zero, vpL_len hv.a, vpL_len hw.a]
  repeat refine And.intro (by omega) ?_
  refine callK_of (ct_rOne hv) (fun r x7 g7 l7 k7 hC => ?_) (by omega)
  subst hC
  have F7 : ∀ p, p < nx → g7 p = gt p := fun p hp => by rw [k7 p (by omega), F6 p hp]
  simp only [↓gaW, ↓gaV, ↓gaC, ↓gaN, gaP, Nat.reduceEqDiff, Nat.reduceLeDiff, Nat.reduceAdd, Nat.reduceSub, Nat.reduceMul, Int.reduceLT, Int.reduceLE, Int.reduceEq, Int.reduceToNat, Int.reduceAdd, Int.reduceSub, Int.reduceMul, reduceCtorEq, ↓reduceIte, gaE, beq_self_eq_true]
  first | exact F7 | exact ⟨by omega, F7⟩
end
end Go.Ga

/- An array of whole numbers that a law is given. -/
namespace Go.Ga
open Go

section
variable {P : Program} {H : Type} {enc : TypeId × Value → H} {w : World} {base : Nat} {sp : Nat → Bool} {held : Bool} {t e : TypeId} {n : Nat} {k : IntKind}

def intOf : Option Value → Int
  | some (.int _ z) => z
  | _ => 0
def arrD (k : IntKind) (zs : List Int) : DataW H := .agg (zs.map fun z => .lit (.int k z))

end

end Go.Ga

/- A slice of words that a law is given. -/
namespace Go.Ga
open Go

theorem wf_u32 {n : Int} (h : (Lit.int .u32 n).wf = true) : 0 ≤ n ∧ n ≤ 4294967295 := by
  have := (Lit.wf_int_iff _ _).1 h
  simpa [IntKind.min, IntKind.max, IntKind.signed, IntKind.bits] using this
end Go.Ga

/- What a law is given: what its values are made of, in the abstract memory. -/
namespace Go.Ga
open Go

section
variable {H : Type} {enc : TypeId × Value → H} {P : Program} {w : World} {held : Bool} {f : Nat} {t : TypeId} {cs : List Value}

/-- These cells are a value of this type. -/
def Shp (enc : TypeId × Value → H) (P : Program) (w : World) (held : Bool) (f : Nat) (t : TypeId) (cs : List Value) : Prop := ∃ x, DataW.trod enc P w 0 (fun _ => true) held f t cs = some x

theorem Shp.int {k : IntKind} (ht : P.underlying t = some (.int k)) (h : Shp enc P w held f t cs) : ∃ n, cs = [.int k n] ∧ (Lit.int k n).wf = true := by
  obtain ⟨x, hx⟩ := h
  obtain ⟨n, h1, _, h2⟩ := DataW.trod_int ht hx
  exact ⟨n, h1, h2⟩
theorem Shp.bool (ht : P.underlying t = some .bool) (h : Shp enc P w held f t cs) : ∃ b, cs = [.bool b] := by
  obtain ⟨x, hx⟩ := h
  obtain ⟨n, h1, _⟩ := DataW.trod_bool ht hx
  exact ⟨n, h1⟩
theorem Shp.string (ht : P.underlying t = some .string) (h : Shp enc P w held f t cs) : ∃ s : ByteArray, cs = [.string s] ∧ s.size ≤ maxLen := by
  obtain ⟨x, hx⟩ := h
  obtain ⟨n, h1, _, h2⟩ := DataW.trod_string ht hx
  exact ⟨n, h1, h2⟩
theorem Shp.struct {fs : Array Field} (ht : P.underlying t = some (.struct fs)) (h : Shp enc P w held f t cs) :
    ∃ n, f = n + 1 ∧ cs.length = P.cellsOf t ∧ ∀ (i : Nat) (fl : Field), fs[i]? = some fl → Shp enc P w held n fl.type ((cs.drop fl.offset).take (P.cellsOf fl.type)) := by
  obtain ⟨x, hx⟩ := h
  obtain ⟨xs, n, h1, _, h2, h3, h4⟩ := DataW.trod_struct ht hx
  refine ⟨n, h1, h2, fun i fl hi => ?_⟩
  have hlt : i < xs.length := by
    rw [h3]
    exact (Array.getElem?_eq_some_iff.1 hi).1
  exact ⟨xs[i], by rw [h4 i fl hi, List.getElem?_eq_getElem hlt]⟩
theorem Shp.array {m : Nat} {e : TypeId} (ht : P.underlying t = some (.array m e)) (h : Shp enc P w held f t cs) :
    ∃ n, f = n + 1 ∧ cs.length = P.cellsOf t ∧ ∀ i, i < m → Shp enc P w held n e ((cs.drop (i * P.cellsOf e)).take (P.cellsOf e)) := by
  obtain ⟨x, hx⟩ := h
  obtain ⟨xs, n, h1, _, h2, h3, h4⟩ := DataW.trod_array ht hx
  exact ⟨n, h1, h2, fun i hi => ⟨xs[i]'(by omega), by rw [h4 i hi, List.getElem?_eq_getElem (by omega)]⟩⟩

theorem cells_all {w : World} {a : Addr} {N : Nat} {g : Nat → Value} (hN : 0 < N) (h : ∀ i, i < N → w.cell? (a.add i) = some (g i)) :
    a.spot = none ∧ isCells w a.block = true ∧ a.block < w.heap.size ∧ ∃ ce : List Value, (m0 w).get a.block = some (.cells (ce.map (absC w)) true) ∧ a.off + N ≤ ce.length ∧ ∀ i, i < N → ce[a.off + i]? = some (g i) := by
  have c0 := h 0 hN
  have hx : a.add 0 = a := by simp [Addr.add]
  rw [hx] at c0
  unfold World.cell? at c0
  split at c0
  · rename_i ce el fr hb
    have hsp : a.spot = none := by
      by_cases h : a.spot.isSome
      · rw [if_pos h] at c0; cases c0
      · simpa using h
    have hlt : a.block < w.heap.size := by
      rcases Nat.lt_or_ge a.block w.heap.size with h | h
      · exact h
      · rw [Array.getElem?_eq_none h] at hb; cases hb
    have hcell : ∀ i, i < N → ce.toList[a.off + i]? = some (g i) := by
      intro i hi
      have := h i hi
      unfold World.cell? Addr.add at this
      by_cases h0 : i = 0
      · subst h0
        simp only [if_true, hb, hsp] at this
        simpa using this
      · simp only [if_neg h0, hb] at this
        simpa using this
    refine ⟨hsp, by simp [isCells, hb], hlt, ce.toList, by simp [m0, hb], ?_, hcell⟩
    have := hcell (N - 1) (by omega)
    rcases Nat.lt_or_ge (a.off + (N - 1)) ce.toList.length with h | h
    · omega
    · rw [List.getElem?_eq_none h] at this; cases this
  · cases c0

theorem add_addr {a : Addr} {i j : Nat} (_ : a.spot = none) : (a.add i).add j = a.add (i + j) := by
  unfold Addr.add
  by_cases h1 : i = 0 <;> by_cases h2 : j = 0 <;> simp [h1, h2, Nat.add_assoc]

theorem Shp.slice {e : TypeId} (ht : P.underlying t = some (.slice e)) (hc : 0 < P.cellsOf e) (h : Shp enc P w held f t cs) :
    ∃ n v A len cap, ∃ l : List Value, f = n + 1 ∧ cs = [v] ∧ absC w v = .slice A len cap ∧ len ≤ cap ∧ Row w.heap.size (m0 w).get (P.cellsOf e) A (len * P.cellsOf e) (l.map (absC w)) ∧ l.length = len * P.cellsOf e ∧
      ∀ i, i < len → Shp enc P w held n e ((l.drop (i * P.cellsOf e)).take (P.cellsOf e)) := by
  obtain ⟨x, hx⟩ := h
  rcases DataW.trod_slice ht hx with ⟨rfl, _⟩ | ⟨a, len, cap, elems, rest, n, rfl, rfl, _, _, hl, hm, he, hel, hsp, _⟩
  · cases f with
    | zero => simp [DataW.trod] at hx
    | succ n => exact ⟨n, _, none, 0, 0, [], rfl, rfl, rfl, Nat.le_refl _, by rw [Nat.zero_mul]; exact .nil, by simp, fun i hi => absurd hi (Nat.not_lt_zero i)⟩
  · obtain ⟨hr, hrest⟩ := hsp rfl
    have one : ∀ i, i < cap → ∃ cs', w.cells? 0 (a.add (i * P.cellsOf e)) (P.cellsOf e) = some cs' ∧ Shp enc P w held n e cs' := by
      intro i hi
      rcases Nat.lt_or_ge i len with h | h
      · have h1 := hel i h
        rw [List.getElem?_eq_getElem (by omega), Option.bind_eq_some_iff] at h1
        obtain ⟨cs', h1, h2⟩ := h1
        exact ⟨cs', h1, _, h2⟩
      · have h1 := hrest (i - len) (by omega)
        rw [List.getElem?_eq_getElem (by omega), Option.bind_eq_some_iff, show len + (i - len) = i by omega] at h1
        obtain ⟨cs', h1, h2⟩ := h1
        exact ⟨cs', h1, _, h2⟩
    rcases Nat.eq_zero_or_pos cap with h0 | h0
    · subst h0
      have : len = 0 := by omega
      subst this
      exact ⟨n, _, some ⟨a.block, a.off, none⟩, 0, 0, [], rfl, rfl, by simp [absC], Nat.le_refl _, ⟨fun a ha => by injection ha with ha; subst ha; exact .inl rfl, by simp, fun h => by rw [Nat.zero_mul] at h; exact absurd h (Nat.lt_irrefl 0)⟩, by simp, fun i hi => absurd hi (Nat.not_lt_zero i)⟩
    · obtain ⟨cs0, hc0, ht0⟩ := one 0 h0
      obtain ⟨_, hl0, hg0⟩ := World.cells?_some hc0
      have hx0 : a.add (0 * P.cellsOf e) = a := by simp [Addr.add]
      rw [hx0] at hg0
      have hspot : a.spot = none := by
        refine (cells_all (w := w) (a := a) (N := 1) (g := fun i => cs0.getD 0 undef) (by omega) fun i hi => ?_).1
        have : i = 0 := by omega
        subst this
        rw [hg0 0 hc, List.getD_eq_getElem?_getD, List.getElem?_eq_getElem (by omega)]
        rfl
      have hpos : 0 < cap * P.cellsOf e := Nat.mul_pos h0 hc
      have hall : ∀ j, j < cap * P.cellsOf e → ∃ v, w.cell? (a.add j) = some v := by
        intro j hj
        have hd := Nat.div_add_mod j (P.cellsOf e)
        have hm := Nat.mod_lt j hc
        obtain ⟨cs', h1, _⟩ := one (j / P.cellsOf e) ((Nat.div_lt_iff_lt_mul hc).2 hj)
        obtain ⟨_, h2, h3⟩ := World.cells?_some h1
        have h4 := h3 (j % P.cellsOf e) hm
        rw [add_addr hspot, show j / P.cellsOf e * P.cellsOf e + j % P.cellsOf e = j by rw [Nat.mul_comm]; exact hd, List.getElem?_eq_getElem (by omega)] at h4
        exact ⟨_, h4⟩
      obtain ⟨g, hg⟩ : ∃ g : Nat → Value, ∀ j, j < cap * P.cellsOf e → w.cell? (a.add j) = some (g j) := by
        refine ⟨fun j => (w.cell? (a.add j)).getD undef, fun j hj => ?_⟩
        obtain ⟨v, hv⟩ := hall j hj
        simp only [hv, Option.getD_some]
      obtain ⟨h1, h2, h3, ce, h4, h5, h6⟩ := cells_all hpos hg
      have hle : len * P.cellsOf e ≤ cap * P.cellsOf e := Nat.mul_le_mul_right _ hl
      refine ⟨n, _, some a, len, cap, (ce.drop a.off).take (len * P.cellsOf e), rfl, rfl, ?_, hl, ⟨fun a' ha => by injection ha with ha; subst ha; exact .inl h1, by simp; omega, fun _ => ⟨a, _, true, rfl, h3, h4, by simp; omega, fun i hi => ?_⟩⟩, by simp; omega, fun i hi => ?_⟩
      · obtain ⟨ab, ao, asp⟩ := a
        simp only at h1
        subst h1
        simp [absC, show cap ≠ 0 by omega, hl, h2]
      · rw [List.getD_eq_getElem?_getD, List.getD_eq_getElem?_getD, List.getElem?_map, List.getElem?_map, List.getElem?_take_of_lt hi, List.getElem?_drop]
      · obtain ⟨cs', e1, e2⟩ := one i (by omega)
        obtain ⟨_, e3, e4⟩ := World.cells?_some e1
        have hik : i * P.cellsOf e + P.cellsOf e ≤ len * P.cellsOf e := by
          have := Nat.mul_le_mul_right (P.cellsOf e) (show i + 1 ≤ len by omega)
          rw [Nat.add_mul, Nat.one_mul] at this
          exact this
        have : ((((ce.drop a.off).take (len * P.cellsOf e)).drop (i * P.cellsOf e)).take (P.cellsOf e)) = cs' := by
          refine List.ext_getElem? fun k => ?_
          rcases Nat.lt_or_ge k (P.cellsOf e) with hk | hk
          · rw [List.getElem?_take_of_lt hk, List.getElem?_drop, List.getElem?_take_of_lt (by omega), List.getElem?_drop, h6 _ (by omega), ← hg _ (by omega), ← add_addr h1, e4 k hk]
          · rw [List.getElem?_eq_none (by simp; omega), List.getElem?_eq_none (by omega)]
        rw [this]
        exact e2

theorem Shp.bytes {e : TypeId} (ht : P.underlying t = some (.slice e)) (he : P.underlying e = some (.int .u8)) (hc : P.cellsOf e = 1) (h : Shp enc P w held f t cs) :
    ∃ v A len cap, ∃ l : List UInt8, cs = [v] ∧ absC w v = .slice A len cap ∧ len ≤ cap ∧ Row w.heap.size (m0 w).get 1 A len (l.map u8V) := by
  obtain ⟨n, v, A, len, cap, l, rfl, h1, h2, h3, h4, h5, h6⟩ := h.slice ht (by omega)
  rw [hc, Nat.mul_one] at h4 h5
  refine ⟨v, A, len, cap, l.map fun v => UInt8.ofNat (intOf (some v)).toNat, h1, h2, h3, ?_⟩
  have : (l.map fun v => UInt8.ofNat (intOf (some v)).toNat).map u8V = l.map (absC w) := by
    rw [List.map_map]
    refine List.map_congr_left fun v hv => ?_
    obtain ⟨i, hi, rfl⟩ := List.getElem_of_mem hv
    obtain ⟨z, e1, e2⟩ := (h6 i (by omega)).int he
    have e1' : l[i] = .int .u8 z := by
      rw [hc, Nat.mul_one, List.drop_eq_getElem_cons hi] at e1
      simp only [List.take_succ_cons, List.take_zero, List.cons.injEq, and_true] at e1
      exact e1
    rw [e1']
    obtain ⟨b1, b2⟩ := wf_u8 e2
    simp only [Function.comp, intOf, u8V, absC, goodV, if_true]
    rw [UInt8.toNat_ofNat']
    congr 1
    omega
  rw [this]
  exact h4
theorem Shp.words {e : TypeId} (ht : P.underlying t = some (.slice e)) (he : P.underlying e = some (.int .u32)) (hc : P.cellsOf e = 1) (h : Shp enc P w held f t cs) :
    ∃ v A len cap, ∃ l : List UInt32, cs = [v] ∧ absC w v = .slice A len cap ∧ len ≤ cap ∧ Row w.heap.size (m0 w).get 1 A len (l.map u32V) := by
  obtain ⟨n, v, A, len, cap, l, rfl, h1, h2, h3, h4, h5, h6⟩ := h.slice ht (by omega)
  rw [hc, Nat.mul_one] at h4 h5
  refine ⟨v, A, len, cap, l.map fun v => UInt32.ofNat (intOf (some v)).toNat, h1, h2, h3, ?_⟩
  have : (l.map fun v => UInt32.ofNat (intOf (some v)).toNat).map u32V = l.map (absC w) := by
    rw [List.map_map]
    refine List.map_congr_left fun v hv => ?_
    obtain ⟨i, hi, rfl⟩ := List.getElem_of_mem hv
    obtain ⟨z, e1, e2⟩ := (h6 i (by omega)).int he
    have e1' : l[i] = .int .u32 z := by
      rw [hc, Nat.mul_one, List.drop_eq_getElem_cons hi] at e1
      simp only [List.take_succ_cons, List.take_zero, List.cons.injEq, and_true] at e1
      exact e1
    rw [e1']
    obtain ⟨b1, b2⟩ := wf_u32 e2
    simp only [Function.comp, intOf, u32V, absC, goodV, if_true]
    rw [UInt32.toNat_ofNat']
    congr 1
    omega
  rw [this]
  exact h4

theorem take_one {cs : List Value} {i : Nat} (h : i < cs.length) : (cs.drop i).take 1 = [cs[i]] := by
  rw [List.drop_eq_getElem_cons h]; rfl

end
end Go.Ga

/- A slice of slices of bytes that a law is given. -/
namespace Go.Ga
open Go

/-- Slices of bytes in a row. -/
def RowB (nx : Nat) (gt : Nat → Option Blk) (A : Option Addr) (n : Nat) (ls : List (List UInt8)) : Prop := ls.length = n ∧ (∀ a, A = some a → a.spot = none ∨ a.spot = some 1) ∧ (0 < n → ∃ a ce ro, A = some a ∧ a.block < nx ∧ gt a.block = some (.cells ce ro) ∧ a.off + n ≤ ce.length ∧
  ∀ i, i < n → ∃ B m d, ce.getD (a.off + i) undef = .slice B m d ∧ m ≤ d ∧ Row nx gt 1 B m ((ls.getD i []).map u8V))
theorem RowB.keep {nx gt A n ls nx' gt'} (h : RowB nx gt A n ls) (h1 : nx ≤ nx') (h2 : ∀ p, p < nx → gt' p = gt p) : RowB nx' gt' A n ls := by
  refine ⟨h.1, h.2.1, fun h0 => ?_⟩
  obtain ⟨a, ce, ro, e1, e2, e3, e4, e5⟩ := h.2.2 h0
  refine ⟨a, ce, ro, e1, by omega, by rw [h2 _ e2, e3], e4, fun i hi => ?_⟩
  obtain ⟨B, m, d, f1, f2, f3⟩ := e5 i hi
  exact ⟨B, m, d, f1, f2, f3.keep h1 h2⟩

section
variable {H : Type} {enc : TypeId × Value → H} {P : Program} {w : World} {held : Bool} {t : TypeId}

end
end Go.Ga

/- A key and a hash that a law is given. -/
namespace Go.Ga
open Go

section
variable {H : Type} {enc : TypeId × Value → H} {P : Program} {w : World} {held : Bool} {t : TypeId}

end
end Go.Ga

/- An element that a law is given. -/
namespace Go.Ga
open Go

theorem list_three {cs : List Value} {a b c : Value} (hl : cs.length = 3) (h0 : (cs.drop 0).take 1 = [a]) (h1 : (cs.drop 1).take 1 = [b]) (h2 : (cs.drop 2).take 1 = [c]) : cs = [a, b, c] := by
  match cs, hl with
  | [x, y, z], _ =>
    simp at h0 h1 h2
    rw [h0, h1, h2]

section
variable {H : Type} {enc : TypeId × Value → H} {P : Program} {w : World} {held : Bool} {t : TypeId}

/-- The types of a node, as the program has them. -/
structure NodeT (P : Program) (t ti tb tk te : TypeId) : Prop where
  str : ∃ fs : Array Field, P.underlying t = some (.struct fs) ∧ (fs[0]?).map (fun f => (f.type, f.offset)) = some (ti, 0) ∧ (fs[1]?).map (fun f => (f.type, f.offset)) = some (tb, 1) ∧ (fs[2]?).map (fun f => (f.type, f.offset)) = some (tk, 2)
  int : P.underlying ti = some (.int .i64)
  bytes : P.underlying tb = some (.slice te)
  byte : P.underlying te = some (.int .u8)
  kids : P.underlying tk = some (.slice t)
  ct : P.cellsOf t = 3
  ci : P.cellsOf ti = 1
  cb : P.cellsOf tb = 1
  ce : P.cellsOf te = 1
  ck : P.cellsOf tk = 1

theorem Shp.nodes {f : Nat} {t ti tb tk te : TypeId} (hT : NodeT P t ti tb tk te) (hnode : ∀ cs, Shp enc P w held f t cs → ∃ (x : Fo.El) (B : Option Addr) (m d : Nat) (A : Option Addr) (n c : Nat) (ks : List Value), cs.map (absC w) = nodeL x.t B m d A n c ∧ NdR w.heap.size (m0 w).get x B m d A n c ks)
    {cs : List Value} {tk' : TypeId} (hk : P.underlying tk' = some (.slice t)) (h : Shp enc P w held (f + 1) tk' cs) :
    ∃ (v : Value) (A : Option Addr) (n c : Nat) (F : Fo) (ks : List Value), cs = [v] ∧ absC w v = .slice A n c ∧ n ≤ c ∧ n = F.len ∧ Row w.heap.size (m0 w).get 3 A (n * 3) ks ∧ FoR w.heap.size (m0 w).get F ks := by
  obtain ⟨n, v, A, len, cap, l, hf, rfl, h2, h3, h4, h5, h6⟩ := h.slice hk (by rw [hT.ct]; omega)
  injection hf with hf
  subst hf
  rw [hT.ct] at h4 h5 h6
  have key : ∀ i, i ≤ len → ∃ F : Fo, F.len = i ∧ FoR w.heap.size (m0 w).get F ((l.map (absC w)).take (i * 3)) := by
    intro i
    induction i with
    | zero => intro _; exact ⟨.nil, rfl, by rw [Nat.zero_mul]; rfl⟩
    | succ i ih =>
      intro hi
      obtain ⟨F, e1, e2⟩ := ih (by omega)
      obtain ⟨x, B, m, d, A', n', c', ks', g1, g2⟩ := hnode _ (h6 i (by omega))
      refine ⟨F.app x.f, by rw [Fo.len_app, e1]; rfl, ?_⟩
      have e : (l.map (absC w)).take ((i + 1) * 3) = (l.map (absC w)).take (i * 3) ++ nodeL x.t B m d A' n' c' := by
        rw [← g1, Nat.add_mul, Nat.one_mul, List.take_add, List.map_take, List.map_drop]
      rw [e]
      exact e2.app g2.one
  obtain ⟨F, e1, e2⟩ := key len (Nat.le_refl _)
  rw [List.take_of_length_le (by simp; omega)] at e2
  exact ⟨v, A, len, cap, F, _, rfl, h2, h3, e1.symm, h4, e2⟩

theorem Shp.node {t ti tb tk te : TypeId} (hT : NodeT P t ti tb tk te) : ∀ (f : Nat) (cs : List Value), Shp enc P w held f t cs →
    ∃ (x : Fo.El) (B : Option Addr) (m d : Nat) (A : Option Addr) (n c : Nat) (ks : List Value), cs.map (absC w) = nodeL x.t B m d A n c ∧ NdR w.heap.size (m0 w).get x B m d A n c ks := by
  intro f
  induction f using Nat.strongRecOn with
  | ind f ih =>
    intro cs h
    obtain ⟨fs, hs, h0, h1, h2⟩ := hT.str
    obtain ⟨k, rfl, hl, hfl⟩ := h.struct hs
    simp only [Option.map_eq_some_iff] at h0 h1 h2
    obtain ⟨f0, e0, e0'⟩ := h0
    obtain ⟨f1, e1, e1'⟩ := h1
    obtain ⟨f2, e2, e2'⟩ := h2
    injection e0' with a0 b0
    injection e1' with a1 b1
    injection e2' with a2 b2
    have g0 := hfl 0 f0 e0
    have g1 := hfl 1 f1 e1
    have g2 := hfl 2 f2 e2
    rw [hT.ct] at hl
    rw [a0, b0, hT.ci, take_one (by omega)] at g0
    rw [a1, b1, hT.cb, take_one (by omega)] at g1
    rw [a2, b2, hT.ck, take_one (by omega)] at g2
    obtain ⟨z, z1, z2⟩ := g0.int hT.int
    obtain ⟨vb, B, m, d, lb, q0, q1, q2, q3⟩ := g1.bytes hT.bytes hT.byte hT.ce
    cases k with
    | zero =>
      obtain ⟨y, hy⟩ := g2
      rcases DataW.trod_slice hT.kids hy with ⟨_, h⟩ | ⟨a, len, cap, elems, rest, n, h, _⟩
      · simp [DataW.trod] at hy
      · simp [DataW.trod] at hy
    | succ k =>
      obtain ⟨vk, A, n, c, F, ks, p0, p1, p2, p3, p4, p5⟩ := g2.nodes hT (ih k (by omega)) hT.kids
      injection z1 with z1
      injection q0 with q0
      injection p0 with p0
      refine ⟨⟨z, lb, F⟩, B, m, d, A, n, c, ks, ?_, ⟨wf_i64 z2, q3, q2, p4, p2, p3, p5⟩⟩
      have hcs : cs = [cs[0], cs[1], cs[2]] := list_three hl (take_one (by omega)) (take_one (by omega)) (take_one (by omega))
      rw [hcs, z1, q0, p0]
      simp only [List.map_cons, List.map_nil, q1, p1]
      simp [absC, goodV]

end
end Go.Ga

/- A prefix that a law is given, and a slice of them. -/
namespace Go.Ga
open Go Go.Proofs
set_option maxRecDepth 100000

structure VrpC (P : Program) (tv tu tp ti tb ta te : TypeId) : Prop where
  cv : P.cellsOf tv = 20
  cu : P.cellsOf tu = 1
  cp : P.cellsOf tp = 18
  ci : P.cellsOf ti = 1
  cb : P.cellsOf tb = 1
  ca : P.cellsOf ta = 16
  ce : P.cellsOf te = 1
theorem vrpC : VrpC Tryd.prog 38 33 36 3 4 34 5 := ⟨by kernel_rfl, by kernel_rfl, by kernel_rfl, by kernel_rfl, by kernel_rfl, by kernel_rfl, by kernel_rfl⟩

section
variable {H : Type} {enc : TypeId × Value → H} {P : Program} {w : World} {held : Bool} {tv tu tp ti tb ta te : TypeId}

theorem one_cell {cs : List Value} {i : Nat} {v : Value} (h : (cs.drop i).take 1 = [v]) : cs[i]? = some v := by
  have : ((cs.drop i).take 1)[0]? = some v := by rw [h]; rfl
  rw [List.getElem?_take_of_lt (by omega), List.getElem?_drop] at this
  exact this
theorem flds3 {fs : Array Field} {a b c : TypeId × Nat} (h : fs.toList.map (fun f => (f.type, f.offset)) = [a, b, c]) :
    ∃ x y z, fs[0]? = some x ∧ fs[1]? = some y ∧ fs[2]? = some z ∧ (x.type, x.offset) = a ∧ (y.type, y.offset) = b ∧ (z.type, z.offset) = c := by
  obtain ⟨l⟩ := fs
  match l, h with
  | [x, y, z], h =>
    simp only [List.map_cons, List.map_nil, List.cons.injEq, and_true] at h
    exact ⟨x, y, z, rfl, rfl, rfl, h.1, h.2.1, h.2.2⟩

theorem Shp.arr16 {f : Nat} {cs : List Value} (ht : P.underlying ta = some (.array 16 te)) (he : P.underlying te = some (.int .u8)) (hc : P.cellsOf te = 1) (hct : P.cellsOf ta = 16) (h : Shp enc P w held f ta cs) : ∃ a : List UInt8, a.length = 16 ∧ cs = a.map u8V := by
  obtain ⟨n, rfl, hl, hx⟩ := h.array ht
  rw [hct] at hl
  have key : ∀ i, i < 16 → ∃ z : Int, cs[i]? = some (.int .u8 z) ∧ 0 ≤ z ∧ z ≤ 255 := fun i hi => by
    have := hx i hi
    rw [hc, Nat.mul_one] at this
    obtain ⟨z, h1, h2⟩ := this.int he
    exact ⟨z, one_cell h1, wf_u8 h2⟩
  refine ⟨(List.range 16).map fun i => UInt8.ofNat (intOf cs[i]?).toNat, by simp, ?_⟩
  refine List.ext_getElem? fun i => ?_
  rcases Nat.lt_or_ge i 16 with h | h
  · obtain ⟨z, h1, h2, h3⟩ := key i h
    rw [h1, List.map_map, List.getElem?_map, List.getElem?_range h]
    simp only [Option.map_some, Function.comp, h1, intOf, u8V]
    rw [UInt8.toNat_ofNat', Nat.mod_eq_of_lt (by omega)]
    congr 2; omega
  · rw [List.getElem?_eq_none (by omega), List.getElem?_eq_none (by simp; omega)]

theorem Shp.px {f : Nat} {cs : List Value} (T : PxT P tp tb ta te ti) (C : VrpC P tv tu tp ti tb ta te) (h : Shp enc P w held f tp cs) :
    ∃ (v6 : Bool) (a : List UInt8) (len : Int), a.length = 16 ∧ (-9223372036854775808 ≤ len ∧ len ≤ 9223372036854775807) ∧ cs = pxL v6 a len := by
  obtain ⟨fs, hs, hf, _⟩ := T.str
  obtain ⟨n, rfl, hl, hx⟩ := h.struct hs
  obtain ⟨x, y, z, e0, e1, e2, q0, q1, q2⟩ := flds3 hf
  injection q0 with a0 b0
  injection q1 with a1 b1
  injection q2 with a2 b2
  have g0 := hx 0 x e0
  have g1 := hx 1 y e1
  have g2 := hx 2 z e2
  rw [C.cp] at hl
  rw [a0, b0, C.cb] at g0
  rw [a1, b1, C.ca] at g1
  rw [a2, b2, C.ci] at g2
  obtain ⟨v6, r0⟩ := g0.bool T.bool
  obtain ⟨a, ha, r1⟩ := g1.arr16 T.arr T.byte C.ce C.ca
  obtain ⟨len, r2, r3⟩ := g2.int T.int
  refine ⟨v6, a, len, ha, wf_i64 r3, ?_⟩
  have c0 := one_cell r0
  have c2 := one_cell r2
  refine List.ext_getElem? fun i => ?_
  rcases Nat.lt_or_ge i 1 with h | h
  · obtain rfl : i = 0 := by omega
    rw [c0]; rfl
  · rcases Nat.lt_or_ge i 17 with h2 | h2
    · have : ((cs.drop 1).take 16)[i - 1]? = (a.map u8V)[i - 1]? := by rw [r1]
      rw [List.getElem?_take_of_lt (by omega), List.getElem?_drop, show 1 + (i - 1) = i by omega] at this
      rw [this, pxL, List.getElem?_cons, if_neg (by omega), List.getElem?_append_left (by simp [ha]; omega)]
    · rcases Nat.lt_or_ge i 18 with h3 | h3
      · obtain rfl : i = 17 := by omega
        rw [c2, pxL, List.getElem?_cons, if_neg (by omega), List.getElem?_append_right (by simp [ha])]
        simp [ha]
      · rw [List.getElem?_eq_none (by omega), List.getElem?_eq_none (by rw [pxL_len ha]; omega)]

theorem Shp.vrp {f : Nat} {cs : List Value} (T : PxT P tp tb ta te ti) (V : VpT P tv tu tp ti) (C : VrpC P tv tu tp ti tb ta te) (h : Shp enc P w held f tv cs) : ∃ v : Vp, v.wf ∧ cs = vpL v := by
  obtain ⟨fs, hs, hf, _⟩ := V.str
  obtain ⟨n, rfl, hl, hx⟩ := h.struct hs
  obtain ⟨x, y, z, e0, e1, e2, q0, q1, q2⟩ := flds3 hf
  injection q0 with a0 b0
  injection q1 with a1 b1
  injection q2 with a2 b2
  have g0 := hx 0 x e0
  have g1 := hx 1 y e1
  have g2 := hx 2 z e2
  rw [C.cv] at hl
  rw [a0, b0, C.cu] at g0
  rw [a1, b1, C.cp] at g1
  rw [a2, b2, C.ci] at g2
  obtain ⟨wa, r0, r4⟩ := g0.int V.u32
  obtain ⟨v6, a, len, ha, hlen, r1⟩ := g1.px T C
  obtain ⟨mx, r2, r3⟩ := g2.int V.int
  obtain ⟨s1, s2⟩ := wf_u32 r4
  have c0 := one_cell r0
  have c2 := one_cell r2
  refine ⟨⟨UInt32.ofNat wa.toNat, v6, a, len, mx⟩, ⟨ha, hlen, wf_i64 r3⟩, ?_⟩
  have hwa : u32V (UInt32.ofNat wa.toNat) = .int .u32 wa := by
    rw [u32V, UInt32.toNat_ofNat', Nat.mod_eq_of_lt (by omega)]
    congr 1; omega
  refine List.ext_getElem? fun i => ?_
  rw [vpL, hwa]
  rcases Nat.lt_or_ge i 1 with h | h
  · obtain rfl : i = 0 := by omega
    rw [c0]; rfl
  · rcases Nat.lt_or_ge i 19 with h2 | h2
    · have : ((cs.drop 1).take 18)[i - 1]? = (pxL v6 a len)[i - 1]? := by rw [r1]
      rw [List.getElem?_take_of_lt (by omega), List.getElem?_drop, show 1 + (i - 1) = i by omega] at this
      rw [this, List.getElem?_cons, if_neg (by omega), List.getElem?_append_left (by rw [pxL_len ha]; omega)]
    · rcases Nat.lt_or_ge i 20 with h3 | h3
      · obtain rfl : i = 19 := by omega
        rw [c2, List.getElem?_cons, if_neg (by omega), List.getElem?_append_right (by rw [pxL_len ha]; omega)]
        simp [pxL_len ha]
      · rw [List.getElem?_eq_none (by omega), List.getElem?_eq_none (by simp [pxL_len ha]; omega)]

theorem absC_vpL (v : Vp) : (vpL v).map (absC w) = vpL v := by
  have e : (v.a.map u8V).map (absC w) = v.a.map u8V := by
    rw [List.map_map]
    exact List.map_congr_left fun x _ => rfl
  simp only [vpL, pxL, List.map_cons, List.map_append, e, List.map_nil]
  rfl

theorem open_vrp (T : PxT P tp tb ta te ti) (V : VpT P tv tu tp ti) (C : VrpC P tv tu tp ti tb ta te) {r : Reach} {b0 : Nat} {v : Value} {d : DataW H} {ps : List MemPlace} (hval : Value.okWide P w r b0 tv v) (hd : DataW.Trod enc P w 0 (fun _ => true) held tv v d ps) :
    ∃ x : Vp, absV w v = vpV x ∧ x.wf := by
  obtain ⟨fs, hs, _⟩ := V.str
  simp only [Value.okWide, hs] at hval
  obtain ⟨cs, rfl, hcs, _⟩ := hval
  obtain ⟨fuel, hf⟩ := hd
  obtain ⟨x, h1, h2⟩ := Shp.vrp T V C ⟨_, hf⟩
  refine ⟨x, ?_, h1⟩
  simp only [Value.cells] at h2
  simp only [absV, vpV]
  congr 1
  apply Array.ext'
  rw [Array.toList_map, h2, absC_vpL]

end
end Go.Ga
