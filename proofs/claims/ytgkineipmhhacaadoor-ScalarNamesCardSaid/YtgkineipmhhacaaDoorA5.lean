/- Words and contracts of functions for the statement's proof. No condition. -/
import Derived.Test.YtgkineipmhhacaaDoorA4
set_option linter.all false

/- The law ScalarNames. -/
namespace Go.Ga
open Go Go.Proofs
set_option linter.unusedSimpArgs false
set_option linter.unusedVariables false
set_option maxRecDepth 100000
attribute [local irreducible] appendK

theorem arcs_len (x : Fo.El) : (arcsR x).1.length ≤ 20 := by
  by_cases h : ∃ l, oidR l = .ok x
  · obtain ⟨l, hl⟩ := h
    rw [arcsR_ok hl]
    obtain ⟨a, b, t, rfl, h1, _⟩ := oid_parts (oidR_ok hl).1
    simp only [List.length_cons]; omega
  · rw [arcsR_no fun l hl => h ⟨l, hl⟩]; simp
theorem oid_nws {l : List UInt32} : (nodeOf (oidR l)).f.ws ≤ 201 := by
  cases h : oidR l with
  | error e => show 1 + 0 + 0 + 0 ≤ _; omega
  | ok y => exact oidR_ws h

section
variable {nx : Nat} {gt : Nat → Option Blk}


theorem fn_Names {A0 : Option Addr} {n0 c0 : Nat} {l0 : List UInt32} {x : Fo.El} {B : Option Addr} {m d : Nat} {A : Option Addr} {n c : Nat} {ks : List Value} (hr : Row nx gt 1 A0 n0 (l0.map u32V)) (hc : n0 ≤ c0) (h : NdR nx gt x B m d A n c ks) :
    Ct Tryd.prog 5 [.slice A0 n0 c0, nodeV x.t B m d A n c] nx gt fun v _ _ => v = .bool true := by
  refine Ct.of hmx r_lanyardlaw05_ScalarNames (by simp [c_lanyardlaw05_ScalarNames]) fun b hb => ?_
  have hF : ∀ q, q < nx → upd gt nx (some (.cells (nodeL x.t B m d A n c) false)) q = gt q := fun q hq => by simp only [upd_e]; rw [if_neg (by omega)]
  have hb0 : upd gt nx (some (.cells (nodeL x.t B m d A n c) false)) nx = some (.cells (nodeL x.t B m d A n c) false) := by simp only [upd_e, if_true]
  have hl0 : l0.length = n0 := by simpa using hr.len
  simp only [c_lanyardlaw05_ScalarNames, ↓gaW, ↓gaV, ↓gaC, ↓gaN, gaP, Nat.reduceEqDiff, Nat.reduceLeDiff, Nat.reduceAdd, Nat.reduceSub, Nat.reduceMul, Int.reduceLT, Int.reduceLE, Int.reduceEq, Int.reduceToNat, Int.reduceAdd, Int.reduceSub, Int.reduceMul, reduceCtorEq, ↓reduceIte, List.getD_cons_zero, List.getD_cons_succ, fillL, splice, List.take_zero, List.drop_zero, List.drop_succ_cons, List.take_succ_cons, List.drop_nil, List.take_nil, gaU]
  generalize upd gt nx (some (.cells (nodeL x.t B m d A n c) false)) = g0 at *
  refine callK_of ct_awake05 (fun v x1 g1 l1 k1 hC => ?_) (by omega)
  subst hC
  have F1 : ∀ p, p < nx → g1 p = gt p := fun p hp => by rw [k1 p (by omega), hF p hp]
  have hb1 : g1 nx = some (.cells (nodeL x.t B m d A n c) false) := by rw [k1 nx (by omega), hb0]
  simp only [↓gaW, ↓gaV, ↓gaC, ↓gaN, gaP, Nat.reduceEqDiff, Nat.reduceLeDiff, Nat.reduceAdd, Nat.reduceSub, Nat.reduceMul, Int.reduceLT, Int.reduceLE, Int.reduceEq, Int.reduceToNat, Int.reduceAdd, Int.reduceSub, Int.reduceMul, reduceCtorEq, ↓reduceIte, List.getD_cons_zero, List.getD_cons_succ, fillL, splice, List.take_zero, List.drop_zero, List.drop_succ_cons, List.take_succ_cons, List.drop_nil, List.take_nil, hb1]
  repeat refine And.intro (by omega) ?_
  refine callK_of (ct_Light (h.keep (x' := x1) (by omega) F1)) (fun v x2 g2 l2 k2 hC => ?_) (by omega)
  obtain ⟨ok, rfl, hok⟩ := hC
  have F2 : ∀ p, p < nx → g2 p = gt p := fun p hp => by rw [k2 p (by omega), F1 p hp]
  have hb2 : g2 nx = some (.cells (nodeL x.t B m d A n c) false) := by rw [k2 nx (by omega), hb1]
  cases ok with
  | false =>
    simp only [↓gaW, ↓gaV, ↓gaC, ↓gaN, gaP, Nat.reduceEqDiff, Nat.reduceLeDiff, Nat.reduceAdd, Nat.reduceSub, Nat.reduceMul, Int.reduceLT, Int.reduceLE, Int.reduceEq, Int.reduceToNat, Int.reduceAdd, Int.reduceSub, Int.reduceMul, reduceCtorEq, ↓reduceIte, gaE, implies_true, Nat.le_refl, Int.sub_zero, Nat.sub_zero, Int.le_refl, true_or, or_true, List.getD_cons_zero, List.getD_cons_succ, fillL, splice, List.take_zero, List.drop_zero, List.drop_succ_cons, List.take_succ_cons, List.drop_nil, List.take_nil, Bool.not_false]
    exact ⟨by omega, F2⟩
  | true =>
    have hxw := hok rfl
    by_cases hn0 : (100 : Int) < (n0 : Int)
    · simp only [↓gaW, ↓gaV, ↓gaC, ↓gaN, gaP, Nat.reduceEqDiff, Nat.reduceLeDiff, Nat.reduceAdd, Nat.reduceSub, Nat.reduceMul, Int.reduceLT, Int.reduceLE, Int.reduceEq, Int.reduceToNat, Int.reduceAdd, Int.reduceSub, Int.reduceMul, reduceCtorEq, ↓reduceIte, gaE, implies_true, Nat.le_refl, Int.sub_zero, Nat.sub_zero, Int.le_refl, true_or, or_true, List.getD_cons_zero, List.getD_cons_succ, fillL, splice, List.take_zero, List.drop_zero, List.drop_succ_cons, List.take_succ_cons, List.drop_nil, List.take_nil, Bool.not_true, hn0, decide_true]
      exact ⟨by omega, F2⟩
    simp only [↓gaW, ↓gaV, ↓gaC, ↓gaN, gaP, Nat.reduceEqDiff, Nat.reduceLeDiff, Nat.reduceAdd, Nat.reduceSub, Nat.reduceMul, Int.reduceLT, Int.reduceLE, Int.reduceEq, Int.reduceToNat, Int.reduceAdd, Int.reduceSub, Int.reduceMul, reduceCtorEq, ↓reduceIte, List.getD_cons_zero, List.getD_cons_succ, fillL, splice, List.take_zero, List.drop_zero, List.drop_succ_cons, List.take_succ_cons, List.drop_nil, List.take_nil, Bool.not_true, hn0, decide_false]
    repeat refine And.intro (by omega) ?_
    have hws := oid_nws (l := l0)
    have hal := arcs_len x
    refine callK_of (ct_Oid (hr.keep (nx' := x2) (by omega) F2) hc (by omega)) (fun v x3 g3 l3 k3 hC => ?_) (by omega)
    obtain ⟨B3, m3, d3, A3, n3, c3, ks3, rfl, N3⟩ := hC.any
    have F3 : ∀ p, p < nx → g3 p = gt p := fun p hp => by rw [k3 p (by omega), F2 p hp]
    have hb3 : g3 nx = some (.cells (nodeL x.t B m d A n c) false) := by rw [k3 nx (by omega), hb2]
    simp only [↓gaW, ↓gaV, ↓gaC, ↓gaN, gaP, Nat.reduceEqDiff, Nat.reduceLeDiff, Nat.reduceAdd, Nat.reduceSub, Nat.reduceMul, Int.reduceLT, Int.reduceLE, Int.reduceEq, Int.reduceToNat, Int.reduceAdd, Int.reduceSub, Int.reduceMul, reduceCtorEq, ↓reduceIte, List.getD_cons_zero, List.getD_cons_succ, fillL, splice, List.take_zero, List.drop_zero, List.drop_succ_cons, List.take_succ_cons, List.drop_nil, List.take_nil, gaU]
    repeat refine And.intro (by omega) ?_
    refine And.intro (node_cells _ _ _ _ _ _ _) ?_
    repeat refine And.intro (by omega) ?_
    obtain ⟨g4, e4, G4, hq4⟩ := boxed (g := g3) (x := x3) (cs := [Value.int .i64 0, .slice none 0 0, .slice none 0 0]) (ds := nodeL (nodeOf (oidR l0)).t B3 m3 d3 A3 n3 c3)
    rw [← e4]; clear e4
    obtain ⟨x4, ex4⟩ : ∃ y, y = x3 + 1 := ⟨_, rfl⟩
    rw [← ex4]
    have F4 : ∀ p, p < nx → g4 p = gt p := fun p hp => by rw [G4 p (by omega), F3 p hp]
    have hb4 : g4 nx = some (.cells (nodeL x.t B m d A n c) false) := by rw [G4 nx (by omega), hb3]
    refine callK_of (ct_rOid (hr.keep (nx' := x4) (by omega) F4) hc (by omega)) (fun v x5 g5 l5 k5 hC => ?_) (by omega)
    obtain ⟨B5, m5, d5, A5, n5, c5, ks5, rfl, N5⟩ := hC.any
    have F5 : ∀ p, p < nx → g5 p = gt p := fun p hp => by rw [k5 p (by omega), F4 p hp]
    have hb5 : g5 nx = some (.cells (nodeL x.t B m d A n c) false) := by rw [k5 nx (by omega), hb4]
    have hq5 : g5 x3 = some (.cells (nodeL (nodeOf (oidR l0)).t B3 m3 d3 A3 n3 c3) false) := by rw [k5 _ (by omega), hq4]
    have hx35 : (x3 = x5) = False := by simp; omega
    simp only [↓gaW, ↓gaV, ↓gaC, ↓gaN, gaP, Nat.reduceEqDiff, Nat.reduceLeDiff, Nat.reduceAdd, Nat.reduceSub, Nat.reduceMul, Int.reduceLT, Int.reduceLE, Int.reduceEq, Int.reduceToNat, Int.reduceAdd, Int.reduceSub, Int.reduceMul, reduceCtorEq, ↓reduceIte, List.getD_cons_zero, List.getD_cons_succ, fillL, splice, List.take_zero, List.drop_zero, List.drop_succ_cons, List.take_succ_cons, List.drop_nil, List.take_nil, gaU, hx35, hq5]
    repeat refine And.intro (by omega) ?_
    refine And.intro (node_cells _ _ _ _ _ _ _) ?_
    repeat refine And.intro (by omega) ?_
    obtain ⟨g6, e6, G6, hq6⟩ := boxed (g := g5) (x := x5) (cs := [Value.int .i64 0, .slice none 0 0, .slice none 0 0]) (ds := nodeL (nodeOf (oidR l0)).t B5 m5 d5 A5 n5 c5)
    rw [← e6]; clear e6
    obtain ⟨x6, ex6⟩ : ∃ y, y = x5 + 1 := ⟨_, rfl⟩
    rw [← ex6]
    have F6 : ∀ p, p < nx → g6 p = gt p := fun p hp => by rw [G6 p (by omega), F5 p hp]
    have hb6 : g6 nx = some (.cells (nodeL x.t B m d A n c) false) := by rw [G6 nx (by omega), hb5]
    have N6 := ((N3.r.keep (x' := x4) (by omega) G4).keep (x' := x5) l5 k5).keep (x' := x6) (by omega) G6
    have N7 := N5.r.keep (x' := x6) (by omega) G6
    refine callK_of (ct_Same (nodeOf (oidR l0)) (by omega) (nodeOf (oidR l0)) _ _ _ _ _ _ _ _ _ _ _ _ _ _ _ _ (N6) (N7)) (fun v x7 g7 l7 k7 hC => ?_) (by omega)
    obtain ⟨s7, rfl, hs7⟩ := hC
    have ht7 : s7 = true := hs7.2 rfl
    subst ht7
    have F7 : ∀ p, p < nx → g7 p = gt p := fun p hp => by rw [k7 p (by omega), F6 p hp]
    have hb7 : g7 nx = some (.cells (nodeL x.t B m d A n c) false) := by rw [k7 nx (by omega), hb6]
    simp only [↓gaW, ↓gaV, ↓gaC, ↓gaN, gaP, Nat.reduceEqDiff, Nat.reduceLeDiff, Nat.reduceAdd, Nat.reduceSub, Nat.reduceMul, Int.reduceLT, Int.reduceLE, Int.reduceEq, Int.reduceToNat, Int.reduceAdd, Int.reduceSub, Int.reduceMul, reduceCtorEq, ↓reduceIte, List.getD_cons_zero, List.getD_cons_succ, fillL, splice, List.take_zero, List.drop_zero, List.drop_succ_cons, List.take_succ_cons, List.drop_nil, List.take_nil, hb7]
    repeat refine And.intro (by omega) ?_
    refine callK_of (ct_Arcs (h.keep (x' := x7) (by omega) F7) (by omega)) (fun v x8 g8 l8 k8 hC => ?_) (by omega)
    obtain ⟨u8, rfl, A8, n8, rfl, hl8, r8⟩ := hC
    have F8 : ∀ p, p < nx → g8 p = gt p := fun p hp => by rw [k8 p (by omega), F7 p hp]
    have hb8 : g8 nx = some (.cells (nodeL x.t B m d A n c) false) := by rw [k8 nx (by omega), hb7]
    simp only [↓gaW, ↓gaV, ↓gaC, ↓gaN, gaP, Nat.reduceEqDiff, Nat.reduceLeDiff, Nat.reduceAdd, Nat.reduceSub, Nat.reduceMul, Int.reduceLT, Int.reduceLE, Int.reduceEq, Int.reduceToNat, Int.reduceAdd, Int.reduceSub, Int.reduceMul, reduceCtorEq, ↓reduceIte, List.getD_cons_zero, List.getD_cons_succ, fillL, splice, List.take_zero, List.drop_zero, List.drop_succ_cons, List.take_succ_cons, List.drop_nil, List.take_nil, hb8]
    repeat refine And.intro (by omega) ?_
    refine callK_of (ct_rArcs (h.keep (x' := x8) (by omega) F8) (by omega)) (fun v x9 g9 l9 k9 hC => ?_) (by omega)
    obtain ⟨u9, rfl, A9, n9, rfl, hl9, r9⟩ := hC
    have F9 : ∀ p, p < nx → g9 p = gt p := fun p hp => by rw [k9 p (by omega), F8 p hp]
    have hb9 : g9 nx = some (.cells (nodeL x.t B m d A n c) false) := by rw [k9 nx (by omega), hb8]
    simp only [↓gaW, ↓gaV, ↓gaC, ↓gaN, gaP, Nat.reduceEqDiff, Nat.reduceLeDiff, Nat.reduceAdd, Nat.reduceSub, Nat.reduceMul, Int.reduceLT, Int.reduceLE, Int.reduceEq, Int.reduceToNat, Int.reduceAdd, Int.reduceSub, Int.reduceMul, reduceCtorEq, ↓reduceIte, List.getD_cons_zero, List.getD_cons_succ, fillL, splice, List.take_zero, List.drop_zero, List.drop_succ_cons, List.take_succ_cons, List.drop_nil, List.take_nil]
    repeat refine And.intro (by omega) ?_
    refine callK_of (ct_sameL (r8.keep l9 k9) r9 (by omega)) (fun v xa ga la ka hC => ?_) (by omega)
    subst hC
    have Fa : ∀ p, p < nx → ga p = gt p := fun p hp => by rw [ka p (by omega), F9 p hp]
    simp only [↓gaW, ↓gaV, ↓gaC, ↓gaN, gaP, Nat.reduceEqDiff, Nat.reduceLeDiff, Nat.reduceAdd, Nat.reduceSub, Nat.reduceMul, Int.reduceLT, Int.reduceLE, Int.reduceEq, Int.reduceToNat, Int.reduceAdd, Int.reduceSub, Int.reduceMul, reduceCtorEq, ↓reduceIte, List.getD_cons_zero, List.getD_cons_succ, fillL, splice, List.take_zero, List.drop_zero, List.drop_succ_cons, List.take_succ_cons, List.drop_nil, List.take_nil, gaE, implies_true, Nat.le_refl, Int.sub_zero, Nat.sub_zero, Int.le_refl, true_or, or_true, decide_true, beq_self_eq_true]
    repeat refine And.intro (by omega) ?_
    exact Fa
end
end Go.Ga
