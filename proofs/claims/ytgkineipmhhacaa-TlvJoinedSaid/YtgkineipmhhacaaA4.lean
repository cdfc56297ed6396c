/- Words and contracts of functions for the statement's proof. No condition. -/
import Derived.Test.YtgkineipmhhacaaA3
set_option linter.all false

/- How many bytes and elements an element has, and how deep it goes. -/
namespace Go.Ga
open Go Go.Proofs
set_option linter.unusedSimpArgs false
set_option linter.unusedVariables false
set_option maxRecDepth 100000

theorem ct_Size : ∀ (x : Fo.El), x.f.ws < 1000000000000 → ∀ (nx : Nat) (gt : Nat → Option Blk) (B : Option Addr) (m d : Nat) (A : Option Addr) (n c : Nat) (ks : List Value), NdR nx gt x B m d A n c ks →
    Ct Try.prog 16 [nodeV x.t B m d A n c] nx gt fun v _ _ => v = .tuple #[.int .i64 (x.f.bs : Nat), .int .i64 (x.f.ms : Nat), .int .i64 (x.f.ds : Nat)] := by
  refine Fo.el_ind fun x ih hw nx gt B m d A n c ks h => ?_
  refine Ct.of hmx r_tlv_Size (by simp [c_tlv_Size]) fun b hb => ?_
  have hF : ∀ q, q < nx → upd gt nx (some (.cells (nodeL x.t B m d A n c) false)) q = gt q := fun q hq => by simp only [upd_e]; rw [if_neg (by omega)]
  have hb0 : upd gt nx (some (.cells (nodeL x.t B m d A n c) false)) nx = some (.cells (nodeL x.t B m d A n c) false) := by simp only [upd_e, if_true]
  have h0 := h.keep (x' := nx + 1) (by omega) hF
  have bw := Fo.bs_ws x.k
  have mw := Fo.ms_ws x.k
  have dw := Fo.ds_ws x.k
  have lw := Fo.len_ws x.k
  have xw : x.f.ws = 1 + x.b.length + x.k.ws := by simp only [Fo.El.f, Fo.ws]; omega
  simp only [c_tlv_Size, ↓gaW, ↓gaV, ↓gaC, ↓gaN, gaP, Nat.reduceEqDiff, Nat.reduceLeDiff, Nat.reduceAdd, Nat.reduceSub, Nat.reduceMul, Int.reduceLT, Int.reduceLE, Int.reduceEq, Int.reduceToNat, Int.reduceAdd, Int.reduceSub, Int.reduceMul, reduceCtorEq, ↓reduceIte, List.getD_cons_zero, List.getD_cons_succ, fillL, splice, List.take_zero, List.drop_zero, List.drop_succ_cons, List.take_succ_cons, List.drop_nil, List.take_nil, gaU]
  generalize upd gt nx (some (.cells (nodeL x.t B m d A n c) false)) = g0 at *
  repeat refine And.intro (by omega) ?_
  refine callK_of (ct_holds x.t) (fun v x1 g1 l1 k1 hC => ?_) (by omega)
  subst hC
  have hb1 : g1 nx = some (.cells (nodeL x.t B m d A n c) false) := by rw [k1 nx (by omega), hb0]
  have F1 : ∀ p, p < nx → g1 p = gt p := fun p hp => by rw [k1 p (by omega), hF p hp]
  have h1 := h0.keep l1 k1
  cases hh : Fo.has x.t with
  | false =>
    simp only [↓gaW, ↓gaV, ↓gaC, ↓gaN, gaP, Nat.reduceEqDiff, Nat.reduceLeDiff, Nat.reduceAdd, Nat.reduceSub, Nat.reduceMul, Int.reduceLT, Int.reduceLE, Int.reduceEq, Int.reduceToNat, Int.reduceAdd, Int.reduceSub, Int.reduceMul, reduceCtorEq, ↓reduceIte, gaE, implies_true, Nat.le_refl, Int.sub_zero, Nat.sub_zero, Int.le_refl, true_or, or_true, List.getD_cons_zero, List.getD_cons_succ, fillL, splice, List.take_zero, List.drop_zero, List.drop_succ_cons, List.take_succ_cons, List.drop_nil, List.take_nil, Bool.not_false, hb1, nodeL, List.getD_cons_zero, List.getD_cons_succ, List.length_cons, List.length_nil]
    repeat refine And.intro (by omega) ?_
    have hl := h.blen
    refine callQ_of (ct_head (t := 0) (n := m) (by omega) (by omega)) (fun v x2 g2 l2 k2 hC => ?_)
    obtain ⟨A2, rfl, r2⟩ := hC
    have e1 : x.f.bs = m + Fo.hn m := by simp only [Fo.El.f, Fo.bs, hh, hl]; rfl
    have e2 : x.f.ms = 1 := by simp only [Fo.El.f, Fo.ms, hh]; rfl
    have e3 : x.f.ds = 1 := by simp only [Fo.El.f, Fo.ds, hh]; rfl
    have e4 := Fo.hn_le m
    have e5 : IntKind.i64.wrap ((m : Int) + (Fo.hn m : Int)) = ((m + Fo.hn m : Nat) : Int) := by rw [i64_w _ (by omega)]; omega
    simp only [↓gaW, ↓gaV, ↓gaC, ↓gaN, gaP, Nat.reduceEqDiff, Nat.reduceLeDiff, Nat.reduceAdd, Nat.reduceSub, Nat.reduceMul, Int.reduceLT, Int.reduceLE, Int.reduceEq, Int.reduceToNat, Int.reduceAdd, Int.reduceSub, Int.reduceMul, reduceCtorEq, ↓reduceIte, gaE, implies_true, Nat.le_refl, Int.sub_zero, Nat.sub_zero, Int.le_refl, true_or, or_true, e5, e1, e2, e3]
    exact ⟨by omega, fun p hp => by rw [k2 p (by omega), F1 p hp]⟩
  | true =>
    simp only [↓gaW, ↓gaV, ↓gaC, ↓gaN, gaP, Nat.reduceEqDiff, Nat.reduceLeDiff, Nat.reduceAdd, Nat.reduceSub, Nat.reduceMul, Int.reduceLT, Int.reduceLE, Int.reduceEq, Int.reduceToNat, Int.reduceAdd, Int.reduceSub, Int.reduceMul, reduceCtorEq, ↓reduceIte, gaE, implies_true, Nat.le_refl, Int.sub_zero, Nat.sub_zero, Int.le_refl, true_or, or_true, List.getD_cons_zero, List.getD_cons_succ, fillL, splice, List.take_zero, List.drop_zero, List.drop_succ_cons, List.take_succ_cons, List.drop_nil, List.take_nil, Bool.not_true, hb1, nodeL, List.getD_cons_zero, List.getD_cons_succ, List.length_cons, List.length_nil]
    repeat refine And.intro (by omega) ?_
    refine loop_of (fun j f mm => ∃ (i x2 : Nat) (g : Nat → Option Blk) (pre post : Fo), j = n - i ∧ i ≤ n ∧ x.k = pre.app post ∧ pre.len = i ∧ f 24 = .slice A n c ∧ f 25 = .int .i64 (n : Nat) ∧ f 26 = .int .i64 (i : Nat) ∧ f 2 = .int .i64 (pre.bs : Nat) ∧ f 3 = .int .i64 ((1 + pre.ms : Nat) : Int) ∧ f 4 = .int .i64 (pre.ds : Nat) ∧
      mm = ⟨x2, b, g⟩ ∧ nx + 1 ≤ x2 ∧ (∀ p, p < nx → g p = gt p)) n ⟨0, x1, g1, .nil, x.k, by omega, by omega, rfl, rfl, by first | (simp only [↓gaW, ↓gaV, ↓gaC, ↓gaN, gaP, Nat.reduceEqDiff, Nat.reduceLeDiff, Nat.reduceAdd, Nat.reduceSub, Nat.reduceMul, Int.reduceLT, Int.reduceLE, Int.reduceEq, Int.reduceToNat, Int.reduceAdd, Int.reduceSub, Int.reduceMul, reduceCtorEq, ↓reduceIte]; done) | (simp only [↓gaW, ↓gaV, ↓gaC, ↓gaN, gaP, Nat.reduceEqDiff, Nat.reduceLeDiff, Nat.reduceAdd, Nat.reduceSub, Nat.reduceMul, Int.reduceLT, Int.reduceLE, Int.reduceEq, Int.reduceToNat, Int.reduceAdd, Int.reduceSub, Int.reduceMul, reduceCtorEq, ↓reduceIte]; rfl), by first | (simp only [↓gaW, ↓gaV, ↓gaC, ↓gaN, gaP, Nat.reduceEqDiff, Nat.reduceLeDiff, Nat.reduceAdd, Nat.reduceSub, Nat.reduceMul, Int.reduceLT, Int.reduceLE, Int.reduceEq, Int.reduceToNat, Int.reduceAdd, Int.reduceSub, Int.reduceMul, reduceCtorEq, ↓reduceIte]; done) | (simp only [↓gaW, ↓gaV, ↓gaC, ↓gaN, gaP, Nat.reduceEqDiff, Nat.reduceLeDiff, Nat.reduceAdd, Nat.reduceSub, Nat.reduceMul, Int.reduceLT, Int.reduceLE, Int.reduceEq, Int.reduceToNat, Int.reduceAdd, Int.reduceSub, Int.reduceMul, reduceCtorEq, ↓reduceIte]; rfl), by first | (simp only [↓gaW, ↓gaV, ↓gaC, ↓gaN, gaP, Nat.reduceEqDiff, Nat.reduceLeDiff, Nat.reduceAdd, Nat.reduceSub, Nat.reduceMul, Int.reduceLT, Int.reduceLE, Int.reduceEq, Int.reduceToNat, Int.reduceAdd, Int.reduceSub, Int.reduceMul, reduceCtorEq, ↓reduceIte]; done) | (simp only [↓gaW, ↓gaV, ↓gaC, ↓gaN, gaP, Nat.reduceEqDiff, Nat.reduceLeDiff, Nat.reduceAdd, Nat.reduceSub, Nat.reduceMul, Int.reduceLT, Int.reduceLE, Int.reduceEq, Int.reduceToNat, Int.reduceAdd, Int.reduceSub, Int.reduceMul, reduceCtorEq, ↓reduceIte]; rfl), by first | (simp only [↓gaW, ↓gaV, ↓gaC, ↓gaN, gaP, Nat.reduceEqDiff, Nat.reduceLeDiff, Nat.reduceAdd, Nat.reduceSub, Nat.reduceMul, Int.reduceLT, Int.reduceLE, Int.reduceEq, Int.reduceToNat, Int.reduceAdd, Int.reduceSub, Int.reduceMul, reduceCtorEq, ↓reduceIte]; done) | (simp only [↓gaW, ↓gaV, ↓gaC, ↓gaN, gaP, Nat.reduceEqDiff, Nat.reduceLeDiff, Nat.reduceAdd, Nat.reduceSub, Nat.reduceMul, Int.reduceLT, Int.reduceLE, Int.reduceEq, Int.reduceToNat, Int.reduceAdd, Int.reduceSub, Int.reduceMul, reduceCtorEq, ↓reduceIte]; rfl), by first | (simp only [↓gaW, ↓gaV, ↓gaC, ↓gaN, gaP, Nat.reduceEqDiff, Nat.reduceLeDiff, Nat.reduceAdd, Nat.reduceSub, Nat.reduceMul, Int.reduceLT, Int.reduceLE, Int.reduceEq, Int.reduceToNat, Int.reduceAdd, Int.reduceSub, Int.reduceMul, reduceCtorEq, ↓reduceIte]; done) | (simp only [↓gaW, ↓gaV, ↓gaC, ↓gaN, gaP, Nat.reduceEqDiff, Nat.reduceLeDiff, Nat.reduceAdd, Nat.reduceSub, Nat.reduceMul, Int.reduceLT, Int.reduceLE, Int.reduceEq, Int.reduceToNat, Int.reduceAdd, Int.reduceSub, Int.reduceMul, reduceCtorEq, ↓reduceIte]; rfl), by first | (simp only [↓gaW, ↓gaV, ↓gaC, ↓gaN, gaP, Nat.reduceEqDiff, Nat.reduceLeDiff, Nat.reduceAdd, Nat.reduceSub, Nat.reduceMul, Int.reduceLT, Int.reduceLE, Int.reduceEq, Int.reduceToNat, Int.reduceAdd, Int.reduceSub, Int.reduceMul, reduceCtorEq, ↓reduceIte]; done) | (simp only [↓gaW, ↓gaV, ↓gaC, ↓gaN, gaP, Nat.reduceEqDiff, Nat.reduceLeDiff, Nat.reduceAdd, Nat.reduceSub, Nat.reduceMul, Int.reduceLT, Int.reduceLE, Int.reduceEq, Int.reduceToNat, Int.reduceAdd, Int.reduceSub, Int.reduceMul, reduceCtorEq, ↓reduceIte]; rfl), rfl, by omega, F1⟩ ?_
    rintro j f mm ⟨i, x2, g2, pre, post, hj, hi, e1, e2, f24, f25, f26, f2, f3, f4, rfl, hx2, F2⟩
    have h2 := h.keep (x' := x2) (by omega) F2
    have hkl := h.len
    by_cases hin : (i : Int) < (n : Int)
    · obtain ⟨y, pre', post', B', m', d', A', n', c', ks', q1, q2, q3, q4⟩ := h2.kids.at (i := i) (by omega)
      obtain ⟨rfl, rfl⟩ := Fo.app_inj (e1.symm.trans q1) (by omega)
      obtain ⟨a, cl, ro, rfl, r2, r3, r4, r5⟩ := h2.row.cells (by omega)
      have hld := h2.row.load rfl r3 (j := i * 3) (k := 3) (by omega) (by omega)
      rw [q4] at hld
      simp only [↓gaW, ↓gaV, ↓gaC, ↓gaN, gaP, Nat.reduceEqDiff, Nat.reduceLeDiff, Nat.reduceAdd, Nat.reduceSub, Nat.reduceMul, Int.reduceLT, Int.reduceLE, Int.reduceEq, Int.reduceToNat, Int.reduceAdd, Int.reduceSub, Int.reduceMul, reduceCtorEq, ↓reduceIte, List.getD_cons_zero, List.getD_cons_succ, fillL, splice, List.take_zero, List.drop_zero, List.drop_succ_cons, List.take_succ_cons, List.drop_nil, List.take_nil, f24, f25, f26, hin, decide_true, r3, hld, nodeL]
      refine And.intro (by omega) (And.intro (by omega) (And.intro (by omega) (And.intro (node_cells _ _ _ _ _ _ _) ?_)))
      obtain ⟨g, hg⟩ : ∃ g, g = upd (upd g2 x2 (some (.cells [Value.int .i64 0, .slice none 0 0, .slice none 0 0] false))) x2 (some (.cells (nodeL y.t B' m' d' A' n' c') false)) := ⟨_, rfl⟩
      have G : ∀ p, p < x2 → g p = g2 p := fun p hp => by rw [hg]; simp only [upd_e]; rw [if_neg (by omega), if_neg (by omega)]
      have h3 := q3.keep (x' := x2 + 1) (by omega) G
      rw [← hg]; clear hg
      refine callK_of (ih pre y post' q1 (by have := Fo.ws_in q1; omega) _ _ _ _ _ _ _ _ _ h3) (fun v x3 g3 l3 k3 hC => ?_) (by omega)
      subst hC
      have w1 : (pre.app y.f).ws + post'.ws = x.k.ws := by rw [q1, Fo.app_one, Fo.ws_app (pre.app y.f)]
      have w2 := Fo.bs_ws (pre.app y.f)
      have w3 := Fo.ms_ws (pre.app y.f)
      have w4 := Fo.ds_ws (pre.app y.f)
      rw [Fo.bs_app] at w2
      rw [Fo.ms_app] at w3
      rw [Fo.ds_app] at w4
      have i1 : IntKind.i64.wrap ((pre.bs : Int) + (y.f.bs : Int)) = ((pre.bs + y.f.bs : Nat) : Int) := by rw [i64_w _ (by omega)]; omega
      have i2 : IntKind.i64.wrap (((1 + pre.ms : Nat) : Int) + (y.f.ms : Int)) = ((1 + (pre.ms + y.f.ms) : Nat) : Int) := by rw [i64_w _ (by omega)]; omega
      have i3 : IntKind.i64.wrap ((i : Int) + 1) = ((i + 1 : Nat) : Int) := by rw [i64_w _ (by omega)]; omega
      simp only [↓gaW, ↓gaV, ↓gaC, ↓gaN, gaP, Nat.reduceEqDiff, Nat.reduceLeDiff, Nat.reduceAdd, Nat.reduceSub, Nat.reduceMul, Int.reduceLT, Int.reduceLE, Int.reduceEq, Int.reduceToNat, Int.reduceAdd, Int.reduceSub, Int.reduceMul, reduceCtorEq, ↓reduceIte, gaE, implies_true, Nat.le_refl, Int.sub_zero, Nat.sub_zero, Int.le_refl, true_or, or_true, f2, f3, f4, f26, i1, i2, i3, loopK_n]
      repeat refine And.intro (by omega) ?_
      rw [mm_max _ 43 pre.ds y.f.ds (by simp only [↓gaW, ↓gaV, ↓gaC, ↓gaN, gaP, Nat.reduceEqDiff, Nat.reduceLeDiff, Nat.reduceAdd, Nat.reduceSub, Nat.reduceMul, Int.reduceLT, Int.reduceLE, Int.reduceEq, Int.reduceToNat, Int.reduceAdd, Int.reduceSub, Int.reduceMul, reduceCtorEq, ↓reduceIte])]
      simp only [↓gaW, ↓gaV, ↓gaC, ↓gaN, gaP, Nat.reduceEqDiff, Nat.reduceLeDiff, Nat.reduceAdd, Nat.reduceSub, Nat.reduceMul, Int.reduceLT, Int.reduceLE, Int.reduceEq, Int.reduceToNat, Int.reduceAdd, Int.reduceSub, Int.reduceMul, reduceCtorEq, ↓reduceIte]
      exact ⟨n - (i + 1), by omega, i + 1, x3, g3, pre.app y.f, post', rfl, by omega, by rw [q1, Fo.app_one], by rw [Fo.len_app]; simp only [Fo.El.f, Fo.len]; omega, f24, f25, rfl, by rw [Fo.bs_app], by rw [Fo.ms_app], by rw [Fo.ds_app], rfl, by omega, fun p hp => by rw [k3 p (by omega), G p (by omega), F2 p hp]⟩
    · have e : pre.len = x.k.len := by omega
      obtain ⟨rfl, rfl⟩ := Fo.app_end e1 e
      simp only [↓gaW, ↓gaV, ↓gaC, ↓gaN, gaP, Nat.reduceEqDiff, Nat.reduceLeDiff, Nat.reduceAdd, Nat.reduceSub, Nat.reduceMul, Int.reduceLT, Int.reduceLE, Int.reduceEq, Int.reduceToNat, Int.reduceAdd, Int.reduceSub, Int.reduceMul, reduceCtorEq, ↓reduceIte, List.getD_cons_zero, List.getD_cons_succ, fillL, splice, List.take_zero, List.drop_zero, List.drop_succ_cons, List.take_succ_cons, List.drop_nil, List.take_nil, f24, f25, f26, hin, decide_false, f2, f3, f4]
      refine callK_of (ct_head (t := 0) (n := x.k.bs) (by omega) (by omega)) (fun v x3 g3 l3 k3 hC => ?_) (by omega)
      obtain ⟨A3, rfl, r3⟩ := hC
      have z1 : x.f.bs = x.k.bs + Fo.hn x.k.bs := by simp only [Fo.El.f, Fo.bs, hh]; rfl
      have z2 : x.f.ms = 1 + x.k.ms := by simp only [Fo.El.f, Fo.ms, hh]; rfl
      have z3 : x.f.ds = x.k.ds + 1 := by simp only [Fo.El.f, Fo.ds, hh]; simp
      have z4 := Fo.hn_le x.k.bs
      have i1 : IntKind.i64.wrap ((x.k.bs : Int) + (Fo.hn x.k.bs : Int)) = ((x.k.bs + Fo.hn x.k.bs : Nat) : Int) := by rw [i64_w _ (by omega)]; omega
      have i2 : IntKind.i64.wrap ((x.k.ds : Int) + 1) = ((x.k.ds + 1 : Nat) : Int) := by rw [i64_w _ (by omega)]; omega
      simp only [↓gaW, ↓gaV, ↓gaC, ↓gaN, gaP, Nat.reduceEqDiff, Nat.reduceLeDiff, Nat.reduceAdd, Nat.reduceSub, Nat.reduceMul, Int.reduceLT, Int.reduceLE, Int.reduceEq, Int.reduceToNat, Int.reduceAdd, Int.reduceSub, Int.reduceMul, reduceCtorEq, ↓reduceIte, gaE, implies_true, Nat.le_refl, Int.sub_zero, Nat.sub_zero, Int.le_refl, true_or, or_true, f2, f3, f4, i1, i2, z1, z2, z3]
      exact ⟨by omega, fun p hp => by rw [k3 p (by omega), F2 p hp]⟩
end Go.Ga

/- How many bytes and elements an element has, and how deep it goes: the document's answer. May an element be? -/
namespace Go.Ga
open Go Go.Proofs
set_option linter.unusedSimpArgs false
set_option linter.unusedVariables false
set_option maxRecDepth 100000


theorem ct_rSize : ∀ (x : Fo.El), x.f.ws < 1000000000000 → ∀ (nx : Nat) (gt : Nat → Option Blk) (B : Option Addr) (m d : Nat) (A : Option Addr) (n c : Nat) (ks : List Value), NdR nx gt x B m d A n c ks →
    Ct Try.prog 17 [nodeV x.t B m d A n c] nx gt fun v _ _ => v = .tuple #[.int .i64 (x.f.bs : Nat), .int .i64 (x.f.ms : Nat), .int .i64 (x.f.ds : Nat)] := by
  refine Fo.el_ind fun x ih hw nx gt B m d A n c ks h => ?_
  refine Ct.of hmx r_lanyardref04_Size (by simp [c_lanyardref04_Size]) fun b hb => ?_
  have hF : ∀ q, q < nx → upd gt nx (some (.cells (nodeL x.t B m d A n c) false)) q = gt q := fun q hq => by simp only [upd_e]; rw [if_neg (by omega)]
  have hb0 : upd gt nx (some (.cells (nodeL x.t B m d A n c) false)) nx = some (.cells (nodeL x.t B m d A n c) false) := by simp only [upd_e, if_true]
  have h0 := h.keep (x' := nx + 1) (by omega) hF
  have bw := Fo.bs_ws x.k
  have mw := Fo.ms_ws x.k
  have dw := Fo.ds_ws x.k
  have lw := Fo.len_ws x.k
  have xw : x.f.ws = 1 + x.b.length + x.k.ws := by simp only [Fo.El.f, Fo.ws]; omega
  have hl := h.blen
  have hkl := h.len
  simp only [c_lanyardref04_Size, ↓gaW, ↓gaV, ↓gaC, ↓gaN, gaP, Nat.reduceEqDiff, Nat.reduceLeDiff, Nat.reduceAdd, Nat.reduceSub, Nat.reduceMul, Int.reduceLT, Int.reduceLE, Int.reduceEq, Int.reduceToNat, Int.reduceAdd, Int.reduceSub, Int.reduceMul, reduceCtorEq, ↓reduceIte, List.getD_cons_zero, List.getD_cons_succ, fillL, splice, List.take_zero, List.drop_zero, List.drop_succ_cons, List.take_succ_cons, List.drop_nil, List.take_nil, gaU]
  generalize upd gt nx (some (.cells (nodeL x.t B m d A n c) false)) = g0 at *
  repeat refine And.intro (by omega) ?_
  refine callK_of (ct_within x.t h.tg) (fun v x1 g1 l1 k1 hC => ?_) (by omega)
  subst hC
  have hb1 : g1 nx = some (.cells (nodeL x.t B m d A n c) false) := by rw [k1 nx (by omega), hb0]
  have F1 : ∀ p, p < nx → g1 p = gt p := fun p hp => by rw [k1 p (by omega), hF p hp]
  cases hh : Fo.has x.t with
  | false =>
    simp only [↓gaW, ↓gaV, ↓gaC, ↓gaN, gaP, Nat.reduceEqDiff, Nat.reduceLeDiff, Nat.reduceAdd, Nat.reduceSub, Nat.reduceMul, Int.reduceLT, Int.reduceLE, Int.reduceEq, Int.reduceToNat, Int.reduceAdd, Int.reduceSub, Int.reduceMul, reduceCtorEq, ↓reduceIte, gaE, implies_true, Nat.le_refl, Int.sub_zero, Nat.sub_zero, Int.le_refl, true_or, or_true, List.getD_cons_zero, List.getD_cons_succ, fillL, splice, List.take_zero, List.drop_zero, List.drop_succ_cons, List.take_succ_cons, List.drop_nil, List.take_nil]
    have e1 : x.f.bs = m + Fo.hn m := by simp only [Fo.El.f, Fo.bs, hh, hl]; rfl
    have e2 : x.f.ms = 1 := by simp only [Fo.El.f, Fo.ms, hh]; rfl
    have e3 : x.f.ds = 1 := by simp only [Fo.El.f, Fo.ds, hh]; rfl
    have e4 := Fo.hn_le m
    have i1 : IntKind.i64.wrap ((m : Int) + 1) = ((m + 1 : Nat) : Int) := by rw [i64_w _ (by omega)]; omega
    simp only [↓gaW, ↓gaV, ↓gaC, ↓gaN, gaP, Nat.reduceEqDiff, Nat.reduceLeDiff, Nat.reduceAdd, Nat.reduceSub, Nat.reduceMul, Int.reduceLT, Int.reduceLE, Int.reduceEq, Int.reduceToNat, Int.reduceAdd, Int.reduceSub, Int.reduceMul, reduceCtorEq, ↓reduceIte, gaE, implies_true, Nat.le_refl, Int.sub_zero, Nat.sub_zero, Int.le_refl, true_or, or_true, i1]
    refine callK_of (ct_rlength (n := m) (by omega)) (fun v x2 g2 l2 k2 hC => ?_) (by omega)
    obtain ⟨A2, k, hk, rfl, r2⟩ := hC
    have i2 : IntKind.i64.wrap (((m + 1 : Nat) : Int) + (k : Nat)) = ((m + Fo.hn m : Nat) : Int) := by rw [i64_w _ (by omega)]; omega
    have i3 : IntKind.i64.wrap 1 = 1 := by rw [i64_w _ (by omega)]
    simp only [↓gaW, ↓gaV, ↓gaC, ↓gaN, gaP, Nat.reduceEqDiff, Nat.reduceLeDiff, Nat.reduceAdd, Nat.reduceSub, Nat.reduceMul, Int.reduceLT, Int.reduceLE, Int.reduceEq, Int.reduceToNat, Int.reduceAdd, Int.reduceSub, Int.reduceMul, reduceCtorEq, ↓reduceIte, gaE, implies_true, Nat.le_refl, Int.sub_zero, Nat.sub_zero, Int.le_refl, true_or, or_true, i2, i3, e1, e2, e3]
    exact ⟨by omega, fun p hp => by rw [k2 p (by omega), F1 p hp]⟩
  | true =>
    simp only [↓gaW, ↓gaV, ↓gaC, ↓gaN, gaP, Nat.reduceEqDiff, Nat.reduceLeDiff, Nat.reduceAdd, Nat.reduceSub, Nat.reduceMul, Int.reduceLT, Int.reduceLE, Int.reduceEq, Int.reduceToNat, Int.reduceAdd, Int.reduceSub, Int.reduceMul, reduceCtorEq, ↓reduceIte, gaE, implies_true, Nat.le_refl, Int.sub_zero, Nat.sub_zero, Int.le_refl, true_or, or_true, List.getD_cons_zero, List.getD_cons_succ, fillL, splice, List.take_zero, List.drop_zero, List.drop_succ_cons, List.take_succ_cons, List.drop_nil, List.take_nil]
    refine loop_of (fun j f mm => ∃ (i x2 : Nat) (g : Nat → Option Blk) (pre post : Fo), j = n - i ∧ i ≤ n ∧ x.k = pre.app post ∧ pre.len = i ∧ f 1 = .pointer (some ⟨nx, 0, none⟩) ∧ f 8 = .int .i64 (i : Nat) ∧ f 5 = .int .i64 (pre.bs : Nat) ∧ f 6 = .int .i64 ((1 + pre.ms : Nat) : Int) ∧ f 7 = .int .i64 (pre.ds : Nat) ∧
      mm = ⟨x2, b, g⟩ ∧ nx + 1 ≤ x2 ∧ g nx = some (.cells (nodeL x.t B m d A n c) false) ∧ (∀ p, p < nx → g p = gt p)) n ⟨0, x1, g1, .nil, x.k, by omega, by omega, rfl, rfl, by first | (simp only [↓gaW, ↓gaV, ↓gaC, ↓gaN, gaP, Nat.reduceEqDiff, Nat.reduceLeDiff, Nat.reduceAdd, Nat.reduceSub, Nat.reduceMul, Int.reduceLT, Int.reduceLE, Int.reduceEq, Int.reduceToNat, Int.reduceAdd, Int.reduceSub, Int.reduceMul, reduceCtorEq, ↓reduceIte]; done) | (simp only [↓gaW, ↓gaV, ↓gaC, ↓gaN, gaP, Nat.reduceEqDiff, Nat.reduceLeDiff, Nat.reduceAdd, Nat.reduceSub, Nat.reduceMul, Int.reduceLT, Int.reduceLE, Int.reduceEq, Int.reduceToNat, Int.reduceAdd, Int.reduceSub, Int.reduceMul, reduceCtorEq, ↓reduceIte]; rfl), by first | (simp only [↓gaW, ↓gaV, ↓gaC, ↓gaN, gaP, Nat.reduceEqDiff, Nat.reduceLeDiff, Nat.reduceAdd, Nat.reduceSub, Nat.reduceMul, Int.reduceLT, Int.reduceLE, Int.reduceEq, Int.reduceToNat, Int.reduceAdd, Int.reduceSub, Int.reduceMul, reduceCtorEq, ↓reduceIte]; done) | (simp only [↓gaW, ↓gaV, ↓gaC, ↓gaN, gaP, Nat.reduceEqDiff, Nat.reduceLeDiff, Nat.reduceAdd, Nat.reduceSub, Nat.reduceMul, Int.reduceLT, Int.reduceLE, Int.reduceEq, Int.reduceToNat, Int.reduceAdd, Int.reduceSub, Int.reduceMul, reduceCtorEq, ↓reduceIte]; rfl), by first | (simp only [↓gaW, ↓gaV, ↓gaC, ↓gaN, gaP, Nat.reduceEqDiff, Nat.reduceLeDiff, Nat.reduceAdd, Nat.reduceSub, Nat.reduceMul, Int.reduceLT, Int.reduceLE, Int.reduceEq, Int.reduceToNat, Int.reduceAdd, Int.reduceSub, Int.reduceMul, reduceCtorEq, ↓reduceIte]; done) | (simp only [↓gaW, ↓gaV, ↓gaC, ↓gaN, gaP, Nat.reduceEqDiff, Nat.reduceLeDiff, Nat.reduceAdd, Nat.reduceSub, Nat.reduceMul, Int.reduceLT, Int.reduceLE, Int.reduceEq, Int.reduceToNat, Int.reduceAdd, Int.reduceSub, Int.reduceMul, reduceCtorEq, ↓reduceIte]; rfl), by first | (simp only [↓gaW, ↓gaV, ↓gaC, ↓gaN, gaP, Nat.reduceEqDiff, Nat.reduceLeDiff, Nat.reduceAdd, Nat.reduceSub, Nat.reduceMul, Int.reduceLT, Int.reduceLE, Int.reduceEq, Int.reduceToNat, Int.reduceAdd, Int.reduceSub, Int.reduceMul, reduceCtorEq, ↓reduceIte]; done) | (simp only [↓gaW, ↓gaV, ↓gaC, ↓gaN, gaP, Nat.reduceEqDiff, Nat.reduceLeDiff, Nat.reduceAdd, Nat.reduceSub, Nat.reduceMul, Int.reduceLT, Int.reduceLE, Int.reduceEq, Int.reduceToNat, Int.reduceAdd, Int.reduceSub, Int.reduceMul, reduceCtorEq, ↓reduceIte]; rfl), by first | (simp only [↓gaW, ↓gaV, ↓gaC, ↓gaN, gaP, Nat.reduceEqDiff, Nat.reduceLeDiff, Nat.reduceAdd, Nat.reduceSub, Nat.reduceMul, Int.reduceLT, Int.reduceLE, Int.reduceEq, Int.reduceToNat, Int.reduceAdd, Int.reduceSub, Int.reduceMul, reduceCtorEq, ↓reduceIte]; done) | (simp only [↓gaW, ↓gaV, ↓gaC, ↓gaN, gaP, Nat.reduceEqDiff, Nat.reduceLeDiff, Nat.reduceAdd, Nat.reduceSub, Nat.reduceMul, Int.reduceLT, Int.reduceLE, Int.reduceEq, Int.reduceToNat, Int.reduceAdd, Int.reduceSub, Int.reduceMul, reduceCtorEq, ↓reduceIte]; rfl), rfl, by omega, hb1, F1⟩ ?_
    rintro j f mm ⟨i, x2, g2, pre, post, hj, hi, e1, e2, f1, f8, f5, f6, f7, rfl, hx2, hb2, F2⟩
    have h2 := h.keep (x' := x2) (by omega) F2
    by_cases hin : (i : Int) < (n : Int)
    · skip
      obtain ⟨y, pre', post', B', m', d', A', n', c', ks', q1, q2, q3, q4⟩ := h2.kids.at (i := i) (by omega)
      obtain ⟨rfl, rfl⟩ := Fo.app_inj (e1.symm.trans q1) (by omega)
      obtain ⟨a, cl, ro, rfl, r2, r3, r4, r5⟩ := h2.row.cells (by omega)
      have hld := h2.row.load rfl r3 (j := i * 3) (k := 3) (by omega) (by omega)
      rw [q4] at hld
      have w1 : (pre.app y.f).ws + post'.ws = x.k.ws := by rw [q1, Fo.app_one, Fo.ws_app (pre.app y.f)]
      have w2 := Fo.bs_ws (pre.app y.f)
      have w3 := Fo.ms_ws (pre.app y.f)
      have w4 := Fo.ds_ws (pre.app y.f)
      rw [Fo.bs_app] at w2
      rw [Fo.ms_app] at w3
      rw [Fo.ds_app] at w4
      have i3 : IntKind.i64.wrap ((i : Int) + 1) = ((i + 1 : Nat) : Int) := by rw [i64_w _ (by omega)]; omega
      simp only [↓gaW, ↓gaV, ↓gaC, ↓gaN, gaP, Nat.reduceEqDiff, Nat.reduceLeDiff, Nat.reduceAdd, Nat.reduceSub, Nat.reduceMul, Int.reduceLT, Int.reduceLE, Int.reduceEq, Int.reduceToNat, Int.reduceAdd, Int.reduceSub, Int.reduceMul, reduceCtorEq, ↓reduceIte, List.getD_cons_zero, List.getD_cons_succ, fillL, splice, List.take_zero, List.drop_zero, List.drop_succ_cons, List.take_succ_cons, List.drop_nil, List.take_nil, f1, f8, hb2, nodeL, List.getD_cons_succ, List.getD_cons_zero, hin, decide_true, r3, hld]
      repeat refine And.intro (by omega) ?_
      refine callK_of (ih pre y post' q1 (by have := Fo.ws_in q1; omega) _ _ _ _ _ _ _ _ _ q3) (fun v x3 g3 l3 k3 hC => ?_) (by omega)
      subst hC
      have i1 : IntKind.i64.wrap ((pre.bs : Int) + (y.f.bs : Int)) = ((pre.bs + y.f.bs : Nat) : Int) := by rw [i64_w _ (by omega)]; omega
      have i2 : IntKind.i64.wrap (((1 + pre.ms : Nat) : Int) + (y.f.ms : Int)) = ((1 + (pre.ms + y.f.ms) : Nat) : Int) := by rw [i64_w _ (by omega)]; omega
      simp only [↓gaW, ↓gaV, ↓gaC, ↓gaN, gaP, Nat.reduceEqDiff, Nat.reduceLeDiff, Nat.reduceAdd, Nat.reduceSub, Nat.reduceMul, Int.reduceLT, Int.reduceLE, Int.reduceEq, Int.reduceToNat, Int.reduceAdd, Int.reduceSub, Int.reduceMul, reduceCtorEq, ↓reduceIte, gaE, implies_true, Nat.le_refl, Int.sub_zero, Nat.sub_zero, Int.le_refl, true_or, or_true, f5, f6, f7, f8, i1, i2, i3, loopK_n]
      repeat refine And.intro (by omega) ?_
      rw [mm_max _ 42 pre.ds y.f.ds (by simp only [↓gaW, ↓gaV, ↓gaC, ↓gaN, gaP, Nat.reduceEqDiff, Nat.reduceLeDiff, Nat.reduceAdd, Nat.reduceSub, Nat.reduceMul, Int.reduceLT, Int.reduceLE, Int.reduceEq, Int.reduceToNat, Int.reduceAdd, Int.reduceSub, Int.reduceMul, reduceCtorEq, ↓reduceIte])]
      simp only [↓gaW, ↓gaV, ↓gaC, ↓gaN, gaP, Nat.reduceEqDiff, Nat.reduceLeDiff, Nat.reduceAdd, Nat.reduceSub, Nat.reduceMul, Int.reduceLT, Int.reduceLE, Int.reduceEq, Int.reduceToNat, Int.reduceAdd, Int.reduceSub, Int.reduceMul, reduceCtorEq, ↓reduceIte, gaE, implies_true, Nat.le_refl, Int.sub_zero, Nat.sub_zero, Int.le_refl, true_or, or_true, f8, i3, loopK_n]
      exact ⟨n - (i + 1), by omega, i + 1, x3, g3, pre.app y.f, post', rfl, by omega, by rw [q1, Fo.app_one], by rw [Fo.len_app]; simp only [Fo.El.f, Fo.len]; omega, f1, rfl, by rw [Fo.bs_app], by rw [Fo.ms_app], by rw [Fo.ds_app], rfl, by omega, by rw [k3 nx (by omega), hb2], fun p hp => by rw [k3 p (by omega), F2 p hp]⟩
    · have e : pre.len = x.k.len := by omega
      obtain ⟨rfl, rfl⟩ := Fo.app_end e1 e
      have z1 : x.f.bs = x.k.bs + Fo.hn x.k.bs := by simp only [Fo.El.f, Fo.bs, hh]; rfl
      have z2 : x.f.ms = 1 + x.k.ms := by simp only [Fo.El.f, Fo.ms, hh]; rfl
      have z3 : x.f.ds = x.k.ds + 1 := by simp only [Fo.El.f, Fo.ds, hh]; simp
      have z4 := Fo.hn_le x.k.bs
      have i1 : IntKind.i64.wrap ((x.k.bs : Int) + 1) = ((x.k.bs + 1 : Nat) : Int) := by rw [i64_w _ (by omega)]; omega
      have i2 : IntKind.i64.wrap ((x.k.ds : Int) + 1) = ((x.k.ds + 1 : Nat) : Int) := by rw [i64_w _ (by omega)]; omega
      simp only [↓gaW, ↓gaV, ↓gaC, ↓gaN, gaP, Nat.reduceEqDiff, Nat.reduceLeDiff, Nat.reduceAdd, Nat.reduceSub, Nat.reduceMul, Int.reduceLT, Int.reduceLE, Int.reduceEq, Int.reduceToNat, Int.reduceAdd, Int.reduceSub, Int.reduceMul, reduceCtorEq, ↓reduceIte, List.getD_cons_zero, List.getD_cons_succ, fillL, splice, List.take_zero, List.drop_zero, List.drop_succ_cons, List.take_succ_cons, List.drop_nil, List.take_nil, f1, f8, hb2, nodeL, List.getD_cons_succ, List.getD_cons_zero, hin, decide_false, f5, f6, f7, i1]
      repeat refine And.intro (by omega) ?_
      refine callK_of (ct_rlength (n := x.k.bs) (by omega)) (fun v x3 g3 l3 k3 hC => ?_) (by omega)
      obtain ⟨A3, k, hk, rfl, r3⟩ := hC
      have i4 : IntKind.i64.wrap (((x.k.bs + 1 : Nat) : Int) + (k : Nat)) = ((x.k.bs + Fo.hn x.k.bs : Nat) : Int) := by rw [i64_w _ (by omega)]; omega
      simp only [↓gaW, ↓gaV, ↓gaC, ↓gaN, gaP, Nat.reduceEqDiff, Nat.reduceLeDiff, Nat.reduceAdd, Nat.reduceSub, Nat.reduceMul, Int.reduceLT, Int.reduceLE, Int.reduceEq, Int.reduceToNat, Int.reduceAdd, Int.reduceSub, Int.reduceMul, reduceCtorEq, ↓reduceIte, gaE, implies_true, Nat.le_refl, Int.sub_zero, Nat.sub_zero, Int.le_refl, true_or, or_true, f5, f6, f7, i1, i2, i4, z1, z2, z3]
      exact ⟨by omega, fun p hp => by rw [k3 p (by omega), F2 p hp]⟩

theorem rs_El (x : Fo.El) : x.f.rs ↔ (Fo.tag x.t ∧ (Fo.has x.t = true → x.b = []) ∧ (Fo.has x.t = false → x.k = .nil)) ∧ x.k.rs := by
  simp only [Fo.El.f, Fo.rs, and_true]
theorem len_nil {F : Fo} : F.len = 0 ↔ F = .nil := by
  cases F <;> simp [Fo.len]

theorem ct_right : ∀ (x : Fo.El), x.f.ws < 1000000000000 → ∀ (nx : Nat) (gt : Nat → Option Blk) (B : Option Addr) (m d : Nat) (A : Option Addr) (n c : Nat) (ks : List Value), NdR nx gt x B m d A n c ks →
    Ct Try.prog 23 [nodeV x.t B m d A n c] nx gt fun v _ _ => ∃ r, v = .bool r ∧ (r = true ↔ x.f.rs) := by
  refine Fo.el_ind fun x ih hw nx gt B m d A n c ks h => ?_
  refine Ct.of hmx r_tlv_right (by simp [c_tlv_right]) fun b hb => ?_
  have hF : ∀ q, q < nx → upd gt nx (some (.cells (nodeL x.t B m d A n c) false)) q = gt q := fun q hq => by simp only [upd_e]; rw [if_neg (by omega)]
  have hb0 : upd gt nx (some (.cells (nodeL x.t B m d A n c) false)) nx = some (.cells (nodeL x.t B m d A n c) false) := by simp only [upd_e, if_true]
  have h0 := h.keep (x' := nx + 1) (by omega) hF
  have bw := Fo.bs_ws x.k
  have mw := Fo.ms_ws x.k
  have dw := Fo.ds_ws x.k
  have lw := Fo.len_ws x.k
  have xw : x.f.ws = 1 + x.b.length + x.k.ws := by simp only [Fo.El.f, Fo.ws]; omega
  have hl := h.blen
  have hkl := h.len
  have hbl : x.b = [] ↔ ¬ (0 : Int) < m := by rw [← hl]; cases x.b <;> simp
  have hkn : x.k = .nil ↔ ¬ (0 : Int) < n := by rw [← len_nil]; omega
  simp only [c_tlv_right, ↓gaW, ↓gaV, ↓gaC, ↓gaN, gaP, Nat.reduceEqDiff, Nat.reduceLeDiff, Nat.reduceAdd, Nat.reduceSub, Nat.reduceMul, Int.reduceLT, Int.reduceLE, Int.reduceEq, Int.reduceToNat, Int.reduceAdd, Int.reduceSub, Int.reduceMul, reduceCtorEq, ↓reduceIte, List.getD_cons_zero, List.getD_cons_succ, fillL, splice, List.take_zero, List.drop_zero, List.drop_succ_cons, List.take_succ_cons, List.drop_nil, List.take_nil, gaU]
  generalize upd gt nx (some (.cells (nodeL x.t B m d A n c) false)) = g0 at *
  repeat refine And.intro (by omega) ?_
  refine callK_of (ct_isTag x.t) (fun v x1 g1 l1 k1 hC => ?_) (by omega)
  obtain ⟨t, rfl, ht⟩ := hC
  have hb1 : g1 nx = some (.cells (nodeL x.t B m d A n c) false) := by rw [k1 nx (by omega), hb0]
  have F1 : ∀ p, p < nx → g1 p = gt p := fun p hp => by rw [k1 p (by omega), hF p hp]
  cases t with
  | false =>
    simp only [↓gaW, ↓gaV, ↓gaC, ↓gaN, gaP, Nat.reduceEqDiff, Nat.reduceLeDiff, Nat.reduceAdd, Nat.reduceSub, Nat.reduceMul, Int.reduceLT, Int.reduceLE, Int.reduceEq, Int.reduceToNat, Int.reduceAdd, Int.reduceSub, Int.reduceMul, reduceCtorEq, ↓reduceIte, gaE, implies_true, Nat.le_refl, Int.sub_zero, Nat.sub_zero, Int.le_refl, true_or, or_true, Bool.not_false]
    exact ⟨by omega, F1, false, rfl, by rw [rs_El]; simp only [Bool.false_eq_true, false_iff] at ht ⊢; exact fun h => ht h.1.1⟩
  | true =>
    simp only [↓gaW, ↓gaV, ↓gaC, ↓gaN, gaP, Nat.reduceEqDiff, Nat.reduceLeDiff, Nat.reduceAdd, Nat.reduceSub, Nat.reduceMul, Int.reduceLT, Int.reduceLE, Int.reduceEq, Int.reduceToNat, Int.reduceAdd, Int.reduceSub, Int.reduceMul, reduceCtorEq, ↓reduceIte, gaE, implies_true, Nat.le_refl, Int.sub_zero, Nat.sub_zero, Int.le_refl, true_or, or_true, Bool.not_true, hb1, List.getD_cons_zero]
    repeat refine And.intro (by omega) ?_
    refine callK_of (ct_holds x.t) (fun v x2 g2 l2 k2 hC => ?_) (by omega)
    subst hC
    have hb2 : g2 nx = some (.cells (nodeL x.t B m d A n c) false) := by rw [k2 nx (by omega), hb1]
    have F2 : ∀ p, p < nx → g2 p = gt p := fun p hp => by rw [k2 p (by omega), F1 p hp]
    cases hh : Fo.has x.t with
    | true =>
      by_cases hm : (0 : Int) < m
      · simp only [↓gaW, ↓gaV, ↓gaC, ↓gaN, gaP, Nat.reduceEqDiff, Nat.reduceLeDiff, Nat.reduceAdd, Nat.reduceSub, Nat.reduceMul, Int.reduceLT, Int.reduceLE, Int.reduceEq, Int.reduceToNat, Int.reduceAdd, Int.reduceSub, Int.reduceMul, reduceCtorEq, ↓reduceIte, gaE, implies_true, Nat.le_refl, Int.sub_zero, Nat.sub_zero, Int.le_refl, true_or, or_true, hb2, List.getD_cons_zero, List.getD_cons_succ, hm, decide_true]
        repeat refine And.intro (by omega) ?_
        exact ⟨false, rfl, by rw [rs_El]; simp only [Bool.false_eq_true, false_iff]; exact fun h => hbl.1 (h.1.2.1 hh) hm⟩
      · simp only [↓gaW, ↓gaV, ↓gaC, ↓gaN, gaP, Nat.reduceEqDiff, Nat.reduceLeDiff, Nat.reduceAdd, Nat.reduceSub, Nat.reduceMul, Int.reduceLT, Int.reduceLE, Int.reduceEq, Int.reduceToNat, Int.reduceAdd, Int.reduceSub, Int.reduceMul, reduceCtorEq, ↓reduceIte, gaE, implies_true, Nat.le_refl, Int.sub_zero, Nat.sub_zero, Int.le_refl, true_or, or_true, hb2, List.getD_cons_zero, List.getD_cons_succ, hm, decide_false]
        repeat refine And.intro (by omega) ?_
        refine callK_of (ct_holds x.t) (fun v x3 g3 l3 k3 hC => ?_) (by omega)
        subst hC
        have hb3 : g3 nx = some (.cells (nodeL x.t B m d A n c) false) := by rw [k3 nx (by omega), hb2]
        have F3 : ∀ p, p < nx → g3 p = gt p := fun p hp => by rw [k3 p (by omega), F2 p hp]
        have hrs : x.f.rs ↔ x.k.rs := by
          rw [rs_El]
          exact ⟨fun h => h.2, fun h => ⟨⟨ht.1 rfl, fun _ => hbl.2 hm, fun h => by rw [hh] at h; cases h⟩, h⟩⟩
        simp only [↓gaW, ↓gaV, ↓gaC, ↓gaN, gaP, Nat.reduceEqDiff, Nat.reduceLeDiff, Nat.reduceAdd, Nat.reduceSub, Nat.reduceMul, Int.reduceLT, Int.reduceLE, Int.reduceEq, Int.reduceToNat, Int.reduceAdd, Int.reduceSub, Int.reduceMul, reduceCtorEq, ↓reduceIte, gaE, implies_true, Nat.le_refl, Int.sub_zero, Nat.sub_zero, Int.le_refl, true_or, or_true, hh, Bool.not_true, hb3, List.getD_cons_zero, List.getD_cons_succ]
        repeat refine And.intro (by omega) ?_
        refine loop_of (fun j f mm => ∃ (i x2 : Nat) (g : Nat → Option Blk) (pre post : Fo), j = n - i ∧ i ≤ n ∧ x.k = pre.app post ∧ pre.len = i ∧ pre.rs ∧ f 33 = .slice A n c ∧ f 34 = .int .i64 (n : Nat) ∧ f 35 = .int .i64 (i : Nat) ∧
          mm = ⟨x2, b, g⟩ ∧ nx + 1 ≤ x2 ∧ (∀ p, p < nx → g p = gt p)) n ⟨0, x3, g3, .nil, x.k, by omega, by omega, rfl, rfl, trivial, by first | (simp only [↓gaW, ↓gaV, ↓gaC, ↓gaN, gaP, Nat.reduceEqDiff, Nat.reduceLeDiff, Nat.reduceAdd, Nat.reduceSub, Nat.reduceMul, Int.reduceLT, Int.reduceLE, Int.reduceEq, Int.reduceToNat, Int.reduceAdd, Int.reduceSub, Int.reduceMul, reduceCtorEq, ↓reduceIte]; done) | (simp only [↓gaW, ↓gaV, ↓gaC, ↓gaN, gaP, Nat.reduceEqDiff, Nat.reduceLeDiff, Nat.reduceAdd, Nat.reduceSub, Nat.reduceMul, Int.reduceLT, Int.reduceLE, Int.reduceEq, Int.reduceToNat, Int.reduceAdd, Int.reduceSub, Int.reduceMul, reduceCtorEq, ↓reduceIte]; rfl), by first | (simp only [↓gaW, ↓gaV, ↓gaC, ↓gaN, gaP, Nat.reduceEqDiff, Nat.reduceLeDiff, Nat.reduceAdd, Nat.reduceSub, Nat.reduceMul, Int.reduceLT, Int.reduceLE, Int.reduceEq, Int.reduceToNat, Int.reduceAdd, Int.reduceSub, Int.reduceMul, reduceCtorEq, ↓reduceIte]; done) | (simp only [↓gaW, ↓gaV, ↓gaC, ↓gaN, gaP, Nat.reduceEqDiff, Nat.reduceLeDiff, Nat.reduceAdd, Nat.reduceSub, Nat.reduceMul, Int.reduceLT, Int.reduceLE, Int.reduceEq, Int.reduceToNat, Int.reduceAdd, Int.reduceSub, Int.reduceMul, reduceCtorEq, ↓reduceIte]; rfl), by first | (simp only [↓gaW, ↓gaV, ↓gaC, ↓gaN, gaP, Nat.reduceEqDiff, Nat.reduceLeDiff, Nat.reduceAdd, Nat.reduceSub, Nat.reduceMul, Int.reduceLT, Int.reduceLE, Int.reduceEq, Int.reduceToNat, Int.reduceAdd, Int.reduceSub, Int.reduceMul, reduceCtorEq, ↓reduceIte]; done) | (simp only [↓gaW, ↓gaV, ↓gaC, ↓gaN, gaP, Nat.reduceEqDiff, Nat.reduceLeDiff, Nat.reduceAdd, Nat.reduceSub, Nat.reduceMul, Int.reduceLT, Int.reduceLE, Int.reduceEq, Int.reduceToNat, Int.reduceAdd, Int.reduceSub, Int.reduceMul, reduceCtorEq, ↓reduceIte]; rfl), rfl, by omega, F3⟩ ?_
        rintro j f mm ⟨i, x2, g2, pre, post, hj, hi, e1, e2, hpre, f33, f34, f35, rfl, hx2, F2⟩
        have h2 := h.keep (x' := x2) (by omega) F2
        by_cases hin : (i : Int) < (n : Int)
        · skip
          obtain ⟨y, pre', post', B', m', d', A', n', c', ks', q1, q2, q3, q4⟩ := h2.kids.at (i := i) (by omega)
          obtain ⟨rfl, rfl⟩ := Fo.app_inj (e1.symm.trans q1) (by omega)
          obtain ⟨a, cl, ro, rfl, r2, r3, r4, r5⟩ := h2.row.cells (by omega)
          have hld := h2.row.load rfl r3 (j := i * 3) (k := 3) (by omega) (by omega)
          rw [q4] at hld
          have w1 : (pre.app y.f).ws + post'.ws = x.k.ws := by rw [q1, Fo.app_one, Fo.ws_app (pre.app y.f)]
          have w2 := Fo.bs_ws (pre.app y.f)
          have w3 := Fo.ms_ws (pre.app y.f)
          have w4 := Fo.ds_ws (pre.app y.f)
          rw [Fo.bs_app] at w2
          rw [Fo.ms_app] at w3
          rw [Fo.ds_app] at w4
          have i3 : IntKind.i64.wrap ((i : Int) + 1) = ((i + 1 : Nat) : Int) := by rw [i64_w _ (by omega)]; omega
          simp only [↓gaW, ↓gaV, ↓gaC, ↓gaN, gaP, Nat.reduceEqDiff, Nat.reduceLeDiff, Nat.reduceAdd, Nat.reduceSub, Nat.reduceMul, Int.reduceLT, Int.reduceLE, Int.reduceEq, Int.reduceToNat, Int.reduceAdd, Int.reduceSub, Int.reduceMul, reduceCtorEq, ↓reduceIte, List.getD_cons_zero, List.getD_cons_succ, fillL, splice, List.take_zero, List.drop_zero, List.drop_succ_cons, List.take_succ_cons, List.drop_nil, List.take_nil, f33, f34, f35, hin, decide_true, r3, hld, nodeL]
          refine And.intro (by omega) (And.intro (by omega) (And.intro (by omega) (And.intro (node_cells _ _ _ _ _ _ _) ?_)))
          obtain ⟨g, hg⟩ : ∃ g, g = upd (upd g2 x2 (some (.cells [Value.int .i64 0, .slice none 0 0, .slice none 0 0] false))) x2 (some (.cells (nodeL y.t B' m' d' A' n' c') false)) := ⟨_, rfl⟩
          have G : ∀ p, p < x2 → g p = g2 p := fun p hp => by rw [hg]; simp only [upd_e]; rw [if_neg (by omega), if_neg (by omega)]
          have h3 := q3.keep (x' := x2 + 1) (by omega) G
          rw [← hg]; clear hg
          refine callK_of (ih pre y post' q1 (by have := Fo.ws_in q1; omega) _ _ _ _ _ _ _ _ _ h3) (fun v x4 g4 l4 k4 hC => ?_) (by omega)
          obtain ⟨r, rfl, hr⟩ := hC
          have hsp : x.k.rs ↔ (pre.rs ∧ y.f.rs) ∧ post'.rs := by rw [q1, Fo.app_one, Fo.rs_app (pre.app y.f), Fo.rs_app pre]
          cases r with
          | false =>
            simp only [↓gaW, ↓gaV, ↓gaC, ↓gaN, gaP, Nat.reduceEqDiff, Nat.reduceLeDiff, Nat.reduceAdd, Nat.reduceSub, Nat.reduceMul, Int.reduceLT, Int.reduceLE, Int.reduceEq, Int.reduceToNat, Int.reduceAdd, Int.reduceSub, Int.reduceMul, reduceCtorEq, ↓reduceIte, gaE, implies_true, Nat.le_refl, Int.sub_zero, Nat.sub_zero, Int.le_refl, true_or, or_true, Bool.not_false, loopK_r]
            exact ⟨by omega, fun p hp => by rw [k4 p (by omega), G p (by omega), F2 p hp], false, rfl, by rw [hrs, hsp]; simp only [Bool.false_eq_true, false_iff] at hr ⊢; exact fun h => hr h.1.2⟩
          | true =>
            simp only [↓gaW, ↓gaV, ↓gaC, ↓gaN, gaP, Nat.reduceEqDiff, Nat.reduceLeDiff, Nat.reduceAdd, Nat.reduceSub, Nat.reduceMul, Int.reduceLT, Int.reduceLE, Int.reduceEq, Int.reduceToNat, Int.reduceAdd, Int.reduceSub, Int.reduceMul, reduceCtorEq, ↓reduceIte, gaE, implies_true, Nat.le_refl, Int.sub_zero, Nat.sub_zero, Int.le_refl, true_or, or_true, Bool.not_true, f35, i3, loopK_n]
            exact ⟨n - (i + 1), by omega, i + 1, x4, g4, pre.app y.f, post', rfl, by omega, by rw [q1, Fo.app_one], by rw [Fo.len_app]; simp only [Fo.El.f, Fo.len]; omega, by rw [Fo.rs_app]; exact ⟨hpre, hr.1 rfl⟩, f33, f34, rfl, rfl, by omega, fun p hp => by rw [k4 p (by omega), G p (by omega), F2 p hp]⟩
        · have e : pre.len = x.k.len := by omega
          obtain ⟨rfl, rfl⟩ := Fo.app_end e1 e
          simp only [↓gaW, ↓gaV, ↓gaC, ↓gaN, gaP, Nat.reduceEqDiff, Nat.reduceLeDiff, Nat.reduceAdd, Nat.reduceSub, Nat.reduceMul, Int.reduceLT, Int.reduceLE, Int.reduceEq, Int.reduceToNat, Int.reduceAdd, Int.reduceSub, Int.reduceMul, reduceCtorEq, ↓reduceIte, gaE, implies_true, Nat.le_refl, Int.sub_zero, Nat.sub_zero, Int.le_refl, true_or, or_true, f33, f34, f35, hin, decide_false]
          exact ⟨by omega, F2, true, rfl, by simp only [true_iff]; exact hrs.2 hpre⟩
    | false =>
      simp only [↓gaW, ↓gaV, ↓gaC, ↓gaN, gaP, Nat.reduceEqDiff, Nat.reduceLeDiff, Nat.reduceAdd, Nat.reduceSub, Nat.reduceMul, Int.reduceLT, Int.reduceLE, Int.reduceEq, Int.reduceToNat, Int.reduceAdd, Int.reduceSub, Int.reduceMul, reduceCtorEq, ↓reduceIte, gaE, implies_true, Nat.le_refl, Int.sub_zero, Nat.sub_zero, Int.le_refl, true_or, or_true, hb2, List.getD_cons_zero, List.getD_cons_succ, Bool.not_false]
      repeat refine And.intro (by omega) ?_
      refine callK_of (ct_holds x.t) (fun v x3 g3 l3 k3 hC => ?_) (by omega)
      subst hC
      have hb3 : g3 nx = some (.cells (nodeL x.t B m d A n c) false) := by rw [k3 nx (by omega), hb2]
      have F3 : ∀ p, p < nx → g3 p = gt p := fun p hp => by rw [k3 p (by omega), F2 p hp]
      by_cases hn : (0 : Int) < n
      · simp only [↓gaW, ↓gaV, ↓gaC, ↓gaN, gaP, Nat.reduceEqDiff, Nat.reduceLeDiff, Nat.reduceAdd, Nat.reduceSub, Nat.reduceMul, Int.reduceLT, Int.reduceLE, Int.reduceEq, Int.reduceToNat, Int.reduceAdd, Int.reduceSub, Int.reduceMul, reduceCtorEq, ↓reduceIte, gaE, implies_true, Nat.le_refl, Int.sub_zero, Nat.sub_zero, Int.le_refl, true_or, or_true, hh, hb3, List.getD_cons_zero, List.getD_cons_succ, hn, Bool.not_false, decide_true]
        repeat refine And.intro (by omega) ?_
        exact ⟨false, rfl, by rw [rs_El]; simp only [Bool.false_eq_true, false_iff]; exact fun h => hkn.1 (h.1.2.2 hh) hn⟩
      · have hk0 := hkn.2 hn
        simp only [↓gaW, ↓gaV, ↓gaC, ↓gaN, gaP, Nat.reduceEqDiff, Nat.reduceLeDiff, Nat.reduceAdd, Nat.reduceSub, Nat.reduceMul, Int.reduceLT, Int.reduceLE, Int.reduceEq, Int.reduceToNat, Int.reduceAdd, Int.reduceSub, Int.reduceMul, reduceCtorEq, ↓reduceIte, gaE, implies_true, Nat.le_refl, Int.sub_zero, Nat.sub_zero, Int.le_refl, true_or, or_true, hh, hb3, List.getD_cons_zero, List.getD_cons_succ, hn, Bool.not_false, decide_false]
        repeat refine And.intro (by omega) ?_
        have n0 : n = 0 := by omega
        refine loop_of (fun j f mm => f 34 = .int .i64 (n : Nat) ∧ f 35 = .int .i64 0 ∧ mm = ⟨x3, b, g3⟩) 0 ⟨by first | (simp only [↓gaW, ↓gaV, ↓gaC, ↓gaN, gaP, Nat.reduceEqDiff, Nat.reduceLeDiff, Nat.reduceAdd, Nat.reduceSub, Nat.reduceMul, Int.reduceLT, Int.reduceLE, Int.reduceEq, Int.reduceToNat, Int.reduceAdd, Int.reduceSub, Int.reduceMul, reduceCtorEq, ↓reduceIte]; done) | (simp only [↓gaW, ↓gaV, ↓gaC, ↓gaN, gaP, Nat.reduceEqDiff, Nat.reduceLeDiff, Nat.reduceAdd, Nat.reduceSub, Nat.reduceMul, Int.reduceLT, Int.reduceLE, Int.reduceEq, Int.reduceToNat, Int.reduceAdd, Int.reduceSub, Int.reduceMul, reduceCtorEq, ↓reduceIte]; rfl), by first | (simp only [↓gaW, ↓gaV, ↓gaC, ↓gaN, gaP, Nat.reduceEqDiff, Nat.reduceLeDiff, Nat.reduceAdd, Nat.reduceSub, Nat.reduceMul, Int.reduceLT, Int.reduceLE, Int.reduceEq, Int.reduceToNat, Int.reduceAdd, Int.reduceSub, Int.reduceMul, reduceCtorEq, ↓reduceIte]; done) | (simp only [↓gaW, ↓gaV, ↓gaC, ↓gaN, gaP, Nat.reduceEqDiff, Nat.reduceLeDiff, Nat.reduceAdd, Nat.reduceSub, Nat.reduceMul, Int.reduceLT, Int.reduceLE, Int.reduceEq, Int.reduceToNat, Int.reduceAdd, Int.reduceSub, Int.reduceMul, reduceCtorEq, ↓reduceIte]; rfl), rfl⟩ ?_
        rintro j f mm ⟨f34, f35, rfl⟩
        simp only [↓gaW, ↓gaV, ↓gaC, ↓gaN, gaP, Nat.reduceEqDiff, Nat.reduceLeDiff, Nat.reduceAdd, Nat.reduceSub, Nat.reduceMul, Int.reduceLT, Int.reduceLE, Int.reduceEq, Int.reduceToNat, Int.reduceAdd, Int.reduceSub, Int.reduceMul, reduceCtorEq, ↓reduceIte, gaE, implies_true, Nat.le_refl, Int.sub_zero, Nat.sub_zero, Int.le_refl, true_or, or_true, f34, f35, hn, decide_false]
        exact ⟨by omega, F3, true, rfl, by rw [rs_El, hk0]; refine iff_of_true rfl ⟨⟨ht.1 rfl, fun h => ?_, fun _ => rfl⟩, trivial⟩; rw [hh] at h; cases h⟩
end Go.Ga

/- May an element be: the document's answer. What it weighs; are two the same? -/
namespace Go.Ga
open Go Go.Proofs
set_option linter.unusedSimpArgs false
set_option linter.unusedVariables false
set_option maxRecDepth 100000


theorem ct_rright : ∀ (x : Fo.El), x.f.ws < 1000000000000 → ∀ (nx : Nat) (gt : Nat → Option Blk) (B : Option Addr) (m d : Nat) (A : Option Addr) (n c : Nat) (ks : List Value), NdR nx gt x B m d A n c ks →
    Ct Try.prog 25 [nodeV x.t B m d A n c] nx gt fun v _ _ => ∃ r, v = .bool r ∧ (r = true ↔ x.f.rs) := by
  refine Fo.el_ind fun x ih hw nx gt B m d A n c ks h => ?_
  refine Ct.of hmx r_lanyardref04_right (by simp [c_lanyardref04_right]) fun b hb => ?_
  have hF : ∀ q, q < nx → upd gt nx (some (.cells (nodeL x.t B m d A n c) false)) q = gt q := fun q hq => by simp only [upd_e]; rw [if_neg (by omega)]
  have hb0 : upd gt nx (some (.cells (nodeL x.t B m d A n c) false)) nx = some (.cells (nodeL x.t B m d A n c) false) := by simp only [upd_e, if_true]
  have h0 := h.keep (x' := nx + 1) (by omega) hF
  have bw := Fo.bs_ws x.k
  have mw := Fo.ms_ws x.k
  have dw := Fo.ds_ws x.k
  have lw := Fo.len_ws x.k
  have xw : x.f.ws = 1 + x.b.length + x.k.ws := by simp only [Fo.El.f, Fo.ws]; omega
  have hl := h.blen
  have hkl := h.len
  have hbl : x.b = [] ↔ ¬ (0 : Int) < m := by rw [← hl]; cases x.b <;> simp
  have hkn : x.k = .nil ↔ ¬ (0 : Int) < n := by rw [← len_nil]; omega
  simp only [c_lanyardref04_right, ↓gaW, ↓gaV, ↓gaC, ↓gaN, gaP, Nat.reduceEqDiff, Nat.reduceLeDiff, Nat.reduceAdd, Nat.reduceSub, Nat.reduceMul, Int.reduceLT, Int.reduceLE, Int.reduceEq, Int.reduceToNat, Int.reduceAdd, Int.reduceSub, Int.reduceMul, reduceCtorEq, ↓reduceIte, List.getD_cons_zero, List.getD_cons_succ, fillL, splice, List.take_zero, List.drop_zero, List.drop_succ_cons, List.take_succ_cons, List.drop_nil, List.take_nil, gaU]
  generalize upd gt nx (some (.cells (nodeL x.t B m d A n c) false)) = g0 at *
  repeat refine And.intro (by omega) ?_
  refine callK_of (ct_rTag x.t) (fun v x1 g1 l1 k1 hC => ?_) (by omega)
  obtain ⟨t, rfl, ht⟩ := hC
  have hb1 : g1 nx = some (.cells (nodeL x.t B m d A n c) false) := by rw [k1 nx (by omega), hb0]
  have F1 : ∀ p, p < nx → g1 p = gt p := fun p hp => by rw [k1 p (by omega), hF p hp]
  cases t with
  | false =>
    simp only [↓gaW, ↓gaV, ↓gaC, ↓gaN, gaP, Nat.reduceEqDiff, Nat.reduceLeDiff, Nat.reduceAdd, Nat.reduceSub, Nat.reduceMul, Int.reduceLT, Int.reduceLE, Int.reduceEq, Int.reduceToNat, Int.reduceAdd, Int.reduceSub, Int.reduceMul, reduceCtorEq, ↓reduceIte, gaE, implies_true, Nat.le_refl, Int.sub_zero, Nat.sub_zero, Int.le_refl, true_or, or_true, Bool.not_false]
    exact ⟨by omega, F1, false, rfl, by rw [rs_El]; simp only [Bool.false_eq_true, false_iff] at ht ⊢; exact fun h => ht h.1.1⟩
  | true =>
    simp only [↓gaW, ↓gaV, ↓gaC, ↓gaN, gaP, Nat.reduceEqDiff, Nat.reduceLeDiff, Nat.reduceAdd, Nat.reduceSub, Nat.reduceMul, Int.reduceLT, Int.reduceLE, Int.reduceEq, Int.reduceToNat, Int.reduceAdd, Int.reduceSub, Int.reduceMul, reduceCtorEq, ↓reduceIte, gaE, implies_true, Nat.le_refl, Int.sub_zero, Nat.sub_zero, Int.le_refl, true_or, or_true, Bool.not_true, hb1, List.getD_cons_zero]
    repeat refine And.intro (by omega) ?_
    refine callK_of (ct_within x.t h.tg) (fun v x2 g2 l2 k2 hC => ?_) (by omega)
    subst hC
    have hb2 : g2 nx = some (.cells (nodeL x.t B m d A n c) false) := by rw [k2 nx (by omega), hb1]
    have F2 : ∀ p, p < nx → g2 p = gt p := fun p hp => by rw [k2 p (by omega), F1 p hp]
    cases hh : Fo.has x.t with
    | true =>
      by_cases hm : (0 : Int) < m
      · simp only [↓gaW, ↓gaV, ↓gaC, ↓gaN, gaP, Nat.reduceEqDiff, Nat.reduceLeDiff, Nat.reduceAdd, Nat.reduceSub, Nat.reduceMul, Int.reduceLT, Int.reduceLE, Int.reduceEq, Int.reduceToNat, Int.reduceAdd, Int.reduceSub, Int.reduceMul, reduceCtorEq, ↓reduceIte, gaE, implies_true, Nat.le_refl, Int.sub_zero, Nat.sub_zero, Int.le_refl, true_or, or_true, hb2, List.getD_cons_zero, List.getD_cons_succ, hm, decide_true]
        repeat refine And.intro (by omega) ?_
        exact ⟨false, rfl, by rw [rs_El]; simp only [Bool.false_eq_true, false_iff]; exact fun h => hbl.1 (h.1.2.1 hh) hm⟩
      · simp only [↓gaW, ↓gaV, ↓gaC, ↓gaN, gaP, Nat.reduceEqDiff, Nat.reduceLeDiff, Nat.reduceAdd, Nat.reduceSub, Nat.reduceMul, Int.reduceLT, Int.reduceLE, Int.reduceEq, Int.reduceToNat, Int.reduceAdd, Int.reduceSub, Int.reduceMul, reduceCtorEq, ↓reduceIte, gaE, implies_true, Nat.le_refl, Int.sub_zero, Nat.sub_zero, Int.le_refl, true_or, or_true, hb2, List.getD_cons_zero, List.getD_cons_succ, hm, decide_false]
        repeat refine And.intro (by omega) ?_
        refine callK_of (ct_within x.t h.tg) (fun v x3 g3 l3 k3 hC => ?_) (by omega)
        subst hC
        have hb3 : g3 nx = some (.cells (nodeL x.t B m d A n c) false) := by rw [k3 nx (by omega), hb2]
        have F3 : ∀ p, p < nx → g3 p = gt p := fun p hp => by rw [k3 p (by omega), F2 p hp]
        have hrs : x.f.rs ↔ x.k.rs := by
          rw [rs_El]
          exact ⟨fun h => h.2, fun h => ⟨⟨ht.1 rfl, fun _ => hbl.2 hm, fun h => by rw [hh] at h; cases h⟩, h⟩⟩
        simp only [↓gaW, ↓gaV, ↓gaC, ↓gaN, gaP, Nat.reduceEqDiff, Nat.reduceLeDiff, Nat.reduceAdd, Nat.reduceSub, Nat.reduceMul, Int.reduceLT, Int.reduceLE, Int.reduceEq, Int.reduceToNat, Int.reduceAdd, Int.reduceSub, Int.reduceMul, reduceCtorEq, ↓reduceIte, gaE, implies_true, Nat.le_refl, Int.sub_zero, Nat.sub_zero, Int.le_refl, true_or, or_true, hh, Bool.not_true, hb3, List.getD_cons_zero, List.getD_cons_succ]
        repeat refine And.intro (by omega) ?_
        refine loop_of (fun j f mm => ∃ (i x2 : Nat) (g : Nat → Option Blk) (pre post : Fo), j = n - i ∧ i ≤ n ∧ x.k = pre.app post ∧ pre.len = i ∧ pre.rs ∧ f 1 = .pointer (some ⟨nx, 0, none⟩) ∧ f 3 = .int .i64 (i : Nat) ∧
          mm = ⟨x2, b, g⟩ ∧ nx + 1 ≤ x2 ∧ g nx = some (.cells (nodeL x.t B m d A n c) false) ∧ (∀ p, p < nx → g p = gt p)) n ⟨0, x3, g3, .nil, x.k, by omega, by omega, rfl, rfl, trivial, by first | (simp only [↓gaW, ↓gaV, ↓gaC, ↓gaN, gaP, Nat.reduceEqDiff, Nat.reduceLeDiff, Nat.reduceAdd, Nat.reduceSub, Nat.reduceMul, Int.reduceLT, Int.reduceLE, Int.reduceEq, Int.reduceToNat, Int.reduceAdd, Int.reduceSub, Int.reduceMul, reduceCtorEq, ↓reduceIte]; done) | (simp only [↓gaW, ↓gaV, ↓gaC, ↓gaN, gaP, Nat.reduceEqDiff, Nat.reduceLeDiff, Nat.reduceAdd, Nat.reduceSub, Nat.reduceMul, Int.reduceLT, Int.reduceLE, Int.reduceEq, Int.reduceToNat, Int.reduceAdd, Int.reduceSub, Int.reduceMul, reduceCtorEq, ↓reduceIte]; rfl), by first | (simp only [↓gaW, ↓gaV, ↓gaC, ↓gaN, gaP, Nat.reduceEqDiff, Nat.reduceLeDiff, Nat.reduceAdd, Nat.reduceSub, Nat.reduceMul, Int.reduceLT, Int.reduceLE, Int.reduceEq, Int.reduceToNat, Int.reduceAdd, Int.reduceSub, Int.reduceMul, reduceCtorEq, ↓reduceIte]; done) | (simp only [↓gaW, ↓gaV, ↓gaC, ↓gaN, gaP, Nat.reduceEqDiff, Nat.reduceLeDiff, Nat.reduceAdd, Nat.reduceSub, Nat.reduceMul, Int.reduceLT, Int.reduceLE, Int.reduceEq, Int.reduceToNat, Int.reduceAdd, Int.reduceSub, Int.reduceMul, reduceCtorEq, ↓reduceIte]; rfl), rfl, by omega, hb3, F3⟩ ?_
        rintro j f mm ⟨i, x2, g2, pre, post, hj, hi, e1, e2, hpre, f1, f3, rfl, hx2, hb4, F2⟩
        have h2 := h.keep (x' := x2) (by omega) F2
        by_cases hin : (i : Int) < (n : Int)
        · skip
          obtain ⟨y, pre', post', B', m', d', A', n', c', ks', q1, q2, q3, q4⟩ := h2.kids.at (i := i) (by omega)
          obtain ⟨rfl, rfl⟩ := Fo.app_inj (e1.symm.trans q1) (by omega)
          obtain ⟨a, cl, ro, rfl, r2, r3, r4, r5⟩ := h2.row.cells (by omega)
          have hld := h2.row.load rfl r3 (j := i * 3) (k := 3) (by omega) (by omega)
          rw [q4] at hld
          have w1 : (pre.app y.f).ws + post'.ws = x.k.ws := by rw [q1, Fo.app_one, Fo.ws_app (pre.app y.f)]
          have w2 := Fo.bs_ws (pre.app y.f)
          have w3 := Fo.ms_ws (pre.app y.f)
          have w4 := Fo.ds_ws (pre.app y.f)
          rw [Fo.bs_app] at w2
          rw [Fo.ms_app] at w3
          rw [Fo.ds_app] at w4
          have i3 : IntKind.i64.wrap ((i : Int) + 1) = ((i + 1 : Nat) : Int) := by rw [i64_w _ (by omega)]; omega
          simp only [↓gaW, ↓gaV, ↓gaC, ↓gaN, gaP, Nat.reduceEqDiff, Nat.reduceLeDiff, Nat.reduceAdd, Nat.reduceSub, Nat.reduceMul, Int.reduceLT, Int.reduceLE, Int.reduceEq, Int.reduceToNat, Int.reduceAdd, Int.reduceSub, Int.reduceMul, reduceCtorEq, ↓reduceIte, List.getD_cons_zero, List.getD_cons_succ, fillL, splice, List.take_zero, List.drop_zero, List.drop_succ_cons, List.take_succ_cons, List.drop_nil, List.take_nil, f1, f3, hb4, nodeL, List.getD_cons_succ, List.getD_cons_zero, hin, decide_true, r3, hld]
          repeat refine And.intro (by omega) ?_
          refine callK_of (ih pre y post' q1 (by have := Fo.ws_in q1; omega) _ _ _ _ _ _ _ _ _ q3) (fun v x4 g4 l4 k4 hC => ?_) (by omega)
          obtain ⟨r, rfl, hr⟩ := hC
          have hsp : x.k.rs ↔ (pre.rs ∧ y.f.rs) ∧ post'.rs := by rw [q1, Fo.app_one, Fo.rs_app (pre.app y.f), Fo.rs_app pre]
          cases r with
          | false =>
            simp only [↓gaW, ↓gaV, ↓gaC, ↓gaN, gaP, Nat.reduceEqDiff, Nat.reduceLeDiff, Nat.reduceAdd, Nat.reduceSub, Nat.reduceMul, Int.reduceLT, Int.reduceLE, Int.reduceEq, Int.reduceToNat, Int.reduceAdd, Int.reduceSub, Int.reduceMul, reduceCtorEq, ↓reduceIte, gaE, implies_true, Nat.le_refl, Int.sub_zero, Nat.sub_zero, Int.le_refl, true_or, or_true, Bool.not_false, loopK_r]
            exact ⟨by omega, fun p hp => by rw [k4 p (by omega), F2 p hp], false, rfl, by rw [hrs, hsp]; simp only [Bool.false_eq_true, false_iff] at hr ⊢; exact fun h => hr h.1.2⟩
          | true =>
            simp only [↓gaW, ↓gaV, ↓gaC, ↓gaN, gaP, Nat.reduceEqDiff, Nat.reduceLeDiff, Nat.reduceAdd, Nat.reduceSub, Nat.reduceMul, Int.reduceLT, Int.reduceLE, Int.reduceEq, Int.reduceToNat, Int.reduceAdd, Int.reduceSub, Int.reduceMul, reduceCtorEq, ↓reduceIte, gaE, implies_true, Nat.le_refl, Int.sub_zero, Nat.sub_zero, Int.le_refl, true_or, or_true, Bool.not_true, f3, i3, loopK_n]
            exact ⟨n - (i + 1), by omega, i + 1, x4, g4, pre.app y.f, post', rfl, by omega, by rw [q1, Fo.app_one], by rw [Fo.len_app]; simp only [Fo.El.f, Fo.len]; omega, by rw [Fo.rs_app]; exact ⟨hpre, hr.1 rfl⟩, f1, rfl, rfl, by omega, by rw [k4 nx (by omega), hb4], fun p hp => by rw [k4 p (by omega), F2 p hp]⟩
        · have e : pre.len = x.k.len := by omega
          obtain ⟨rfl, rfl⟩ := Fo.app_end e1 e
          simp only [↓gaW, ↓gaV, ↓gaC, ↓gaN, gaP, Nat.reduceEqDiff, Nat.reduceLeDiff, Nat.reduceAdd, Nat.reduceSub, Nat.reduceMul, Int.reduceLT, Int.reduceLE, Int.reduceEq, Int.reduceToNat, Int.reduceAdd, Int.reduceSub, Int.reduceMul, reduceCtorEq, ↓reduceIte, gaE, implies_true, Nat.le_refl, Int.sub_zero, Nat.sub_zero, Int.le_refl, true_or, or_true, f1, f3, hb4, nodeL, List.getD_cons_succ, List.getD_cons_zero, hin, decide_false]
          repeat refine And.intro (by omega) ?_
          exact ⟨true, rfl, by simp only [true_iff]; exact hrs.2 hpre⟩
    | false =>
      simp only [↓gaW, ↓gaV, ↓gaC, ↓gaN, gaP, Nat.reduceEqDiff, Nat.reduceLeDiff, Nat.reduceAdd, Nat.reduceSub, Nat.reduceMul, Int.reduceLT, Int.reduceLE, Int.reduceEq, Int.reduceToNat, Int.reduceAdd, Int.reduceSub, Int.reduceMul, reduceCtorEq, ↓reduceIte, gaE, implies_true, Nat.le_refl, Int.sub_zero, Nat.sub_zero, Int.le_refl, true_or, or_true, hb2, List.getD_cons_zero, List.getD_cons_succ, Bool.not_false]
      repeat refine And.intro (by omega) ?_
      refine callK_of (ct_within x.t h.tg) (fun v x3 g3 l3 k3 hC => ?_) (by omega)
      subst hC
      have hb3 : g3 nx = some (.cells (nodeL x.t B m d A n c) false) := by rw [k3 nx (by omega), hb2]
      have F3 : ∀ p, p < nx → g3 p = gt p := fun p hp => by rw [k3 p (by omega), F2 p hp]
      by_cases hn : (0 : Int) < n
      · simp only [↓gaW, ↓gaV, ↓gaC, ↓gaN, gaP, Nat.reduceEqDiff, Nat.reduceLeDiff, Nat.reduceAdd, Nat.reduceSub, Nat.reduceMul, Int.reduceLT, Int.reduceLE, Int.reduceEq, Int.reduceToNat, Int.reduceAdd, Int.reduceSub, Int.reduceMul, reduceCtorEq, ↓reduceIte, gaE, implies_true, Nat.le_refl, Int.sub_zero, Nat.sub_zero, Int.le_refl, true_or, or_true, hh, hb3, List.getD_cons_zero, List.getD_cons_succ, hn, Bool.not_false, decide_true]
        repeat refine And.intro (by omega) ?_
        exact ⟨false, rfl, by rw [rs_El]; simp only [Bool.false_eq_true, false_iff]; exact fun h => hkn.1 (h.1.2.2 hh) hn⟩
      · have hk0 := hkn.2 hn
        simp only [↓gaW, ↓gaV, ↓gaC, ↓gaN, gaP, Nat.reduceEqDiff, Nat.reduceLeDiff, Nat.reduceAdd, Nat.reduceSub, Nat.reduceMul, Int.reduceLT, Int.reduceLE, Int.reduceEq, Int.reduceToNat, Int.reduceAdd, Int.reduceSub, Int.reduceMul, reduceCtorEq, ↓reduceIte, gaE, implies_true, Nat.le_refl, Int.sub_zero, Nat.sub_zero, Int.le_refl, true_or, or_true, hh, hb3, List.getD_cons_zero, List.getD_cons_succ, hn, Bool.not_false, decide_false]
        repeat refine And.intro (by omega) ?_
        have n0 : n = 0 := by omega
        refine loop_of (fun j f mm => f 1 = .pointer (some ⟨nx, 0, none⟩) ∧ f 3 = .int .i64 0 ∧ mm = ⟨x3, b, g3⟩) 0 ⟨by first | (simp only [↓gaW, ↓gaV, ↓gaC, ↓gaN, gaP, Nat.reduceEqDiff, Nat.reduceLeDiff, Nat.reduceAdd, Nat.reduceSub, Nat.reduceMul, Int.reduceLT, Int.reduceLE, Int.reduceEq, Int.reduceToNat, Int.reduceAdd, Int.reduceSub, Int.reduceMul, reduceCtorEq, ↓reduceIte]; done) | (simp only [↓gaW, ↓gaV, ↓gaC, ↓gaN, gaP, Nat.reduceEqDiff, Nat.reduceLeDiff, Nat.reduceAdd, Nat.reduceSub, Nat.reduceMul, Int.reduceLT, Int.reduceLE, Int.reduceEq, Int.reduceToNat, Int.reduceAdd, Int.reduceSub, Int.reduceMul, reduceCtorEq, ↓reduceIte]; rfl), by first | (simp only [↓gaW, ↓gaV, ↓gaC, ↓gaN, gaP, Nat.reduceEqDiff, Nat.reduceLeDiff, Nat.reduceAdd, Nat.reduceSub, Nat.reduceMul, Int.reduceLT, Int.reduceLE, Int.reduceEq, Int.reduceToNat, Int.reduceAdd, Int.reduceSub, Int.reduceMul, reduceCtorEq, ↓reduceIte]; done) | (simp only [↓gaW, ↓gaV, ↓gaC, ↓gaN, gaP, Nat.reduceEqDiff, Nat.reduceLeDiff, Nat.reduceAdd, Nat.reduceSub, Nat.reduceMul, Int.reduceLT, Int.reduceLE, Int.reduceEq, Int.reduceToNat, Int.reduceAdd, Int.reduceSub, Int.reduceMul, reduceCtorEq, ↓reduceIte]; rfl), rfl⟩ ?_
        rintro j f mm ⟨f1, f3, rfl⟩
        simp only [↓gaW, ↓gaV, ↓gaC, ↓gaN, gaP, Nat.reduceEqDiff, Nat.reduceLeDiff, Nat.reduceAdd, Nat.reduceSub, Nat.reduceMul, Int.reduceLT, Int.reduceLE, Int.reduceEq, Int.reduceToNat, Int.reduceAdd, Int.reduceSub, Int.reduceMul, reduceCtorEq, ↓reduceIte, gaE, implies_true, Nat.le_refl, Int.sub_zero, Nat.sub_zero, Int.le_refl, true_or, or_true, f1, f3, hb3, nodeL, List.getD_cons_succ, List.getD_cons_zero, hn, decide_false]
        repeat refine And.intro (by omega) ?_
        exact ⟨true, rfl, by rw [rs_El, hk0]; refine iff_of_true rfl ⟨⟨ht.1 rfl, fun h => ?_, fun _ => rfl⟩, trivial⟩; rw [hh] at h; cases h⟩

theorem ct_weigh : ∀ (x : Fo.El) (dp : Nat), dp ≤ 61 → ∀ (nx : Nat) (gt : Nat → Option Blk) (B : Option Addr) (m d : Nat) (A : Option Addr) (n c : Nat) (ks : List Value), NdR nx gt x B m d A n c ks →
    Ct Try.prog 22 [nodeV x.t B m d A n c, .int .i64 (dp : Nat)] nx gt fun v _ _ => ∃ w : Nat, v = .int .i64 (w : Nat) ∧ 1 ≤ w ∧ w ≤ 30001 + 30000 * (61 - dp) ∧ (w < 30000 → w = x.f.ws) := by
  refine Fo.el_ind fun x ih dp hdp nx gt B m d A n c ks h => ?_
  refine Ct.of hmx r_lanyardref04_weigh (by simp [c_lanyardref04_weigh]) fun b hb => ?_
  have hF : ∀ q, q < nx → upd gt nx (some (.cells (nodeL x.t B m d A n c) false)) q = gt q := fun q hq => by simp only [upd_e]; rw [if_neg (by omega)]
  have hb0 : upd gt nx (some (.cells (nodeL x.t B m d A n c) false)) nx = some (.cells (nodeL x.t B m d A n c) false) := by simp only [upd_e, if_true]
  have h0 := h.keep (x' := nx + 1) (by omega) hF
  have bw := Fo.bs_ws x.k
  have mw := Fo.ms_ws x.k
  have dw := Fo.ds_ws x.k
  have lw := Fo.len_ws x.k
  have xw : x.f.ws = 1 + x.b.length + x.k.ws := by simp only [Fo.El.f, Fo.ws]; omega
  have hl := h.blen
  have hkl := h.len
  by_cases hd60 : (60 : Int) < (dp : Int)
  · simp only [c_lanyardref04_weigh, ↓gaW, ↓gaV, ↓gaC, ↓gaN, gaP, Nat.reduceEqDiff, Nat.reduceLeDiff, Nat.reduceAdd, Nat.reduceSub, Nat.reduceMul, Int.reduceLT, Int.reduceLE, Int.reduceEq, Int.reduceToNat, Int.reduceAdd, Int.reduceSub, Int.reduceMul, reduceCtorEq, ↓reduceIte, List.getD_cons_zero, List.getD_cons_succ, fillL, splice, List.take_zero, List.drop_zero, List.drop_succ_cons, List.take_succ_cons, List.drop_nil, List.take_nil, gaE, implies_true, Nat.le_refl, Int.sub_zero, Nat.sub_zero, Int.le_refl, true_or, or_true, gaU, hd60, decide_true]
    exact ⟨by omega, hF, 30000, rfl, by omega, by omega, by omega⟩
  simp only [c_lanyardref04_weigh, ↓gaW, ↓gaV, ↓gaC, ↓gaN, gaP, Nat.reduceEqDiff, Nat.reduceLeDiff, Nat.reduceAdd, Nat.reduceSub, Nat.reduceMul, Int.reduceLT, Int.reduceLE, Int.reduceEq, Int.reduceToNat, Int.reduceAdd, Int.reduceSub, Int.reduceMul, reduceCtorEq, ↓reduceIte, List.getD_cons_zero, List.getD_cons_succ, fillL, splice, List.take_zero, List.drop_zero, List.drop_succ_cons, List.take_succ_cons, List.drop_nil, List.take_nil, gaU, hd60, decide_false]
  generalize upd gt nx (some (.cells (nodeL x.t B m d A n c) false)) = g0 at *
  repeat refine And.intro (by omega) ?_
  have hw0 : IntKind.i64.wrap (1 + if (30000 : Int) < (m : Int) then 30000 else (m : Int)) = ((1 + min m 30000 : Nat) : Int) := by
    rw [i64_w _ (by split <;> omega)]; split <;> omega
  refine loop_of (fun j f mm => ∃ (i w x2 : Nat) (g : Nat → Option Blk) (pre post : Fo), j = n - i ∧ i ≤ n ∧ x.k = pre.app post ∧ pre.len = i ∧ 1 + i ≤ w ∧ w ≤ 30001 + 30000 * (61 - dp) ∧ (w < 30000 → w = 1 + m + pre.ws) ∧ f 1 = .int .i64 (dp : Nat) ∧ f 2 = .pointer (some ⟨nx, 0, none⟩) ∧ f 5 = .int .i64 (w : Nat) ∧ f 6 = .int .i64 (i : Nat) ∧
      mm = ⟨x2, b, g⟩ ∧ nx + 1 ≤ x2 ∧ g nx = some (.cells (nodeL x.t B m d A n c) false) ∧ (∀ p, p < nx → g p = gt p)) n ⟨0, 1 + min m 30000, nx + 1, g0, .nil, x.k, by omega, by omega, rfl, rfl, by omega, by omega, by simp only [Fo.ws]; omega, by first | (simp only [↓gaW, ↓gaV, ↓gaC, ↓gaN, gaP, Nat.reduceEqDiff, Nat.reduceLeDiff, Nat.reduceAdd, Nat.reduceSub, Nat.reduceMul, Int.reduceLT, Int.reduceLE, Int.reduceEq, Int.reduceToNat, Int.reduceAdd, Int.reduceSub, Int.reduceMul, reduceCtorEq, ↓reduceIte]; done) | (simp only [↓gaW, ↓gaV, ↓gaC, ↓gaN, gaP, Nat.reduceEqDiff, Nat.reduceLeDiff, Nat.reduceAdd, Nat.reduceSub, Nat.reduceMul, Int.reduceLT, Int.reduceLE, Int.reduceEq, Int.reduceToNat, Int.reduceAdd, Int.reduceSub, Int.reduceMul, reduceCtorEq, ↓reduceIte]; rfl), by first | (simp only [↓gaW, ↓gaV, ↓gaC, ↓gaN, gaP, Nat.reduceEqDiff, Nat.reduceLeDiff, Nat.reduceAdd, Nat.reduceSub, Nat.reduceMul, Int.reduceLT, Int.reduceLE, Int.reduceEq, Int.reduceToNat, Int.reduceAdd, Int.reduceSub, Int.reduceMul, reduceCtorEq, ↓reduceIte]; done) | (simp only [↓gaW, ↓gaV, ↓gaC, ↓gaN, gaP, Nat.reduceEqDiff, Nat.reduceLeDiff, Nat.reduceAdd, Nat.reduceSub, Nat.reduceMul, Int.reduceLT, Int.reduceLE, Int.reduceEq, Int.reduceToNat, Int.reduceAdd, Int.reduceSub, Int.reduceMul, reduceCtorEq, ↓reduceIte]; rfl), by simp only [↓gaW, ↓gaV, ↓gaC, ↓gaN, gaP, Nat.reduceEqDiff, Nat.reduceLeDiff, Nat.reduceAdd, Nat.reduceSub, Nat.reduceMul, Int.reduceLT, Int.reduceLE, Int.reduceEq, Int.reduceToNat, Int.reduceAdd, Int.reduceSub, Int.reduceMul, reduceCtorEq, ↓reduceIte]; rw [hw0], by first | (simp only [↓gaW, ↓gaV, ↓gaC, ↓gaN, gaP, Nat.reduceEqDiff, Nat.reduceLeDiff, Nat.reduceAdd, Nat.reduceSub, Nat.reduceMul, Int.reduceLT, Int.reduceLE, Int.reduceEq, Int.reduceToNat, Int.reduceAdd, Int.reduceSub, Int.reduceMul, reduceCtorEq, ↓reduceIte]; done) | (simp only [↓gaW, ↓gaV, ↓gaC, ↓gaN, gaP, Nat.reduceEqDiff, Nat.reduceLeDiff, Nat.reduceAdd, Nat.reduceSub, Nat.reduceMul, Int.reduceLT, Int.reduceLE, Int.reduceEq, Int.reduceToNat, Int.reduceAdd, Int.reduceSub, Int.reduceMul, reduceCtorEq, ↓reduceIte]; rfl), rfl, by omega, hb0, hF⟩ ?_
  rintro j f mm ⟨i, w, x2, g2, pre, post, hj, hi, e1, e2, hw1, hw2, hw3, f1, f2, f5, f6, rfl, hx2, hb2, F2⟩
  have h2 := h.keep (x' := x2) (by omega) F2
  by_cases hin : (i : Int) < (n : Int)
  · by_cases hw30 : (w : Int) < 30000
    · skip
      obtain ⟨y, pre', post', B', m', d', A', n', c', ks', q1, q2, q3, q4⟩ := h2.kids.at (i := i) (by omega)
      obtain ⟨rfl, rfl⟩ := Fo.app_inj (e1.symm.trans q1) (by omega)
      obtain ⟨a, cl, ro, rfl, r2, r3, r4, r5⟩ := h2.row.cells (by omega)
      have hld := h2.row.load rfl r3 (j := i * 3) (k := 3) (by omega) (by omega)
      rw [q4] at hld
      have w1 : (pre.app y.f).ws + post'.ws = x.k.ws := by rw [q1, Fo.app_one, Fo.ws_app (pre.app y.f)]
      have w2 := Fo.bs_ws (pre.app y.f)
      have w3 := Fo.ms_ws (pre.app y.f)
      have w4 := Fo.ds_ws (pre.app y.f)
      rw [Fo.bs_app] at w2
      rw [Fo.ms_app] at w3
      rw [Fo.ds_app] at w4
      have i3 : IntKind.i64.wrap ((i : Int) + 1) = ((i + 1 : Nat) : Int) := by rw [i64_w _ (by omega)]; omega
      have i4 : IntKind.i64.wrap ((dp : Int) + 1) = ((dp + 1 : Nat) : Int) := by rw [i64_w _ (by omega)]; omega
      simp only [↓gaW, ↓gaV, ↓gaC, ↓gaN, gaP, Nat.reduceEqDiff, Nat.reduceLeDiff, Nat.reduceAdd, Nat.reduceSub, Nat.reduceMul, Int.reduceLT, Int.reduceLE, Int.reduceEq, Int.reduceToNat, Int.reduceAdd, Int.reduceSub, Int.reduceMul, reduceCtorEq, ↓reduceIte, List.getD_cons_zero, List.getD_cons_succ, fillL, splice, List.take_zero, List.drop_zero, List.drop_succ_cons, List.take_succ_cons, List.drop_nil, List.take_nil, f1, f2, f5, f6, hb2, nodeL, List.getD_cons_succ, List.getD_cons_zero, hin, hw30, decide_true, r3, hld, i4]
      repeat refine And.intro (by omega) ?_
      refine callK_of (ih pre y post' q1 (dp + 1) (by omega) _ _ _ _ _ _ _ _ _ q3) (fun v x4 g4 l4 k4 hC => ?_) (by omega)
      obtain ⟨u, rfl, u1, u2, u3⟩ := hC
      have i5 : IntKind.i64.wrap ((w : Int) + (u : Int)) = ((w + u : Nat) : Int) := by rw [i64_w _ (by omega)]; omega
      simp only [↓gaW, ↓gaV, ↓gaC, ↓gaN, gaP, Nat.reduceEqDiff, Nat.reduceLeDiff, Nat.reduceAdd, Nat.reduceSub, Nat.reduceMul, Int.reduceLT, Int.reduceLE, Int.reduceEq, Int.reduceToNat, Int.reduceAdd, Int.reduceSub, Int.reduceMul, reduceCtorEq, ↓reduceIte, gaE, implies_true, Nat.le_refl, Int.sub_zero, Nat.sub_zero, Int.le_refl, true_or, or_true, f6, i3, i5, loopK_n]
      exact ⟨n - (i + 1), by omega, i + 1, w + u, x4, g4, pre.app y.f, post', rfl, by omega, by rw [q1, Fo.app_one], by rw [Fo.len_app]; simp only [Fo.El.f, Fo.len]; omega, by omega, by omega, fun h => by rw [Fo.ws_app, hw3 (by omega), u3 (by omega)]; omega, f1, f2, rfl, rfl, rfl, by omega, by rw [k4 nx (by omega), hb2], fun p hp => by rw [k4 p (by omega), F2 p hp]⟩
    · simp only [↓gaW, ↓gaV, ↓gaC, ↓gaN, gaP, Nat.reduceEqDiff, Nat.reduceLeDiff, Nat.reduceAdd, Nat.reduceSub, Nat.reduceMul, Int.reduceLT, Int.reduceLE, Int.reduceEq, Int.reduceToNat, Int.reduceAdd, Int.reduceSub, Int.reduceMul, reduceCtorEq, ↓reduceIte, gaE, implies_true, Nat.le_refl, Int.sub_zero, Nat.sub_zero, Int.le_refl, true_or, or_true, f1, f2, f5, f6, hb2, nodeL, List.getD_cons_succ, List.getD_cons_zero, hin, hw30, decide_true, decide_false]
      repeat refine And.intro (by omega) ?_
      exact ⟨w, rfl, by omega, by omega, by omega⟩
  · have e : pre.len = x.k.len := by omega
    obtain ⟨rfl, rfl⟩ := Fo.app_end e1 e
    simp only [↓gaW, ↓gaV, ↓gaC, ↓gaN, gaP, Nat.reduceEqDiff, Nat.reduceLeDiff, Nat.reduceAdd, Nat.reduceSub, Nat.reduceMul, Int.reduceLT, Int.reduceLE, Int.reduceEq, Int.reduceToNat, Int.reduceAdd, Int.reduceSub, Int.reduceMul, reduceCtorEq, ↓reduceIte, gaE, implies_true, Nat.le_refl, Int.sub_zero, Nat.sub_zero, Int.le_refl, true_or, or_true, f1, f2, f5, f6, hb2, nodeL, List.getD_cons_succ, List.getD_cons_zero, hin, decide_false]
    repeat refine And.intro (by omega) ?_
    exact ⟨w, rfl, by omega, by omega, fun h => by rw [hw3 h, xw, hl]⟩

theorem ct_Light {x : Fo.El} {nx : Nat} {gt : Nat → Option Blk} {B : Option Addr} {m d : Nat} {A : Option Addr} {n c : Nat} {ks : List Value} (h : NdR nx gt x B m d A n c ks) :
    Ct Try.prog 13 [nodeV x.t B m d A n c] nx gt fun v _ _ => ∃ r, v = .bool r ∧ (r = true → x.f.ws < 30000) := by
  refine Ct.of hmx r_lanyardref04_Light (by simp [c_lanyardref04_Light]) fun b hb => ?_
  have hF : ∀ q, q < nx → upd gt nx (some (.cells (nodeL x.t B m d A n c) false)) q = gt q := fun q hq => by simp only [upd_e]; rw [if_neg (by omega)]
  have hb0 : upd gt nx (some (.cells (nodeL x.t B m d A n c) false)) nx = some (.cells (nodeL x.t B m d A n c) false) := by simp only [upd_e, if_true]
  have h0 := h.keep (x' := nx + 1) (by omega) hF
  have bw := Fo.bs_ws x.k
  have mw := Fo.ms_ws x.k
  have dw := Fo.ds_ws x.k
  have lw := Fo.len_ws x.k
  have xw : x.f.ws = 1 + x.b.length + x.k.ws := by simp only [Fo.El.f, Fo.ws]; omega
  have hl := h.blen
  have hkl := h.len
  simp only [c_lanyardref04_Light, ↓gaW, ↓gaV, ↓gaC, ↓gaN, gaP, Nat.reduceEqDiff, Nat.reduceLeDiff, Nat.reduceAdd, Nat.reduceSub, Nat.reduceMul, Int.reduceLT, Int.reduceLE, Int.reduceEq, Int.reduceToNat, Int.reduceAdd, Int.reduceSub, Int.reduceMul, reduceCtorEq, ↓reduceIte, List.getD_cons_zero, List.getD_cons_succ, fillL, splice, List.take_zero, List.drop_zero, List.drop_succ_cons, List.take_succ_cons, List.drop_nil, List.take_nil, gaU]
  generalize upd gt nx (some (.cells (nodeL x.t B m d A n c) false)) = g0 at *
  repeat refine And.intro (by omega) ?_
  refine callK_of (ct_weigh x 0 (by omega) _ _ _ _ _ _ _ _ _ h0) (fun v x1 g1 l1 k1 hC => ?_) (by omega)
  obtain ⟨w, rfl, w1, w2, w3⟩ := hC
  simp only [↓gaW, ↓gaV, ↓gaC, ↓gaN, gaP, Nat.reduceEqDiff, Nat.reduceLeDiff, Nat.reduceAdd, Nat.reduceSub, Nat.reduceMul, Int.reduceLT, Int.reduceLE, Int.reduceEq, Int.reduceToNat, Int.reduceAdd, Int.reduceSub, Int.reduceMul, reduceCtorEq, ↓reduceIte, gaE, implies_true, Nat.le_refl, Int.sub_zero, Nat.sub_zero, Int.le_refl, true_or, or_true]
  exact ⟨by omega, fun p hp => by rw [k1 p (by omega), hF p hp], _, rfl, fun h => by rw [decide_eq_true_iff] at h; rw [← w3 (by omega)]; omega⟩

theorem El_eq {x y : Fo.El} : x = y ↔ x.t = y.t ∧ x.b = y.b ∧ x.k = y.k := by
  cases x; cases y; simp

theorem ct_Same : ∀ (x : Fo.El), x.f.ws < 1000000000000 → ∀ (y : Fo.El) (nx : Nat) (gt : Nat → Option Blk) (B : Option Addr) (m d : Nat) (A : Option Addr) (n c : Nat) (ks : List Value) (B2 : Option Addr) (m2 d2 : Nat) (A2 : Option Addr) (n2 c2 : Nat) (ks2 : List Value), NdR nx gt x B m d A n c ks → NdR nx gt y B2 m2 d2 A2 n2 c2 ks2 →
    Ct Try.prog 12 [nodeV x.t B m d A n c, nodeV y.t B2 m2 d2 A2 n2 c2] nx gt fun v _ _ => ∃ r, v = .bool r ∧ (r = true ↔ x = y) := by
  refine Fo.el_ind fun x ih hw z nx gt B m d A n c ks B2 m2 d2 A2 n2 c2 ks2 h hz => ?_
  refine Ct.of hmx r_lanyardref04_Same (by simp [c_lanyardref04_Same]) fun b hb => ?_
  have bw := Fo.bs_ws x.k
  have mw := Fo.ms_ws x.k
  have dw := Fo.ds_ws x.k
  have lw := Fo.len_ws x.k
  have xw : x.f.ws = 1 + x.b.length + x.k.ws := by simp only [Fo.El.f, Fo.ws]; omega
  have hl := h.blen
  have hkl := h.len
  have hlz := hz.blen
  have hkz := hz.len
  have hF : ∀ q, q < nx → upd (upd gt nx (some (.cells (nodeL x.t B m d A n c) false))) (nx + 1) (some (.cells (nodeL z.t B2 m2 d2 A2 n2 c2) false)) q = gt q := fun q hq => by simp only [upd_e]; rw [if_neg (by omega), if_neg (by omega)]
  have hb0 : upd (upd gt nx (some (.cells (nodeL x.t B m d A n c) false))) (nx + 1) (some (.cells (nodeL z.t B2 m2 d2 A2 n2 c2) false)) nx = some (.cells (nodeL x.t B m d A n c) false) := by simp only [upd_e, if_true]; rw [if_neg (by omega)]
  have hb1 : upd (upd gt nx (some (.cells (nodeL x.t B m d A n c) false))) (nx + 1) (some (.cells (nodeL z.t B2 m2 d2 A2 n2 c2) false)) (nx + 1) = some (.cells (nodeL z.t B2 m2 d2 A2 n2 c2) false) := by simp only [upd_e, if_true]
  have hnn : (nx = nx + 1) = False := by simp
  have h0 := h.keep (x' := nx + 1 + 1) (by omega) hF
  have hz0 := hz.keep (x' := nx + 1 + 1) (by omega) hF
  simp only [c_lanyardref04_Same, ↓gaW, ↓gaV, ↓gaC, ↓gaN, gaP, Nat.reduceEqDiff, Nat.reduceLeDiff, Nat.reduceAdd, Nat.reduceSub, Nat.reduceMul, Int.reduceLT, Int.reduceLE, Int.reduceEq, Int.reduceToNat, Int.reduceAdd, Int.reduceSub, Int.reduceMul, reduceCtorEq, ↓reduceIte, List.getD_cons_zero, List.getD_cons_succ, fillL, splice, List.take_zero, List.drop_zero, List.drop_succ_cons, List.take_succ_cons, List.drop_nil, List.take_nil, gaU, hnn]
  by_cases ht : x.t = z.t
  case neg =>
    simp only [↓gaW, ↓gaV, ↓gaC, ↓gaN, gaP, Nat.reduceEqDiff, Nat.reduceLeDiff, Nat.reduceAdd, Nat.reduceSub, Nat.reduceMul, Int.reduceLT, Int.reduceLE, Int.reduceEq, Int.reduceToNat, Int.reduceAdd, Int.reduceSub, Int.reduceMul, reduceCtorEq, ↓reduceIte, gaE, implies_true, Nat.le_refl, Int.sub_zero, Nat.sub_zero, Int.le_refl, true_or, or_true, ht, decide_false, Bool.not_false]
    repeat refine And.intro (by omega) ?_
    refine ⟨hF, false, rfl, ?_⟩
    simp only [Bool.false_eq_true, false_iff]
    exact fun h => ht (by rw [h])
  generalize upd (upd gt nx (some (.cells (nodeL x.t B m d A n c) false))) (nx + 1) (some (.cells (nodeL z.t B2 m2 d2 A2 n2 c2) false)) = g0 at *
  have e1 : rowOf ⟨nx + 1 + 1, b, g0⟩ B m = some (x.b.map u8V) := h0.body.rowOf
  have e2 : rowOf ⟨nx + 1 + 1, b, g0⟩ B2 m2 = some (z.b.map u8V) := hz0.body.rowOf
  by_cases hbq : x.b = z.b
  case neg =>
    have e3 : (x.b == z.b) = false := by simpa using hbq
    simp only [↓gaW, ↓gaV, ↓gaC, ↓gaN, gaP, Nat.reduceEqDiff, Nat.reduceLeDiff, Nat.reduceAdd, Nat.reduceSub, Nat.reduceMul, Int.reduceLT, Int.reduceLE, Int.reduceEq, Int.reduceToNat, Int.reduceAdd, Int.reduceSub, Int.reduceMul, reduceCtorEq, ↓reduceIte, gaE, implies_true, Nat.le_refl, Int.sub_zero, Nat.sub_zero, Int.le_refl, true_or, or_true, ht, decide_true, Bool.not_true, hb0, hb1, nodeL, List.getD_cons_succ, List.getD_cons_zero, e1, e2, bytesOf_map, str_eq, e3, Bool.not_false]
    repeat refine And.intro (by omega) ?_
    refine ⟨false, rfl, ?_⟩
    simp only [Bool.false_eq_true, false_iff]
    exact fun h => hbq (by rw [h])
  have e3 : (x.b == z.b) = true := by simpa using hbq
  by_cases hnn2 : (n : Int) = (n2 : Int)
  case neg =>
    simp only [↓gaW, ↓gaV, ↓gaC, ↓gaN, gaP, Nat.reduceEqDiff, Nat.reduceLeDiff, Nat.reduceAdd, Nat.reduceSub, Nat.reduceMul, Int.reduceLT, Int.reduceLE, Int.reduceEq, Int.reduceToNat, Int.reduceAdd, Int.reduceSub, Int.reduceMul, reduceCtorEq, ↓reduceIte, gaE, implies_true, Nat.le_refl, Int.sub_zero, Nat.sub_zero, Int.le_refl, true_or, or_true, ht, decide_true, Bool.not_true, hb0, hb1, nodeL, List.getD_cons_succ, List.getD_cons_zero, e1, e2, bytesOf_map, str_eq, e3, Bool.not_false, hnn2, decide_false]
    repeat refine And.intro (by omega) ?_
    refine ⟨false, rfl, ?_⟩
    simp only [Bool.false_eq_true, false_iff]
    exact fun h => hnn2 (by rw [hkl, hkz, h])
  have hn2 : n2 = n := by omega
  subst hn2
  simp only [↓gaW, ↓gaV, ↓gaC, ↓gaN, gaP, Nat.reduceEqDiff, Nat.reduceLeDiff, Nat.reduceAdd, Nat.reduceSub, Nat.reduceMul, Int.reduceLT, Int.reduceLE, Int.reduceEq, Int.reduceToNat, Int.reduceAdd, Int.reduceSub, Int.reduceMul, reduceCtorEq, ↓reduceIte, gaE, implies_true, Nat.le_refl, Int.sub_zero, Nat.sub_zero, Int.le_refl, true_or, or_true, ht, decide_true, Bool.not_true, hb0, hb1, nodeL, List.getD_cons_succ, List.getD_cons_zero, e1, e2, bytesOf_map, str_eq, e3]
  repeat refine And.intro (by omega) ?_
  have hxz : x = z ↔ x.k = z.k := by rw [El_eq]; simp [ht, hbq]
  refine loop_of (fun j f mm => ∃ (i x2 : Nat) (g : Nat → Option Blk) (pre post post2 : Fo), j = n2 - i ∧ i ≤ n2 ∧ x.k = pre.app post ∧ z.k = pre.app post2 ∧ pre.len = i ∧ f 2 = .pointer (some ⟨nx, 0, none⟩) ∧ f 3 = .pointer (some ⟨nx + 1, 0, none⟩) ∧ f 5 = .int .i64 (i : Nat) ∧
      mm = ⟨x2, b, g⟩ ∧ nx + 1 + 1 ≤ x2 ∧ g nx = some (.cells (nodeL x.t B m d A n2 c) false) ∧ g (nx + 1) = some (.cells (nodeL z.t B2 m2 d2 A2 n2 c2) false) ∧ (∀ p, p < nx → g p = gt p)) n2 ⟨0, nx + 1 + 1, g0, .nil, x.k, z.k, by omega, by omega, rfl, rfl, rfl, by first | (simp only [↓gaW, ↓gaV, ↓gaC, ↓gaN, gaP, Nat.reduceEqDiff, Nat.reduceLeDiff, Nat.reduceAdd, Nat.reduceSub, Nat.reduceMul, Int.reduceLT, Int.reduceLE, Int.reduceEq, Int.reduceToNat, Int.reduceAdd, Int.reduceSub, Int.reduceMul, reduceCtorEq, ↓reduceIte]; done) | (simp only [↓gaW, ↓gaV, ↓gaC, ↓gaN, gaP, Nat.reduceEqDiff, Nat.reduceLeDiff, Nat.reduceAdd, Nat.reduceSub, Nat.reduceMul, Int.reduceLT, Int.reduceLE, Int.reduceEq, Int.reduceToNat, Int.reduceAdd, Int.reduceSub, Int.reduceMul, reduceCtorEq, ↓reduceIte]; rfl), by first | (simp only [↓gaW, ↓gaV, ↓gaC, ↓gaN, gaP, Nat.reduceEqDiff, Nat.reduceLeDiff, Nat.reduceAdd, Nat.reduceSub, Nat.reduceMul, Int.reduceLT, Int.reduceLE, Int.reduceEq, Int.reduceToNat, Int.reduceAdd, Int.reduceSub, Int.reduceMul, reduceCtorEq, ↓reduceIte]; done) | (simp only [↓gaW, ↓gaV, ↓gaC, ↓gaN, gaP, Nat.reduceEqDiff, Nat.reduceLeDiff, Nat.reduceAdd, Nat.reduceSub, Nat.reduceMul, Int.reduceLT, Int.reduceLE, Int.reduceEq, Int.reduceToNat, Int.reduceAdd, Int.reduceSub, Int.reduceMul, reduceCtorEq, ↓reduceIte]; rfl), by first | (simp only [↓gaW, ↓gaV, ↓gaC, ↓gaN, gaP, Nat.reduceEqDiff, Nat.reduceLeDiff, Nat.reduceAdd, Nat.reduceSub, Nat.reduceMul, Int.reduceLT, Int.reduceLE, Int.reduceEq, Int.reduceToNat, Int.reduceAdd, Int.reduceSub, Int.reduceMul, reduceCtorEq, ↓reduceIte]; done) | (simp only [↓gaW, ↓gaV, ↓gaC, ↓gaN, gaP, Nat.reduceEqDiff, Nat.reduceLeDiff, Nat.reduceAdd, Nat.reduceSub, Nat.reduceMul, Int.reduceLT, Int.reduceLE, Int.reduceEq, Int.reduceToNat, Int.reduceAdd, Int.reduceSub, Int.reduceMul, reduceCtorEq, ↓reduceIte]; rfl), rfl, by omega, hb0, hb1, hF⟩ ?_
  rintro j f mm ⟨i, x2, g2, pre, post, pos2, hj, hi, e1, e2, e3, f2, f3, f5, rfl, hx2, hb2, hb3, F2⟩
  have h2 := h.keep (x' := x2) (by omega) F2
  have hz2 := hz.keep (x' := x2) (by omega) F2
  by_cases hin : (i : Int) < (n2 : Int)
  · obtain ⟨y, pre', post', B', m', d', A', n', c', ks', q1, q2, q3, q4⟩ := h2.kids.at (i := i) (by omega)
    obtain ⟨rfl, rfl⟩ := Fo.app_inj (e1.symm.trans q1) (by omega)
    obtain ⟨a, cl, ro, rfl, r2, r3, r4, r5⟩ := h2.row.cells (by omega)
    have hld := h2.row.load rfl r3 (j := i * 3) (k := 3) (by omega) (by omega)
    rw [q4] at hld
    obtain ⟨y', pre', post2', B'2, m'2, d'2, A'2, n'2, c'2, ks'2, s1, s2, s3, s4⟩ := hz2.kids.at (i := i) (by omega)
    obtain ⟨rfl, rfl⟩ := Fo.app_inj (e2.symm.trans s1) (by omega)
    obtain ⟨a2, cl2, ro2, rfl, t2, t3, t4, t5⟩ := hz2.row.cells (by omega)
    have hld2 := hz2.row.load rfl t3 (j := i * 3) (k := 3) (by omega) (by omega)
    rw [s4] at hld2
    have i3 : IntKind.i64.wrap ((i : Int) + 1) = ((i + 1 : Nat) : Int) := by rw [i64_w _ (by omega)]; omega
    simp only [↓gaW, ↓gaV, ↓gaC, ↓gaN, gaP, Nat.reduceEqDiff, Nat.reduceLeDiff, Nat.reduceAdd, Nat.reduceSub, Nat.reduceMul, Int.reduceLT, Int.reduceLE, Int.reduceEq, Int.reduceToNat, Int.reduceAdd, Int.reduceSub, Int.reduceMul, reduceCtorEq, ↓reduceIte, List.getD_cons_zero, List.getD_cons_succ, fillL, splice, List.take_zero, List.drop_zero, List.drop_succ_cons, List.take_succ_cons, List.drop_nil, List.take_nil, f2, f3, f5, hb2, hb3, nodeL, List.getD_cons_succ, List.getD_cons_zero, hin, decide_true, r3, t3, hld, hld2]
    repeat refine And.intro (by omega) ?_
    refine callK_of (ih pre y post' q1 (by have := Fo.ws_in q1; omega) y' _ _ _ _ _ _ _ _ _ _ _ _ _ _ _ _ q3 s3) (fun v x4 g4 l4 k4 hC => ?_) (by omega)
    obtain ⟨r, rfl, hr⟩ := hC
    cases r with
    | false =>
      simp only [↓gaW, ↓gaV, ↓gaC, ↓gaN, gaP, Nat.reduceEqDiff, Nat.reduceLeDiff, Nat.reduceAdd, Nat.reduceSub, Nat.reduceMul, Int.reduceLT, Int.reduceLE, Int.reduceEq, Int.reduceToNat, Int.reduceAdd, Int.reduceSub, Int.reduceMul, reduceCtorEq, ↓reduceIte, gaE, implies_true, Nat.le_refl, Int.sub_zero, Nat.sub_zero, Int.le_refl, true_or, or_true, Bool.not_false, loopK_r]
      refine ⟨by omega, fun p hp => by rw [k4 p (by omega), F2 p hp], false, rfl, ?_⟩
      simp only [Bool.false_eq_true, false_iff] at hr ⊢
      intro hq
      rw [hq, s1] at q1
      have := (Fo.app_inj q1 rfl).2
      injection this with p1 p2 p3 p4
      exact hr (El_eq.2 ⟨p1.symm, p2.symm, p3.symm⟩)
    | true =>
      have hyy := hr.1 rfl
      subst hyy
      simp only [↓gaW, ↓gaV, ↓gaC, ↓gaN, gaP, Nat.reduceEqDiff, Nat.reduceLeDiff, Nat.reduceAdd, Nat.reduceSub, Nat.reduceMul, Int.reduceLT, Int.reduceLE, Int.reduceEq, Int.reduceToNat, Int.reduceAdd, Int.reduceSub, Int.reduceMul, reduceCtorEq, ↓reduceIte, gaE, implies_true, Nat.le_refl, Int.sub_zero, Nat.sub_zero, Int.le_refl, true_or, or_true, Bool.not_true, f5, i3, loopK_n]
      exact ⟨n2 - (i + 1), by omega, i + 1, x4, g4, pre.app y.f, post', post2', rfl, by omega, by rw [q1, Fo.app_one], by rw [s1, Fo.app_one], by rw [Fo.len_app]; simp only [Fo.El.f, Fo.len]; omega, f2, f3, rfl, rfl, by omega, by rw [k4 nx (by omega), hb2], by rw [k4 (nx + 1) (by omega), hb3], fun p hp => by rw [k4 p (by omega), F2 p hp]⟩
  · have e : pre.len = x.k.len := by omega
    obtain ⟨rfl, rfl⟩ := Fo.app_end e1 e
    obtain ⟨h3, _⟩ := Fo.app_end e2 (by omega)
    simp only [↓gaW, ↓gaV, ↓gaC, ↓gaN, gaP, Nat.reduceEqDiff, Nat.reduceLeDiff, Nat.reduceAdd, Nat.reduceSub, Nat.reduceMul, Int.reduceLT, Int.reduceLE, Int.reduceEq, Int.reduceToNat, Int.reduceAdd, Int.reduceSub, Int.reduceMul, reduceCtorEq, ↓reduceIte, gaE, implies_true, Nat.le_refl, Int.sub_zero, Nat.sub_zero, Int.le_refl, true_or, or_true, f2, f3, f5, hb2, hb3, nodeL, List.getD_cons_succ, List.getD_cons_zero, hin, decide_false]
    repeat refine And.intro (by omega) ?_
    exact ⟨true, rfl, by simp only [true_iff]; exact hxz.2 h3⟩
end Go.Ga

/- What a step comes to is one thing; regions gone through in every order; a slice that a function is handed to append to. -/
namespace Go.Ga
open Go

theorem Fn.det {P : Program} {g : Nat} {args : List Value} {m : Mem} {K : Res → Mem → Prop} (h : Fn P g args m K) (hwf : m.bar ≤ m.next) : ∃ res m', K res m' ∧ ∀ K' : Res → Mem → Prop, K' res m' → Fn P g args m K' := by
  obtain ⟨res, m', h1, h2⟩ := h hwf
  exact ⟨res, m', h2, fun K' hk _ => ⟨res, m', h1, hk⟩⟩
theorem callK_det {P : Program} {g : Nat} {args : List Value} {m : Mem} {d : Option Nat} {l : List RO} {f : Regs} {Q : AEx → Regs → Mem → Prop} {res : Res} {m' : Mem} (h : ∀ K' : Res → Mem → Prop, K' res m' → Fn P g args m K')
    (hk : match res with | .ret v => goOps P l (putR f d v) m' Q | .pan v => Q (.pan v) f m') : callK P g args d l f m Q := by
  unfold callK
  refine h _ ?_
  cases res <;> exact hk

theorem writeK_det {m : Mem} {a : Addr} {o : Nat} {vs : List Value} {K : Mem → Prop} (h : writeK m a o vs K) : ∃ m', K m' ∧ ∀ K' : Mem → Prop, K' m' → writeK m a o vs K' := by
  unfold writeK at *
  split at h
  · rename_i l hl
    obtain ⟨h1, h2, h3, h4⟩ := h
    refine ⟨_, h4, fun K' hk => ?_⟩
    exact ⟨h1, h2, h3, hk⟩
  · cases h

theorem appendK_det {e bytes : Nat} {m : Mem} {A : Option Addr} {n c k : Nat} {news : List Value} {K : Value → Mem → Prop} (h : appendK e bytes m A n c k news K) : ∃ v m', K v m' ∧ ∀ K' : Value → Mem → Prop, K' v m' → appendK e bytes m A n c k news K' := by
  unfold appendK at *
  obtain ⟨h1, h2, h3, h⟩ := h
  by_cases hc : n + k ≤ c
  · rw [if_pos hc] at h
    cases A with
    | none => exact ⟨_, _, h, fun K' hk => ⟨h1, h2, h3, by rw [if_pos hc]; exact hk⟩⟩
    | some a =>
      simp only at h
      by_cases hk0 : k = 0
      · rw [if_pos hk0] at h
        exact ⟨_, _, h, fun K' hk => ⟨h1, h2, h3, by rw [if_pos hc]; simp only; rw [if_pos hk0]; exact hk⟩⟩
      · rw [if_neg hk0] at h
        obtain ⟨m', h4, h5⟩ := writeK_det h
        exact ⟨_, m', h4, fun K' hk => ⟨h1, h2, h3, by rw [if_pos hc]; simp only; rw [if_neg hk0]; exact h5 _ hk⟩⟩
  · rw [if_neg hc] at h
    obtain ⟨h4, h5, h⟩ := h
    cases hr : rowOf m A (n * e) with
    | none => rw [hr] at h; exact h.elim
    | some old =>
      rw [hr] at h
      simp only at h
      cases A with
      | none => exact ⟨_, _, h, fun K' hk => ⟨h1, h2, h3, by rw [if_neg hc]; exact ⟨h4, h5, hk⟩⟩⟩
      | some a =>
        simp only at h
        cases hs : a.spot with
        | none =>
          rw [hs] at h
          exact ⟨_, _, h, fun K' hk => ⟨h1, h2, h3, by rw [if_neg hc]; refine ⟨h4, h5, ?_⟩; simp only [hs]; exact hk⟩⟩
        | some e' =>
          rw [hs] at h
          simp only at h
          obtain ⟨h6, h7, h8, h9⟩ := h
          exact ⟨_, _, h9, fun K' hk => ⟨h1, h2, h3, by rw [if_neg hc]; refine ⟨h4, h5, ?_⟩; simp only [hs]; exact ⟨h6, h7, h8, hk⟩⟩⟩

theorem tree_inv2 {P : Program} {ops : List RO} {deps : List (List Nat)} {conf : List (Option (List Nat))} {L : AEx → Regs → Mem → Prop} (I : (Nat → Bool) → Regs → Mem → Prop) (hd : deps.length = ops.length)
    (hs : ∀ S i f m, I S f m → i < deps.length → S i = false → (∀ j ∈ deps.getD i [], S j = true) → ∃ o, ops[i]? = some o ∧ ∀ K : AEx → Regs → Mem → Prop, (∀ f1 m1, I (fun j => S j || decide (j = i)) f1 m1 → K .normal f1 m1) → (∀ v f1 m1, L (.pan v) f1 m1 → K (.pan v) f1 m1) → goOps P [o] f m K)
    (hL : ∀ S f m, I S f m → (∀ j, j < deps.length → S j = true) → L .normal f m) :
    ∀ (n mask : Nat) (f : Regs) (m : Mem), n = lefts ops.length mask → I (fun j => mask.testBit j) f m → goTree P ops deps conf n mask f m L := by
  intro n
  induction n with
  | zero =>
    intro mask f m hn hi
    refine hL _ f m hi fun j hj => ?_
    have := List.countP_eq_zero.1 hn.symm j (List.mem_range.2 (by omega))
    simpa using this
  | succ n ih =>
    intro mask f m hn hi
    show allP (nextL deps conf mask) _
    rw [allP_iff]
    intro i hmem
    obtain ⟨h1, h2, h3⟩ := next_ready hmem
    obtain ⟨o, ho, hK⟩ := hs _ i f m hi h1 h2 h3
    rw [ho]
    refine hK _ (fun f1 m1 h4 => ?_) (fun v f1 m1 h => h)
    refine ih (mask ||| 2 ^ i) f1 m1 ?_ ?_
    · have := lefts_set (n := ops.length) (by omega) h2
      omega
    · have e : (fun j => (mask ||| 2 ^ i).testBit j) = fun j => mask.testBit j || decide (j = i) := by
        funext j
        simp only [Nat.testBit_or, Nat.testBit_two_pow]
        congr 1
        exact decide_eq_decide.2 ⟨fun h => h.symm, fun h => h.symm⟩
      rw [e]
      exact h4

/-- What the slots hold of the operations that are done. -/
def Held (vals : List (Nat × Nat × Value)) (S : Nat → Bool) (f : Regs) : Prop := ∀ p ∈ vals, S p.1 = true → f p.2.1 = p.2.2
theorem Held.step {vals : List (Nat × Nat × Value)} {S : Nat → Bool} {f : Regs} {i r : Nat} {v : Value} (h : Held vals S f) (hr : ∀ p ∈ vals, (p.1 = i → p.2.1 = r ∧ p.2.2 = v) ∧ (p.1 ≠ i → p.2.1 ≠ r)) : Held vals (fun j => S j || decide (j = i)) (putR f (some r) v) := by
  intro p hp hs
  obtain ⟨h1, h2⟩ := hr p hp
  by_cases hi : p.1 = i
  · obtain ⟨e1, e2⟩ := h1 hi
    rw [e1, e2]; simp [putR]
  · simp only [hi, decide_false, Bool.or_false] at hs
    have := h2 hi
    simp only [putR, if_neg this]
    exact h p hp hs
theorem Held.at {vals : List (Nat × Nat × Value)} {S : Nat → Bool} {f : Regs} (h : Held vals S f) {p : Nat × Nat × Value} (j : Nat) (hj : vals[j]? = some p) (hs : S p.1 = true) : f p.2.1 = p.2.2 := h p (List.mem_of_getElem? hj) hs
theorem Held.nostep {vals : List (Nat × Nat × Value)} {S : Nat → Bool} {f : Regs} {i : Nat} (h : Held vals S f) (hr : ∀ p ∈ vals, p.1 ≠ i) : Held vals (fun j => S j || decide (j = i)) f := by
  intro p hp hs
  simp only [hr p hp, decide_false, Bool.or_false] at hs
  exact h p hp hs

/-! ### A slice that is handed on -/
theorem Grow.bar {nx b b' x g e A n l} (h : Grow nx b x g e A n l) (hb : b' ≤ b) : Grow nx b' x g e A n l := by
  rcases h with ⟨h1, h2⟩ | h
  · refine .inl ⟨h1, ?_⟩
    rcases h2 with h2 | ⟨q, e1, e2, e3, e4, e5⟩
    · exact .inl h2
    · exact .inr ⟨q, e1, e2, e3, by omega, e5⟩
  · exact .inr h
theorem Grow.low {nx nx' b x g e A n l} (h : Grow nx b x g e A n l) (hb : nx' ≤ nx) : Grow nx' b x g e A n l := by
  rcases h with ⟨h1, h2⟩ | h
  · refine .inl ⟨h1, ?_⟩
    rcases h2 with h2 | ⟨q, e1, e2, e3, e4, e5⟩
    · exact .inl h2
    · exact .inr ⟨q, e1, by omega, e3, e4, e5⟩
  · exact .inr h

/-- Something is put behind it: a new block; of the others at most its own is gone. -/
theorem grow_fresh {nx b x n k e bytes : Nat} {g : Nat → Option Blk} {A : Option Addr} {l news : List Value} {K : Value → Mem → Prop} (h : Grow nx b x g e A n l) (he : 0 < e) (hk : 0 < k) (hl : news.length = k * e)
    (hv : ∀ v ∈ news, cellVal v = true) (hs : (n + k) * bytes ≤ 140737488355328) (hs' : n + k ≤ 9223372036854775807)
    (hK : ∀ g', (∀ i, i < x → (∀ a e, A = some a → a.spot = some e → a.block ≠ i) → g' i = g i) → g' x = some (.cells (l ++ news) false) → K (.slice (some ⟨x, 0, some e⟩) (n + k) (n + k)) ⟨x + 1, b, g'⟩) :
    appendK e bytes ⟨x, b, g⟩ A n n k news K := by
  have hr : rowOf ⟨x, b, g⟩ A (n * e) = some l := h.row.rowOf
  unfold appendK
  refine ⟨hl, he, hv, ?_⟩
  rw [if_neg (by omega)]
  refine ⟨hs, hs', ?_⟩
  rw [hr]
  rcases h with ⟨h1, h2⟩ | ⟨h1, h2, a, rfl, h3⟩
  · rcases h2 with ⟨rfl, rfl⟩ | ⟨q, rfl, e2, e3, e4, e5⟩
    · exact hK (upd g x (some (.cells (l ++ news) false))) (fun i hi _ => by simp only [upd_e]; rw [if_neg (by omega)]) (by simp only [upd_e, if_true])
    · refine ⟨rfl, e4, ⟨_, e5⟩, ?_⟩
      exact hK (upd (upd g q none) x (some (.cells (l ++ news) false))) (fun i hi hq => by
        have := hq _ _ rfl rfl
        simp only at this
        simp only [upd_e]; rw [if_neg (by omega), if_neg (fun h => this h.symm)]) (by simp only [upd_e, if_true])
  · simp only [h3]
    exact hK (upd g x (some (.cells (l ++ news) false))) (fun i hi _ => by simp only [upd_e]; rw [if_neg (by omega)]) (by simp only [upd_e, if_true])
theorem Grow.own {nx b x q n e : Nat} {g : Nat → Option Blk} {l : List Value} (hl : l.length = n * e) (h1 : nx ≤ q) (h2 : q < x) (h3 : b ≤ q) (h4 : g q = some (.cells l false)) : Grow nx b x g e (some ⟨q, 0, some e⟩) n l :=
  .inl ⟨hl, .inr ⟨q, rfl, h1, h2, h3, h4⟩⟩
theorem Grow.blk {nx b x g e A n l} (h : Grow nx b x g e A n l) : ∀ a e', A = some a → a.spot = some e' → nx ≤ a.block ∧ a.block < x := by
  intro a e' ha hs
  rcases h with ⟨h1, h2⟩ | ⟨h1, h2, a', rfl, h3⟩
  · rcases h2 with ⟨rfl, _⟩ | ⟨q, rfl, e2, e3, e4, e5⟩
    · cases ha
    · injection ha with ha; subst ha; exact ⟨e2, e3⟩
  · injection ha with ha; subst ha; rw [h3] at hs; cases hs

/-- A function that keeps what stands below base alone. -/
def Cb (P : Program) (g : Nat) (args : List Value) (base b nx : Nat) (gt : Nat → Option Blk) (C : Value → Nat → (Nat → Option Blk) → Prop) : Prop :=
  Fn P g args ⟨nx, b, gt⟩ fun res m' => ∃ v, res = .ret v ∧ m'.bar = b ∧ nx ≤ m'.next ∧ (∀ n, n < base → m'.get n = gt n) ∧ C v m'.next m'.get

theorem callB_of {P : Program} {g base : Nat} {args : List Value} {nx b : Nat} {gt : Nat → Option Blk} {C : Value → Nat → (Nat → Option Blk) → Prop} {d : Option Nat} {l : List RO} {f : Regs} {Q : AEx → Regs → Mem → Prop}
    (h : Cb P g args base b nx gt C) (k : ∀ v nx' gt', nx ≤ nx' → (∀ n, n < base → gt' n = gt n) → C v nx' gt' → goOps P l (putR f d v) ⟨nx', b, gt'⟩ Q) : callK P g args d l f ⟨nx, b, gt⟩ Q := by
  refine callK_fn h fun res m' hh => ?_
  obtain ⟨v, rfl, h1, h2, h3, h4⟩ := hh
  have := k v m'.next m'.get h2 h3 h4
  obtain ⟨a1, a2, a3⟩ := m'
  simp only at h1
  subst h1
  exact ⟨v, rfl, this⟩

def endB (rs : List RVar) (base b nx : Nat) (gt : Nat → Option Blk) (C : Value → Nat → (Nat → Option Blk) → Prop) (x : AEx) (f : Regs) (m' : Mem) : Prop :=
  (x = .normal ∨ x = .ret) ∧ asO (resVals f m' rs) fun vs => m'.bar = b ∧ nx ≤ m'.next ∧ (∀ n, n < base → m'.get n = gt n) ∧ C (oneOrTuple vs) m'.next m'.get
theorem endB_n {rs : List RVar} {base b nx : Nat} {gt : Nat → Option Blk} {C} {f : Regs} {nx' b' : Nat} {gt'} : endB rs base b nx gt C .normal f ⟨nx', b', gt'⟩ = asO (resVals f ⟨nx', b', gt'⟩ rs) fun vs => b' = b ∧ nx ≤ nx' ∧ (∀ n, n < base → gt' n = gt n) ∧ C (oneOrTuple vs) nx' gt' := by simp [endB]
theorem endB_r {rs : List RVar} {base b nx : Nat} {gt : Nat → Option Blk} {C} {f : Regs} {nx' b' : Nat} {gt'} : endB rs base b nx gt C .ret f ⟨nx', b', gt'⟩ = asO (resVals f ⟨nx', b', gt'⟩ rs) fun vs => b' = b ∧ nx ≤ nx' ∧ (∀ n, n < base → gt' n = gt n) ∧ C (oneOrTuple vs) nx' gt' := by simp [endB]

theorem Cb.of {P : Program} (hmx : P.follows .mixedOrders = true) {g base b : Nat} {rf : RFn} {T : List Nat} (h : resolveFn P g T = some rf) {args : List Value} (hn : args.length ≤ rf.n) {nx : Nat} {gt : Nat → Option Blk} {C : Value → Nat → (Nat → Option Blk) → Prop}
    (hv : rf.code.vc P (fun i => args.getD i undef) ⟨nx, b, gt⟩ (D P (.top (endB rf.results base b nx gt C)))) : Cb P g args base b nx gt C := by
  refine fn_sound hmx h hn ?_
  have e : D P (.top (endB rf.results base b nx gt C)) = retK rf.results fun res m' => ∃ v, res = .ret v ∧ m'.bar = b ∧ nx ≤ m'.next ∧ (∀ n, n < base → m'.get n = gt n) ∧ C v m'.next m'.get := by
    funext x f m'
    cases x <;> simp [D, endB, retK, asO] <;> (cases resVals f m' rf.results <;> simp)
  rw [← e]
  exact hv
end Go.Ga

/- An element's bytes: the document's answer. -/
namespace Go.Ga
open Go Go.Proofs
set_option linter.unusedSimpArgs false
set_option linter.unusedVariables false
set_option maxRecDepth 100000
attribute [local irreducible] appendK



theorem ct_lay : ∀ (x : Fo.El), x.f.ws < 1000000000 → x.f.rs → ∀ (nx : Nat) (gt : Nat → Option Blk) (B : Option Addr) (m d : Nat) (A : Option Addr) (n c : Nat) (ks : List Value), NdR nx gt x B m d A n c ks →
    Ct Try.prog 26 [nodeV x.t B m d A n c] nx gt fun v x' g => ∃ (A' : Option Addr) (N : Nat), v = .slice A' N N ∧ x.f.ly.length = N ∧ Row x' g 1 A' N (x.f.ly.map u8V) := by
  refine Fo.el_ind fun x ih hw hrs nx gt B m d A n c ks h => ?_
  refine Ct.of hmx r_lanyardref04_lay (by simp [c_lanyardref04_lay]) fun b hb => ?_
  have hF : ∀ q, q < nx → upd gt nx (some (.cells (nodeL x.t B m d A n c) false)) q = gt q := fun q hq => by simp only [upd_e]; rw [if_neg (by omega)]
  have hb0 : upd gt nx (some (.cells (nodeL x.t B m d A n c) false)) nx = some (.cells (nodeL x.t B m d A n c) false) := by simp only [upd_e, if_true]
  have h0 := h.keep (x' := nx + 1) (by omega) hF
  have bw := Fo.bs_ws x.k
  have mw := Fo.ms_ws x.k
  have dw := Fo.ds_ws x.k
  have lw := Fo.len_ws x.k
  have xw : x.f.ws = 1 + x.b.length + x.k.ws := by simp only [Fo.El.f, Fo.ws]; omega
  have hl := h.blen
  have hkl := h.len
  obtain ⟨⟨⟨ht0, ht1, ht2⟩, hr2, hr3⟩, hkr⟩ := (rs_El x).1 hrs
  have hnn : (nx = nx + 1) = False := by simp
  have hF1 : ∀ q, q < nx → upd (upd gt nx (some (.cells (nodeL x.t B m d A n c) false))) (nx + 1) (some (.cells [] false)) q = gt q := fun q hq => by simp only [upd_e]; rw [if_neg (by omega), if_neg (by omega)]
  have hb1 : upd (upd gt nx (some (.cells (nodeL x.t B m d A n c) false))) (nx + 1) (some (.cells [] false)) nx = some (.cells (nodeL x.t B m d A n c) false) := by simp only [upd_e, if_true]; rw [if_neg (by omega)]
  have hc1 : upd (upd gt nx (some (.cells (nodeL x.t B m d A n c) false))) (nx + 1) (some (.cells [] false)) (nx + 1) = some (.cells [] false) := by simp only [upd_e, if_true]
  have h1 := h.keep (x' := nx + 1 + 1) (by omega) hF1
  simp only [c_lanyardref04_lay, ↓gaW, ↓gaV, ↓gaC, ↓gaN, gaP, Nat.reduceEqDiff, Nat.reduceLeDiff, Nat.reduceAdd, Nat.reduceSub, Nat.reduceMul, Int.reduceLT, Int.reduceLE, Int.reduceEq, Int.reduceToNat, Int.reduceAdd, Int.reduceSub, Int.reduceMul, reduceCtorEq, ↓reduceIte, List.getD_cons_zero, List.getD_cons_succ, fillL, splice, List.take_zero, List.drop_zero, List.drop_succ_cons, List.take_succ_cons, List.drop_nil, List.take_nil, gaU, hnn]
  generalize upd (upd gt nx (some (.cells (nodeL x.t B m d A n c) false))) (nx + 1) (some (.cells [] false)) = g1 at *
  have e1 : rowOf ⟨nx + 1 + 1, b, g1⟩ B m = some (x.b.map u8V) := h1.body.rowOf
  have G1 : Grow (nx + 1) b (nx + 1 + 1) g1 1 (some ⟨nx + 1, 0, none⟩) 0 [] := Grow.lit (q := nx + 1) (ro := false) (by omega) hc1 rfl
  simp only [↓gaW, ↓gaV, ↓gaC, ↓gaN, gaP, Nat.reduceEqDiff, Nat.reduceLeDiff, Nat.reduceAdd, Nat.reduceSub, Nat.reduceMul, Int.reduceLT, Int.reduceLE, Int.reduceEq, Int.reduceToNat, Int.reduceAdd, Int.reduceSub, Int.reduceMul, reduceCtorEq, ↓reduceIte, hb1, nodeL, List.getD_cons_succ, List.getD_cons_zero, e1]
  repeat refine And.intro (by omega) ?_
  refine grow_app G1 (by omega) (by omega) (by omega) (by simp [hl]) (all_u8 _) (by omega) (by omega) fun A2 x2 g2 l2 k2 G2 => ?_
  rw [List.nil_append, Nat.zero_add] at G2
  simp only [↓gaW, ↓gaV, ↓gaC, ↓gaN, gaP, Nat.reduceEqDiff, Nat.reduceLeDiff, Nat.reduceAdd, Nat.reduceSub, Nat.reduceMul, Int.reduceLT, Int.reduceLE, Int.reduceEq, Int.reduceToNat, Int.reduceAdd, Int.reduceSub, Int.reduceMul, reduceCtorEq, ↓reduceIte]
  refine loop_of (fun j f mm => ∃ (i x3 N : Nat) (g : Nat → Option Blk) (A3 : Option Addr) (pre post : Fo), j = n - i ∧ i ≤ n ∧ x.k = pre.app post ∧ pre.len = i ∧ (x.b ++ pre.ly).length = N ∧ f 1 = .pointer (some ⟨nx, 0, none⟩) ∧ f 3 = .slice A3 N N ∧ f 4 = .int .i64 (i : Nat) ∧
      mm = ⟨x3, b, g⟩ ∧ nx + 1 ≤ x3 ∧ g nx = some (.cells (nodeL x.t B m d A n c) false) ∧ (∀ p, p < nx → g p = gt p) ∧ Grow (nx + 1) b x3 g 1 A3 N ((x.b ++ pre.ly).map u8V)) n
    ⟨0, x2, m, g2, A2, .nil, x.k, by omega, by omega, rfl, rfl, by simp [Fo.ly, hl], by first | (simp only [↓gaW, ↓gaV, ↓gaC, ↓gaN, gaP, Nat.reduceEqDiff, Nat.reduceLeDiff, Nat.reduceAdd, Nat.reduceSub, Nat.reduceMul, Int.reduceLT, Int.reduceLE, Int.reduceEq, Int.reduceToNat, Int.reduceAdd, Int.reduceSub, Int.reduceMul, reduceCtorEq, ↓reduceIte]; done) | (simp only [↓gaW, ↓gaV, ↓gaC, ↓gaN, gaP, Nat.reduceEqDiff, Nat.reduceLeDiff, Nat.reduceAdd, Nat.reduceSub, Nat.reduceMul, Int.reduceLT, Int.reduceLE, Int.reduceEq, Int.reduceToNat, Int.reduceAdd, Int.reduceSub, Int.reduceMul, reduceCtorEq, ↓reduceIte]; rfl), by simp only [↓gaW, ↓gaV, ↓gaC, ↓gaN, gaP, Nat.reduceEqDiff, Nat.reduceLeDiff, Nat.reduceAdd, Nat.reduceSub, Nat.reduceMul, Int.reduceLT, Int.reduceLE, Int.reduceEq, Int.reduceToNat, Int.reduceAdd, Int.reduceSub, Int.reduceMul, reduceCtorEq, ↓reduceIte, Nat.zero_add], by first | (simp only [↓gaW, ↓gaV, ↓gaC, ↓gaN, gaP, Nat.reduceEqDiff, Nat.reduceLeDiff, Nat.reduceAdd, Nat.reduceSub, Nat.reduceMul, Int.reduceLT, Int.reduceLE, Int.reduceEq, Int.reduceToNat, Int.reduceAdd, Int.reduceSub, Int.reduceMul, reduceCtorEq, ↓reduceIte]; done) | (simp only [↓gaW, ↓gaV, ↓gaC, ↓gaN, gaP, Nat.reduceEqDiff, Nat.reduceLeDiff, Nat.reduceAdd, Nat.reduceSub, Nat.reduceMul, Int.reduceLT, Int.reduceLE, Int.reduceEq, Int.reduceToNat, Int.reduceAdd, Int.reduceSub, Int.reduceMul, reduceCtorEq, ↓reduceIte]; rfl), rfl, by omega, by rw [k2 nx (by omega), hb1], fun p hp => by rw [k2 p (by omega), hF1 p hp], by simpa [Fo.ly] using G2⟩ ?_
  rintro j f mm ⟨i, x3, N, g3, A3, pre, post, hj, hi, e1, e2, eN, f1, f3, f4, rfl, hx3, hb3, F3, G3⟩
  have h2 := h.keep (x' := x3) (by omega) F3
  have lyw : ∀ F : Fo, F.rs → F.ly.length ≤ 4 * F.ws := fun F hF => by rw [Fo.ly_bs hF]; exact Fo.bs_ws F
  by_cases hin : (i : Int) < (n : Int)
  · skip
    obtain ⟨y, pre', post', B', m', d', A', n', c', ks', q1, q2, q3, q4⟩ := h2.kids.at (i := i) (by omega)
    obtain ⟨rfl, rfl⟩ := Fo.app_inj (e1.symm.trans q1) (by omega)
    obtain ⟨a, cl, ro, rfl, r2, r3, r4, r5⟩ := h2.row.cells (by omega)
    have hld := h2.row.load rfl r3 (j := i * 3) (k := 3) (by omega) (by omega)
    rw [q4] at hld
    have w1 : (pre.app y.f).ws + post'.ws = x.k.ws := by rw [q1, Fo.app_one, Fo.ws_app (pre.app y.f)]
    have w2 := Fo.bs_ws (pre.app y.f)
    have w3 := Fo.ms_ws (pre.app y.f)
    have w4 := Fo.ds_ws (pre.app y.f)
    rw [Fo.bs_app] at w2
    rw [Fo.ms_app] at w3
    rw [Fo.ds_app] at w4
    have i3 : IntKind.i64.wrap ((i : Int) + 1) = ((i + 1 : Nat) : Int) := by rw [i64_w _ (by omega)]; omega
    have hyr : (pre.rs ∧ y.f.rs) ∧ post'.rs := by rw [q1, Fo.app_one, Fo.rs_app (pre.app y.f), Fo.rs_app pre] at hkr; exact hkr
    have b1 := lyw (pre.app y.f) (by rw [Fo.rs_app]; exact hyr.1)
    rw [Fo.ly_app, List.length_append] at b1
    rw [List.length_append] at eN
    simp only [↓gaW, ↓gaV, ↓gaC, ↓gaN, gaP, Nat.reduceEqDiff, Nat.reduceLeDiff, Nat.reduceAdd, Nat.reduceSub, Nat.reduceMul, Int.reduceLT, Int.reduceLE, Int.reduceEq, Int.reduceToNat, Int.reduceAdd, Int.reduceSub, Int.reduceMul, reduceCtorEq, ↓reduceIte, List.getD_cons_zero, List.getD_cons_succ, fillL, splice, List.take_zero, List.drop_zero, List.drop_succ_cons, List.take_succ_cons, List.drop_nil, List.take_nil, f1, f3, f4, hb3, nodeL, List.getD_cons_succ, List.getD_cons_zero, hin, decide_true, r3, hld]
    repeat refine And.intro (by omega) ?_
    refine callK_of (ih pre y post' q1 (by have := Fo.ws_in q1; omega) hyr.1.2 _ _ _ _ _ _ _ _ _ q3) (fun v x4 g4 l4 k4 hC => ?_) (by omega)
    obtain ⟨A4, N4, rfl, n4, r4⟩ := hC
    have e4 : rowOf ⟨x4, b, g4⟩ A4 N4 = some (y.f.ly.map u8V) := r4.rowOf
    simp only [↓gaW, ↓gaV, ↓gaC, ↓gaN, gaP, Nat.reduceEqDiff, Nat.reduceLeDiff, Nat.reduceAdd, Nat.reduceSub, Nat.reduceMul, Int.reduceLT, Int.reduceLE, Int.reduceEq, Int.reduceToNat, Int.reduceAdd, Int.reduceSub, Int.reduceMul, reduceCtorEq, ↓reduceIte, e4]
    refine grow_app (G3.keep l4 k4) (by omega) (by omega) (by omega) (by simp [n4]) (all_u8 _) (by omega) (by omega) fun A5 x5 g5 l5 k5 G5 => ?_
    simp only [↓gaW, ↓gaV, ↓gaC, ↓gaN, gaP, Nat.reduceEqDiff, Nat.reduceLeDiff, Nat.reduceAdd, Nat.reduceSub, Nat.reduceMul, Int.reduceLT, Int.reduceLE, Int.reduceEq, Int.reduceToNat, Int.reduceAdd, Int.reduceSub, Int.reduceMul, reduceCtorEq, ↓reduceIte, f4, i3, loopK_n]
    exact ⟨n - (i + 1), by omega, i + 1, x5, N + N4, g5, A5, pre.app y.f, post', rfl, by omega, by rw [q1, Fo.app_one], by rw [Fo.len_app]; simp only [Fo.El.f, Fo.len]; omega, by rw [Fo.ly_app]; simp only [List.length_append]; omega, f1, rfl, rfl, rfl, by omega, by rw [k5 nx (by omega), k4 nx (by omega), hb3], fun p hp => by rw [k5 p (by omega), k4 p (by omega), F3 p hp], by rw [Fo.ly_app, ← List.append_assoc, List.map_append]; exact G5⟩
  · have e : pre.len = x.k.len := by omega
    obtain ⟨rfl, rfl⟩ := Fo.app_end e1 e
    have b1 := lyw x.k hkr
    have eN' := eN
    rw [List.length_append] at eN'
    simp only [↓gaW, ↓gaV, ↓gaC, ↓gaN, gaP, Nat.reduceEqDiff, Nat.reduceLeDiff, Nat.reduceAdd, Nat.reduceSub, Nat.reduceMul, Int.reduceLT, Int.reduceLE, Int.reduceEq, Int.reduceToNat, Int.reduceAdd, Int.reduceSub, Int.reduceMul, reduceCtorEq, ↓reduceIte, List.getD_cons_zero, List.getD_cons_succ, fillL, splice, List.take_zero, List.drop_zero, List.drop_succ_cons, List.take_succ_cons, List.drop_nil, List.take_nil, f1, f3, f4, hb3, nodeL, List.getD_cons_succ, List.getD_cons_zero, hin, decide_false, by8_w ht0]
    repeat refine And.intro (by omega) ?_
    have G4 : ∀ p, p < x3 → upd g3 x3 (some (Blk.cells [u8V (Fo.by8 x.t)] false)) p = g3 p := fun p hp => by simp only [upd_e]; rw [if_neg (by omega)]
    have hc4 : upd g3 x3 (some (Blk.cells [u8V (Fo.by8 x.t)] false)) x3 = some (.cells [u8V (Fo.by8 x.t)] false) := by simp only [upd_e, if_true]
    generalize upd g3 x3 (some (Blk.cells [u8V (Fo.by8 x.t)] false)) = g4 at *
    refine callQ_of (ct_rlength (n := N) (by omega)) (fun v x5 g5 l5 k5 hC => ?_)
    obtain ⟨A5, k, hk, rfl, r5⟩ := hC
    have e5 : ∀ bb, rowOf ⟨x5, bb, g5⟩ A5 k = some (((Fo.hb 0 N).drop 1).map u8V) := fun bb => r5.rowOf
    have hlen : ((Fo.hb 0 N).drop 1).length = k := by simpa using r5.len
    have G5 : Grow (x3 + 1) x5 x5 g5 1 (some ⟨x3, 0, none⟩) 1 [u8V (Fo.by8 x.t)] := Grow.lit (q := x3) (ro := false) (by omega) (by rw [k5 x3 (by omega), hc4]) rfl
    simp only [↓gaW, ↓gaV, ↓gaC, ↓gaN, gaP, Nat.reduceEqDiff, Nat.reduceLeDiff, Nat.reduceAdd, Nat.reduceSub, Nat.reduceMul, Int.reduceLT, Int.reduceLE, Int.reduceEq, Int.reduceToNat, Int.reduceAdd, Int.reduceSub, Int.reduceMul, reduceCtorEq, ↓reduceIte, Mem.raise, Mem.lower, e5]
    refine grow_app G5 (by omega) (by omega) (by omega) (by simpa using hlen) (all_u8 _) (by have := Fo.hn_le N; omega) (by have := Fo.hn_le N; omega) fun A6 x6 g6 l6 k6 G6 => ?_
    have r3 := (G3.keep (x' := x6) (g' := g6) (by omega) (fun p hp => by rw [k6 p (by omega), k5 p (by omega), G4 p hp])).row
    rw [Nat.mul_one] at r3
    have e6 : rowOf ⟨x6, b, g6⟩ A3 N = some ((x.b ++ x.k.ly).map u8V) := r3.rowOf
    simp only [↓gaW, ↓gaV, ↓gaC, ↓gaN, gaP, Nat.reduceEqDiff, Nat.reduceLeDiff, Nat.reduceAdd, Nat.reduceSub, Nat.reduceMul, Int.reduceLT, Int.reduceLE, Int.reduceEq, Int.reduceToNat, Int.reduceAdd, Int.reduceSub, Int.reduceMul, reduceCtorEq, ↓reduceIte, Mem.raise, Mem.lower, f3, e6]
    refine grow_app (bytes := 1) (G6.bar (b' := b) (by omega)) (by omega) (by omega) (by omega) (by rw [List.length_map, eN, Nat.mul_one]) (all_u8 _) (by have := Fo.hn_le N; omega) (by have := Fo.hn_le N; omega) fun A7 x7 g7 l7 k7 G7 => ?_
    have hfin : u8V (Fo.by8 x.t) :: ((Fo.hb 0 N).drop 1).map u8V ++ (x.b ++ x.k.ly).map u8V = x.f.ly.map u8V := by
      have e : x.f.ly = Fo.hb x.t N ++ (x.b ++ x.k.ly) := by simp only [Fo.El.f, Fo.ly, List.append_nil, eN]
      have e2 : Fo.hb x.t N = Fo.by8 x.t :: (Fo.hb 0 N).drop 1 := by
        unfold Fo.hb; split
        · rfl
        · split <;> rfl
      rw [e, e2]; simp
    rw [← hfin]
    simp only [↓gaW, ↓gaV, ↓gaC, ↓gaN, gaP, Nat.reduceEqDiff, Nat.reduceLeDiff, Nat.reduceAdd, Nat.reduceSub, Nat.reduceMul, Int.reduceLT, Int.reduceLE, Int.reduceEq, Int.reduceToNat, Int.reduceAdd, Int.reduceSub, Int.reduceMul, reduceCtorEq, ↓reduceIte, gaE, implies_true, Nat.le_refl, Int.sub_zero, Nat.sub_zero, Int.le_refl, true_or, or_true]
    have r7 := G7.row
    rw [Nat.mul_one] at r7
    refine ⟨by omega, fun p hp => by rw [k7 p (by omega), k6 p (by omega), k5 p (by omega), G4 p (by omega), F3 p hp], A7, 1 + k + N, rfl, ?_, by simpa using r7⟩
    have := r7.len
    have h8 := congrArg List.length hfin
    simp only [List.length_map, List.length_append, List.length_cons] at h8 this ⊢
    omega
end Go.Ga

/- An element's bytes, put behind others. -/
namespace Go.Ga
open Go Go.Proofs
set_option linter.unusedSimpArgs false
set_option linter.unusedVariables false
set_option maxRecDepth 100000
attribute [local irreducible] appendK


theorem cb_put : ∀ (x : Fo.El), x.f.ws < 1000000000 → x.f.rs → ∀ (base b nx : Nat) (gt : Nat → Option Blk) (B : Option Addr) (m d : Nat) (A : Option Addr) (n c : Nat) (ks : List Value) (O : Option Addr) (k : Nat) (l : List UInt8), NdR base gt x B m d A n c ks → b ≤ base → base ≤ nx → Grow base b nx gt 1 O k (l.map u8V) → k + x.f.bs ≤ 1000000000000 →
    Cb Try.prog 24 [.slice O k k, nodeV x.t B m d A n c] base b nx gt fun v x' g => ∃ (O' : Option Addr) (N : Nat), v = .slice O' N N ∧ N = k + x.f.bs ∧ Grow base b x' g 1 O' N ((l ++ x.f.ly).map u8V) := by
  refine Fo.el_ind fun x ih hw hrs base b nx gt B m d A n c ks O k l h hb hbn hG hk => ?_
  refine Cb.of hmx r_tlv_put (by simp [c_tlv_put]) ?_
  have hlen := Fo.ly_bs hrs
  have hF : ∀ q, q < nx → upd gt nx (some (.cells (nodeL x.t B m d A n c) false)) q = gt q := fun q hq => by simp only [upd_e]; rw [if_neg (by omega)]
  have hb0 : upd gt nx (some (.cells (nodeL x.t B m d A n c) false)) nx = some (.cells (nodeL x.t B m d A n c) false) := by simp only [upd_e, if_true]
  have bw := Fo.bs_ws x.k
  have mw := Fo.ms_ws x.k
  have dw := Fo.ds_ws x.k
  have lw := Fo.len_ws x.k
  have xw : x.f.ws = 1 + x.b.length + x.k.ws := by simp only [Fo.El.f, Fo.ws]; omega
  have hl := h.blen
  have hkl := h.len
  obtain ⟨⟨⟨ht0, ht1, ht2⟩, hr2, hr3⟩, hkr⟩ := (rs_El x).1 hrs
  have hnn : (nx = nx + 1) = False := by simp
  simp only [c_tlv_put, ↓gaW, ↓gaV, ↓gaC, ↓gaN, gaP, Nat.reduceEqDiff, Nat.reduceLeDiff, Nat.reduceAdd, Nat.reduceSub, Nat.reduceMul, Int.reduceLT, Int.reduceLE, Int.reduceEq, Int.reduceToNat, Int.reduceAdd, Int.reduceSub, Int.reduceMul, reduceCtorEq, ↓reduceIte, List.getD_cons_zero, List.getD_cons_succ, fillL, splice, List.take_zero, List.drop_zero, List.drop_succ_cons, List.take_succ_cons, List.drop_nil, List.take_nil, gaU]
  generalize upd gt nx (some (.cells (nodeL x.t B m d A n c) false)) = g0 at *
  repeat refine And.intro (by omega) ?_
  refine callK_of (ct_holds x.t) (fun v x1 g1 l1 k1 hC => ?_) (by omega)
  subst hC
  have hb1 : g1 nx = some (.cells (nodeL x.t B m d A n c) false) := by rw [k1 nx (by omega), hb0]
  have F1 : ∀ p, p < nx → g1 p = gt p := fun p hp => by rw [k1 p (by omega), hF p hp]
  have hG1 := hG.keep (x' := x1) (g' := g1) (by omega) F1
  cases hh : Fo.has x.t with
  | false =>
    simp only [↓gaW, ↓gaV, ↓gaC, ↓gaN, gaP, Nat.reduceEqDiff, Nat.reduceLeDiff, Nat.reduceAdd, Nat.reduceSub, Nat.reduceMul, Int.reduceLT, Int.reduceLE, Int.reduceEq, Int.reduceToNat, Int.reduceAdd, Int.reduceSub, Int.reduceMul, reduceCtorEq, ↓reduceIte, gaE, implies_true, Nat.le_refl, Int.sub_zero, Nat.sub_zero, Int.le_refl, true_or, or_true, List.getD_cons_zero, List.getD_cons_succ, fillL, splice, List.take_zero, List.drop_zero, List.drop_succ_cons, List.take_succ_cons, List.drop_nil, List.take_nil, Bool.not_false]
    have hkn := hr3 hh
    have ebs : x.f.bs = m + Fo.hn m := by simp only [Fo.El.f, Fo.bs, hh, hl]; rfl
    have ely : x.f.ly = Fo.hb x.t m ++ x.b := by simp only [Fo.El.f, Fo.ly, hkn, List.append_nil, hl]
    have hhn := Fo.hn_le m
    -- what the calls come to
    obtain ⟨res, M1, hC, hcall⟩ := Fn.det (ct_head (t := x.t) (n := m) (nx := x1) (gt := g1) ht0 (by omega) b (by omega)) (by show b ≤ x1; omega)
    obtain ⟨v, rfl, e1, e2, e3, A2, rfl, r2⟩ := hC
    obtain ⟨x2, b2, g2⟩ := M1
    simp only at e1 e2 e3 r2
    subst e1
    have hG2 := hG1.keep (x' := x2) (g' := g2) e2 e3
    have hb2 : g2 nx = some (.cells (nodeL x.t B m d A n c) false) := by rw [e3 nx (by omega), hb1]
    have F2 : ∀ p, p < nx → g2 p = gt p := fun p hp => by rw [e3 p (by omega), F1 p hp]
    have hlb : (Fo.hb x.t m).length = Fo.hn m := Fo.hb_len _ _
    obtain ⟨v3, M3, hC3, hap3⟩ := appendK_det (grow_fresh (e := 1) (bytes := 1) (k := Fo.hn m) (news := (Fo.hb x.t m).map u8V) (K := fun v M => v = .slice (some ⟨x2, 0, some 1⟩) (k + Fo.hn m) (k + Fo.hn m) ∧ ∃ g', M = ⟨x2 + 1, b2, g'⟩ ∧ (∀ i, i < x2 → (∀ a e, O = some a → a.spot = some e → a.block ≠ i) → g' i = g2 i) ∧ g' x2 = some (.cells (l.map u8V ++ (Fo.hb x.t m).map u8V) false))
      hG2 (by omega) (by omega) (by simp [hlb]) (all_u8 _) (by omega) (by omega) fun g' h1 h2 => ⟨rfl, g', rfl, h1, h2⟩)
    obtain ⟨rfl, g3, rfl, k3, c3⟩ := hC3
    have hO := hG.blk
    have hb3 : g3 nx = some (.cells (nodeL x.t B m d A n c) false) := by rw [k3 nx (by omega) (fun a e ha hs => by have := hO a e ha hs; omega), hb2]
    have F3 : ∀ p, p < base → g3 p = gt p := fun p hp => by rw [k3 p (by omega) (fun a e ha hs => by have := hO a e ha hs; omega), F2 p (by omega)]
    have hN3 := h.keep (x' := x2 + 1) (g := g3) (by omega) F3
    have hG3 : Grow (nx + 1) b2 (x2 + 1) g3 1 (some ⟨x2, 0, some 1⟩) (k + Fo.hn m) (l.map u8V ++ (Fo.hb x.t m).map u8V) := Grow.own (by have := hG.len; simp only [List.length_append, List.length_map, hlb] at this ⊢; omega) (by omega) (by omega) (by omega) c3
    obtain ⟨v4, M4, hC4, hap4⟩ := appendK_det (grow_app (e := 1) (bytes := 1) (k := m) (news := x.b.map u8V) (K := fun v M => ∃ A' x' g', v = .slice A' (k + Fo.hn m + m) (k + Fo.hn m + m) ∧ M = ⟨x', b2, g'⟩ ∧ x2 + 1 ≤ x' ∧ (∀ i, i < nx + 1 → g' i = g3 i) ∧ Grow (nx + 1) b2 x' g' 1 A' (k + Fo.hn m + m) (l.map u8V ++ (Fo.hb x.t m).map u8V ++ x.b.map u8V))
      hG3 (by omega) (by omega) (by omega) (by simp [hl]) (all_u8 _) (by omega) (by omega) fun A' x' g' h1 h2 h3 => ⟨A', x', g', rfl, rfl, h1, h2, h3⟩)
    obtain ⟨A4, x4, g4, rfl, rfl, l4, k4, hG4⟩ := hC4
    have hb4 : g4 nx = some (.cells (nodeL x.t B m d A n c) false) := by rw [k4 nx (by omega), hb3]
    refine vc_tree_same ⟨fun i => if i = 4 then .slice A4 (k + Fo.hn m + m) (k + Fo.hn m + m) else botV, ⟨x4, b2, g4⟩, ?_, ⟨rfl, by show x1 ≤ x4; omega, fun p hp => ?_⟩, ?_⟩
    · simp only [↓gaW, ↓gaV, ↓gaC, ↓gaN, gaP, Nat.reduceEqDiff, Nat.reduceLeDiff, Nat.reduceAdd, Nat.reduceSub, Nat.reduceMul, Int.reduceLT, Int.reduceLE, Int.reduceEq, Int.reduceToNat, Int.reduceAdd, Int.reduceSub, Int.reduceMul, reduceCtorEq, ↓reduceIte, endB_r, endB_n, res_nil, res_t]
      refine ⟨by omega, fun p hp => by rw [k4 p (by omega), F3 p hp], A4, _, rfl, by omega, ?_⟩
      rw [ely, List.map_append, List.map_append, ← List.append_assoc]
      exact hG4.low (by omega)
    · have hp' : p < base := Nat.lt_of_lt_of_le hp hb
      show g4 p = g1 p
      rw [k4 p (by omega), F3 p hp', F1 p (by omega)]
    · skip
      refine tree_inv2 (fun S f mm => Held [(0, 17, .slice O k k), (1, 18, .pointer (some ⟨nx, 0, none⟩)), (2, 19, .int .i64 x.t), (3, 20, .pointer (some ⟨nx, 1, none⟩)), (4, 21, .slice B m d), (5, 22, .int .i64 (m : Nat)), (6, 23, .slice A2 (Fo.hn m) (Fo.hn m)), (7, 24, .slice (some ⟨x2, 0, some 1⟩) (k + Fo.hn m) (k + Fo.hn m)), (8, 25, .pointer (some ⟨nx, 1, none⟩)), (9, 26, .slice B m d), (10, 27, .slice A4 (k + Fo.hn m + m) (k + Fo.hn m + m)), (11, 4, .slice A4 (k + Fo.hn m + m) (k + Fo.hn m + m))] S f ∧
        f 0 = .slice O k k ∧ f 3 = .pointer (some ⟨nx, 0, none⟩) ∧ (S 7 = true → S 6 = true) ∧ (S 10 = true → S 7 = true) ∧ mm = if S 10 then ⟨x4, b2, g4⟩ else if S 7 then ⟨x2 + 1, b2, g3⟩ else if S 6 then ⟨x2, b2, g2⟩ else ⟨x1, b2, g1⟩) rfl ?_ ?_ _ _ _ _ (by rw [lefts_zero]) ?_
      · rintro S i f mm ⟨h1, h2, h3, h4, h5, hmm⟩ hi hSi hdeps
        have hbm : mm.get nx = some (.cells (nodeL x.t B m d A n c) false) := by
          rw [hmm]
          split
          · exact hb4
          · split
            · exact hb3
            · split
              · exact hb2
              · exact hb1
        have hi' : i < 12 := hi
        rcases i with _ | _ | _ | _ | _ | _ | _ | _ | _ | _ | _ | _ | i
        · refine ⟨_, rfl, fun K hK _ => ?_⟩
          simp only [↓gaW, ↓gaV, ↓gaC, ↓gaN, gaP, Nat.reduceEqDiff, Nat.reduceLeDiff, Nat.reduceAdd, Nat.reduceSub, Nat.reduceMul, Int.reduceLT, Int.reduceLE, Int.reduceEq, Int.reduceToNat, Int.reduceAdd, Int.reduceSub, Int.reduceMul, reduceCtorEq, ↓reduceIte, h2]
          exact hK _ _ ⟨h1.step (by simp), by simp only [↓gaW, ↓gaV, ↓gaC, ↓gaN, gaP, Nat.reduceEqDiff, Nat.reduceLeDiff, Nat.reduceAdd, Nat.reduceSub, Nat.reduceMul, Int.reduceLT, Int.reduceLE, Int.reduceEq, Int.reduceToNat, Int.reduceAdd, Int.reduceSub, Int.reduceMul, reduceCtorEq, ↓reduceIte, h2], by simp only [↓gaW, ↓gaV, ↓gaC, ↓gaN, gaP, Nat.reduceEqDiff, Nat.reduceLeDiff, Nat.reduceAdd, Nat.reduceSub, Nat.reduceMul, Int.reduceLT, Int.reduceLE, Int.reduceEq, Int.reduceToNat, Int.reduceAdd, Int.reduceSub, Int.reduceMul, reduceCtorEq, ↓reduceIte, h3], by simpa using h4, by simpa using h5, by simpa using hmm⟩
        · refine ⟨_, rfl, fun K hK _ => ?_⟩
          simp only [↓gaW, ↓gaV, ↓gaC, ↓gaN, gaP, Nat.reduceEqDiff, Nat.reduceLeDiff, Nat.reduceAdd, Nat.reduceSub, Nat.reduceMul, Int.reduceLT, Int.reduceLE, Int.reduceEq, Int.reduceToNat, Int.reduceAdd, Int.reduceSub, Int.reduceMul, reduceCtorEq, ↓reduceIte, h3]
          exact hK _ _ ⟨h1.step (by simp), by simp only [↓gaW, ↓gaV, ↓gaC, ↓gaN, gaP, Nat.reduceEqDiff, Nat.reduceLeDiff, Nat.reduceAdd, Nat.reduceSub, Nat.reduceMul, Int.reduceLT, Int.reduceLE, Int.reduceEq, Int.reduceToNat, Int.reduceAdd, Int.reduceSub, Int.reduceMul, reduceCtorEq, ↓reduceIte, h2], by simp only [↓gaW, ↓gaV, ↓gaC, ↓gaN, gaP, Nat.reduceEqDiff, Nat.reduceLeDiff, Nat.reduceAdd, Nat.reduceSub, Nat.reduceMul, Int.reduceLT, Int.reduceLE, Int.reduceEq, Int.reduceToNat, Int.reduceAdd, Int.reduceSub, Int.reduceMul, reduceCtorEq, ↓reduceIte, h3], by simpa using h4, by simpa using h5, by simpa using hmm⟩
        · refine ⟨_, rfl, fun K hK _ => ?_⟩
          have q := h1.at 1 rfl (hdeps 1 (by decide))
          simp only at q
          simp only [↓gaW, ↓gaV, ↓gaC, ↓gaN, gaP, Nat.reduceEqDiff, Nat.reduceLeDiff, Nat.reduceAdd, Nat.reduceSub, Nat.reduceMul, Int.reduceLT, Int.reduceLE, Int.reduceEq, Int.reduceToNat, Int.reduceAdd, Int.reduceSub, Int.reduceMul, reduceCtorEq, ↓reduceIte, q, hbm, nodeL, List.getD_cons_zero, List.getD_cons_succ]
          repeat refine And.intro (by omega) ?_
          exact hK _ _ ⟨h1.step (by simp), by simp only [↓gaW, ↓gaV, ↓gaC, ↓gaN, gaP, Nat.reduceEqDiff, Nat.reduceLeDiff, Nat.reduceAdd, Nat.reduceSub, Nat.reduceMul, Int.reduceLT, Int.reduceLE, Int.reduceEq, Int.reduceToNat, Int.reduceAdd, Int.reduceSub, Int.reduceMul, reduceCtorEq, ↓reduceIte, h2], by simp only [↓gaW, ↓gaV, ↓gaC, ↓gaN, gaP, Nat.reduceEqDiff, Nat.reduceLeDiff, Nat.reduceAdd, Nat.reduceSub, Nat.reduceMul, Int.reduceLT, Int.reduceLE, Int.reduceEq, Int.reduceToNat, Int.reduceAdd, Int.reduceSub, Int.reduceMul, reduceCtorEq, ↓reduceIte, h3], by simpa using h4, by simpa using h5, by simpa using hmm⟩
        · refine ⟨_, rfl, fun K hK _ => ?_⟩
          simp only [↓gaW, ↓gaV, ↓gaC, ↓gaN, gaP, Nat.reduceEqDiff, Nat.reduceLeDiff, Nat.reduceAdd, Nat.reduceSub, Nat.reduceMul, Int.reduceLT, Int.reduceLE, Int.reduceEq, Int.reduceToNat, Int.reduceAdd, Int.reduceSub, Int.reduceMul, reduceCtorEq, ↓reduceIte, h3]
          exact hK _ _ ⟨h1.step (by simp), by simp only [↓gaW, ↓gaV, ↓gaC, ↓gaN, gaP, Nat.reduceEqDiff, Nat.reduceLeDiff, Nat.reduceAdd, Nat.reduceSub, Nat.reduceMul, Int.reduceLT, Int.reduceLE, Int.reduceEq, Int.reduceToNat, Int.reduceAdd, Int.reduceSub, Int.reduceMul, reduceCtorEq, ↓reduceIte, h2], by simp only [↓gaW, ↓gaV, ↓gaC, ↓gaN, gaP, Nat.reduceEqDiff, Nat.reduceLeDiff, Nat.reduceAdd, Nat.reduceSub, Nat.reduceMul, Int.reduceLT, Int.reduceLE, Int.reduceEq, Int.reduceToNat, Int.reduceAdd, Int.reduceSub, Int.reduceMul, reduceCtorEq, ↓reduceIte, h3], by simpa using h4, by simpa using h5, by simpa using hmm⟩
        · refine ⟨_, rfl, fun K hK _ => ?_⟩
          have q := h1.at 3 rfl (hdeps 3 (by decide))
          simp only at q
          simp only [↓gaW, ↓gaV, ↓gaC, ↓gaN, gaP, Nat.reduceEqDiff, Nat.reduceLeDiff, Nat.reduceAdd, Nat.reduceSub, Nat.reduceMul, Int.reduceLT, Int.reduceLE, Int.reduceEq, Int.reduceToNat, Int.reduceAdd, Int.reduceSub, Int.reduceMul, reduceCtorEq, ↓reduceIte, q, hbm, nodeL, List.getD_cons_zero, List.getD_cons_succ]
          repeat refine And.intro (by omega) ?_
          exact hK _ _ ⟨h1.step (by simp), by simp only [↓gaW, ↓gaV, ↓gaC, ↓gaN, gaP, Nat.reduceEqDiff, Nat.reduceLeDiff, Nat.reduceAdd, Nat.reduceSub, Nat.reduceMul, Int.reduceLT, Int.reduceLE, Int.reduceEq, Int.reduceToNat, Int.reduceAdd, Int.reduceSub, Int.reduceMul, reduceCtorEq, ↓reduceIte, h2], by simp only [↓gaW, ↓gaV, ↓gaC, ↓gaN, gaP, Nat.reduceEqDiff, Nat.reduceLeDiff, Nat.reduceAdd, Nat.reduceSub, Nat.reduceMul, Int.reduceLT, Int.reduceLE, Int.reduceEq, Int.reduceToNat, Int.reduceAdd, Int.reduceSub, Int.reduceMul, reduceCtorEq, ↓reduceIte, h3], by simpa using h4, by simpa using h5, by simpa using hmm⟩
        · refine ⟨_, rfl, fun K hK _ => ?_⟩
          have q := h1.at 4 rfl (hdeps 4 (by decide))
          simp only at q
          simp only [↓gaW, ↓gaV, ↓gaC, ↓gaN, gaP, Nat.reduceEqDiff, Nat.reduceLeDiff, Nat.reduceAdd, Nat.reduceSub, Nat.reduceMul, Int.reduceLT, Int.reduceLE, Int.reduceEq, Int.reduceToNat, Int.reduceAdd, Int.reduceSub, Int.reduceMul, reduceCtorEq, ↓reduceIte, q]
          exact hK _ _ ⟨h1.step (by simp), by simp only [↓gaW, ↓gaV, ↓gaC, ↓gaN, gaP, Nat.reduceEqDiff, Nat.reduceLeDiff, Nat.reduceAdd, Nat.reduceSub, Nat.reduceMul, Int.reduceLT, Int.reduceLE, Int.reduceEq, Int.reduceToNat, Int.reduceAdd, Int.reduceSub, Int.reduceMul, reduceCtorEq, ↓reduceIte, h2], by simp only [↓gaW, ↓gaV, ↓gaC, ↓gaN, gaP, Nat.reduceEqDiff, Nat.reduceLeDiff, Nat.reduceAdd, Nat.reduceSub, Nat.reduceMul, Int.reduceLT, Int.reduceLE, Int.reduceEq, Int.reduceToNat, Int.reduceAdd, Int.reduceSub, Int.reduceMul, reduceCtorEq, ↓reduceIte, h3], by simpa using h4, by simpa using h5, by simpa using hmm⟩
        · refine ⟨_, rfl, fun K hK _ => ?_⟩
          have q := h1.at 2 rfl (hdeps 2 (by decide))
          have q2 := h1.at 5 rfl (hdeps 5 (by decide))
          simp only at q q2
          have s7 : S 7 = false := by cases h : S 7 with | false => rfl | true => rw [h4 h] at hSi; cases hSi
          have s10 : S 10 = false := by cases h : S 10 with | false => rfl | true => rw [h5 h] at s7; cases s7
          rw [hSi, s7, s10] at hmm
          simp only [Bool.false_eq_true, if_false] at hmm
          subst hmm
          simp only [↓gaW, ↓gaV, ↓gaC, ↓gaN, gaP, Nat.reduceEqDiff, Nat.reduceLeDiff, Nat.reduceAdd, Nat.reduceSub, Nat.reduceMul, Int.reduceLT, Int.reduceLE, Int.reduceEq, Int.reduceToNat, Int.reduceAdd, Int.reduceSub, Int.reduceMul, reduceCtorEq, ↓reduceIte, q, q2]
          refine callK_det hcall ?_
          simp only [↓gaW, ↓gaV, ↓gaC, ↓gaN, gaP, Nat.reduceEqDiff, Nat.reduceLeDiff, Nat.reduceAdd, Nat.reduceSub, Nat.reduceMul, Int.reduceLT, Int.reduceLE, Int.reduceEq, Int.reduceToNat, Int.reduceAdd, Int.reduceSub, Int.reduceMul, reduceCtorEq, ↓reduceIte]
          exact hK _ _ ⟨h1.step (by simp), by simp only [↓gaW, ↓gaV, ↓gaC, ↓gaN, gaP, Nat.reduceEqDiff, Nat.reduceLeDiff, Nat.reduceAdd, Nat.reduceSub, Nat.reduceMul, Int.reduceLT, Int.reduceLE, Int.reduceEq, Int.reduceToNat, Int.reduceAdd, Int.reduceSub, Int.reduceMul, reduceCtorEq, ↓reduceIte, h2], by simp only [↓gaW, ↓gaV, ↓gaC, ↓gaN, gaP, Nat.reduceEqDiff, Nat.reduceLeDiff, Nat.reduceAdd, Nat.reduceSub, Nat.reduceMul, Int.reduceLT, Int.reduceLE, Int.reduceEq, Int.reduceToNat, Int.reduceAdd, Int.reduceSub, Int.reduceMul, reduceCtorEq, ↓reduceIte, h3], by simp, by simpa using h5, by simp [s7, s10]⟩
        · refine ⟨_, rfl, fun K hK _ => ?_⟩
          have q := h1.at 0 rfl (hdeps 0 (by decide))
          have s6 := hdeps 6 (by decide)
          have q2 := h1.at 6 rfl s6
          simp only at q q2
          have s10 : S 10 = false := by cases h : S 10 with | false => rfl | true => rw [h5 h] at hSi; cases hSi
          rw [hSi, s6, s10] at hmm
          simp only [Bool.false_eq_true, if_false, if_true] at hmm
          subst hmm
          have e6 : rowOf ⟨x2, b2, g2⟩ A2 (Fo.hn m) = some ((Fo.hb x.t m).map u8V) := r2.rowOf
          simp only [↓gaW, ↓gaV, ↓gaC, ↓gaN, gaP, Nat.reduceEqDiff, Nat.reduceLeDiff, Nat.reduceAdd, Nat.reduceSub, Nat.reduceMul, Int.reduceLT, Int.reduceLE, Int.reduceEq, Int.reduceToNat, Int.reduceAdd, Int.reduceSub, Int.reduceMul, reduceCtorEq, ↓reduceIte, q, q2, e6]
          refine hap3 _ ?_
          exact hK _ _ ⟨h1.step (by simp), by simp only [↓gaW, ↓gaV, ↓gaC, ↓gaN, gaP, Nat.reduceEqDiff, Nat.reduceLeDiff, Nat.reduceAdd, Nat.reduceSub, Nat.reduceMul, Int.reduceLT, Int.reduceLE, Int.reduceEq, Int.reduceToNat, Int.reduceAdd, Int.reduceSub, Int.reduceMul, reduceCtorEq, ↓reduceIte, h2], by simp only [↓gaW, ↓gaV, ↓gaC, ↓gaN, gaP, Nat.reduceEqDiff, Nat.reduceLeDiff, Nat.reduceAdd, Nat.reduceSub, Nat.reduceMul, Int.reduceLT, Int.reduceLE, Int.reduceEq, Int.reduceToNat, Int.reduceAdd, Int.reduceSub, Int.reduceMul, reduceCtorEq, ↓reduceIte, h3], by simp [s6], by simp, by simp [s10]⟩
        · refine ⟨_, rfl, fun K hK _ => ?_⟩
          simp only [↓gaW, ↓gaV, ↓gaC, ↓gaN, gaP, Nat.reduceEqDiff, Nat.reduceLeDiff, Nat.reduceAdd, Nat.reduceSub, Nat.reduceMul, Int.reduceLT, Int.reduceLE, Int.reduceEq, Int.reduceToNat, Int.reduceAdd, Int.reduceSub, Int.reduceMul, reduceCtorEq, ↓reduceIte, h3]
          exact hK _ _ ⟨h1.step (by simp), by simp only [↓gaW, ↓gaV, ↓gaC, ↓gaN, gaP, Nat.reduceEqDiff, Nat.reduceLeDiff, Nat.reduceAdd, Nat.reduceSub, Nat.reduceMul, Int.reduceLT, Int.reduceLE, Int.reduceEq, Int.reduceToNat, Int.reduceAdd, Int.reduceSub, Int.reduceMul, reduceCtorEq, ↓reduceIte, h2], by simp only [↓gaW, ↓gaV, ↓gaC, ↓gaN, gaP, Nat.reduceEqDiff, Nat.reduceLeDiff, Nat.reduceAdd, Nat.reduceSub, Nat.reduceMul, Int.reduceLT, Int.reduceLE, Int.reduceEq, Int.reduceToNat, Int.reduceAdd, Int.reduceSub, Int.reduceMul, reduceCtorEq, ↓reduceIte, h3], by simpa using h4, by simpa using h5, by simpa using hmm⟩
        · refine ⟨_, rfl, fun K hK _ => ?_⟩
          have q := h1.at 8 rfl (hdeps 8 (by decide))
          simp only at q
          simp only [↓gaW, ↓gaV, ↓gaC, ↓gaN, gaP, Nat.reduceEqDiff, Nat.reduceLeDiff, Nat.reduceAdd, Nat.reduceSub, Nat.reduceMul, Int.reduceLT, Int.reduceLE, Int.reduceEq, Int.reduceToNat, Int.reduceAdd, Int.reduceSub, Int.reduceMul, reduceCtorEq, ↓reduceIte, q, hbm, nodeL, List.getD_cons_zero, List.getD_cons_succ]
          repeat refine And.intro (by omega) ?_
          exact hK _ _ ⟨h1.step (by simp), by simp only [↓gaW, ↓gaV, ↓gaC, ↓gaN, gaP, Nat.reduceEqDiff, Nat.reduceLeDiff, Nat.reduceAdd, Nat.reduceSub, Nat.reduceMul, Int.reduceLT, Int.reduceLE, Int.reduceEq, Int.reduceToNat, Int.reduceAdd, Int.reduceSub, Int.reduceMul, reduceCtorEq, ↓reduceIte, h2], by simp only [↓gaW, ↓gaV, ↓gaC, ↓gaN, gaP, Nat.reduceEqDiff, Nat.reduceLeDiff, Nat.reduceAdd, Nat.reduceSub, Nat.reduceMul, Int.reduceLT, Int.reduceLE, Int.reduceEq, Int.reduceToNat, Int.reduceAdd, Int.reduceSub, Int.reduceMul, reduceCtorEq, ↓reduceIte, h3], by simpa using h4, by simpa using h5, by simpa using hmm⟩
        · refine ⟨_, rfl, fun K hK _ => ?_⟩
          have s7 := hdeps 7 (by decide)
          have q := h1.at 7 rfl s7
          have q2 := h1.at 9 rfl (hdeps 9 (by decide))
          simp only at q q2
          rw [hSi, s7] at hmm
          simp only [Bool.false_eq_true, if_false, if_true] at hmm
          subst hmm
          have e6 : rowOf ⟨x2 + 1, b2, g3⟩ B m = some (x.b.map u8V) := hN3.body.rowOf
          simp only [↓gaW, ↓gaV, ↓gaC, ↓gaN, gaP, Nat.reduceEqDiff, Nat.reduceLeDiff, Nat.reduceAdd, Nat.reduceSub, Nat.reduceMul, Int.reduceLT, Int.reduceLE, Int.reduceEq, Int.reduceToNat, Int.reduceAdd, Int.reduceSub, Int.reduceMul, reduceCtorEq, ↓reduceIte, q, q2, e6]
          refine hap4 _ ?_
          exact hK _ _ ⟨h1.step (by simp), by simp only [↓gaW, ↓gaV, ↓gaC, ↓gaN, gaP, Nat.reduceEqDiff, Nat.reduceLeDiff, Nat.reduceAdd, Nat.reduceSub, Nat.reduceMul, Int.reduceLT, Int.reduceLE, Int.reduceEq, Int.reduceToNat, Int.reduceAdd, Int.reduceSub, Int.reduceMul, reduceCtorEq, ↓reduceIte, h2], by simp only [↓gaW, ↓gaV, ↓gaC, ↓gaN, gaP, Nat.reduceEqDiff, Nat.reduceLeDiff, Nat.reduceAdd, Nat.reduceSub, Nat.reduceMul, Int.reduceLT, Int.reduceLE, Int.reduceEq, Int.reduceToNat, Int.reduceAdd, Int.reduceSub, Int.reduceMul, reduceCtorEq, ↓reduceIte, h3], by simpa using h4, by simp [s7], by simp⟩
        · refine ⟨_, rfl, fun K hK _ => ?_⟩
          have q := h1.at 10 rfl (hdeps 10 (by decide))
          simp only at q
          simp only [↓gaW, ↓gaV, ↓gaC, ↓gaN, gaP, Nat.reduceEqDiff, Nat.reduceLeDiff, Nat.reduceAdd, Nat.reduceSub, Nat.reduceMul, Int.reduceLT, Int.reduceLE, Int.reduceEq, Int.reduceToNat, Int.reduceAdd, Int.reduceSub, Int.reduceMul, reduceCtorEq, ↓reduceIte, q]
          exact hK _ _ ⟨h1.step (by simp), by simp only [↓gaW, ↓gaV, ↓gaC, ↓gaN, gaP, Nat.reduceEqDiff, Nat.reduceLeDiff, Nat.reduceAdd, Nat.reduceSub, Nat.reduceMul, Int.reduceLT, Int.reduceLE, Int.reduceEq, Int.reduceToNat, Int.reduceAdd, Int.reduceSub, Int.reduceMul, reduceCtorEq, ↓reduceIte, h2], by simp only [↓gaW, ↓gaV, ↓gaC, ↓gaN, gaP, Nat.reduceEqDiff, Nat.reduceLeDiff, Nat.reduceAdd, Nat.reduceSub, Nat.reduceMul, Int.reduceLT, Int.reduceLE, Int.reduceEq, Int.reduceToNat, Int.reduceAdd, Int.reduceSub, Int.reduceMul, reduceCtorEq, ↓reduceIte, h3], by simpa using h4, by simpa using h5, by simpa using hmm⟩
        · omega
      · rintro S f mm ⟨h1, h2, h3, h4, h5, rfl⟩ hall
        have s10 := hall 10 (by decide)
        have q := h1.at 11 rfl (hall 11 (by decide))
        simp only at q
        refine ⟨rfl, by rw [s10]; rfl, fun i => ?_⟩
        by_cases hi : i = 4
        · subst hi; exact .inl (by simp only [if_true, q])
        · exact .inr (by simp only [if_neg hi])
      · refine ⟨fun p hp hs => by simp at hs, by first | (simp only [↓gaW, ↓gaV, ↓gaC, ↓gaN, gaP, Nat.reduceEqDiff, Nat.reduceLeDiff, Nat.reduceAdd, Nat.reduceSub, Nat.reduceMul, Int.reduceLT, Int.reduceLE, Int.reduceEq, Int.reduceToNat, Int.reduceAdd, Int.reduceSub, Int.reduceMul, reduceCtorEq, ↓reduceIte]; done) | (simp only [↓gaW, ↓gaV, ↓gaC, ↓gaN, gaP, Nat.reduceEqDiff, Nat.reduceLeDiff, Nat.reduceAdd, Nat.reduceSub, Nat.reduceMul, Int.reduceLT, Int.reduceLE, Int.reduceEq, Int.reduceToNat, Int.reduceAdd, Int.reduceSub, Int.reduceMul, reduceCtorEq, ↓reduceIte]; rfl), by first | (simp only [↓gaW, ↓gaV, ↓gaC, ↓gaN, gaP, Nat.reduceEqDiff, Nat.reduceLeDiff, Nat.reduceAdd, Nat.reduceSub, Nat.reduceMul, Int.reduceLT, Int.reduceLE, Int.reduceEq, Int.reduceToNat, Int.reduceAdd, Int.reduceSub, Int.reduceMul, reduceCtorEq, ↓reduceIte]; done) | (simp only [↓gaW, ↓gaV, ↓gaC, ↓gaN, gaP, Nat.reduceEqDiff, Nat.reduceLeDiff, Nat.reduceAdd, Nat.reduceSub, Nat.reduceMul, Int.reduceLT, Int.reduceLE, Int.reduceEq, Int.reduceToNat, Int.reduceAdd, Int.reduceSub, Int.reduceMul, reduceCtorEq, ↓reduceIte]; rfl), by simp, by simp, by simp⟩
  | true =>
    simp only [↓gaW, ↓gaV, ↓gaC, ↓gaN, gaP, Nat.reduceEqDiff, Nat.reduceLeDiff, Nat.reduceAdd, Nat.reduceSub, Nat.reduceMul, Int.reduceLT, Int.reduceLE, Int.reduceEq, Int.reduceToNat, Int.reduceAdd, Int.reduceSub, Int.reduceMul, reduceCtorEq, ↓reduceIte, gaE, implies_true, Nat.le_refl, Int.sub_zero, Nat.sub_zero, Int.le_refl, true_or, or_true, List.getD_cons_zero, List.getD_cons_succ, fillL, splice, List.take_zero, List.drop_zero, List.drop_succ_cons, List.take_succ_cons, List.drop_nil, List.take_nil, Bool.not_true, hb1, nodeL, List.getD_cons_zero, List.getD_cons_succ, List.length_cons, List.length_nil]
    repeat refine And.intro (by omega) ?_
    have lyw : ∀ F : Fo, F.rs → F.ly.length = F.bs := fun F hF => Fo.ly_bs hF
    have hKN := h.keep (x' := base) (g := g1) (Nat.le_refl _) (fun p hp => F1 p (by omega))
    refine loop_of (fun j f mm => ∃ (i x2 : Nat) (g : Nat → Option Blk) (pre post : Fo), j = n - i ∧ i ≤ n ∧ x.k = pre.app post ∧ pre.len = i ∧ f 0 = .slice O k k ∧ f 3 = .pointer (some ⟨nx, 0, none⟩) ∧ f 5 = .int .i64 (pre.bs : Nat) ∧ f 29 = .slice A n c ∧ f 30 = .int .i64 (n : Nat) ∧ f 31 = .int .i64 (i : Nat) ∧
      mm = ⟨x2, b, g⟩ ∧ x1 ≤ x2 ∧ (∀ p, p < x1 → g p = g1 p)) n ⟨0, x1, g1, .nil, x.k, by omega, by omega, rfl, rfl, by first | (simp only [↓gaW, ↓gaV, ↓gaC, ↓gaN, gaP, Nat.reduceEqDiff, Nat.reduceLeDiff, Nat.reduceAdd, Nat.reduceSub, Nat.reduceMul, Int.reduceLT, Int.reduceLE, Int.reduceEq, Int.reduceToNat, Int.reduceAdd, Int.reduceSub, Int.reduceMul, reduceCtorEq, ↓reduceIte]; done) | (simp only [↓gaW, ↓gaV, ↓gaC, ↓gaN, gaP, Nat.reduceEqDiff, Nat.reduceLeDiff, Nat.reduceAdd, Nat.reduceSub, Nat.reduceMul, Int.reduceLT, Int.reduceLE, Int.reduceEq, Int.reduceToNat, Int.reduceAdd, Int.reduceSub, Int.reduceMul, reduceCtorEq, ↓reduceIte]; rfl), by first | (simp only [↓gaW, ↓gaV, ↓gaC, ↓gaN, gaP, Nat.reduceEqDiff, Nat.reduceLeDiff, Nat.reduceAdd, Nat.reduceSub, Nat.reduceMul, Int.reduceLT, Int.reduceLE, Int.reduceEq, Int.reduceToNat, Int.reduceAdd, Int.reduceSub, Int.reduceMul, reduceCtorEq, ↓reduceIte]; done) | (simp only [↓gaW, ↓gaV, ↓gaC, ↓gaN, gaP, Nat.reduceEqDiff, Nat.reduceLeDiff, Nat.reduceAdd, Nat.reduceSub, Nat.reduceMul, Int.reduceLT, Int.reduceLE, Int.reduceEq, Int.reduceToNat, Int.reduceAdd, Int.reduceSub, Int.reduceMul, reduceCtorEq, ↓reduceIte]; rfl), by first | (simp only [↓gaW, ↓gaV, ↓gaC, ↓gaN, gaP, Nat.reduceEqDiff, Nat.reduceLeDiff, Nat.reduceAdd, Nat.reduceSub, Nat.reduceMul, Int.reduceLT, Int.reduceLE, Int.reduceEq, Int.reduceToNat, Int.reduceAdd, Int.reduceSub, Int.reduceMul, reduceCtorEq, ↓reduceIte]; done) | (simp only [↓gaW, ↓gaV, ↓gaC, ↓gaN, gaP, Nat.reduceEqDiff, Nat.reduceLeDiff, Nat.reduceAdd, Nat.reduceSub, Nat.reduceMul, Int.reduceLT, Int.reduceLE, Int.reduceEq, Int.reduceToNat, Int.reduceAdd, Int.reduceSub, Int.reduceMul, reduceCtorEq, ↓reduceIte]; rfl), by first | (simp only [↓gaW, ↓gaV, ↓gaC, ↓gaN, gaP, Nat.reduceEqDiff, Nat.reduceLeDiff, Nat.reduceAdd, Nat.reduceSub, Nat.reduceMul, Int.reduceLT, Int.reduceLE, Int.reduceEq, Int.reduceToNat, Int.reduceAdd, Int.reduceSub, Int.reduceMul, reduceCtorEq, ↓reduceIte]; done) | (simp only [↓gaW, ↓gaV, ↓gaC, ↓gaN, gaP, Nat.reduceEqDiff, Nat.reduceLeDiff, Nat.reduceAdd, Nat.reduceSub, Nat.reduceMul, Int.reduceLT, Int.reduceLE, Int.reduceEq, Int.reduceToNat, Int.reduceAdd, Int.reduceSub, Int.reduceMul, reduceCtorEq, ↓reduceIte]; rfl), by first | (simp only [↓gaW, ↓gaV, ↓gaC, ↓gaN, gaP, Nat.reduceEqDiff, Nat.reduceLeDiff, Nat.reduceAdd, Nat.reduceSub, Nat.reduceMul, Int.reduceLT, Int.reduceLE, Int.reduceEq, Int.reduceToNat, Int.reduceAdd, Int.reduceSub, Int.reduceMul, reduceCtorEq, ↓reduceIte]; done) | (simp only [↓gaW, ↓gaV, ↓gaC, ↓gaN, gaP, Nat.reduceEqDiff, Nat.reduceLeDiff, Nat.reduceAdd, Nat.reduceSub, Nat.reduceMul, Int.reduceLT, Int.reduceLE, Int.reduceEq, Int.reduceToNat, Int.reduceAdd, Int.reduceSub, Int.reduceMul, reduceCtorEq, ↓reduceIte]; rfl), by first | (simp only [↓gaW, ↓gaV, ↓gaC, ↓gaN, gaP, Nat.reduceEqDiff, Nat.reduceLeDiff, Nat.reduceAdd, Nat.reduceSub, Nat.reduceMul, Int.reduceLT, Int.reduceLE, Int.reduceEq, Int.reduceToNat, Int.reduceAdd, Int.reduceSub, Int.reduceMul, reduceCtorEq, ↓reduceIte]; done) | (simp only [↓gaW, ↓gaV, ↓gaC, ↓gaN, gaP, Nat.reduceEqDiff, Nat.reduceLeDiff, Nat.reduceAdd, Nat.reduceSub, Nat.reduceMul, Int.reduceLT, Int.reduceLE, Int.reduceEq, Int.reduceToNat, Int.reduceAdd, Int.reduceSub, Int.reduceMul, reduceCtorEq, ↓reduceIte]; rfl), rfl, by omega, fun _ _ => rfl⟩ ?_
    rintro j f mm ⟨i, x2, g2, pre, post, hj, hi, e1, e2, f0, f3, f5, f29, f30, f31, rfl, hx2, F2⟩
    have h2 := hKN.keep (x' := base) (g := g2) (Nat.le_refl _) (fun p hp => F2 p (by omega))
    by_cases hin : (i : Int) < (n : Int)
    · obtain ⟨y, pre', post', B', m', d', A', n', c', ks', q1, q2, q3, q4⟩ := h2.kids.at (i := i) (by omega)
      obtain ⟨rfl, rfl⟩ := Fo.app_inj (e1.symm.trans q1) (by omega)
      obtain ⟨a, cl, ro, rfl, r2, r3, r4, r5⟩ := h2.row.cells (by omega)
      have hld := h2.row.load rfl r3 (j := i * 3) (k := 3) (by omega) (by omega)
      rw [q4] at hld
      have w1 : (pre.app y.f).ws + post'.ws = x.k.ws := by rw [q1, Fo.app_one, Fo.ws_app (pre.app y.f)]
      have w2 := Fo.bs_ws (pre.app y.f)
      rw [Fo.bs_app] at w2
      have i1 : IntKind.i64.wrap ((pre.bs : Int) + (y.f.bs : Int)) = ((pre.bs + y.f.bs : Nat) : Int) := by rw [i64_w _ (by omega)]; omega
      have i3 : IntKind.i64.wrap ((i : Int) + 1) = ((i + 1 : Nat) : Int) := by rw [i64_w _ (by omega)]; omega
      simp only [↓gaW, ↓gaV, ↓gaC, ↓gaN, gaP, Nat.reduceEqDiff, Nat.reduceLeDiff, Nat.reduceAdd, Nat.reduceSub, Nat.reduceMul, Int.reduceLT, Int.reduceLE, Int.reduceEq, Int.reduceToNat, Int.reduceAdd, Int.reduceSub, Int.reduceMul, reduceCtorEq, ↓reduceIte, List.getD_cons_zero, List.getD_cons_succ, fillL, splice, List.take_zero, List.drop_zero, List.drop_succ_cons, List.take_succ_cons, List.drop_nil, List.take_nil, f29, f30, f31, hin, decide_true, r3, hld, nodeL]
      refine And.intro (by omega) (And.intro (by omega) (And.intro (by omega) (And.intro (node_cells _ _ _ _ _ _ _) ?_)))
      obtain ⟨g, hg⟩ : ∃ g, g = upd (upd g2 x2 (some (.cells [Value.int .i64 0, .slice none 0 0, .slice none 0 0] false))) x2 (some (.cells (nodeL y.t B' m' d' A' n' c') false)) := ⟨_, rfl⟩
      have G : ∀ p, p < x2 → g p = g2 p := fun p hp => by rw [hg]; simp only [upd_e]; rw [if_neg (by omega), if_neg (by omega)]
      have h3 := q3.keep (x' := x2 + 1) (by omega) (fun p hp => G p (by omega))
      rw [← hg]; clear hg
      refine callK_of (ct_Size y (by have := Fo.ws_in q1; omega) _ _ _ _ _ _ _ _ _ h3) (fun v x3 g3 l3 k3 hC => ?_) (by omega)
      subst hC
      simp only [↓gaW, ↓gaV, ↓gaC, ↓gaN, gaP, Nat.reduceEqDiff, Nat.reduceLeDiff, Nat.reduceAdd, Nat.reduceSub, Nat.reduceMul, Int.reduceLT, Int.reduceLE, Int.reduceEq, Int.reduceToNat, Int.reduceAdd, Int.reduceSub, Int.reduceMul, reduceCtorEq, ↓reduceIte, gaE, implies_true, Nat.le_refl, Int.sub_zero, Nat.sub_zero, Int.le_refl, true_or, or_true, f5, f31, i1, i3, loopK_n]
      repeat refine And.intro (by omega) ?_
      exact ⟨n - (i + 1), by omega, i + 1, x3, g3, pre.app y.f, post', rfl, by omega, by rw [q1, Fo.app_one], by rw [Fo.len_app]; simp only [Fo.El.f, Fo.len]; omega, f0, f3, by rw [Fo.bs_app], f29, f30, rfl, rfl, by omega, fun p hp => by rw [k3 p (by omega), G p (by omega), F2 p hp]⟩
    have e : pre.len = x.k.len := by omega
    obtain ⟨rfl, rfl⟩ := Fo.app_end e1 e
    have hb2 : g2 nx = some (.cells (nodeL x.t B m d A n c) false) := by rw [F2 nx (by omega), hb1]
    have hG2 := hG1.keep (x' := x2) (g' := g2) hx2 F2
    have ebs : x.f.bs = x.k.bs + Fo.hn x.k.bs := by simp only [Fo.El.f, Fo.bs, hh]; rfl
    have hbn := hr2 hh
    have ely : x.f.ly = Fo.hb x.t x.k.bs ++ x.k.ly := by simp only [Fo.El.f, Fo.ly, hbn, List.append_nil, List.nil_append, lyw _ hkr]
    have hhn := Fo.hn_le x.k.bs
    have hlb : (Fo.hb x.t x.k.bs).length = Fo.hn x.k.bs := Fo.hb_len _ _
    simp only [↓gaW, ↓gaV, ↓gaC, ↓gaN, gaP, Nat.reduceEqDiff, Nat.reduceLeDiff, Nat.reduceAdd, Nat.reduceSub, Nat.reduceMul, Int.reduceLT, Int.reduceLE, Int.reduceEq, Int.reduceToNat, Int.reduceAdd, Int.reduceSub, Int.reduceMul, reduceCtorEq, ↓reduceIte, List.getD_cons_zero, List.getD_cons_succ, fillL, splice, List.take_zero, List.drop_zero, List.drop_succ_cons, List.take_succ_cons, List.drop_nil, List.take_nil, f0, f3, f5, f29, f30, f31, hin, decide_false, hb2, nodeL, List.getD_cons_zero, List.getD_cons_succ]
    repeat refine And.intro (by omega) ?_
    refine callK_of (ct_head (t := x.t) (n := x.k.bs) ht0 (by omega)) (fun v x3 g3 l3 k3 hC => ?_) (by omega)
    obtain ⟨A3, rfl, r3⟩ := hC
    have hG3 := hG2.keep (x' := x3) (g' := g3) l3 k3
    have hb3 : g3 nx = some (.cells (nodeL x.t B m d A n c) false) := by rw [k3 nx (by omega), hb2]
    have e6 : rowOf ⟨x3, b, g3⟩ A3 (Fo.hn x.k.bs) = some ((Fo.hb x.t x.k.bs).map u8V) := r3.rowOf
    simp only [↓gaW, ↓gaV, ↓gaC, ↓gaN, gaP, Nat.reduceEqDiff, Nat.reduceLeDiff, Nat.reduceAdd, Nat.reduceSub, Nat.reduceMul, Int.reduceLT, Int.reduceLE, Int.reduceEq, Int.reduceToNat, Int.reduceAdd, Int.reduceSub, Int.reduceMul, reduceCtorEq, ↓reduceIte, f0, e6]
    refine grow_fresh hG3 (by omega) (by omega) (by simp [hlb]) (all_u8 _) (by omega) (by omega) fun g4 k4 c4 => ?_
    have hO := hG.blk
    have hb4 : g4 nx = some (.cells (nodeL x.t B m d A n c) false) := by rw [k4 nx (by omega) (fun a e ha hs => by have := hO a e ha hs; omega), hb3]
    have F4 : ∀ p, p < base → g4 p = gt p := fun p hp => by rw [k4 p (by omega) (fun a e ha hs => by have := hO a e ha hs; omega), k3 p (by omega), F2 p (by omega), F1 p (by omega)]
    have hG4 : Grow (nx + 1) b (x3 + 1) g4 1 (some ⟨x3, 0, some 1⟩) (k + Fo.hn x.k.bs) (l.map u8V ++ (Fo.hb x.t x.k.bs).map u8V) := Grow.own (by have := hG.len; simp only [List.length_append, List.length_map, hlb] at this ⊢; omega) (by omega) (by omega) (by omega) c4
    rw [← List.map_append] at hG4
    simp only [↓gaW, ↓gaV, ↓gaC, ↓gaN, gaP, Nat.reduceEqDiff, Nat.reduceLeDiff, Nat.reduceAdd, Nat.reduceSub, Nat.reduceMul, Int.reduceLT, Int.reduceLE, Int.reduceEq, Int.reduceToNat, Int.reduceAdd, Int.reduceSub, Int.reduceMul, reduceCtorEq, ↓reduceIte, f3, hb4, nodeL, List.getD_cons_zero, List.getD_cons_succ]
    repeat refine And.intro (by omega) ?_
    refine loop_of (fun j f mm => ∃ (i x2 N : Nat) (g : Nat → Option Blk) (O' : Option Addr) (pre post : Fo), j = n - i ∧ i ≤ n ∧ x.k = pre.app post ∧ pre.len = i ∧ N = k + Fo.hn x.k.bs + pre.bs ∧ f 0 = .slice O' N N ∧ f 52 = .slice A n c ∧ f 53 = .int .i64 (n : Nat) ∧ f 54 = .int .i64 (i : Nat) ∧
      mm = ⟨x2, b, g⟩ ∧ x3 + 1 ≤ x2 ∧ (∀ p, p < base → g p = gt p) ∧ Grow (nx + 1) b x2 g 1 O' N ((l ++ Fo.hb x.t x.k.bs ++ pre.ly).map u8V)) n ⟨0, x3 + 1, k + Fo.hn x.k.bs, g4, _, .nil, x.k, by omega, by omega, rfl, rfl, by simp only [Fo.bs]; omega, by first | (simp only [↓gaW, ↓gaV, ↓gaC, ↓gaN, gaP, Nat.reduceEqDiff, Nat.reduceLeDiff, Nat.reduceAdd, Nat.reduceSub, Nat.reduceMul, Int.reduceLT, Int.reduceLE, Int.reduceEq, Int.reduceToNat, Int.reduceAdd, Int.reduceSub, Int.reduceMul, reduceCtorEq, ↓reduceIte]; done) | (simp only [↓gaW, ↓gaV, ↓gaC, ↓gaN, gaP, Nat.reduceEqDiff, Nat.reduceLeDiff, Nat.reduceAdd, Nat.reduceSub, Nat.reduceMul, Int.reduceLT, Int.reduceLE, Int.reduceEq, Int.reduceToNat, Int.reduceAdd, Int.reduceSub, Int.reduceMul, reduceCtorEq, ↓reduceIte]; rfl), by first | (simp only [↓gaW, ↓gaV, ↓gaC, ↓gaN, gaP, Nat.reduceEqDiff, Nat.reduceLeDiff, Nat.reduceAdd, Nat.reduceSub, Nat.reduceMul, Int.reduceLT, Int.reduceLE, Int.reduceEq, Int.reduceToNat, Int.reduceAdd, Int.reduceSub, Int.reduceMul, reduceCtorEq, ↓reduceIte]; done) | (simp only [↓gaW, ↓gaV, ↓gaC, ↓gaN, gaP, Nat.reduceEqDiff, Nat.reduceLeDiff, Nat.reduceAdd, Nat.reduceSub, Nat.reduceMul, Int.reduceLT, Int.reduceLE, Int.reduceEq, Int.reduceToNat, Int.reduceAdd, Int.reduceSub, Int.reduceMul, reduceCtorEq, ↓reduceIte]; rfl), by first | (simp only [↓gaW, ↓gaV, ↓gaC, ↓gaN, gaP, Nat.reduceEqDiff, Nat.reduceLeDiff, Nat.reduceAdd, Nat.reduceSub, Nat.reduceMul, Int.reduceLT, Int.reduceLE, Int.reduceEq, Int.reduceToNat, Int.reduceAdd, Int.reduceSub, Int.reduceMul, reduceCtorEq, ↓reduceIte]; done) | (simp only [↓gaW, ↓gaV, ↓gaC, ↓gaN, gaP, Nat.reduceEqDiff, Nat.reduceLeDiff, Nat.reduceAdd, Nat.reduceSub, Nat.reduceMul, Int.reduceLT, Int.reduceLE, Int.reduceEq, Int.reduceToNat, Int.reduceAdd, Int.reduceSub, Int.reduceMul, reduceCtorEq, ↓reduceIte]; rfl), by first | (simp only [↓gaW, ↓gaV, ↓gaC, ↓gaN, gaP, Nat.reduceEqDiff, Nat.reduceLeDiff, Nat.reduceAdd, Nat.reduceSub, Nat.reduceMul, Int.reduceLT, Int.reduceLE, Int.reduceEq, Int.reduceToNat, Int.reduceAdd, Int.reduceSub, Int.reduceMul, reduceCtorEq, ↓reduceIte]; done) | (simp only [↓gaW, ↓gaV, ↓gaC, ↓gaN, gaP, Nat.reduceEqDiff, Nat.reduceLeDiff, Nat.reduceAdd, Nat.reduceSub, Nat.reduceMul, Int.reduceLT, Int.reduceLE, Int.reduceEq, Int.reduceToNat, Int.reduceAdd, Int.reduceSub, Int.reduceMul, reduceCtorEq, ↓reduceIte]; rfl), rfl, by omega, F4, by simpa [Fo.ly] using hG4⟩ ?_
    clear hb4 k4 c4 hG4 F4 k3 hb3 hG3 r3 e6 f0 f3 f5 f29 f30 f31 hb2 hG2 F2 h2
    rintro j f mm ⟨i, x5, N, g5, O5, pre, post, hj, hi, e1, e2, hN, f0, f52, f53, f54, rfl, hx5, F5, G5⟩
    have h5 := h.keep (x' := base) (g := g5) (Nat.le_refl _) F5
    by_cases hin : (i : Int) < (n : Int)
    · obtain ⟨y, pre', post', B', m', d', A', n', c', ks', q1, q2, q3, q4⟩ := h5.kids.at (i := i) (by omega)
      obtain ⟨rfl, rfl⟩ := Fo.app_inj (e1.symm.trans q1) (by omega)
      obtain ⟨a, cl, ro, rfl, r2, r3, r4, r5⟩ := h5.row.cells (by omega)
      have hld := h5.row.load rfl r3 (j := i * 3) (k := 3) (by omega) (by omega)
      rw [q4] at hld
      have hyr : (pre.rs ∧ y.f.rs) ∧ post'.rs := by
        have := hkr
        rw [q1, Fo.app_one, Fo.rs_app (pre.app y.f), Fo.rs_app pre] at this
        exact this
      have w1 : (pre.app y.f).bs + post'.bs = x.k.bs := by rw [q1, Fo.app_one, Fo.bs_app (pre.app y.f)]
      rw [Fo.bs_app] at w1
      have i3 : IntKind.i64.wrap ((i : Int) + 1) = ((i + 1 : Nat) : Int) := by rw [i64_w _ (by omega)]; omega
      simp only [↓gaW, ↓gaV, ↓gaC, ↓gaN, gaP, Nat.reduceEqDiff, Nat.reduceLeDiff, Nat.reduceAdd, Nat.reduceSub, Nat.reduceMul, Int.reduceLT, Int.reduceLE, Int.reduceEq, Int.reduceToNat, Int.reduceAdd, Int.reduceSub, Int.reduceMul, reduceCtorEq, ↓reduceIte, List.getD_cons_zero, List.getD_cons_succ, fillL, splice, List.take_zero, List.drop_zero, List.drop_succ_cons, List.take_succ_cons, List.drop_nil, List.take_nil, f0, f52, f53, f54, hin, decide_true, r3, hld, nodeL]
      refine And.intro (by omega) (And.intro (by omega) (And.intro (by omega) (And.intro (node_cells _ _ _ _ _ _ _) ?_)))
      obtain ⟨g, hg⟩ : ∃ g, g = upd (upd g5 x5 (some (.cells [Value.int .i64 0, .slice none 0 0, .slice none 0 0] false))) x5 (some (.cells (nodeL y.t B' m' d' A' n' c') false)) := ⟨_, rfl⟩
      have G : ∀ p, p < x5 → g p = g5 p := fun p hp => by rw [hg]; simp only [upd_e]; rw [if_neg (by omega), if_neg (by omega)]
      have h6 := q3.keep (x' := nx + 1) (g := g) (by omega) (fun p hp => G p (by omega))
      have G6 := G5.keep (x' := x5 + 1) (g' := g) (by omega) G
      rw [← hg]; clear hg
      refine callB_of (ih pre y post' q1 (by have := Fo.ws_in q1; omega) hyr.1.2 (nx + 1) b (x5 + 1) g _ _ _ _ _ _ _ _ N _ h6 (by omega) (by omega) G6 (by omega)) (fun v x6 g6 l6 k6 hC => ?_)
      obtain ⟨O7, N7, rfl, hN7, G7⟩ := hC
      simp only [↓gaW, ↓gaV, ↓gaC, ↓gaN, gaP, Nat.reduceEqDiff, Nat.reduceLeDiff, Nat.reduceAdd, Nat.reduceSub, Nat.reduceMul, Int.reduceLT, Int.reduceLE, Int.reduceEq, Int.reduceToNat, Int.reduceAdd, Int.reduceSub, Int.reduceMul, reduceCtorEq, ↓reduceIte, gaE, implies_true, Nat.le_refl, Int.sub_zero, Nat.sub_zero, Int.le_refl, true_or, or_true, f54, i3, loopK_n]
      exact ⟨n - (i + 1), by omega, i + 1, x6, N7, g6, O7, pre.app y.f, post', rfl, by omega, by rw [q1, Fo.app_one], by rw [Fo.len_app]; simp only [Fo.El.f, Fo.len]; omega, by rw [Fo.bs_app]; omega, rfl, f52, f53, rfl, rfl, by omega, fun p hp => by rw [k6 p (by omega), G p (by omega), F5 p hp], by rw [Fo.ly_app, ← List.append_assoc]; exact G7⟩
    · have e : pre.len = x.k.len := by omega
      obtain ⟨rfl, rfl⟩ := Fo.app_end e1 e
      simp only [↓gaW, ↓gaV, ↓gaC, ↓gaN, gaP, Nat.reduceEqDiff, Nat.reduceLeDiff, Nat.reduceAdd, Nat.reduceSub, Nat.reduceMul, Int.reduceLT, Int.reduceLE, Int.reduceEq, Int.reduceToNat, Int.reduceAdd, Int.reduceSub, Int.reduceMul, reduceCtorEq, ↓reduceIte, List.getD_cons_zero, List.getD_cons_succ, fillL, splice, List.take_zero, List.drop_zero, List.drop_succ_cons, List.take_succ_cons, List.drop_nil, List.take_nil, f0, f52, f53, f54, hin, decide_false, endB_r, res_nil, res_t]
      refine ⟨by omega, F5, O5, N, rfl, by omega, ?_⟩
      rw [ely, ← List.append_assoc]
      exact G5.low (by omega)
end Go.Ga

/- Write, and the document's. -/
namespace Go.Ga
open Go Go.Proofs
set_option linter.unusedSimpArgs false
set_option linter.unusedVariables false
set_option maxRecDepth 100000

/-- Bytes, or an error. -/
def BytesV (nx : Nat) (g : Nat → Option Blk) (v : Value) : Except Nat (List UInt8) → Prop
  | .error e => v = .tuple #[.slice none 0 0, .int .i64 (e : Nat)]
  | .ok l => ∃ A N, v = .tuple #[.slice A N N, .int .i64 0] ∧ l.length = N ∧ Row nx g 1 A N (l.map u8V)



theorem ct_Write {x : Fo.El} (hw : x.f.ws < 1000000000) {nx : Nat} {gt : Nat → Option Blk} {B : Option Addr} {m d : Nat} {A : Option Addr} {n c : Nat} {ks : List Value} (h : NdR nx gt x B m d A n c ks) :
    Ct Try.prog 14 [nodeV x.t B m d A n c] nx gt fun v x' g => BytesV x' g v (Fo.wr x) := by
  refine Ct.of hmx r_tlv_Write (by simp [c_tlv_Write]) fun b hb => ?_
  have hF : ∀ q, q < nx → upd gt nx (some (.cells (nodeL x.t B m d A n c) false)) q = gt q := fun q hq => by simp only [upd_e]; rw [if_neg (by omega)]
  have hb0 : upd gt nx (some (.cells (nodeL x.t B m d A n c) false)) nx = some (.cells (nodeL x.t B m d A n c) false) := by simp only [upd_e, if_true]
  have h0 := h.keep (x' := nx + 1) (by omega) hF
  have bw := Fo.bs_ws x.f
  have mw := Fo.ms_ws x.f
  have dw := Fo.ds_ws x.f
  simp only [c_tlv_Write, ↓gaW, ↓gaV, ↓gaC, ↓gaN, gaP, Nat.reduceEqDiff, Nat.reduceLeDiff, Nat.reduceAdd, Nat.reduceSub, Nat.reduceMul, Int.reduceLT, Int.reduceLE, Int.reduceEq, Int.reduceToNat, Int.reduceAdd, Int.reduceSub, Int.reduceMul, reduceCtorEq, ↓reduceIte, List.getD_cons_zero, List.getD_cons_succ, fillL, splice, List.take_zero, List.drop_zero, List.drop_succ_cons, List.take_succ_cons, List.drop_nil, List.take_nil, gaU]
  generalize upd gt nx (some (.cells (nodeL x.t B m d A n c) false)) = g0 at *
  repeat refine And.intro (by omega) ?_
  refine callK_of (ct_right x (by omega) _ _ _ _ _ _ _ _ _ h0) (fun v x1 g1 l1 k1 hC => ?_) (by omega)
  obtain ⟨r, rfl, hr⟩ := hC
  have hb1 : g1 nx = some (.cells (nodeL x.t B m d A n c) false) := by rw [k1 nx (by omega), hb0]
  have F1 : ∀ p, p < nx → g1 p = gt p := fun p hp => by rw [k1 p (by omega), hF p hp]
  have h1 := h0.keep l1 k1
  cases r with
  | false =>
    have e : Fo.wr x = .error 2 := by unfold Fo.wr; rw [if_pos (fun h => by have := hr.2 h; cases this)]
    simp only [↓gaW, ↓gaV, ↓gaC, ↓gaN, gaP, Nat.reduceEqDiff, Nat.reduceLeDiff, Nat.reduceAdd, Nat.reduceSub, Nat.reduceMul, Int.reduceLT, Int.reduceLE, Int.reduceEq, Int.reduceToNat, Int.reduceAdd, Int.reduceSub, Int.reduceMul, reduceCtorEq, ↓reduceIte, gaE, implies_true, Nat.le_refl, Int.sub_zero, Nat.sub_zero, Int.le_refl, true_or, or_true, Bool.not_false, e]
    exact ⟨by omega, F1, rfl⟩
  | true =>
    simp only [↓gaW, ↓gaV, ↓gaC, ↓gaN, gaP, Nat.reduceEqDiff, Nat.reduceLeDiff, Nat.reduceAdd, Nat.reduceSub, Nat.reduceMul, Int.reduceLT, Int.reduceLE, Int.reduceEq, Int.reduceToNat, Int.reduceAdd, Int.reduceSub, Int.reduceMul, reduceCtorEq, ↓reduceIte, gaE, implies_true, Nat.le_refl, Int.sub_zero, Nat.sub_zero, Int.le_refl, true_or, or_true, Bool.not_true, hb1, nodeL, List.getD_cons_zero, List.getD_cons_succ, fillL, splice, List.take_zero, List.drop_zero, List.drop_succ_cons, List.take_succ_cons, List.drop_nil, List.take_nil]
    repeat refine And.intro (by omega) ?_
    refine callK_of (ct_Size x (by omega) _ _ _ _ _ _ _ _ _ h1) (fun v x2 g2 l2 k2 hC => ?_) (by omega)
    subst hC
    have hb2 : g2 nx = some (.cells (nodeL x.t B m d A n c) false) := by rw [k2 nx (by omega), hb1]
    have F2 : ∀ p, p < nx → g2 p = gt p := fun p hp => by rw [k2 p (by omega), F1 p hp]
    have h2 := h1.keep l2 k2
    by_cases hd : (32 : Int) < (x.f.ds : Int)
    · have e : Fo.wr x = .error 4 := by unfold Fo.wr; rw [if_neg (by simpa using hr.1 rfl), if_pos (by omega)]
      simp only [↓gaW, ↓gaV, ↓gaC, ↓gaN, gaP, Nat.reduceEqDiff, Nat.reduceLeDiff, Nat.reduceAdd, Nat.reduceSub, Nat.reduceMul, Int.reduceLT, Int.reduceLE, Int.reduceEq, Int.reduceToNat, Int.reduceAdd, Int.reduceSub, Int.reduceMul, reduceCtorEq, ↓reduceIte, gaE, implies_true, Nat.le_refl, Int.sub_zero, Nat.sub_zero, Int.le_refl, true_or, or_true, hd, decide_true, e]
      repeat refine And.intro (by omega) ?_
      rfl
    · by_cases hs : (20000 : Int) < (x.f.bs : Int)
      · have e : Fo.wr x = .error 5 := by unfold Fo.wr; rw [if_neg (by simpa using hr.1 rfl), if_neg (by omega), if_pos (by omega)]
        simp only [↓gaW, ↓gaV, ↓gaC, ↓gaN, gaP, Nat.reduceEqDiff, Nat.reduceLeDiff, Nat.reduceAdd, Nat.reduceSub, Nat.reduceMul, Int.reduceLT, Int.reduceLE, Int.reduceEq, Int.reduceToNat, Int.reduceAdd, Int.reduceSub, Int.reduceMul, reduceCtorEq, ↓reduceIte, gaE, implies_true, Nat.le_refl, Int.sub_zero, Nat.sub_zero, Int.le_refl, true_or, or_true, hd, hs, decide_true, decide_false, e]
        repeat refine And.intro (by omega) ?_
        rfl
      · have e : Fo.wr x = .ok x.f.ly := Fo.wr_of (hr.1 rfl) (by omega) (by omega)
        simp only [↓gaW, ↓gaV, ↓gaC, ↓gaN, gaP, Nat.reduceEqDiff, Nat.reduceLeDiff, Nat.reduceAdd, Nat.reduceSub, Nat.reduceMul, Int.reduceLT, Int.reduceLE, Int.reduceEq, Int.reduceToNat, Int.reduceAdd, Int.reduceSub, Int.reduceMul, reduceCtorEq, ↓reduceIte, gaE, implies_true, Nat.le_refl, Int.sub_zero, Nat.sub_zero, Int.le_refl, true_or, or_true, hd, hs, decide_false, hb2, nodeL, List.getD_cons_zero, List.getD_cons_succ, fillL, splice, List.take_zero, List.drop_zero, List.drop_succ_cons, List.take_succ_cons, List.drop_nil, List.take_nil]
        repeat refine And.intro (by omega) ?_
        have G2 : Grow (nx + 1) b x2 g2 1 none 0 ([].map u8V) := Grow.nil
        refine callB_of (cb_put x (by omega) (hr.1 rfl) (nx + 1) b x2 g2 _ _ _ _ _ _ _ _ 0 [] (h0.keep (x' := nx + 1) (g := g2) (Nat.le_refl _) (fun p hp => by rw [k2 p (by omega), k1 p (by omega)])) (by omega) (by omega) G2 (by omega)) (fun v x3 g3 l3 k3 hC => ?_)
        obtain ⟨O3, N3, rfl, hN3, G3⟩ := hC
        rw [List.nil_append] at G3
        have r3 := G3.row
        rw [Nat.mul_one] at r3
        simp only [↓gaW, ↓gaV, ↓gaC, ↓gaN, gaP, Nat.reduceEqDiff, Nat.reduceLeDiff, Nat.reduceAdd, Nat.reduceSub, Nat.reduceMul, Int.reduceLT, Int.reduceLE, Int.reduceEq, Int.reduceToNat, Int.reduceAdd, Int.reduceSub, Int.reduceMul, reduceCtorEq, ↓reduceIte, gaE, implies_true, Nat.le_refl, Int.sub_zero, Nat.sub_zero, Int.le_refl, true_or, or_true, e]
        exact ⟨by omega, fun p hp => by rw [k3 p (by omega), F2 p hp], O3, N3, rfl, by simpa using r3.len, r3⟩
theorem ct_rWrite {x : Fo.El} (hw : x.f.ws < 1000000000) {nx : Nat} {gt : Nat → Option Blk} {B : Option Addr} {m d : Nat} {A : Option Addr} {n c : Nat} {ks : List Value} (h : NdR nx gt x B m d A n c ks) :
    Ct Try.prog 15 [nodeV x.t B m d A n c] nx gt fun v x' g => BytesV x' g v (Fo.wr x) := by
  refine Ct.of hmx r_lanyardref04_Write (by simp [c_lanyardref04_Write]) fun b hb => ?_
  have hF : ∀ q, q < nx → upd gt nx (some (.cells (nodeL x.t B m d A n c) false)) q = gt q := fun q hq => by simp only [upd_e]; rw [if_neg (by omega)]
  have hb0 : upd gt nx (some (.cells (nodeL x.t B m d A n c) false)) nx = some (.cells (nodeL x.t B m d A n c) false) := by simp only [upd_e, if_true]
  have h0 := h.keep (x' := nx + 1) (by omega) hF
  have bw := Fo.bs_ws x.f
  have mw := Fo.ms_ws x.f
  have dw := Fo.ds_ws x.f
  simp only [c_lanyardref04_Write, ↓gaW, ↓gaV, ↓gaC, ↓gaN, gaP, Nat.reduceEqDiff, Nat.reduceLeDiff, Nat.reduceAdd, Nat.reduceSub, Nat.reduceMul, Int.reduceLT, Int.reduceLE, Int.reduceEq, Int.reduceToNat, Int.reduceAdd, Int.reduceSub, Int.reduceMul, reduceCtorEq, ↓reduceIte, List.getD_cons_zero, List.getD_cons_succ, fillL, splice, List.take_zero, List.drop_zero, List.drop_succ_cons, List.take_succ_cons, List.drop_nil, List.take_nil, gaU]
  generalize upd gt nx (some (.cells (nodeL x.t B m d A n c) false)) = g0 at *
  repeat refine And.intro (by omega) ?_
  refine callK_of (ct_rright x (by omega) _ _ _ _ _ _ _ _ _ h0) (fun v x1 g1 l1 k1 hC => ?_) (by omega)
  obtain ⟨r, rfl, hr⟩ := hC
  have hb1 : g1 nx = some (.cells (nodeL x.t B m d A n c) false) := by rw [k1 nx (by omega), hb0]
  have F1 : ∀ p, p < nx → g1 p = gt p := fun p hp => by rw [k1 p (by omega), hF p hp]
  have h1 := h0.keep l1 k1
  cases r with
  | false =>
    have e : Fo.wr x = .error 2 := by unfold Fo.wr; rw [if_pos (fun h => by have := hr.2 h; cases this)]
    simp only [↓gaW, ↓gaV, ↓gaC, ↓gaN, gaP, Nat.reduceEqDiff, Nat.reduceLeDiff, Nat.reduceAdd, Nat.reduceSub, Nat.reduceMul, Int.reduceLT, Int.reduceLE, Int.reduceEq, Int.reduceToNat, Int.reduceAdd, Int.reduceSub, Int.reduceMul, reduceCtorEq, ↓reduceIte, gaE, implies_true, Nat.le_refl, Int.sub_zero, Nat.sub_zero, Int.le_refl, true_or, or_true, Bool.not_false, e]
    exact ⟨by omega, F1, rfl⟩
  | true =>
    simp only [↓gaW, ↓gaV, ↓gaC, ↓gaN, gaP, Nat.reduceEqDiff, Nat.reduceLeDiff, Nat.reduceAdd, Nat.reduceSub, Nat.reduceMul, Int.reduceLT, Int.reduceLE, Int.reduceEq, Int.reduceToNat, Int.reduceAdd, Int.reduceSub, Int.reduceMul, reduceCtorEq, ↓reduceIte, gaE, implies_true, Nat.le_refl, Int.sub_zero, Nat.sub_zero, Int.le_refl, true_or, or_true, Bool.not_true, hb1, nodeL, List.getD_cons_zero, List.getD_cons_succ, fillL, splice, List.take_zero, List.drop_zero, List.drop_succ_cons, List.take_succ_cons, List.drop_nil, List.take_nil]
    repeat refine And.intro (by omega) ?_
    refine callK_of (ct_rSize x (by omega) _ _ _ _ _ _ _ _ _ h1) (fun v x2 g2 l2 k2 hC => ?_) (by omega)
    subst hC
    have hb2 : g2 nx = some (.cells (nodeL x.t B m d A n c) false) := by rw [k2 nx (by omega), hb1]
    have F2 : ∀ p, p < nx → g2 p = gt p := fun p hp => by rw [k2 p (by omega), F1 p hp]
    have h2 := h1.keep l2 k2
    by_cases hd : (32 : Int) < (x.f.ds : Int)
    · have e : Fo.wr x = .error 4 := by unfold Fo.wr; rw [if_neg (by simpa using hr.1 rfl), if_pos (by omega)]
      simp only [↓gaW, ↓gaV, ↓gaC, ↓gaN, gaP, Nat.reduceEqDiff, Nat.reduceLeDiff, Nat.reduceAdd, Nat.reduceSub, Nat.reduceMul, Int.reduceLT, Int.reduceLE, Int.reduceEq, Int.reduceToNat, Int.reduceAdd, Int.reduceSub, Int.reduceMul, reduceCtorEq, ↓reduceIte, gaE, implies_true, Nat.le_refl, Int.sub_zero, Nat.sub_zero, Int.le_refl, true_or, or_true, hd, decide_true, e]
      repeat refine And.intro (by omega) ?_
      rfl
    · by_cases hs : (20000 : Int) < (x.f.bs : Int)
      · have e : Fo.wr x = .error 5 := by unfold Fo.wr; rw [if_neg (by simpa using hr.1 rfl), if_neg (by omega), if_pos (by omega)]
        simp only [↓gaW, ↓gaV, ↓gaC, ↓gaN, gaP, Nat.reduceEqDiff, Nat.reduceLeDiff, Nat.reduceAdd, Nat.reduceSub, Nat.reduceMul, Int.reduceLT, Int.reduceLE, Int.reduceEq, Int.reduceToNat, Int.reduceAdd, Int.reduceSub, Int.reduceMul, reduceCtorEq, ↓reduceIte, gaE, implies_true, Nat.le_refl, Int.sub_zero, Nat.sub_zero, Int.le_refl, true_or, or_true, hd, hs, decide_true, decide_false, e]
        repeat refine And.intro (by omega) ?_
        rfl
      · have e : Fo.wr x = .ok x.f.ly := Fo.wr_of (hr.1 rfl) (by omega) (by omega)
        simp only [↓gaW, ↓gaV, ↓gaC, ↓gaN, gaP, Nat.reduceEqDiff, Nat.reduceLeDiff, Nat.reduceAdd, Nat.reduceSub, Nat.reduceMul, Int.reduceLT, Int.reduceLE, Int.reduceEq, Int.reduceToNat, Int.reduceAdd, Int.reduceSub, Int.reduceMul, reduceCtorEq, ↓reduceIte, gaE, implies_true, Nat.le_refl, Int.sub_zero, Nat.sub_zero, Int.le_refl, true_or, or_true, hd, hs, decide_false, hb2, nodeL, List.getD_cons_zero, List.getD_cons_succ, fillL, splice, List.take_zero, List.drop_zero, List.drop_succ_cons, List.take_succ_cons, List.drop_nil, List.take_nil]
        repeat refine And.intro (by omega) ?_
        refine callK_of (ct_lay x (by omega) (hr.1 rfl) _ _ _ _ _ _ _ _ _ h2) (fun v x3 g3 l3 k3 hC => ?_) (by omega)
        obtain ⟨O3, N3, rfl, hN3, r3⟩ := hC
        simp only [↓gaW, ↓gaV, ↓gaC, ↓gaN, gaP, Nat.reduceEqDiff, Nat.reduceLeDiff, Nat.reduceAdd, Nat.reduceSub, Nat.reduceMul, Int.reduceLT, Int.reduceLE, Int.reduceEq, Int.reduceToNat, Int.reduceAdd, Int.reduceSub, Int.reduceMul, reduceCtorEq, ↓reduceIte, gaE, implies_true, Nat.le_refl, Int.sub_zero, Nat.sub_zero, Int.le_refl, true_or, or_true, e]
        exact ⟨by omega, fun p hp => by rw [k3 p (by omega), F2 p hp], O3, N3, rfl, hN3, r3⟩
end Go.Ga

/- Where what stands within an element begins: the document's answer. -/
namespace Go.Ga
open Go Go.Proofs
set_option linter.unusedSimpArgs false
set_option linter.unusedVariables false
set_option maxRecDepth 100000

def HdV (l : List UInt8) (v : Value) : Fo.Hd → Prop
  | .short => v = .tuple #[.int .i64 0, .int .i64 0, .int .i64 3]
  | .form => v = .tuple #[.int .i64 0, .int .i64 0, .int .i64 2]
  | .ok _ k r => v = .tuple #[.int .i64 ((l.length - r.length : Nat) : Int), .int .i64 (k : Nat), .int .i64 0]


set_option maxHeartbeats 1000000 in
theorem ct_rhead {nx : Nat} {gt : Nat → Option Blk} {A : Option Addr} {n c at' : Nat} {l : List UInt8} (hA : Row nx gt 1 A n (l.map u8V)) (hc : n ≤ c) (hn : n ≤ 1000000) (hat : at' ≤ n) :
    Ct Try.prog 34 [.slice A n c, .int .i64 (at' : Nat), .int .i64 (n : Nat)] nx gt fun v _ _ => HdV l v (Fo.hd (l.drop at')) := by
  have hl : l.length = n := by simpa using hA.len
  have hnl : ¬ (n : Int) < (n : Int) := by omega
  refine Ct.of hmx r_lanyardref04_head (by simp [c_lanyardref04_head]) fun b hb => ?_
  have hdr : ∀ j, l.getD (at' + j) 0 = (l.drop at').getD j 0 := fun j => by simp [List.getD_eq_getElem?_getD]
  have hdl : (l.drop at').length = n - at' := by simp [hl]
  cases hs : l.drop at' with
  | nil =>
    rw [hs] at hdl
    simp only [List.length_nil] at hdl
    have h1 : (n : Int) ≤ (at' : Int) := by omega
    simp only [c_lanyardref04_head, ↓gaW, ↓gaV, ↓gaC, ↓gaN, gaP, Nat.reduceEqDiff, Nat.reduceLeDiff, Nat.reduceAdd, Nat.reduceSub, Nat.reduceMul, Int.reduceLT, Int.reduceLE, Int.reduceEq, Int.reduceToNat, Int.reduceAdd, Int.reduceSub, Int.reduceMul, reduceCtorEq, ↓reduceIte, gaE, implies_true, Nat.le_refl, Int.sub_zero, Nat.sub_zero, Int.le_refl, true_or, or_true, hnl, h1, decide_true, decide_false, Fo.hd, HdV]
  | cons x s1 =>
    rw [hs] at hdl hdr
    simp only [List.length_cons] at hdl
    have h1 : ¬ (n : Int) ≤ (at' : Int) := by omega
    obtain ⟨a, cl, ro, rfl, r2, r3, r4, r5⟩ := hA.cells (by omega)
    have hcell : ∀ i, i < n → cl.getD (a.off + i) undef = .int .u8 ((l.getD i 0).toNat : Nat) := fun i hi => by rw [r5 i hi, getD_u8 (by omega)]
    have c0 : cl.getD (a.off + at') undef = .int .u8 (x.toNat : Nat) := by
      rw [hcell at' (by omega)]; have := hdr 0; simp only [Nat.add_zero, List.getD_cons_zero] at this; rw [this]
    have t0 : ((x.toNat : Nat) : Int).tmod 32 = ((x.toNat % 32 : Nat) : Int) := by rw [Int.tmod_eq_emod_of_nonneg (by omega)]; omega
    have hdc : Fo.hd (x :: s1) = if x.toNat % 32 = 31 then .form else Fo.hl x.toNat s1 := rfl
    by_cases hx : ((x.toNat % 32 : Nat) : Int) = 31
    · rw [hdc, if_pos (by omega)]
      simp only [c_lanyardref04_head, ↓gaW, ↓gaV, ↓gaC, ↓gaN, gaP, Nat.reduceEqDiff, Nat.reduceLeDiff, Nat.reduceAdd, Nat.reduceSub, Nat.reduceMul, Int.reduceLT, Int.reduceLE, Int.reduceEq, Int.reduceToNat, Int.reduceAdd, Int.reduceSub, Int.reduceMul, reduceCtorEq, ↓reduceIte, gaE, implies_true, Nat.le_refl, Int.sub_zero, Nat.sub_zero, Int.le_refl, true_or, or_true, hnl, h1, decide_true, decide_false, r3, c0, t0, hx, HdV]
      repeat refine And.intro (by omega) ?_
      first | exact trivial | rfl | omega
    rw [hdc, if_neg (by omega)]
    have i1 : IntKind.i64.wrap ((at' : Int) + 1) = ((at' + 1 : Nat) : Int) := by rw [i64_w _ (by omega)]; omega
    have i2 : IntKind.i64.wrap ((at' : Int) + 2) = ((at' + 2 : Nat) : Int) := by rw [i64_w _ (by omega)]; omega
    have i3 : IntKind.i64.wrap ((at' : Int) + 3) = ((at' + 3 : Nat) : Int) := by rw [i64_w _ (by omega)]; omega
    have i4 : IntKind.i64.wrap ((at' : Int) + 4) = ((at' + 4 : Nat) : Int) := by rw [i64_w _ (by omega)]; omega
    cases hs1 : s1 with
    | nil =>
      subst hs1
      simp only [List.length_nil] at hdl
      have h2 : (n : Int) ≤ ((at' + 1 : Nat) : Int) := by omega
      simp only [c_lanyardref04_head, ↓gaW, ↓gaV, ↓gaC, ↓gaN, gaP, Nat.reduceEqDiff, Nat.reduceLeDiff, Nat.reduceAdd, Nat.reduceSub, Nat.reduceMul, Int.reduceLT, Int.reduceLE, Int.reduceEq, Int.reduceToNat, Int.reduceAdd, Int.reduceSub, Int.reduceMul, reduceCtorEq, ↓reduceIte, gaE, implies_true, Nat.le_refl, Int.sub_zero, Nat.sub_zero, Int.le_refl, true_or, or_true, hnl, h1, h2, decide_true, decide_false, r3, c0, t0, hx, i1, HdV, Fo.hl]
      repeat refine And.intro (by omega) ?_
      first | exact trivial | rfl | omega
    | cons y s2 =>
      subst hs1
      simp only [List.length_cons] at hdl
      have h2 : ¬ (n : Int) ≤ ((at' + 1 : Nat) : Int) := by omega
      have c1 : cl.getD (a.off + (at' + 1)) undef = .int .u8 (y.toNat : Nat) := by
        rw [hcell (at' + 1) (by omega)]; have := hdr 1; simp only [List.getD_cons_succ, List.getD_cons_zero] at this; rw [this]
      have hyl := UInt8.toNat_lt y
      have y1 : IntKind.i64.wrap ((y.toNat : Nat) : Int) = ((y.toNat : Nat) : Int) := by rw [i64_w _ (by omega)]
      simp only [Fo.hl]
      by_cases hy : ((y.toNat : Nat) : Int) < 128
      · rw [if_pos (by omega)]
        have e : l.length - s2.length = at' + 2 := by omega
        simp only [c_lanyardref04_head, ↓gaW, ↓gaV, ↓gaC, ↓gaN, gaP, Nat.reduceEqDiff, Nat.reduceLeDiff, Nat.reduceAdd, Nat.reduceSub, Nat.reduceMul, Int.reduceLT, Int.reduceLE, Int.reduceEq, Int.reduceToNat, Int.reduceAdd, Int.reduceSub, Int.reduceMul, reduceCtorEq, ↓reduceIte, gaE, implies_true, Nat.le_refl, Int.sub_zero, Nat.sub_zero, Int.le_refl, true_or, or_true, hnl, h1, h2, decide_true, decide_false, r3, c0, c1, t0, hx, i1, i2, y1, hy, HdV, e]
        repeat refine And.intro (by omega) ?_
        first | exact trivial | rfl | omega
      rw [if_neg (by omega)]
      by_cases hy9 : ((y.toNat : Nat) : Int) = 129
      · have hy9n : y.toNat = 129 := by omega
        have k1 : IntKind.i64.wrap ((at' : Int) + 129) = ((at' + 129 : Nat) : Int) := by rw [i64_w _ (by omega)]; omega
        have k2 : IntKind.i64.wrap (((at' + 129 : Nat) : Int) - 127) = ((at' + 2 : Nat) : Int) := by rw [i64_w _ (by omega)]; omega
        rw [if_pos hy9n]
        rw [hy9n] at c1
        have y2 : IntKind.i64.wrap ((129 : Nat) : Int) = 129 := i64_w 129 (by omega)
        have y3 : IntKind.i64.wrap 129 = 129 := by rw [i64_w _ (by omega)]
        cases s2 with
        | nil =>
          simp only [List.length_nil] at hdl
          have h3 : (n : Int) ≤ ((at' + 2 : Nat) : Int) := by omega
          simp only [c_lanyardref04_head, ↓gaW, ↓gaV, ↓gaC, ↓gaN, gaP, Nat.reduceEqDiff, Nat.reduceLeDiff, Nat.reduceAdd, Nat.reduceSub, Nat.reduceMul, Int.reduceLT, Int.reduceLE, Int.reduceEq, Int.reduceToNat, Int.reduceAdd, Int.reduceSub, Int.reduceMul, reduceCtorEq, ↓reduceIte, gaE, implies_true, Nat.le_refl, Int.sub_zero, Nat.sub_zero, Int.le_refl, true_or, or_true, hnl, h1, h2, decide_true, decide_false, r3, c0, c1, t0, hx, i1, i2, y2, y3, k1, k2, h3, HdV]
          repeat refine And.intro (by omega) ?_
          first | exact trivial | rfl | omega
        | cons z s3 =>
          simp only [List.length_cons] at hdl
          have h3 : ¬ (n : Int) ≤ ((at' + 2 : Nat) : Int) := by omega
          have c2 : cl.getD (a.off + (at' + 2)) undef = .int .u8 (z.toNat : Nat) := by
            rw [hcell (at' + 2) (by omega)]; have := hdr 2; simp only [List.getD_cons_succ, List.getD_cons_zero] at this; rw [this]
          have hzl := UInt8.toNat_lt z
          have z1 : IntKind.i64.wrap ((z.toNat : Nat) : Int) = ((z.toNat : Nat) : Int) := by rw [i64_w _ (by omega)]
          by_cases hz : ((z.toNat : Nat) : Int) < 128
          · simp only [if_pos (show z.toNat < 128 by omega)]
            simp only [c_lanyardref04_head, ↓gaW, ↓gaV, ↓gaC, ↓gaN, gaP, Nat.reduceEqDiff, Nat.reduceLeDiff, Nat.reduceAdd, Nat.reduceSub, Nat.reduceMul, Int.reduceLT, Int.reduceLE, Int.reduceEq, Int.reduceToNat, Int.reduceAdd, Int.reduceSub, Int.reduceMul, reduceCtorEq, ↓reduceIte, gaE, implies_true, Nat.le_refl, Int.sub_zero, Nat.sub_zero, Int.le_refl, true_or, or_true, hnl, h1, h2, decide_true, decide_false, r3, c0, c1, c2, t0, hx, i1, i2, y2, y3, k1, k2, h3, hz, HdV]
            repeat refine And.intro (by omega) ?_
            first | exact trivial | rfl | omega
          · simp only [if_neg (show ¬ z.toNat < 128 by omega)]
            have e : l.length - s3.length = at' + 3 := by omega
            simp only [c_lanyardref04_head, ↓gaW, ↓gaV, ↓gaC, ↓gaN, gaP, Nat.reduceEqDiff, Nat.reduceLeDiff, Nat.reduceAdd, Nat.reduceSub, Nat.reduceMul, Int.reduceLT, Int.reduceLE, Int.reduceEq, Int.reduceToNat, Int.reduceAdd, Int.reduceSub, Int.reduceMul, reduceCtorEq, ↓reduceIte, gaE, implies_true, Nat.le_refl, Int.sub_zero, Nat.sub_zero, Int.le_refl, true_or, or_true, hnl, h1, h2, decide_true, decide_false, r3, c0, c1, c2, t0, hx, i1, i2, i3, y2, y3, k1, k2, h3, hz, z1, HdV, e]
            repeat refine And.intro (by omega) ?_
            first | exact trivial | rfl | omega
      rw [if_neg (by omega)]
      by_cases hy0 : ((y.toNat : Nat) : Int) = 130
      · have hy0n : y.toNat = 130 := by omega
        have k1 : IntKind.i64.wrap ((at' : Int) + 130) = ((at' + 130 : Nat) : Int) := by rw [i64_w _ (by omega)]; omega
        have k2 : IntKind.i64.wrap (((at' + 130 : Nat) : Int) - 127) = ((at' + 3 : Nat) : Int) := by rw [i64_w _ (by omega)]; omega
        rw [if_pos hy0n]
        rw [hy0n] at c1
        have y2 : IntKind.i64.wrap ((130 : Nat) : Int) = 130 := i64_w 130 (by omega)
        have y3 : IntKind.i64.wrap 130 = 130 := by rw [i64_w _ (by omega)]
        by_cases h3 : (n : Int) ≤ ((at' + 3 : Nat) : Int)
        · rcases s2 with _ | ⟨z, _ | ⟨u, s4⟩⟩
          · simp only [c_lanyardref04_head, ↓gaW, ↓gaV, ↓gaC, ↓gaN, gaP, Nat.reduceEqDiff, Nat.reduceLeDiff, Nat.reduceAdd, Nat.reduceSub, Nat.reduceMul, Int.reduceLT, Int.reduceLE, Int.reduceEq, Int.reduceToNat, Int.reduceAdd, Int.reduceSub, Int.reduceMul, reduceCtorEq, ↓reduceIte, gaE, implies_true, Nat.le_refl, Int.sub_zero, Nat.sub_zero, Int.le_refl, true_or, or_true, hnl, h1, h2, decide_true, decide_false, r3, c0, c1, t0, hx, i1, i2, y2, y3, k1, k2, h3, HdV]
            repeat refine And.intro (by omega) ?_
            first | exact trivial | rfl | omega
          · simp only [c_lanyardref04_head, ↓gaW, ↓gaV, ↓gaC, ↓gaN, gaP, Nat.reduceEqDiff, Nat.reduceLeDiff, Nat.reduceAdd, Nat.reduceSub, Nat.reduceMul, Int.reduceLT, Int.reduceLE, Int.reduceEq, Int.reduceToNat, Int.reduceAdd, Int.reduceSub, Int.reduceMul, reduceCtorEq, ↓reduceIte, gaE, implies_true, Nat.le_refl, Int.sub_zero, Nat.sub_zero, Int.le_refl, true_or, or_true, hnl, h1, h2, decide_true, decide_false, r3, c0, c1, t0, hx, i1, i2, y2, y3, k1, k2, h3, HdV]
            repeat refine And.intro (by omega) ?_
            first | exact trivial | rfl | omega
          · simp only [List.length_cons] at hdl; omega
        · rcases s2 with _ | ⟨z, _ | ⟨u, s4⟩⟩
          · simp only [List.length_nil] at hdl; omega
          · simp only [List.length_cons, List.length_nil] at hdl; omega
          · simp only [List.length_cons] at hdl
            have c2 : cl.getD (a.off + (at' + 2)) undef = .int .u8 (z.toNat : Nat) := by
              rw [hcell (at' + 2) (by omega)]; have := hdr 2; simp only [List.getD_cons_succ, List.getD_cons_zero] at this; rw [this]
            have c3 : cl.getD (a.off + (at' + 3)) undef = .int .u8 (u.toNat : Nat) := by
              rw [hcell (at' + 3) (by omega)]; have := hdr 3; simp only [List.getD_cons_succ, List.getD_cons_zero] at this; rw [this]
            have hzl := UInt8.toNat_lt z
            have hul := UInt8.toNat_lt u
            have z1 : IntKind.i64.wrap ((z.toNat : Nat) : Int) = ((z.toNat : Nat) : Int) := by rw [i64_w _ (by omega)]
            have u1 : IntKind.i64.wrap ((u.toNat : Nat) : Int) = ((u.toNat : Nat) : Int) := by rw [i64_w _ (by omega)]
            have z2 : IntKind.i64.wrap (((z.toNat : Nat) : Int) * 256) = ((z.toNat * 256 : Nat) : Int) := by rw [i64_w _ (by omega)]; omega
            have z3 : IntKind.i64.wrap (((z.toNat * 256 : Nat) : Int) + ((u.toNat : Nat) : Int)) = ((z.toNat * 256 + u.toNat : Nat) : Int) := by rw [i64_w _ (by omega)]; omega
            by_cases hz : ((z.toNat : Nat) : Int) = 0
            · simp only [if_pos (show z.toNat = 0 by omega)]
              simp only [c_lanyardref04_head, ↓gaW, ↓gaV, ↓gaC, ↓gaN, gaP, Nat.reduceEqDiff, Nat.reduceLeDiff, Nat.reduceAdd, Nat.reduceSub, Nat.reduceMul, Int.reduceLT, Int.reduceLE, Int.reduceEq, Int.reduceToNat, Int.reduceAdd, Int.reduceSub, Int.reduceMul, reduceCtorEq, ↓reduceIte, gaE, implies_true, Nat.le_refl, Int.sub_zero, Nat.sub_zero, Int.le_refl, true_or, or_true, hnl, h1, h2, decide_true, decide_false, r3, c0, c1, c2, t0, hx, i1, i2, y2, y3, k1, k2, h3, hz, HdV]
              repeat refine And.intro (by omega) ?_
              first | exact trivial | rfl | omega
            · simp only [if_neg (show ¬ z.toNat = 0 by omega)]
              have e : l.length - s4.length = at' + 4 := by omega
              simp only [c_lanyardref04_head, ↓gaW, ↓gaV, ↓gaC, ↓gaN, gaP, Nat.reduceEqDiff, Nat.reduceLeDiff, Nat.reduceAdd, Nat.reduceSub, Nat.reduceMul, Int.reduceLT, Int.reduceLE, Int.reduceEq, Int.reduceToNat, Int.reduceAdd, Int.reduceSub, Int.reduceMul, reduceCtorEq, ↓reduceIte, gaE, implies_true, Nat.le_refl, Int.sub_zero, Nat.sub_zero, Int.le_refl, true_or, or_true, hnl, h1, h2, decide_true, decide_false, r3, c0, c1, c2, c3, t0, hx, i1, i2, i3, i4, y2, y3, k1, k2, h3, hz, z1, u1, z2, z3, HdV, e]
              repeat refine And.intro (by omega) ?_
              first | exact trivial | rfl | omega
      rw [if_neg (by omega)]
      simp only [c_lanyardref04_head, ↓gaW, ↓gaV, ↓gaC, ↓gaN, gaP, Nat.reduceEqDiff, Nat.reduceLeDiff, Nat.reduceAdd, Nat.reduceSub, Nat.reduceMul, Int.reduceLT, Int.reduceLE, Int.reduceEq, Int.reduceToNat, Int.reduceAdd, Int.reduceSub, Int.reduceMul, reduceCtorEq, ↓reduceIte, gaE, implies_true, Nat.le_refl, Int.sub_zero, Nat.sub_zero, Int.le_refl, true_or, or_true, hnl, h1, h2, decide_true, decide_false, r3, c0, c1, t0, hx, i1, i2, y1, hy, hy9, hy0, HdV]
      repeat refine And.intro (by omega) ?_
      first | exact trivial | rfl | omega
end Go.Ga

/- Elements that a function makes: they lie in new blocks. -/
namespace Go.Ga
open Go

/-- A row in a block from lo on. -/
def RowL (lo nx : Nat) (gt : Nat → Option Blk) (e : Nat) (A : Option Addr) (N : Nat) (l : List Value) : Prop := Row nx gt e A N l ∧ (0 < N → ∀ a, A = some a → lo ≤ a.block)
theorem RowL.nil {lo nx gt e} : RowL lo nx gt e none 0 [] := ⟨.nil, fun h => absurd h (Nat.lt_irrefl 0)⟩
theorem RowL.keep {lo nx gt e A N l nx' gt'} (h : RowL lo nx gt e A N l) (h1 : nx ≤ nx') (h2 : ∀ p, lo ≤ p → p < nx → gt' p = gt p) : RowL lo nx' gt' e A N l := by
  refine ⟨⟨h.1.spot, h.1.len, fun hN => ?_⟩, h.2⟩
  obtain ⟨a, c, ro, e1, e2, e3, e4, e5⟩ := h.1.cells hN
  exact ⟨a, c, ro, e1, by omega, by rw [h2 _ (h.2 hN a e1) e2, e3], e4, e5⟩
theorem RowL.wid {lo lo' nx gt e A N l} (h : RowL lo nx gt e A N l) (h1 : lo' ≤ lo) : RowL lo' nx gt e A N l := ⟨h.1, fun hN a ha => Nat.le_trans h1 (h.2 hN a ha)⟩

def FoL (lo nx : Nat) (gt : Nat → Option Blk) : Fo → List Value → Prop
  | .nil, cs => cs = []
  | .cons t b k r, cs => ∃ (B : Option Addr) (m d : Nat) (A : Option Addr) (n c : Nat) (ks cs' : List Value), cs = .int .i64 t :: .slice B m d :: .slice A n c :: cs' ∧ (-9223372036854775808 ≤ t ∧ t ≤ 9223372036854775807) ∧ m ≤ d ∧ RowL lo nx gt 1 B m (b.map u8V) ∧ n ≤ c ∧ n = k.len ∧ RowL lo nx gt 3 A (n * 3) ks ∧ FoL lo nx gt k ks ∧ FoL lo nx gt r cs'

theorem FoL.keep {lo nx x : Nat} {gt g : Nat → Option Blk} (h1 : nx ≤ x) (h2 : ∀ p, lo ≤ p → p < nx → g p = gt p) : ∀ {F : Fo} {cs : List Value}, FoL lo nx gt F cs → FoL lo x g F cs := by
  intro F
  induction F with
  | nil => intro cs h; exact h
  | cons t b k r ih1 ih2 =>
    rintro cs ⟨B, m, d, A, n, c, ks, cs', rfl, a0, a1, a2, a3, a4, a5, a6, a7⟩
    exact ⟨B, m, d, A, n, c, ks, cs', rfl, a0, a1, a2.keep h1 h2, a3, a4, a5.keep h1 h2, ih1 a6, ih2 a7⟩
theorem FoL.wid {lo lo' nx : Nat} {gt : Nat → Option Blk} (h1 : lo' ≤ lo) : ∀ {F : Fo} {cs : List Value}, FoL lo nx gt F cs → FoL lo' nx gt F cs := by
  intro F
  induction F with
  | nil => intro cs h; exact h
  | cons t b k r ih1 ih2 =>
    rintro cs ⟨B, m, d, A, n, c, ks, cs', rfl, a0, a1, a2, a3, a4, a5, a6, a7⟩
    exact ⟨B, m, d, A, n, c, ks, cs', rfl, a0, a1, a2.wid h1, a3, a4, a5.wid h1, ih1 a6, ih2 a7⟩
theorem FoL.r {lo nx : Nat} {gt : Nat → Option Blk} : ∀ {F : Fo} {cs : List Value}, FoL lo nx gt F cs → FoR nx gt F cs := by
  intro F
  induction F with
  | nil => intro cs h; exact h
  | cons t b k r ih1 ih2 =>
    rintro cs ⟨B, m, d, A, n, c, ks, cs', rfl, a0, a1, a2, a3, a4, a5, a6, a7⟩
    exact ⟨B, m, d, A, n, c, ks, cs', rfl, a0, a1, a2.1, a3, a4, a5.1, ih1 a6, ih2 a7⟩
theorem FoL.app {lo nx : Nat} {gt : Nat → Option Blk} : ∀ {F : Fo} {cs : List Value} {G : Fo} {ds : List Value}, FoL lo nx gt F cs → FoL lo nx gt G ds → FoL lo nx gt (F.app G) (cs ++ ds) := by
  intro F
  induction F with
  | nil => intro cs G ds h k; rw [show cs = [] from h]; exact k
  | cons t b k r ih1 ih2 =>
    rintro cs G ds ⟨B, m, d, A, n, c, ks, cs', rfl, a0, a1, a2, a3, a4, a5, a6, a7⟩ h
    exact ⟨B, m, d, A, n, c, ks, cs' ++ ds, rfl, a0, a1, a2, a3, a4, a5, a6, ih2 a7 h⟩

structure NdL (lo nx : Nat) (gt : Nat → Option Blk) (x : Fo.El) (B : Option Addr) (m d : Nat) (A : Option Addr) (n c : Nat) (ks : List Value) : Prop where
  tg : -9223372036854775808 ≤ x.t ∧ x.t ≤ 9223372036854775807
  body : RowL lo nx gt 1 B m (x.b.map u8V)
  md : m ≤ d
  row : RowL lo nx gt 3 A (n * 3) ks
  nc : n ≤ c
  len : n = x.k.len
  kids : FoL lo nx gt x.k ks
theorem NdL.keep {lo nx x' : Nat} {gt g : Nat → Option Blk} {x B m d A n c ks} (h : NdL lo nx gt x B m d A n c ks) (h1 : nx ≤ x') (h2 : ∀ p, lo ≤ p → p < nx → g p = gt p) : NdL lo x' g x B m d A n c ks :=
  ⟨h.tg, h.body.keep h1 h2, h.md, h.row.keep h1 h2, h.nc, h.len, h.kids.keep h1 h2⟩
theorem NdL.wid {lo lo' nx : Nat} {gt : Nat → Option Blk} {x B m d A n c ks} (h : NdL lo nx gt x B m d A n c ks) (h1 : lo' ≤ lo) : NdL lo' nx gt x B m d A n c ks :=
  ⟨h.tg, h.body.wid h1, h.md, h.row.wid h1, h.nc, h.len, h.kids.wid h1⟩
theorem NdL.r {lo nx : Nat} {gt : Nat → Option Blk} {x B m d A n c ks} (h : NdL lo nx gt x B m d A n c ks) : NdR nx gt x B m d A n c ks :=
  ⟨h.tg, h.body.1, h.md, h.row.1, h.nc, h.len, h.kids.r⟩
theorem NdL.zero {lo nx : Nat} {gt : Nat → Option Blk} : NdL lo nx gt ⟨0, [], .nil⟩ none 0 0 none 0 0 [] := ⟨by simp, .nil, Nat.le_refl _, .nil, Nat.le_refl _, rfl, rfl⟩
theorem NdL.one {lo nx : Nat} {gt : Nat → Option Blk} {x B m d A n c ks} (h : NdL lo nx gt x B m d A n c ks) : FoL lo nx gt x.f (nodeL x.t B m d A n c) :=
  ⟨B, m, d, A, n, c, ks, [], rfl, h.tg, h.md, h.body, h.nc, h.len, h.row, h.kids, rfl⟩

theorem Own.rowL {nx b x g e A n l} (h : Own nx b x g e A n l) : RowL nx x g e A (n * e) l := by
  refine ⟨h.row, fun hN a ha => ?_⟩
  rcases h.2 with ⟨rfl, rfl⟩ | ⟨q, rfl, e2, e3, e4, e5⟩
  · cases ha
  · injection ha with ha; subst ha; exact e2
theorem Own.of {nx b x q n e : Nat} {g : Nat → Option Blk} {l : List Value} (hl : l.length = n * e) (h1 : nx ≤ q) (h2 : q < x) (h3 : b ≤ q) (h4 : g q = some (.cells l false)) : Own nx b x g e (some ⟨q, 0, some e⟩) n l :=
  ⟨hl, .inr ⟨q, rfl, h1, h2, h3, h4⟩⟩
theorem Own.blk {nx b x g e A n l} (h : Own nx b x g e A n l) : ∀ a e', A = some a → a.spot = some e' → nx ≤ a.block ∧ a.block < x := by
  intro a e' ha hs
  rcases h.2 with ⟨rfl, rfl⟩ | ⟨q, rfl, e2, e3, e4, e5⟩
  · cases ha
  · injection ha with ha; subst ha; exact ⟨e2, e3⟩
theorem FoL.len {lo nx : Nat} {gt : Nat → Option Blk} {F : Fo} {cs : List Value} (h : FoL lo nx gt F cs) : cs.length = F.len * 3 := h.r.len

/-- What is put behind an empty literal. -/
theorem app_lit {x b z k e bytes : Nat} {g : Nat → Option Blk} {news : List Value} {K : Value → Mem → Prop} (hz : z < x) (hg : g z = some (.cells [] false)) (he : 0 < e) (hl : news.length = k * e)
    (hv : ∀ v ∈ news, cellVal v = true) (hs : k * bytes ≤ 140737488355328) (hs' : k ≤ 9223372036854775807)
    (hK : ∀ A' x' g', x ≤ x' → (∀ i, i < x → g' i = g i) → RowL x x' g' e A' (k * e) news → K (.slice A' k k) ⟨x', b, g'⟩) :
    appendK e bytes ⟨x, b, g⟩ (some ⟨z, 0, none⟩) 0 0 k news K := by
  have G : Grow x b x g e (some ⟨z, 0, none⟩) 0 [] := Grow.lit (ro := false) hz hg (by simp)
  by_cases hk : k = 0
  · subst hk
    have hn : news = [] := List.eq_nil_of_length_eq_zero (by simpa using hl)
    subst hn
    have := hK (some ⟨z, 0, none⟩) x g (Nat.le_refl _) (fun _ _ => rfl) ⟨by simpa using G.row, fun h => absurd h (by simp)⟩
    unfold appendK
    refine ⟨by simp, he, by simp, ?_⟩
    rw [if_pos (by omega)]
    simpa using this
  · refine grow_fresh G he (by omega) hl hv (by simpa using hs) (by omega) fun g' h1 h2 => ?_
    have := hK (some ⟨x, 0, some e⟩) (x + 1) g' (Nat.le_succ _) (fun i hi => h1 i hi (fun a e' ha hs => by injection ha with ha; subst ha; cases hs)) ⟨⟨fun a h => by injection h with h; subst h; exact .inr rfl, hl, fun _ => ⟨_, _, false, rfl, by simp only; omega, h2, by simp [hl], fun i _ => by simp⟩⟩, fun _ a ha => by injection ha with ha; subst ha; exact Nat.le_refl _⟩
    simpa using this

namespace Fo
theorem elem_suf {s d : Nat} {l r : List UInt8} {x : El} (h : elem s d l = .ok (x, r)) : r.length < l.length ∧ l.drop (l.length - r.length) = r := by
  obtain ⟨h1, _, _⟩ := elem_ok h
  have h2 : 0 < x.f.ly.length := by
    simp only [El.f, ly, List.length_append, hb_len]
    have := hn_le (x.b.length + x.k.ly.length)
    omega
  subst h1
  refine ⟨by simp; omega, ?_⟩
  rw [List.length_append, show x.f.ly.length + r.length - r.length = x.f.ly.length by omega, List.drop_left]
theorem suf_drop {L s' p q : List UInt8} (h : p ++ (q ++ s') = L) : L.drop (L.length - s'.length) = s' := by
  subst h
  rw [← List.append_assoc, List.length_append, show (p ++ q).length + s'.length - s'.length = (p ++ q).length by omega, List.drop_left]
theorem KD_short {d : Nat} {l : List UInt8} (h : l ≠ []) : KD d l = match elem 3 d l with
    | .error e => .error (if e = 3 then 2 else e)
    | .ok (x, r) => match KD d r with
      | .error e => .error e
      | .ok q => .ok (.cons x.t x.b x.k q) := by
  rw [KD_cons h, elem_short]
  cases elem 3 d l <;> rfl
theorem hd_first {x : UInt8} {l r : List UInt8} {t n : Nat} (h : hd (x :: l) = .ok t n r) : t = x.toNat := by
  have h2 : (if x.toNat % 32 = 31 then Hd.form else hl x.toNat l) = .ok t n r := h
  split at h2
  · cases h2
  · exact (hl_ok h2).1
theorem elem_errs {s d e : Nat} {l : List UInt8} (h : elem s d l = .error e) : e = s ∨ e = 2 ∨ e = 4 := by
  unfold elem at h
  split at h
  · injection h with h; exact .inl h.symm
  · injection h with h; exact .inr (.inl h.symm)
  · split at h
    · injection h with h; exact .inl h.symm
    · split at h
      · injection h with h; exact .inr (.inr h.symm)
      · split at h
        · split at h
          · rename_i hk
            injection h with h; subst h
            exact .inr (kd_err hk)
          · cases h
        · cases h
end Fo
end Go.Ga

/- The first element of some bytes: the document's answer. -/
namespace Go.Ga
open Go Go.Proofs
set_option linter.unusedSimpArgs false
set_option linter.unusedVariables false
set_option maxRecDepth 100000
attribute [local irreducible] appendK

def ElV (N lo nx : Nat) (g : Nat → Option Blk) (v : Value) : Except Nat (Fo.El × List UInt8) → Prop
  | .error e => v = .tuple #[nodeV 0 none 0 0 none 0 0, .int .i64 0, .int .i64 (e : Nat)]
  | .ok (y, s) => ∃ (B : Option Addr) (m d : Nat) (A : Option Addr) (k c : Nat) (ks : List Value), v = .tuple #[nodeV y.t B m d A k c, .int .i64 ((N - s.length : Nat) : Int), .int .i64 0] ∧ NdL lo nx g y B m d A k c ks

/-- Where it ends: a node, a place, an error. -/
theorem end_el {b nx lo N : Nat} {gt : Nat → Option Blk} {f : Regs} {x' : Nat} {g' : Nat → Option Blk} {r : Except Nat (Fo.El × List UInt8)} {q : Nat} {cs : List Value} {ro : Bool} (h8 : f 8 = .pointer (some ⟨q, 0, none⟩)) (hg : g' q = some (.cells cs ro)) (hc : 3 ≤ cs.length)
    (h1 : nx ≤ x') (h2 : ∀ n, n < nx → g' n = gt n) (h3 : ElV N lo x' g' (.tuple #[.agg (cs.take 3).toArray, f 9, f 10]) r) : endK [.cN 8 3, .t 9, .t 10] b nx gt (fun v x g => ElV N lo x g v r) .ret f ⟨x', b, g'⟩ := by
  rw [end_r, res_cN h8 hg (by omega)]
  simp only [res_t, res_nil, Option.map_some, asO_e, one3, List.drop_zero]
  exact ⟨trivial, h1, h2, h3⟩


theorem ct_relem : ∀ (M nx : Nat) (gt : Nat → Option Blk) (A : Option Addr) (n c at' dp : Nat) (l : List UInt8), Row nx gt 1 A n (l.map u8V) → n ≤ c → n ≤ 1000000 → at' ≤ n → n - at' ≤ M → dp ≤ 32 →
    Ct Try.prog 21 [.slice A n c, .int .i64 (at' : Nat), .int .i64 (n : Nat), .int .i64 (dp : Nat)] nx gt fun v x g => ElV n nx x g v (Fo.elem 3 (32 - dp) (l.drop at')) := by
  intro M
  induction M using Nat.strongRecOn with
  | ind M ih =>
  intro nx gt A n c at' dp l hA hc hn hat hM hdp
  have hl : l.length = n := by simpa using hA.len
  refine Ct.of hmx r_lanyardref04_element (by simp [c_lanyardref04_element]) fun b hb => ?_
  have hF : ∀ q, q < nx → upd gt nx (some (.cells [Value.int .i64 0, .slice none 0 0, .slice none 0 0] false)) q = gt q := fun q hq => by simp only [upd_e]; rw [if_neg (by omega)]
  have hb0 : upd gt nx (some (.cells [Value.int .i64 0, .slice none 0 0, .slice none 0 0] false)) nx = some (.cells [Value.int .i64 0, .slice none 0 0, .slice none 0 0] false) := by simp only [upd_e, if_true]
  have hA0 := hA.keep (nx' := nx + 1) (by omega) hF
  simp only [c_lanyardref04_element, ↓gaW, ↓gaV, ↓gaC, ↓gaN, gaP, Nat.reduceEqDiff, Nat.reduceLeDiff, Nat.reduceAdd, Nat.reduceSub, Nat.reduceMul, Int.reduceLT, Int.reduceLE, Int.reduceEq, Int.reduceToNat, Int.reduceAdd, Int.reduceSub, Int.reduceMul, reduceCtorEq, ↓reduceIte, List.getD_cons_zero, List.getD_cons_succ, fillL, splice, List.take_zero, List.drop_zero, List.drop_succ_cons, List.take_succ_cons, List.drop_nil, List.take_nil, gaU]
  generalize upd gt nx (some (.cells [Value.int .i64 0, .slice none 0 0, .slice none 0 0] false)) = g0 at *
  refine callK_of (ct_rhead hA0 hc hn hat) (fun v x1 g1 l1 k1 hC => ?_) (by omega)
  have hb1 : g1 nx = some (.cells [Value.int .i64 0, .slice none 0 0, .slice none 0 0] false) := by rw [k1 nx (by omega), hb0]
  have F1 : ∀ p, p < nx → g1 p = gt p := fun p hp => by rw [k1 p (by omega), hF p hp]
  have hA1 := hA0.keep l1 k1
  cases hh : Fo.hd (l.drop at') with
  | short =>
    rw [hh] at hC
    have hC : v = _ := hC
    subst hC
    have e : Fo.elem 3 (32 - dp) (l.drop at') = .error 3 := by unfold Fo.elem; rw [hh]
    simp only [↓gaW, ↓gaV, ↓gaC, ↓gaN, gaP, Nat.reduceEqDiff, Nat.reduceLeDiff, Nat.reduceAdd, Nat.reduceSub, Nat.reduceMul, Int.reduceLT, Int.reduceLE, Int.reduceEq, Int.reduceToNat, Int.reduceAdd, Int.reduceSub, Int.reduceMul, reduceCtorEq, ↓reduceIte, List.getD_cons_zero, List.getD_cons_succ, fillL, splice, List.take_zero, List.drop_zero, List.drop_succ_cons, List.take_succ_cons, List.drop_nil, List.take_nil, hb1, e]
    repeat refine And.intro (by omega) ?_
    refine And.intro (node_cells _ _ _ _ _ _ _) ?_
    exact end_el (q := nx) (cs := nodeL 0 none 0 0 none 0 0) (ro := false) (by first | (simp only [↓gaW, ↓gaV, ↓gaC, ↓gaN, gaP, Nat.reduceEqDiff, Nat.reduceLeDiff, Nat.reduceAdd, Nat.reduceSub, Nat.reduceMul, Int.reduceLT, Int.reduceLE, Int.reduceEq, Int.reduceToNat, Int.reduceAdd, Int.reduceSub, Int.reduceMul, reduceCtorEq, ↓reduceIte]; done) | (simp only [↓gaW, ↓gaV, ↓gaC, ↓gaN, gaP, Nat.reduceEqDiff, Nat.reduceLeDiff, Nat.reduceAdd, Nat.reduceSub, Nat.reduceMul, Int.reduceLT, Int.reduceLE, Int.reduceEq, Int.reduceToNat, Int.reduceAdd, Int.reduceSub, Int.reduceMul, reduceCtorEq, ↓reduceIte]; rfl)) (by simp only [upd_e, if_true]) (by simp) (by omega) (fun p hp => by simp only [upd_e]; rw [if_neg (by omega), F1 p hp]) rfl
  | form =>
    rw [hh] at hC
    have hC : v = _ := hC
    subst hC
    have e : Fo.elem 3 (32 - dp) (l.drop at') = .error 2 := by unfold Fo.elem; rw [hh]
    simp only [↓gaW, ↓gaV, ↓gaC, ↓gaN, gaP, Nat.reduceEqDiff, Nat.reduceLeDiff, Nat.reduceAdd, Nat.reduceSub, Nat.reduceMul, Int.reduceLT, Int.reduceLE, Int.reduceEq, Int.reduceToNat, Int.reduceAdd, Int.reduceSub, Int.reduceMul, reduceCtorEq, ↓reduceIte, List.getD_cons_zero, List.getD_cons_succ, fillL, splice, List.take_zero, List.drop_zero, List.drop_succ_cons, List.take_succ_cons, List.drop_nil, List.take_nil, hb1, e]
    repeat refine And.intro (by omega) ?_
    refine And.intro (node_cells _ _ _ _ _ _ _) ?_
    exact end_el (q := nx) (cs := nodeL 0 none 0 0 none 0 0) (ro := false) (by first | (simp only [↓gaW, ↓gaV, ↓gaC, ↓gaN, gaP, Nat.reduceEqDiff, Nat.reduceLeDiff, Nat.reduceAdd, Nat.reduceSub, Nat.reduceMul, Int.reduceLT, Int.reduceLE, Int.reduceEq, Int.reduceToNat, Int.reduceAdd, Int.reduceSub, Int.reduceMul, reduceCtorEq, ↓reduceIte]; done) | (simp only [↓gaW, ↓gaV, ↓gaC, ↓gaN, gaP, Nat.reduceEqDiff, Nat.reduceLeDiff, Nat.reduceAdd, Nat.reduceSub, Nat.reduceMul, Int.reduceLT, Int.reduceLE, Int.reduceEq, Int.reduceToNat, Int.reduceAdd, Int.reduceSub, Int.reduceMul, reduceCtorEq, ↓reduceIte]; rfl)) (by simp only [upd_e, if_true]) (by simp) (by omega) (fun p hp => by simp only [upd_e]; rw [if_neg (by omega), F1 p hp]) rfl
  | ok t k r =>
    rw [hh] at hC
    have hC : v = _ := hC
    subst hC
    obtain ⟨⟨t0, t1, t2⟩, hk, hdr⟩ := Fo.hd_ok hh
    have hlr := Fo.hd_len hh
    have hhn := Fo.hn_le k
    rw [List.length_drop, hl] at hlr
    obtain ⟨fr, hfr⟩ : ∃ fr, fr = n - r.length := ⟨_, rfl⟩
    have hfr2 : l.length - r.length = fr := by rw [hl, hfr]
    have hrd : l.drop fr = r := by
      have := Fo.suf_drop (L := l) (s' := r) (p := l.take at') (q := Fo.hb (t : Nat) k) (by rw [← hdr, List.take_append_drop])
      rw [hfr2] at this
      exact this
    have i1 : IntKind.i64.wrap (((fr : Nat) : Int) + (k : Nat)) = ((fr + k : Nat) : Int) := by rw [i64_w _ (by omega)]; omega
    by_cases hsh : (n : Int) < ((fr + k : Nat) : Int)
    · have e : Fo.elem 3 (32 - dp) (l.drop at') = .error 3 := by unfold Fo.elem; rw [hh]; simp only; rw [if_pos (by omega)]
      have hnl : ¬ (n : Int) < (n : Int) := by omega
      simp only [↓gaW, ↓gaV, ↓gaC, ↓gaN, gaP, Nat.reduceEqDiff, Nat.reduceLeDiff, Nat.reduceAdd, Nat.reduceSub, Nat.reduceMul, Int.reduceLT, Int.reduceLE, Int.reduceEq, Int.reduceToNat, Int.reduceAdd, Int.reduceSub, Int.reduceMul, reduceCtorEq, ↓reduceIte, List.getD_cons_zero, List.getD_cons_succ, fillL, splice, List.take_zero, List.drop_zero, List.drop_succ_cons, List.take_succ_cons, List.drop_nil, List.take_nil, hb1, hfr2, i1, hsh, decide_true, hnl, decide_false, e]
      repeat refine And.intro (by omega) ?_
      refine And.intro (node_cells _ _ _ _ _ _ _) ?_
      exact end_el (q := nx) (cs := nodeL 0 none 0 0 none 0 0) (ro := false) (by first | (simp only [↓gaW, ↓gaV, ↓gaC, ↓gaN, gaP, Nat.reduceEqDiff, Nat.reduceLeDiff, Nat.reduceAdd, Nat.reduceSub, Nat.reduceMul, Int.reduceLT, Int.reduceLE, Int.reduceEq, Int.reduceToNat, Int.reduceAdd, Int.reduceSub, Int.reduceMul, reduceCtorEq, ↓reduceIte]; done) | (simp only [↓gaW, ↓gaV, ↓gaC, ↓gaN, gaP, Nat.reduceEqDiff, Nat.reduceLeDiff, Nat.reduceAdd, Nat.reduceSub, Nat.reduceMul, Int.reduceLT, Int.reduceLE, Int.reduceEq, Int.reduceToNat, Int.reduceAdd, Int.reduceSub, Int.reduceMul, reduceCtorEq, ↓reduceIte]; rfl)) (by simp only [upd_e, if_true]) (by simp) (by omega) (fun p hp => by simp only [upd_e]; rw [if_neg (by omega), F1 p hp]) rfl
    by_cases hd : (32 : Int) ≤ (dp : Int)
    · have e : Fo.elem 3 (32 - dp) (l.drop at') = .error 4 := by unfold Fo.elem; rw [hh]; simp only; rw [if_neg (by omega), if_pos (by omega)]
      simp only [↓gaW, ↓gaV, ↓gaC, ↓gaN, gaP, Nat.reduceEqDiff, Nat.reduceLeDiff, Nat.reduceAdd, Nat.reduceSub, Nat.reduceMul, Int.reduceLT, Int.reduceLE, Int.reduceEq, Int.reduceToNat, Int.reduceAdd, Int.reduceSub, Int.reduceMul, reduceCtorEq, ↓reduceIte, List.getD_cons_zero, List.getD_cons_succ, fillL, splice, List.take_zero, List.drop_zero, List.drop_succ_cons, List.take_succ_cons, List.drop_nil, List.take_nil, hb1, hfr2, i1, hsh, hd, decide_true, decide_false, e]
      repeat refine And.intro (by omega) ?_
      refine And.intro (node_cells _ _ _ _ _ _ _) ?_
      exact end_el (q := nx) (cs := nodeL 0 none 0 0 none 0 0) (ro := false) (by first | (simp only [↓gaW, ↓gaV, ↓gaC, ↓gaN, gaP, Nat.reduceEqDiff, Nat.reduceLeDiff, Nat.reduceAdd, Nat.reduceSub, Nat.reduceMul, Int.reduceLT, Int.reduceLE, Int.reduceEq, Int.reduceToNat, Int.reduceAdd, Int.reduceSub, Int.reduceMul, reduceCtorEq, ↓reduceIte]; done) | (simp only [↓gaW, ↓gaV, ↓gaC, ↓gaN, gaP, Nat.reduceEqDiff, Nat.reduceLeDiff, Nat.reduceAdd, Nat.reduceSub, Nat.reduceMul, Int.reduceLT, Int.reduceLE, Int.reduceEq, Int.reduceToNat, Int.reduceAdd, Int.reduceSub, Int.reduceMul, reduceCtorEq, ↓reduceIte]; rfl)) (by simp only [upd_e, if_true]) (by simp) (by omega) (fun p hp => by simp only [upd_e]; rw [if_neg (by omega), F1 p hp]) rfl
    obtain ⟨a, cl, ro, rfl, q2, q3, q4, q5⟩ := hA1.cells (by omega)
    have ht : l.getD at' 0 = UInt8.ofNat t := by
      have h1 : l.drop at' ≠ [] := fun h => by rw [h] at hh; cases hh
      cases hx : l.drop at' with
      | nil => exact absurd hx h1
      | cons x tl =>
        rw [hx] at hh
        have := Fo.hd_first hh
        have e : l.getD at' 0 = x := by
          have : (l.drop at').getD 0 0 = x := by rw [hx]; rfl
          simpa [List.getD_eq_getElem?_getD] using this
        rw [e, this]; simp
    have c0 : cl.getD (a.off + at') undef = .int .u8 (t : Nat) := by
      rw [q5 at' (by omega), getD_u8 (by omega), ht, UInt8.toNat_ofNat']
      congr 2; omega
    have iT : IntKind.i64.wrap ((t : Nat) : Int) = (t : Nat) := i64_w _ (by omega)
    obtain ⟨d', hd'⟩ : ∃ d', 32 - dp = d' + 1 := ⟨31 - dp, by omega⟩
    rw [hd']
    have he : Fo.elem 3 (d' + 1) (l.drop at') = if Fo.has (t : Nat) then (match Fo.KD d' (r.take k) with
        | .error e => .error e
        | .ok K => .ok (⟨t, [], K⟩, r.drop k)) else .ok (⟨t, r.take k, .nil⟩, r.drop k) := by
      unfold Fo.elem; rw [hh]; simp only; rw [if_neg (by omega), if_neg (by omega)]; rfl
    rw [he]
    simp only [↓gaW, ↓gaV, ↓gaC, ↓gaN, gaP, Nat.reduceEqDiff, Nat.reduceLeDiff, Nat.reduceAdd, Nat.reduceSub, Nat.reduceMul, Int.reduceLT, Int.reduceLE, Int.reduceEq, Int.reduceToNat, Int.reduceAdd, Int.reduceSub, Int.reduceMul, reduceCtorEq, ↓reduceIte, List.getD_cons_zero, List.getD_cons_succ, fillL, splice, List.take_zero, List.drop_zero, List.drop_succ_cons, List.take_succ_cons, List.drop_nil, List.take_nil, hfr2, i1, hsh, hd, decide_false, q3, c0, iT]
    repeat refine And.intro (by omega) ?_
    refine And.intro (node_cells _ _ _ _ _ _ _) (And.intro (by omega) ?_)
    obtain ⟨g2, hg2⟩ : ∃ g, g = upd (upd g1 x1 (some (.cells [Value.int .i64 0, .slice none 0 0, .slice none 0 0] false))) x1 (some (.cells [Value.int .i64 (t : Nat), .slice none 0 0, .slice none 0 0] false)) := ⟨_, rfl⟩
    have G2 : ∀ p, p < x1 → g2 p = g1 p := fun p hp => by rw [hg2]; simp only [upd_e]; rw [if_neg (by omega), if_neg (by omega)]
    have hq2 : g2 x1 = some (.cells [Value.int .i64 (t : Nat), .slice none 0 0, .slice none 0 0] false) := by rw [hg2]; simp only [upd_e, if_true]
    rw [← hg2]; clear hg2
    have hA2 := hA1.keep (nx' := x1 + 1) (by omega) G2
    refine callK_of (ct_within (t : Nat) (by omega)) (fun v x3 g3 l3 k3 hC => ?_) (by omega)
    subst hC
    have hA3 := hA2.keep l3 k3
    have hq3 : g3 x1 = some (.cells [Value.int .i64 (t : Nat), .slice none 0 0, .slice none 0 0] false) := by rw [k3 x1 (by omega), hq2]
    have hb3 : g3 nx = some (.cells [Value.int .i64 0, .slice none 0 0, .slice none 0 0] false) := by rw [k3 nx (by omega), G2 nx (by omega), hb1]
    have F3 : ∀ p, p < nx → g3 p = gt p := fun p hp => by rw [k3 p (by omega), G2 p (by omega), F1 p hp]
    cases hw : Fo.has (t : Nat) with
    | false =>
      have hkk : (((fr + k : Nat) : Int) - ((fr : Nat) : Int)).toNat = k := by omega
      have htk : (r.take k).length = k := by rw [List.length_take, Nat.min_eq_left (by omega)]
      have hnx1 : (nx = x1) = False := by simp; omega
      have hP := hA3.part (lo := fr) (hi := fr + k) (by omega) (by omega) rfl
      rw [show fr + k - fr = k by omega, ← List.map_drop, ← List.map_take, hrd] at hP
      have hZ : ∀ p, p < x3 → upd g3 x3 (some (Blk.cells [] false)) p = g3 p := fun p hp => by simp only [upd_e]; rw [if_neg (by omega)]
      have hz : upd g3 x3 (some (Blk.cells [] false)) x3 = some (.cells [] false) := by simp only [upd_e, if_true]
      have hP1 := hP.keep (nx' := x3 + 1) (by omega) hZ
      have e5 : rowOf ⟨x3 + 1, b, upd g3 x3 (some (Blk.cells [] false))⟩ (some ⟨a.block, a.off + fr, a.spot⟩) k = some ((r.take k).map u8V) := hP1.rowOf
      have hsp := hA3.spot a rfl
      simp only [↓gaW, ↓gaV, ↓gaC, ↓gaN, gaP, Nat.reduceEqDiff, Nat.reduceLeDiff, Nat.reduceAdd, Nat.reduceSub, Nat.reduceMul, Int.reduceLT, Int.reduceLE, Int.reduceEq, Int.reduceToNat, Int.reduceAdd, Int.reduceSub, Int.reduceMul, reduceCtorEq, ↓reduceIte, List.getD_cons_zero, List.getD_cons_succ, fillL, splice, List.take_zero, List.drop_zero, List.drop_succ_cons, List.take_succ_cons, List.drop_nil, List.take_nil, Bool.not_false, i1, Bool.false_eq_true, if_false, hkk, e5]
      refine And.intro (by omega) (And.intro (by omega) (And.intro (by omega) (And.intro (by omega) (And.intro (.inr hsp) ?_))))
      refine app_lit (by omega) hz (by omega) (by rw [List.length_map, htk, Nat.mul_one]) (all_u8 _) (by omega) (by omega) fun A6 x6 g6 l6 k6 R6 => ?_
      rw [Nat.mul_one] at R6
      have hq6 : g6 x1 = some (.cells [Value.int .i64 (t : Nat), .slice none 0 0, .slice none 0 0] false) := by rw [k6 x1 (by omega), hZ x1 (by omega), hq3]
      have hb6 : g6 nx = some (.cells [Value.int .i64 0, .slice none 0 0, .slice none 0 0] false) := by rw [k6 nx (by omega), hZ nx (by omega), hb3]
      simp only [↓gaW, ↓gaV, ↓gaC, ↓gaN, gaP, Nat.reduceEqDiff, Nat.reduceLeDiff, Nat.reduceAdd, Nat.reduceSub, Nat.reduceMul, Int.reduceLT, Int.reduceLE, Int.reduceEq, Int.reduceToNat, Int.reduceAdd, Int.reduceSub, Int.reduceMul, reduceCtorEq, ↓reduceIte, List.getD_cons_zero, List.getD_cons_succ, fillL, splice, List.take_zero, List.drop_zero, List.drop_succ_cons, List.take_succ_cons, List.drop_nil, List.take_nil, hq6, hb6, hnx1]
      refine And.intro (by omega) (And.intro (all1 rfl) (And.intro (by omega) (And.intro (node_cells _ _ _ _ _ _ _) ?_)))
      refine end_el (q := nx) (cs := nodeL (t : Nat) A6 k k none 0 0) (ro := false) (by first | (simp only [↓gaW, ↓gaV, ↓gaC, ↓gaN, gaP, Nat.reduceEqDiff, Nat.reduceLeDiff, Nat.reduceAdd, Nat.reduceSub, Nat.reduceMul, Int.reduceLT, Int.reduceLE, Int.reduceEq, Int.reduceToNat, Int.reduceAdd, Int.reduceSub, Int.reduceMul, reduceCtorEq, ↓reduceIte]; done) | (simp only [↓gaW, ↓gaV, ↓gaC, ↓gaN, gaP, Nat.reduceEqDiff, Nat.reduceLeDiff, Nat.reduceAdd, Nat.reduceSub, Nat.reduceMul, Int.reduceLT, Int.reduceLE, Int.reduceEq, Int.reduceToNat, Int.reduceAdd, Int.reduceSub, Int.reduceMul, reduceCtorEq, ↓reduceIte]; rfl)) (by simp only [upd_e, if_true]) (by simp) (by omega) (fun p hp => by simp only [upd_e]; rw [if_neg (by omega), if_neg (by omega), k6 p (by omega), hZ p (by omega), F3 p hp]) ?_
      have e9 : n - (r.drop k).length = fr + k := by rw [List.length_drop]; omega
      refine ⟨A6, k, k, none, 0, 0, [], by rw [e9]; rfl, ⟨by simp only; omega, (R6.keep (Nat.le_refl _) fun p hp _ => ?_).wid (by omega), Nat.le_refl _, .nil, Nat.le_refl _, rfl, rfl⟩⟩
      simp only [upd_e]; rw [if_neg (by omega), if_neg (by omega)]
    | true =>
      simp only [↓gaW, ↓gaV, ↓gaC, ↓gaN, gaP, Nat.reduceEqDiff, Nat.reduceLeDiff, Nat.reduceAdd, Nat.reduceSub, Nat.reduceMul, Int.reduceLT, Int.reduceLE, Int.reduceEq, Int.reduceToNat, Int.reduceAdd, Int.reduceSub, Int.reduceMul, reduceCtorEq, ↓reduceIte, List.getD_cons_zero, List.getD_cons_succ, fillL, splice, List.take_zero, List.drop_zero, List.drop_succ_cons, List.take_succ_cons, List.drop_nil, List.take_nil, Bool.not_true, if_true]
      have hd2 : d' = 32 - (dp + 1) := by omega
      have hsl : (l.take (fr + k)).drop fr = r.take k := by rw [List.drop_take, hrd, show fr + k - fr = k by omega]
      refine loop_of (fun j f mm => ∃ (x4 hi N cur : Nat) (g : Nat → Option Blk) (Ak : Option Addr) (cs : List Value) (pre : Fo), j = fr + k - cur ∧ fr ≤ cur ∧ cur ≤ fr + k ∧ (Fo.KD d' (r.take k) = match Fo.KD d' ((l.take (fr + k)).drop cur) with
          | .error e => .error e
          | .ok q => .ok (pre.app q)) ∧ f 0 = .slice (some a) n c ∧ f 2 = .int .i64 (n : Nat) ∧ f 3 = .int .i64 (dp : Nat) ∧ f 8 = .pointer (some ⟨nx, 0, none⟩) ∧ f 11 = .int .i64 (fr : Nat) ∧ f 12 = .int .i64 (k : Nat) ∧ f 14 = .pointer (some ⟨x1, 0, none⟩) ∧ f 15 = .int .i64 (cur : Nat) ∧
          mm = ⟨x4, b, g⟩ ∧ x3 ≤ x4 ∧ (∀ p, p < x3 → p ≠ x1 → g p = g3 p) ∧ g x1 = some (.cells [Value.int .i64 (t : Nat), .slice none 0 0, .slice Ak N N] false) ∧ N = pre.len ∧ Own x3 b x4 g 3 Ak N cs ∧ N ≤ cur ∧ FoL x3 hi g pre cs ∧ hi ≤ x4 ∧ (∀ a e, Ak = some a → a.spot = some e → hi ≤ a.block)) (fr + k - fr)
        ⟨x3, x3, 0, fr, g3, none, [], .nil, rfl, by omega, by omega, by rw [hsl]; cases Fo.KD d' (r.take k) <;> rfl, (by first | (simp only [↓gaW, ↓gaV, ↓gaC, ↓gaN, gaP, Nat.reduceEqDiff, Nat.reduceLeDiff, Nat.reduceAdd, Nat.reduceSub, Nat.reduceMul, Int.reduceLT, Int.reduceLE, Int.reduceEq, Int.reduceToNat, Int.reduceAdd, Int.reduceSub, Int.reduceMul, reduceCtorEq, ↓reduceIte]; done) | (simp only [↓gaW, ↓gaV, ↓gaC, ↓gaN, gaP, Nat.reduceEqDiff, Nat.reduceLeDiff, Nat.reduceAdd, Nat.reduceSub, Nat.reduceMul, Int.reduceLT, Int.reduceLE, Int.reduceEq, Int.reduceToNat, Int.reduceAdd, Int.reduceSub, Int.reduceMul, reduceCtorEq, ↓reduceIte]; rfl)), (by first | (simp only [↓gaW, ↓gaV, ↓gaC, ↓gaN, gaP, Nat.reduceEqDiff, Nat.reduceLeDiff, Nat.reduceAdd, Nat.reduceSub, Nat.reduceMul, Int.reduceLT, Int.reduceLE, Int.reduceEq, Int.reduceToNat, Int.reduceAdd, Int.reduceSub, Int.reduceMul, reduceCtorEq, ↓reduceIte]; done) | (simp only [↓gaW, ↓gaV, ↓gaC, ↓gaN, gaP, Nat.reduceEqDiff, Nat.reduceLeDiff, Nat.reduceAdd, Nat.reduceSub, Nat.reduceMul, Int.reduceLT, Int.reduceLE, Int.reduceEq, Int.reduceToNat, Int.reduceAdd, Int.reduceSub, Int.reduceMul, reduceCtorEq, ↓reduceIte]; rfl)), (by first | (simp only [↓gaW, ↓gaV, ↓gaC, ↓gaN, gaP, Nat.reduceEqDiff, Nat.reduceLeDiff, Nat.reduceAdd, Nat.reduceSub, Nat.reduceMul, Int.reduceLT, Int.reduceLE, Int.reduceEq, Int.reduceToNat, Int.reduceAdd, Int.reduceSub, Int.reduceMul, reduceCtorEq, ↓reduceIte]; done) | (simp only [↓gaW, ↓gaV, ↓gaC, ↓gaN, gaP, Nat.reduceEqDiff, Nat.reduceLeDiff, Nat.reduceAdd, Nat.reduceSub, Nat.reduceMul, Int.reduceLT, Int.reduceLE, Int.reduceEq, Int.reduceToNat, Int.reduceAdd, Int.reduceSub, Int.reduceMul, reduceCtorEq, ↓reduceIte]; rfl)), (by first | (simp only [↓gaW, ↓gaV, ↓gaC, ↓gaN, gaP, Nat.reduceEqDiff, Nat.reduceLeDiff, Nat.reduceAdd, Nat.reduceSub, Nat.reduceMul, Int.reduceLT, Int.reduceLE, Int.reduceEq, Int.reduceToNat, Int.reduceAdd, Int.reduceSub, Int.reduceMul, reduceCtorEq, ↓reduceIte]; done) | (simp only [↓gaW, ↓gaV, ↓gaC, ↓gaN, gaP, Nat.reduceEqDiff, Nat.reduceLeDiff, Nat.reduceAdd, Nat.reduceSub, Nat.reduceMul, Int.reduceLT, Int.reduceLE, Int.reduceEq, Int.reduceToNat, Int.reduceAdd, Int.reduceSub, Int.reduceMul, reduceCtorEq, ↓reduceIte]; rfl)), (by first | (simp only [↓gaW, ↓gaV, ↓gaC, ↓gaN, gaP, Nat.reduceEqDiff, Nat.reduceLeDiff, Nat.reduceAdd, Nat.reduceSub, Nat.reduceMul, Int.reduceLT, Int.reduceLE, Int.reduceEq, Int.reduceToNat, Int.reduceAdd, Int.reduceSub, Int.reduceMul, reduceCtorEq, ↓reduceIte]; done) | (simp only [↓gaW, ↓gaV, ↓gaC, ↓gaN, gaP, Nat.reduceEqDiff, Nat.reduceLeDiff, Nat.reduceAdd, Nat.reduceSub, Nat.reduceMul, Int.reduceLT, Int.reduceLE, Int.reduceEq, Int.reduceToNat, Int.reduceAdd, Int.reduceSub, Int.reduceMul, reduceCtorEq, ↓reduceIte]; rfl)), (by first | (simp only [↓gaW, ↓gaV, ↓gaC, ↓gaN, gaP, Nat.reduceEqDiff, Nat.reduceLeDiff, Nat.reduceAdd, Nat.reduceSub, Nat.reduceMul, Int.reduceLT, Int.reduceLE, Int.reduceEq, Int.reduceToNat, Int.reduceAdd, Int.reduceSub, Int.reduceMul, reduceCtorEq, ↓reduceIte]; done) | (simp only [↓gaW, ↓gaV, ↓gaC, ↓gaN, gaP, Nat.reduceEqDiff, Nat.reduceLeDiff, Nat.reduceAdd, Nat.reduceSub, Nat.reduceMul, Int.reduceLT, Int.reduceLE, Int.reduceEq, Int.reduceToNat, Int.reduceAdd, Int.reduceSub, Int.reduceMul, reduceCtorEq, ↓reduceIte]; rfl)), (by first | (simp only [↓gaW, ↓gaV, ↓gaC, ↓gaN, gaP, Nat.reduceEqDiff, Nat.reduceLeDiff, Nat.reduceAdd, Nat.reduceSub, Nat.reduceMul, Int.reduceLT, Int.reduceLE, Int.reduceEq, Int.reduceToNat, Int.reduceAdd, Int.reduceSub, Int.reduceMul, reduceCtorEq, ↓reduceIte]; done) | (simp only [↓gaW, ↓gaV, ↓gaC, ↓gaN, gaP, Nat.reduceEqDiff, Nat.reduceLeDiff, Nat.reduceAdd, Nat.reduceSub, Nat.reduceMul, Int.reduceLT, Int.reduceLE, Int.reduceEq, Int.reduceToNat, Int.reduceAdd, Int.reduceSub, Int.reduceMul, reduceCtorEq, ↓reduceIte]; rfl)), (by first | (simp only [↓gaW, ↓gaV, ↓gaC, ↓gaN, gaP, Nat.reduceEqDiff, Nat.reduceLeDiff, Nat.reduceAdd, Nat.reduceSub, Nat.reduceMul, Int.reduceLT, Int.reduceLE, Int.reduceEq, Int.reduceToNat, Int.reduceAdd, Int.reduceSub, Int.reduceMul, reduceCtorEq, ↓reduceIte]; done) | (simp only [↓gaW, ↓gaV, ↓gaC, ↓gaN, gaP, Nat.reduceEqDiff, Nat.reduceLeDiff, Nat.reduceAdd, Nat.reduceSub, Nat.reduceMul, Int.reduceLT, Int.reduceLE, Int.reduceEq, Int.reduceToNat, Int.reduceAdd, Int.reduceSub, Int.reduceMul, reduceCtorEq, ↓reduceIte]; rfl)), rfl, by omega, fun _ _ _ => rfl, hq3, rfl, .nil, by omega, rfl, by omega, fun _ _ h => by cases h⟩ ?_
      rintro j f mm ⟨x4, hi, N, cur, g4, Ak, cs, pre, hj, hc1, hc2, hKD, f0, f2, f3, f8, f11, f12, f14, f15, rfl, hx4, F4, hq4, hN, hG4, hNc, hFo, hhi, hAk⟩
      have F5 : ∀ p, p < nx → g4 p = gt p := fun p hp => by rw [F4 p (by omega) (by omega), F3 p hp]
      have hb4 : g4 nx = some (.cells [Value.int .i64 0, .slice none 0 0, .slice none 0 0] false) := by rw [F4 nx (by omega) (by omega), hb3]
      have hA4 := hA.keep (nx' := x4) (gt' := g4) (by omega) F5
      have hP := hA4.part (lo := 0) (hi := fr + k) (by omega) (by omega) rfl
      rw [Nat.add_zero, Nat.sub_zero, List.drop_zero, ← List.map_take] at hP
      by_cases hlt : (cur : Int) < ((fr + k : Nat) : Int)
      · have hsp := hA4.spot a rfl
        have iD : IntKind.i64.wrap ((dp : Int) + 1) = ((dp + 1 : Nat) : Int) := by rw [i64_w _ (by omega)]; omega
        have hne : (l.take (fr + k)).drop cur ≠ [] := fun h => by
          have := congrArg List.length h
          simp only [List.length_drop, List.length_take, List.length_nil] at this
          omega
        simp only [↓gaW, ↓gaV, ↓gaC, ↓gaN, gaP, Nat.reduceEqDiff, Nat.reduceLeDiff, Nat.reduceAdd, Nat.reduceSub, Nat.reduceMul, Int.reduceLT, Int.reduceLE, Int.reduceEq, Int.reduceToNat, Int.reduceAdd, Int.reduceSub, Int.reduceMul, reduceCtorEq, ↓reduceIte, List.getD_cons_zero, List.getD_cons_succ, fillL, splice, List.take_zero, List.drop_zero, List.drop_succ_cons, List.take_succ_cons, List.drop_nil, List.take_nil, f0, f2, f3, f11, f12, f15, i1, hlt, decide_true, iD]
        refine And.intro (by omega) (And.intro (by omega) (And.intro (by omega) (And.intro (.inr hsp) ?_)))
        rw [show (((fr + k : Nat) : Int) - 0).toNat = fr + k by omega, show ((c : Int) - 0).toNat = c by omega]
        refine callK_of (ih (fr + k - cur) (by omega) x4 g4 _ (fr + k) c cur (dp + 1) (l.take (fr + k)) hP (by omega) (by omega) (by omega) (by omega) (by omega)) (fun v x5 g5 l5 k5 hC => ?_) (by omega)
        rw [← hd2] at hC
        have hKs := Fo.KD_short (d := d') hne
        have F6 : ∀ p, p < nx → g5 p = gt p := fun p hp => by rw [k5 p (by omega), F5 p hp]
        have hb5 : g5 nx = some (.cells [Value.int .i64 0, .slice none 0 0, .slice none 0 0] false) := by rw [k5 nx (by omega), hb4]
        have hq5 : g5 x1 = some (.cells [Value.int .i64 (t : Nat), .slice none 0 0, .slice Ak N N] false) := by rw [k5 x1 (by omega), hq4]
        have hnx5 : (nx = x5) = False := by simp; omega
        have hx15 : (x1 = x5) = False := by simp; omega
        have hnx1 : (nx = x1) = False := by simp; omega
        have hx51 : (x5 = x1) = False := by simp; omega
        cases hEl : Fo.elem 3 d' ((l.take (fr + k)).drop cur) with
        | error e =>
          rw [hEl] at hC hKs
          have hC : v = _ := hC
          subst hC
          simp only at hKs
          rw [hKs] at hKD
          simp only at hKD
          rw [hKD]
          have herr := Fo.elem_errs hEl
          have hle : ((fr + k : Nat) : Int) ≤ (n : Int) := by omega
          by_cases he3 : e = 3
          · subst he3
            simp only [↓gaW, ↓gaV, ↓gaC, ↓gaN, gaP, Nat.reduceEqDiff, Nat.reduceLeDiff, Nat.reduceAdd, Nat.reduceSub, Nat.reduceMul, Int.reduceLT, Int.reduceLE, Int.reduceEq, Int.reduceToNat, Int.reduceAdd, Int.reduceSub, Int.reduceMul, reduceCtorEq, ↓reduceIte, List.getD_cons_zero, List.getD_cons_succ, fillL, splice, List.take_zero, List.drop_zero, List.drop_succ_cons, List.take_succ_cons, List.drop_nil, List.take_nil, f2, f8, f11, f12, i1, hle, decide_true, hb5, hnx5]
            repeat refine And.intro (by omega) ?_
            refine And.intro (node_cells _ _ _ _ _ _ _) (And.intro (by omega) (And.intro (node_cells _ _ _ _ _ _ _) ?_))
            exact end_el (q := nx) (cs := nodeL 0 none 0 0 none 0 0) (ro := false) (by simp only [↓gaW, ↓gaV, ↓gaC, ↓gaN, gaP, Nat.reduceEqDiff, Nat.reduceLeDiff, Nat.reduceAdd, Nat.reduceSub, Nat.reduceMul, Int.reduceLT, Int.reduceLE, Int.reduceEq, Int.reduceToNat, Int.reduceAdd, Int.reduceSub, Int.reduceMul, reduceCtorEq, ↓reduceIte, f8]) (by simp only [upd_e, if_true]) (by simp) (by omega) (fun p hp => by simp only [upd_e]; rw [if_neg (by omega), if_neg (by omega), if_neg (by omega), F6 p hp]) rfl
          · have he3i : ¬ (e : Int) = 3 := by omega
            have he0i : ¬ (e : Int) = 0 := by omega
            simp only [↓gaW, ↓gaV, ↓gaC, ↓gaN, gaP, Nat.reduceEqDiff, Nat.reduceLeDiff, Nat.reduceAdd, Nat.reduceSub, Nat.reduceMul, Int.reduceLT, Int.reduceLE, Int.reduceEq, Int.reduceToNat, Int.reduceAdd, Int.reduceSub, Int.reduceMul, reduceCtorEq, ↓reduceIte, List.getD_cons_zero, List.getD_cons_succ, fillL, splice, List.take_zero, List.drop_zero, List.drop_succ_cons, List.take_succ_cons, List.drop_nil, List.take_nil, f2, f8, f11, f12, i1, hle, he3i, he0i, decide_true, decide_false, hb5, hnx5, if_neg he3]
            repeat refine And.intro (by omega) ?_
            refine And.intro (node_cells _ _ _ _ _ _ _) (And.intro (by omega) (And.intro (node_cells _ _ _ _ _ _ _) ?_))
            exact end_el (q := nx) (cs := nodeL 0 none 0 0 none 0 0) (ro := false) (by simp only [↓gaW, ↓gaV, ↓gaC, ↓gaN, gaP, Nat.reduceEqDiff, Nat.reduceLeDiff, Nat.reduceAdd, Nat.reduceSub, Nat.reduceMul, Int.reduceLT, Int.reduceLE, Int.reduceEq, Int.reduceToNat, Int.reduceAdd, Int.reduceSub, Int.reduceMul, reduceCtorEq, ↓reduceIte, f8]) (by simp only [upd_e, if_true]) (by simp) (by omega) (fun p hp => by simp only [upd_e]; rw [if_neg (by omega), if_neg (by omega), if_neg (by omega), F6 p hp]) rfl
        | ok ys =>
          obtain ⟨y, s'⟩ := ys
          rw [hEl] at hC hKs
          obtain ⟨B', m', dd, A', n', c', ks', hv, hNd⟩ := hC
          have hv : v = _ := hv
          subst hv
          simp only [↓gaW, ↓gaV, ↓gaC, ↓gaN, gaP, Nat.reduceEqDiff, Nat.reduceLeDiff, Nat.reduceAdd, Nat.reduceSub, Nat.reduceMul, Int.reduceLT, Int.reduceLE, Int.reduceEq, Int.reduceToNat, Int.reduceAdd, Int.reduceSub, Int.reduceMul, reduceCtorEq, ↓reduceIte, List.getD_cons_zero, List.getD_cons_succ, fillL, splice, List.take_zero, List.drop_zero, List.drop_succ_cons, List.take_succ_cons, List.drop_nil, List.take_nil, f2, f8, f11, f12, f14, i1, hq5, hx15]
          repeat refine And.intro (by omega) ?_
          refine And.intro (node_cells _ _ _ _ _ _ _) (And.intro (by omega) ?_)
          obtain ⟨g6, hg6⟩ : ∃ g, g = upd (upd (upd g5 x5 (some (.cells [Value.int .i64 0, .slice none 0 0, .slice none 0 0] false))) x5 (some (.cells (nodeL y.t B' m' dd A' n' c') false))) (x5 + 1) (some (.cells (nodeL y.t B' m' dd A' n' c') false)) := ⟨_, rfl⟩
          have G6 : ∀ p, p < x5 → g6 p = g5 p := fun p hp => by rw [hg6]; simp only [upd_e]; rw [if_neg (by omega), if_neg (by omega), if_neg (by omega)]
          have hc6 : g6 (x5 + 1) = some (.cells (nodeL y.t B' m' dd A' n' c') false) := by rw [hg6]; simp only [upd_e, if_true]
          rw [← hg6]; clear hg6
          have e6 : rowOf ⟨x5 + 1 + 1, b, g6⟩ (some ⟨x5 + 1, 0, none⟩) 3 = some (nodeL y.t B' m' dd A' n' c') := (Row.lit (e := 1) (by omega) hc6 rfl).rowOf
          rw [e6]
          simp only [asO_e]
          have hO6 : Own x3 b (x5 + 1 + 1) g6 3 Ak N cs := hG4.keep (by omega) (fun p hp => by rw [G6 p (by omega), k5 p hp])
          have hblk := hG4.blk
          obtain ⟨hs1, hs2⟩ := Fo.elem_suf hEl
          have hLl : (l.take (fr + k)).length = fr + k := by rw [List.length_take]; omega
          have hel := (Fo.elem_ok hEl).1
          have hs3 : (l.take (fr + k)).drop (fr + k - s'.length) = s' := by
            have := Fo.suf_drop (L := l.take (fr + k)) (s' := s') (p := (l.take (fr + k)).take cur) (q := y.f.ly) (by rw [hel, List.take_append_drop])
            rw [hLl] at this
            exact this
          rw [List.length_drop, hLl] at hs1
          refine grow_fresh (.inl hO6) (by omega) (by omega) rfl (node_cells _ _ _ _ _ _ _) (by omega) (by omega) fun g7 k7 c7 => ?_
          have hq7 : g7 x1 = some (.cells [Value.int .i64 (t : Nat), .slice none 0 0, .slice Ak N N] false) := by rw [k7 x1 (by omega) (fun a e ha hs => by have := hblk a e ha hs; omega), G6 x1 (by omega), hq5]
          simp only [↓gaW, ↓gaV, ↓gaC, ↓gaN, gaP, Nat.reduceEqDiff, Nat.reduceLeDiff, Nat.reduceAdd, Nat.reduceSub, Nat.reduceMul, Int.reduceLT, Int.reduceLE, Int.reduceEq, Int.reduceToNat, Int.reduceAdd, Int.reduceSub, Int.reduceMul, reduceCtorEq, ↓reduceIte, List.getD_cons_zero, List.getD_cons_succ, fillL, splice, List.take_zero, List.drop_zero, List.drop_succ_cons, List.take_succ_cons, List.drop_nil, List.take_nil, hq7, loopK_n]
          refine And.intro (by omega) (And.intro (all1 rfl) ?_)
          have hcsl : cs.length = N * 3 := hG4.1
          have hFin : ∀ p, p ≠ x1 → upd g7 x1 (some (Blk.cells [Value.int IntKind.i64 (t : Nat), Value.slice none 0 0, Value.slice (some ⟨x5 + 1 + 1, 0, some 3⟩) (N + 1) (N + 1)] false)) p = g7 p := fun p hp => by simp only [upd_e]; rw [if_neg hp]
          have hFx : upd g7 x1 (some (Blk.cells [Value.int IntKind.i64 (t : Nat), Value.slice none 0 0, Value.slice (some ⟨x5 + 1 + 1, 0, some 3⟩) (N + 1) (N + 1)] false)) x1 = some (.cells [Value.int .i64 (t : Nat), .slice none 0 0, .slice (some ⟨x5 + 1 + 1, 0, some 3⟩) (N + 1) (N + 1)] false) := by simp only [upd_e, if_true]
          generalize upd g7 x1 (some (Blk.cells [Value.int IntKind.i64 (t : Nat), Value.slice none 0 0, Value.slice (some ⟨x5 + 1 + 1, 0, some 3⟩) (N + 1) (N + 1)] false)) = g8 at *
          refine ⟨fr + k - (fr + k - s'.length), by omega, x5 + 1 + 1 + 1, x5 + 1 + 1, N + 1, fr + k - s'.length, g8, some ⟨x5 + 1 + 1, 0, some 3⟩, cs ++ nodeL y.t B' m' dd A' n' c', pre.app y.f, rfl, by omega, by omega, ?_, f0, f2, f3, f8, f11, f12, f14, rfl, rfl, by omega, fun p hp hpx => ?_, hFx, by rw [Fo.len_app, hN]; rfl, ?_, by omega, ?_, by omega, fun a e ha hs => by injection ha with ha; subst ha; exact Nat.le_refl _⟩
          · simp only at hKs
            rw [hKD, hKs, hs3]
            cases Fo.KD d' s' with
            | error e => rfl
            | ok q => simp only [Fo.app_one]
          · rw [hFin p hpx, k7 p (by omega) (fun a e ha hs => by have := hblk a e ha hs; omega), G6 p (by omega), k5 p (by omega), F4 p hp hpx]
          · exact Own.of (by simp only [List.length_append, hcsl, List.length_cons, List.length_nil]; omega) (by omega) (by omega) (by omega) (by rw [hFin _ (by omega), c7])
          · refine FoL.app (hFo.keep (by omega) fun p h1 h2 => ?_) ((hNd.one.keep (by omega) fun p h1 h2 => ?_).wid (by omega))
            · rw [hFin p (by omega), k7 p (by omega) (fun a e ha hs => by have := hAk a e ha hs; omega), G6 p (by omega), k5 p (by omega)]
            · rw [hFin p (by omega), k7 p (by omega) (fun a e ha hs => by have := hblk a e ha hs; omega), G6 p (by omega)]
      · have hkt : (r.take k).length = k := by rw [List.length_take, Nat.min_eq_left (by omega)]
        have hcur : cur = fr + k := by omega
        have hnil : (l.take (fr + k)).drop cur = [] := by
          apply List.eq_nil_of_length_eq_zero
          simp only [List.length_drop, List.length_take]; omega
        rw [hnil, Fo.KD_nil] at hKD
        simp only [Fo.app_nil] at hKD
        rw [hKD]
        simp only [↓gaW, ↓gaV, ↓gaC, ↓gaN, gaP, Nat.reduceEqDiff, Nat.reduceLeDiff, Nat.reduceAdd, Nat.reduceSub, Nat.reduceMul, Int.reduceLT, Int.reduceLE, Int.reduceEq, Int.reduceToNat, Int.reduceAdd, Int.reduceSub, Int.reduceMul, reduceCtorEq, ↓reduceIte, List.getD_cons_zero, List.getD_cons_succ, fillL, splice, List.take_zero, List.drop_zero, List.drop_succ_cons, List.take_succ_cons, List.drop_nil, List.take_nil, f0, f2, f3, f8, f11, f12, f14, f15, i1, hlt, decide_false, hq4, hb4]
        repeat refine And.intro (by omega) ?_
        refine And.intro (node_cells _ _ _ _ _ _ _) ?_
        refine end_el (q := nx) (cs := nodeL (t : Nat) none 0 0 Ak N N) (ro := false) (by simp only [↓gaW, ↓gaV, ↓gaC, ↓gaN, gaP, Nat.reduceEqDiff, Nat.reduceLeDiff, Nat.reduceAdd, Nat.reduceSub, Nat.reduceMul, Int.reduceLT, Int.reduceLE, Int.reduceEq, Int.reduceToNat, Int.reduceAdd, Int.reduceSub, Int.reduceMul, reduceCtorEq, ↓reduceIte, f8]) (by simp only [upd_e, if_true]) (by simp) (by omega) (fun p hp => by simp only [upd_e]; rw [if_neg (by omega), F5 p hp]) ?_
        have e9 : n - (r.drop k).length = fr + k := by rw [List.length_drop]; omega
        refine ⟨none, 0, 0, Ak, N, N, cs, by rw [e9]; rfl, ⟨by simp only; omega, .nil, Nat.le_refl _, (hG4.rowL.keep (Nat.le_refl _) fun p hp _ => ?_).wid (by omega), Nat.le_refl _, hN, ?_⟩⟩
        · simp only [upd_e]; rw [if_neg (by omega)]
        · exact (hFo.keep hhi fun p hp _ => by simp only [upd_e]; rw [if_neg (by omega)]).wid (by omega)
end Go.Ga

/- Read: the document's answer. -/
namespace Go.Ga
open Go Go.Proofs
set_option linter.unusedSimpArgs false
set_option linter.unusedVariables false
set_option maxRecDepth 100000
attribute [local irreducible] appendK

def ReadV (nx : Nat) (g : Nat → Option Blk) (v : Value) : Except Nat Fo.El → Prop
  | .error e => v = .tuple #[nodeV 0 none 0 0 none 0 0, .int .i64 (e : Nat)]
  | .ok y => ∃ (B : Option Addr) (m d : Nat) (A : Option Addr) (k c : Nat) (ks : List Value), v = .tuple #[nodeV y.t B m d A k c, .int .i64 0] ∧ NdR nx g y B m d A k c ks

theorem end_rd {b nx : Nat} {gt : Nat → Option Blk} {f : Regs} {x' : Nat} {g' : Nat → Option Blk} {r : Except Nat Fo.El} {q : Nat} {cs : List Value} {ro : Bool} (h8 : f 2 = .pointer (some ⟨q, 0, none⟩)) (hg : g' q = some (.cells cs ro)) (hc : 3 ≤ cs.length)
    (h1 : nx ≤ x') (h2 : ∀ n, n < nx → g' n = gt n) (h3 : ReadV x' g' (.tuple #[.agg (cs.take 3).toArray, f 3]) r) : endK [.cN 2 3, .t 3] b nx gt (fun v x g => ReadV x g v r) .ret f ⟨x', b, g'⟩ := by
  rw [end_r, res_cN h8 hg (by omega)]
  simp only [res_t, res_nil, Option.map_some, asO_e, one2, List.drop_zero]
  exact ⟨trivial, h1, h2, h3⟩

theorem ct_rRead {nx : Nat} {gt : Nat → Option Blk} {A : Option Addr} {n c : Nat} {l : List UInt8} (hA : Row nx gt 1 A n (l.map u8V)) (hc : n ≤ c) (hn : n ≤ 1000000) :
    Ct Try.prog 11 [.slice A n c] nx gt fun v x g => ReadV x g v (Fo.rd l) := by
  have hl : l.length = n := by simpa using hA.len
  refine Ct.of hmx r_lanyardref04_Read (by simp [c_lanyardref04_Read]) fun b hb => ?_
  have hF : ∀ q, q < nx → upd gt nx (some (.cells [Value.int .i64 0, .slice none 0 0, .slice none 0 0] false)) q = gt q := fun q hq => by simp only [upd_e]; rw [if_neg (by omega)]
  have hb0 : upd gt nx (some (.cells [Value.int .i64 0, .slice none 0 0, .slice none 0 0] false)) nx = some (.cells [Value.int .i64 0, .slice none 0 0, .slice none 0 0] false) := by simp only [upd_e, if_true]
  have hA0 := hA.keep (nx' := nx + 1) (by omega) hF
  simp only [c_lanyardref04_Read, ↓gaW, ↓gaV, ↓gaC, ↓gaN, gaP, Nat.reduceEqDiff, Nat.reduceLeDiff, Nat.reduceAdd, Nat.reduceSub, Nat.reduceMul, Int.reduceLT, Int.reduceLE, Int.reduceEq, Int.reduceToNat, Int.reduceAdd, Int.reduceSub, Int.reduceMul, reduceCtorEq, ↓reduceIte, List.getD_cons_zero, List.getD_cons_succ, fillL, splice, List.take_zero, List.drop_zero, List.drop_succ_cons, List.take_succ_cons, List.drop_nil, List.take_nil, gaU]
  generalize upd gt nx (some (.cells [Value.int .i64 0, .slice none 0 0, .slice none 0 0] false)) = g0 at *
  by_cases hbig : (20000 : Int) < (n : Int)
  · have e : Fo.rd l = .error 5 := by unfold Fo.rd; rw [if_pos (by omega)]
    simp only [↓gaW, ↓gaV, ↓gaC, ↓gaN, gaP, Nat.reduceEqDiff, Nat.reduceLeDiff, Nat.reduceAdd, Nat.reduceSub, Nat.reduceMul, Int.reduceLT, Int.reduceLE, Int.reduceEq, Int.reduceToNat, Int.reduceAdd, Int.reduceSub, Int.reduceMul, reduceCtorEq, ↓reduceIte, List.getD_cons_zero, List.getD_cons_succ, fillL, splice, List.take_zero, List.drop_zero, List.drop_succ_cons, List.take_succ_cons, List.drop_nil, List.take_nil, hbig, decide_true, hb0, e]
    repeat refine And.intro (by omega) ?_
    refine And.intro (node_cells _ _ _ _ _ _ _) ?_
    exact end_rd (q := nx) (cs := nodeL 0 none 0 0 none 0 0) (ro := false) (by first | (simp only [↓gaW, ↓gaV, ↓gaC, ↓gaN, gaP, Nat.reduceEqDiff, Nat.reduceLeDiff, Nat.reduceAdd, Nat.reduceSub, Nat.reduceMul, Int.reduceLT, Int.reduceLE, Int.reduceEq, Int.reduceToNat, Int.reduceAdd, Int.reduceSub, Int.reduceMul, reduceCtorEq, ↓reduceIte]; done) | (simp only [↓gaW, ↓gaV, ↓gaC, ↓gaN, gaP, Nat.reduceEqDiff, Nat.reduceLeDiff, Nat.reduceAdd, Nat.reduceSub, Nat.reduceMul, Int.reduceLT, Int.reduceLE, Int.reduceEq, Int.reduceToNat, Int.reduceAdd, Int.reduceSub, Int.reduceMul, reduceCtorEq, ↓reduceIte]; rfl)) (by simp only [upd_e, if_true]) (by simp) (by omega) (fun p hp => by simp only [upd_e]; rw [if_neg (by omega), hF p hp]) rfl
  simp only [↓gaW, ↓gaV, ↓gaC, ↓gaN, gaP, Nat.reduceEqDiff, Nat.reduceLeDiff, Nat.reduceAdd, Nat.reduceSub, Nat.reduceMul, Int.reduceLT, Int.reduceLE, Int.reduceEq, Int.reduceToNat, Int.reduceAdd, Int.reduceSub, Int.reduceMul, reduceCtorEq, ↓reduceIte, List.getD_cons_zero, List.getD_cons_succ, fillL, splice, List.take_zero, List.drop_zero, List.drop_succ_cons, List.take_succ_cons, List.drop_nil, List.take_nil, hbig, decide_false]
  refine callK_of (ct_relem n (nx + 1) g0 A n c 0 0 l hA0 hc hn (by omega) (by omega) (by omega)) (fun v x1 g1 l1 k1 hC => ?_) (by omega)
  rw [List.drop_zero, show 32 - 0 = 32 by omega] at hC
  have hb1 : g1 nx = some (.cells [Value.int .i64 0, .slice none 0 0, .slice none 0 0] false) := by rw [k1 nx (by omega), hb0]
  have F1 : ∀ p, p < nx → g1 p = gt p := fun p hp => by rw [k1 p (by omega), hF p hp]
  have hnx1 : (nx = x1) = False := by simp; omega
  cases hEl : Fo.elem 3 32 l with
  | error e =>
    rw [hEl] at hC
    have hC : v = _ := hC
    subst hC
    have herr := Fo.elem_errs hEl
    have he0i : ¬ (e : Int) = 0 := by omega
    have er : Fo.rd l = .error e := by unfold Fo.rd; rw [if_neg (by omega), hEl]
    simp only [↓gaW, ↓gaV, ↓gaC, ↓gaN, gaP, Nat.reduceEqDiff, Nat.reduceLeDiff, Nat.reduceAdd, Nat.reduceSub, Nat.reduceMul, Int.reduceLT, Int.reduceLE, Int.reduceEq, Int.reduceToNat, Int.reduceAdd, Int.reduceSub, Int.reduceMul, reduceCtorEq, ↓reduceIte, List.getD_cons_zero, List.getD_cons_succ, fillL, splice, List.take_zero, List.drop_zero, List.drop_succ_cons, List.take_succ_cons, List.drop_nil, List.take_nil, he0i, decide_false, hb1, hnx1, er]
    repeat refine And.intro (by omega) ?_
    refine And.intro (node_cells _ _ _ _ _ _ _) (And.intro (by omega) (And.intro (node_cells _ _ _ _ _ _ _) ?_))
    exact end_rd (q := nx) (cs := nodeL 0 none 0 0 none 0 0) (ro := false) (by first | (simp only [↓gaW, ↓gaV, ↓gaC, ↓gaN, gaP, Nat.reduceEqDiff, Nat.reduceLeDiff, Nat.reduceAdd, Nat.reduceSub, Nat.reduceMul, Int.reduceLT, Int.reduceLE, Int.reduceEq, Int.reduceToNat, Int.reduceAdd, Int.reduceSub, Int.reduceMul, reduceCtorEq, ↓reduceIte]; done) | (simp only [↓gaW, ↓gaV, ↓gaC, ↓gaN, gaP, Nat.reduceEqDiff, Nat.reduceLeDiff, Nat.reduceAdd, Nat.reduceSub, Nat.reduceMul, Int.reduceLT, Int.reduceLE, Int.reduceEq, Int.reduceToNat, Int.reduceAdd, Int.reduceSub, Int.reduceMul, reduceCtorEq, ↓reduceIte]; rfl)) (by simp only [upd_e, if_true]) (by simp) (by omega) (fun p hp => by simp only [upd_e]; rw [if_neg (by omega), if_neg (by omega), if_neg (by omega), F1 p hp]) rfl
  | ok ys =>
    obtain ⟨y, s'⟩ := ys
    rw [hEl] at hC
    obtain ⟨B', m', dd, A', n', c', ks', hv, hNd⟩ := hC
    have hv : v = _ := hv
    subst hv
    by_cases hs : s' = []
    · have er : Fo.rd l = .ok y := by unfold Fo.rd; rw [if_neg (by omega), hEl]; simp only; rw [if_pos hs]
      subst hs
      have hlt : ¬ ((n - 0 : Nat) : Int) < (n : Int) := by omega
      simp only [↓gaW, ↓gaV, ↓gaC, ↓gaN, gaP, Nat.reduceEqDiff, Nat.reduceLeDiff, Nat.reduceAdd, Nat.reduceSub, Nat.reduceMul, Int.reduceLT, Int.reduceLE, Int.reduceEq, Int.reduceToNat, Int.reduceAdd, Int.reduceSub, Int.reduceMul, reduceCtorEq, ↓reduceIte, List.getD_cons_zero, List.getD_cons_succ, fillL, splice, List.take_zero, List.drop_zero, List.drop_succ_cons, List.take_succ_cons, List.drop_nil, List.take_nil, hlt, decide_false, hb1, hnx1, er]
      repeat refine And.intro (by omega) ?_
      refine And.intro (node_cells _ _ _ _ _ _ _) (And.intro (by omega) (And.intro (node_cells _ _ _ _ _ _ _) ?_))
      refine end_rd (q := nx) (cs := nodeL y.t B' m' dd A' n' c') (ro := false) (by first | (simp only [↓gaW, ↓gaV, ↓gaC, ↓gaN, gaP, Nat.reduceEqDiff, Nat.reduceLeDiff, Nat.reduceAdd, Nat.reduceSub, Nat.reduceMul, Int.reduceLT, Int.reduceLE, Int.reduceEq, Int.reduceToNat, Int.reduceAdd, Int.reduceSub, Int.reduceMul, reduceCtorEq, ↓reduceIte]; done) | (simp only [↓gaW, ↓gaV, ↓gaC, ↓gaN, gaP, Nat.reduceEqDiff, Nat.reduceLeDiff, Nat.reduceAdd, Nat.reduceSub, Nat.reduceMul, Int.reduceLT, Int.reduceLE, Int.reduceEq, Int.reduceToNat, Int.reduceAdd, Int.reduceSub, Int.reduceMul, reduceCtorEq, ↓reduceIte]; rfl)) (by simp only [upd_e, if_true]) (by simp) (by omega) (fun p hp => by simp only [upd_e]; rw [if_neg (by omega), if_neg (by omega), if_neg (by omega), F1 p hp]) ?_
      refine ⟨B', m', dd, A', n', c', ks', rfl, (hNd.keep (x' := x1 + 1) (by omega) fun p h1 h2 => ?_).r⟩
      simp only [upd_e]; rw [if_neg (by omega), if_neg (by omega), if_neg (by omega)]
    · have hs0 : 0 < s'.length := List.length_pos_iff.2 hs
      have hlt2 := (Fo.elem_suf hEl).1
      have er : Fo.rd l = .error 2 := by unfold Fo.rd; rw [if_neg (by omega), hEl]; simp only; rw [if_neg hs]
      have hlt : ((n - s'.length : Nat) : Int) < (n : Int) := by omega
      simp only [↓gaW, ↓gaV, ↓gaC, ↓gaN, gaP, Nat.reduceEqDiff, Nat.reduceLeDiff, Nat.reduceAdd, Nat.reduceSub, Nat.reduceMul, Int.reduceLT, Int.reduceLE, Int.reduceEq, Int.reduceToNat, Int.reduceAdd, Int.reduceSub, Int.reduceMul, reduceCtorEq, ↓reduceIte, List.getD_cons_zero, List.getD_cons_succ, fillL, splice, List.take_zero, List.drop_zero, List.drop_succ_cons, List.take_succ_cons, List.drop_nil, List.take_nil, hlt, decide_true, hb1, hnx1, er]
      repeat refine And.intro (by omega) ?_
      refine And.intro (node_cells _ _ _ _ _ _ _) (And.intro (by omega) (And.intro (node_cells _ _ _ _ _ _ _) ?_))
      exact end_rd (q := nx) (cs := nodeL 0 none 0 0 none 0 0) (ro := false) (by first | (simp only [↓gaW, ↓gaV, ↓gaC, ↓gaN, gaP, Nat.reduceEqDiff, Nat.reduceLeDiff, Nat.reduceAdd, Nat.reduceSub, Nat.reduceMul, Int.reduceLT, Int.reduceLE, Int.reduceEq, Int.reduceToNat, Int.reduceAdd, Int.reduceSub, Int.reduceMul, reduceCtorEq, ↓reduceIte]; done) | (simp only [↓gaW, ↓gaV, ↓gaC, ↓gaN, gaP, Nat.reduceEqDiff, Nat.reduceLeDiff, Nat.reduceAdd, Nat.reduceSub, Nat.reduceMul, Int.reduceLT, Int.reduceLE, Int.reduceEq, Int.reduceToNat, Int.reduceAdd, Int.reduceSub, Int.reduceMul, reduceCtorEq, ↓reduceIte]; rfl)) (by simp only [upd_e, if_true]) (by simp) (by omega) (fun p hp => by simp only [upd_e]; rw [if_neg (by omega), if_neg (by omega), if_neg (by omega), F1 p hp]) rfl
end Go.Ga

/- A reader: bytes, and what is said where they end. A panic. -/
namespace Go.Ga
open Go

def asE (v : Value) (K : Value → Prop) : Prop := match v with | .iface t u => K (.iface t u) | _ => False
@[congr] theorem asE_congr {v v' : Value} {K : Value → Prop} (h : v = v') : asE v K = asE v' K := by rw [h]
theorem asE_e (t : TypeId) (v : Value) (K) : asE (.iface t v) K = K (.iface t v) := (rfl)
theorem go_pan {P : Program} {f : Regs} {m : Mem} {Q : AEx → Regs → Mem → Prop} {d : Option Nat} {l : List RO} (x : Rv) : goOps P (⟨d, .pan x, none⟩ :: l) f m Q = asE (x.ev f) fun v => Q (.pan v) f m := by
  simp only [goOps, wantedA, Item.vc, asE]
  cases x.ev f <;> rfl

/-- A slice of bytes that lies in another block than q. -/
def SlB (nx : Nat) (g : Nat → Option Blk) (q : Nat) (v : Value) (l : List UInt8) : Prop :=
  ∃ (A : Option Addr) (N c : Nat), v = .slice A N c ∧ l.length = N ∧ N ≤ c ∧ (A = none → N = 0) ∧ Row nx g 1 A N (l.map u8V) ∧ (0 < N → ∀ a, A = some a → a.block ≠ q)
theorem SlB.keep {nx nx' q : Nat} {g g' : Nat → Option Blk} {v : Value} {l : List UInt8} (h : SlB nx g q v l) (h1 : nx ≤ nx') (h2 : ∀ p, p < nx → p ≠ q → g' p = g p) : SlB nx' g' q v l := by
  obtain ⟨A, N, c, rfl, e1, e2, e3, e4, e5⟩ := h
  refine ⟨A, N, c, rfl, e1, e2, e3, ⟨e4.spot, e4.len, fun hN => ?_⟩, e5⟩
  obtain ⟨a, cl, ro, b1, b2, b3, b4, b5⟩ := e4.cells hN
  exact ⟨a, cl, ro, b1, by omega, by rw [h2 _ b2 (e5 hN a b1), b3], b4, b5⟩
/-- The same, of a new block. -/
theorem SlB.other {nx nx' q q' : Nat} {g g' : Nat → Option Blk} {v : Value} {l : List UInt8} (h : SlB nx g q v l) (h1 : nx ≤ nx') (h2 : ∀ p, p < nx → p ≠ q → g' p = g p) (hq : nx ≤ q') (hl : l ≠ []) : SlB nx' g' q' v l := by
  obtain ⟨A, N, c, rfl, e1, e2, e3, e4, e5⟩ := h.keep h1 h2
  obtain ⟨A', N', c', hv, f1, f2, f3, f4, f5⟩ := h
  injection hv with hA hN hc
  subst hA hN hc
  have hN0 : 0 < N := by rw [← e1]; exact List.length_pos_iff.2 hl
  refine ⟨A, N, c, rfl, e1, e2, e3, e4, fun _ a ha => ?_⟩
  obtain ⟨a', cl, ro, b1, b2, b3, b4, b5⟩ := f4.cells hN0
  rw [ha] at b1; injection b1 with b1; subst b1
  omega
theorem SlB.first {nx q : Nat} {g : Nat → Option Blk} {v : Value} {y : UInt8} {l : List UInt8} (h : SlB nx g q v (y :: l)) : ∃ (a : Addr) (n c : Nat) (cl : List Value) (ro : Bool), v = .slice (some a) n c ∧ n = l.length + 1 ∧ g a.block = some (.cells cl ro) ∧ a.off + n ≤ cl.length ∧ cl.getD a.off undef = .int .u8 (y.toNat : Nat) ∧
    (∀ z l', l = z :: l' → cl.getD (a.off + 1) undef = .int .u8 (z.toNat : Nat)) := by
  obtain ⟨A, N, c, rfl, e1, e2, e3, e4, e5⟩ := h
  simp only [List.length_cons] at e1
  obtain ⟨a, cl, ro, rfl, b2, b3, b4, b5⟩ := e4.cells (by omega)
  refine ⟨a, N, c, cl, ro, rfl, e1.symm, b3, b4, ?_, fun z l' hz => ?_⟩
  · have := b5 0 (by omega)
    rw [Nat.add_zero] at this
    rw [this]; rfl
  · subst hz
    simp only [List.length_cons] at e1
    have := b5 1 (by omega)
    rw [this]; rfl
/-- The reader in block q. -/
def RdS (nx : Nat) (g : Nat → Option Blk) (q : Nat) (l : List UInt8) (s : Nat) : Prop := ∃ v, g q = some (.cells [v, .int .i64 (s : Nat)] false) ∧ SlB nx g q v l
theorem RdS.keep {nx nx' q : Nat} {g g' : Nat → Option Blk} {l : List UInt8} {s : Nat} (h : RdS nx g q l s) (h1 : nx ≤ nx') (hq : g' q = g q) (h2 : ∀ p, p < nx → p ≠ q → g' p = g p) : RdS nx' g' q l s := by
  obtain ⟨v, e1, e2⟩ := h
  exact ⟨v, by rw [hq, e1], e2.keep h1 h2⟩
theorem Fo.hl_129 {t : Nat} {y : UInt8} {l : List UInt8} (h : y.toNat = 129) : Fo.hl t (y :: l) = match l with
    | [] => .short
    | x :: r => if x.toNat < 128 then .form else .ok t x.toNat r := by
  simp only [Fo.hl]; rw [if_neg (by omega), if_pos h]
  cases l <;> rfl
theorem Fo.hl_130 {t : Nat} {y : UInt8} {l : List UInt8} (h : y.toNat = 130) : Fo.hl t (y :: l) = match l with
    | x :: y :: r => if x.toNat = 0 then .form else .ok t (x.toNat * 256 + y.toNat) r
    | _ => .short := by
  simp only [Fo.hl]; rw [if_neg (by omega), if_neg (by omega), if_pos h]
  rcases l with _ | ⟨x, _ | ⟨z, l⟩⟩ <;> rfl
theorem shl_i64_8 (x : Nat) (h : x < 256) : shlV .i64 (x : Int) 8 = ((x * 256 : Nat) : Int) := by
  simp only [shlV, IntKind.bits]
  have : (2 : Int) ^ min (Int.toNat 8) 64 = 256 := by decide
  rw [this, i64_w _ (by omega)]; omega
theorem or_i64_8 (x y : Nat) (hx : x < 256) (hy : y < 256) : bitsV .or .i64 ((x * 256 : Nat) : Int) (y : Int) = ((x * 256 + y : Nat) : Int) := by
  rw [or_i64 (by omega) (by omega), or_low8 hy]
end Go.Ga
