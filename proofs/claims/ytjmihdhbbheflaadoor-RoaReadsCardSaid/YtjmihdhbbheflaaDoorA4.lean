/- Words and contracts of functions for the statement's proof. No condition. -/
import Derived.Test.YtjmihdhbbheflaaDoorA3
import Derived.Test.YtjmihdhbbheflaaDoorProg
import Derived.KernelRfl
set_option linter.all false

namespace Go.Ga
open Go Go.Proofs
set_option maxRecDepth 100000
attribute [local irreducible] appendK
theorem cb_put : ∀ (x : Fo.El), x.f.ws < 1000000000 → x.f.rs → ∀ (base b nx : Nat) (gt : Nat → Option Blk) (B : Option Addr) (m d : Nat) (A : Option Addr) (n c : Nat) (ks : List Value) (O : Option Addr) (k : Nat) (l : List UInt8), NdR base gt x B m d A n c ks → b ≤ base → base ≤ nx → Grow base b nx gt 1 O k (l.map u8V) → k + x.f.bs ≤ 1000000000000 →
    Cb Tryd.prog 48 [.slice O k k, nodeV x.t B m d A n c] base b nx gt fun v x' g => ∃ (O' : Option Addr) (N : Nat), v = .slice O' N N ∧ N = k + x.f.bs ∧ Grow base b x' g 1 O' N ((l ++ x.f.ly).map u8V) := by
  refine Fo.el_ind fun x ih hw hrs base b nx gt B m d A n c ks O k l h hb hbn hG hk => ?_
  refine Cb.of hmx r_tlv_put (by simp [c_tlv_put]) ?_
  have hlen := Fo.ly_bs hrs
  have hF : ∀ q, q < nx → upd gt nx (some (.cells (nodeL x.t B m d A n c) false)) q = gt q := fun q hq => by simp only [upd_e]; rw [if_neg (by omega)]
  have hb0 : upd gt nx (some (.cells (nodeL x.t B m d A n c) false)) nx = some (.cells (nodeL x.t B m d A n c) false) := by simp only [upd_e, if_true]
  have bw := Fo.bs_ws x.k
  have mw := Fo.ms_ws x.k
  have dw := Fo.ds_ws x.k
  have lw := Fo.len_ws x.k
  have xw : x.f.ws = 1 + x.b.length + x.k.ws := by simp only [Fo.El.f, Fo.ws]; omega
  have hl := h.blen
  have hkl := h.len
  obtain ⟨⟨⟨ht0, ht1, ht2⟩, hr2, hr3⟩, hkr⟩ := (rs_El x).1 hrs
  have hnn : (nx = nx + 1) = False := by simp
  simp only [c_tlv_put, ↓gaH, gaP, simprocAttr, gaF, fillL, splice, gaU]
  generalize upd gt nx (some (.cells (nodeL x.t B m d A n c) false)) = g0 at *
  repeat refine And.intro (by omega) ?_
  refine callK_of (ct_holds x.t) (fun v x1 g1 l1 k1 hC => ?_) (by omega)
  subst hC
  have hb1 : g1 nx = some (.cells (nodeL x.t B m d A n c) false) := by rw [k1 nx (by omega), hb0]
  have F1 : ∀ p, p < nx → g1 p = gt p := fun p hp => by rw [k1 p (by omega), hF p hp]
  have hG1 := hG.keep (x' := x1) (g' := g1) (by omega) F1
  cases hh : Fo.has x.t with
  | false =>
    simp only [↓gaH, gaP, simprocAttr, gaE, implies_true, Nat.le_refl, Int.sub_zero, Nat.sub_zero, Int.le_refl, true_or, or_true, gaF, fillL, splice, Bool.not_false]
    have hkn := hr3 hh
    have ebs : x.f.bs = m + Fo.hn m := by simp only [Fo.El.f, Fo.bs, hh, hl]; rfl
    have ely : x.f.ly = Fo.hb x.t m ++ x.b := by simp only [Fo.El.f, Fo.ly, hkn, List.append_nil, hl]
    have hhn := Fo.hn_le m
    -- what the calls come to
    obtain ⟨res, M1, hC, hcall⟩ := Fn.det (ct_head (t := x.t) (n := m) (nx := x1) (gt := g1) ht0 (by omega) b (by omega)) (by show b ≤ x1; omega)
    obtain ⟨v, rfl, e1, e2, e3, A2, rfl, r2⟩ := hC
    obtain ⟨x2, b2, g2⟩ := M1
    simp only at e1 e2 e3 r2
    subst e1
    have hG2 := hG1.keep (x' := x2) (g' := g2) e2 e3
    have hb2 : g2 nx = some (.cells (nodeL x.t B m d A n c) false) := by rw [e3 nx (by omega), hb1]
    have F2 : ∀ p, p < nx → g2 p = gt p := fun p hp => by rw [e3 p (by omega), F1 p hp]
    have hlb : (Fo.hb x.t m).length = Fo.hn m := Fo.hb_len _ _
    obtain ⟨v3, M3, hC3, hap3⟩ := appendK_det (grow_fresh (e := 1) (bytes := 1) (k := Fo.hn m) (news := (Fo.hb x.t m).map u8V) (K := fun v M => v = .slice (some ⟨x2, 0, some 1⟩) (k + Fo.hn m) (k + Fo.hn m) ∧ ∃ g', M = ⟨x2 + 1, b2, g'⟩ ∧ (∀ i, i < x2 → (∀ a e, O = some a → a.spot = some e → a.block ≠ i) → g' i = g2 i) ∧ g' x2 = some (.cells (l.map u8V ++ (Fo.hb x.t m).map u8V) false))
      hG2 (by omega) (by omega) (by simp [hlb]) (all_u8 _) (by omega) (by omega) fun g' h1 h2 => ⟨rfl, g', rfl, h1, h2⟩)
    obtain ⟨rfl, g3, rfl, k3, c3⟩ := hC3
    have hO := hG.blk
    have hb3 : g3 nx = some (.cells (nodeL x.t B m d A n c) false) := by rw [k3 nx (by omega) (fun a e ha hs => by have := hO a e ha hs; omega), hb2]
    have F3 : ∀ p, p < base → g3 p = gt p := fun p hp => by rw [k3 p (by omega) (fun a e ha hs => by have := hO a e ha hs; omega), F2 p (by omega)]
    have hN3 := h.keep (x' := x2 + 1) (g := g3) (by omega) F3
    have hG3 : Grow (nx + 1) b2 (x2 + 1) g3 1 (some ⟨x2, 0, some 1⟩) (k + Fo.hn m) (l.map u8V ++ (Fo.hb x.t m).map u8V) := Grow.own (by have := hG.len; simp only [List.length_append, List.length_map, hlb] at this ⊢; omega) (by omega) (by omega) (by omega) c3
    obtain ⟨v4, M4, hC4, hap4⟩ := appendK_det (grow_app (e := 1) (bytes := 1) (k := m) (news := x.b.map u8V) (K := fun v M => ∃ A' x' g', v = .slice A' (k + Fo.hn m + m) (k + Fo.hn m + m) ∧ M = ⟨x', b2, g'⟩ ∧ x2 + 1 ≤ x' ∧ (∀ i, i < nx + 1 → g' i = g3 i) ∧ Grow (nx + 1) b2 x' g' 1 A' (k + Fo.hn m + m) (l.map u8V ++ (Fo.hb x.t m).map u8V ++ x.b.map u8V))
      hG3 (by omega) (by omega) (by omega) (by simp [hl]) (all_u8 _) (by omega) (by omega) fun A' x' g' h1 h2 h3 => ⟨A', x', g', rfl, rfl, h1, h2, h3⟩)
    obtain ⟨A4, x4, g4, rfl, rfl, l4, k4, hG4⟩ := hC4
    have hb4 : g4 nx = some (.cells (nodeL x.t B m d A n c) false) := by rw [k4 nx (by omega), hb3]
    refine vc_tree_same ⟨fun i => if i = 4 then .slice A4 (k + Fo.hn m + m) (k + Fo.hn m + m) else botV, ⟨x4, b2, g4⟩, ?_, ⟨rfl, by show x1 ≤ x4; omega, fun p hp => ?_⟩, ?_⟩
    · simp only [↓gaH, gaP, simprocAttr, endB_r, endB_n, res_nil, res_t]
      refine ⟨by omega, fun p hp => by rw [k4 p (by omega), F3 p hp], A4, _, rfl, by omega, ?_⟩
      rw [ely, List.map_append, List.map_append, ← List.append_assoc]
      exact hG4.low (by omega)
    · have hp' : p < base := Nat.lt_of_lt_of_le hp hb
      show g4 p = g1 p
      rw [k4 p (by omega), F3 p hp', F1 p (by omega)]
    · skip
      refine tree_inv2 (fun S f mm => Held [(0, 17, .slice O k k), (1, 18, .pointer (some ⟨nx, 0, none⟩)), (2, 19, .int .i64 x.t), (3, 20, .pointer (some ⟨nx, 1, none⟩)), (4, 21, .slice B m d), (5, 22, .int .i64 (m : Nat)), (6, 23, .slice A2 (Fo.hn m) (Fo.hn m)), (7, 24, .slice (some ⟨x2, 0, some 1⟩) (k + Fo.hn m) (k + Fo.hn m)), (8, 25, .pointer (some ⟨nx, 1, none⟩)), (9, 26, .slice B m d), (10, 27, .slice A4 (k + Fo.hn m + m) (k + Fo.hn m + m)), (11, 4, .slice A4 (k + Fo.hn m + m) (k + Fo.hn m + m))] S f ∧
        f 0 = .slice O k k ∧ f 3 = .pointer (some ⟨nx, 0, none⟩) ∧ (S 7 = true → S 6 = true) ∧ (S 10 = true → S 7 = true) ∧ mm = if S 10 then ⟨x4, b2, g4⟩ else if S 7 then ⟨x2 + 1, b2, g3⟩ else if S 6 then ⟨x2, b2, g2⟩ else ⟨x1, b2, g1⟩) rfl ?_ ?_ _ _ _ _ (by rw [lefts_zero]) ?_
      · rintro S i f mm ⟨h1, h2, h3, h4, h5, hmm⟩ hi hSi hdeps
        have hbm : mm.get nx = some (.cells (nodeL x.t B m d A n c) false) := by
          rw [hmm]
          split
          · exact hb4
          · split
            · exact hb3
            · split
              · exact hb2
              · exact hb1
        have hi' : i < 12 := hi
        rcases i with _ | _ | _ | _ | _ | _ | _ | _ | _ | _ | _ | _ | i
        · refine ⟨_, rfl, fun K hK _ => ?_⟩
          simp only [↓gaH, gaP, simprocAttr, h2]
          exact hK _ _ ⟨h1.step (by simp), by simp only [↓gaH, gaP, simprocAttr, h2], by simp only [↓gaH, gaP, simprocAttr, h3], by simpa using h4, by simpa using h5, by simpa using hmm⟩
        · refine ⟨_, rfl, fun K hK _ => ?_⟩
          simp only [↓gaH, gaP, simprocAttr, h3]
          exact hK _ _ ⟨h1.step (by simp), by simp only [↓gaH, gaP, simprocAttr, h2], by simp only [↓gaH, gaP, simprocAttr, h3], by simpa using h4, by simpa using h5, by simpa using hmm⟩
        · refine ⟨_, rfl, fun K hK _ => ?_⟩
          have q := h1.at 1 rfl (hdeps 1 (by decide))
          simp only at q
          simp only [↓gaH, gaP, simprocAttr, q, hbm, nodeL, List.getD_cons_zero, List.getD_cons_succ]
          repeat refine And.intro (by omega) ?_
          exact hK _ _ ⟨h1.step (by simp), by simp only [↓gaH, gaP, simprocAttr, h2], by simp only [↓gaH, gaP, simprocAttr, h3], by simpa using h4, by simpa using h5, by simpa using hmm⟩
        · refine ⟨_, rfl, fun K hK _ => ?_⟩
          simp only [↓gaH, gaP, simprocAttr, h3]
          exact hK _ _ ⟨h1.step (by simp), by simp only [↓gaH, gaP, simprocAttr, h2], by simp only [↓gaH, gaP, simprocAttr, h3], by simpa using h4, by simpa using h5, by simpa using hmm⟩
        · refine ⟨_, rfl, fun K hK _ => ?_⟩
          have q := h1.at 3 rfl (hdeps 3 (by decide))
          simp only at q
          simp only [↓gaH, gaP, simprocAttr, q, hbm, nodeL, List.getD_cons_zero, List.getD_cons_succ]
          repeat refine And.intro (by omega) ?_
          exact hK _ _ ⟨h1.step (by simp), by simp only [↓gaH, gaP, simprocAttr, h2], by simp only [↓gaH, gaP, simprocAttr, h3], by simpa using h4, by simpa using h5, by simpa using hmm⟩
        · refine ⟨_, rfl, fun K hK _ => ?_⟩
          have q := h1.at 4 rfl (hdeps 4 (by decide))
          simp only at q
          simp only [↓gaH, gaP, simprocAttr, q]
          exact hK _ _ ⟨h1.step (by simp), by simp only [↓gaH, gaP, simprocAttr, h2], by simp only [↓gaH, gaP, simprocAttr, h3], by simpa using h4, by simpa using h5, by simpa using hmm⟩
        · refine ⟨_, rfl, fun K hK _ => ?_⟩
          have q := h1.at 2 rfl (hdeps 2 (by decide))
          have q2 := h1.at 5 rfl (hdeps 5 (by decide))
          simp only at q q2
          have s7 : S 7 = false := by cases h : S 7 with | false => rfl | true => rw [h4 h] at hSi; cases hSi
          have s10 : S 10 = false := by cases h : S 10 with | false => rfl | true => rw [h5 h] at s7; cases s7
          rw [hSi, s7, s10] at hmm
          simp only [Bool.false_eq_true, if_false] at hmm
          subst hmm
          simp only [↓gaH, gaP, simprocAttr, q, q2]
          refine callK_det hcall ?_
          simp only [↓gaH, gaP, simprocAttr]
          exact hK _ _ ⟨h1.step (by simp), by simp only [↓gaH, gaP, simprocAttr, h2], by simp only [↓gaH, gaP, simprocAttr, h3], by simp, by simpa using h5, by simp [s7, s10]⟩
        · refine ⟨_, rfl, fun K hK _ => ?_⟩
          have q := h1.at 0 rfl (hdeps 0 (by decide))
          have s6 := hdeps 6 (by decide)
          have q2 := h1.at 6 rfl s6
          simp only at q q2
          have s10 : S 10 = false := by cases h : S 10 with | false => rfl | true => rw [h5 h] at hSi; cases hSi
          rw [hSi, s6, s10] at hmm
          simp only [Bool.false_eq_true, if_false, if_true] at hmm
          subst hmm
          have e6 : rowOf ⟨x2, b2, g2⟩ A2 (Fo.hn m) = some ((Fo.hb x.t m).map u8V) := r2.rowOf
          simp only [↓gaH, gaP, simprocAttr, q, q2, e6]
          refine hap3 _ ?_
          exact hK _ _ ⟨h1.step (by simp), by simp only [↓gaH, gaP, simprocAttr, h2], by simp only [↓gaH, gaP, simprocAttr, h3], by simp [s6], by simp, by simp [s10]⟩
        · refine ⟨_, rfl, fun K hK _ => ?_⟩
          simp only [↓gaH, gaP, simprocAttr, h3]
          exact hK _ _ ⟨h1.step (by simp), by simp only [↓gaH, gaP, simprocAttr, h2], by simp only [↓gaH, gaP, simprocAttr, h3], by simpa using h4, by simpa using h5, by simpa using hmm⟩
        · refine ⟨_, rfl, fun K hK _ => ?_⟩
          have q := h1.at 8 rfl (hdeps 8 (by decide))
          simp only at q
          simp only [↓gaH, gaP, simprocAttr, q, hbm, nodeL, List.getD_cons_zero, List.getD_cons_succ]
          repeat refine And.intro (by omega) ?_
          exact hK _ _ ⟨h1.step (by simp), by simp only [↓gaH, gaP, simprocAttr, h2], by simp only [↓gaH, gaP, simprocAttr, h3], by simpa using h4, by simpa using h5, by simpa using hmm⟩
        · refine ⟨_, rfl, fun K hK _ => ?_⟩
          have s7 := hdeps 7 (by decide)
          have q := h1.at 7 rfl s7
          have q2 := h1.at 9 rfl (hdeps 9 (by decide))
          simp only at q q2
          rw [hSi, s7] at hmm
          simp only [Bool.false_eq_true, if_false, if_true] at hmm
          subst hmm
          have e6 : rowOf ⟨x2 + 1, b2, g3⟩ B m = some (x.b.map u8V) := hN3.body.rowOf
          simp only [↓gaH, gaP, simprocAttr, q, q2, e6]
          refine hap4 _ ?_
          exact hK _ _ ⟨h1.step (by simp), by simp only [↓gaH, gaP, simprocAttr, h2], by simp only [↓gaH, gaP, simprocAttr, h3], by simpa using h4, by simp [s7], by simp⟩
        · refine ⟨_, rfl, fun K hK _ => ?_⟩
          have q := h1.at 10 rfl (hdeps 10 (by decide))
          simp only at q
          simp only [↓gaH, gaP, simprocAttr, q]
          exact hK _ _ ⟨h1.step (by simp), by simp only [↓gaH, gaP, simprocAttr, h2], by simp only [↓gaH, gaP, simprocAttr, h3], by simpa using h4, by simpa using h5, by simpa using hmm⟩
        · omega
      · rintro S f mm ⟨h1, h2, h3, h4, h5, rfl⟩ hall
        have s10 := hall 10 (by decide)
        have q := h1.at 11 rfl (hall 11 (by decide))
        simp only at q
        refine ⟨rfl, by rw [s10]; rfl, fun i => ?_⟩
        by_cases hi : i = 4
        · subst hi; exact .inl (by simp only [if_true, q])
        · exact .inr (by simp only [if_neg hi])
      · refine ⟨fun p hp hs => by simp at hs, (by simp only [↓gaH, gaP, simprocAttr]; try rfl), (by simp only [↓gaH, gaP, simprocAttr]; try rfl), by simp, by simp, by simp⟩
  | true =>
    simp only [↓gaH, gaP, simprocAttr, gaE, implies_true, Nat.le_refl, Int.sub_zero, Nat.sub_zero, Int.le_refl, true_or, or_true, gaF, fillL, splice, Bool.not_true, hb1, nodeL, List.getD_cons_zero, List.getD_cons_succ, List.length_cons, List.length_nil]
    repeat refine And.intro (by omega) ?_
    have lyw : ∀ F : Fo, F.rs → F.ly.length = F.bs := fun F hF => Fo.ly_bs hF
    have hKN := h.keep (x' := base) (g := g1) (Nat.le_refl _) (fun p hp => F1 p (by omega))
    refine loop_of (fun j f mm => ∃ (i x2 : Nat) (g : Nat → Option Blk) (pre post : Fo), j = n - i ∧ i ≤ n ∧ x.k = pre.app post ∧ pre.len = i ∧ f 0 = .slice O k k ∧ f 3 = .pointer (some ⟨nx, 0, none⟩) ∧ f 5 = .int .i64 (pre.bs : Nat) ∧ f 29 = .slice A n c ∧ f 30 = .int .i64 (n : Nat) ∧ f 31 = .int .i64 (i : Nat) ∧
      mm = ⟨x2, b, g⟩ ∧ x1 ≤ x2 ∧ (∀ p, p < x1 → g p = g1 p)) n ⟨0, x1, g1, .nil, x.k, by omega, by omega, rfl, rfl, (by simp only [↓gaH, gaP, simprocAttr]; try rfl), (by simp only [↓gaH, gaP, simprocAttr]; try rfl), (by simp only [↓gaH, gaP, simprocAttr]; try rfl), (by simp only [↓gaH, gaP, simprocAttr]; try rfl), (by simp only [↓gaH, gaP, simprocAttr]; try rfl), (by simp only [↓gaH, gaP, simprocAttr]; try rfl), rfl, by omega, fun _ _ => rfl⟩ ?_
    rintro j f mm ⟨i, x2, g2, pre, post, hj, hi, e1, e2, f0, f3, f5, f29, f30, f31, rfl, hx2, F2⟩
    have h2 := hKN.keep (x' := base) (g := g2) (Nat.le_refl _) (fun p hp => F2 p (by omega))
    by_cases hin : (i : Int) < (n : Int)
    · obtain ⟨y, pre', post', B', m', d', A', n', c', ks', q1, q2, q3, q4⟩ := h2.kids.at (i := i) (by omega)
      obtain ⟨rfl, rfl⟩ := Fo.app_inj (e1.symm.trans q1) (by omega)
      obtain ⟨a, cl, ro, rfl, r2, r3, r4, r5⟩ := h2.row.cells (by omega)
      have hld := h2.row.load rfl r3 (j := i * 3) (k := 3) (by omega) (by omega)
      rw [q4] at hld
      have w1 : (pre.app y.f).ws + post'.ws = x.k.ws := by rw [q1, Fo.app_one, Fo.ws_app (pre.app y.f)]
      have w2 := Fo.bs_ws (pre.app y.f)
      rw [Fo.bs_app] at w2
      have i1 : IntKind.i64.wrap ((pre.bs : Int) + (y.f.bs : Int)) = ((pre.bs + y.f.bs : Nat) : Int) := by rw [i64_w _ (by omega)]; omega
      have i3 : IntKind.i64.wrap ((i : Int) + 1) = ((i + 1 : Nat) : Int) := by rw [i64_w _ (by omega)]; omega
      simp only [↓gaH, gaP, simprocAttr, gaF, fillL, splice, f29, f30, f31, hin, decide_true, r3, hld, nodeL]
      refine And.intro (by omega) (And.intro (by omega) (And.intro (by omega) (And.intro (node_cells _ _ _ _ _ _ _) ?_)))
      obtain ⟨g, hg⟩ : ∃ g, g = upd (upd g2 x2 (some (.cells [Value.int .i64 0, .slice none 0 0, .slice none 0 0] false))) x2 (some (.cells (nodeL y.t B' m' d' A' n' c') false)) := ⟨_, rfl⟩
      have G : ∀ p, p < x2 → g p = g2 p := fun p hp => by rw [hg]; simp only [upd_e]; rw [if_neg (by omega), if_neg (by omega)]
      have h3 := q3.keep (x' := x2 + 1) (by omega) (fun p hp => G p (by omega))
      rw [← hg]; clear hg
      refine callK_of (ct_Size y (by have := Fo.ws_in q1; omega) _ _ _ _ _ _ _ _ _ h3) (fun v x3 g3 l3 k3 hC => ?_) (by omega)
      subst hC
      simp only [↓gaH, gaP, simprocAttr, gaE, implies_true, Nat.le_refl, Int.sub_zero, Nat.sub_zero, Int.le_refl, true_or, or_true, f5, f31, i1, i3, loopK_n]
      repeat refine And.intro (by omega) ?_
      exact ⟨n - (i + 1), by omega, i + 1, x3, g3, pre.app y.f, post', rfl, by omega, by rw [q1, Fo.app_one], by rw [Fo.len_app]; simp only [Fo.El.f, Fo.len]; omega, f0, f3, by rw [Fo.bs_app], f29, f30, rfl, rfl, by omega, fun p hp => by rw [k3 p (by omega), G p (by omega), F2 p hp]⟩
    have e : pre.len = x.k.len := by omega
    obtain ⟨rfl, rfl⟩ := Fo.app_end e1 e
    have hb2 : g2 nx = some (.cells (nodeL x.t B m d A n c) false) := by rw [F2 nx (by omega), hb1]
    have hG2 := hG1.keep (x' := x2) (g' := g2) hx2 F2
    have ebs : x.f.bs = x.k.bs + Fo.hn x.k.bs := by simp only [Fo.El.f, Fo.bs, hh]; rfl
    have hbn := hr2 hh
    have ely : x.f.ly = Fo.hb x.t x.k.bs ++ x.k.ly := by simp only [Fo.El.f, Fo.ly, hbn, List.append_nil, List.nil_append, lyw _ hkr]
    have hhn := Fo.hn_le x.k.bs
    have hlb : (Fo.hb x.t x.k.bs).length = Fo.hn x.k.bs := Fo.hb_len _ _
    simp only [↓gaH, gaP, simprocAttr, gaF, fillL, splice, f0, f3, f5, f29, f30, f31, hin, decide_false, hb2, nodeL, List.getD_cons_zero, List.getD_cons_succ]
    repeat refine And.intro (by omega) ?_
    refine callK_of (ct_head (t := x.t) (n := x.k.bs) ht0 (by omega)) (fun v x3 g3 l3 k3 hC => ?_) (by omega)
    obtain ⟨A3, rfl, r3⟩ := hC
    have hG3 := hG2.keep (x' := x3) (g' := g3) l3 k3
    have hb3 : g3 nx = some (.cells (nodeL x.t B m d A n c) false) := by rw [k3 nx (by omega), hb2]
    have e6 : rowOf ⟨x3, b, g3⟩ A3 (Fo.hn x.k.bs) = some ((Fo.hb x.t x.k.bs).map u8V) := r3.rowOf
    simp only [↓gaH, gaP, simprocAttr, f0, e6]
    refine grow_fresh hG3 (by omega) (by omega) (by simp [hlb]) (all_u8 _) (by omega) (by omega) fun g4 k4 c4 => ?_
    have hO := hG.blk
    have hb4 : g4 nx = some (.cells (nodeL x.t B m d A n c) false) := by rw [k4 nx (by omega) (fun a e ha hs => by have := hO a e ha hs; omega), hb3]
    have F4 : ∀ p, p < base → g4 p = gt p := fun p hp => by rw [k4 p (by omega) (fun a e ha hs => by have := hO a e ha hs; omega), k3 p (by omega), F2 p (by omega), F1 p (by omega)]
    have hG4 : Grow (nx + 1) b (x3 + 1) g4 1 (some ⟨x3, 0, some 1⟩) (k + Fo.hn x.k.bs) (l.map u8V ++ (Fo.hb x.t x.k.bs).map u8V) := Grow.own (by have := hG.len; simp only [List.length_append, List.length_map, hlb] at this ⊢; omega) (by omega) (by omega) (by omega) c4
    rw [← List.map_append] at hG4
    simp only [↓gaH, gaP, simprocAttr, f3, hb4, nodeL, List.getD_cons_zero, List.getD_cons_succ]
    repeat refine And.intro (by omega) ?_
    refine loop_of (fun j f mm => ∃ (i x2 N : Nat) (g : Nat → Option Blk) (O' : Option Addr) (pre post : Fo), j = n - i ∧ i ≤ n ∧ x.k = pre.app post ∧ pre.len = i ∧ N = k + Fo.hn x.k.bs + pre.bs ∧ f 0 = .slice O' N N ∧ f 52 = .slice A n c ∧ f 53 = .int .i64 (n : Nat) ∧ f 54 = .int .i64 (i : Nat) ∧
      mm = ⟨x2, b, g⟩ ∧ x3 + 1 ≤ x2 ∧ (∀ p, p < base → g p = gt p) ∧ Grow (nx + 1) b x2 g 1 O' N ((l ++ Fo.hb x.t x.k.bs ++ pre.ly).map u8V)) n ⟨0, x3 + 1, k + Fo.hn x.k.bs, g4, _, .nil, x.k, by omega, by omega, rfl, rfl, by simp only [Fo.bs]; omega, (by simp only [↓gaH, gaP, simprocAttr]; try rfl), (by simp only [↓gaH, gaP, simprocAttr]; try rfl), (by simp only [↓gaH, gaP, simprocAttr]; try rfl), (by simp only [↓gaH, gaP, simprocAttr]; try rfl), rfl, by omega, F4, by simpa [Fo.ly] using hG4⟩ ?_
    clear hb4 k4 c4 hG4 F4 k3 hb3 hG3 r3 e6 f0 f3 f5 f29 f30 f31 hb2 hG2 F2 h2
    rintro j f mm ⟨i, x5, N, g5, O5, pre, post, hj, hi, e1, e2, hN, f0, f52, f53, f54, rfl, hx5, F5, G5⟩
    have h5 := h.keep (x' := base) (g := g5) (Nat.le_refl _) F5
    by_cases hin : (i : Int) < (n : Int)
    · obtain ⟨y, pre', post', B', m', d', A', n', c', ks', q1, q2, q3, q4⟩ := h5.kids.at (i := i) (by omega)
      obtain ⟨rfl, rfl⟩ := Fo.app_inj (e1.symm.trans q1) (by omega)
      obtain ⟨a, cl, ro, rfl, r2, r3, r4, r5⟩ := h5.row.cells (by omega)
      have hld := h5.row.load rfl r3 (j := i * 3) (k := 3) (by omega) (by omega)
      rw [q4] at hld
      have hyr : (pre.rs ∧ y.f.rs) ∧ post'.rs := by
        have := hkr
        rw [q1, Fo.app_one, Fo.rs_app (pre.app y.f), Fo.rs_app pre] at this
        exact this
      have w1 : (pre.app y.f).bs + post'.bs = x.k.bs := by rw [q1, Fo.app_one, Fo.bs_app (pre.app y.f)]
      rw [Fo.bs_app] at w1
      have i3 : IntKind.i64.wrap ((i : Int) + 1) = ((i + 1 : Nat) : Int) := by rw [i64_w _ (by omega)]; omega
      simp only [↓gaH, gaP, simprocAttr, gaF, fillL, splice, f0, f52, f53, f54, hin, decide_true, r3, hld, nodeL]
      refine And.intro (by omega) (And.intro (by omega) (And.intro (by omega) (And.intro (node_cells _ _ _ _ _ _ _) ?_)))
      obtain ⟨g, hg⟩ : ∃ g, g = upd (upd g5 x5 (some (.cells [Value.int .i64 0, .slice none 0 0, .slice none 0 0] false))) x5 (some (.cells (nodeL y.t B' m' d' A' n' c') false)) := ⟨_, rfl⟩
      have G : ∀ p, p < x5 → g p = g5 p := fun p hp => by rw [hg]; simp only [upd_e]; rw [if_neg (by omega), if_neg (by omega)]
      have h6 := q3.keep (x' := nx + 1) (g := g) (by omega) (fun p hp => G p (by omega))
      have G6 := G5.keep (x' := x5 + 1) (g' := g) (by omega) G
      rw [← hg]; clear hg
      refine callB_of (ih pre y post' q1 (by have := Fo.ws_in q1; omega) hyr.1.2 (nx + 1) b (x5 + 1) g _ _ _ _ _ _ _ _ N _ h6 (by omega) (by omega) G6 (by omega)) (fun v x6 g6 l6 k6 hC => ?_)
      obtain ⟨O7, N7, rfl, hN7, G7⟩ := hC
      simp only [↓gaH, gaP, simprocAttr, gaE, implies_true, Nat.le_refl, Int.sub_zero, Nat.sub_zero, Int.le_refl, true_or, or_true, f54, i3, loopK_n]
      exact ⟨n - (i + 1), by omega, i + 1, x6, N7, g6, O7, pre.app y.f, post', rfl, by omega, by rw [q1, Fo.app_one], by rw [Fo.len_app]; simp only [Fo.El.f, Fo.len]; omega, by rw [Fo.bs_app]; omega, rfl, f52, f53, rfl, rfl, by omega, fun p hp => by rw [k6 p (by omega), G p (by omega), F5 p hp], by rw [Fo.ly_app, ← List.append_assoc]; exact G7⟩
    · have e : pre.len = x.k.len := by omega
      obtain ⟨rfl, rfl⟩ := Fo.app_end e1 e
      simp only [↓gaH, gaP, simprocAttr, gaF, fillL, splice, f0, f52, f53, f54, hin, decide_false, endB_r, res_nil, res_t]
      refine ⟨by omega, F5, O5, N, rfl, by omega, ?_⟩
      rw [ely, ← List.append_assoc]
      exact G5.low (by omega)
end Go.Ga

namespace Go.Ga
open Go Go.Proofs
set_option maxRecDepth 100000
def BytesV (nx : Nat) (g : Nat → Option Blk) (v : Value) : Except Nat (List UInt8) → Prop
  | .error e => v = .tuple #[.slice none 0 0, .int .i64 (e : Nat)]
  | .ok l => ∃ A N, v = .tuple #[.slice A N N, .int .i64 0] ∧ l.length = N ∧ Row nx g 1 A N (l.map u8V)
theorem ct_Write {x : Fo.El} (hw : x.f.ws < 1000000000) {nx : Nat} {gt : Nat → Option Blk} {B : Option Addr} {m d : Nat} {A : Option Addr} {n c : Nat} {ks : List Value} (h : NdR nx gt x B m d A n c ks) :
    Ct Tryd.prog 23 [nodeV x.t B m d A n c] nx gt fun v x' g => BytesV x' g v (Fo.wr x) := by
  refine Ct.of hmx r_tlv_Write (by simp [c_tlv_Write]) fun b hb => ?_
  have hF : ∀ q, q < nx → upd gt nx (some (.cells (nodeL x.t B m d A n c) false)) q = gt q := fun q hq => by simp only [upd_e]; rw [if_neg (by omega)]
  have hb0 : upd gt nx (some (.cells (nodeL x.t B m d A n c) false)) nx = some (.cells (nodeL x.t B m d A n c) false) := by simp only [upd_e, if_true]
  have h0 := h.keep (x' := nx + 1) (by omega) hF
  have bw := Fo.bs_ws x.f
  have mw := Fo.ms_ws x.f
  have dw := Fo.ds_ws x.f
  simp only [c_tlv_Write, ↓gaH, gaP, simprocAttr, gaF, fillL, splice, gaU]
  generalize upd gt nx (some (.cells (nodeL x.t B m d A n c) false)) = g0 at *
  repeat refine And.intro (by omega) ?_
  refine callK_of (ct_right x (by omega) _ _ _ _ _ _ _ _ _ h0) (fun v x1 g1 l1 k1 hC => ?_) (by omega)
  obtain ⟨r, rfl, hr⟩ := hC
  have hb1 : g1 nx = some (.cells (nodeL x.t B m d A n c) false) := by rw [k1 nx (by omega), hb0]
  have F1 : ∀ p, p < nx → g1 p = gt p := fun p hp => by rw [k1 p (by omega), hF p hp]
  have h1 := h0.keep l1 k1
  cases r with
  | false =>
    have e : Fo.wr x = .error 2 := by unfold Fo.wr; rw [if_pos (fun h => by have := hr.2 h; cases this)]
    simp only [↓gaH, gaP, simprocAttr, gaE, implies_true, Nat.le_refl, Int.sub_zero, Nat.sub_zero, Int.le_refl, true_or, or_true, Bool.not_false, e]
    exact ⟨by omega, F1, rfl⟩
  | true =>
    simp only [↓gaH, gaP, simprocAttr, gaE, implies_true, Nat.le_refl, Int.sub_zero, Nat.sub_zero, Int.le_refl, true_or, or_true, Bool.not_true, hb1, nodeL, gaF, fillL, splice]
    repeat refine And.intro (by omega) ?_
    refine callK_of (ct_Size x (by omega) _ _ _ _ _ _ _ _ _ h1) (fun v x2 g2 l2 k2 hC => ?_) (by omega)
    subst hC
    have hb2 : g2 nx = some (.cells (nodeL x.t B m d A n c) false) := by rw [k2 nx (by omega), hb1]
    have F2 : ∀ p, p < nx → g2 p = gt p := fun p hp => by rw [k2 p (by omega), F1 p hp]
    have h2 := h1.keep l2 k2
    by_cases hd : (32 : Int) < (x.f.ds : Int)
    · have e : Fo.wr x = .error 4 := by unfold Fo.wr; rw [if_neg (by simpa using hr.1 rfl), if_pos (by omega)]
      simp only [↓gaH, gaP, simprocAttr, gaE, implies_true, Nat.le_refl, Int.sub_zero, Nat.sub_zero, Int.le_refl, true_or, or_true, hd, decide_true, e]
      repeat refine And.intro (by omega) ?_
      rfl
    · by_cases hs : (20000 : Int) < (x.f.bs : Int)
      · have e : Fo.wr x = .error 5 := by unfold Fo.wr; rw [if_neg (by simpa using hr.1 rfl), if_neg (by omega), if_pos (by omega)]
        simp only [↓gaH, gaP, simprocAttr, gaE, implies_true, Nat.le_refl, Int.sub_zero, Nat.sub_zero, Int.le_refl, true_or, or_true, hd, hs, decide_true, decide_false, e]
        repeat refine And.intro (by omega) ?_
        rfl
      · have e : Fo.wr x = .ok x.f.ly := Fo.wr_of (hr.1 rfl) (by omega) (by omega)
        simp only [↓gaH, gaP, simprocAttr, gaE, implies_true, Nat.le_refl, Int.sub_zero, Nat.sub_zero, Int.le_refl, true_or, or_true, hd, hs, decide_false, hb2, nodeL, gaF, fillL, splice]
        repeat refine And.intro (by omega) ?_
        have G2 : Grow (nx + 1) b x2 g2 1 none 0 ([].map u8V) := Grow.nil
        refine callB_of (cb_put x (by omega) (hr.1 rfl) (nx + 1) b x2 g2 _ _ _ _ _ _ _ _ 0 [] (h0.keep (x' := nx + 1) (g := g2) (Nat.le_refl _) (fun p hp => by rw [k2 p (by omega), k1 p (by omega)])) (by omega) (by omega) G2 (by omega)) (fun v x3 g3 l3 k3 hC => ?_)
        obtain ⟨O3, N3, rfl, hN3, G3⟩ := hC
        rw [List.nil_append] at G3
        have r3 := G3.row
        rw [Nat.mul_one] at r3
        simp only [↓gaH, gaP, simprocAttr, gaE, implies_true, Nat.le_refl, Int.sub_zero, Nat.sub_zero, Int.le_refl, true_or, or_true, e]
        exact ⟨by omega, fun p hp => by rw [k3 p (by omega), F2 p hp], O3, N3, rfl, by simpa using r3.len, r3⟩
theorem ct_rWrite {x : Fo.El} (hw : x.f.ws < 1000000000) {nx : Nat} {gt : Nat → Option Blk} {B : Option Addr} {m d : Nat} {A : Option Addr} {n c : Nat} {ks : List Value} (h : NdR nx gt x B m d A n c ks) :
    Ct Tryd.prog 27 [nodeV x.t B m d A n c] nx gt fun v x' g => BytesV x' g v (Fo.wr x) := by
  refine Ct.of hmx r_lanyardref04_Write (by simp [c_lanyardref04_Write]) fun b hb => ?_
  have hF : ∀ q, q < nx → upd gt nx (some (.cells (nodeL x.t B m d A n c) false)) q = gt q := fun q hq => by simp only [upd_e]; rw [if_neg (by omega)]
  have hb0 : upd gt nx (some (.cells (nodeL x.t B m d A n c) false)) nx = some (.cells (nodeL x.t B m d A n c) false) := by simp only [upd_e, if_true]
  have h0 := h.keep (x' := nx + 1) (by omega) hF
  have bw := Fo.bs_ws x.f
  have mw := Fo.ms_ws x.f
  have dw := Fo.ds_ws x.f
  simp only [c_lanyardref04_Write, ↓gaH, gaP, simprocAttr, gaF, fillL, splice, gaU]
  generalize upd gt nx (some (.cells (nodeL x.t B m d A n c) false)) = g0 at *
  repeat refine And.intro (by omega) ?_
  refine callK_of (ct_rright x (by omega) _ _ _ _ _ _ _ _ _ h0) (fun v x1 g1 l1 k1 hC => ?_) (by omega)
  obtain ⟨r, rfl, hr⟩ := hC
  have hb1 : g1 nx = some (.cells (nodeL x.t B m d A n c) false) := by rw [k1 nx (by omega), hb0]
  have F1 : ∀ p, p < nx → g1 p = gt p := fun p hp => by rw [k1 p (by omega), hF p hp]
  have h1 := h0.keep l1 k1
  cases r with
  | false =>
    have e : Fo.wr x = .error 2 := by unfold Fo.wr; rw [if_pos (fun h => by have := hr.2 h; cases this)]
    simp only [↓gaH, gaP, simprocAttr, gaE, implies_true, Nat.le_refl, Int.sub_zero, Nat.sub_zero, Int.le_refl, true_or, or_true, Bool.not_false, e]
    exact ⟨by omega, F1, rfl⟩
  | true =>
    simp only [↓gaH, gaP, simprocAttr, gaE, implies_true, Nat.le_refl, Int.sub_zero, Nat.sub_zero, Int.le_refl, true_or, or_true, Bool.not_true, hb1, nodeL, gaF, fillL, splice]
    repeat refine And.intro (by omega) ?_
    refine callK_of (ct_rSize x (by omega) _ _ _ _ _ _ _ _ _ h1) (fun v x2 g2 l2 k2 hC => ?_) (by omega)
    subst hC
    have hb2 : g2 nx = some (.cells (nodeL x.t B m d A n c) false) := by rw [k2 nx (by omega), hb1]
    have F2 : ∀ p, p < nx → g2 p = gt p := fun p hp => by rw [k2 p (by omega), F1 p hp]
    have h2 := h1.keep l2 k2
    by_cases hd : (32 : Int) < (x.f.ds : Int)
    · have e : Fo.wr x = .error 4 := by unfold Fo.wr; rw [if_neg (by simpa using hr.1 rfl), if_pos (by omega)]
      simp only [↓gaH, gaP, simprocAttr, gaE, implies_true, Nat.le_refl, Int.sub_zero, Nat.sub_zero, Int.le_refl, true_or, or_true, hd, decide_true, e]
      repeat refine And.intro (by omega) ?_
      rfl
    · by_cases hs : (20000 : Int) < (x.f.bs : Int)
      · have e : Fo.wr x = .error 5 := by unfold Fo.wr; rw [if_neg (by simpa using hr.1 rfl), if_neg (by omega), if_pos (by omega)]
        simp only [↓gaH, gaP, simprocAttr, gaE, implies_true, Nat.le_refl, Int.sub_zero, Nat.sub_zero, Int.le_refl, true_or, or_true, hd, hs, decide_true, decide_false, e]
        repeat refine And.intro (by omega) ?_
        rfl
      · have e : Fo.wr x = .ok x.f.ly := Fo.wr_of (hr.1 rfl) (by omega) (by omega)
        simp only [↓gaH, gaP, simprocAttr, gaE, implies_true, Nat.le_refl, Int.sub_zero, Nat.sub_zero, Int.le_refl, true_or, or_true, hd, hs, decide_false, hb2, nodeL, gaF, fillL, splice]
        repeat refine And.intro (by omega) ?_
        refine callK_of (ct_lay x (by omega) (hr.1 rfl) _ _ _ _ _ _ _ _ _ h2) (fun v x3 g3 l3 k3 hC => ?_) (by omega)
        obtain ⟨O3, N3, rfl, hN3, r3⟩ := hC
        simp only [↓gaH, gaP, simprocAttr, gaE, implies_true, Nat.le_refl, Int.sub_zero, Nat.sub_zero, Int.le_refl, true_or, or_true, e]
        exact ⟨by omega, fun p hp => by rw [k3 p (by omega), F2 p hp], O3, N3, rfl, hN3, r3⟩
end Go.Ga

namespace Go.Ga
open Go Go.Proofs
set_option maxRecDepth 100000
def HdV (l : List UInt8) (v : Value) : Fo.Hd → Prop
  | .short => v = .tuple #[.int .i64 0, .int .i64 0, .int .i64 3]
  | .form => v = .tuple #[.int .i64 0, .int .i64 0, .int .i64 2]
  | .ok _ k r => v = .tuple #[.int .i64 ((l.length - r.length : Nat) : Int), .int .i64 (k : Nat), .int .i64 0]
set_option maxHeartbeats 1000000 in
theorem ct_rhead {nx : Nat} {gt : Nat → Option Blk} {A : Option Addr} {n c at' : Nat} {l : List UInt8} (hA : Row nx gt 1 A n (l.map u8V)) (hc : n ≤ c) (hn : n ≤ 1000000) (hat : at' ≤ n) :
    Ct Tryd.prog 89 [.slice A n c, .int .i64 (at' : Nat), .int .i64 (n : Nat)] nx gt fun v _ _ => HdV l v (Fo.hd (l.drop at')) := by
  have hl : l.length = n := by simpa using hA.len
  have hnl : ¬ (n : Int) < (n : Int) := by omega
  refine Ct.of hmx r_lanyardref04_head (by simp [c_lanyardref04_head]) fun b hb => ?_
  have hdr : ∀ j, l.getD (at' + j) 0 = (l.drop at').getD j 0 := fun j => by simp [List.getD_eq_getElem?_getD]
  have hdl : (l.drop at').length = n - at' := by simp [hl]
  cases hs : l.drop at' with
  | nil =>
    rw [hs] at hdl
    simp only [List.length_nil] at hdl
    have h1 : (n : Int) ≤ (at' : Int) := by omega
    simp only [c_lanyardref04_head, ↓gaH, gaP, simprocAttr, gaE, implies_true, Nat.le_refl, Int.sub_zero, Nat.sub_zero, Int.le_refl, true_or, or_true, hnl, h1, decide_true, decide_false, Fo.hd, HdV]
  | cons x s1 =>
    rw [hs] at hdl hdr
    simp only [List.length_cons] at hdl
    have h1 : ¬ (n : Int) ≤ (at' : Int) := by omega
    obtain ⟨a, cl, ro, rfl, r2, r3, r4, r5⟩ := hA.cells (by omega)
    have hcell : ∀ i, i < n → cl.getD (a.off + i) undef = .int .u8 ((l.getD i 0).toNat : Nat) := fun i hi => by rw [r5 i hi, getD_u8 (by omega)]
    have c0 : cl.getD (a.off + at') undef = .int .u8 (x.toNat : Nat) := by
      rw [hcell at' (by omega)]; have := hdr 0; simp only [Nat.add_zero, List.getD_cons_zero] at this; rw [this]
    have t0 : ((x.toNat : Nat) : Int).tmod 32 = ((x.toNat % 32 : Nat) : Int) := by rw [Int.tmod_eq_emod_of_nonneg (by omega)]; omega
    have hdc : Fo.hd (x :: s1) = if x.toNat % 32 = 31 then .form else Fo.hl x.toNat s1 := rfl
    by_cases hx : ((x.toNat % 32 : Nat) : Int) = 31
    · rw [hdc, if_pos (by omega)]
      simp only [c_lanyardref04_head, ↓gaH, gaP, simprocAttr, gaE, implies_true, Nat.le_refl, Int.sub_zero, Nat.sub_zero, Int.le_refl, true_or, or_true, hnl, h1, decide_true, decide_false, r3, c0, t0, hx, HdV]
      repeat refine And.intro (by omega) ?_
      first | exact trivial | rfl | omega
    rw [hdc, if_neg (by omega)]
    have i1 : IntKind.i64.wrap ((at' : Int) + 1) = ((at' + 1 : Nat) : Int) := by rw [i64_w _ (by omega)]; omega
    have i2 : IntKind.i64.wrap ((at' : Int) + 2) = ((at' + 2 : Nat) : Int) := by rw [i64_w _ (by omega)]; omega
    have i3 : IntKind.i64.wrap ((at' : Int) + 3) = ((at' + 3 : Nat) : Int) := by rw [i64_w _ (by omega)]; omega
    have i4 : IntKind.i64.wrap ((at' : Int) + 4) = ((at' + 4 : Nat) : Int) := by rw [i64_w _ (by omega)]; omega
    cases hs1 : s1 with
    | nil =>
      subst hs1
      simp only [List.length_nil] at hdl
      have h2 : (n : Int) ≤ ((at' + 1 : Nat) : Int) := by omega
      simp only [c_lanyardref04_head, ↓gaH, gaP, simprocAttr, gaE, implies_true, Nat.le_refl, Int.sub_zero, Nat.sub_zero, Int.le_refl, true_or, or_true, hnl, h1, h2, decide_true, decide_false, r3, c0, t0, hx, i1, HdV, Fo.hl]
      repeat refine And.intro (by omega) ?_
      first | exact trivial | rfl | omega
    | cons y s2 =>
      subst hs1
      simp only [List.length_cons] at hdl
      have h2 : ¬ (n : Int) ≤ ((at' + 1 : Nat) : Int) := by omega
      have c1 : cl.getD (a.off + (at' + 1)) undef = .int .u8 (y.toNat : Nat) := by
        rw [hcell (at' + 1) (by omega)]; have := hdr 1; simp only [List.getD_cons_succ, List.getD_cons_zero] at this; rw [this]
      have hyl := UInt8.toNat_lt y
      have y1 : IntKind.i64.wrap ((y.toNat : Nat) : Int) = ((y.toNat : Nat) : Int) := by rw [i64_w _ (by omega)]
      simp only [Fo.hl]
      by_cases hy : ((y.toNat : Nat) : Int) < 128
      · rw [if_pos (by omega)]
        have e : l.length - s2.length = at' + 2 := by omega
        simp only [c_lanyardref04_head, ↓gaH, gaP, simprocAttr, gaE, implies_true, Nat.le_refl, Int.sub_zero, Nat.sub_zero, Int.le_refl, true_or, or_true, hnl, h1, h2, decide_true, decide_false, r3, c0, c1, t0, hx, i1, i2, y1, hy, HdV, e]
        repeat refine And.intro (by omega) ?_
        first | exact trivial | rfl | omega
      rw [if_neg (by omega)]
      by_cases hy9 : ((y.toNat : Nat) : Int) = 129
      · have hy9n : y.toNat = 129 := by omega
        have k1 : IntKind.i64.wrap ((at' : Int) + 129) = ((at' + 129 : Nat) : Int) := by rw [i64_w _ (by omega)]; omega
        have k2 : IntKind.i64.wrap (((at' + 129 : Nat) : Int) - 127) = ((at' + 2 : Nat) : Int) := by rw [i64_w _ (by omega)]; omega
        rw [if_pos hy9n]
        rw [hy9n] at c1
        have y2 : IntKind.i64.wrap ((129 : Nat) : Int) = 129 := i64_w 129 (by omega)
        have y3 : IntKind.i64.wrap 129 = 129 := by rw [i64_w _ (by omega)]
        cases s2 with
        | nil =>
          simp only [List.length_nil] at hdl
          have h3 : (n : Int) ≤ ((at' + 2 : Nat) : Int) := by omega
          simp only [c_lanyardref04_head, ↓gaH, gaP, simprocAttr, gaE, implies_true, Nat.le_refl, Int.sub_zero, Nat.sub_zero, Int.le_refl, true_or, or_true, hnl, h1, h2, decide_true, decide_false, r3, c0, c1, t0, hx, i1, i2, y2, y3, k1, k2, h3, HdV]
          repeat refine And.intro (by omega) ?_
          first | exact trivial | rfl | omega
        | cons z s3 =>
          simp only [List.length_cons] at hdl
          have h3 : ¬ (n : Int) ≤ ((at' + 2 : Nat) : Int) := by omega
          have c2 : cl.getD (a.off + (at' + 2)) undef = .int .u8 (z.toNat : Nat) := by
            rw [hcell (at' + 2) (by omega)]; have := hdr 2; simp only [List.getD_cons_succ, List.getD_cons_zero] at this; rw [this]
          have hzl := UInt8.toNat_lt z
          have z1 : IntKind.i64.wrap ((z.toNat : Nat) : Int) = ((z.toNat : Nat) : Int) := by rw [i64_w _ (by omega)]
          by_cases hz : ((z.toNat : Nat) : Int) < 128
          · simp only [if_pos (show z.toNat < 128 by omega)]
            simp only [c_lanyardref04_head, ↓gaH, gaP, simprocAttr, gaE, implies_true, Nat.le_refl, Int.sub_zero, Nat.sub_zero, Int.le_refl, true_or, or_true, hnl, h1, h2, decide_true, decide_false, r3, c0, c1, c2, t0, hx, i1, i2, y2, y3, k1, k2, h3, hz, HdV]
            repeat refine And.intro (by omega) ?_
            first | exact trivial | rfl | omega
          · simp only [if_neg (show ¬ z.toNat < 128 by omega)]
            have e : l.length - s3.length = at' + 3 := by omega
            simp only [c_lanyardref04_head, ↓gaH, gaP, simprocAttr, gaE, implies_true, Nat.le_refl, Int.sub_zero, Nat.sub_zero, Int.le_refl, true_or, or_true, hnl, h1, h2, decide_true, decide_false, r3, c0, c1, c2, t0, hx, i1, i2, i3, y2, y3, k1, k2, h3, hz, z1, HdV, e]
            repeat refine And.intro (by omega) ?_
            first | exact trivial | rfl | omega
      rw [if_neg (by omega)]
      by_cases hy0 : ((y.toNat : Nat) : Int) = 130
      · have hy0n : y.toNat = 130 := by omega
        have k1 : IntKind.i64.wrap ((at' : Int) + 130) = ((at' + 130 : Nat) : Int) := by rw [i64_w _ (by omega)]; omega
        have k2 : IntKind.i64.wrap (((at' + 130 : Nat) : Int) - 127) = ((at' + 3 : Nat) : Int) := by rw [i64_w _ (by omega)]; omega
        rw [if_pos hy0n]
        rw [hy0n] at c1
        have y2 : IntKind.i64.wrap ((130 : Nat) : Int) = 130 := i64_w 130 (by omega)
        have y3 : IntKind.i64.wrap 130 = 130 := by rw [i64_w _ (by omega)]
        by_cases h3 : (n : Int) ≤ ((at' + 3 : Nat) : Int)
        · rcases s2 with _ | ⟨z, _ | ⟨u, s4⟩⟩
          · simp only [c_lanyardref04_head, ↓gaH, gaP, simprocAttr, gaE, implies_true, Nat.le_refl, Int.sub_zero, Nat.sub_zero, Int.le_refl, true_or, or_true, hnl, h1, h2, decide_true, decide_false, r3, c0, c1, t0, hx, i1, i2, y2, y3, k1, k2, h3, HdV]
            repeat refine And.intro (by omega) ?_
            first | exact trivial | rfl | omega
          · simp only [c_lanyardref04_head, ↓gaH, gaP, simprocAttr, gaE, implies_true, Nat.le_refl, Int.sub_zero, Nat.sub_zero, Int.le_refl, true_or, or_true, hnl, h1, h2, decide_true, decide_false, r3, c0, c1, t0, hx, i1, i2, y2, y3, k1, k2, h3, HdV]
            repeat refine And.intro (by omega) ?_
            first | exact trivial | rfl | omega
          · simp only [List.length_cons] at hdl; omega
        · rcases s2 with _ | ⟨z, _ | ⟨u, s4⟩⟩
          · simp only [List.length_nil] at hdl; omega
          · simp only [List.length_cons, List.length_nil] at hdl; omega
          · simp only [List.length_cons] at hdl
            have c2 : cl.getD (a.off + (at' + 2)) undef = .int .u8 (z.toNat : Nat) := by
              rw [hcell (at' + 2) (by omega)]; have := hdr 2; simp only [List.getD_cons_succ, List.getD_cons_zero] at this; rw [this]
            have c3 : cl.getD (a.off + (at' + 3)) undef = .int .u8 (u.toNat : Nat) := by
              rw [hcell (at' + 3) (by omega)]; have := hdr 3; simp only [List.getD_cons_succ, List.getD_cons_zero] at this; rw [this]
            have hzl := UInt8.toNat_lt z
            have hul := UInt8.toNat_lt u
            have z1 : IntKind.i64.wrap ((z.toNat : Nat) : Int) = ((z.toNat : Nat) : Int) := by rw [i64_w _ (by omega)]
            have u1 : IntKind.i64.wrap ((u.toNat : Nat) : Int) = ((u.toNat : Nat) : Int) := by rw [i64_w _ (by omega)]
            have z2 : IntKind.i64.wrap (((z.toNat : Nat) : Int) * 256) = ((z.toNat * 256 : Nat) : Int) := by rw [i64_w _ (by omega)]; omega
            have z3 : IntKind.i64.wrap (((z.toNat * 256 : Nat) : Int) + ((u.toNat : Nat) : Int)) = ((z.toNat * 256 + u.toNat : Nat) : Int) := by rw [i64_w _ (by omega)]; omega
            by_cases hz : ((z.toNat : Nat) : Int) = 0
            · simp only [if_pos (show z.toNat = 0 by omega)]
              simp only [c_lanyardref04_head, ↓gaH, gaP, simprocAttr, gaE, implies_true, Nat.le_refl, Int.sub_zero, Nat.sub_zero, Int.le_refl, true_or, or_true, hnl, h1, h2, decide_true, decide_false, r3, c0, c1, c2, t0, hx, i1, i2, y2, y3, k1, k2, h3, hz, HdV]
              repeat refine And.intro (by omega) ?_
              first | exact trivial | rfl | omega
            · simp only [if_neg (show ¬ z.toNat = 0 by omega)]
              have e : l.length - s4.length = at' + 4 := by omega
              simp only [c_lanyardref04_head, ↓gaH, gaP, simprocAttr, gaE, implies_true, Nat.le_refl, Int.sub_zero, Nat.sub_zero, Int.le_refl, true_or, or_true, hnl, h1, h2, decide_true, decide_false, r3, c0, c1, c2, c3, t0, hx, i1, i2, i3, i4, y2, y3, k1, k2, h3, hz, z1, u1, z2, z3, HdV, e]
              repeat refine And.intro (by omega) ?_
              first | exact trivial | rfl | omega
      rw [if_neg (by omega)]
      simp only [c_lanyardref04_head, ↓gaH, gaP, simprocAttr, gaE, implies_true, Nat.le_refl, Int.sub_zero, Nat.sub_zero, Int.le_refl, true_or, or_true, hnl, h1, h2, decide_true, decide_false, r3, c0, c1, t0, hx, i1, i2, y1, hy, hy9, hy0, HdV]
      repeat refine And.intro (by omega) ?_
      first | exact trivial | rfl | omega
end Go.Ga

namespace Go.Ga
open Go
def RowL (lo nx : Nat) (gt : Nat → Option Blk) (e : Nat) (A : Option Addr) (N : Nat) (l : List Value) : Prop := Row nx gt e A N l ∧ (0 < N → ∀ a, A = some a → lo ≤ a.block)
theorem RowL.nil {lo nx gt e} : RowL lo nx gt e none 0 [] := ⟨.nil, fun h => absurd h (Nat.lt_irrefl 0)⟩
theorem RowL.keep {lo nx gt e A N l nx' gt'} (h : RowL lo nx gt e A N l) (h1 : nx ≤ nx') (h2 : ∀ p, lo ≤ p → p < nx → gt' p = gt p) : RowL lo nx' gt' e A N l := by
  refine ⟨⟨h.1.spot, h.1.len, fun hN => ?_⟩, h.2⟩
  obtain ⟨a, c, ro, e1, e2, e3, e4, e5⟩ := h.1.cells hN
  exact ⟨a, c, ro, e1, by omega, by rw [h2 _ (h.2 hN a e1) e2, e3], e4, e5⟩
theorem RowL.wid {lo lo' nx gt e A N l} (h : RowL lo nx gt e A N l) (h1 : lo' ≤ lo) : RowL lo' nx gt e A N l := ⟨h.1, fun hN a ha => Nat.le_trans h1 (h.2 hN a ha)⟩
def FoL (lo nx : Nat) (gt : Nat → Option Blk) : Fo → List Value → Prop
  | .nil, cs => cs = []
  | .cons t b k r, cs => ∃ (B : Option Addr) (m d : Nat) (A : Option Addr) (n c : Nat) (ks cs' : List Value), cs = .int .i64 t :: .slice B m d :: .slice A n c :: cs' ∧ (-9223372036854775808 ≤ t ∧ t ≤ 9223372036854775807) ∧ m ≤ d ∧ RowL lo nx gt 1 B m (b.map u8V) ∧ n ≤ c ∧ n = k.len ∧ RowL lo nx gt 3 A (n * 3) ks ∧ FoL lo nx gt k ks ∧ FoL lo nx gt r cs'
theorem FoL.keep {lo nx x : Nat} {gt g : Nat → Option Blk} (h1 : nx ≤ x) (h2 : ∀ p, lo ≤ p → p < nx → g p = gt p) : ∀ {F : Fo} {cs : List Value}, FoL lo nx gt F cs → FoL lo x g F cs := by
  intro F
  induction F with
  | nil => intro cs h; exact h
  | cons t b k r ih1 ih2 =>
    rintro cs ⟨B, m, d, A, n, c, ks, cs', rfl, a0, a1, a2, a3, a4, a5, a6, a7⟩
    exact ⟨B, m, d, A, n, c, ks, cs', rfl, a0, a1, a2.keep h1 h2, a3, a4, a5.keep h1 h2, ih1 a6, ih2 a7⟩
theorem FoL.wid {lo lo' nx : Nat} {gt : Nat → Option Blk} (h1 : lo' ≤ lo) : ∀ {F : Fo} {cs : List Value}, FoL lo nx gt F cs → FoL lo' nx gt F cs := by
  intro F
  induction F with
  | nil => intro cs h; exact h
  | cons t b k r ih1 ih2 =>
    rintro cs ⟨B, m, d, A, n, c, ks, cs', rfl, a0, a1, a2, a3, a4, a5, a6, a7⟩
    exact ⟨B, m, d, A, n, c, ks, cs', rfl, a0, a1, a2.wid h1, a3, a4, a5.wid h1, ih1 a6, ih2 a7⟩
theorem FoL.r {lo nx : Nat} {gt : Nat → Option Blk} : ∀ {F : Fo} {cs : List Value}, FoL lo nx gt F cs → FoR nx gt F cs := by
  intro F
  induction F with
  | nil => intro cs h; exact h
  | cons t b k r ih1 ih2 =>
    rintro cs ⟨B, m, d, A, n, c, ks, cs', rfl, a0, a1, a2, a3, a4, a5, a6, a7⟩
    exact ⟨B, m, d, A, n, c, ks, cs', rfl, a0, a1, a2.1, a3, a4, a5.1, ih1 a6, ih2 a7⟩
theorem FoL.app {lo nx : Nat} {gt : Nat → Option Blk} : ∀ {F : Fo} {cs : List Value} {G : Fo} {ds : List Value}, FoL lo nx gt F cs → FoL lo nx gt G ds → FoL lo nx gt (F.app G) (cs ++ ds) := by
  intro F
  induction F with
  | nil => intro cs G ds h k; rw [show cs = [] from h]; exact k
  | cons t b k r ih1 ih2 =>
    rintro cs G ds ⟨B, m, d, A, n, c, ks, cs', rfl, a0, a1, a2, a3, a4, a5, a6, a7⟩ h
    exact ⟨B, m, d, A, n, c, ks, cs' ++ ds, rfl, a0, a1, a2, a3, a4, a5, a6, ih2 a7 h⟩
structure NdL (lo nx : Nat) (gt : Nat → Option Blk) (x : Fo.El) (B : Option Addr) (m d : Nat) (A : Option Addr) (n c : Nat) (ks : List Value) : Prop where
  tg : -9223372036854775808 ≤ x.t ∧ x.t ≤ 9223372036854775807
  body : RowL lo nx gt 1 B m (x.b.map u8V)
  md : m ≤ d
  row : RowL lo nx gt 3 A (n * 3) ks
  nc : n ≤ c
  len : n = x.k.len
  kids : FoL lo nx gt x.k ks
theorem NdL.keep {lo nx x' : Nat} {gt g : Nat → Option Blk} {x B m d A n c ks} (h : NdL lo nx gt x B m d A n c ks) (h1 : nx ≤ x') (h2 : ∀ p, lo ≤ p → p < nx → g p = gt p) : NdL lo x' g x B m d A n c ks :=
  ⟨h.tg, h.body.keep h1 h2, h.md, h.row.keep h1 h2, h.nc, h.len, h.kids.keep h1 h2⟩
theorem NdL.wid {lo lo' nx : Nat} {gt : Nat → Option Blk} {x B m d A n c ks} (h : NdL lo nx gt x B m d A n c ks) (h1 : lo' ≤ lo) : NdL lo' nx gt x B m d A n c ks :=
  ⟨h.tg, h.body.wid h1, h.md, h.row.wid h1, h.nc, h.len, h.kids.wid h1⟩
theorem NdL.r {lo nx : Nat} {gt : Nat → Option Blk} {x B m d A n c ks} (h : NdL lo nx gt x B m d A n c ks) : NdR nx gt x B m d A n c ks :=
  ⟨h.tg, h.body.1, h.md, h.row.1, h.nc, h.len, h.kids.r⟩
theorem NdL.zero {lo nx : Nat} {gt : Nat → Option Blk} : NdL lo nx gt ⟨0, [], .nil⟩ none 0 0 none 0 0 [] := ⟨by simp, .nil, Nat.le_refl _, .nil, Nat.le_refl _, rfl, rfl⟩
theorem NdL.one {lo nx : Nat} {gt : Nat → Option Blk} {x B m d A n c ks} (h : NdL lo nx gt x B m d A n c ks) : FoL lo nx gt x.f (nodeL x.t B m d A n c) :=
  ⟨B, m, d, A, n, c, ks, [], rfl, h.tg, h.md, h.body, h.nc, h.len, h.row, h.kids, rfl⟩
theorem Own.rowL {nx b x g e A n l} (h : Own nx b x g e A n l) : RowL nx x g e A (n * e) l := by
  refine ⟨h.row, fun hN a ha => ?_⟩
  rcases h.2 with ⟨rfl, rfl⟩ | ⟨q, rfl, e2, e3, e4, e5⟩
  · cases ha
  · injection ha with ha; subst ha; exact e2
theorem Own.of {nx b x q n e : Nat} {g : Nat → Option Blk} {l : List Value} (hl : l.length = n * e) (h1 : nx ≤ q) (h2 : q < x) (h3 : b ≤ q) (h4 : g q = some (.cells l false)) : Own nx b x g e (some ⟨q, 0, some e⟩) n l :=
  ⟨hl, .inr ⟨q, rfl, h1, h2, h3, h4⟩⟩
theorem Own.blk {nx b x g e A n l} (h : Own nx b x g e A n l) : ∀ a e', A = some a → a.spot = some e' → nx ≤ a.block ∧ a.block < x := by
  intro a e' ha hs
  rcases h.2 with ⟨rfl, rfl⟩ | ⟨q, rfl, e2, e3, e4, e5⟩
  · cases ha
  · injection ha with ha; subst ha; exact ⟨e2, e3⟩
theorem FoL.len {lo nx : Nat} {gt : Nat → Option Blk} {F : Fo} {cs : List Value} (h : FoL lo nx gt F cs) : cs.length = F.len * 3 := h.r.len
theorem app_lit {x b z k e bytes : Nat} {g : Nat → Option Blk} {news : List Value} {K : Value → Mem → Prop} (hz : z < x) (hg : g z = some (.cells [] false)) (he : 0 < e) (hl : news.length = k * e)
    (hv : ∀ v ∈ news, cellVal v = true) (hs : k * bytes ≤ 140737488355328) (hs' : k ≤ 9223372036854775807)
    (hK : ∀ A' x' g', x ≤ x' → (∀ i, i < x → g' i = g i) → RowL x x' g' e A' (k * e) news → K (.slice A' k k) ⟨x', b, g'⟩) :
    appendK e bytes ⟨x, b, g⟩ (some ⟨z, 0, none⟩) 0 0 k news K := by
  have G : Grow x b x g e (some ⟨z, 0, none⟩) 0 [] := Grow.lit (ro := false) hz hg (by simp)
  by_cases hk : k = 0
  · subst hk
    have hn : news = [] := List.eq_nil_of_length_eq_zero (by simpa using hl)
    subst hn
    have := hK (some ⟨z, 0, none⟩) x g (Nat.le_refl _) (fun _ _ => rfl) ⟨by simpa using G.row, fun h => absurd h (by simp)⟩
    unfold appendK
    refine ⟨by simp, he, by simp, ?_⟩
    rw [if_pos (by omega)]
    simpa using this
  · refine grow_fresh G he (by omega) hl hv (by simpa using hs) (by omega) fun g' h1 h2 => ?_
    have := hK (some ⟨x, 0, some e⟩) (x + 1) g' (Nat.le_succ _) (fun i hi => h1 i hi (fun a e' ha hs => by injection ha with ha; subst ha; cases hs)) ⟨⟨fun a h => by injection h with h; subst h; exact .inr rfl, hl, fun _ => ⟨_, _, false, rfl, by simp only; omega, h2, by simp [hl], fun i _ => by simp⟩⟩, fun _ a ha => by injection ha with ha; subst ha; exact Nat.le_refl _⟩
    simpa using this
def ByL (lo nx : Nat) (g : Nat → Option Blk) (v : Value) (l : List UInt8) : Prop := ∃ (A : Option Addr) (n c : Nat), v = .slice A n c ∧ n ≤ c ∧ l.length = n ∧ RowL lo nx g 1 A n (l.map u8V)
theorem ByL.keep {lo nx x : Nat} {gt g : Nat → Option Blk} {v : Value} {l : List UInt8} (h : ByL lo nx gt v l) (h1 : nx ≤ x) (h2 : ∀ p, lo ≤ p → p < nx → g p = gt p) : ByL lo x g v l := by
  obtain ⟨A, n, c, e1, e2, e3, e4⟩ := h
  exact ⟨A, n, c, e1, e2, e3, e4.keep h1 h2⟩
theorem ByL.nil {lo nx : Nat} {g : Nat → Option Blk} : ByL lo nx g (.slice none 0 0) [] := ⟨none, 0, 0, rfl, Nat.le_refl _, rfl, .nil⟩
theorem app_litN {x b z n k e bytes : Nat} {g : Nat → Option Blk} {l news : List Value} {K : Value → Mem → Prop} (hz : z < x) (hg : g z = some (.cells l false)) (hn : l.length = n * e) (he : 0 < e) (hl : news.length = k * e)
    (hv : ∀ v ∈ news, cellVal v = true) (hs : (n + k) * bytes ≤ 140737488355328) (hs' : n + k ≤ 9223372036854775807)
    (hK : ∀ A' x' g', x ≤ x' → (∀ i, i < x → g' i = g i) → RowL z x' g' e A' ((n + k) * e) (l ++ news) → K (.slice A' (n + k) (n + k)) ⟨x', b, g'⟩) :
    appendK e bytes ⟨x, b, g⟩ (some ⟨z, 0, none⟩) n n k news K := by
  have G : Grow x b x g e (some ⟨z, 0, none⟩) n l := Grow.lit (ro := false) hz hg hn
  by_cases hk : k = 0
  · subst hk
    have hn0 : news = [] := List.eq_nil_of_length_eq_zero (by simpa using hl)
    subst hn0
    have := hK (some ⟨z, 0, none⟩) x g (Nat.le_refl _) (fun _ _ => rfl) ⟨by simpa using G.row, fun _ a ha => by injection ha with ha; subst ha; exact Nat.le_refl _⟩
    unfold appendK
    refine ⟨by simp, he, by simp, ?_⟩
    rw [if_pos (by omega)]
    simpa using this
  · refine grow_fresh G he (by omega) hl hv hs (by omega) fun g' h1 h2 => ?_
    exact hK (some ⟨x, 0, some e⟩) (x + 1) g' (Nat.le_succ _) (fun i hi => h1 i hi (fun a e' ha hs => by injection ha with ha; subst ha; cases hs)) ⟨⟨fun a h => by injection h with h; subst h; exact .inr rfl, by simp [hn, hl, Nat.add_mul], fun _ => ⟨_, _, false, rfl, by simp only; omega, h2, by simp [hn, hl, Nat.add_mul], fun i _ => by simp⟩⟩, fun _ a ha => by injection ha with ha; subst ha; simp only; omega⟩
namespace Fo
theorem elem_suf {s d : Nat} {l r : List UInt8} {x : El} (h : elem s d l = .ok (x, r)) : r.length < l.length ∧ l.drop (l.length - r.length) = r := by
  obtain ⟨h1, _, _⟩ := elem_ok h
  have h2 : 0 < x.f.ly.length := by
    simp only [El.f, ly, List.length_append, hb_len]
    have := hn_le (x.b.length + x.k.ly.length)
    omega
  subst h1
  refine ⟨by simp; omega, ?_⟩
  rw [List.length_append, show x.f.ly.length + r.length - r.length = x.f.ly.length by omega, List.drop_left]
theorem suf_drop {L s' p q : List UInt8} (h : p ++ (q ++ s') = L) : L.drop (L.length - s'.length) = s' := by
  subst h
  rw [← List.append_assoc, List.length_append, show (p ++ q).length + s'.length - s'.length = (p ++ q).length by omega, List.drop_left]
theorem KD_short {d : Nat} {l : List UInt8} (h : l ≠ []) : KD d l = match elem 3 d l with
    | .error e => .error (if e = 3 then 2 else e)
    | .ok (x, r) => match KD d r with
      | .error e => .error e
      | .ok q => .ok (.cons x.t x.b x.k q) := by
  rw [KD_cons h, elem_short]
  cases elem 3 d l <;> rfl
theorem hd_first {x : UInt8} {l r : List UInt8} {t n : Nat} (h : hd (x :: l) = .ok t n r) : t = x.toNat := by
  have h2 : (if x.toNat % 32 = 31 then Hd.form else hl x.toNat l) = .ok t n r := h
  split at h2
  · cases h2
  · exact (hl_ok h2).1
theorem elem_errs {s d e : Nat} {l : List UInt8} (h : elem s d l = .error e) : e = s ∨ e = 2 ∨ e = 4 := by
  unfold elem at h
  split at h
  · injection h with h; exact .inl h.symm
  · injection h with h; exact .inr (.inl h.symm)
  · split at h
    · injection h with h; exact .inl h.symm
    · split at h
      · injection h with h; exact .inr (.inr h.symm)
      · split at h
        · split at h
          · rename_i hk
            injection h with h; subst h
            exact .inr (kd_err hk)
          · cases h
        · cases h
end Fo
end Go.Ga

namespace Go.Ga
open Go Go.Proofs
set_option maxRecDepth 100000
attribute [local irreducible] appendK
def ElV (N lo nx : Nat) (g : Nat → Option Blk) (v : Value) : Except Nat (Fo.El × List UInt8) → Prop
  | .error e => v = .tuple #[nodeV 0 none 0 0 none 0 0, .int .i64 0, .int .i64 (e : Nat)]
  | .ok (y, s) => ∃ (B : Option Addr) (m d : Nat) (A : Option Addr) (k c : Nat) (ks : List Value), v = .tuple #[nodeV y.t B m d A k c, .int .i64 ((N - s.length : Nat) : Int), .int .i64 0] ∧ NdL lo nx g y B m d A k c ks
theorem end_el {b nx lo N : Nat} {gt : Nat → Option Blk} {f : Regs} {x' : Nat} {g' : Nat → Option Blk} {r : Except Nat (Fo.El × List UInt8)} {q : Nat} {cs : List Value} {ro : Bool} (h8 : f 8 = .pointer (some ⟨q, 0, none⟩)) (hg : g' q = some (.cells cs ro)) (hc : 3 ≤ cs.length)
    (h1 : nx ≤ x') (h2 : ∀ n, n < nx → g' n = gt n) (h3 : ElV N lo x' g' (.tuple #[.agg (cs.take 3).toArray, f 9, f 10]) r) : endK [.cN 8 3, .t 9, .t 10] b nx gt (fun v x g => ElV N lo x g v r) .ret f ⟨x', b, g'⟩ := by
  rw [end_r, res_cN h8 hg (by omega)]
  simp only [res_t, res_nil, Option.map_some, asO_e, one3, List.drop_zero]
  exact ⟨trivial, h1, h2, h3⟩
theorem ct_relem : ∀ (M nx : Nat) (gt : Nat → Option Blk) (A : Option Addr) (n c at' dp : Nat) (l : List UInt8), Row nx gt 1 A n (l.map u8V) → n ≤ c → n ≤ 1000000 → at' ≤ n → n - at' ≤ M → dp ≤ 32 →
    Ct Tryd.prog 62 [.slice A n c, .int .i64 (at' : Nat), .int .i64 (n : Nat), .int .i64 (dp : Nat)] nx gt fun v x g => ElV n nx x g v (Fo.elem 3 (32 - dp) (l.drop at')) := by
  intro M
  induction M using Nat.strongRecOn with
  | ind M ih =>
  intro nx gt A n c at' dp l hA hc hn hat hM hdp
  have hl : l.length = n := by simpa using hA.len
  refine Ct.of hmx r_lanyardref04_element (by simp [c_lanyardref04_element]) fun b hb => ?_
  have hF : ∀ q, q < nx → upd gt nx (some (.cells [Value.int .i64 0, .slice none 0 0, .slice none 0 0] false)) q = gt q := fun q hq => by simp only [upd_e]; rw [if_neg (by omega)]
  have hb0 : upd gt nx (some (.cells [Value.int .i64 0, .slice none 0 0, .slice none 0 0] false)) nx = some (.cells [Value.int .i64 0, .slice none 0 0, .slice none 0 0] false) := by simp only [upd_e, if_true]
  have hA0 := hA.keep (nx' := nx + 1) (by omega) hF
  simp only [c_lanyardref04_element, ↓gaH, gaP, simprocAttr, gaF, fillL, splice, gaU]
  generalize upd gt nx (some (.cells [Value.int .i64 0, .slice none 0 0, .slice none 0 0] false)) = g0 at *
  refine callK_of (ct_rhead hA0 hc hn hat) (fun v x1 g1 l1 k1 hC => ?_) (by omega)
  have hb1 : g1 nx = some (.cells [Value.int .i64 0, .slice none 0 0, .slice none 0 0] false) := by rw [k1 nx (by omega), hb0]
  have F1 : ∀ p, p < nx → g1 p = gt p := fun p hp => by rw [k1 p (by omega), hF p hp]
  have hA1 := hA0.keep l1 k1
  cases hh : Fo.hd (l.drop at') with
  | short =>
    rw [hh] at hC
    have hC : v = _ := hC
    subst hC
    have e : Fo.elem 3 (32 - dp) (l.drop at') = .error 3 := by unfold Fo.elem; rw [hh]
    simp only [↓gaH, gaP, simprocAttr, gaF, fillL, splice, hb1, e]
    repeat refine And.intro (by omega) ?_
    refine And.intro (node_cells _ _ _ _ _ _ _) ?_
    exact end_el (q := nx) (cs := nodeL 0 none 0 0 none 0 0) (ro := false) (by simp only [↓gaH, gaP, simprocAttr]; try rfl) (by simp only [upd_e, if_true]) (by simp) (by omega) (fun p hp => by simp only [upd_e]; rw [if_neg (by omega), F1 p hp]) rfl
  | form =>
    rw [hh] at hC
    have hC : v = _ := hC
    subst hC
    have e : Fo.elem 3 (32 - dp) (l.drop at') = .error 2 := by unfold Fo.elem; rw [hh]
    simp only [↓gaH, gaP, simprocAttr, gaF, fillL, splice, hb1, e]
    repeat refine And.intro (by omega) ?_
    refine And.intro (node_cells _ _ _ _ _ _ _) ?_
    exact end_el (q := nx) (cs := nodeL 0 none 0 0 none 0 0) (ro := false) (by simp only [↓gaH, gaP, simprocAttr]; try rfl) (by simp only [upd_e, if_true]) (by simp) (by omega) (fun p hp => by simp only [upd_e]; rw [if_neg (by omega), F1 p hp]) rfl
  | ok t k r =>
    rw [hh] at hC
    have hC : v = _ := hC
    subst hC
    obtain ⟨⟨t0, t1, t2⟩, hk, hdr⟩ := Fo.hd_ok hh
    have hlr := Fo.hd_len hh
    have hhn := Fo.hn_le k
    rw [List.length_drop, hl] at hlr
    obtain ⟨fr, hfr⟩ : ∃ fr, fr = n - r.length := ⟨_, rfl⟩
    have hfr2 : l.length - r.length = fr := by rw [hl, hfr]
    have hrd : l.drop fr = r := by
      have := Fo.suf_drop (L := l) (s' := r) (p := l.take at') (q := Fo.hb (t : Nat) k) (by rw [← hdr, List.take_append_drop])
      rw [hfr2] at this
      exact this
    have i1 : IntKind.i64.wrap (((fr : Nat) : Int) + (k : Nat)) = ((fr + k : Nat) : Int) := by rw [i64_w _ (by omega)]; omega
    by_cases hsh : (n : Int) < ((fr + k : Nat) : Int)
    · have e : Fo.elem 3 (32 - dp) (l.drop at') = .error 3 := by unfold Fo.elem; rw [hh]; simp only; rw [if_pos (by omega)]
      have hnl : ¬ (n : Int) < (n : Int) := by omega
      simp only [↓gaH, gaP, simprocAttr, gaF, fillL, splice, hb1, hfr2, i1, hsh, decide_true, hnl, decide_false, e]
      repeat refine And.intro (by omega) ?_
      refine And.intro (node_cells _ _ _ _ _ _ _) ?_
      exact end_el (q := nx) (cs := nodeL 0 none 0 0 none 0 0) (ro := false) (by simp only [↓gaH, gaP, simprocAttr]; try rfl) (by simp only [upd_e, if_true]) (by simp) (by omega) (fun p hp => by simp only [upd_e]; rw [if_neg (by omega), F1 p hp]) rfl
    by_cases hd : (32 : Int) ≤ (dp : Int)
    · have e : Fo.elem 3 (32 - dp) (l.drop at') = .error 4 := by unfold Fo.elem; rw [hh]; simp only; rw [if_neg (by omega), if_pos (by omega)]
      simp only [↓gaH, gaP, simprocAttr, gaF, fillL, splice, hb1, hfr2, i1, hsh, hd, decide_true, decide_false, e]
      repeat refine And.intro (by omega) ?_
      refine And.intro (node_cells _ _ _ _ _ _ _) ?_
      exact end_el (q := nx) (cs := nodeL 0 none 0 0 none 0 0) (ro := false) (by simp only [↓gaH, gaP, simprocAttr]; try rfl) (by simp only [upd_e, if_true]) (by simp) (by omega) (fun p hp => by simp only [upd_e]; rw [if_neg (by omega), F1 p hp]) rfl
    obtain ⟨a, cl, ro, rfl, q2, q3, q4, q5⟩ := hA1.cells (by omega)
    have ht : l.getD at' 0 = UInt8.ofNat t := by
      have h1 : l.drop at' ≠ [] := fun h => by rw [h] at hh; cases hh
      cases hx : l.drop at' with
      | nil => exact absurd hx h1
      | cons x tl =>
        rw [hx] at hh
        have := Fo.hd_first hh
        have e : l.getD at' 0 = x := by
          have : (l.drop at').getD 0 0 = x := by rw [hx]; rfl
          simpa [List.getD_eq_getElem?_getD] using this
        rw [e, this]; simp
    have c0 : cl.getD (a.off + at') undef = .int .u8 (t : Nat) := by
      rw [q5 at' (by omega), getD_u8 (by omega), ht, UInt8.toNat_ofNat']
      congr 2; omega
    have iT : IntKind.i64.wrap ((t : Nat) : Int) = (t : Nat) := i64_w _ (by omega)
    obtain ⟨d', hd'⟩ : ∃ d', 32 - dp = d' + 1 := ⟨31 - dp, by omega⟩
    rw [hd']
    have he : Fo.elem 3 (d' + 1) (l.drop at') = if Fo.has (t : Nat) then (match Fo.KD d' (r.take k) with
        | .error e => .error e
        | .ok K => .ok (⟨t, [], K⟩, r.drop k)) else .ok (⟨t, r.take k, .nil⟩, r.drop k) := by
      unfold Fo.elem; rw [hh]; simp only; rw [if_neg (by omega), if_neg (by omega)]; rfl
    rw [he]
    simp only [↓gaH, gaP, Nat.reduceEqDiff, Nat.reduceLeDiff, Nat.reduceAdd, Nat.reduceSub, Nat.reduceMul, Int.reduceLT, Int.reduceLE, Int.reduceEq, Int.reduceToNat, Int.reduceAdd, Int.reduceSub, Int.reduceMul, reduceCtorEq, ↓reduceIte, gaF, fillL, splice, hfr2, i1, hsh, hd, decide_false, q3, c0, iT]
    repeat refine And.intro (by omega) ?_
    refine And.intro (node_cells _ _ _ _ _ _ _) (And.intro (by omega) ?_)
    obtain ⟨g2, hg2⟩ : ∃ g, g = upd (upd g1 x1 (some (.cells [Value.int .i64 0, .slice none 0 0, .slice none 0 0] false))) x1 (some (.cells [Value.int .i64 (t : Nat), .slice none 0 0, .slice none 0 0] false)) := ⟨_, rfl⟩
    have G2 : ∀ p, p < x1 → g2 p = g1 p := fun p hp => by rw [hg2]; simp only [upd_e]; rw [if_neg (by omega), if_neg (by omega)]
    have hq2 : g2 x1 = some (.cells [Value.int .i64 (t : Nat), .slice none 0 0, .slice none 0 0] false) := by rw [hg2]; simp only [upd_e, if_true]
    rw [← hg2]; clear hg2
    have hA2 := hA1.keep (nx' := x1 + 1) (by omega) G2
    refine callK_of (ct_within (t : Nat) (by omega)) (fun v x3 g3 l3 k3 hC => ?_) (by omega)
    subst hC
    have hA3 := hA2.keep l3 k3
    have hq3 : g3 x1 = some (.cells [Value.int .i64 (t : Nat), .slice none 0 0, .slice none 0 0] false) := by rw [k3 x1 (by omega), hq2]
    have hb3 : g3 nx = some (.cells [Value.int .i64 0, .slice none 0 0, .slice none 0 0] false) := by rw [k3 nx (by omega), G2 nx (by omega), hb1]
    have F3 : ∀ p, p < nx → g3 p = gt p := fun p hp => by rw [k3 p (by omega), G2 p (by omega), F1 p hp]
    cases hw : Fo.has (t : Nat) with
    | false =>
      have hkk : (((fr + k : Nat) : Int) - ((fr : Nat) : Int)).toNat = k := by omega
      have htk : (r.take k).length = k := by rw [List.length_take, Nat.min_eq_left (by omega)]
      have hnx1 : (nx = x1) = False := by simp; omega
      have hP := hA3.part (lo := fr) (hi := fr + k) (by omega) (by omega) rfl
      rw [show fr + k - fr = k by omega, ← List.map_drop, ← List.map_take, hrd] at hP
      have hZ : ∀ p, p < x3 → upd g3 x3 (some (Blk.cells [] false)) p = g3 p := fun p hp => by simp only [upd_e]; rw [if_neg (by omega)]
      have hz : upd g3 x3 (some (Blk.cells [] false)) x3 = some (.cells [] false) := by simp only [upd_e, if_true]
      have hP1 := hP.keep (nx' := x3 + 1) (by omega) hZ
      have e5 : rowOf ⟨x3 + 1, b, upd g3 x3 (some (Blk.cells [] false))⟩ (some ⟨a.block, a.off + fr, a.spot⟩) k = some ((r.take k).map u8V) := hP1.rowOf
      have hsp := hA3.spot a rfl
      simp only [↓gaH, gaP, simprocAttr, gaF, fillL, splice, Bool.not_false, i1, Bool.false_eq_true, if_false, hkk, e5]
      refine And.intro (by omega) (And.intro (by omega) (And.intro (by omega) (And.intro (by omega) (And.intro (.inr hsp) ?_))))
      refine app_lit (by omega) hz (by omega) (by rw [List.length_map, htk, Nat.mul_one]) (all_u8 _) (by omega) (by omega) fun A6 x6 g6 l6 k6 R6 => ?_
      rw [Nat.mul_one] at R6
      have hq6 : g6 x1 = some (.cells [Value.int .i64 (t : Nat), .slice none 0 0, .slice none 0 0] false) := by rw [k6 x1 (by omega), hZ x1 (by omega), hq3]
      have hb6 : g6 nx = some (.cells [Value.int .i64 0, .slice none 0 0, .slice none 0 0] false) := by rw [k6 nx (by omega), hZ nx (by omega), hb3]
      simp only [↓gaH, gaP, simprocAttr, gaF, fillL, splice, hq6, hb6, hnx1]
      refine And.intro (by omega) (And.intro (all1 rfl) (And.intro (by omega) (And.intro (node_cells _ _ _ _ _ _ _) ?_)))
      refine end_el (q := nx) (cs := nodeL (t : Nat) A6 k k none 0 0) (ro := false) (by simp only [↓gaH, gaP, simprocAttr]; try rfl) (by simp only [upd_e, if_true]) (by simp) (by omega) (fun p hp => by simp only [upd_e]; rw [if_neg (by omega), if_neg (by omega), k6 p (by omega), hZ p (by omega), F3 p hp]) ?_
      have e9 : n - (r.drop k).length = fr + k := by rw [List.length_drop]; omega
      refine ⟨A6, k, k, none, 0, 0, [], by rw [e9]; rfl, ⟨by simp only; omega, (R6.keep (Nat.le_refl _) fun p hp _ => ?_).wid (by omega), Nat.le_refl _, .nil, Nat.le_refl _, rfl, rfl⟩⟩
      simp only [upd_e]; rw [if_neg (by omega), if_neg (by omega)]
    | true =>
      simp only [↓gaH, gaP, simprocAttr, gaF, fillL, splice, Bool.not_true, if_true]
      have hd2 : d' = 32 - (dp + 1) := by omega
      have hsl : (l.take (fr + k)).drop fr = r.take k := by rw [List.drop_take, hrd, show fr + k - fr = k by omega]
      refine loop_of (fun j f mm => ∃ (x4 hi N cur : Nat) (g : Nat → Option Blk) (Ak : Option Addr) (cs : List Value) (pre : Fo), j = fr + k - cur ∧ fr ≤ cur ∧ cur ≤ fr + k ∧ (Fo.KD d' (r.take k) = match Fo.KD d' ((l.take (fr + k)).drop cur) with
          | .error e => .error e
          | .ok q => .ok (pre.app q)) ∧ f 0 = .slice (some a) n c ∧ f 2 = .int .i64 (n : Nat) ∧ f 3 = .int .i64 (dp : Nat) ∧ f 8 = .pointer (some ⟨nx, 0, none⟩) ∧ f 11 = .int .i64 (fr : Nat) ∧ f 12 = .int .i64 (k : Nat) ∧ f 14 = .pointer (some ⟨x1, 0, none⟩) ∧ f 15 = .int .i64 (cur : Nat) ∧
          mm = ⟨x4, b, g⟩ ∧ x3 ≤ x4 ∧ (∀ p, p < x3 → p ≠ x1 → g p = g3 p) ∧ g x1 = some (.cells [Value.int .i64 (t : Nat), .slice none 0 0, .slice Ak N N] false) ∧ N = pre.len ∧ Own x3 b x4 g 3 Ak N cs ∧ N ≤ cur ∧ FoL x3 hi g pre cs ∧ hi ≤ x4 ∧ (∀ a e, Ak = some a → a.spot = some e → hi ≤ a.block)) (fr + k - fr)
        ⟨x3, x3, 0, fr, g3, none, [], .nil, rfl, by omega, by omega, by rw [hsl]; cases Fo.KD d' (r.take k) <;> rfl, (by simp only [↓gaH, gaP, simprocAttr]; try rfl), (by simp only [↓gaH, gaP, simprocAttr]; try rfl), (by simp only [↓gaH, gaP, simprocAttr]; try rfl), (by simp only [↓gaH, gaP, simprocAttr]; try rfl), (by simp only [↓gaH, gaP, simprocAttr]; try rfl), (by simp only [↓gaH, gaP, simprocAttr]; try rfl), (by simp only [↓gaH, gaP, simprocAttr]; try rfl), (by simp only [↓gaH, gaP, simprocAttr]; try rfl), rfl, by omega, fun _ _ _ => rfl, hq3, rfl, .nil, by omega, rfl, by omega, fun _ _ h => by cases h⟩ ?_
      rintro j f mm ⟨x4, hi, N, cur, g4, Ak, cs, pre, hj, hc1, hc2, hKD, f0, f2, f3, f8, f11, f12, f14, f15, rfl, hx4, F4, hq4, hN, hG4, hNc, hFo, hhi, hAk⟩
      have F5 : ∀ p, p < nx → g4 p = gt p := fun p hp => by rw [F4 p (by omega) (by omega), F3 p hp]
      have hb4 : g4 nx = some (.cells [Value.int .i64 0, .slice none 0 0, .slice none 0 0] false) := by rw [F4 nx (by omega) (by omega), hb3]
      have hA4 := hA.keep (nx' := x4) (gt' := g4) (by omega) F5
      have hP := hA4.part (lo := 0) (hi := fr + k) (by omega) (by omega) rfl
      rw [Nat.add_zero, Nat.sub_zero, List.drop_zero, ← List.map_take] at hP
      by_cases hlt : (cur : Int) < ((fr + k : Nat) : Int)
      · have hsp := hA4.spot a rfl
        have iD : IntKind.i64.wrap ((dp : Int) + 1) = ((dp + 1 : Nat) : Int) := by rw [i64_w _ (by omega)]; omega
        have hne : (l.take (fr + k)).drop cur ≠ [] := fun h => by
          have := congrArg List.length h
          simp only [List.length_drop, List.length_take, List.length_nil] at this
          omega
        simp only [↓gaH, gaP, simprocAttr, gaF, fillL, splice, f0, f2, f3, f11, f12, f15, i1, hlt, decide_true, iD]
        refine And.intro (by omega) (And.intro (by omega) (And.intro (by omega) (And.intro (.inr hsp) ?_)))
        rw [show (((fr + k : Nat) : Int) - 0).toNat = fr + k by omega, show ((c : Int) - 0).toNat = c by omega]
        refine callK_of (ih (fr + k - cur) (by omega) x4 g4 _ (fr + k) c cur (dp + 1) (l.take (fr + k)) hP (by omega) (by omega) (by omega) (by omega) (by omega)) (fun v x5 g5 l5 k5 hC => ?_) (by omega)
        rw [← hd2] at hC
        have hKs := Fo.KD_short (d := d') hne
        have F6 : ∀ p, p < nx → g5 p = gt p := fun p hp => by rw [k5 p (by omega), F5 p hp]
        have hb5 : g5 nx = some (.cells [Value.int .i64 0, .slice none 0 0, .slice none 0 0] false) := by rw [k5 nx (by omega), hb4]
        have hq5 : g5 x1 = some (.cells [Value.int .i64 (t : Nat), .slice none 0 0, .slice Ak N N] false) := by rw [k5 x1 (by omega), hq4]
        have hnx5 : (nx = x5) = False := by simp; omega
        have hx15 : (x1 = x5) = False := by simp; omega
        have hnx1 : (nx = x1) = False := by simp; omega
        have hx51 : (x5 = x1) = False := by simp; omega
        cases hEl : Fo.elem 3 d' ((l.take (fr + k)).drop cur) with
        | error e =>
          rw [hEl] at hC hKs
          have hC : v = _ := hC
          subst hC
          simp only at hKs
          rw [hKs] at hKD
          simp only at hKD
          rw [hKD]
          have herr := Fo.elem_errs hEl
          have hle : ((fr + k : Nat) : Int) ≤ (n : Int) := by omega
          by_cases he3 : e = 3
          · subst he3
            simp only [↓gaH, gaP, simprocAttr, gaF, fillL, splice, f2, f8, f11, f12, i1, hle, decide_true, hb5, hnx5]
            repeat refine And.intro (by omega) ?_
            refine And.intro (node_cells _ _ _ _ _ _ _) (And.intro (by omega) (And.intro (node_cells _ _ _ _ _ _ _) ?_))
            exact end_el (q := nx) (cs := nodeL 0 none 0 0 none 0 0) (ro := false) (by simp only [↓gaH, gaP, simprocAttr, f8]) (by simp only [upd_e, if_true]) (by simp) (by omega) (fun p hp => by simp only [upd_e]; rw [if_neg (by omega), if_neg (by omega), if_neg (by omega), F6 p hp]) rfl
          · have he3i : ¬ (e : Int) = 3 := by omega
            have he0i : ¬ (e : Int) = 0 := by omega
            simp only [↓gaH, gaP, simprocAttr, gaF, fillL, splice, f2, f8, f11, f12, i1, hle, he3i, he0i, decide_true, decide_false, hb5, hnx5, if_neg he3]
            repeat refine And.intro (by omega) ?_
            refine And.intro (node_cells _ _ _ _ _ _ _) (And.intro (by omega) (And.intro (node_cells _ _ _ _ _ _ _) ?_))
            exact end_el (q := nx) (cs := nodeL 0 none 0 0 none 0 0) (ro := false) (by simp only [↓gaH, gaP, simprocAttr, f8]) (by simp only [upd_e, if_true]) (by simp) (by omega) (fun p hp => by simp only [upd_e]; rw [if_neg (by omega), if_neg (by omega), if_neg (by omega), F6 p hp]) rfl
        | ok ys =>
          obtain ⟨y, s'⟩ := ys
          rw [hEl] at hC hKs
          obtain ⟨B', m', dd, A', n', c', ks', hv, hNd⟩ := hC
          have hv : v = _ := hv
          subst hv
          simp only [↓gaH, gaP, Nat.reduceEqDiff, Nat.reduceLeDiff, Nat.reduceAdd, Nat.reduceSub, Nat.reduceMul, Int.reduceLT, Int.reduceLE, Int.reduceEq, Int.reduceToNat, Int.reduceAdd, Int.reduceSub, Int.reduceMul, reduceCtorEq, ↓reduceIte, gaF, fillL, splice, f2, f8, f11, f12, f14, i1, hq5, hx15]
          repeat refine And.intro (by omega) ?_
          refine And.intro (node_cells _ _ _ _ _ _ _) (And.intro (by omega) ?_)
          obtain ⟨g6, hg6⟩ : ∃ g, g = upd (upd (upd g5 x5 (some (.cells [Value.int .i64 0, .slice none 0 0, .slice none 0 0] false))) x5 (some (.cells (nodeL y.t B' m' dd A' n' c') false))) (x5 + 1) (some (.cells (nodeL y.t B' m' dd A' n' c') false)) := ⟨_, rfl⟩
          have G6 : ∀ p, p < x5 → g6 p = g5 p := fun p hp => by rw [hg6]; simp only [upd_e]; rw [if_neg (by omega), if_neg (by omega), if_neg (by omega)]
          have hc6 : g6 (x5 + 1) = some (.cells (nodeL y.t B' m' dd A' n' c') false) := by rw [hg6]; simp only [upd_e, if_true]
          rw [← hg6]; clear hg6
          have e6 : rowOf ⟨x5 + 1 + 1, b, g6⟩ (some ⟨x5 + 1, 0, none⟩) 3 = some (nodeL y.t B' m' dd A' n' c') := (Row.lit (e := 1) (by omega) hc6 rfl).rowOf
          rw [e6]
          simp only [asO_e]
          have hO6 : Own x3 b (x5 + 1 + 1) g6 3 Ak N cs := hG4.keep (by omega) (fun p hp => by rw [G6 p (by omega), k5 p hp])
          have hblk := hG4.blk
          obtain ⟨hs1, hs2⟩ := Fo.elem_suf hEl
          have hLl : (l.take (fr + k)).length = fr + k := by rw [List.length_take]; omega
          have hel := (Fo.elem_ok hEl).1
          have hs3 : (l.take (fr + k)).drop (fr + k - s'.length) = s' := by
            have := Fo.suf_drop (L := l.take (fr + k)) (s' := s') (p := (l.take (fr + k)).take cur) (q := y.f.ly) (by rw [hel, List.take_append_drop])
            rw [hLl] at this
            exact this
          rw [List.length_drop, hLl] at hs1
          refine grow_fresh (.inl hO6) (by omega) (by omega) rfl (node_cells _ _ _ _ _ _ _) (by omega) (by omega) fun g7 k7 c7 => ?_
          have hq7 : g7 x1 = some (.cells [Value.int .i64 (t : Nat), .slice none 0 0, .slice Ak N N] false) := by rw [k7 x1 (by omega) (fun a e ha hs => by have := hblk a e ha hs; omega), G6 x1 (by omega), hq5]
          simp only [↓gaH, gaP, simprocAttr, gaF, fillL, splice, hq7, loopK_n]
          refine And.intro (by omega) (And.intro (all1 rfl) ?_)
          have hcsl : cs.length = N * 3 := hG4.1
          have hFin : ∀ p, p ≠ x1 → upd g7 x1 (some (Blk.cells [Value.int IntKind.i64 (t : Nat), Value.slice none 0 0, Value.slice (some ⟨x5 + 1 + 1, 0, some 3⟩) (N + 1) (N + 1)] false)) p = g7 p := fun p hp => by simp only [upd_e]; rw [if_neg hp]
          have hFx : upd g7 x1 (some (Blk.cells [Value.int IntKind.i64 (t : Nat), Value.slice none 0 0, Value.slice (some ⟨x5 + 1 + 1, 0, some 3⟩) (N + 1) (N + 1)] false)) x1 = some (.cells [Value.int .i64 (t : Nat), .slice none 0 0, .slice (some ⟨x5 + 1 + 1, 0, some 3⟩) (N + 1) (N + 1)] false) := by simp only [upd_e, if_true]
          generalize upd g7 x1 (some (Blk.cells [Value.int IntKind.i64 (t : Nat), Value.slice none 0 0, Value.slice (some ⟨x5 + 1 + 1, 0, some 3⟩) (N + 1) (N + 1)] false)) = g8 at *
          refine ⟨fr + k - (fr + k - s'.length), by omega, x5 + 1 + 1 + 1, x5 + 1 + 1, N + 1, fr + k - s'.length, g8, some ⟨x5 + 1 + 1, 0, some 3⟩, cs ++ nodeL y.t B' m' dd A' n' c', pre.app y.f, rfl, by omega, by omega, ?_, f0, f2, f3, f8, f11, f12, f14, rfl, rfl, by omega, fun p hp hpx => ?_, hFx, by rw [Fo.len_app, hN]; rfl, ?_, by omega, ?_, by omega, fun a e ha hs => by injection ha with ha; subst ha; exact Nat.le_refl _⟩
          · simp only at hKs
            rw [hKD, hKs, hs3]
            cases Fo.KD d' s' with
            | error e => rfl
            | ok q => simp only [Fo.app_one]
          · rw [hFin p hpx, k7 p (by omega) (fun a e ha hs => by have := hblk a e ha hs; omega), G6 p (by omega), k5 p (by omega), F4 p hp hpx]
          · exact Own.of (by simp only [List.length_append, hcsl, List.length_cons, List.length_nil]; omega) (by omega) (by omega) (by omega) (by rw [hFin _ (by omega), c7])
          · refine FoL.app (hFo.keep (by omega) fun p h1 h2 => ?_) ((hNd.one.keep (by omega) fun p h1 h2 => ?_).wid (by omega))
            · rw [hFin p (by omega), k7 p (by omega) (fun a e ha hs => by have := hAk a e ha hs; omega), G6 p (by omega), k5 p (by omega)]
            · rw [hFin p (by omega), k7 p (by omega) (fun a e ha hs => by have := hblk a e ha hs; omega), G6 p (by omega)]
      · have hkt : (r.take k).length = k := by rw [List.length_take, Nat.min_eq_left (by omega)]
        have hcur : cur = fr + k := by omega
        have hnil : (l.take (fr + k)).drop cur = [] := by
          apply List.eq_nil_of_length_eq_zero
          simp only [List.length_drop, List.length_take]; omega
        rw [hnil, Fo.KD_nil] at hKD
        simp only [Fo.app_nil] at hKD
        rw [hKD]
        simp only [↓gaH, gaP, simprocAttr, gaF, fillL, splice, f0, f2, f3, f8, f11, f12, f14, f15, i1, hlt, decide_false, hq4, hb4]
        repeat refine And.intro (by omega) ?_
        refine And.intro (node_cells _ _ _ _ _ _ _) ?_
        refine end_el (q := nx) (cs := nodeL (t : Nat) none 0 0 Ak N N) (ro := false) (by simp only [↓gaH, gaP, simprocAttr, f8]) (by simp only [upd_e, if_true]) (by simp) (by omega) (fun p hp => by simp only [upd_e]; rw [if_neg (by omega), F5 p hp]) ?_
        have e9 : n - (r.drop k).length = fr + k := by rw [List.length_drop]; omega
        refine ⟨none, 0, 0, Ak, N, N, cs, by rw [e9]; rfl, ⟨by simp only; omega, .nil, Nat.le_refl _, (hG4.rowL.keep (Nat.le_refl _) fun p hp _ => ?_).wid (by omega), Nat.le_refl _, hN, ?_⟩⟩
        · simp only [upd_e]; rw [if_neg (by omega)]
        · exact (hFo.keep hhi fun p hp _ => by simp only [upd_e]; rw [if_neg (by omega)]).wid (by omega)
end Go.Ga

namespace Go.Ga
open Go Go.Proofs
set_option maxRecDepth 100000
attribute [local irreducible] appendK
def ReadV (nx : Nat) (g : Nat → Option Blk) (v : Value) : Except Nat Fo.El → Prop
  | .error e => v = .tuple #[nodeV 0 none 0 0 none 0 0, .int .i64 (e : Nat)]
  | .ok y => ∃ (B : Option Addr) (m d : Nat) (A : Option Addr) (k c : Nat) (ks : List Value), v = .tuple #[nodeV y.t B m d A k c, .int .i64 0] ∧ NdR nx g y B m d A k c ks
theorem end_rd {b nx : Nat} {gt : Nat → Option Blk} {f : Regs} {x' : Nat} {g' : Nat → Option Blk} {r : Except Nat Fo.El} {q : Nat} {cs : List Value} {ro : Bool} (h8 : f 2 = .pointer (some ⟨q, 0, none⟩)) (hg : g' q = some (.cells cs ro)) (hc : 3 ≤ cs.length)
    (h1 : nx ≤ x') (h2 : ∀ n, n < nx → g' n = gt n) (h3 : ReadV x' g' (.tuple #[.agg (cs.take 3).toArray, f 3]) r) : endK [.cN 2 3, .t 3] b nx gt (fun v x g => ReadV x g v r) .ret f ⟨x', b, g'⟩ := by
  rw [end_r, res_cN h8 hg (by omega)]
  simp only [res_t, res_nil, Option.map_some, asO_e, one2, List.drop_zero]
  exact ⟨trivial, h1, h2, h3⟩
theorem ct_rRead {nx : Nat} {gt : Nat → Option Blk} {A : Option Addr} {n c : Nat} {l : List UInt8} (hA : Row nx gt 1 A n (l.map u8V)) (hc : n ≤ c) (hn : n ≤ 1000000) :
    Ct Tryd.prog 31 [.slice A n c] nx gt fun v x g => ReadV x g v (Fo.rd l) := by
  have hl : l.length = n := by simpa using hA.len
  refine Ct.of hmx r_lanyardref04_Read (by simp [c_lanyardref04_Read]) fun b hb => ?_
  have hF : ∀ q, q < nx → upd gt nx (some (.cells [Value.int .i64 0, .slice none 0 0, .slice none 0 0] false)) q = gt q := fun q hq => by simp only [upd_e]; rw [if_neg (by omega)]
  have hb0 : upd gt nx (some (.cells [Value.int .i64 0, .slice none 0 0, .slice none 0 0] false)) nx = some (.cells [Value.int .i64 0, .slice none 0 0, .slice none 0 0] false) := by simp only [upd_e, if_true]
  have hA0 := hA.keep (nx' := nx + 1) (by omega) hF
  simp only [c_lanyardref04_Read, ↓gaH, gaP, simprocAttr, gaF, fillL, splice, gaU]
  generalize upd gt nx (some (.cells [Value.int .i64 0, .slice none 0 0, .slice none 0 0] false)) = g0 at *
  by_cases hbig : (20000 : Int) < (n : Int)
  · have e : Fo.rd l = .error 5 := by unfold Fo.rd; rw [if_pos (by omega)]
    simp only [↓gaH, gaP, simprocAttr, gaF, fillL, splice, hbig, decide_true, hb0, e]
    repeat refine And.intro (by omega) ?_
    refine And.intro (node_cells _ _ _ _ _ _ _) ?_
    exact end_rd (q := nx) (cs := nodeL 0 none 0 0 none 0 0) (ro := false) (by simp only [↓gaH, gaP, simprocAttr]; try rfl) (by simp only [upd_e, if_true]) (by simp) (by omega) (fun p hp => by simp only [upd_e]; rw [if_neg (by omega), hF p hp]) rfl
  simp only [↓gaH, gaP, simprocAttr, gaF, fillL, splice, hbig, decide_false]
  refine callK_of (ct_relem n (nx + 1) g0 A n c 0 0 l hA0 hc hn (by omega) (by omega) (by omega)) (fun v x1 g1 l1 k1 hC => ?_) (by omega)
  rw [List.drop_zero, show 32 - 0 = 32 by omega] at hC
  have hb1 : g1 nx = some (.cells [Value.int .i64 0, .slice none 0 0, .slice none 0 0] false) := by rw [k1 nx (by omega), hb0]
  have F1 : ∀ p, p < nx → g1 p = gt p := fun p hp => by rw [k1 p (by omega), hF p hp]
  have hnx1 : (nx = x1) = False := by simp; omega
  cases hEl : Fo.elem 3 32 l with
  | error e =>
    rw [hEl] at hC
    have hC : v = _ := hC
    subst hC
    have herr := Fo.elem_errs hEl
    have he0i : ¬ (e : Int) = 0 := by omega
    have er : Fo.rd l = .error e := by unfold Fo.rd; rw [if_neg (by omega), hEl]
    simp only [↓gaH, gaP, simprocAttr, gaF, fillL, splice, he0i, decide_false, hb1, hnx1, er]
    repeat refine And.intro (by omega) ?_
    refine And.intro (node_cells _ _ _ _ _ _ _) (And.intro (by omega) (And.intro (node_cells _ _ _ _ _ _ _) ?_))
    exact end_rd (q := nx) (cs := nodeL 0 none 0 0 none 0 0) (ro := false) (by simp only [↓gaH, gaP, simprocAttr]; try rfl) (by simp only [upd_e, if_true]) (by simp) (by omega) (fun p hp => by simp only [upd_e]; rw [if_neg (by omega), if_neg (by omega), if_neg (by omega), F1 p hp]) rfl
  | ok ys =>
    obtain ⟨y, s'⟩ := ys
    rw [hEl] at hC
    obtain ⟨B', m', dd, A', n', c', ks', hv, hNd⟩ := hC
    have hv : v = _ := hv
    subst hv
    by_cases hs : s' = []
    · have er : Fo.rd l = .ok y := by unfold Fo.rd; rw [if_neg (by omega), hEl]; simp only; rw [if_pos hs]
      subst hs
      have hlt : ¬ ((n - 0 : Nat) : Int) < (n : Int) := by omega
      simp only [↓gaH, gaP, simprocAttr, gaF, fillL, splice, hlt, decide_false, hb1, hnx1, er]
      repeat refine And.intro (by omega) ?_
      refine And.intro (node_cells _ _ _ _ _ _ _) (And.intro (by omega) (And.intro (node_cells _ _ _ _ _ _ _) ?_))
      refine end_rd (q := nx) (cs := nodeL y.t B' m' dd A' n' c') (ro := false) (by simp only [↓gaH, gaP, simprocAttr]; try rfl) (by simp only [upd_e, if_true]) (by simp) (by omega) (fun p hp => by simp only [upd_e]; rw [if_neg (by omega), if_neg (by omega), if_neg (by omega), F1 p hp]) ?_
      refine ⟨B', m', dd, A', n', c', ks', rfl, (hNd.keep (x' := x1 + 1) (by omega) fun p h1 h2 => ?_).r⟩
      simp only [upd_e]; rw [if_neg (by omega), if_neg (by omega), if_neg (by omega)]
    · have hs0 : 0 < s'.length := List.length_pos_iff.2 hs
      have hlt2 := (Fo.elem_suf hEl).1
      have er : Fo.rd l = .error 2 := by unfold Fo.rd; rw [if_neg (by omega), hEl]; simp only; rw [if_neg hs]
      have hlt : ((n - s'.length : Nat) : Int) < (n : Int) := by omega
      simp only [↓gaH, gaP, simprocAttr, gaF, fillL, splice, hlt, decide_true, hb1, hnx1, er]
      repeat refine And.intro (by omega) ?_
      refine And.intro (node_cells _ _ _ _ _ _ _) (And.intro (by omega) (And.intro (node_cells _ _ _ _ _ _ _) ?_))
      exact end_rd (q := nx) (cs := nodeL 0 none 0 0 none 0 0) (ro := false) (by simp only [↓gaH, gaP, simprocAttr]; try rfl) (by simp only [upd_e, if_true]) (by simp) (by omega) (fun p hp => by simp only [upd_e]; rw [if_neg (by omega), if_neg (by omega), if_neg (by omega), F1 p hp]) rfl
end Go.Ga

namespace Go.Ga
open Go
def asE (v : Value) (K : Value → Prop) : Prop := match v with | .iface t u => K (.iface t u) | _ => False
@[congr] theorem asE_congr {v v' : Value} {K : Value → Prop} (h : v = v') : asE v K = asE v' K := by rw [h]
theorem asE_e (t : TypeId) (v : Value) (K) : asE (.iface t v) K = K (.iface t v) := (rfl)
theorem go_pan {P : Program} {f : Regs} {m : Mem} {Q : AEx → Regs → Mem → Prop} {d : Option Nat} {l : List RO} (x : Rv) : goOps P (⟨d, .pan x, none⟩ :: l) f m Q = asE (x.ev f) fun v => Q (.pan v) f m := by
  simp only [goOps, wantedA, Item.vc, asE]
  cases x.ev f <;> rfl
def SlB (nx : Nat) (g : Nat → Option Blk) (q : Nat) (v : Value) (l : List UInt8) : Prop :=
  ∃ (A : Option Addr) (N c : Nat), v = .slice A N c ∧ l.length = N ∧ N ≤ c ∧ (A = none → N = 0) ∧ Row nx g 1 A N (l.map u8V) ∧ (0 < N → ∀ a, A = some a → a.block ≠ q)
theorem SlB.keep {nx nx' q : Nat} {g g' : Nat → Option Blk} {v : Value} {l : List UInt8} (h : SlB nx g q v l) (h1 : nx ≤ nx') (h2 : ∀ p, p < nx → p ≠ q → g' p = g p) : SlB nx' g' q v l := by
  obtain ⟨A, N, c, rfl, e1, e2, e3, e4, e5⟩ := h
  refine ⟨A, N, c, rfl, e1, e2, e3, ⟨e4.spot, e4.len, fun hN => ?_⟩, e5⟩
  obtain ⟨a, cl, ro, b1, b2, b3, b4, b5⟩ := e4.cells hN
  exact ⟨a, cl, ro, b1, by omega, by rw [h2 _ b2 (e5 hN a b1), b3], b4, b5⟩
theorem SlB.other {nx nx' q q' : Nat} {g g' : Nat → Option Blk} {v : Value} {l : List UInt8} (h : SlB nx g q v l) (h1 : nx ≤ nx') (h2 : ∀ p, p < nx → p ≠ q → g' p = g p) (hq : nx ≤ q') (hl : l ≠ []) : SlB nx' g' q' v l := by
  obtain ⟨A, N, c, rfl, e1, e2, e3, e4, e5⟩ := h.keep h1 h2
  obtain ⟨A', N', c', hv, f1, f2, f3, f4, f5⟩ := h
  injection hv with hA hN hc
  subst hA hN hc
  have hN0 : 0 < N := by rw [← e1]; exact List.length_pos_iff.2 hl
  refine ⟨A, N, c, rfl, e1, e2, e3, e4, fun _ a ha => ?_⟩
  obtain ⟨a', cl, ro, b1, b2, b3, b4, b5⟩ := f4.cells hN0
  rw [ha] at b1; injection b1 with b1; subst b1
  omega
theorem SlB.first {nx q : Nat} {g : Nat → Option Blk} {v : Value} {y : UInt8} {l : List UInt8} (h : SlB nx g q v (y :: l)) : ∃ (a : Addr) (n c : Nat) (cl : List Value) (ro : Bool), v = .slice (some a) n c ∧ n = l.length + 1 ∧ g a.block = some (.cells cl ro) ∧ a.off + n ≤ cl.length ∧ cl.getD a.off undef = .int .u8 (y.toNat : Nat) ∧
    (∀ z l', l = z :: l' → cl.getD (a.off + 1) undef = .int .u8 (z.toNat : Nat)) := by
  obtain ⟨A, N, c, rfl, e1, e2, e3, e4, e5⟩ := h
  simp only [List.length_cons] at e1
  obtain ⟨a, cl, ro, rfl, b2, b3, b4, b5⟩ := e4.cells (by omega)
  refine ⟨a, N, c, cl, ro, rfl, e1.symm, b3, b4, ?_, fun z l' hz => ?_⟩
  · have := b5 0 (by omega)
    rw [Nat.add_zero] at this
    rw [this]; rfl
  · subst hz
    simp only [List.length_cons] at e1
    have := b5 1 (by omega)
    rw [this]; rfl
def RdS (nx : Nat) (g : Nat → Option Blk) (q : Nat) (l : List UInt8) (s : Nat) : Prop := ∃ v, g q = some (.cells [v, .int .i64 (s : Nat)] false) ∧ SlB nx g q v l
theorem RdS.keep {nx nx' q : Nat} {g g' : Nat → Option Blk} {l : List UInt8} {s : Nat} (h : RdS nx g q l s) (h1 : nx ≤ nx') (hq : g' q = g q) (h2 : ∀ p, p < nx → p ≠ q → g' p = g p) : RdS nx' g' q l s := by
  obtain ⟨v, e1, e2⟩ := h
  exact ⟨v, by rw [hq, e1], e2.keep h1 h2⟩
theorem Fo.hl_129 {t : Nat} {y : UInt8} {l : List UInt8} (h : y.toNat = 129) : Fo.hl t (y :: l) = match l with
    | [] => .short
    | x :: r => if x.toNat < 128 then .form else .ok t x.toNat r := by
  simp only [Fo.hl]; rw [if_neg (by omega), if_pos h]
  cases l <;> rfl
theorem Fo.hl_130 {t : Nat} {y : UInt8} {l : List UInt8} (h : y.toNat = 130) : Fo.hl t (y :: l) = match l with
    | x :: y :: r => if x.toNat = 0 then .form else .ok t (x.toNat * 256 + y.toNat) r
    | _ => .short := by
  simp only [Fo.hl]; rw [if_neg (by omega), if_neg (by omega), if_pos h]
  rcases l with _ | ⟨x, _ | ⟨z, l⟩⟩ <;> rfl
theorem shl_i64_8 (x : Nat) (h : x < 256) : shlV .i64 (x : Int) 8 = ((x * 256 : Nat) : Int) := by
  simp only [shlV, IntKind.bits]
  have : (2 : Int) ^ min (Int.toNat 8) 64 = 256 := by decide
  rw [this, i64_w _ (by omega)]; omega
theorem or_i64_8 (x y : Nat) (hx : x < 256) (hy : y < 256) : bitsV .or .i64 ((x * 256 : Nat) : Int) (y : Int) = ((x * 256 + y : Nat) : Int) := by
  rw [or_i64 (by omega) (by omega), or_low8 hy]
end Go.Ga

namespace Go.Ga
open Go Go.Proofs
set_option maxRecDepth 100000
section
variable {nx : Nat} {gt : Nat → Option Blk}
def errV (e : Nat) : Value := .iface 25 (.int .i64 (e : Nat))
theorem cp_take {q n s hi : Nat} {l : List UInt8} (hq : q < nx) (hh : hi ≤ nx) (hR : RdS hi gt q l s) (hn : n ≤ 1000000) :
    Cp Tryd.prog 82 [.pointer (some ⟨q, 0, none⟩), .int .i64 (n : Nat)] q nx gt (fun v x g => n ≤ l.length ∧ SlB hi g q v (l.take n) ∧ RdS hi g q (l.drop n) s) (fun v _ _ => l.length < n ∧ v = errV s) := by
  obtain ⟨v, hg, A, N, c, rfl, hl, hc, hA0, hA, hAq⟩ := hR
  refine Cp.of hmx r___tlv_reader__take (by simp [c___tlv_reader__take]) fun b hb hbq => ?_
  by_cases hlt : (N : Int) < (n : Int)
  · simp only [c___tlv_reader__take, ↓gaH, gaP, simprocAttr, gaF, fillL, splice, gaU, hg, hlt, decide_true, go_pan, asE_e, endP_p]
    repeat refine And.intro (by omega) ?_
    exact ⟨fun _ _ _ => trivial, by omega, rfl⟩
  · simp only [c___tlv_reader__take, ↓gaH, gaP, simprocAttr, gaF, fillL, splice, gaU, hg, hlt, decide_false, go_pan, asE_e, endP_p]
    repeat refine And.intro (by omega) ?_
    have hdl : (l.drop n).length = N - n := by rw [List.length_drop, hl]
    have htl : (l.take n).length = n := by rw [List.length_take, hl, Nat.min_eq_left (by omega)]
    have hfr : ∀ (m : Nat) (cs : List Value) p, p < m → p ≠ q → upd gt q (some (.cells cs false)) p = gt p := fun m cs p _ hpq => by simp only [upd_e]; rw [if_neg hpq]
    cases A with
    | none =>
      have hN0 : N = 0 := hA0 rfl
      have hn0 : n = 0 := by omega
      subst hN0 hn0
      have hl0 : l = [] := List.eq_nil_of_length_eq_zero hl
      subst hl0
      simp only [slK_n, ↓gaH, gaP, simprocAttr, gaF, fillL, splice, hg, endP_r, res_t, res_nil]
      have S0 : SlB hi gt q (.slice none 0 0) [] := ⟨none, 0, 0, rfl, rfl, Nat.le_refl _, fun _ => rfl, .nil, fun h => absurd h (Nat.lt_irrefl 0)⟩
      repeat refine And.intro (by omega) ?_
      refine And.intro (all1 rfl) ?_
      repeat refine And.intro (by omega) ?_
      refine And.intro (hfr _ _) ?_
      exact ⟨S0.keep (Nat.le_refl _) (hfr _ _), _, by simp only [upd_e, if_true], S0.keep (Nat.le_refl _) (hfr _ _)⟩
    | some a =>
      have hsp := hA.spot a rfl
      have hqa : 0 < N → a.block ≠ q := fun h => hAq h a rfl
      simp only [slK_s, ↓gaH, gaP, simprocAttr, gaF, fillL, splice, hg, endP_r, res_t, res_nil]
      rw [show ((n : Int) - 0).toNat = n by omega, show ((c : Int) - 0).toNat = c by omega, show ((N : Int) - (n : Int)).toNat = N - n by omega, show ((c : Int) - (n : Int)).toNat = c - n by omega]
      have P1 := hA.part (lo := 0) (hi := n) (by omega) (by omega) rfl
      rw [Nat.add_zero, Nat.sub_zero, List.drop_zero, ← List.map_take] at P1
      have P2 := hA.part (lo := n) (hi := N) (by omega) (by omega) rfl
      rw [← List.map_drop, ← List.map_take, List.take_of_length_le (by omega)] at P2
      have S1 : SlB hi gt q (.slice (some ⟨a.block, a.off, a.spot⟩) n c) (l.take n) := ⟨_, n, c, rfl, htl, by omega, (fun h => by cases h), P1, fun h0 a' h => by injection h with h; subst h; exact hqa (by omega)⟩
      have S2 : SlB hi gt q (.slice (some ⟨a.block, a.off + n, a.spot⟩) (N - n) (c - n)) (l.drop n) := ⟨_, N - n, c - n, rfl, hdl, by omega, (fun h => by cases h), P2, fun h0 a' h => by injection h with h; subst h; exact hqa (by omega)⟩
      refine And.intro (.inr hsp) ?_
      repeat refine And.intro (by omega) ?_
      refine And.intro (.inr hsp) (And.intro (by omega) (And.intro (all1 rfl) ?_))
      repeat refine And.intro (by omega) ?_
      refine And.intro (hfr _ _) (And.intro (by omega) ?_)
      exact ⟨S1.keep (Nat.le_refl _) (hfr _ _), _, by simp only [upd_e, if_true], S2.keep (Nat.le_refl _) (hfr _ _)⟩
theorem cp_must {q e : Nat} (t : Bool) : Cp Tryd.prog 56 [.bool t, .int .i64 (e : Nat)] q nx gt (fun v x g => t = true ∧ ∀ p, p < nx → g p = gt p) (fun v x g => t = false ∧ v = errV e) := by
  refine Cp.of hmx r_tlv_must (by simp [c_tlv_must]) fun b hb hbq => ?_
  cases t with
  | true =>
    simp only [c_tlv_must, ↓gaH, gaP, simprocAttr, gaF, fillL, splice, gaE, implies_true, Nat.le_refl, Int.sub_zero, Nat.sub_zero, Int.le_refl, true_or, or_true, gaU, go_pan, asE_e, endP_p, endP_n, Bool.not_true]
  | false =>
    simp only [c_tlv_must, ↓gaH, gaP, simprocAttr, gaF, fillL, splice, gaE, implies_true, Nat.le_refl, Int.sub_zero, Nat.sub_zero, Int.le_refl, true_or, or_true, gaU, go_pan, asE_e, endP_p, endP_n, Bool.not_false]
    rfl
theorem cp_length {q s hi : Nat} {l : List UInt8} (t0 : Nat) (hq : q < nx) (hh : hi ≤ nx) (hR : RdS hi gt q l s) :
    Cp Tryd.prog 83 [.pointer (some ⟨q, 0, none⟩)] q nx gt (fun v x g => ∃ n r, Fo.hl t0 l = .ok t0 n r ∧ n < 65536 ∧ v = .int .i64 (n : Nat) ∧ RdS hi g q r s) (fun v _ _ => (Fo.hl t0 l = .short ∧ v = errV s) ∨ (Fo.hl t0 l = .form ∧ v = errV 2)) := by
  refine Cp.of hmx r___tlv_reader__length (by simp [c___tlv_reader__length]) fun b hb hbq => ?_
  simp only [c___tlv_reader__length, ↓gaH, gaP, simprocAttr, gaF, fillL, splice, gaU]
  refine callP_of (cp_take (n := 1) hq hh hR (by omega)) (fun v x1 g1 l1 k1 hC => ?_) (fun v x1 g1 l1 k1 hE => ?_) (by omega) (by omega)
  case refine_2 =>
    obtain ⟨h1, rfl⟩ := hE
    have hl0 : l = [] := List.eq_nil_of_length_eq_zero (by omega)
    subst hl0
    simp only [↓gaH, gaP, simprocAttr, endP_p]
    exact ⟨l1, k1, .inl rfl⟩
  obtain ⟨hn1, hS1, hR1⟩ := hC
  obtain ⟨y, l', rfl⟩ : ∃ y l', l = y :: l' := by cases l with | nil => simp at hn1 | cons y l' => exact ⟨y, l', rfl⟩
  simp only [List.take_succ_cons, List.take_zero, List.drop_succ_cons, List.drop_zero] at hS1 hR1
  obtain ⟨a, n, c, cl, ro, rfl, hn, c1, c2, c3, _⟩ := hS1.first
  simp only [List.length_nil, Nat.zero_add] at hn
  subst hn
  have hyl := UInt8.toNat_lt y
  have y1 : IntKind.i64.wrap ((y.toNat : Nat) : Int) = ((y.toNat : Nat) : Int) := by rw [i64_w _ (by omega)]
  have F1 : ∀ p, p < nx → p ≠ q → g1 p = gt p := k1
  have w9 : IntKind.i64.wrap 129 = 129 := i64_w _ (by omega)
  have w0 : IntKind.i64.wrap 130 = 130 := i64_w _ (by omega)
  by_cases hy9 : ((y.toNat : Nat) : Int) = 129
  · have ehl := Fo.hl_129 (t := t0) (l := l') (show y.toNat = 129 by omega)
    simp only [↓gaH, gaP, simprocAttr, gaF, fillL, splice, c1, c3, y1, hy9, w9, decide_true]
    repeat refine And.intro (by omega) ?_
    refine callP_of (cp_take (n := 1) (by omega) (by omega) hR1 (by omega)) (fun v x2 g2 l2 k2 hC => ?_) (fun v x2 g2 l2 k2 hE => ?_) (by omega) (by omega)
    case refine_2 =>
      obtain ⟨h1, rfl⟩ := hE
      have hl0 : l' = [] := List.eq_nil_of_length_eq_zero (by omega)
      subst hl0
      simp only [↓gaH, gaP, simprocAttr, endP_p]
      exact ⟨by omega, fun p hp hpq => by rw [k2 p (by omega) hpq, k1 p hp hpq], .inl ehl⟩
    obtain ⟨hn2, hS2, hR2⟩ := hC
    obtain ⟨z, r, rfl⟩ : ∃ z r, l' = z :: r := by cases l' with | nil => simp at hn2 | cons z r => exact ⟨z, r, rfl⟩
    simp only [List.take_succ_cons, List.take_zero, List.drop_succ_cons, List.drop_zero] at hS2 hR2
    obtain ⟨a2, n2, c2', cl2, ro2, rfl, hn2', d1, d2, d3, _⟩ := hS2.first
    simp only [List.length_nil, Nat.zero_add] at hn2'
    subst hn2'
    have hzl := UInt8.toNat_lt z
    have z1 : IntKind.i64.wrap ((z.toNat : Nat) : Int) = ((z.toNat : Nat) : Int) := by rw [i64_w _ (by omega)]
    have F2 : ∀ p, p < nx → p ≠ q → g2 p = gt p := fun p hp hpq => by rw [k2 p (by omega) hpq, k1 p hp hpq]
    simp only [↓gaH, gaP, simprocAttr, gaF, fillL, splice, d1, d3, z1]
    repeat refine And.intro (by omega) ?_
    refine callP_of (cp_must (q := q) (e := 2) _) (fun v x3 g3 l3 k3 hC => ?_) (fun v x3 g3 l3 k3 hE => ?_) (by omega) (by omega)
    · obtain ⟨ht, k4⟩ := hC
      have ht := of_decide_eq_true ht
      simp only [↓gaH, gaP, simprocAttr, endP_r, res_t, res_nil]
      refine ⟨by omega, fun p hp hpq => by rw [k3 p (by omega) hpq, F2 p hp hpq], z.toNat, r, ?_, by omega, rfl, hR2.keep (Nat.le_refl _) (k4 q (by omega)) (fun p hp _ => k4 p (by omega))⟩
      rw [ehl]; simp only; rw [if_neg (by omega)]
    · obtain ⟨ht, rfl⟩ := hE
      have ht := of_decide_eq_false ht
      simp only [↓gaH, gaP, simprocAttr, endP_p]
      refine ⟨by omega, fun p hp hpq => by rw [k3 p (by omega) hpq, F2 p hp hpq], .inr ?_⟩
      rw [ehl]; simp only; rw [if_pos (by omega)]
  by_cases hy0 : ((y.toNat : Nat) : Int) = 130
  · have ehl := Fo.hl_130 (t := t0) (l := l') (show y.toNat = 130 by omega)
    have h09 : ¬ (130 : Int) = 129 := by omega
    simp only [↓gaH, gaP, simprocAttr, gaF, fillL, splice, c1, c3, y1, hy0, w0, h09, decide_true, decide_false]
    repeat refine And.intro (by omega) ?_
    refine callP_of (cp_take (n := 2) (by omega) (by omega) hR1 (by omega)) (fun v x2 g2 l2 k2 hC => ?_) (fun v x2 g2 l2 k2 hE => ?_) (by omega) (by omega)
    case refine_2 =>
      obtain ⟨h1, rfl⟩ := hE
      simp only [↓gaH, gaP, simprocAttr, endP_p]
      refine ⟨by omega, fun p hp hpq => by rw [k2 p (by omega) hpq, k1 p hp hpq], .inl ?_⟩
      rw [ehl]
      rcases l' with _ | ⟨z, _ | ⟨u, r⟩⟩
      · rfl
      · rfl
      · simp only [List.length_cons] at h1; omega
    obtain ⟨hn2, hS2, hR2⟩ := hC
    obtain ⟨z, u, r, rfl⟩ : ∃ z u r, l' = z :: u :: r := by
      rcases l' with _ | ⟨z, _ | ⟨u, r⟩⟩
      · simp at hn2
      · simp at hn2
      · exact ⟨z, u, r, rfl⟩
    simp only [List.take_succ_cons, List.take_zero, List.drop_succ_cons, List.drop_zero] at hS2 hR2
    obtain ⟨a2, n2, c2', cl2, ro2, rfl, hn2', d1, d2, d3, d4⟩ := hS2.first
    have d4 := d4 u [] rfl
    simp only [List.length_cons, List.length_nil, Nat.zero_add] at hn2'
    subst hn2'
    have hzl := UInt8.toNat_lt z
    have hul := UInt8.toNat_lt u
    have z1 : IntKind.i64.wrap ((z.toNat : Nat) : Int) = ((z.toNat : Nat) : Int) := by rw [i64_w _ (by omega)]
    have u1 : IntKind.i64.wrap ((u.toNat : Nat) : Int) = ((u.toNat : Nat) : Int) := by rw [i64_w _ (by omega)]
    have F2 : ∀ p, p < nx → p ≠ q → g2 p = gt p := fun p hp hpq => by rw [k2 p (by omega) hpq, k1 p hp hpq]
    have o1 := shl_i64_8 z.toNat hzl
    have o2 := or_i64_8 z.toNat u.toNat hzl hul
    simp only [↓gaH, gaP, simprocAttr, gaF, fillL, splice, d1, d3, d4, z1, u1, o1, o2]
    repeat refine And.intro (by omega) ?_
    refine callP_of (cp_must (q := q) (e := 2) _) (fun v x3 g3 l3 k3 hC => ?_) (fun v x3 g3 l3 k3 hE => ?_) (by omega) (by omega)
    · obtain ⟨ht, k4⟩ := hC
      have ht := of_decide_eq_true ht
      simp only [↓gaH, gaP, simprocAttr, endP_r, res_t, res_nil]
      refine ⟨by omega, fun p hp hpq => by rw [k3 p (by omega) hpq, F2 p hp hpq], z.toNat * 256 + u.toNat, r, ?_, by omega, rfl, hR2.keep (Nat.le_refl _) (k4 q (by omega)) (fun p hp _ => k4 p (by omega))⟩
      rw [ehl]; simp only; rw [if_neg (by omega)]
    · obtain ⟨ht, rfl⟩ := hE
      have ht := of_decide_eq_false ht
      simp only [↓gaH, gaP, simprocAttr, endP_p]
      refine ⟨by omega, fun p hp hpq => by rw [k3 p (by omega) hpq, F2 p hp hpq], .inr ?_⟩
      rw [ehl]; simp only; rw [if_pos (by omega)]
  · simp only [↓gaH, gaP, simprocAttr, gaF, fillL, splice, c1, c3, y1, hy9, hy0, decide_true, decide_false]
    repeat refine And.intro (by omega) ?_
    refine callP_of (cp_must (q := q) (e := 2) _) (fun v x3 g3 l3 k3 hC => ?_) (fun v x3 g3 l3 k3 hE => ?_) (by omega) (by omega)
    · obtain ⟨ht, k4⟩ := hC
      have ht := of_decide_eq_true ht
      simp only [↓gaH, gaP, simprocAttr, endP_r, res_t, res_nil]
      refine ⟨by omega, fun p hp hpq => by rw [k3 p (by omega) hpq, k1 p hp hpq], y.toNat, l', ?_, by omega, rfl, hR1.keep (Nat.le_refl _) (k4 q (by omega)) (fun p hp _ => k4 p (by omega))⟩
      simp only [Fo.hl]; rw [if_pos (by omega)]
    · obtain ⟨ht, rfl⟩ := hE
      have ht := of_decide_eq_false ht
      simp only [↓gaH, gaP, simprocAttr, endP_p]
      refine ⟨by omega, fun p hp hpq => by rw [k3 p (by omega) hpq, k1 p hp hpq], .inr ?_⟩
      simp only [Fo.hl]; rw [if_neg (by omega), if_neg (by omega), if_neg (by omega)]
end
end Go.Ga

namespace Go.Ga
open Go Go.Proofs
set_option maxRecDepth 100000
attribute [local irreducible] appendK
theorem end_elP {b q nx s : Nat} {gt : Nat → Option Blk} {f : Regs} {x' : Nat} {g' : Nat → Option Blk} {r : Except Nat (Fo.El × List UInt8)} {q4 : Nat} {cs : List Value} {ro : Bool} {E : Value → Nat → (Nat → Option Blk) → Prop} (h8 : f 4 = .pointer (some ⟨q4, 0, none⟩)) (hg : g' q4 = some (.cells cs ro)) (hc : 3 ≤ cs.length)
    (h1 : nx ≤ x') (h2 : ∀ n, n < nx → n ≠ q → g' n = gt n) {C : Value → Nat → (Nat → Option Blk) → Prop} (h3 : C (.agg (cs.take 3).toArray) x' g') : endP [.cN 4 3] b q nx gt C E .ret f ⟨x', b, g'⟩ := by
  rw [endP_r, res_cN h8 hg (by omega)]
  simp only [res_t, res_nil, Option.map_some, asO_e, one1, List.drop_zero]
  exact ⟨trivial, h1, h2, h3⟩
theorem cp_element : ∀ (M nx : Nat) (gt : Nat → Option Blk) (q s dp hi : Nat) (l : List UInt8), q < nx → hi ≤ nx → RdS hi gt q l s → l.length ≤ M → l.length ≤ 1000000 → dp ≤ 32 →
    Cp Tryd.prog 55 [.pointer (some ⟨q, 0, none⟩), .int .i64 (dp : Nat)] q nx gt
      (fun v x g => ∃ (y : Fo.El) (r : List UInt8), Fo.elem s (32 - dp) l = .ok (y, r) ∧ (∃ (B : Option Addr) (m d : Nat) (A : Option Addr) (k c : Nat) (ks : List Value), v = nodeV y.t B m d A k c ∧ NdL nx x g y B m d A k c ks) ∧ RdS hi g q r s)
      (fun v _ _ => ∃ e, Fo.elem s (32 - dp) l = .error e ∧ v = errV e) := by
  intro M
  induction M using Nat.strongRecOn with
  | ind M ih =>
  intro nx gt q s dp hi l hq hhi hR hM hl hdp
  refine Cp.of hmx r___tlv_reader__element (by simp [c___tlv_reader__element]) fun b hb hbq => ?_
  have hF : ∀ p, p < nx → upd gt nx (some (.cells [Value.int .i64 0, .slice none 0 0, .slice none 0 0] false)) p = gt p := fun p hp => by simp only [upd_e]; rw [if_neg (by omega)]
  have hb0 : upd gt nx (some (.cells [Value.int .i64 0, .slice none 0 0, .slice none 0 0] false)) nx = some (.cells [Value.int .i64 0, .slice none 0 0, .slice none 0 0] false) := by simp only [upd_e, if_true]
  have hR0 := hR.keep (nx' := hi) (Nat.le_refl _) (hF q hq) (fun p hp _ => hF p (by omega))
  simp only [c___tlv_reader__element, ↓gaH, gaP, simprocAttr, gaF, fillL, splice, gaU]
  generalize upd gt nx (some (.cells [Value.int .i64 0, .slice none 0 0, .slice none 0 0] false)) = g0 at *
  refine callP_of (cp_take (n := 1) (by omega) (by omega) hR0 (by omega)) (fun v x1 g1 l1 k1 hC => ?_) (fun v x1 g1 l1 k1 hE => ?_) (by omega) (by omega)
  case refine_2 =>
    obtain ⟨h1, rfl⟩ := hE
    have hl0 : l = [] := List.eq_nil_of_length_eq_zero (by omega)
    subst hl0
    simp only [↓gaH, gaP, simprocAttr, endP_p]
    exact ⟨by omega, fun p hp hpq => by rw [k1 p (by omega) hpq, hF p hp], s, rfl, rfl⟩
  obtain ⟨hn1, hS1, hR1⟩ := hC
  obtain ⟨xb, r0, rfl⟩ : ∃ y l', l = y :: l' := by cases l with | nil => simp at hn1 | cons y l' => exact ⟨y, l', rfl⟩
  simp only [List.take_succ_cons, List.take_zero, List.drop_succ_cons, List.drop_zero] at hS1 hR1
  obtain ⟨a, n, c, cl, ro, rfl, hn, c1, c2, c3, _⟩ := hS1.first
  simp only [List.length_nil, Nat.zero_add] at hn
  subst hn
  simp only [List.length_cons] at hM hl
  have hxl := UInt8.toNat_lt xb
  have y1 : IntKind.i64.wrap ((xb.toNat : Nat) : Int) = ((xb.toNat : Nat) : Int) := by rw [i64_w _ (by omega)]
  obtain ⟨t, ht⟩ : ∃ t, t = xb.toNat := ⟨_, rfl⟩
  rw [← ht] at c3 y1 hxl
  have hb1 : g1 nx = some (.cells [Value.int .i64 0, .slice none 0 0, .slice none 0 0] false) := by rw [k1 nx (by omega) (by omega), hb0]
  have F1 : ∀ p, p < nx → p ≠ q → g1 p = gt p := fun p hp hpq => by rw [k1 p (by omega) hpq, hF p hp]
  simp only [↓gaH, gaP, simprocAttr, gaF, fillL, splice, c1, c3, y1]
  repeat refine And.intro (by omega) ?_
  refine And.intro (node_cells _ _ _ _ _ _ _) ?_
  repeat refine And.intro (by omega) ?_
  obtain ⟨g2, hg2⟩ : ∃ g, g = upd (upd g1 x1 (some (.cells [Value.int .i64 0, .slice none 0 0, .slice none 0 0] false))) x1 (some (.cells [Value.int .i64 (t : Nat), .slice none 0 0, .slice none 0 0] false)) := ⟨_, rfl⟩
  have G2 : ∀ p, p < x1 → g2 p = g1 p := fun p hp => by rw [hg2]; simp only [upd_e]; rw [if_neg (by omega), if_neg (by omega)]
  have hq2 : g2 x1 = some (.cells [Value.int .i64 (t : Nat), .slice none 0 0, .slice none 0 0] false) := by rw [hg2]; simp only [upd_e, if_true]
  rw [← hg2]; clear hg2
  have hR2 := hR1.keep (nx' := hi) (Nat.le_refl _) (G2 q (by omega)) (fun p hp _ => G2 p (by omega))
  refine callK_of (ct_isTag (t : Nat)) (fun v x3 g3 l3 k3 hC => ?_) (by omega)
  obtain ⟨tg, rfl, htg⟩ := hC
  have hR3 := hR2.keep (nx' := hi) (Nat.le_refl _) (k3 q (by omega)) (fun p hp _ => k3 p (by omega))
  have hq3 : g3 x1 = some (.cells [Value.int .i64 (t : Nat), .slice none 0 0, .slice none 0 0] false) := by rw [k3 x1 (by omega), hq2]
  have hb3 : g3 nx = some (.cells [Value.int .i64 0, .slice none 0 0, .slice none 0 0] false) := by rw [k3 nx (by omega), G2 nx (by omega), hb1]
  have F3 : ∀ p, p < nx → p ≠ q → g3 p = gt p := fun p hp hpq => by rw [k3 p (by omega), G2 p (by omega), F1 p hp hpq]
  simp only [↓gaH, gaP, simprocAttr]
  refine callP_of (cp_must (q := q) (e := 2) tg) (fun v x4 g4 l4 k4 hC => ?_) (fun v x4 g4 l4 k4 hE => ?_) (by omega) (by omega)
  case refine_2 =>
    obtain ⟨rfl, rfl⟩ := hE
    simp only [↓gaH, gaP, simprocAttr, endP_p]
    refine ⟨by omega, fun p hp hpq => by rw [k4 p (by omega) hpq, F3 p hp hpq], 2, ?_, rfl⟩
    have hnt : ¬ Fo.tag ((t : Nat) : Int) := fun h => by have := htg.2 h; cases this
    have : t % 32 = 31 := by unfold Fo.tag at hnt; omega
    unfold Fo.elem
    have e : Fo.hd (xb :: r0) = .form := if_pos (by rw [← ht]; exact this)
    rw [e]
  obtain ⟨rfl, k4⟩ := hC
  have htag := htg.1 rfl
  have hhd : Fo.hd (xb :: r0) = Fo.hl t r0 := by
    unfold Fo.tag at htag
    rw [ht]; exact if_neg (by omega)
  have hR4 := hR3.keep (nx' := hi) (Nat.le_refl _) (k4 q (by omega)) (fun p hp _ => k4 p (by omega))
  simp only [↓gaH, gaP, simprocAttr]
  refine callP_of (cp_length t (by omega) (by omega) hR4) (fun v x5 g5 l5 k5 hC => ?_) (fun v x5 g5 l5 k5 hE => ?_) (by omega) (by omega)
  case refine_2 =>
    simp only [↓gaH, gaP, simprocAttr, endP_p]
    refine ⟨by omega, fun p hp hpq => by rw [k5 p (by omega) hpq, k4 p (by omega), F3 p hp hpq], ?_⟩
    rcases hE with ⟨h1, rfl⟩ | ⟨h1, rfl⟩
    · exact ⟨s, by unfold Fo.elem; rw [hhd, h1], rfl⟩
    · exact ⟨2, by unfold Fo.elem; rw [hhd, h1], rfl⟩
  obtain ⟨k, r, hhl, hk, rfl, hR5⟩ := hC
  have hq5 : g5 x1 = some (.cells [Value.int .i64 (t : Nat), .slice none 0 0, .slice none 0 0] false) := by rw [k5 x1 (by omega) (by omega), k4 x1 (by omega), hq3]
  have hb5 : g5 nx = some (.cells [Value.int .i64 0, .slice none 0 0, .slice none 0 0] false) := by rw [k5 nx (by omega) (by omega), k4 nx (by omega), hb3]
  have F5 : ∀ p, p < nx → p ≠ q → g5 p = gt p := fun p hp hpq => by rw [k5 p (by omega) hpq, k4 p (by omega), F3 p hp hpq]
  have hrl : r.length < r0.length := by
    have := Fo.hd_len (hhd.trans hhl)
    have := Fo.hn_le k
    simp only [List.length_cons] at *
    omega
  simp only [↓gaH, gaP, simprocAttr]
  refine callP_of (cp_take (n := k) (by omega) (by omega) hR5 (by omega)) (fun v x6 g6 l6 k6 hC => ?_) (fun v x6 g6 l6 k6 hE => ?_) (by omega) (by omega)
  case refine_2 =>
    obtain ⟨h1, rfl⟩ := hE
    simp only [↓gaH, gaP, simprocAttr, endP_p]
    exact ⟨by omega, fun p hp hpq => by rw [k6 p (by omega) hpq, F5 p hp hpq], s, by unfold Fo.elem; rw [hhd, hhl]; simp only; rw [if_pos h1], rfl⟩
  obtain ⟨hkr, hS6, hR6⟩ := hC
  have hq6 : g6 x1 = some (.cells [Value.int .i64 (t : Nat), .slice none 0 0, .slice none 0 0] false) := by rw [k6 x1 (by omega) (by omega), hq5]
  have hb6 : g6 nx = some (.cells [Value.int .i64 0, .slice none 0 0, .slice none 0 0] false) := by rw [k6 nx (by omega) (by omega), hb5]
  have F6 : ∀ p, p < nx → p ≠ q → g6 p = gt p := fun p hp hpq => by rw [k6 p (by omega) hpq, F5 p hp hpq]
  simp only [↓gaH, gaP, simprocAttr]
  refine callP_of (cp_must (q := q) (e := 4) _) (fun v x7 g7 l7 k7 hC => ?_) (fun v x7 g7 l7 k7 hE => ?_) (by omega) (by omega)
  case refine_2 =>
    obtain ⟨h1, rfl⟩ := hE
    have h1 := of_decide_eq_false h1
    simp only [↓gaH, gaP, simprocAttr, endP_p]
    exact ⟨by omega, fun p hp hpq => by rw [k7 p (by omega) hpq, F6 p hp hpq], 4, by unfold Fo.elem; rw [hhd, hhl]; simp only; rw [if_neg (by omega), if_pos (by omega)], rfl⟩
  obtain ⟨h1, k7⟩ := hC
  have h1 := of_decide_eq_true h1
  obtain ⟨d', hd'⟩ : ∃ d', 32 - dp = d' + 1 := ⟨31 - dp, by omega⟩
  rw [hd']
  have he : Fo.elem s (d' + 1) (xb :: r0) = if Fo.has (t : Nat) then (match Fo.KD d' (r.take k) with
      | .error e => .error e
      | .ok K => .ok (⟨t, [], K⟩, r.drop k)) else .ok (⟨t, r.take k, .nil⟩, r.drop k) := by
    unfold Fo.elem; rw [hhd, hhl]; simp only; rw [if_neg (by omega), if_neg (by omega)]; rfl
  rw [he]
  have hq7 : g7 x1 = some (.cells [Value.int .i64 (t : Nat), .slice none 0 0, .slice none 0 0] false) := by rw [k7 x1 (by omega), hq6]
  have hb7 : g7 nx = some (.cells [Value.int .i64 0, .slice none 0 0, .slice none 0 0] false) := by rw [k7 nx (by omega), hb6]
  have F7 : ∀ p, p < nx → p ≠ q → g7 p = gt p := fun p hp hpq => by rw [k7 p (by omega), F6 p hp hpq]
  have hR7 := hR6.keep (nx' := hi) (Nat.le_refl _) (k7 q (by omega)) (fun p hp _ => k7 p (by omega))
  have hS7 := hS6.keep (nx' := hi) (Nat.le_refl _) (fun p hp _ => k7 p (by omega))
  simp only [↓gaH, gaP, simprocAttr, hq7, List.getD_cons_zero]
  repeat refine And.intro (by omega) ?_
  refine callK_of (ct_holds (t : Nat)) (fun v x8 g8 l8 k8 hC => ?_) (by omega)
  subst hC
  have hq8 : g8 x1 = some (.cells [Value.int .i64 (t : Nat), .slice none 0 0, .slice none 0 0] false) := by rw [k8 x1 (by omega), hq7]
  have hb8 : g8 nx = some (.cells [Value.int .i64 0, .slice none 0 0, .slice none 0 0] false) := by rw [k8 nx (by omega), hb7]
  have F8 : ∀ p, p < nx → p ≠ q → g8 p = gt p := fun p hp hpq => by rw [k8 p (by omega), F7 p hp hpq]
  have hR8 := hR7.keep (nx' := hi) (Nat.le_refl _) (k8 q (by omega)) (fun p hp _ => k8 p (by omega))
  have hS8 := hS7.keep (nx' := hi) (Nat.le_refl _) (fun p hp _ => k8 p (by omega))
  clear hR hR0 hR1 hR2 hR3 hR4 hR5 hR6 hR7 hS1 hS6 hS7 k1 k3 k4 k5 k6 k7 k8 hq2 hq3 hq5 hq6 hq7 hb0 hb1 hb3 hb5 hb6 hb7 F1 F3 F5 F6 F7 G2 hF
  cases hw : Fo.has (t : Nat) with
  | false =>
    obtain ⟨A9, N9, c9, rfl, e1, e2, e3, e4, e5⟩ := hS8
    have hZ : ∀ p, p < x8 → upd g8 x8 (some (Blk.cells [] false)) p = g8 p := fun p hp => by simp only [upd_e]; rw [if_neg (by omega)]
    have hz : upd g8 x8 (some (Blk.cells [] false)) x8 = some (.cells [] false) := by simp only [upd_e, if_true]
    have hP1 := e4.keep (nx' := x8 + 1) (by omega) (fun p hp => hZ p (by omega))
    have e6 : rowOf ⟨x8 + 1, b, upd g8 x8 (some (Blk.cells [] false))⟩ A9 N9 = some ((r.take k).map u8V) := hP1.rowOf
    have hN9 : N9 ≤ k := by rw [← e1, List.length_take]; omega
    have hnx1 : (nx = x1) = False := by simp; omega
    simp only [↓gaH, gaP, simprocAttr, gaF, fillL, splice, Bool.not_false, e6]
    refine app_lit (by omega) hz (by omega) (by rw [List.length_map, e1, Nat.mul_one]) (all_u8 _) (by omega) (by omega) fun A6 x6 g6 l6 k6 R6 => ?_
    rw [Nat.mul_one] at R6
    have hq6 : g6 x1 = some (.cells [Value.int .i64 (t : Nat), .slice none 0 0, .slice none 0 0] false) := by rw [k6 x1 (by omega), hZ x1 (by omega), hq8]
    have hb6 : g6 nx = some (.cells [Value.int .i64 0, .slice none 0 0, .slice none 0 0] false) := by rw [k6 nx (by omega), hZ nx (by omega), hb8]
    simp only [↓gaH, gaP, simprocAttr, gaF, fillL, splice, hq6, hb6, hnx1]
    refine And.intro (by omega) (And.intro (all1 rfl) (And.intro (by omega) (And.intro (node_cells _ _ _ _ _ _ _) ?_)))
    obtain ⟨g9, hg9⟩ : ∃ g, g = upd (upd g6 x1 (some (.cells [Value.int .i64 (t : Nat), .slice A6 N9 N9, .slice none 0 0] false))) nx (some (.cells (nodeL (t : Nat) A6 N9 N9 none 0 0) false)) := ⟨_, rfl⟩
    have G9 : ∀ p, p ≠ x1 → p ≠ nx → g9 p = g6 p := fun p h1 h2 => by rw [hg9]; simp only [upd_e]; rw [if_neg h2, if_neg h1]
    have hc9 : g9 nx = some (.cells (nodeL (t : Nat) A6 N9 N9 none 0 0) false) := by rw [hg9]; simp only [upd_e, if_true]
    rw [← hg9]; clear hg9
    refine end_elP (s := s) (r := .error 0) (q4 := nx) (cs := nodeL (t : Nat) A6 N9 N9 none 0 0) (ro := false) (by simp only [↓gaH, gaP, simprocAttr]; try rfl) hc9 (by simp) (by omega) (fun p hp hpq => by rw [G9 p (by omega) (by omega), k6 p (by omega), hZ p (by omega), F8 p hp hpq]) ?_
    refine ⟨_, _, rfl, ⟨A6, N9, N9, none, 0, 0, [], rfl, ⟨by simp only; omega, (R6.keep (Nat.le_refl _) fun p hp _ => G9 p (by omega) (by omega)).wid (by omega), Nat.le_refl _, .nil, Nat.le_refl _, rfl, rfl⟩⟩, ?_⟩
    exact hR8.keep (Nat.le_refl _) (by rw [G9 q (by omega) (by omega), k6 q (by omega), hZ q (by omega)]) (fun p hp _ => by rw [G9 p (by omega) (by omega), k6 p (by omega), hZ p (by omega)])
  | true =>
    obtain ⟨A9, N9, c9, rfl, e1, e2, e3, e4, e5⟩ := hS8
    have htl : (r.take k).length = k := by rw [List.length_take, Nat.min_eq_left (by omega)]
    have hN9 : N9 = k := by rw [← e1, htl]
    subst hN9
    have hZ : ∀ p, p < x8 → upd g8 x8 (some (Blk.cells [Value.slice A9 N9 c9, .int .i64 2] false)) p = g8 p := fun p hp => by simp only [upd_e]; rw [if_neg (by omega)]
    have hz : upd g8 x8 (some (Blk.cells [Value.slice A9 N9 c9, .int .i64 2] false)) x8 = some (.cells [Value.slice A9 N9 c9, .int .i64 2] false) := by simp only [upd_e, if_true]
    have hd2 : d' = 32 - (dp + 1) := by omega
    have iD : IntKind.i64.wrap ((dp : Int) + 1) = ((dp + 1 : Nat) : Int) := by rw [i64_w _ (by omega)]; omega
    have hnx1 : (nx = x1) = False := by simp; omega
    simp only [↓gaH, gaP, simprocAttr, gaF, fillL, splice, Bool.not_true]
    generalize upd g8 x8 (some (Blk.cells [Value.slice A9 N9 c9, .int .i64 2] false)) = g9 at *
    refine loop_of (fun j f mm => ∃ (x9 hi9 N c' : Nat) (g : Nat → Option Blk) (Ak A' : Option Addr) (cs : List Value) (pre : Fo) (rem : List UInt8), j = rem.length ∧ rem.length ≤ r.length ∧ (Fo.KD d' (r.take N9) = match Fo.KD d' rem with
          | .error e => .error e
          | .ok K => .ok (pre.app K)) ∧ f 1 = .int .i64 (dp : Nat) ∧ f 4 = .pointer (some ⟨nx, 0, none⟩) ∧ f 5 = .pointer (some ⟨x1, 0, none⟩) ∧ f 7 = .pointer (some ⟨x8, 0, none⟩) ∧
          mm = ⟨x9, b, g⟩ ∧ x8 + 1 ≤ x9 ∧ (∀ p, p < x8 → p ≠ x1 → g p = g8 p) ∧ g x1 = some (.cells [Value.int .i64 (t : Nat), .slice none 0 0, .slice Ak N N] false) ∧ g x8 = some (.cells [Value.slice A' rem.length c', .int .i64 2] false) ∧ (rem ≠ [] → RdS hi g x8 rem 2) ∧ N = pre.len ∧ Own (x8 + 1) b x9 g 3 Ak N cs ∧ N + rem.length ≤ 1000000 ∧
          FoL (x8 + 1) hi9 g pre cs ∧ hi9 ≤ x9 ∧ (∀ a e, Ak = some a → a.spot = some e → hi9 ≤ a.block)) (r.take N9).length
      ⟨x8 + 1, x8 + 1, 0, c9, g9, none, A9, [], .nil, r.take N9, rfl, by omega, by cases Fo.KD d' (r.take N9) <;> rfl, (by simp only [↓gaH, gaP, simprocAttr]; try rfl), (by simp only [↓gaH, gaP, simprocAttr]; try rfl), (by simp only [↓gaH, gaP, simprocAttr]; try rfl), (by simp only [↓gaH, gaP, simprocAttr]; try rfl), rfl, by omega, fun p hp _ => hZ p hp, by rw [hZ x1 (by omega), hq8], by rw [hz, e1], fun hne => ⟨_, hz, ?_⟩, rfl, .nil, by omega, rfl, by omega, fun _ _ h => by cases h⟩ ?_
    · have S8 : SlB hi g8 q (.slice A9 N9 c9) (r.take N9) := ⟨A9, N9, c9, rfl, e1, e2, e3, e4, e5⟩
      exact S8.other (Nat.le_refl _) (fun p hp _ => hZ p (by omega)) (by omega) hne
    rintro j f mm ⟨x9, hi9, N, c', g, Ak, A', cs, pre, rem, hj, hrem, hKD, f1, f4, f5, f7, rfl, hx9, F9, hc1, hc8, hRd, hN, hOwn, hNr, hFo, hhi9, hAk⟩
    have F10 : ∀ p, p < nx → p ≠ q → g p = gt p := fun p hp hpq => by rw [F9 p (by omega) (by omega), F8 p hp hpq]
    have hb10 : g nx = some (.cells [Value.int .i64 0, .slice none 0 0, .slice none 0 0] false) := by rw [F9 nx (by omega) (by omega), hb8]
    have hblk := hOwn.blk
    by_cases hlt : (0 : Int) < (rem.length : Int)
    · have hne : rem ≠ [] := fun h => by rw [h] at hlt; simp at hlt
      have hR := hRd hne
      have hKs := Fo.KD_cons (d := d') hne
      simp only [↓gaH, gaP, simprocAttr, gaF, fillL, splice, gaU, f7, hc8, hlt, decide_true]
      repeat refine And.intro (by omega) ?_
      obtain ⟨res, M1, hC, hcall⟩ := Fn.det (ih rem.length (by simp only [List.length_cons] at *; omega) x9 g x8 2 (dp + 1) hi rem (by omega) (by omega) hR (Nat.le_refl _) (by omega) (by omega) b (by omega) (by omega)) (by show b ≤ x9; omega)
      obtain ⟨x10, b10, g10⟩ := M1
      obtain ⟨hb10', hx10, k10, hres⟩ := hC
      have hx10 : x9 ≤ x10 := hx10
      have k10 : ∀ n, n < x9 → n ≠ x8 → g10 n = g n := k10
      have hb10' : b10 = b := hb10'
      subst hb10'
      rw [← hd2] at hres
      cases res with
      | pan v =>
        obtain ⟨e, hel, hv⟩ := hres
        subst hv
        rw [hel] at hKs
        simp only at hKs
        rw [hKs] at hKD
        simp only at hKD
        refine vc_tree_pan ⟨errV e, ⟨x10, b10, g10⟩, ?_, ?_, ?_⟩
        · simp only [↓gaH, gaP, simprocAttr, loopK_p, endP_p, hKD]
          exact ⟨by omega, fun p hp hpq => by rw [k10 p (by omega) (by omega), F10 p hp hpq], e, rfl, rfl⟩
        · refine ⟨rfl, hx10, fun p hp => ?_⟩
          have hp' : p < b10 := hp
          show g10 p = g p
          rw [k10 p (by omega) (by omega)]
        · refine tree_inv2 (fun S f mm => Held [(0, 43, .pointer (some ⟨x1, 2, none⟩)), (1, 44, .slice Ak N N), (2, 45, .pointer (some ⟨x8, 0, none⟩)), (3, 46, .int .i64 (dp : Nat)), (4, 47, .int .i64 ((dp + 1 : Nat) : Int))] S f ∧
            f 1 = .int .i64 (dp : Nat) ∧ f 5 = .pointer (some ⟨x1, 0, none⟩) ∧ f 7 = .pointer (some ⟨x8, 0, none⟩) ∧ S 5 = false ∧ mm = ⟨x9, b10, g⟩) rfl ?_ ?_ _ _ _ _ (by rw [lefts_zero]) ?_
          · rintro S i f mm ⟨h1, h2, h3, h4, h5, rfl⟩ hi hSi hdeps
            have hi' : i < 10 := hi
            rcases i with _ | _ | _ | _ | _ | _ | _ | _ | _ | _ | i
            · refine ⟨_, rfl, fun K hK _ => ?_⟩
              simp only [↓gaH, gaP, simprocAttr, h3]
              exact hK _ _ ⟨h1.step (by simp), by simp only [↓gaH, gaP, simprocAttr, h2], by simp only [↓gaH, gaP, simprocAttr, h3], by simp only [↓gaH, gaP, simprocAttr, h4], by simp [h5], rfl⟩
            · refine ⟨_, rfl, fun K hK _ => ?_⟩
              have q0 := h1.at 0 rfl (hdeps 0 (by decide))
              simp only at q0
              simp only [↓gaH, gaP, simprocAttr, q0, hc1, List.getD_cons_zero, List.getD_cons_succ]
              repeat refine And.intro (by omega) ?_
              exact hK _ _ ⟨h1.step (by simp), by simp only [↓gaH, gaP, simprocAttr, h2], by simp only [↓gaH, gaP, simprocAttr, h3], by simp only [↓gaH, gaP, simprocAttr, h4], by simp [h5], rfl⟩
            · refine ⟨_, rfl, fun K hK _ => ?_⟩
              simp only [↓gaH, gaP, simprocAttr, h4]
              exact hK _ _ ⟨h1.step (by simp), by simp only [↓gaH, gaP, simprocAttr, h2], by simp only [↓gaH, gaP, simprocAttr, h3], by simp only [↓gaH, gaP, simprocAttr, h4], by simp [h5], rfl⟩
            · refine ⟨_, rfl, fun K hK _ => ?_⟩
              simp only [↓gaH, gaP, simprocAttr, h2]
              exact hK _ _ ⟨h1.step (by simp), by simp only [↓gaH, gaP, simprocAttr, h2], by simp only [↓gaH, gaP, simprocAttr, h3], by simp only [↓gaH, gaP, simprocAttr, h4], by simp [h5], rfl⟩
            · refine ⟨_, rfl, fun K hK _ => ?_⟩
              have q0 := h1.at 3 rfl (hdeps 3 (by decide))
              simp only at q0
              simp only [↓gaH, gaP, simprocAttr, q0, iD]
              exact hK _ _ ⟨h1.step (by simp), by simp only [↓gaH, gaP, simprocAttr, h2], by simp only [↓gaH, gaP, simprocAttr, h3], by simp only [↓gaH, gaP, simprocAttr, h4], by simp [h5], rfl⟩
            · refine ⟨_, rfl, fun K hK hKp => ?_⟩
              have q0 := h1.at 2 rfl (hdeps 2 (by decide))
              have q1 := h1.at 4 rfl (hdeps 4 (by decide))
              simp only at q0 q1
              simp only [↓gaH, gaP, simprocAttr, q0, q1]
              refine callK_det hcall ?_
              exact hKp _ _ _ ⟨rfl, rfl⟩
            · rw [hdeps 5 (by decide)] at h5; cases h5
            · rw [hdeps 5 (by decide)] at h5; cases h5
            · rw [hdeps 5 (by decide)] at h5; cases h5
            · rw [hdeps 5 (by decide)] at h5; cases h5
            · omega
          · rintro S f mm ⟨h1, h2, h3, h4, h5, rfl⟩ hall
            rw [hall 5 (by decide)] at h5; cases h5
          · exact ⟨fun p hp hs => by simp at hs, f1, f5, f7, by simp, rfl⟩
      | ret v =>
        obtain ⟨y, r', hel, ⟨B', m', dd, A2, n2, c2', ks2, hv, hNd⟩, hR'⟩ := hres
        subst hv
        have hNd : NdL x9 x10 g10 y B' m' dd A2 n2 c2' ks2 := hNd
        rw [hel] at hKs
        simp only at hKs
        obtain ⟨hs1, hs2⟩ := Fo.elem_suf hel
        have hq10 : g10 x1 = some (.cells [Value.int .i64 (t : Nat), .slice none 0 0, .slice Ak N N] false) := by rw [k10 x1 (by omega) (by omega), hc1]
        obtain ⟨g11, hg11⟩ : ∃ g', g' = upd g10 x10 (some (.cells (nodeL y.t B' m' dd A2 n2 c2') false)) := ⟨_, rfl⟩
        have G11 : ∀ p, p < x10 → g11 p = g10 p := fun p hp => by rw [hg11]; simp only [upd_e]; rw [if_neg (by omega)]
        have hc11 : g11 x10 = some (.cells (nodeL y.t B' m' dd A2 n2 c2') false) := by rw [hg11]; simp only [upd_e, if_true]
        have e6 : rowOf ⟨x10 + 1, b10, g11⟩ (some ⟨x10, 0, none⟩) 3 = some (nodeL y.t B' m' dd A2 n2 c2') := (Row.lit (e := 1) (by omega) hc11 rfl).rowOf
        have hO11 : Own (x8 + 1) b10 (x10 + 1) g11 3 Ak N cs := by
          obtain ⟨o1, o2⟩ := hOwn
          refine ⟨o1, ?_⟩
          rcases o2 with o2 | ⟨qq, rfl, o3, o4, o5, o6⟩
          · exact .inl o2
          · exact .inr ⟨qq, rfl, o3, by omega, o5, by rw [G11 qq (by omega), k10 qq (by omega) (by omega), o6]⟩
        have hcsl : cs.length = N * 3 := hOwn.1
        obtain ⟨v7, M7, hC7, hap7⟩ := appendK_det (grow_fresh (e := 3) (bytes := 56) (k := 1) (news := nodeL y.t B' m' dd A2 n2 c2') (K := fun v M => v = .slice (some ⟨x10 + 1, 0, some 3⟩) (N + 1) (N + 1) ∧ ∃ g', M = ⟨x10 + 1 + 1, b10, g'⟩ ∧ (∀ i, i < x10 + 1 → (∀ a e, Ak = some a → a.spot = some e → a.block ≠ i) → g' i = g11 i) ∧ g' (x10 + 1) = some (.cells (cs ++ nodeL y.t B' m' dd A2 n2 c2') false))
          (.inl hO11) (by omega) (by omega) rfl (node_cells _ _ _ _ _ _ _) (by omega) (by omega) fun g' h1 h2 => ⟨rfl, g', rfl, h1, h2⟩)
        obtain ⟨rfl, g12, rfl, k12, c12⟩ := hC7
        have hq12 : g12 x1 = some (.cells [Value.int .i64 (t : Nat), .slice none 0 0, .slice Ak N N] false) := by rw [k12 x1 (by omega) (fun a e ha hs => by have := hblk a e ha hs; omega), G11 x1 (by omega), hq10]
        obtain ⟨g13, hg13⟩ : ∃ g', g' = upd g12 x1 (some (.cells [Value.int .i64 (t : Nat), .slice none 0 0, .slice (some ⟨x10 + 1, 0, some 3⟩) (N + 1) (N + 1)] false)) := ⟨_, rfl⟩
        have G13 : ∀ p, p ≠ x1 → g13 p = g12 p := fun p hp => by rw [hg13]; simp only [upd_e]; rw [if_neg hp]
        have hc13 : g13 x1 = some (.cells [Value.int .i64 (t : Nat), .slice none 0 0, .slice (some ⟨x10 + 1, 0, some 3⟩) (N + 1) (N + 1)] false) := by rw [hg13]; simp only [upd_e, if_true]
        have hlow : ∀ p, p < x8 + 1 → p ≠ x1 → g13 p = g10 p := fun p hp hpx => by rw [G13 p hpx, k12 p (by omega) (fun a e ha hs => by have := hblk a e ha hs; omega), G11 p (by omega)]
        refine vc_tree_same ⟨fun i => if i = 1 then .int .i64 (dp : Nat) else if i = 4 then .pointer (some ⟨nx, 0, none⟩) else if i = 5 then .pointer (some ⟨x1, 0, none⟩) else if i = 7 then .pointer (some ⟨x8, 0, none⟩) else botV, ⟨x10 + 1 + 1, b10, g13⟩, ?_, ?_, ?_⟩
        · obtain ⟨v', hv', A3, N3, c3', rfl, f1', f2', f3', f4', f5'⟩ := hR'
          have hv' : g10 x8 = _ := hv'
          simp only [↓gaH, gaP, simprocAttr, loopK_n]
          refine ⟨r'.length, by omega, x10 + 1 + 1, x10 + 1, N + 1, c3', g13, some ⟨x10 + 1, 0, some 3⟩, A3, cs ++ nodeL y.t B' m' dd A2 n2 c2', pre.app y.f, r', rfl, by omega, ?_, rfl, by omega, fun p hp hpx => ?_, hc13, ?_, fun hne' => ⟨.slice A3 N3 c3', ?_, ?_⟩, by rw [Fo.len_app, hN]; rfl, ?_, by omega, ?_, by omega, fun a e ha hs => by injection ha with ha; subst ha; exact Nat.le_refl _⟩
          · rw [hKD, hKs]
            cases Fo.KD d' r' with
            | error e => rfl
            | ok K => simp only [Fo.app_one]
          · rw [hlow p (by omega) hpx, k10 p (by omega) (by omega), F9 p hp hpx]
          · rw [hlow x8 (by omega) (by omega), hv', f1']; rfl
          · rw [hlow x8 (by omega) (by omega), hv']
          · exact SlB.keep (nx := hi) (g := g10) ⟨A3, N3, c3', rfl, f1', f2', f3', f4', f5'⟩ (Nat.le_refl _) (fun p hp _ => hlow p (by omega) (by omega))
          · exact Own.of (by simp only [List.length_append, hcsl, List.length_cons, List.length_nil]; omega) (by omega) (by omega) (by omega) (by rw [G13 _ (by omega), c12])
          · refine FoL.app (hFo.keep (by omega) fun p h1 h2 => ?_) ((hNd.one.keep (by omega) fun p h1 h2 => ?_).wid (by omega))
            · rw [G13 p (by omega), k12 p (by omega) (fun a e ha hs => by have := hAk a e ha hs; omega), G11 p (by omega), k10 p (by omega) (by omega)]
            · rw [G13 p (by omega), k12 p (by omega) (fun a e ha hs => by have := hblk a e ha hs; omega), G11 p (by omega)]
        · refine ⟨rfl, by show x9 ≤ x10 + 1 + 1; omega, fun p hp => ?_⟩
          have hp' : p < b10 := hp
          show g13 p = g p
          rw [hlow p (by omega) (by omega), k10 p (by omega) (by omega)]
        · refine tree_inv2 (fun S f mm => Held [(0, 43, .pointer (some ⟨x1, 2, none⟩)), (1, 44, .slice Ak N N), (2, 45, .pointer (some ⟨x8, 0, none⟩)), (3, 46, .int .i64 (dp : Nat)), (4, 47, .int .i64 ((dp + 1 : Nat) : Int)), (5, 48, nodeV y.t B' m' dd A2 n2 c2'), (6, 49, .slice (some ⟨x10, 0, none⟩) 1 1), (7, 50, .slice (some ⟨x10 + 1, 0, some 3⟩) (N + 1) (N + 1)), (8, 51, .pointer (some ⟨x1, 2, none⟩))] S f ∧
            (f 1 = .int .i64 (dp : Nat) ∧ f 4 = .pointer (some ⟨nx, 0, none⟩) ∧ f 5 = .pointer (some ⟨x1, 0, none⟩) ∧ f 7 = .pointer (some ⟨x8, 0, none⟩)) ∧ (S 6 = true → S 5 = true) ∧ (S 7 = true → S 6 = true ∧ S 1 = true) ∧ (S 9 = true → S 7 = true) ∧
            mm = if S 9 then ⟨x10 + 1 + 1, b10, g13⟩ else if S 7 then ⟨x10 + 1 + 1, b10, g12⟩ else if S 6 then ⟨x10 + 1, b10, g11⟩ else if S 5 then ⟨x10, b10, g10⟩ else ⟨x9, b10, g⟩) rfl ?_ ?_ _ _ _ _ (by rw [lefts_zero]) ?_
          · rintro S i f mm ⟨h1, ⟨h2, h3, h4, h5⟩, h6, h7, h9, hmm⟩ hi hSi hdeps
            have hi' : i < 10 := hi
            rcases i with _ | _ | _ | _ | _ | _ | _ | _ | _ | _ | i
            · refine ⟨_, rfl, fun K hK _ => ?_⟩
              simp only [↓gaH, gaP, simprocAttr, h4]
              exact hK _ _ ⟨h1.step (by simp), ⟨by simp only [↓gaH, gaP, simprocAttr, h2], by simp only [↓gaH, gaP, simprocAttr, h3], by simp only [↓gaH, gaP, simprocAttr, h4], by simp only [↓gaH, gaP, simprocAttr, h5]⟩, by simpa using h6, by simpa using h7, by simpa using h9, by simpa using hmm⟩
            · refine ⟨_, rfl, fun K hK _ => ?_⟩
              have q0 := h1.at 0 rfl (hdeps 0 (by decide))
              simp only at q0
              have s7 : S 7 = false := by cases h : S 7 with | false => rfl | true => rw [(h7 h).2] at hSi; cases hSi
              have s9 : S 9 = false := by cases h : S 9 with | false => rfl | true => rw [h9 h] at s7; cases s7
              have hcx : mm.get x1 = some (.cells [Value.int .i64 (t : Nat), .slice none 0 0, .slice Ak N N] false) := by
                rw [hmm, s9, s7]
                simp only [Bool.false_eq_true, if_false]
                split
                · show g11 x1 = _
                  rw [G11 x1 (by omega), hq10]
                · split
                  · exact hq10
                  · exact hc1
              simp only [↓gaH, gaP, simprocAttr, q0, hcx, List.getD_cons_zero, List.getD_cons_succ]
              repeat refine And.intro (by omega) ?_
              exact hK _ _ ⟨h1.step (by simp), ⟨by simp only [↓gaH, gaP, simprocAttr, h2], by simp only [↓gaH, gaP, simprocAttr, h3], by simp only [↓gaH, gaP, simprocAttr, h4], by simp only [↓gaH, gaP, simprocAttr, h5]⟩, by simpa using h6, by simp [s7], by simpa using h9, by simpa using hmm⟩
            · refine ⟨_, rfl, fun K hK _ => ?_⟩
              simp only [↓gaH, gaP, simprocAttr, h5]
              exact hK _ _ ⟨h1.step (by simp), ⟨by simp only [↓gaH, gaP, simprocAttr, h2], by simp only [↓gaH, gaP, simprocAttr, h3], by simp only [↓gaH, gaP, simprocAttr, h4], by simp only [↓gaH, gaP, simprocAttr, h5]⟩, by simpa using h6, by simpa using h7, by simpa using h9, by simpa using hmm⟩
            · refine ⟨_, rfl, fun K hK _ => ?_⟩
              simp only [↓gaH, gaP, simprocAttr, h2]
              exact hK _ _ ⟨h1.step (by simp), ⟨by simp only [↓gaH, gaP, simprocAttr, h2], by simp only [↓gaH, gaP, simprocAttr, h3], by simp only [↓gaH, gaP, simprocAttr, h4], by simp only [↓gaH, gaP, simprocAttr, h5]⟩, by simpa using h6, by simpa using h7, by simpa using h9, by simpa using hmm⟩
            · refine ⟨_, rfl, fun K hK _ => ?_⟩
              have q0 := h1.at 3 rfl (hdeps 3 (by decide))
              simp only at q0
              simp only [↓gaH, gaP, simprocAttr, q0, iD]
              exact hK _ _ ⟨h1.step (by simp), ⟨by simp only [↓gaH, gaP, simprocAttr, h2], by simp only [↓gaH, gaP, simprocAttr, h3], by simp only [↓gaH, gaP, simprocAttr, h4], by simp only [↓gaH, gaP, simprocAttr, h5]⟩, by simpa using h6, by simpa using h7, by simpa using h9, by simpa using hmm⟩
            · refine ⟨_, rfl, fun K hK hKp => ?_⟩
              have q0 := h1.at 2 rfl (hdeps 2 (by decide))
              have q1 := h1.at 4 rfl (hdeps 4 (by decide))
              simp only at q0 q1
              have s6 : S 6 = false := by cases h : S 6 with | false => rfl | true => rw [h6 h] at hSi; cases hSi
              have s7 : S 7 = false := by cases h : S 7 with | false => rfl | true => rw [(h7 h).1] at s6; cases s6
              have s9 : S 9 = false := by cases h : S 9 with | false => rfl | true => rw [h9 h] at s7; cases s7
              rw [hSi, s6, s7, s9] at hmm
              simp only [Bool.false_eq_true, if_false] at hmm
              subst hmm
              simp only [↓gaH, gaP, simprocAttr, q0, q1]
              refine callK_det hcall ?_
              simp only [↓gaH, gaP, simprocAttr]
              exact hK _ _ ⟨h1.step (by simp), ⟨by simp only [↓gaH, gaP, simprocAttr, h2], by simp only [↓gaH, gaP, simprocAttr, h3], by simp only [↓gaH, gaP, simprocAttr, h4], by simp only [↓gaH, gaP, simprocAttr, h5]⟩, by simp, by simp [s7], by simp [s9], by simp [s6, s7, s9]⟩
            · refine ⟨_, rfl, fun K hK _ => ?_⟩
              have s5 := hdeps 5 (by decide)
              have q0 := h1.at 5 rfl s5
              simp only at q0
              have s7 : S 7 = false := by cases h : S 7 with | false => rfl | true => rw [(h7 h).1] at hSi; cases hSi
              have s9 : S 9 = false := by cases h : S 9 with | false => rfl | true => rw [h9 h] at s7; cases s7
              rw [hSi, s5, s7, s9] at hmm
              simp only [Bool.false_eq_true, if_false, if_true] at hmm
              subst hmm
              simp only [↓gaH, gaP, simprocAttr, gaF, fillL, splice, q0]
              repeat refine And.intro (by omega) ?_
              rw [← hg11]
              exact hK _ _ ⟨h1.step (by simp), ⟨by simp only [↓gaH, gaP, simprocAttr, h2], by simp only [↓gaH, gaP, simprocAttr, h3], by simp only [↓gaH, gaP, simprocAttr, h4], by simp only [↓gaH, gaP, simprocAttr, h5]⟩, by simp [s5], by simp [s7], by simp [s9], by simp [s5, s7, s9]⟩
            · refine ⟨_, rfl, fun K hK _ => ?_⟩
              have s6 := hdeps 6 (by decide)
              have s1 := hdeps 1 (by decide)
              have q0 := h1.at 1 rfl s1
              have q1 := h1.at 6 rfl s6
              simp only at q0 q1
              have s9 : S 9 = false := by cases h : S 9 with | false => rfl | true => rw [h9 h] at hSi; cases hSi
              rw [hSi, s6, s9] at hmm
              simp only [Bool.false_eq_true, if_false, if_true] at hmm
              subst hmm
              simp only [↓gaH, gaP, simprocAttr, q0, q1, e6]
              refine hap7 _ ?_
              exact hK _ _ ⟨h1.step (by simp), ⟨by simp only [↓gaH, gaP, simprocAttr, h2], by simp only [↓gaH, gaP, simprocAttr, h3], by simp only [↓gaH, gaP, simprocAttr, h4], by simp only [↓gaH, gaP, simprocAttr, h5]⟩, by simpa using h6, by simp [s6, s1], by simp [s9], by simp [s6, s9]⟩
            · refine ⟨_, rfl, fun K hK _ => ?_⟩
              simp only [↓gaH, gaP, simprocAttr, h4]
              exact hK _ _ ⟨h1.step (by simp), ⟨by simp only [↓gaH, gaP, simprocAttr, h2], by simp only [↓gaH, gaP, simprocAttr, h3], by simp only [↓gaH, gaP, simprocAttr, h4], by simp only [↓gaH, gaP, simprocAttr, h5]⟩, by simpa using h6, by simpa using h7, by simpa using h9, by simpa using hmm⟩
            · refine ⟨_, rfl, fun K hK _ => ?_⟩
              have s7 := hdeps 7 (by decide)
              have q0 := h1.at 7 rfl s7
              have q1 := h1.at 8 rfl (hdeps 8 (by decide))
              simp only at q0 q1
              rw [hSi, s7] at hmm
              simp only [Bool.false_eq_true, if_false, if_true] at hmm
              subst hmm
              simp only [↓gaH, gaP, simprocAttr, gaF, fillL, splice, q0, q1, hq12]
              repeat refine And.intro (by omega) ?_
              refine And.intro (all1 rfl) ?_
              rw [← hg13]
              exact hK _ _ ⟨h1.nostep (by simp), ⟨h2, h3, h4, h5⟩, by simpa using h6, by simpa using h7, by simp [s7], by simp⟩
            · omega
          · rintro S f mm ⟨h1, ⟨h2, h3, h4, h5⟩, h6, h7, h9, hmm⟩ hall
            rw [hall 9 (by decide)] at hmm
            simp only [if_true] at hmm
            refine ⟨rfl, hmm, fun i => ?_⟩
            by_cases i1 : i = 1
            · subst i1; exact .inl (by simp only [↓gaH, gaP, simprocAttr, h2])
            by_cases i4 : i = 4
            · subst i4; exact .inl (by simp only [↓gaH, gaP, simprocAttr, h3])
            by_cases i5 : i = 5
            · subst i5; exact .inl (by simp only [↓gaH, gaP, simprocAttr, h4])
            by_cases i7 : i = 7
            · subst i7; exact .inl (by simp only [↓gaH, gaP, simprocAttr, h5])
            exact .inr (by simp only [if_neg i1, if_neg i4, if_neg i5, if_neg i7])
          · exact ⟨fun p hp hs => by simp at hs, ⟨f1, f4, f5, f7⟩, by simp, by simp, by simp, by simp⟩
    · have hr0 : rem = [] := List.eq_nil_of_length_eq_zero (by omega)
      subst hr0
      rw [Fo.KD_nil] at hKD
      simp only [Fo.app_nil] at hKD
      simp only [↓gaH, gaP, simprocAttr, gaF, fillL, splice, gaU, f7, hc8, hlt, decide_false, f4, f5, hc1, hb10, hKD]
      repeat refine And.intro (by omega) ?_
      refine And.intro (node_cells _ _ _ _ _ _ _) ?_
      obtain ⟨g10, hg10⟩ : ∃ g', g' = upd g nx (some (.cells (nodeL (t : Nat) none 0 0 Ak N N) false)) := ⟨_, rfl⟩
      have G10 : ∀ p, p ≠ nx → g10 p = g p := fun p h2 => by rw [hg10]; simp only [upd_e]; rw [if_neg h2]
      have hc10 : g10 nx = some (.cells (nodeL (t : Nat) none 0 0 Ak N N) false) := by rw [hg10]; simp only [upd_e, if_true]
      rw [← hg10]; clear hg10
      refine end_elP (s := s) (r := .error 0) (q4 := nx) (cs := nodeL (t : Nat) none 0 0 Ak N N) (ro := false) (by simp only [↓gaH, gaP, simprocAttr, f4]) hc10 (by simp) (by omega) (fun p hp hpq => by rw [G10 p (by omega), F10 p hp hpq]) ?_
      refine ⟨_, _, rfl, ⟨none, 0, 0, Ak, N, N, cs, rfl, ⟨by simp only; omega, .nil, Nat.le_refl _, (hOwn.rowL.keep (Nat.le_refl _) fun p hp _ => G10 p (by omega)).wid (by omega), Nat.le_refl _, hN, (hFo.keep hhi9 fun p hp _ => G10 p (by omega)).wid (by omega)⟩⟩, ?_⟩
      exact hR8.keep (Nat.le_refl _) (by rw [G10 q (by omega), F9 q (by omega) (by omega)]) (fun p hp _ => by rw [G10 p (by omega), F9 p (by omega) (by omega)])
end Go.Ga

namespace Go.Ga
open Go Go.Proofs
set_option maxRecDepth 100000
def c_ReadA : RC :=
  (.ops [] [
  ⟨(some 2), (.op (.new [(.int .i64 0), (.slice none 0 0), (.slice none 0 0)])), none⟩,
  ⟨(some 3), (.op (.new [(.int .i64 0)])), none⟩])
def c_ReadB : RC :=
  (.seq
  (.ops [] [
  ⟨(some 5), (.op (.mv (.t 0))), none⟩,
  ⟨(some 6), (.op (.lenSl (.t 5))), none⟩,
  ⟨(some 7), (.op (.bin .gtr (.t 6) (.k (.int .i64 20000)))), none⟩])
  (.cond (.t 7)
  (.seq
  (.ops [] [
  ⟨(some 8), (.op (.build [(.int .i64 0), (.slice none 0 0), (.slice none 0 0)] [])), none⟩,
  ⟨none, (.op (.store 3 (.t 2) (.t 8))), none⟩,
  ⟨none, (.op (.store 1 (.t 3) (.k (.int .i64 5)))), none⟩])
  .ret)
  .skip))
def c_ReadC : RC :=
  (.seq
  (.ops [] [
  ⟨(some 10), (.op (.mv (.t 0))), none⟩,
  ⟨(some 11), (.op (.build [(.slice none 0 0), (.int .i64 0)] [(0, (1, (.t 10))), (1, (1, (.k (.int .i64 3))))])), none⟩,
  ⟨(some 12), (.op (.box (.t 11))), none⟩,
  ⟨(some 4), (.op (.mv (.t 12))), none⟩])
  (.seq
  (.ops [] [
  ⟨(some 13), (.op (.mv (.t 4))), none⟩,
  ⟨(some 14), (.call (.k (.func (.func 55) #[] #[])) [(.t 13), (.k (.int .i64 0))]), none⟩,
  ⟨none, (.op (.store 3 (.t 2) (.t 14))), none⟩])
  (.seq
  (.ops [] [
  ⟨(some 15), (.op (.mv (.t 4))), none⟩,
  ⟨(some 16), (.op (.chk (.t 15))), none⟩,
  ⟨(some 17), (.op (.fieldAddr 0 (.t 16))), none⟩,
  ⟨(some 18), (.op (.load1 (.t 17))), none⟩,
  ⟨(some 19), (.op (.lenSl (.t 18))), none⟩,
  ⟨(some 20), (.op (.bin .eql (.t 19) (.k (.int .i64 0)))), none⟩,
  ⟨(some 21), (.call (.k (.func (.func 56) #[] #[])) [(.t 20), (.k (.int .i64 2))]), none⟩])
  (.seq
  (.ops [] [
  ⟨(some 22), (.op (.loadN 3 (.t 2))), none⟩,
  ⟨none, (.op (.store 3 (.t 2) (.t 22))), none⟩,
  ⟨none, (.op (.store 1 (.t 3) (.k (.int .i64 0)))), none⟩])
  .ret))))
def c_ReadS : RC :=
  (.ops [] [
  ⟨(some 10), (.op (.build [(.int .i64 0), (.slice none 0 0), (.slice none 0 0)] [])), none⟩,
  ⟨(some 11), (.op (.mv (.t 2))), none⟩,
  ⟨none, (.op (.store 3 (.t 0) (.t 10))), none⟩,
  ⟨none, (.op (.store 1 (.t 1) (.t 11))), none⟩])
theorem r_ReadA : resolveCode Tryd.prog (Tryd.prog.funcs[28]!).ntmps [] (seqL ((Tryd.prog.funcs[28]!).body.getD .skip)) = some c_ReadA := by kernel_rfl
theorem r_ReadB : resolveCode Tryd.prog (Tryd.prog.funcs[28]!).ntmps [] (seqL (seqR ((Tryd.prog.funcs[28]!).body.getD .skip))) = some c_ReadB := by kernel_rfl
theorem r_ReadC : resolveCode Tryd.prog (Tryd.prog.funcs[28]!).ntmps [] (seqR (seqR (seqR ((Tryd.prog.funcs[28]!).body.getD .skip)))) = some c_ReadC := by kernel_rfl
theorem r_ReadS : resolveCode Tryd.prog 12 [] (cndL (seqR (seqR ((Tryd.prog.funcs[54]!).body.getD .skip)))) = some c_ReadS := by kernel_rfl
theorem b_Read : (Tryd.prog.funcs[28]!).body = some (.seq (seqL ((Tryd.prog.funcs[28]!).body.getD .skip)) (.seq (seqL (seqR ((Tryd.prog.funcs[28]!).body.getD .skip))) (.seq (.region (rgId (seqL (seqR (seqR ((Tryd.prog.funcs[28]!).body.getD .skip))))) #[⟨some 9, .makeFunc (.func 54) #[] #[.tmp 2, .tmp 3], (rgOp (seqL (seqR (seqR ((Tryd.prog.funcs[28]!).body.getD .skip)))) 0).type, (rgOp (seqL (seqR (seqR ((Tryd.prog.funcs[28]!).body.getD .skip)))) 0).pos, (rgOp (seqL (seqR (seqR ((Tryd.prog.funcs[28]!).body.getD .skip)))) 0).after, none⟩, ⟨none, .defer ⟨.value (.tmp 9), #[], #[]⟩, (rgOp (seqL (seqR (seqR ((Tryd.prog.funcs[28]!).body.getD .skip)))) 1).type, (rgOp (seqL (seqR (seqR ((Tryd.prog.funcs[28]!).body.getD .skip)))) 1).pos, (rgOp (seqL (seqR (seqR ((Tryd.prog.funcs[28]!).body.getD .skip)))) 1).after, none⟩] false) (seqR (seqR (seqR ((Tryd.prog.funcs[28]!).body.getD .skip))))))) := by kernel_rfl
theorem b_ReadS : (Tryd.prog.funcs[54]!).body = some (.seq (.region (rgId (seqL ((Tryd.prog.funcs[54]!).body.getD .skip))) (rec0 20 25 (rgOp (seqL ((Tryd.prog.funcs[54]!).body.getD .skip)) 0).type (rgOp (seqL ((Tryd.prog.funcs[54]!).body.getD .skip)) 1).type (rgOp (seqL ((Tryd.prog.funcs[54]!).body.getD .skip)) 2).type (rgOp (seqL ((Tryd.prog.funcs[54]!).body.getD .skip)) 3).type (rgOp (seqL ((Tryd.prog.funcs[54]!).body.getD .skip)) 4).type (rgOp (seqL ((Tryd.prog.funcs[54]!).body.getD .skip)) 5).type (rgOp (seqL ((Tryd.prog.funcs[54]!).body.getD .skip)) 6).type (rgOp (seqL ((Tryd.prog.funcs[54]!).body.getD .skip)) 0).pos (rgOp (seqL ((Tryd.prog.funcs[54]!).body.getD .skip)) 1).pos (rgOp (seqL ((Tryd.prog.funcs[54]!).body.getD .skip)) 2).pos (rgOp (seqL ((Tryd.prog.funcs[54]!).body.getD .skip)) 3).pos (rgOp (seqL ((Tryd.prog.funcs[54]!).body.getD .skip)) 4).pos (rgOp (seqL ((Tryd.prog.funcs[54]!).body.getD .skip)) 5).pos (rgOp (seqL ((Tryd.prog.funcs[54]!).body.getD .skip)) 6).pos (rgOp (seqL ((Tryd.prog.funcs[54]!).body.getD .skip)) 0).after (rgOp (seqL ((Tryd.prog.funcs[54]!).body.getD .skip)) 1).after (rgOp (seqL ((Tryd.prog.funcs[54]!).body.getD .skip)) 2).after (rgOp (seqL ((Tryd.prog.funcs[54]!).body.getD .skip)) 3).after (rgOp (seqL ((Tryd.prog.funcs[54]!).body.getD .skip)) 4).after (rgOp (seqL ((Tryd.prog.funcs[54]!).body.getD .skip)) 5).after (rgOp (seqL ((Tryd.prog.funcs[54]!).body.getD .skip)) 6).after) false) (.seq (.region (rgId (seqL (seqR ((Tryd.prog.funcs[54]!).body.getD .skip)))) (rec1 (rgOp (seqL (seqR ((Tryd.prog.funcs[54]!).body.getD .skip))) 0).type (rgOp (seqL (seqR ((Tryd.prog.funcs[54]!).body.getD .skip))) 0).pos (rgOp (seqL (seqR ((Tryd.prog.funcs[54]!).body.getD .skip))) 0).after) false) (.cond (.tmp 9) (cndL (seqR (seqR ((Tryd.prog.funcs[54]!).body.getD .skip)))) .skip))) := by kernel_rfl
theorem v_Read : resolveVars Tryd.prog (Tryd.prog.funcs[28]!).ntmps (Tryd.prog.funcs[28]!).results.toList = some [.cN 2 3, .c1 3] := by kernel_rfl
theorem n_Read : Tryd.prog.funcs[28]? = some (Tryd.prog.funcs[28]!) ∧ ((Tryd.prog.funcs[28]!).name == "runtime.NumGoroutine") = false ∧ (Tryd.prog.funcs[28]!).ntmps = 23 := by refine ⟨by kernel_rfl, by kernel_rfl, by kernel_rfl⟩
theorem n_ReadS : Tryd.prog.funcs[54]? = some (Tryd.prog.funcs[54]!) ∧ ((Tryd.prog.funcs[54]!).name == "runtime.NumGoroutine") = false ∧ (Tryd.prog.funcs[54]!).ntmps = 12 ∧ (Tryd.prog.funcs[54]!).results = #[] := by refine ⟨by kernel_rfl, by kernel_rfl, by kernel_rfl, by kernel_rfl⟩
theorem u_Read : Tryd.prog.underlying 25 = some (.int .i64) := by kernel_rfl
end Go.Ga

namespace Go.Ga
open Go Go.Proofs
set_option maxRecDepth 100000
attribute [local irreducible] appendK
def ctK (b nx : Nat) (gt : Nat → Option Blk) (C : Value → Nat → (Nat → Option Blk) → Prop) (res : Res) (m' : Mem) : Prop := ∃ v, res = .ret v ∧ m'.bar = b ∧ nx ≤ m'.next ∧ (∀ n, n < nx → m'.get n = gt n) ∧ C v m'.next m'.get
theorem end_rdD {b nx : Nat} {gt : Nat → Option Blk} {f : Regs} {x' : Nat} {g' : Nat → Option Blk} {r : Except Nat Fo.El} {q q2 : Nat} {cs : List Value} {e : Value} {ro ro2 : Bool} (h2 : f 2 = .pointer (some ⟨q, 0, none⟩)) (h3 : f 3 = .pointer (some ⟨q2, 0, none⟩)) (hg : g' q = some (.cells cs ro)) (hc : 3 ≤ cs.length) (hg2 : g' q2 = some (.cells [e] ro2))
    (h4 : nx ≤ x') (h5 : ∀ n, n < nx → g' n = gt n) (h6 : ReadV x' g' (.tuple #[.agg (cs.take 3).toArray, e]) r) :
    asO (resVals f ⟨x', b, g'⟩ [.cN 2 3, .c1 3]) fun vs => ctK b nx gt (fun v x g => ReadV x g v r) (.ret (oneOrTuple vs)) ⟨x', b, g'⟩ := by
  rw [res_cN h2 hg (by omega), res_c1 h3 hg2 (by simp)]
  simp only [res_nil, Option.map_some, asO_e, one2, List.drop_zero, List.getD_cons_zero]
  exact ⟨_, rfl, rfl, h4, h5, h6⟩
theorem ct_Read {nx : Nat} {gt : Nat → Option Blk} {A : Option Addr} {n c : Nat} {l : List UInt8} (hA : Row nx gt 1 A n (l.map u8V)) (hc : n ≤ c) (hn : n ≤ 1000000) :
    Ct Tryd.prog 28 [.slice A n c] nx gt fun v x g => ReadV x g v (Fo.rd l) := by
  have hl : l.length = n := by simpa using hA.len
  have hA0 : A = none → n = 0 := fun h => by
    rcases Nat.eq_zero_or_pos n with h0 | h0
    · exact h0
    · obtain ⟨a, cl, ro, e, _⟩ := hA.cells h0
      rw [h] at e; cases e
  intro b hb
  show Fn Tryd.prog 28 [.slice A n c] ⟨nx, b, gt⟩ (ctK b nx gt fun v x g => ReadV x g v (Fo.rd l))
  refine fn_deferD hmx n_Read.1 n_Read.2.1 b_Read r_ReadA r_ReadB r_ReadC v_Read (by rw [n_Read.2.2]; omega) (by rw [n_Read.2.2]; omega) (by rw [n_Read.2.2]; omega) n_ReadS.2.1 n_ReadS.1 b_ReadS n_ReadS.2.2.1 n_ReadS.2.2.2 u_Read (z := .int .i64 0) (fun w => ?_) r_ReadS (by rw [n_Read.2.2]; simp) ?_
  · kernel_rfl
  have hF : ∀ p, p < nx → upd (upd gt nx (some (.cells [Value.int .i64 0, .slice none 0 0, .slice none 0 0] false))) (nx + 1) (some (.cells [Value.int .i64 0] false)) p = gt p := fun p hp => by simp only [upd_e]; rw [if_neg (by omega), if_neg (by omega)]
  have hb0 : upd (upd gt nx (some (.cells [Value.int .i64 0, .slice none 0 0, .slice none 0 0] false))) (nx + 1) (some (.cells [Value.int .i64 0] false)) nx = some (.cells [Value.int .i64 0, .slice none 0 0, .slice none 0 0] false) := by simp only [upd_e, if_true]; rw [if_neg (by omega)]
  have hc0 : upd (upd gt nx (some (.cells [Value.int .i64 0, .slice none 0 0, .slice none 0 0] false))) (nx + 1) (some (.cells [Value.int .i64 0] false)) (nx + 1) = some (.cells [Value.int .i64 0] false) := by simp only [upd_e, if_true]
  have hnn : (nx = nx + 1) = False := by simp
  have hnn' : (nx + 1 = nx) = False := by simp
  simp only [c_ReadA, c_ReadB, ↓gaH, gaP, simprocAttr, gaF, fillL, splice, gaU, aK_n]
  generalize upd (upd gt nx (some (.cells [Value.int .i64 0, .slice none 0 0, .slice none 0 0] false))) (nx + 1) (some (.cells [Value.int .i64 0] false)) = g0 at *
  by_cases hbig : (20000 : Int) < (n : Int)
  · have e : Fo.rd l = .error 5 := by unfold Fo.rd; rw [if_pos (by omega)]
    simp only [↓gaH, gaP, simprocAttr, gaF, fillL, splice, hbig, decide_true, hb0, hc0, hnn, hnn', e, bK_r]
    refine And.intro (by omega) (And.intro (node_cells _ _ _ _ _ _ _) (And.intro (by omega) (And.intro (all1 rfl) ?_)))
    exact end_rdD (q := nx) (q2 := nx + 1) (cs := nodeL 0 none 0 0 none 0 0) (e := .int .i64 5) (ro := false) (ro2 := false) (by simp only [↓gaH, gaP, simprocAttr]; try rfl) (by simp only [↓gaH, gaP, simprocAttr]; try rfl) (by simp only [upd_e, if_true]; rw [if_neg (by omega)]) (by simp) (by simp only [upd_e, if_true]) (by omega) (fun p hp => by simp only [upd_e]; rw [if_neg (by omega), if_neg (by omega), hF p hp]) rfl
  have hF1 : ∀ p, p < nx + 1 + 1 → upd g0 (nx + 1 + 1) (some (.cells [Value.slice A n c, .int .i64 3] false)) p = g0 p := fun p hp => by simp only [upd_e]; rw [if_neg (by omega)]
  have hr1 : upd g0 (nx + 1 + 1) (some (.cells [Value.slice A n c, .int .i64 3] false)) (nx + 1 + 1) = some (.cells [Value.slice A n c, .int .i64 3] false) := by simp only [upd_e, if_true]
  simp only [↓gaH, gaP, simprocAttr, gaF, fillL, splice, gaU, hbig, decide_false, bK_n, c_ReadC]
  generalize upd g0 (nx + 1 + 1) (some (.cells [Value.slice A n c, .int .i64 3] false)) = g1 at *
  have F1 : ∀ p, p < nx → g1 p = gt p := fun p hp => by rw [hF1 p (by omega), hF p hp]
  have hb1 : g1 nx = some (.cells [Value.int .i64 0, .slice none 0 0, .slice none 0 0] false) := by rw [hF1 nx (by omega), hb0]
  have hc1 : g1 (nx + 1) = some (.cells [Value.int .i64 0] false) := by rw [hF1 (nx + 1) (by omega), hc0]
  have hN0 : 0 < n → ∃ a, A = some a ∧ a.block < nx := fun h => by
    obtain ⟨a, cl, ro, h1, h2, _⟩ := hA.cells h
    exact ⟨a, h1, h2⟩
  have hA1 := hA.keep (nx' := nx) (gt' := g1) (Nat.le_refl _) F1
  have hRd : RdS nx g1 (nx + 1 + 1) l 3 := ⟨_, hr1, A, n, c, rfl, hl, hc, hA0, hA1, fun h a ha => by
    obtain ⟨a', ha', hlt⟩ := hN0 h
    rw [ha] at ha'; injection ha' with ha'; subst ha'; omega⟩
  refine callP_of (cp_element n (nx + 1 + 1 + 1) g1 (nx + 1 + 1) 3 0 nx l (by omega) (by omega) hRd (by omega) (by omega) (by omega)) (fun v x2 g2 l2 k2 hC => ?_) (fun v x2 g2 l2 k2 hE => ?_) (by omega) (by omega)
  case refine_2 =>
    obtain ⟨e, hel, rfl⟩ := hE
    have er : Fo.rd l = .error e := by unfold Fo.rd; rw [if_neg (by omega), hel]
    have hb2 : g2 nx = some (.cells [Value.int .i64 0, .slice none 0 0, .slice none 0 0] false) := by rw [k2 nx (by omega) (by omega), hb1]
    have hc2 : g2 (nx + 1) = some (.cells [Value.int .i64 0] false) := by rw [k2 (nx + 1) (by omega) (by omega), hc1]
    rw [er]
    simp only [↓gaH, gaP, simprocAttr, deferK_p]
    refine ⟨_, rfl, ?_⟩
    simp only [c_ReadS, ↓gaH, gaP, simprocAttr, gaF, fillL, splice, gaU, hb2, hc2, hnn, hnn']
    refine And.intro (by omega) (And.intro (node_cells _ _ _ _ _ _ _) (And.intro (by omega) (And.intro (all1 rfl) ?_)))
    exact end_rdD (q := nx) (q2 := nx + 1) (cs := nodeL 0 none 0 0 none 0 0) (e := .int .i64 (e : Nat)) (ro := false) (ro2 := false) (by simp only [↓gaH, gaP, simprocAttr]; try rfl) (by simp only [↓gaH, gaP, simprocAttr]; try rfl) (by simp only [upd_e, if_true]; rw [if_neg (by omega)]) (by simp) (by simp only [upd_e, if_true]) (by omega) (fun p hp => by simp only [upd_e]; rw [if_neg (by omega), if_neg (by omega), k2 p (by omega) (by omega), F1 p hp]) rfl
  obtain ⟨y, r, hel, ⟨B', m', dd, A', n', c', ks', rfl, hNd⟩, hR2⟩ := hC
  have hb2 : g2 nx = some (.cells [Value.int .i64 0, .slice none 0 0, .slice none 0 0] false) := by rw [k2 nx (by omega) (by omega), hb1]
  have hc2 : g2 (nx + 1) = some (.cells [Value.int .i64 0] false) := by rw [k2 (nx + 1) (by omega) (by omega), hc1]
  obtain ⟨v', hv', A3, N3, c3', rfl, f1', f2', f3', f4', f5'⟩ := hR2
  obtain ⟨g3, hg3⟩ : ∃ g', g' = upd g2 nx (some (.cells (nodeL y.t B' m' dd A' n' c') false)) := ⟨_, rfl⟩
  have G3 : ∀ p, p ≠ nx → g3 p = g2 p := fun p h2 => by rw [hg3]; simp only [upd_e]; rw [if_neg h2]
  have hb3 : g3 nx = some (.cells (nodeL y.t B' m' dd A' n' c') false) := by rw [hg3]; simp only [upd_e, if_true]
  have hv3 : g3 (nx + 1 + 1) = some (.cells [Value.slice A3 N3 c3', .int .i64 3] false) := by rw [G3 _ (by omega), hv']; rfl
  have hc3 : g3 (nx + 1) = some (.cells [Value.int .i64 0] false) := by rw [G3 _ (by omega), hc2]
  have hnn2 : (nx + 1 + 1 = nx) = False := by simp; omega
  have hv2 : g2 (nx + 1 + 1) = some (.cells [Value.slice A3 N3 c3', .int .i64 3] false) := hv'
  have F3 : ∀ p, p < nx → g3 p = gt p := fun p hp => by rw [G3 p (by omega), k2 p (by omega) (by omega), F1 p hp]
  simp only [↓gaH, gaP, Nat.reduceEqDiff, Nat.reduceLeDiff, Nat.reduceAdd, Nat.reduceSub, Nat.reduceMul, Int.reduceLT, Int.reduceLE, Int.reduceEq, Int.reduceToNat, Int.reduceAdd, Int.reduceSub, Int.reduceMul, reduceCtorEq, ↓reduceIte, gaF, fillL, splice, gaU, hb2, hnn2, hv2]
  refine And.intro (by omega) (And.intro (node_cells _ _ _ _ _ _ _) (And.intro (by omega) ?_))
  rw [← hg3]
  clear hg3
  refine callP_of (cp_must (q := nx + 1 + 1) (e := 2) _) (fun v x4 g4 l4 k4 hC => ?_) (fun v x4 g4 l4 k4 hE => ?_) (by omega) (by omega)
  case refine_2 =>
    obtain ⟨h1, rfl⟩ := hE
    have h1 := of_decide_eq_false h1
    have er : Fo.rd l = .error 2 := by
      unfold Fo.rd; rw [if_neg (by omega), hel]; simp only
      rw [if_neg (fun h => by rw [h] at f1'; simp at f1'; omega)]
    have hb4 : g4 nx = some (.cells (nodeL y.t B' m' dd A' n' c') false) := by rw [k4 nx (by omega) (by omega), hb3]
    have hc4 : g4 (nx + 1) = some (.cells [Value.int .i64 0] false) := by rw [k4 (nx + 1) (by omega) (by omega), hc3]
    rw [er]
    simp only [↓gaH, gaP, simprocAttr, deferK_p]
    refine ⟨_, rfl, ?_⟩
    simp only [c_ReadS, ↓gaH, gaP, simprocAttr, gaF, fillL, splice, gaU, hb4, hc4, hnn, hnn']
    refine And.intro (by omega) (And.intro (node_cells _ _ _ _ _ _ _) (And.intro (by omega) (And.intro (all1 rfl) ?_)))
    exact end_rdD (q := nx) (q2 := nx + 1) (cs := nodeL 0 none 0 0 none 0 0) (e := .int .i64 2) (ro := false) (ro2 := false) (by simp only [↓gaH, gaP, simprocAttr]; try rfl) (by simp only [↓gaH, gaP, simprocAttr]; try rfl) (by simp only [upd_e, if_true]; rw [if_neg (by omega)]) (by simp) (by simp only [upd_e, if_true]) (by omega) (fun p hp => by simp only [upd_e]; rw [if_neg (by omega), if_neg (by omega), k4 p (by omega) (by omega), F3 p hp]) rfl
  obtain ⟨h1, k4⟩ := hC
  have h1 := of_decide_eq_true h1
  have er : Fo.rd l = .ok y := by
    unfold Fo.rd; rw [if_neg (by omega), hel]; simp only
    rw [if_pos (List.eq_nil_of_length_eq_zero (by omega))]
  have hb4 : g4 nx = some (.cells (nodeL y.t B' m' dd A' n' c') false) := by rw [k4 nx (by omega), hb3]
  have hc4 : g4 (nx + 1) = some (.cells [Value.int .i64 0] false) := by rw [k4 (nx + 1) (by omega), hc3]
  rw [er]
  simp only [↓gaH, gaP, simprocAttr, gaF, fillL, splice, gaU, hb4, hc4, hnn, hnn', deferK_r]
  repeat refine And.intro (by omega) ?_
  refine And.intro (node_cells _ _ _ _ _ _ _) (And.intro (by omega) (And.intro (all1 rfl) ?_))
  refine end_rdD (q := nx) (q2 := nx + 1) (cs := nodeL y.t B' m' dd A' n' c') (e := .int .i64 0) (ro := false) (ro2 := false) (by simp only [↓gaH, gaP, simprocAttr]; try rfl) (by simp only [↓gaH, gaP, simprocAttr]; try rfl) (by simp only [upd_e, if_true]; rw [if_neg (by omega)]) (by simp) (by simp only [upd_e, if_true]) (by omega) (fun p hp => by simp only [upd_e]; rw [if_neg (by omega), if_neg (by omega), k4 p (by omega), F3 p hp]) ?_
  refine ⟨B', m', dd, A', n', c', ks', rfl, (hNd.keep (x' := x4) (by omega) fun p h1 h2 => ?_).r⟩
  simp only [upd_e]; rw [if_neg (by omega), if_neg (by omega), k4 p (by omega), G3 p (by omega)]
end Go.Ga

namespace Go.Ga
open Go Go.Proofs
def valFrom (x : Nat) (l : List UInt8) : Nat := l.foldl (fun a b => a * 256 + b.toNat) x
abbrev val (l : List UInt8) : Nat := valFrom 0 l
theorem valFrom_nil (x : Nat) : valFrom x [] = x := rfl
theorem valFrom_cons (x : Nat) (b : UInt8) (l : List UInt8) : valFrom x (b :: l) = valFrom (x * 256 + b.toNat) l := rfl
theorem valFrom_gt (l : List UInt8) : ∀ x, x * 256 ^ l.length ≤ valFrom x l := by
  induction l with
  | nil => intro x; simp [valFrom]
  | cons b l ih =>
    intro x
    refine Nat.le_trans ?_ (ih (x * 256 + b.toNat))
    rw [List.length_cons, Nat.pow_succ, Nat.mul_comm (256 ^ l.length) 256, ← Nat.mul_assoc]
    exact Nat.mul_le_mul_right _ (by omega)
def numV (l : List UInt8) : Value := if val l < 18446744073709551616 then .tuple #[.int .u64 (val l : Nat), .bool true] else .tuple #[.int .u64 0, .bool false]
theorem drop_getD {l : List UInt8} {i : Nat} (h : i < l.length) : l.drop i = l.getD i 0 :: l.drop (i + 1) := by
  rw [List.drop_eq_getElem_cons h]
  simp [List.getD_eq_getElem?_getD, List.getElem?_eq_getElem h]
theorem ct_Num {nx : Nat} {gt : Nat → Option Blk} {A : Option Addr} {n c : Nat} {l : List UInt8} (hr : Row nx gt 1 A n (l.map u8V)) (hc : n ≤ c) (hn : n < 1000000) :
    Ct Tryd.prog 57 [.slice A n c] nx gt fun v _ _ => v = numV l := by
  refine Ct.of hmx r_octet_Num (by simp [c_octet_Num]) fun b hb => ?_
  simp only [c_octet_Num, ↓gaW, ↓gaC, ↓gaN, gaP, simprocAttr]
  refine loop_of (fun k f m => ∃ A n c l', f 0 = .slice A n c ∧ k = n ∧ n ≤ c ∧ n < 1000000 ∧ m = ⟨nx, b, gt⟩ ∧ Row nx gt 1 A n (l'.map u8V) ∧ val l' = val l) n ⟨A, n, c, l, rfl, rfl, hc, hn, rfl, hr, rfl⟩ ?_
  rintro k f m ⟨A, n, c, l', h0, rfl, hc, hn, rfl, hr, hv⟩
  have hlen : l'.length = k := by simpa using hr.len
  simp only [↓gaW, ↓gaC, ↓gaN, gaP, simprocAttr, h0]
  refine condK_dec (fun h => ?_) fun h => ?_
  · obtain ⟨a, ce, ro, rfl, e2, e3, e4, e5⟩ := hr.cells (by omega)
    have e5' := e5 0 (by omega)
    rw [getD_u8 (by omega)] at e5'
    simp only [Nat.add_zero] at e5'
    have hd := drop_getD (l := l') (i := 0) (by omega)
    simp only [List.drop_zero, Nat.zero_add] at hd
    simp only [↓gaW, ↓gaC, ↓gaN, gaP, simprocAttr, h0, e3, e5']
    repeat refine And.intro (by omega) ?_
    refine condK_dec (fun hz => ?_) fun hz => ?_
    · simp only [↓gaW, ↓gaC, ↓gaN, gaP, simprocAttr, gaE]
      refine ⟨by omega, fun _ _ => by simp, ?_⟩
      have : ¬ val l < 18446744073709551616 := by
        rw [← hv, hd]
        have hg := valFrom_gt (l'.drop 1) (0 * 256 + (l'.getD 0 0).toNat)
        have : 256 ^ 8 ≤ 256 ^ (l'.drop 1).length := Nat.pow_le_pow_right (by decide) (by simp; omega)
        have h1 : 1 ≤ 0 * 256 + (l'.getD 0 0).toNat := by omega
        have := Nat.mul_le_mul h1 this
        show ¬ valFrom _ _ < _
        rw [valFrom_cons]
        omega
      simp [numV, this]
    · simp only [↓gaW, ↓gaC, ↓gaN, gaP, simprocAttr, h0]
      repeat refine And.intro (by omega) ?_
      refine ⟨.inr (hr.spot _ rfl), k - 1, by omega, _, _, _, l'.drop 1, rfl, by omega, by omega, by omega, rfl, ?_, ?_⟩
      · have := hr.part (lo := 1) (hi := k) (by omega) (Nat.le_refl _) rfl
        have e : ((l'.drop 1).map u8V) = ((l'.map u8V).drop 1).take (k - 1) := by
          rw [List.map_drop, List.take_of_length_le (by simp; omega)]
        rw [e]
        have e2 : ((k : Int) - 1).toNat = k - 1 := by omega
        rw [e2]
        exact this
      · rw [← hv, hd]
        show _ = valFrom 0 _
        rw [valFrom_cons]
        have : 0 * 256 + (l'.getD 0 0).toNat = 0 := by omega
        rw [this]; rfl
  · simp only [↓gaW, ↓gaC, ↓gaN, gaP, simprocAttr, h0]
    refine loop_of (fun j f m => ∃ i, j = k - i ∧ i ≤ k ∧ f 16 = .slice A k c ∧ f 17 = .int .i64 (k : Nat) ∧ f 18 = .int .i64 (i : Nat) ∧ m = ⟨nx, b, gt⟩ ∧ ∃ x, f 4 = .int .u64 (x : Nat) ∧ x < 256 ^ i ∧ valFrom x (l'.drop i) = val l) k ⟨0, by omega, by omega, rfl, rfl, rfl, rfl, 0, rfl, by omega, hv⟩ ?_
    rintro j f m ⟨i, rfl, hi, h16, h17, h18, rfl, x, h4, hx, hv⟩
    simp only [↓gaW, ↓gaC, ↓gaN, gaP, simprocAttr, h16, h17, h18]
    refine condK_dec (fun hlt => ?_) fun hge => ?_
    · have hik : i < k := by omega
      obtain ⟨a, ce, ro, rfl, e2, e3, e4, e5⟩ := hr.cells (by omega)
      have e5' := e5 i hik
      rw [getD_u8 (by omega)] at e5'
      have hp : 256 ^ i ≤ 256 ^ 7 := Nat.pow_le_pow_right (by decide) (by omega)
      have hx' : x < 72057594037927936 := by omega
      have hc := (l'.getD i 0).toNat_lt
      simp only [↓gaW, ↓gaC, ↓gaN, gaP, simprocAttr, h16, h17, h18, e3, e5', h4, shl_u64_8 x hx', u64_i _ (show 0 ≤ ((l'.getD i 0).toNat : Int) ∧ ((l'.getD i 0).toNat : Int) ≤ 18446744073709551615 by omega), or_u64 (x := x * 256) (y := (l'.getD i 0).toNat) (by omega) (by omega), or_low8 hc, i64_w ((i : Int) + 1) (by omega)]
      repeat refine And.intro (by omega) ?_
      refine ⟨k - i - 1, by omega, i + 1, by omega, by omega, h16, h17, rfl, rfl, x * 256 + (l'.getD i 0).toNat, rfl, ?_, ?_⟩
      · rw [Nat.pow_succ]; omega
      · rw [← hv, drop_getD (l := l') (i := i) (by omega), valFrom_cons]
    · have : i = k := by omega
      subst this
      simp only [↓gaW, ↓gaC, ↓gaN, gaP, simprocAttr, gaE, h4]
      refine ⟨by omega, fun _ _ => by simp, ?_⟩
      rw [List.drop_of_length_le (by omega), valFrom_nil] at hv
      have hp : 256 ^ i ≤ 256 ^ 8 := Nat.pow_le_pow_right (by decide) (by omega)
      rw [numV, if_pos (by omega), hv]
end Go.Ga

namespace Go.Ga
open Go Go.Proofs
theorem ct_rNum {nx : Nat} {gt : Nat → Option Blk} {A : Option Addr} {n c : Nat} {l : List UInt8} (hr : Row nx gt 1 A n (l.map u8V)) (hn : n < 1000000) :
    Ct Tryd.prog 63 [.slice A n c] nx gt fun v _ _ => v = numV l := by
  refine Ct.of hmx r_lanyardref01_Num (by simp [c_lanyardref01_Num]) fun b hb => ?_
  have hlen : l.length = n := by simpa using hr.len
  simp only [c_lanyardref01_Num, ↓gaW, ↓gaC, ↓gaN, gaP, simprocAttr]
  refine loop_of (fun j f m => ∃ i, j = n - i ∧ i ≤ n ∧ f 0 = .slice A n c ∧ f 5 = .int .i64 (i : Nat) ∧ m = ⟨nx, b, gt⟩ ∧ ∃ x, f 4 = .int .u64 (x : Nat) ∧ x < 18446744073709551616 ∧ valFrom x (l.drop i) = val l) n ⟨0, by omega, by omega, rfl, rfl, rfl, 0, rfl, by omega, rfl⟩ ?_
  rintro j f m ⟨i, rfl, hi, h0, h5, rfl, x, h4, hx, hv⟩
  simp only [↓gaW, ↓gaC, ↓gaN, gaP, simprocAttr, h0, h5]
  refine condK_dec (fun hlt => ?_) fun hge => ?_
  · have hik : i < n := by omega
    obtain ⟨a, ce, ro, rfl, e2, e3, e4, e5⟩ := hr.cells (by omega)
    have e5' := e5 i hik
    rw [getD_u8 (by omega)] at e5'
    have hc := (l.getD i 0).toNat_lt
    have hd := drop_getD (l := l) (i := i) (by omega)
    simp only [↓gaW, ↓gaC, ↓gaN, gaP, simprocAttr, h0, h4, h5]
    refine condK_dec (fun hbig => ?_) fun hsm => ?_
    · simp only [↓gaW, ↓gaC, ↓gaN, gaP, simprocAttr, gaE]
      refine ⟨by omega, fun _ _ => by simp, ?_⟩
      have hg := valFrom_gt (l.drop i) x
      have : 256 ^ 1 ≤ 256 ^ (l.drop i).length := Nat.pow_le_pow_right (by decide) (by simp; omega)
      have := Nat.mul_le_mul (show 72057594037927936 ≤ x by omega) this
      simp only [numV]
      rw [if_neg (by omega)]
    · have g1 : IntKind.u64.wrap ((x : Int) * 256) = ((x * 256 : Nat) : Int) := by rw [u64_w]; omega
      have g2 : IntKind.u64.wrap (((l.getD i 0).toNat : Nat) : Int) = (((l.getD i 0).toNat : Nat) : Int) := by rw [u64_w]; omega
      have g3 : IntKind.u64.wrap (((x * 256 : Nat) : Int) + (((l.getD i 0).toNat : Nat) : Int)) = ((x * 256 + (l.getD i 0).toNat : Nat) : Int) := by rw [u64_w]; omega
      simp only [↓gaW, ↓gaC, ↓gaN, gaP, simprocAttr, h0, h5, h4, e3, e5', g1, g2, g3, i64_w ((i : Int) + 1) (by omega)]
      repeat refine And.intro (by omega) ?_
      refine ⟨n - i - 1, by omega, i + 1, by omega, by omega, h0, rfl, rfl, x * 256 + (l.getD i 0).toNat, rfl, by omega, ?_⟩
      rw [← hv, hd, valFrom_cons]
  · have : i = n := by omega
    subst this
    simp only [↓gaW, ↓gaC, ↓gaN, gaP, simprocAttr, gaE, h4]
    refine ⟨by omega, fun _ _ => by simp, ?_⟩
    rw [List.drop_of_length_le (by omega), valFrom_nil] at hv
    rw [numV, if_pos (by omega), hv]
def be (k n : Nat) : List UInt8 := (List.range k).map fun i => UInt8.ofNat (n / 256 ^ (k - 1 - i))
theorem be_length (k n : Nat) : (be k n).length = k := by simp [be]
theorem be_getD (k n i : Nat) (h : i < k) : (be k n).getD i 0 = UInt8.ofNat (n / 256 ^ (k - 1 - i)) := by
  simp [be, List.getD_eq_getElem?_getD, h]
def byOk (n : Nat) (many : Int) : Bool := decide (0 ≤ many) && decide (many ≤ 64) && decide (n < 256 ^ many.toNat)
def ByV (nx : Nat) (gt : Nat → Option Blk) (n : Nat) (many : Int) (v : Value) : Prop :=
  ∃ s, v = .tuple #[s, .bool (byOk n many)] ∧ BySl nx gt s (if byOk n many then be many.toNat n else [])
theorem u8_of (n : Nat) : IntKind.u8.wrap (n : Int) = ((UInt8.ofNat n).toNat : Int) := by
  rw [u8_w, UInt8.toNat_ofNat']
  omega
theorem ct_rBytes {nx : Nat} {gt : Nat → Option Blk} {n : Nat} {many : Int} (hn : n < 18446744073709551616) (hm : -9223372036854775808 ≤ many ∧ many ≤ 9223372036854775807) :
    Ct Tryd.prog 78 [.int .u64 (n : Nat), .int .i64 many] nx gt fun v nx' gt' => ByV nx' gt' n many v := by
  refine Ct.of hmx r_lanyardref01_Bytes (by simp [c_lanyardref01_Bytes]) fun b hb => ?_
  simp only [c_lanyardref01_Bytes, ↓gaW, ↓gaC, ↓gaN, gaP, simprocAttr]
  by_cases h1 : many < 0
  · have : byOk n many = false := by simp [byOk]; omega
    simp only [↓gaW, ↓gaC, ↓gaN, gaP, simprocAttr, gaE, h1, decide_true]
    exact ⟨by omega, fun _ _ => trivial, _, by rw [this], by rw [this]; exact .nil⟩
  by_cases h2 : 64 < many
  · have : byOk n many = false := by simp [byOk]; omega
    simp only [↓gaW, ↓gaC, ↓gaN, gaP, simprocAttr, gaE, h1, h2, decide_true, decide_false]
    exact ⟨by omega, fun _ _ => trivial, _, by rw [this], by rw [this]; exact .nil⟩
  obtain ⟨k, rfl⟩ : ∃ k : Nat, many = k := ⟨many.toNat, by omega⟩
  simp only [↓gaW, ↓gaC, ↓gaN, gaP, simprocAttr, h1, h2, decide_false, i64_w ((k : Int) - 1) (by omega)]
  repeat refine And.intro (by first | omega | simp) ?_
  refine loop_of (fun j f m => ∃ t ce g x, j = k - t ∧ t ≤ k ∧ f 6 = .slice (some ⟨nx, 0, none⟩) k k ∧ f 7 = .int .i64 ((k : Int) - 1 - (t : Nat)) ∧ f 0 = .int .u64 (x : Nat) ∧ x = n / 256 ^ t ∧ m = ⟨nx + 1, b, g⟩ ∧ (∀ i, i < nx → g i = gt i) ∧ g nx = some (.cells ce false) ∧ ce.length = k ∧
      ∀ i, i < k → ce.getD i undef = if k - 1 - i < t then u8V (UInt8.ofNat (n / 256 ^ (k - 1 - i))) else .int .u8 0) k
    ⟨0, (List.range k).map fun i => [Value.int .u8 0].getD (i % 1) undef, _, n, by omega, by omega, rfl, by simp [putR], by simp [putR], by simp, rfl, fun i hi => by simp only [upd_e]; rw [if_neg (by omega)], by simp only [upd_e, if_true], by simp, fun i hi => by rw [getD_range _ _ _ hi, zero1b, if_neg (by omega)]⟩ ?_
  rintro j f m ⟨t, ce, g, x, rfl, ht, h6, h7, h0, hx, rfl, hg, hgn, hcl, hce⟩
  simp only [↓gaW, ↓gaC, ↓gaN, gaP, simprocAttr, h6, h7, h0]
  refine condK_dec (fun hlt => ?_) fun hge => ?_
  · have htk : t < k := by omega
    have hle : x ≤ n := by rw [hx]; exact Nat.div_le_self _ _
    have g3 : IntKind.u64.wrap ((x / 256 : Nat) : Int) = ((x / 256 : Nat) : Int) := by rw [u64_w]; omega
    have g1 : (x : Int).tmod 256 = ((x % 256 : Nat) : Int) := rfl
    have g2 : (x : Int).tdiv 256 = ((x / 256 : Nat) : Int) := rfl
    have g4 : ((k : Int) - 1 - (t : Int)).toNat = k - 1 - t := by omega
    simp only [↓gaW, ↓gaC, ↓gaN, gaP, simprocAttr, h6, h7, h0, g1, g2, g3, g4, hgn, i64_w ((k : Int) - 1 - (t : Int) - 1) (by omega), u8_of]
    repeat refine And.intro (by first | omega | exact all1 rfl) ?_
    refine ⟨k - t - 1, by omega, t + 1, splice ce (k - 1 - t) [.int .u8 ((UInt8.ofNat (x % 256)).toNat : Nat)], _, x / 256, by omega, by omega, h6, ?_, rfl, ?_, rfl, fun i hi => ?_, ?_, ?_, fun i hi => ?_⟩
    · simp [putR]; omega
    · rw [hx, Nat.pow_succ, ← Nat.div_div_eq_div_mul]
    · simp only [upd_e]; rw [if_neg (by omega)]; exact hg i hi
    · simp only [upd_e, if_true]
    · rw [splice1_len (by omega)]; exact hcl
    · rw [splice1 (by omega)]
      by_cases hi' : i = k - 1 - t
      · subst hi'
        rw [if_pos (by omega), if_pos (by omega)]
        have e : k - 1 - (k - 1 - t) = t := by omega
        rw [e]
        rw [← hx]
        simp only [u8V, UInt8.toNat_ofNat']
        congr 2
        omega
      · rw [if_neg (by omega), hce i hi]
        by_cases h' : k - 1 - i < t
        · rw [if_pos h', if_pos (by omega)]
        · rw [if_neg h', if_neg (by omega)]
  · have : t = k := by omega
    subst this
    simp only [↓gaW, ↓gaC, ↓gaN, gaP, simprocAttr, h0]
    have hpos : 0 < 256 ^ t := Nat.pow_pos (by decide)
    refine condK_dec (fun hbig => ?_) fun hsm => ?_
    · have : byOk n (t : Int) = false := by
        have : 0 < n / 256 ^ t := by rw [← hx]; omega
        have := (Nat.div_pos_iff.1 this).2
        simp [byOk]; omega
      simp only [↓gaW, ↓gaC, ↓gaN, gaP, simprocAttr, gaE]
      exact ⟨by omega, fun i hi => hg i hi, _, by rw [this], by rw [this]; exact .nil⟩
    · have : byOk n (t : Int) = true := by
        have h0 : n / 256 ^ t = 0 := by rw [← hx]; omega
        have := (Nat.div_eq_zero_iff_lt hpos).1 h0
        simp [byOk]; omega
      simp only [↓gaW, ↓gaC, ↓gaN, gaP, simprocAttr, gaE, h6]
      refine ⟨by omega, fun i hi => hg i hi, _, by rw [this], ?_⟩
      rw [this, if_pos rfl, Int.toNat_natCast]
      refine BySl.mk (.inl rfl) (by omega) hgn (Nat.le_refl _) (by omega) (be_length _ _) fun i hi => ?_
      rw [hce i hi, if_pos (by omega), be_getD _ _ _ hi]
end Go.Ga

namespace Go.Ga
open Go Go.Proofs
theorem shr8 (k n : Nat) (h : k ≤ 8) : shrV .u64 (n : Int) (8 * (k : Int)) = ((n / 256 ^ k : Nat) : Int) := by
  have e : (8 * (k : Int)) = ((8 * k : Nat) : Int) := by omega
  rw [e, shr_nat n (8 * k) (by show 8 * k ≤ 64; omega), Nat.pow_mul]
theorem ct_Bytes {nx : Nat} {gt : Nat → Option Blk} {n : Nat} {many : Int} (hn : n < 18446744073709551616) (hm : -9223372036854775808 ≤ many ∧ many ≤ 9223372036854775807) :
    Ct Tryd.prog 73 [.int .u64 (n : Nat), .int .i64 many] nx gt fun v nx' gt' => ByV nx' gt' n many v := by
  refine Ct.of hmx r_octet_Bytes (by simp [c_octet_Bytes]) fun b hb => ?_
  have rest : ∀ k : Nat, many = k → k ≤ 64 → byOk n many = true → ∀ f : Regs, f 0 = .int .u64 (n : Nat) → f 1 = .int .i64 (k : Nat) →
      RC.vc Tryd.prog (match c_octet_Bytes.code with | .seq _ (.seq _ c) => c | _ => .skip) f ⟨nx, b, gt⟩ (D Tryd.prog (.top (endK c_octet_Bytes.results b nx gt fun v nx' gt' => ByV nx' gt' n many v))) := by
    rintro k rfl hk hok f h0 h1
    have g5 : (if (8 : Int) < (k : Int) then 8 else (k : Int)) = ((min k 8 : Nat) : Int) := by split <;> omega
    simp only [c_octet_Bytes, ↓gaW, ↓gaC, ↓gaN, gaP, simprocAttr, h0, h1, g5]
    repeat refine And.intro (by first | omega | simp) ?_
    refine loop_of (fun j f m => ∃ t ce g, j = k - t ∧ t ≤ min k 8 ∧ f 6 = .slice (some ⟨nx, 0, none⟩) k k ∧ f 0 = .int .u64 (n : Nat) ∧ f 1 = .int .i64 (k : Nat) ∧ f 28 = .int .i64 (min k 8 : Nat) ∧ f 29 = .int .i64 (t : Nat) ∧ m = ⟨nx + 1, b, g⟩ ∧ (∀ i, i < nx → g i = gt i) ∧ g nx = some (.cells ce false) ∧ ce.length = k ∧
        ∀ i, i < k → ce.getD i undef = if k - 1 - i < t then u8V (UInt8.ofNat (n / 256 ^ (k - 1 - i))) else .int .u8 0) k
      ⟨0, (List.range k).map fun i => [Value.int .u8 0].getD (i % 1) undef, _, by omega, by omega, rfl, h0, h1, rfl, rfl, rfl, fun i hi => by simp only [upd_e]; rw [if_neg (by omega)], by simp only [upd_e, if_true], by simp, fun i hi => by rw [getD_range _ _ _ hi, zero1b, if_neg (by omega)]⟩ ?_
    rintro j f m ⟨t, ce, g, rfl, ht, h6, h0, h1, h28, h29, rfl, hg, hgn, hcl, hce⟩
    simp only [↓gaW, ↓gaC, ↓gaN, gaP, simprocAttr, h28, h29]
    refine condK_dec (fun hlt => ?_) fun hge => ?_
    · have htk : t < min k 8 := by omega
      have g4 : ((k : Int) - 1 - (t : Int)).toNat = k - 1 - t := by omega
      simp only [↓gaW, ↓gaC, ↓gaN, gaP, simprocAttr, h6, h0, h1, h28, h29, g4, hgn, i64_w ((k : Int) - 1) (by omega), i64_w ((k : Int) - 1 - (t : Int)) (by omega), i64_w (8 * (t : Int)) (by omega), i64_w ((t : Int) + 1) (by omega), shr8 t n (by omega), u8_of]
      repeat refine And.intro (by first | omega | exact all1 rfl) ?_
      refine ⟨k - t - 1, by omega, t + 1, splice ce (k - 1 - t) [.int .u8 ((UInt8.ofNat (n / 256 ^ t)).toNat : Nat)], _, by omega, by omega, h6, h0, h1, h28, rfl, rfl, fun i hi => ?_, ?_, ?_, fun i hi => ?_⟩
      · simp only [upd_e]; rw [if_neg (by omega)]; exact hg i hi
      · simp only [upd_e, if_true]
      · rw [splice1_len (by omega)]; exact hcl
      · rw [splice1 (by omega)]
        by_cases hi' : i = k - 1 - t
        · subst hi'
          rw [if_pos (by omega), if_pos (by omega)]
          have e : k - 1 - (k - 1 - t) = t := by omega
          rw [e]
          rfl
        · rw [if_neg hi', hce i hi]
          by_cases h' : k - 1 - i < t
          · rw [if_pos h', if_pos (by omega)]
          · rw [if_neg h', if_neg (by omega)]
    · have : t = min k 8 := by omega
      simp only [↓gaW, ↓gaC, ↓gaN, gaP, simprocAttr, gaE, h6]
      refine ⟨by omega, fun i hi => hg i hi, _, by rw [hok], ?_⟩
      rw [hok, if_pos rfl, Int.toNat_natCast]
      refine BySl.mk (.inl rfl) (by omega) hgn (Nat.le_refl _) (by omega) (be_length _ _) fun i hi => ?_
      rw [hce i hi, be_getD _ _ _ hi]
      by_cases h' : k - 1 - i < t
      · rw [if_pos h']
      · rw [if_neg h']
        have hp : 256 ^ 8 ≤ 256 ^ (k - 1 - i) := Nat.pow_le_pow_right (by decide) (by omega)
        have : n / 256 ^ (k - 1 - i) = 0 := Nat.div_eq_of_lt (by omega)
        rw [this]; rfl
  by_cases h1 : many < 0
  · have : byOk n many = false := by simp [byOk]; omega
    simp only [c_octet_Bytes, ↓gaW, ↓gaC, ↓gaN, gaP, simprocAttr, gaE, h1, decide_true]
    exact ⟨by omega, fun _ _ => trivial, _, by rw [this], by rw [this]; exact .nil⟩
  by_cases h2 : 64 < many
  · have : byOk n many = false := by simp [byOk]; omega
    simp only [c_octet_Bytes, ↓gaW, ↓gaC, ↓gaN, gaP, simprocAttr, gaE, h1, h2, decide_true, decide_false]
    exact ⟨by omega, fun _ _ => trivial, _, by rw [this], by rw [this]; exact .nil⟩
  obtain ⟨k, rfl⟩ : ∃ k : Nat, many = k := ⟨many.toNat, by omega⟩
  have hpos : 0 < 256 ^ k := Nat.pow_pos (by decide)
  by_cases h3 : (k : Int) < 8
  · by_cases h4 : n / 256 ^ k = 0
    · have hok : byOk n (k : Int) = true := by
        have := (Nat.div_eq_zero_iff_lt hpos).1 h4
        simp [byOk]; omega
      simp only [c_octet_Bytes, ↓gaW, ↓gaN, gaP, simprocAttr, h1, h2, h3, decide_true, decide_false, i64_w (8 * (k : Int)) (by omega), shr8 k n (by omega), h4]
      repeat refine And.intro (by first | omega | simp) ?_
      refine condK_of (fun h => by simp at h) fun _ => ?_
      rw [vc_skip, D_thn_n]
      refine rest k rfl (by omega) hok _ ?_ ?_ <;> rfl
    · have hok : byOk n (k : Int) = false := by
        have : 0 < n / 256 ^ k := Nat.pos_of_ne_zero h4
        have := (Nat.div_pos_iff.1 this).2
        simp [byOk]; omega
      have h4' : ((n / 256 ^ k : Nat) : Int) ≠ 0 := by omega
      simp only [c_octet_Bytes, ↓gaW, ↓gaC, ↓gaN, gaP, simprocAttr, gaE, h1, h2, h3, decide_true, decide_false, i64_w (8 * (k : Int)) (by omega), shr8 k n (by omega), h4']
      repeat refine And.intro (by first | omega | simp) ?_
      exact ⟨_, by rw [hok], by rw [hok]; exact .nil⟩
  · have hp : 256 ^ 8 ≤ 256 ^ k := Nat.pow_le_pow_right (by decide) (by omega)
    have hok : byOk n (k : Int) = true := by simp [byOk]; omega
    simp only [c_octet_Bytes, ↓gaW, ↓gaN, gaP, simprocAttr, h1, h2, h3, decide_true, decide_false]
    refine condK_of (fun h => by simp at h) fun _ => ?_
    rw [vc_skip, D_thn_n]
    refine rest k rfl (by omega) hok _ ?_ ?_ <;> rfl
end Go.Ga

namespace Go.Ga
open Go Go.Proofs
def isLeast (n k : Nat) : Prop := 1 ≤ k ∧ k ≤ 8 ∧ n < 256 ^ k ∧ (k = 1 ∨ 256 ^ (k - 1) ≤ n)
theorem isLeast_one {n k j : Nat} (h : isLeast n k) (h' : isLeast n j) : k = j := by
  have key : ∀ {k j : Nat}, isLeast n k → isLeast n j → ¬ k < j := by
    intro k j h h' hlt
    rcases h'.2.2.2 with e | e
    · have := h.1; omega
    · have := Nat.pow_le_pow_right (n := 256) (by decide) (show k ≤ j - 1 by omega)
      have := h.2.2.1
      omega
  have a := key h h'
  have b := key h' h
  omega
def LeastV (nx : Nat) (gt : Nat → Option Blk) (n : Nat) (v : Value) : Prop := ∃ k, isLeast n k ∧ BySl nx gt v (be k n)
theorem byOk_nat {n k : Nat} (h : k ≤ 64) : byOk n (k : Int) = decide (n < 256 ^ k) := by
  simp [byOk]; intro _; omega
theorem ct_Least {nx : Nat} {gt : Nat → Option Blk} {n : Nat} (hn : n < 18446744073709551616) :
    Ct Tryd.prog 45 [.int .u64 (n : Nat)] nx gt fun v nx' gt' => LeastV nx' gt' n v := by
  refine Ct.of hmx r_octet_Least (by simp [c_octet_Least]) fun b hb => ?_
  simp only [c_octet_Least, ↓gaW, ↓gaC, ↓gaN, gaP, simprocAttr]
  refine loop_of (fun j f m => ∃ k : Nat, j = 9 - k ∧ 1 ≤ k ∧ k ≤ 8 ∧ (k = 1 ∨ 256 ^ (k - 1) ≤ n) ∧ f 0 = .int .u64 (n : Nat) ∧ f 3 = .int .i64 (k : Nat) ∧ m = ⟨nx, b, gt⟩) 8 ⟨1, by omega, by omega, by omega, .inl rfl, rfl, rfl, rfl⟩ ?_
  rintro j f m ⟨k, rfl, hk1, hk8, hkn, h0, h3, rfl⟩
  have hpos : 0 < 256 ^ k := Nat.pow_pos (by decide)
  have rest : n < 256 ^ k → ∀ f : Regs, f 0 = .int .u64 (n : Nat) → f 3 = .int .i64 (k : Nat) →
      RC.vc Tryd.prog (match c_octet_Least.code with | .seq _ (.seq _ (.seq _ c)) => c | _ => .skip) f ⟨nx, b, gt⟩ (D Tryd.prog (.top (endK c_octet_Least.results b nx gt fun v nx' gt' => LeastV nx' gt' n v))) := by
    intro hlt f h0 h3
    simp only [c_octet_Least, ↓gaW, ↓gaC, ↓gaN, gaP, simprocAttr, h0, h3]
    refine callK_of (ct_Bytes hn (by omega)) (fun v nx' gt' hle hkeep hC => ?_) hb
    obtain ⟨s, rfl, hs⟩ := hC
    rw [byOk_nat (by omega), decide_eq_true hlt, if_pos rfl, Int.toNat_natCast] at hs
    simp only [↓gaW, ↓gaC, ↓gaN, gaP, Nat.reduceEqDiff, Nat.reduceLeDiff, Nat.reduceAdd, Nat.reduceSub, Nat.reduceMul, Int.reduceLT, Int.reduceLE, Int.reduceEq, Int.reduceToNat, Int.reduceAdd, Int.reduceSub, Int.reduceMul, reduceCtorEq, ↓reduceIte, gaE]
    exact ⟨by omega, by omega, by omega, hkeep, k, ⟨hk1, hk8, hlt, hkn⟩, hs⟩
  by_cases hk : (k : Int) < 8
  · by_cases h4 : n / 256 ^ k = 0
    · simp only [↓gaW, ↓gaN, gaP, simprocAttr, h0, h3, hk, decide_true, i64_w (8 * (k : Int)) (by omega), shr8 k n (by omega), h4]
      repeat refine And.intro (by omega) ?_
      refine condK_of (fun h => by simp at h) fun _ => ?_
      simp only [vc_exit, D_thn_e, D_blk_e, loopK_e, D_top, if_true, D_thn_n]
      refine rest ((Nat.div_eq_zero_iff_lt hpos).1 h4) _ ?_ ?_
      · simpa [putR] using h0
      · simpa [putR] using h3
    · have h4' : ((n / 256 ^ k : Nat) : Int) ≠ 0 := by omega
      have h5 : 256 ^ k ≤ n := by
        have := (Nat.div_pos_iff.1 (Nat.pos_of_ne_zero h4)).2
        exact this
      simp only [↓gaW, ↓gaC, ↓gaN, gaP, simprocAttr, h0, h3, hk, decide_true, i64_w (8 * (k : Int)) (by omega), shr8 k n (by omega), h4', i64_w ((k : Int) + 1) (by omega)]
      repeat refine And.intro (by omega) ?_
      exact ⟨9 - (k + 1), by omega, k + 1, rfl, by omega, by omega, .inr h5, h0, rfl, rfl⟩
  · have : k = 8 := by omega
    subst this
    simp only [↓gaW, ↓gaN, gaP, simprocAttr, h0, h3, hk, decide_false]
    refine condK_of (fun h => by simp at h) fun _ => ?_
    simp only [vc_exit, D_thn_e, D_blk_e, loopK_e, D_top, if_true, D_thn_n]
    refine rest (by omega) _ ?_ ?_
    · simpa [putR] using h0
    · simpa [putR] using h3
end Go.Ga

namespace Go.Ga
open Go Go.Proofs
theorem ct_rLeast {nx : Nat} {gt : Nat → Option Blk} {n : Nat} (hn : n < 18446744073709551616) :
    Ct Tryd.prog 50 [.int .u64 (n : Nat)] nx gt fun v nx' gt' => LeastV nx' gt' n v := by
  refine Ct.of hmx r_lanyardref01_Least (by simp [c_lanyardref01_Least]) fun b hb => ?_
  simp only [c_lanyardref01_Least, ↓gaW, ↓gaC, ↓gaN, gaP, simprocAttr]
  refine loop_of (fun j f m => ∃ (k : Nat) (x : Nat) (g : Nat → Option Blk), j = 9 - k ∧ 1 ≤ k ∧ k ≤ 8 ∧ (k = 1 ∨ 256 ^ (k - 1) ≤ n) ∧ f 0 = .int .u64 (n : Nat) ∧ f 3 = .int .i64 (k : Nat) ∧ m = ⟨x, b, g⟩ ∧ nx ≤ x ∧ ∀ i, i < nx → g i = gt i) 8 ⟨1, nx, gt, by omega, by omega, by omega, .inl rfl, rfl, rfl, rfl, Nat.le_refl _, fun _ _ => rfl⟩ ?_
  rintro j f m ⟨k, x, g, rfl, hk1, hk8, hkn, h0, h3, rfl, hx, hg⟩
  simp only [↓gaW, ↓gaC, ↓gaN, gaP, simprocAttr, h0, h3]
  refine condK_dec (fun hlt => ?_) fun hge => ?_
  · simp only [↓gaW, ↓gaC, ↓gaN, gaP, simprocAttr, h0, h3]
    refine callK_of (ct_rBytes hn (by omega)) (fun v nx' gt' hle hkeep hC => ?_) (by omega)
    obtain ⟨s, rfl, hs⟩ := hC
    rw [byOk_nat (by omega)] at hs ⊢
    by_cases hok : n < 256 ^ k
    · rw [decide_eq_true hok, if_pos rfl, Int.toNat_natCast] at hs
      simp only [↓gaW, ↓gaC, ↓gaN, gaP, Nat.reduceEqDiff, Nat.reduceLeDiff, Nat.reduceAdd, Nat.reduceSub, Nat.reduceMul, Int.reduceLT, Int.reduceLE, Int.reduceEq, Int.reduceToNat, Int.reduceAdd, Int.reduceSub, Int.reduceMul, reduceCtorEq, ↓reduceIte, gaE, hok, decide_true]
      exact ⟨by omega, by omega, by omega, fun i hi => by rw [hkeep i (by omega), hg i hi], k, ⟨hk1, hk8, hok, hkn⟩, hs⟩
    · simp only [↓gaW, ↓gaC, ↓gaN, gaP, simprocAttr, hok, decide_false, h3, i64_w ((k : Int) + 1) (by omega)]
      repeat refine And.intro (by omega) ?_
      exact ⟨9 - (k + 1), by omega, k + 1, nx', gt', rfl, by omega, by omega, .inr (by simpa using hok), h0, rfl, rfl, by omega, fun i hi => by rw [hkeep i (by omega), hg i hi]⟩
  · have : k = 8 := by omega
    subst this
    simp only [↓gaW, ↓gaC, ↓gaN, gaP, simprocAttr, h0, h3]
    refine callK_of (ct_rBytes hn (by omega)) (fun v nx' gt' hle hkeep hC => ?_) (by omega)
    obtain ⟨s, rfl, hs⟩ := hC
    have hok : n < 256 ^ 8 := by omega
    rw [show (8 : Int) = ((8 : Nat) : Int) from rfl, byOk_nat (by omega), decide_eq_true hok, if_pos rfl, Int.toNat_natCast] at hs
    simp only [↓gaW, ↓gaC, ↓gaN, gaP, Nat.reduceEqDiff, Nat.reduceLeDiff, Nat.reduceAdd, Nat.reduceSub, Nat.reduceMul, Int.reduceLT, Int.reduceLE, Int.reduceEq, Int.reduceToNat, Int.reduceAdd, Int.reduceSub, Int.reduceMul, reduceCtorEq, ↓reduceIte, gaE]
    exact ⟨by omega, by omega, by omega, fun i hi => by rw [hkeep i (by omega), hg i hi], 8, ⟨hk1, hk8, hok, hkn⟩, hs⟩
def digs : List UInt8 := [48, 49, 50, 51, 52, 53, 54, 55, 56, 57, 97, 98, 99, 100, 101, 102]
def dig (n : Nat) : UInt8 := digs.getD n 0
def hexL : List UInt8 → List UInt8
  | [] => []
  | b :: l => dig (b.toNat / 16) :: dig (b.toNat % 16) :: hexL l
end Go.Ga

namespace Go.Ga
open Go Go.Proofs
set_option maxRecDepth 100000
attribute [local irreducible] appendK
def bare (l : List UInt8) : List UInt8 := l.dropWhile (· == 0)
theorem bare_nil : bare [] = [] := rfl
theorem bare_0 (l : List UInt8) : bare (0 :: l) = bare l := rfl
theorem bare_n {x : UInt8} (h : x ≠ 0) (l : List UInt8) : bare (x :: l) = x :: l := by
  simp [bare, List.dropWhile_cons, h]
theorem bare_len (l : List UInt8) : (bare l).length ≤ l.length := by
  induction l with
  | nil => exact Nat.le_refl _
  | cons x l ih =>
    by_cases h : x = 0
    · subst h; rw [bare_0]; simp only [List.length_cons]; omega
    · rw [bare_n h]; exact Nat.le_refl _
section
variable {nx : Nat} {gt : Nat → Option Blk}
theorem ct_Equal {A B : Option Addr} {n c m d : Nat} {l k : List UInt8} (hA : Row nx gt 1 A n (l.map u8V)) (hB : Row nx gt 1 B m (k.map u8V)) :
    Ct Tryd.prog 97 [.slice A n c, .slice B m d] nx gt fun v _ _ => v = .bool (l == k) := by
  refine Ct.of hmx r_bytes_Equal (by simp [c_bytes_Equal]) fun b hb => ?_
  have e1 : rowOf ⟨nx, b, gt⟩ A n = some (l.map u8V) := hA.rowOf
  have e2 : rowOf ⟨nx, b, gt⟩ B m = some (k.map u8V) := hB.rowOf
  simp only [c_bytes_Equal, ↓gaH, gaP, simprocAttr, gaE, implies_true, Nat.le_refl, Int.sub_zero, Nat.sub_zero, Int.le_refl, true_or, or_true, e1, e2, bytesOf_map, str_eq]
theorem ct_trimByte {A : Option Addr} {n c : Nat} {l : List UInt8} (hA : Row nx gt 1 A n (l.map u8V)) (hc : n ≤ c) (hn : n ≤ 1000000000) :
    Ct Tryd.prog 93 [.slice A n c, .int .u8 0] nx gt fun v x g => BySl x g v (bare l) := by
  refine Ct.of hmx r_bytes_trimLeftByte (by simp [c_bytes_trimLeftByte]) fun b hb => ?_
  simp only [c_bytes_trimLeftByte, ↓gaH, gaP, simprocAttr]
  refine loop_of (fun j f mm => ∃ (A' : Option Addr) (n' c' : Nat) (l' : List UInt8), j = n' ∧ bare l = bare l' ∧ n' ≤ c' ∧ n' ≤ n ∧ Row nx gt 1 A' n' (l'.map u8V) ∧ f 0 = .slice A' n' c' ∧ f 1 = .int .u8 0 ∧ mm = ⟨nx, b, gt⟩) n ⟨A, n, c, l, rfl, rfl, hc, Nat.le_refl _, hA, (by simp only [↓gaH, gaP, simprocAttr]; try rfl), (by simp only [↓gaH, gaP, simprocAttr]; try rfl), rfl⟩ ?_
  rintro j f mm ⟨A', n', c', l', hj, hbl, hc', hn', hA', f0, f1, rfl⟩
  have hl' : l'.length = n' := by simpa using hA'.len
  by_cases h0 : (0 : Int) < (n' : Int)
  · obtain ⟨a, cl, ro, rfl, r2, r3, r4, r5⟩ := hA'.cells (by omega)
    obtain ⟨x, t, rfl⟩ : ∃ x t, l' = x :: t := by cases l' with | nil => simp at hl'; omega | cons x t => exact ⟨x, t, rfl⟩
    have c0 : cl.getD a.off undef = .int .u8 (x.toNat : Nat) := by
      have := r5 0 (by omega)
      rw [Nat.add_zero] at this
      rw [this]; rfl
    have hsp := hA'.spot a rfl
    by_cases hx : x = 0
    · subst hx
      rw [bare_0] at hbl
      have P1 := hA'.part (lo := 1) (hi := n') (by omega) (by omega) rfl
      rw [← List.map_drop, ← List.map_take, List.drop_succ_cons, List.drop_zero, List.take_of_length_le (by simp only [List.length_cons] at hl'; omega)] at P1
      have z0 : (((0 : UInt8).toNat : Nat) : Int) = 0 := rfl
      simp only [↓gaH, gaP, simprocAttr, f0, f1, h0, decide_true, r3, c0, z0, loopK_n]
      repeat refine And.intro (by omega) ?_
      refine And.intro (.inr hsp) ?_
      rw [show ((n' : Int) - 1).toNat = n' - 1 by omega, show ((c' : Int) - 1).toNat = c' - 1 by omega]
      exact ⟨n' - 1, by omega, _, n' - 1, c' - 1, t, rfl, hbl, by omega, by omega, P1, rfl⟩
    · have hx0 : ¬ ((x.toNat : Nat) : Int) = 0 := fun h => hx (UInt8.toNat_inj.1 (by simpa using h))
      have hn0 : ¬ (n' : Int) = 0 := by omega
      rw [bare_n hx] at hbl
      rw [hbl]
      simp only [↓gaH, gaP, simprocAttr, gaE, implies_true, Nat.le_refl, Int.sub_zero, Nat.sub_zero, Int.le_refl, true_or, or_true, f0, f1, h0, decide_true, r3, c0, hx0, decide_false, hn0]
      repeat refine And.intro (by omega) ?_
      exact ⟨_, n', c', rfl, hc', hl', hA'⟩
  · have hl0 : l' = [] := List.eq_nil_of_length_eq_zero (by omega)
    subst hl0
    have hn0 : (n' : Int) = 0 := by omega
    rw [hbl, bare_nil]
    simp only [↓gaH, gaP, simprocAttr, gaE, implies_true, Nat.le_refl, Int.sub_zero, Nat.sub_zero, Int.le_refl, true_or, or_true, f0, f1, h0, decide_false, hn0, decide_true]
    exact .nil
theorem ct_Trim {A : Option Addr} {n c : Nat} {l : List UInt8} (hA : Row nx gt 1 A n (l.map u8V)) (hc : n ≤ c) (hn : n ≤ 1000000000) :
    Ct Tryd.prog 71 [.slice A n c, .string ⟨#[0]⟩] nx gt fun v x g => BySl x g v (bare l) := by
  have hl : l.length = n := by simpa using hA.len
  refine Ct.of hmx r_bytes_TrimLeft (by simp [c_bytes_TrimLeft]) fun b hb => ?_
  by_cases h0 : (n : Int) = 0
  · have hl0 : l = [] := List.eq_nil_of_length_eq_zero (by omega)
    subst hl0
    rw [bare_nil]
    simp only [c_bytes_TrimLeft, ↓gaH, gaP, simprocAttr, gaE, implies_true, Nat.le_refl, Int.sub_zero, Nat.sub_zero, Int.le_refl, true_or, or_true, h0, decide_true]
    exact .nil
  · have hs : ((⟨#[0]⟩ : ByteArray).toList == (⟨#[]⟩ : ByteArray).toList) = false := by rw [show (⟨#[0]⟩ : ByteArray) = ⟨[(0 : UInt8)].toArray⟩ from rfl, show (⟨#[]⟩ : ByteArray) = ⟨([] : List UInt8).toArray⟩ from rfl, str_eq]; rfl
    have hz : (((⟨#[0]⟩ : ByteArray).size : Nat) : Int) = 1 := rfl
    have hu : u8V (([0] : List UInt8).getD 0 0) = .int .u8 0 := rfl
    simp only [c_bytes_TrimLeft, ↓gaH, gaP, simprocAttr, h0, decide_false, hs, hz, decide_true, hu]
    repeat refine And.intro (by omega) ?_
    refine callK_of (ct_trimByte hA hc hn) (fun v x1 g1 l1 k1 hC => ?_) (by omega)
    simp only [↓gaH, gaP, simprocAttr, gaE, implies_true, Nat.le_refl, Int.sub_zero, Nat.sub_zero, Int.le_refl, true_or, or_true]
    exact ⟨by omega, k1, hC⟩
theorem ct_Clone {A : Option Addr} {n c : Nat} {l : List UInt8} (hA : Row nx gt 1 A n (l.map u8V)) (hc : n ≤ c) (hn : n ≤ 1000000000) :
    Ct Tryd.prog 72 [.slice A n c] nx gt fun v x g => ByL nx x g v l := by
  have hl : l.length = n := by simpa using hA.len
  refine Ct.of hmx r_bytes_Clone (by simp [c_bytes_Clone]) fun b hb => ?_
  cases A with
  | none =>
    have hn0 : n = 0 := by
      rcases Nat.eq_zero_or_pos n with h | h
      · exact h
      · obtain ⟨a, _, _, e, _⟩ := hA.cells h; cases e
    subst hn0
    have hl0 : l = [] := List.eq_nil_of_length_eq_zero hl
    subst hl0
    have e : isNilV NilK.sl (.slice none 0 c) = some true := rfl
    simp only [c_bytes_Clone, ↓gaH, gaP, simprocAttr, gaE, implies_true, Nat.le_refl, Int.sub_zero, Nat.sub_zero, Int.le_refl, true_or, or_true, e]
    exact .nil
  | some a =>
    have e : isNilV NilK.sl (.slice (some a) n c) = some false := rfl
    have hZ : ∀ p, p < nx → upd gt nx (some (Blk.cells [] false)) p = gt p := fun p hp => by simp only [upd_e]; rw [if_neg (by omega)]
    have hz : upd gt nx (some (Blk.cells [] false)) nx = some (.cells [] false) := by simp only [upd_e, if_true]
    simp only [c_bytes_Clone, ↓gaH, gaP, simprocAttr, gaF, fillL, splice, e]
    generalize upd gt nx (some (Blk.cells [] false)) = g1 at *
    have e1 : rowOf ⟨nx + 1, b, g1⟩ (some a) n = some (l.map u8V) := (hA.keep (nx' := nx + 1) (gt' := g1) (by omega) hZ).rowOf
    rw [e1]
    simp only [asO_e]
    refine app_lit (by omega) hz (by omega) (by rw [List.length_map, hl, Nat.mul_one]) (all_u8 _) (by omega) (by omega) fun A6 x6 g6 l6 k6 R6 => ?_
    rw [Nat.mul_one] at R6
    simp only [↓gaH, gaP, simprocAttr, gaE, implies_true, Nat.le_refl, Int.sub_zero, Nat.sub_zero, Int.le_refl, true_or, or_true]
    exact ⟨by omega, fun p hp => by rw [k6 p (by omega), hZ p hp], A6, n, n, rfl, Nat.le_refl _, hl, R6.wid (by omega)⟩
theorem ct_rBare {A : Option Addr} {n c : Nat} {l : List UInt8} (hA : Row nx gt 1 A n (l.map u8V)) (hc : n ≤ c) (hn : n ≤ 1000000000) :
    Ct Tryd.prog 77 [.slice A n c] nx gt fun v x g => ByL nx x g v (bare l) := by
  have hl : l.length = n := by simpa using hA.len
  refine Ct.of hmx r_lanyardref05_Bare (by simp [c_lanyardref05_Bare]) fun b hb => ?_
  simp only [c_lanyardref05_Bare, ↓gaH, gaP, simprocAttr]
  refine loop_of (fun j f mm => ∃ i : Nat, j = n - i ∧ i ≤ n ∧ bare l = bare (l.drop i) ∧ f 0 = .slice A n c ∧ f 3 = .int .i64 (i : Nat) ∧ mm = ⟨nx, b, gt⟩) n ⟨0, by omega, by omega, by simp, (by simp only [↓gaH, gaP, simprocAttr]; try rfl), (by simp only [↓gaH, gaP, simprocAttr]; try rfl), rfl⟩ ?_
  rintro j f mm ⟨i, hj, hi, hbl, f0, f3, rfl⟩
  have hZ : ∀ p, p < nx → upd gt nx (some (Blk.cells [] false)) p = gt p := fun p hp => by simp only [upd_e]; rw [if_neg (by omega)]
  have hz : upd gt nx (some (Blk.cells [] false)) nx = some (.cells [] false) := by simp only [upd_e, if_true]
  have hdl : (l.drop i).length = n - i := by rw [List.length_drop, hl]
  by_cases h0 : (i : Int) < (n : Int)
  · obtain ⟨a, cl, ro, rfl, r2, r3, r4, r5⟩ := hA.cells (by omega)
    obtain ⟨x, t, hx⟩ : ∃ x t, l.drop i = x :: t := by
      cases h : l.drop i with
      | nil => have := congrArg List.length h; simp only [List.length_drop, List.length_nil] at this; omega
      | cons x t => exact ⟨x, t, rfl⟩
    have hxi : l.getD i 0 = x := by
      have : (l.drop i).getD 0 0 = x := by rw [hx]; rfl
      simpa [List.getD_eq_getElem?_getD] using this
    have c0 : cl.getD (a.off + i) undef = .int .u8 (x.toNat : Nat) := by rw [r5 i (by omega), getD_u8 (by omega), hxi]
    have ht : l.drop (i + 1) = t := by rw [← List.drop_drop, hx]; rfl
    rw [hx] at hbl
    by_cases hx0 : x = 0
    · subst hx0
      rw [bare_0] at hbl
      have z0 : (((0 : UInt8).toNat : Nat) : Int) = 0 := rfl
      have i3 : IntKind.i64.wrap ((i : Int) + 1) = ((i + 1 : Nat) : Int) := by rw [i64_w _ (by omega)]; omega
      simp only [↓gaH, gaP, simprocAttr, f0, f3, h0, decide_true, r3, c0, z0, i3, loopK_n]
      repeat refine And.intro (by omega) ?_
      exact ⟨n - (i + 1), by omega, i + 1, rfl, by omega, by rw [ht, hbl], rfl⟩
    · have hx1 : ¬ ((x.toNat : Nat) : Int) = 0 := fun h => hx0 (UInt8.toNat_inj.1 (by simpa using h))
      have hsp := hA.spot a rfl
      have P1 := hA.part (lo := i) (hi := n) (by omega) (by omega) rfl
      rw [← List.map_drop, ← List.map_take, List.take_of_length_le (by omega)] at P1
      have hb2 : bare l = l.drop i := by rw [hbl, bare_n hx0, hx]
      rw [hb2]
      simp only [↓gaH, gaP, simprocAttr, gaF, fillL, splice, f0, f3, h0, decide_true, r3, c0, hx1, decide_false, slK_s]
      repeat refine And.intro (by omega) ?_
      generalize upd gt nx (some (Blk.cells [] false)) = g1 at *
      repeat refine And.intro (by omega) ?_
      refine And.intro (.inr hsp) ?_
      rw [show ((n : Int) - (i : Int)).toNat = n - i by omega]
      have e1 : rowOf ⟨nx + 1, b, g1⟩ (some ⟨a.block, a.off + i, a.spot⟩) (n - i) = some ((l.drop i).map u8V) := (P1.keep (nx' := nx + 1) (gt' := g1) (by omega) hZ).rowOf
      rw [e1]
      simp only [asO_e]
      refine app_lit (by omega) hz (by omega) (by rw [List.length_map, hdl, Nat.mul_one]) (all_u8 _) (by omega) (by omega) fun A6 x6 g6 l6 k6 R6 => ?_
      rw [Nat.mul_one] at R6
      simp only [↓gaH, gaP, simprocAttr, gaE, implies_true, Nat.le_refl, Int.sub_zero, Nat.sub_zero, Int.le_refl, true_or, or_true]
      exact ⟨by omega, fun p hp => by rw [k6 p (by omega), hZ p hp], A6, n - i, n - i, rfl, Nat.le_refl _, hdl, R6.wid (by omega)⟩
  · have hin : i = n := by omega
    have hdr : l.drop i = [] := List.eq_nil_of_length_eq_zero (by rw [List.length_drop]; omega)
    have hb2 : bare l = l.drop i := by rw [hbl, hdr, bare_nil]
    rw [hb2]
    cases A with
    | none =>
      simp only [↓gaH, gaP, simprocAttr, gaF, fillL, splice, f0, f3, h0, decide_false, slK_n]
      generalize upd gt nx (some (Blk.cells [] false)) = g1 at *
      repeat refine And.intro (by omega) ?_
      have e1 : rowOf ⟨nx + 1, b, g1⟩ none 0 = some ([] : List Value) := (Row.nil (nx := nx + 1) (gt := g1) (e := 1)).rowOf
      rw [e1]
      simp only [asO_e]
      refine app_lit (by omega) hz (by omega) rfl (by simp) (by omega) (by omega) fun A6 x6 g6 l6 k6 R6 => ?_
      simp only [↓gaH, gaP, simprocAttr, gaE, implies_true, Nat.le_refl, Int.sub_zero, Nat.sub_zero, Int.le_refl, true_or, or_true]
      rw [hdr]
      exact ⟨by omega, fun p hp => by rw [k6 p (by omega), hZ p hp], A6, 0, 0, rfl, Nat.le_refl _, rfl, by simpa using R6.wid (lo' := nx) (by omega)⟩
    | some a =>
      have hsp := hA.spot a rfl
      have P1 := hA.part (lo := i) (hi := n) (by omega) (by omega) rfl
      rw [← List.map_drop, ← List.map_take, List.take_of_length_le (by omega)] at P1
      simp only [↓gaH, gaP, simprocAttr, gaF, fillL, splice, f0, f3, h0, decide_false, slK_s]
      generalize upd gt nx (some (Blk.cells [] false)) = g1 at *
      repeat refine And.intro (by omega) ?_
      refine And.intro (.inr hsp) ?_
      rw [show ((n : Int) - (i : Int)).toNat = n - i by omega]
      have e1 : rowOf ⟨nx + 1, b, g1⟩ (some ⟨a.block, a.off + i, a.spot⟩) (n - i) = some ((l.drop i).map u8V) := (P1.keep (nx' := nx + 1) (gt' := g1) (by omega) hZ).rowOf
      rw [e1]
      simp only [asO_e]
      refine app_lit (by omega) hz (by omega) (by rw [List.length_map, hdl, Nat.mul_one]) (all_u8 _) (by omega) (by omega) fun A6 x6 g6 l6 k6 R6 => ?_
      rw [Nat.mul_one] at R6
      simp only [↓gaH, gaP, simprocAttr, gaE, implies_true, Nat.le_refl, Int.sub_zero, Nat.sub_zero, Int.le_refl, true_or, or_true]
      exact ⟨by omega, fun p hp => by rw [k6 p (by omega), hZ p hp], A6, n - i, n - i, rfl, Nat.le_refl _, hdl, R6.wid (by omega)⟩
end
end Go.Ga

namespace Go.Ga
open Go Go.Proofs
set_option maxRecDepth 100000
attribute [local irreducible] appendK
def NodeIs (lo nx : Nat) (g : Nat → Option Blk) (v : Value) (x : Fo.El) : Prop := ∃ (B : Option Addr) (m d : Nat) (A : Option Addr) (n c : Nat) (ks : List Value), v = nodeV x.t B m d A n c ∧ NdL lo nx g x B m d A n c ks
theorem NodeIs.leaf {lo nx : Nat} {g : Nat → Option Blk} {t : Int} {A : Option Addr} {n c : Nat} {l : List UInt8} (ht : -9223372036854775808 ≤ t ∧ t ≤ 9223372036854775807) (hA : RowL lo nx g 1 A n (l.map u8V)) (hc : n ≤ c) : NodeIs lo nx g (nodeV t A n c none 0 0) ⟨t, l, .nil⟩ :=
  ⟨A, n, c, none, 0, 0, [], rfl, ⟨ht, hA, hc, .nil, Nat.le_refl _, rfl, rfl⟩⟩
def bigB : List UInt8 → List UInt8
  | [] => [0]
  | x :: t => if 128 ≤ x.toNat then 0 :: x :: t else x :: t
def big (l : List UInt8) : Fo.El := ⟨2, bigB (bare l), .nil⟩
theorem bigB_len (l : List UInt8) : (bigB l).length ≤ l.length + 1 := by
  cases l with
  | nil => simp [bigB]
  | cons x t => simp only [bigB]; split <;> simp
section
variable {nx : Nat} {gt : Nat → Option Blk}
theorem end_nd {b nx : Nat} {gt : Nat → Option Blk} {f : Regs} {i x' q : Nat} {g' : Nat → Option Blk} {y : Fo.El} {t : Int} {B : Option Addr} {m d : Nat} {A : Option Addr} {n c : Nat} {ro : Bool} (h8 : f i = .pointer (some ⟨q, 0, none⟩)) (hg : g' q = some (.cells (nodeL t B m d A n c) ro))
    (h1 : nx ≤ x') (h2 : ∀ n, n < nx → g' n = gt n) (h3 : NodeIs nx x' g' (nodeV t B m d A n c) y) : endK [.cN i 3] b nx gt (fun v x g => NodeIs nx x g v y) .ret f ⟨x', b, g'⟩ :=
  end_cN _ h8 hg rfl ⟨rfl, h1, h2, h3⟩
theorem ct_Big {A : Option Addr} {n c : Nat} {l : List UInt8} (hA : Row nx gt 1 A n (l.map u8V)) (hc : n ≤ c) (hn : n ≤ 1000000000) :
    Ct Tryd.prog 44 [.slice A n c] nx gt fun v x g => NodeIs nx x g v (big l) := by
  have hl : l.length = n := by simpa using hA.len
  have hbl := bare_len l
  refine Ct.of hmx r_scalar_Big (by simp [c_scalar_Big]) fun b hb => ?_
  have hF : ∀ q, q < nx → upd gt nx (some (.cells [Value.int .i64 0, .slice none 0 0, .slice none 0 0] false)) q = gt q := fun q hq => by simp only [upd_e]; rw [if_neg (by omega)]
  have hb0 : upd gt nx (some (.cells [Value.int .i64 0, .slice none 0 0, .slice none 0 0] false)) nx = some (.cells [Value.int .i64 0, .slice none 0 0, .slice none 0 0] false) := by simp only [upd_e, if_true]
  simp only [c_scalar_Big, ↓gaH, gaP, simprocAttr, gaF, fillL, splice, gaU]
  generalize upd gt nx (some (.cells [Value.int .i64 0, .slice none 0 0, .slice none 0 0] false)) = g0 at *
  refine callK_of (ct_Trim (hA.keep (nx' := nx + 1) (by omega) hF) hc hn) (fun v x1 g1 l1 k1 hC => ?_) (by omega)
  obtain ⟨A1, n1, c1, rfl, hc1, hl1, r1⟩ := hC
  have F1 : ∀ p, p < nx → g1 p = gt p := fun p hp => by rw [k1 p (by omega), hF p hp]
  have hb1 : g1 nx = some (.cells [Value.int .i64 0, .slice none 0 0, .slice none 0 0] false) := by rw [k1 nx (by omega), hb0]
  unfold big
  have ext : ∀ (g : Nat → Option Blk) (cs : List Value), (∀ p, p ≠ nx → upd g nx (some (.cells cs false)) p = g p) := fun g cs p hp => by simp only [upd_e]; rw [if_neg hp]
  have hZ : ∀ p, p < x1 → upd g1 x1 (some (.cells [Value.int .u8 0] false)) p = g1 p := fun p hp => by simp only [upd_e]; rw [if_neg (by omega)]
  have hz : upd g1 x1 (some (.cells [Value.int .u8 0] false)) x1 = some (.cells [Value.int .u8 0] false) := by simp only [upd_e, if_true]
  cases hbq : bare l with
  | nil =>
    rw [hbq] at hl1 r1
    have hn1 : n1 = 0 := by rw [← hl1]; rfl
    subst hn1
    have hn0 : ((0 : Nat) : Int) = 0 := rfl
    simp only [↓gaH, gaP, simprocAttr, gaF, fillL, splice, hn0, decide_true]
    generalize upd g1 x1 (some (.cells [Value.int .u8 0] false)) = g2 at *
    have e1 : rowOf ⟨x1 + 1, b, g2⟩ A1 0 = some ((([] : List UInt8)).map u8V) := (r1.keep (nx' := x1 + 1) (gt' := g2) (by omega) hZ).rowOf
    rw [e1]
    simp only [asO_e]
    refine app_litN (bytes := 1) (z := x1) (n := 1) (e := 1) (by omega) hz rfl (by omega) (by rfl) (all_u8 _) (by omega) (by omega) fun A6 x6 g6 l6 k6 r6 => ?_
    rw [Nat.mul_one] at r6
    have hb6 : g6 nx = some (.cells [Value.int .i64 0, .slice none 0 0, .slice none 0 0] false) := by rw [k6 nx (by omega), hZ nx (by omega), hb1]
    simp only [↓gaH, gaP, simprocAttr, gaF, fillL, splice, hb6]
    refine And.intro (by omega) (And.intro (node_cells _ _ _ _ _ _ _) ?_)
    refine end_nd (q := nx) (t := 2) (B := A6) (m := 1 + 0) (d := 1 + 0) (A := none) (n := 0) (c := 0) (ro := false) (by simp only [↓gaH, gaP, simprocAttr]; try rfl) (by simp only [upd_e, if_true]) (by omega) (fun p hp => by rw [ext _ _ p (by omega), k6 p (by omega), hZ p (by omega), F1 p hp]) ?_
    have r7 : RowL x1 x6 g6 1 A6 (1 + 0) (([0] : List UInt8).map u8V) := r6
    exact NodeIs.leaf (by omega) ((r7.keep (Nat.le_refl _) fun p hp _ => ext _ _ p (by omega)).wid (by omega)) (Nat.le_refl _)
  | cons x t =>
    rw [hbq] at hl1 r1 hbl
    simp only [List.length_cons] at hl1 hbl
    have hn0 : ¬ (n1 : Int) = 0 := by omega
    obtain ⟨a, cl, ro, rfl, r2, r3, r4, r5⟩ := r1.cells (by omega)
    have c0 : cl.getD a.off undef = .int .u8 (x.toNat : Nat) := by
      have := r5 0 (by omega)
      rw [Nat.add_zero] at this
      rw [this]; rfl
    by_cases hx : (128 : Int) ≤ ((x.toNat : Nat) : Int)
    · simp only [↓gaH, gaP, simprocAttr, gaF, fillL, splice, hn0, decide_false, r3, c0, hx, decide_true]
      repeat refine And.intro (by omega) ?_
      generalize upd g1 x1 (some (.cells [Value.int .u8 0] false)) = g2 at *
      have e1 : rowOf ⟨x1 + 1, b, g2⟩ (some a) n1 = some ((x :: t).map u8V) := (r1.keep (nx' := x1 + 1) (gt' := g2) (by omega) hZ).rowOf
      rw [e1]
      simp only [asO_e]
      refine app_litN (bytes := 1) (z := x1) (n := 1) (e := 1) (by omega) hz rfl (by omega) (by simp; omega) (all_u8 _) (by omega) (by omega) fun A6 x6 g6 l6 k6 r6 => ?_
      rw [Nat.mul_one] at r6
      have hb6 : g6 nx = some (.cells [Value.int .i64 0, .slice none 0 0, .slice none 0 0] false) := by rw [k6 nx (by omega), hZ nx (by omega), hb1]
      simp only [↓gaH, gaP, simprocAttr, gaF, fillL, splice, hb6]
      refine And.intro (by omega) (And.intro (node_cells _ _ _ _ _ _ _) ?_)
      refine end_nd (q := nx) (t := 2) (B := A6) (m := 1 + n1) (d := 1 + n1) (A := none) (n := 0) (c := 0) (ro := false) (by simp only [↓gaH, gaP, simprocAttr]; try rfl) (by simp only [upd_e, if_true]) (by omega) (fun p hp => by rw [ext _ _ p (by omega), k6 p (by omega), hZ p (by omega), F1 p hp]) ?_
      have r7 : RowL x1 x6 g6 1 A6 (1 + n1) ((0 :: x :: t).map u8V) := r6
      have e2 : bigB (x :: t) = 0 :: x :: t := if_pos (by omega)
      rw [e2]
      exact NodeIs.leaf (by omega) ((r7.keep (Nat.le_refl _) fun p hp _ => ext _ _ p (by omega)).wid (by omega)) (Nat.le_refl _)
    · simp only [↓gaH, gaP, simprocAttr, gaF, fillL, splice, hn0, decide_false, r3, c0, hx]
      repeat refine And.intro (by omega) ?_
      refine callK_of (ct_Clone r1 hc1 (by omega)) (fun v x2 g2 l2 k2 hC => ?_) (by omega)
      obtain ⟨A2, n2, c2, rfl, hc2, hl2, r2⟩ := hC
      have hb2 : g2 nx = some (.cells [Value.int .i64 0, .slice none 0 0, .slice none 0 0] false) := by rw [k2 nx (by omega), hb1]
      have e2 : bigB (x :: t) = x :: t := if_neg (by omega)
      rw [e2]
      simp only [↓gaH, gaP, simprocAttr, gaF, fillL, splice, hb2]
      refine And.intro (by omega) (And.intro (node_cells _ _ _ _ _ _ _) ?_)
      refine end_nd (q := nx) (t := 2) (B := A2) (m := n2) (d := c2) (A := none) (n := 0) (c := 0) (ro := false) (by simp only [↓gaH, gaP, simprocAttr]; try rfl) (by simp only [upd_e, if_true]) (by omega) (fun p hp => by rw [ext _ _ p (by omega), k2 p (by omega), F1 p hp]) ?_
      exact NodeIs.leaf (by omega) ((r2.keep (Nat.le_refl _) fun p hp _ => ext _ _ p (by omega)).wid (by omega)) hc2
end
end Go.Ga

namespace Go.Ga
open Go Go.Proofs
set_option maxRecDepth 100000
attribute [local irreducible] appendK
section
variable {nx : Nat} {gt : Nat → Option Blk}
theorem ct_rBig {A : Option Addr} {n c : Nat} {l : List UInt8} (hA : Row nx gt 1 A n (l.map u8V)) (hc : n ≤ c) (hn : n ≤ 1000000000) :
    Ct Tryd.prog 49 [.slice A n c] nx gt fun v x g => NodeIs nx x g v (big l) := by
  have hl : l.length = n := by simpa using hA.len
  have hbl := bare_len l
  refine Ct.of hmx r_lanyardref05_Big (by simp [c_lanyardref05_Big]) fun b hb => ?_
  have hF : ∀ q, q < nx → upd gt nx (some (.cells [Value.int .i64 0, .slice none 0 0, .slice none 0 0] false)) q = gt q := fun q hq => by simp only [upd_e]; rw [if_neg (by omega)]
  have hb0 : upd gt nx (some (.cells [Value.int .i64 0, .slice none 0 0, .slice none 0 0] false)) nx = some (.cells [Value.int .i64 0, .slice none 0 0, .slice none 0 0] false) := by simp only [upd_e, if_true]
  simp only [c_lanyardref05_Big, ↓gaH, gaP, simprocAttr, gaF, fillL, splice, gaU]
  generalize upd gt nx (some (.cells [Value.int .i64 0, .slice none 0 0, .slice none 0 0] false)) = g0 at *
  refine callK_of (ct_rBare (hA.keep (nx' := nx + 1) (by omega) hF) hc hn) (fun v x1 g1 l1 k1 hC => ?_) (by omega)
  obtain ⟨A1, n1, c1, rfl, hc1, hl1, r1L⟩ := hC
  have r1 := r1L.1
  have F1 : ∀ p, p < nx → g1 p = gt p := fun p hp => by rw [k1 p (by omega), hF p hp]
  have hb1 : g1 nx = some (.cells [Value.int .i64 0, .slice none 0 0, .slice none 0 0] false) := by rw [k1 nx (by omega), hb0]
  unfold big
  have ext : ∀ (g : Nat → Option Blk) (cs : List Value), (∀ p, p ≠ nx → upd g nx (some (.cells cs false)) p = g p) := fun g cs p hp => by simp only [upd_e]; rw [if_neg hp]
  have hZ : ∀ p, p < x1 → upd g1 x1 (some (.cells [Value.int .u8 0] false)) p = g1 p := fun p hp => by simp only [upd_e]; rw [if_neg (by omega)]
  have hz : upd g1 x1 (some (.cells [Value.int .u8 0] false)) x1 = some (.cells [Value.int .u8 0] false) := by simp only [upd_e, if_true]
  cases hbq : bare l with
  | nil =>
    rw [hbq] at hl1 r1
    have hn1 : n1 = 0 := by rw [← hl1]; rfl
    subst hn1
    have hn0 : ((0 : Nat) : Int) = 0 := rfl
    simp only [↓gaH, gaP, simprocAttr, gaF, fillL, splice, hn0, decide_true]
    generalize upd g1 x1 (some (.cells [Value.int .u8 0] false)) = g2 at *
    have e1 : rowOf ⟨x1 + 1, b, g2⟩ A1 0 = some ((([] : List UInt8)).map u8V) := (r1.keep (nx' := x1 + 1) (gt' := g2) (by omega) hZ).rowOf
    rw [e1]
    simp only [asO_e]
    refine app_litN (bytes := 1) (z := x1) (n := 1) (e := 1) (by omega) hz rfl (by omega) (by rfl) (all_u8 _) (by omega) (by omega) fun A6 x6 g6 l6 k6 r6 => ?_
    rw [Nat.mul_one] at r6
    have hb6 : g6 nx = some (.cells [Value.int .i64 0, .slice none 0 0, .slice none 0 0] false) := by rw [k6 nx (by omega), hZ nx (by omega), hb1]
    simp only [↓gaH, gaP, simprocAttr, gaF, fillL, splice, hb6]
    refine And.intro (by omega) (And.intro (node_cells _ _ _ _ _ _ _) ?_)
    refine end_nd (q := nx) (t := 2) (B := A6) (m := 1 + 0) (d := 1 + 0) (A := none) (n := 0) (c := 0) (ro := false) (by simp only [↓gaH, gaP, simprocAttr]; try rfl) (by simp only [upd_e, if_true]) (by omega) (fun p hp => by rw [ext _ _ p (by omega), k6 p (by omega), hZ p (by omega), F1 p hp]) ?_
    have r7 : RowL x1 x6 g6 1 A6 (1 + 0) (([0] : List UInt8).map u8V) := r6
    exact NodeIs.leaf (by omega) ((r7.keep (Nat.le_refl _) fun p hp _ => ext _ _ p (by omega)).wid (by omega)) (Nat.le_refl _)
  | cons x t =>
    rw [hbq] at hl1 r1 r1L hbl
    simp only [List.length_cons] at hl1 hbl
    have hn0 : ¬ (n1 : Int) = 0 := by omega
    obtain ⟨a, cl, ro, rfl, r2, r3, r4, r5⟩ := r1.cells (by omega)
    have c0 : cl.getD a.off undef = .int .u8 (x.toNat : Nat) := by
      have := r5 0 (by omega)
      rw [Nat.add_zero] at this
      rw [this]; rfl
    by_cases hx : (128 : Int) ≤ ((x.toNat : Nat) : Int)
    · simp only [↓gaH, gaP, simprocAttr, gaF, fillL, splice, hn0, decide_false, r3, c0, hx, decide_true]
      repeat refine And.intro (by omega) ?_
      generalize upd g1 x1 (some (.cells [Value.int .u8 0] false)) = g2 at *
      have e1 : rowOf ⟨x1 + 1, b, g2⟩ (some a) n1 = some ((x :: t).map u8V) := (r1.keep (nx' := x1 + 1) (gt' := g2) (by omega) hZ).rowOf
      rw [e1]
      simp only [asO_e]
      refine app_litN (bytes := 1) (z := x1) (n := 1) (e := 1) (by omega) hz rfl (by omega) (by simp; omega) (all_u8 _) (by omega) (by omega) fun A6 x6 g6 l6 k6 r6 => ?_
      rw [Nat.mul_one] at r6
      have hb6 : g6 nx = some (.cells [Value.int .i64 0, .slice none 0 0, .slice none 0 0] false) := by rw [k6 nx (by omega), hZ nx (by omega), hb1]
      simp only [↓gaH, gaP, simprocAttr, gaF, fillL, splice, hb6]
      refine And.intro (by omega) (And.intro (node_cells _ _ _ _ _ _ _) ?_)
      refine end_nd (q := nx) (t := 2) (B := A6) (m := 1 + n1) (d := 1 + n1) (A := none) (n := 0) (c := 0) (ro := false) (by simp only [↓gaH, gaP, simprocAttr]; try rfl) (by simp only [upd_e, if_true]) (by omega) (fun p hp => by rw [ext _ _ p (by omega), k6 p (by omega), hZ p (by omega), F1 p hp]) ?_
      have r7 : RowL x1 x6 g6 1 A6 (1 + n1) ((0 :: x :: t).map u8V) := r6
      have e2 : bigB (x :: t) = 0 :: x :: t := if_pos (by omega)
      rw [e2]
      exact NodeIs.leaf (by omega) ((r7.keep (Nat.le_refl _) fun p hp _ => ext _ _ p (by omega)).wid (by omega)) (Nat.le_refl _)
    · simp only [↓gaH, gaP, simprocAttr, gaF, fillL, splice, hn0, decide_false, r3, c0, hx, hb1]
      repeat refine And.intro (by omega) ?_
      have e2 : bigB (x :: t) = x :: t := if_neg (by omega)
      rw [e2]
      refine And.intro (node_cells _ _ _ _ _ _ _) ?_
      refine end_nd (q := nx) (t := 2) (B := some a) (m := n1) (d := c1) (A := none) (n := 0) (c := 0) (ro := false) (by simp only [↓gaH, gaP, simprocAttr]; try rfl) (by simp only [upd_e, if_true]) (by omega) (fun p hp => by rw [ext _ _ p (by omega), F1 p hp]) ?_
      exact NodeIs.leaf (by omega) ((r1L.keep (Nat.le_refl _) fun p hp _ => ext _ _ p (by omega)).wid (by omega)) hc1
def alike (x y : Fo.El) : Prop := x.t = y.t ∧ x.b = y.b ∧ x.k = .nil ∧ y.k = .nil
theorem ct_same {x y : Fo.El} {B : Option Addr} {m d : Nat} {A : Option Addr} {n c : Nat} {ks : List Value} {B2 : Option Addr} {m2 d2 : Nat} {A2 : Option Addr} {n2 c2 : Nat} {ks2 : List Value} (h : NdR nx gt x B m d A n c ks) (hz : NdR nx gt y B2 m2 d2 A2 n2 c2 ks2) (hx : x.f.ws < 1000000000) (hy : y.f.ws < 1000000000) :
    Ct Tryd.prog 84 [nodeV x.t B m d A n c, nodeV y.t B2 m2 d2 A2 n2 c2] nx gt fun v _ _ => ∃ r, v = .bool r ∧ (r = true ↔ alike x y) := by
  refine Ct.of hmx r_scalar_same (by simp [c_scalar_same]) fun b hb => ?_
  have lw := Fo.len_ws x.k
  have lw2 := Fo.len_ws y.k
  have xw : x.f.ws = 1 + x.b.length + x.k.ws := by simp only [Fo.El.f, Fo.ws]; omega
  have yw : y.f.ws = 1 + y.b.length + y.k.ws := by simp only [Fo.El.f, Fo.ws]; omega
  have hkl := h.len
  have hkz := hz.len
  have hnn : (nx = nx + 1) = False := by simp
  have hF : ∀ q, q < nx → upd (upd gt nx (some (.cells (nodeL x.t B m d A n c) false))) (nx + 1) (some (.cells (nodeL y.t B2 m2 d2 A2 n2 c2) false)) q = gt q := fun q hq => by simp only [upd_e]; rw [if_neg (by omega), if_neg (by omega)]
  have hb0 : upd (upd gt nx (some (.cells (nodeL x.t B m d A n c) false))) (nx + 1) (some (.cells (nodeL y.t B2 m2 d2 A2 n2 c2) false)) nx = some (.cells (nodeL x.t B m d A n c) false) := by simp only [upd_e, if_true]; rw [if_neg (by omega)]
  have hb1 : upd (upd gt nx (some (.cells (nodeL x.t B m d A n c) false))) (nx + 1) (some (.cells (nodeL y.t B2 m2 d2 A2 n2 c2) false)) (nx + 1) = some (.cells (nodeL y.t B2 m2 d2 A2 n2 c2) false) := by simp only [upd_e, if_true]
  have h0 := h.keep (x' := nx + 1 + 1) (by omega) hF
  have hz0 := hz.keep (x' := nx + 1 + 1) (by omega) hF
  simp only [c_scalar_same, ↓gaH, gaP, simprocAttr, gaF, fillL, splice, gaU, hnn]
  by_cases ht : x.t = y.t
  case neg =>
    simp only [↓gaH, gaP, simprocAttr, gaE, implies_true, Nat.le_refl, Int.sub_zero, Nat.sub_zero, Int.le_refl, true_or, or_true, ht, decide_false]
    repeat refine And.intro (by omega) ?_
    refine ⟨hF, false, rfl, ?_⟩
    simp only [Bool.false_eq_true, false_iff]
    exact fun h => ht h.1
  generalize upd (upd gt nx (some (.cells (nodeL x.t B m d A n c) false))) (nx + 1) (some (.cells (nodeL y.t B2 m2 d2 A2 n2 c2) false)) = g0 at *
  simp only [↓gaH, gaP, simprocAttr, ht, decide_true, hb0, hb1, nodeL, List.getD_cons_succ, List.getD_cons_zero]
  repeat refine And.intro (by omega) ?_
  refine callK_of (ct_Equal h0.body hz0.body) (fun v x1 g1 l1 k1 hC => ?_) (by omega)
  subst hC
  have hb2 : g1 nx = some (.cells (nodeL x.t B m d A n c) false) := by rw [k1 nx (by omega), hb0]
  have hb3 : g1 (nx + 1) = some (.cells (nodeL y.t B2 m2 d2 A2 n2 c2) false) := by rw [k1 (nx + 1) (by omega), hb1]
  have F1 : ∀ p, p < nx → g1 p = gt p := fun p hp => by rw [k1 p (by omega), hF p hp]
  by_cases hbq : x.b = y.b
  case neg =>
    have e3 : (x.b == y.b) = false := by simpa using hbq
    simp only [↓gaH, gaP, simprocAttr, gaE, implies_true, Nat.le_refl, Int.sub_zero, Nat.sub_zero, Int.le_refl, true_or, or_true, e3]
    refine ⟨by omega, F1, false, rfl, ?_⟩
    simp only [Bool.false_eq_true, false_iff]
    exact fun h => hbq h.2.1
  have e3 : (x.b == y.b) = true := by simpa using hbq
  have i1 : IntKind.i64.wrap ((n : Int) + (n2 : Int)) = ((n + n2 : Nat) : Int) := by rw [i64_w _ (by omega)]; omega
  simp only [↓gaH, gaP, simprocAttr, gaE, implies_true, Nat.le_refl, Int.sub_zero, Nat.sub_zero, Int.le_refl, true_or, or_true, e3, hb2, hb3, nodeL, List.getD_cons_succ, List.getD_cons_zero, i1]
  repeat refine And.intro (by omega) ?_
  refine ⟨_, rfl, ?_⟩
  rw [decide_eq_true_iff]
  constructor
  · intro h
    exact ⟨ht, hbq, len_nil.1 (by omega), len_nil.1 (by omega)⟩
  · rintro ⟨_, _, h1, h2⟩
    rw [h1] at hkl
    rw [h2] at hkz
    simp only [Fo.len] at hkl hkz
    omega
end
end Go.Ga

namespace Go.Ga
open Go Go.Proofs
set_option maxRecDepth 100000
attribute [local irreducible] appendK
def intE (n : Nat) (y : Fo.El) : Prop := ∃ k, isLeast n k ∧ y = big (be k n)
theorem intE_one {n : Nat} {y z : Fo.El} (h : intE n y) (h' : intE n z) : y = z := by
  obtain ⟨k, h1, rfl⟩ := h
  obtain ⟨j, h2, rfl⟩ := h'
  rw [isLeast_one h1 h2]
theorem big_ws (l : List UInt8) : (big l).f.ws ≤ l.length + 2 := by
  have h1 := bigB_len (bare l)
  have h2 := bare_len l
  show 1 + (bigB (bare l)).length + 0 + 0 ≤ _
  omega
theorem intE_ws {n : Nat} {y : Fo.El} (h : intE n y) : y.f.ws ≤ 10 := by
  obtain ⟨k, ⟨h1, h2, _⟩, rfl⟩ := h
  have := big_ws (be k n)
  rw [be_length] at this
  omega
def NErr (lo nx : Nat) (g : Nat → Option Blk) (v : Value) : Except Nat Fo.El → Prop
  | .error e => v = .tuple #[nodeV 0 none 0 0 none 0 0, .int .i64 (e : Nat)] ∧ e ≠ 0
  | .ok y => ∃ u, v = .tuple #[u, .int .i64 0] ∧ NodeIs lo nx g u y
section
variable {nx : Nat} {gt : Nat → Option Blk}
theorem ct_Int {n : Nat} (hn : n < 18446744073709551616) : Ct Tryd.prog 21 [.int .u64 (n : Nat)] nx gt fun v x g => ∃ y, intE n y ∧ NodeIs nx x g v y := by
  refine Ct.of hmx r_scalar_Int (by simp [c_scalar_Int]) fun b hb => ?_
  have hF : ∀ q, q < nx → upd gt nx (some (.cells [Value.int .i64 0, .slice none 0 0, .slice none 0 0] false)) q = gt q := fun q hq => by simp only [upd_e]; rw [if_neg (by omega)]
  have hb0 : upd gt nx (some (.cells [Value.int .i64 0, .slice none 0 0, .slice none 0 0] false)) nx = some (.cells [Value.int .i64 0, .slice none 0 0, .slice none 0 0] false) := by simp only [upd_e, if_true]
  simp only [c_scalar_Int, ↓gaH, gaP, simprocAttr, gaF, fillL, splice, gaU]
  generalize upd gt nx (some (.cells [Value.int .i64 0, .slice none 0 0, .slice none 0 0] false)) = g0 at *
  refine callK_of (ct_Least hn) (fun v x1 g1 l1 k1 hC => ?_) (by omega)
  obtain ⟨k, hk, A1, n1, c1, rfl, hc1, hl1, r1⟩ := hC
  have hk8 := hk.2.1
  rw [be_length] at hl1
  have F1 : ∀ p, p < nx → g1 p = gt p := fun p hp => by rw [k1 p (by omega), hF p hp]
  have hb1 : g1 nx = some (.cells [Value.int .i64 0, .slice none 0 0, .slice none 0 0] false) := by rw [k1 nx (by omega), hb0]
  simp only [↓gaH, gaP, simprocAttr, gaF, fillL, splice]
  refine callK_of (ct_Big r1 hc1 (by omega)) (fun v x2 g2 l2 k2 hC => ?_) (by omega)
  obtain ⟨B, m, d, A, n', c, ks, rfl, hN⟩ := hC
  have F2 : ∀ p, p < nx → g2 p = gt p := fun p hp => by rw [k2 p (by omega), F1 p hp]
  have hb2 : g2 nx = some (.cells [Value.int .i64 0, .slice none 0 0, .slice none 0 0] false) := by rw [k2 nx (by omega), hb1]
  have ext : ∀ (cs : List Value), (∀ p, p ≠ nx → upd g2 nx (some (.cells cs false)) p = g2 p) := fun cs p hp => by simp only [upd_e]; rw [if_neg hp]
  simp only [↓gaH, gaP, simprocAttr, gaF, fillL, splice, hb2]
  refine And.intro (by omega) (And.intro (node_cells _ _ _ _ _ _ _) ?_)
  refine end_cN (nodeL _ _ _ _ _ _ _) (ro := false) (by simp only [↓gaH, gaP, simprocAttr]; try rfl) (by simp only [upd_e, if_true]) rfl ⟨rfl, by omega, fun p hp => by rw [ext _ p (by omega), F2 p hp], big (be k n), ⟨k, hk, rfl⟩, ⟨B, m, d, A, n', c, ks, rfl, (hN.keep (Nat.le_refl _) fun p hp _ => ext _ p (by omega)).wid (by omega)⟩⟩
theorem ct_rInt {n : Nat} (hn : n < 18446744073709551616) : Ct Tryd.prog 26 [.int .u64 (n : Nat)] nx gt fun v x g => ∃ y, intE n y ∧ NodeIs nx x g v y := by
  refine Ct.of hmx r_lanyardref05_Int (by simp [c_lanyardref05_Int]) fun b hb => ?_
  have hF : ∀ q, q < nx → upd gt nx (some (.cells [Value.int .i64 0, .slice none 0 0, .slice none 0 0] false)) q = gt q := fun q hq => by simp only [upd_e]; rw [if_neg (by omega)]
  have hb0 : upd gt nx (some (.cells [Value.int .i64 0, .slice none 0 0, .slice none 0 0] false)) nx = some (.cells [Value.int .i64 0, .slice none 0 0, .slice none 0 0] false) := by simp only [upd_e, if_true]
  simp only [c_lanyardref05_Int, ↓gaH, gaP, simprocAttr, gaF, fillL, splice, gaU]
  generalize upd gt nx (some (.cells [Value.int .i64 0, .slice none 0 0, .slice none 0 0] false)) = g0 at *
  refine callK_of (ct_rLeast hn) (fun v x1 g1 l1 k1 hC => ?_) (by omega)
  obtain ⟨k, hk, A1, n1, c1, rfl, hc1, hl1, r1⟩ := hC
  have hk8 := hk.2.1
  rw [be_length] at hl1
  have F1 : ∀ p, p < nx → g1 p = gt p := fun p hp => by rw [k1 p (by omega), hF p hp]
  have hb1 : g1 nx = some (.cells [Value.int .i64 0, .slice none 0 0, .slice none 0 0] false) := by rw [k1 nx (by omega), hb0]
  simp only [↓gaH, gaP, simprocAttr, gaF, fillL, splice]
  refine callK_of (ct_rBig r1 hc1 (by omega)) (fun v x2 g2 l2 k2 hC => ?_) (by omega)
  obtain ⟨B, m, d, A, n', c, ks, rfl, hN⟩ := hC
  have F2 : ∀ p, p < nx → g2 p = gt p := fun p hp => by rw [k2 p (by omega), F1 p hp]
  have hb2 : g2 nx = some (.cells [Value.int .i64 0, .slice none 0 0, .slice none 0 0] false) := by rw [k2 nx (by omega), hb1]
  have ext : ∀ (cs : List Value), (∀ p, p ≠ nx → upd g2 nx (some (.cells cs false)) p = g2 p) := fun cs p hp => by simp only [upd_e]; rw [if_neg hp]
  simp only [↓gaH, gaP, simprocAttr, gaF, fillL, splice, hb2]
  refine And.intro (by omega) (And.intro (node_cells _ _ _ _ _ _ _) ?_)
  refine end_cN (nodeL _ _ _ _ _ _ _) (ro := false) (by simp only [↓gaH, gaP, simprocAttr]; try rfl) (by simp only [upd_e, if_true]) rfl ⟨rfl, by omega, fun p hp => by rw [ext _ p (by omega), F2 p hp], big (be k n), ⟨k, hk, rfl⟩, ⟨B, m, d, A, n', c, ks, rfl, (hN.keep (Nat.le_refl _) fun p hp _ => ext _ p (by omega)).wid (by omega)⟩⟩
def justP (is : Bool) (x : Fo.El) (r : Except Nat Fo.El) : Prop := is = true ∧ ∃ y, r = .ok y ∧ alike y x
theorem ct_justN {x : Fo.El} {w : Nat} {is : Bool} {clo : Nat} {caps : Array Value} {r : Except Nat Fo.El} {B : Option Addr} {m d : Nat} {A : Option Addr} {n c : Nat} {ks : List Value} (h : NdR nx gt x B m d A n c ks) (hxw : x.f.ws < 1000000000) (hyw : ∀ y, r = .ok y → y.f.ws < 1000000000)
    (hclo : ∀ (nx' : Nat) (g : Nat → Option Blk), nx ≤ nx' → (∀ p, p < nx → g p = gt p) → Ct Tryd.prog clo caps.toList nx' g fun v x g => NErr nx' x g v r) :
    Ct Tryd.prog 58 [.int .u64 (w : Nat), .bool is, nodeV x.t B m d A n c, .func (.func clo) #[] caps] nx gt fun v _ _ => ∃ b : Bool, (b = true ↔ justP is x r) ∧ v = if b then .tuple #[.int .u64 (w : Nat), .int .i64 0] else .tuple #[.int .u64 0, .int .i64 2] := by
  refine Ct.of hmx r_scalar_just_uint64_ (by simp [c_scalar_just_uint64_]) fun b hb => ?_
  have hF : ∀ q, q < nx → upd gt nx (some (.cells (nodeL x.t B m d A n c) false)) q = gt q := fun q hq => by simp only [upd_e]; rw [if_neg (by omega)]
  have hb0 : upd gt nx (some (.cells (nodeL x.t B m d A n c) false)) nx = some (.cells (nodeL x.t B m d A n c) false) := by simp only [upd_e, if_true]
  cases is with
  | false =>
    simp only [c_scalar_just_uint64_, ↓gaH, gaP, simprocAttr, gaE, implies_true, Nat.le_refl, Int.sub_zero, Nat.sub_zero, Int.le_refl, true_or, or_true, gaF, fillL, splice, gaU, Bool.not_false]
    exact ⟨by omega, hF, false, by simp [justP], rfl⟩
  | true =>
    simp only [c_scalar_just_uint64_, ↓gaH, gaP, simprocAttr, gaF, fillL, splice, gaU, Bool.not_true]
    generalize upd gt nx (some (.cells (nodeL x.t B m d A n c) false)) = g0 at *
    refine callK_of (hclo (nx + 1) g0 (by omega) hF) (fun v x1 g1 l1 k1 hC => ?_) (by omega)
    have F1 : ∀ p, p < nx → g1 p = gt p := fun p hp => by rw [k1 p (by omega), hF p hp]
    have hb1 : g1 nx = some (.cells (nodeL x.t B m d A n c) false) := by rw [k1 nx (by omega), hb0]
    have hnx1 : (nx = x1) = False := by simp; omega
    cases r with
    | error e =>
      obtain ⟨rfl, he⟩ := hC
      have he0 : ¬ (e : Int) = 0 := by omega
      simp only [↓gaH, gaP, simprocAttr, gaE, implies_true, Nat.le_refl, Int.sub_zero, Nat.sub_zero, Int.le_refl, true_or, or_true, gaF, fillL, splice, gaU, he0, decide_false, Bool.not_false]
      repeat refine And.intro (by omega) ?_
      refine And.intro (node_cells _ _ _ _ _ _ _) ?_
      refine ⟨by omega, fun p hp => by rw [if_neg (by omega), if_neg (by omega), F1 p hp], false, by simp [justP], rfl⟩
    | ok y =>
      obtain ⟨u, rfl, B', m', d', A', n', c', ks', rfl, hN⟩ := hC
      obtain ⟨g2, e2⟩ : ∃ g', g' = upd (upd g1 x1 (some (.cells [Value.int .i64 0, .slice none 0 0, .slice none 0 0] false))) x1 (some (.cells (nodeL y.t B' m' d' A' n' c') false)) := ⟨_, rfl⟩
      have G2 : ∀ p, p < x1 → g2 p = g1 p := fun p hp => by rw [e2]; simp only [upd_e]; rw [if_neg (by omega), if_neg (by omega)]
      have hb2 : g2 nx = some (.cells (nodeL x.t B m d A n c) false) := by rw [G2 nx (by omega), hb1]
      have hy := hyw y rfl
      simp only [↓gaH, gaP, simprocAttr, gaF, fillL, splice, gaU, hnx1, hb1, decide_true, decide_false, Bool.not_true]
      repeat refine And.intro (by omega) ?_
      refine And.intro (node_cells _ _ _ _ _ _ _) ?_
      repeat refine And.intro (by omega) ?_
      rw [← e2]; clear e2
      refine callK_of (ct_same (hN.r.keep (x' := x1 + 1) (by omega) G2) (h.keep (x' := x1 + 1) (by omega) fun p hp => by rw [G2 p (by omega), F1 p hp]) hy hxw) (fun v x3 g3 l3 k3 hC => ?_) (by omega)
      obtain ⟨s, rfl, hs⟩ := hC
      have F3 : ∀ p, p < nx → g3 p = gt p := fun p hp => by rw [k3 p (by omega), G2 p (by omega), F1 p hp]
      cases s with
      | false =>
        simp only [↓gaH, gaP, simprocAttr, gaE, implies_true, Nat.le_refl, Int.sub_zero, Nat.sub_zero, Int.le_refl, true_or, or_true, gaF, fillL, splice, Bool.not_false]
        refine ⟨by omega, F3, false, ?_, rfl⟩
        simp only [Bool.false_eq_true, false_iff] at hs ⊢
        rintro ⟨_, z, hz, hal⟩
        injection hz with hz; subst hz
        exact hs hal
      | true =>
        simp only [↓gaH, gaP, simprocAttr, gaE, implies_true, Nat.le_refl, Int.sub_zero, Nat.sub_zero, Int.le_refl, true_or, or_true, gaF, fillL, splice, Bool.not_true]
        exact ⟨by omega, F3, true, by simp only [true_iff]; exact ⟨rfl, y, rfl, hs.1 rfl⟩, rfl⟩
theorem ct_justB {x : Fo.El} {u : Value} {is : Bool} {clo : Nat} {caps : Array Value} {r : Except Nat Fo.El} {B : Option Addr} {m d : Nat} {A : Option Addr} {n c : Nat} {ks : List Value} (h : NdR nx gt x B m d A n c ks) (hxw : x.f.ws < 1000000000) (hyw : ∀ y, r = .ok y → y.f.ws < 1000000000)
    (hclo : ∀ (nx' : Nat) (g : Nat → Option Blk), nx ≤ nx' → (∀ p, p < nx → g p = gt p) → Ct Tryd.prog clo caps.toList nx' g fun v x g => NErr nx' x g v r) :
    Ct Tryd.prog 87 [u, .bool is, nodeV x.t B m d A n c, .func (.func clo) #[] caps] nx gt fun v _ _ => ∃ b : Bool, (b = true ↔ justP is x r) ∧ v = if b then .tuple #[u, .int .i64 0] else .tuple #[.slice none 0 0, .int .i64 2] := by
  refine Ct.of hmx r_scalar_just___byte_ (by simp [c_scalar_just___byte_]) fun b hb => ?_
  have hF : ∀ q, q < nx → upd gt nx (some (.cells (nodeL x.t B m d A n c) false)) q = gt q := fun q hq => by simp only [upd_e]; rw [if_neg (by omega)]
  have hb0 : upd gt nx (some (.cells (nodeL x.t B m d A n c) false)) nx = some (.cells (nodeL x.t B m d A n c) false) := by simp only [upd_e, if_true]
  cases is with
  | false =>
    simp only [c_scalar_just___byte_, ↓gaH, gaP, simprocAttr, gaE, implies_true, Nat.le_refl, Int.sub_zero, Nat.sub_zero, Int.le_refl, true_or, or_true, gaF, fillL, splice, gaU, Bool.not_false]
    exact ⟨by omega, hF, false, by simp [justP], rfl⟩
  | true =>
    simp only [c_scalar_just___byte_, ↓gaH, gaP, simprocAttr, gaF, fillL, splice, gaU, Bool.not_true]
    generalize upd gt nx (some (.cells (nodeL x.t B m d A n c) false)) = g0 at *
    refine callK_of (hclo (nx + 1) g0 (by omega) hF) (fun v x1 g1 l1 k1 hC => ?_) (by omega)
    have F1 : ∀ p, p < nx → g1 p = gt p := fun p hp => by rw [k1 p (by omega), hF p hp]
    have hb1 : g1 nx = some (.cells (nodeL x.t B m d A n c) false) := by rw [k1 nx (by omega), hb0]
    have hnx1 : (nx = x1) = False := by simp; omega
    cases r with
    | error e =>
      obtain ⟨rfl, he⟩ := hC
      have he0 : ¬ (e : Int) = 0 := by omega
      simp only [↓gaH, gaP, simprocAttr, gaE, implies_true, Nat.le_refl, Int.sub_zero, Nat.sub_zero, Int.le_refl, true_or, or_true, gaF, fillL, splice, gaU, he0, decide_false, Bool.not_false]
      repeat refine And.intro (by omega) ?_
      refine And.intro (node_cells _ _ _ _ _ _ _) ?_
      refine ⟨by omega, fun p hp => by rw [if_neg (by omega), if_neg (by omega), F1 p hp], false, by simp [justP], rfl⟩
    | ok y =>
      obtain ⟨u, rfl, B', m', d', A', n', c', ks', rfl, hN⟩ := hC
      obtain ⟨g2, e2⟩ : ∃ g', g' = upd (upd g1 x1 (some (.cells [Value.int .i64 0, .slice none 0 0, .slice none 0 0] false))) x1 (some (.cells (nodeL y.t B' m' d' A' n' c') false)) := ⟨_, rfl⟩
      have G2 : ∀ p, p < x1 → g2 p = g1 p := fun p hp => by rw [e2]; simp only [upd_e]; rw [if_neg (by omega), if_neg (by omega)]
      have hb2 : g2 nx = some (.cells (nodeL x.t B m d A n c) false) := by rw [G2 nx (by omega), hb1]
      have hy := hyw y rfl
      simp only [↓gaH, gaP, simprocAttr, gaF, fillL, splice, gaU, hnx1, hb1, decide_true, decide_false, Bool.not_true]
      repeat refine And.intro (by omega) ?_
      refine And.intro (node_cells _ _ _ _ _ _ _) ?_
      repeat refine And.intro (by omega) ?_
      rw [← e2]; clear e2
      refine callK_of (ct_same (hN.r.keep (x' := x1 + 1) (by omega) G2) (h.keep (x' := x1 + 1) (by omega) fun p hp => by rw [G2 p (by omega), F1 p hp]) hy hxw) (fun v x3 g3 l3 k3 hC => ?_) (by omega)
      obtain ⟨s, rfl, hs⟩ := hC
      have F3 : ∀ p, p < nx → g3 p = gt p := fun p hp => by rw [k3 p (by omega), G2 p (by omega), F1 p hp]
      cases s with
      | false =>
        simp only [↓gaH, gaP, simprocAttr, gaE, implies_true, Nat.le_refl, Int.sub_zero, Nat.sub_zero, Int.le_refl, true_or, or_true, gaF, fillL, splice, Bool.not_false]
        refine ⟨by omega, F3, false, ?_, rfl⟩
        simp only [Bool.false_eq_true, false_iff] at hs ⊢
        rintro ⟨_, z, hz, hal⟩
        injection hz with hz; subst hz
        exact hs hal
      | true =>
        simp only [↓gaH, gaP, simprocAttr, gaE, implies_true, Nat.le_refl, Int.sub_zero, Nat.sub_zero, Int.le_refl, true_or, or_true, gaF, fillL, splice, Bool.not_true]
        exact ⟨by omega, F3, true, by simp only [true_iff]; exact ⟨rfl, y, rfl, hs.1 rfl⟩, rfl⟩
end
end Go.Ga

namespace Go.Ga
open Go Go.Proofs
set_option maxRecDepth 100000
attribute [local irreducible] appendK
theorem intE_ex {n : Nat} (hn : n < 18446744073709551616) : ∃ y, intE n y := by
  have key : ∀ k, k ≤ 7 → n < 256 ^ (k + 1) → ∃ j, isLeast n j := by
    intro k
    induction k with
    | zero => intro _ h; exact ⟨1, Nat.le_refl _, by omega, h, .inl rfl⟩
    | succ k ih =>
      intro hk h
      rcases Nat.lt_or_ge n (256 ^ (k + 1)) with h1 | h1
      · exact ih (by omega) h1
      · exact ⟨k + 1 + 1, by omega, by omega, h, .inr h1⟩
  have h8 : (256 : Nat) ^ (7 + 1) = 18446744073709551616 := by decide
  obtain ⟨j, hj⟩ := key 7 (Nat.le_refl _) (by rw [h8]; exact hn)
  exact ⟨_, j, hj, rfl⟩
theorem intE_k {n : Nat} {y : Fo.El} (h : intE n y) : y.k = .nil := by
  obtain ⟨k, _, rfl⟩ := h; rfl
theorem alike_eq {y x : Fo.El} (h : y.k = .nil) : alike y x ↔ x = y := by
  cases x; cases y
  simp only [alike, Fo.El.mk.injEq] at *
  constructor
  · rintro ⟨h1, h2, h3, h4⟩; exact ⟨h1.symm, h2.symm, by rw [h4, h3]⟩
  · rintro ⟨h1, h2, h3⟩; exact ⟨h1.symm, h2.symm, h, by rw [h3, h]⟩
noncomputable def uintR (x : Fo.El) : Nat × Nat := open Classical in if val x.b < 18446744073709551616 ∧ intE (val x.b) x then (val x.b, 0) else (0, 2)
noncomputable def greatR (x : Fo.El) : List UInt8 × Nat := open Classical in if x = big x.b then (bare x.b, 0) else ([], 2)
def BErr (nx : Nat) (g : Nat → Option Blk) (v : Value) (r : List UInt8 × Nat) : Prop := ∃ u, v = .tuple #[u, .int .i64 (r.2 : Nat)] ∧ BySl nx g u r.1
theorem boxed {g : Nat → Option Blk} {x : Nat} {cs ds : List Value} : ∃ g', g' = upd (upd g x (some (.cells cs false))) x (some (.cells ds false)) ∧ (∀ p, p < x → g' p = g p) ∧ g' x = some (.cells ds false) :=
  ⟨_, rfl, fun p hp => by simp only [upd_e]; rw [if_neg (by omega), if_neg (by omega)], by simp only [upd_e, if_true]⟩
section
variable {nx : Nat} {gt : Nat → Option Blk}
theorem ct_Uint1 {q n : Nat} {ro : Bool} {y : Fo.El} (hq : q < nx) (hg : gt q = some (.cells [.int .u64 (n : Nat)] ro)) (hn : n < 18446744073709551616) (hy : intE n y) : Ct Tryd.prog 59 [.pointer (some ⟨q, 0, none⟩)] nx gt fun v x g => NErr nx x g v (.ok y) := by
  refine Ct.of hmx r_scalar_Uint_1 (by simp [c_scalar_Uint_1]) fun b hb => ?_
  have hF : ∀ q, q < nx → upd gt nx (some (.cells [Value.int .i64 0, .slice none 0 0, .slice none 0 0] false)) q = gt q := fun q hq => by simp only [upd_e]; rw [if_neg (by omega)]
  have hb0 : upd gt nx (some (.cells [Value.int .i64 0, .slice none 0 0, .slice none 0 0] false)) nx = some (.cells [Value.int .i64 0, .slice none 0 0, .slice none 0 0] false) := by simp only [upd_e, if_true]
  have hqn : (q = nx) = False := by simp; omega
  simp only [c_scalar_Uint_1, ↓gaH, gaP, simprocAttr, gaF, fillL, splice, gaU, hqn, hg, List.getD_cons_zero]
  generalize upd gt nx (some (.cells [Value.int .i64 0, .slice none 0 0, .slice none 0 0] false)) = g0 at *
  repeat refine And.intro (by omega) ?_
  refine callK_of (ct_Int hn) (fun v x1 g1 l1 k1 hC => ?_) (by omega)
  obtain ⟨z, hz, B, m, d, A, n', c, ks, rfl, hN⟩ := hC
  have := intE_one hz hy
  subst this
  have F1 : ∀ p, p < nx → g1 p = gt p := fun p hp => by rw [k1 p (by omega), hF p hp]
  have hb1 : g1 nx = some (.cells [Value.int .i64 0, .slice none 0 0, .slice none 0 0] false) := by rw [k1 nx (by omega), hb0]
  simp only [↓gaH, gaP, simprocAttr, gaF, fillL, splice, hb1]
  refine And.intro (by omega) (And.intro (node_cells _ _ _ _ _ _ _) ?_)
  have ext : ∀ (cs : List Value), (∀ p, p ≠ nx → upd g1 nx (some (.cells cs false)) p = g1 p) := fun cs p hp => by simp only [upd_e]; rw [if_neg hp]
  rw [end_r, res_cN (by simp only [↓gaH, gaP, simprocAttr]; try rfl) (by simp only [upd_e, if_true]; rfl) (by simp)]
  simp only [res_t, res_nil, Option.map_some, asO_e, one2, List.drop_zero, ↓gaH, gaP, simprocAttr, gaF, fillL, splice]
  refine ⟨by omega, fun p hp => by rw [if_neg (by omega), F1 p hp], _, rfl, B, m, d, A, n', c, ks, rfl, (hN.keep (Nat.le_refl _) fun p hp _ => ext _ p (by omega)).wid (by omega)⟩
theorem ct_Uint {x : Fo.El} {B : Option Addr} {m d : Nat} {A : Option Addr} {n c : Nat} {ks : List Value} (h : NdR nx gt x B m d A n c ks) (hxw : x.f.ws < 900000) :
    Ct Tryd.prog 29 [nodeV x.t B m d A n c] nx gt fun v _ _ => v = .tuple #[.int .u64 ((uintR x).1 : Nat), .int .i64 ((uintR x).2 : Nat)] := by
  refine Ct.of hmx r_scalar_Uint (by simp [c_scalar_Uint]) fun b hb => ?_
  have hF : ∀ q, q < nx → upd gt nx (some (.cells (nodeL x.t B m d A n c) false)) q = gt q := fun q hq => by simp only [upd_e]; rw [if_neg (by omega)]
  have hb0 : upd gt nx (some (.cells (nodeL x.t B m d A n c) false)) nx = some (.cells (nodeL x.t B m d A n c) false) := by simp only [upd_e, if_true]
  have xw : x.f.ws = 1 + x.b.length + x.k.ws := by simp only [Fo.El.f, Fo.ws]; omega
  have lw := Fo.len_ws x.k
  have hl := h.blen
  have hkl := h.len
  simp only [c_scalar_Uint, ↓gaH, gaP, simprocAttr, gaF, fillL, splice, gaU]
  generalize upd gt nx (some (.cells (nodeL x.t B m d A n c) false)) = g0 at *
  repeat refine And.intro (by omega) ?_
  have h0 := h.keep (x' := nx + 1) (by omega) hF
  refine callK_of (ct_Num h0.body h.md (by omega)) (fun v x1 g1 l1 k1 hC => ?_) (by omega)
  subst hC
  have F1 : ∀ p, p < nx → g1 p = gt p := fun p hp => by rw [k1 p (by omega), hF p hp]
  have hb1 : g1 nx = some (.cells (nodeL x.t B m d A n c) false) := by rw [k1 nx (by omega), hb0]
  -- the number, and whether there is one
  obtain ⟨w, is, hv, hw, his⟩ : ∃ (w : Nat) (is : Bool), numV x.b = .tuple #[.int .u64 (w : Nat), .bool is] ∧ w < 18446744073709551616 ∧ ((is = true ∧ val x.b < 18446744073709551616 ∧ w = val x.b) ∨ (is = false ∧ ¬ val x.b < 18446744073709551616 ∧ w = 0)) := by
    unfold numV
    by_cases hv : val x.b < 18446744073709551616
    · rw [if_pos hv]; exact ⟨_, true, rfl, hv, .inl ⟨rfl, hv, rfl⟩⟩
    · rw [if_neg hv]; exact ⟨0, false, rfl, by omega, .inr ⟨rfl, hv, rfl⟩⟩
  rw [hv]
  obtain ⟨y, hy⟩ := intE_ex hw
  have hyw := intE_ws hy
  have hnx1 : (nx = x1) = False := by simp; omega
  simp only [↓gaH, gaP, simprocAttr, gaF, fillL, splice, gaU, hnx1, hb1]
  repeat refine And.intro (by omega) ?_
  refine And.intro (all1 rfl) ?_
  repeat refine And.intro (by omega) ?_
  obtain ⟨g2, e2, G2, hb2⟩ := boxed (g := g1) (x := x1) (cs := [Value.int .u64 0]) (ds := [Value.int .u64 (w : Nat)])
  rw [← e2]; clear e2
  have hN2 := h.keep (x' := x1 + 1) (g := g2) (by omega) fun p hp => by rw [G2 p (by omega), F1 p hp]
  refine callK_of (ct_justN (r := .ok y) hN2 (by omega) (fun y' hy' => by injection hy' with hy'; subst hy'; omega) (fun nx' g h1 h2 => ct_Uint1 (q := x1) (by omega) (by rw [h2 x1 (by omega), hb2]) hw hy)) (fun v x3 g3 l3 k3 hC => ?_) (by omega)
  obtain ⟨bb, hbb, rfl⟩ := hC
  have F3 : ∀ p, p < nx → g3 p = gt p := fun p hp => by rw [k3 p (by omega), G2 p (by omega), F1 p hp]
  have hj : justP is x (.ok y) ↔ (val x.b < 18446744073709551616 ∧ intE (val x.b) x) := by
    unfold justP
    constructor
    · rintro ⟨h1, z, h2, h3⟩
      injection h2 with h2; subst h2
      rcases his with ⟨_, h4, h5⟩ | ⟨h4, _⟩
      · have := (alike_eq (intE_k hy)).1 h3
        subst this
        exact ⟨h4, by rw [← h5]; exact hy⟩
      · rw [h1] at h4; cases h4
    · rintro ⟨h1, h2⟩
      rcases his with ⟨h3, h4, h5⟩ | ⟨_, h4, _⟩
      · rw [← h5] at h2
        exact ⟨h3, y, rfl, (alike_eq (intE_k hy)).2 (intE_one h2 hy)⟩
      · exact absurd h1 h4
  cases bb with
  | true =>
    have hc := hj.1 (hbb.1 rfl)
    have hw2 : w = val x.b := by
      rcases his with ⟨_, _, h5⟩ | ⟨_, h4, _⟩
      · exact h5
      · exact absurd hc.1 h4
    have e : uintR x = (val x.b, 0) := if_pos hc
    simp only [↓gaH, gaP, Nat.reduceEqDiff, Nat.reduceLeDiff, Nat.reduceAdd, Nat.reduceSub, Nat.reduceMul, Int.reduceLT, Int.reduceLE, Int.reduceEq, Int.reduceToNat, Int.reduceAdd, Int.reduceSub, Int.reduceMul, reduceCtorEq, ↓reduceIte, gaE, implies_true, Nat.le_refl, Int.sub_zero, Nat.sub_zero, Int.le_refl, true_or, or_true, gaF, fillL, splice, e]
    exact ⟨by omega, by omega, by omega, F3, by rw [hw2]⟩
  | false =>
    have hc : ¬ (val x.b < 18446744073709551616 ∧ intE (val x.b) x) := fun hc => by have := hbb.2 (hj.2 hc); cases this
    have e : uintR x = (0, 2) := if_neg hc
    simp only [↓gaH, gaP, simprocAttr, gaE, implies_true, Nat.le_refl, Int.sub_zero, Nat.sub_zero, Int.le_refl, true_or, or_true, gaF, fillL, splice, e, Bool.false_eq_true, if_false]
    repeat refine And.intro (by omega) ?_
    first | exact F3 | exact ⟨F3, rfl⟩
end
end Go.Ga
