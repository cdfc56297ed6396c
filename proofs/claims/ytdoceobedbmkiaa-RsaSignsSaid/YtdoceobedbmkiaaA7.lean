/- Words and contracts of functions for the statement's proof. No condition. -/
import Derived.Test.YtdoceobedbmkiaaA6
import Derived.ChangeArms
import Derived.OpenShut
import Derived.DataReads
set_option linter.all false

namespace Go.Ga
open Go Go.Proofs
set_option linter.unusedSimpArgs false
set_option linter.unusedVariables false
set_option maxRecDepth 100000
attribute [local irreducible] appendK endK endW sha

theorem verR_ok' {N S T : List UInt8} {E : Nat} (h : verR N S E T = 0) : (powR N S E).2 = 0 := (sg_bad.1 h).1
theorem xor1_8 {x : Nat} (hx : x < 256) : ∃ w : UInt8, Value.int .u8 (bitsV .xor .u8 (x : Int) 1) = u8V w := by
  have h : x ^^^ 1 < 2 ^ 8 := Nat.xor_lt_two_pow (by omega) (by omega)
  refine ⟨UInt8.ofNat (x ^^^ 1), ?_⟩
  have e : bitsV .xor .u8 (x : Int) ((1 : Nat) : Int) = ((x ^^^ 1 : Nat) : Int) := by
    show IntKind.u8.wrap ((BitVec.ofInt 8 (x : Int) ^^^ BitVec.ofInt 8 ((1 : Nat) : Int)).toNat : Int) = _
    simp only [BitVec.ofInt_natCast, BitVec.toNat_xor, BitVec.toNat_ofNat]
    rw [Nat.mod_eq_of_lt (by omega), Nat.mod_eq_of_lt (by omega), u8_w]
    omega
  rw [show bitsV .xor .u8 (x : Int) 1 = ((x ^^^ 1 : Nat) : Int) from e, u8V, UInt8.toNat_ofNat', Nat.mod_eq_of_lt (by omega)]
theorem splice_setR {l : List UInt8} {k : Nat} {w : UInt8} (h : k < l.length) : splice (l.map u8V) k [u8V w] = (l.set k w).map u8V := by
  rw [splice, List.set_eq_take_append_cons_drop, if_pos h]
  simp

section
variable {nx : Nat} {gt : Nat → Option Blk}

theorem fn_Signs {C D : Option Addr} {h k e j : Nat} {i t : Int} {T U : List UInt8} (hC : Row nx gt 1 C h (T.map u8V)) (he : h ≤ e) (hD : Row nx gt 1 D k (U.map u8V)) (hj : k ≤ j) :
    Ct Try.prog 9 [.agg #[.int .i64 i, .int .i64 t], .slice C h e, .slice D k j] nx gt fun v _ _ => v = .bool true := by
  have hsT := sha_len T
  have hsU := sha_len U
  refine Ct.of hmx r_lanyardlaw09_RsaSigns (by simp [c_lanyardlaw09_RsaSigns]) fun b hb => ?_
  obtain ⟨g0, hg0⟩ : ∃ g, g = upd gt nx (some (.cells [.int .i64 i, .int .i64 t] false)) := ⟨_, rfl⟩
  have hF : ∀ q, q < nx → g0 q = gt q := fun q hq => by subst hg0; simp only [upd_e]; rw [if_neg (by omega)]
  have b0 : g0 nx = some (.cells [.int .i64 i, .int .i64 t] false) := by subst hg0; simp only [upd_e, if_true]
  have hC0 := hC.keep (nx' := nx + 1) (by omega) hF
  have hD0 := hD.keep (nx' := nx + 1) (by omega) hF
  simp only [c_lanyardlaw09_RsaSigns, ↓gaW, ↓gaV, ↓gaC, ↓gaN, gaP, Nat.reduceEqDiff, Nat.reduceLeDiff, Nat.reduceAdd, Nat.reduceSub, Nat.reduceMul, Int.reduceLT, Int.reduceLE, Int.reduceEq, Int.reduceToNat, Int.reduceAdd, Int.reduceSub, Int.reduceMul, reduceCtorEq, ↓reduceIte, List.getD_cons_zero, List.getD_cons_succ, fillL, splice, List.take_zero, List.drop_zero, List.drop_succ_cons, List.take_succ_cons, List.drop_nil, List.take_nil, gaU]
  rw [← hg0]
  clear hg0
  refine callK_of ct_awake09 (fun v x1 g1 l1 k1 hv => ?_) (by omega)
  subst hv
  have b1 : g1 nx = some (.cells [.int .i64 i, .int .i64 t] false) := by rw [k1 _ (by omega), b0]
  have F1 : ∀ p, p < nx → g1 p = gt p := fun p hp => by rw [k1 p (by omega), hF p hp]
  have hC1 := hC0.keep l1 k1
  have hD1 := hD0.keep l1 k1
  by_cases q1 : i < 0
  · simp only [↓gaW, ↓gaV, ↓gaC, ↓gaN, gaP, Nat.reduceEqDiff, Nat.reduceLeDiff, Nat.reduceAdd, Nat.reduceSub, Nat.reduceMul, Int.reduceLT, Int.reduceLE, Int.reduceEq, Int.reduceToNat, Int.reduceAdd, Int.reduceSub, Int.reduceMul, reduceCtorEq, ↓reduceIte, gaE, implies_true, Nat.le_refl, Int.sub_zero, Nat.sub_zero, Int.le_refl, true_or, or_true, gaU, b1, q1, decide_true, List.getD_cons_zero, List.getD_cons_succ, List.length_cons, List.length_nil]
    repeat refine And.intro (by omega) ?_
    exact F1
  by_cases q2 : 7 < i
  · simp only [↓gaW, ↓gaV, ↓gaC, ↓gaN, gaP, Nat.reduceEqDiff, Nat.reduceLeDiff, Nat.reduceAdd, Nat.reduceSub, Nat.reduceMul, Int.reduceLT, Int.reduceLE, Int.reduceEq, Int.reduceToNat, Int.reduceAdd, Int.reduceSub, Int.reduceMul, reduceCtorEq, ↓reduceIte, gaE, implies_true, Nat.le_refl, Int.sub_zero, Nat.sub_zero, Int.le_refl, true_or, or_true, gaU, b1, q1, q2, decide_true, decide_false, List.getD_cons_zero, List.getD_cons_succ, List.length_cons, List.length_nil]
    repeat refine And.intro (by omega) ?_
    exact F1
  by_cases q3 : (500 : Int) < (h : Int)
  · simp only [↓gaW, ↓gaV, ↓gaC, ↓gaN, gaP, Nat.reduceEqDiff, Nat.reduceLeDiff, Nat.reduceAdd, Nat.reduceSub, Nat.reduceMul, Int.reduceLT, Int.reduceLE, Int.reduceEq, Int.reduceToNat, Int.reduceAdd, Int.reduceSub, Int.reduceMul, reduceCtorEq, ↓reduceIte, gaE, implies_true, Nat.le_refl, Int.sub_zero, Nat.sub_zero, Int.le_refl, true_or, or_true, gaU, b1, q1, q2, q3, decide_true, decide_false, List.getD_cons_zero, List.getD_cons_succ, List.length_cons, List.length_nil]
    repeat refine And.intro (by omega) ?_
    exact F1
  by_cases q4 : (500 : Int) < (k : Int)
  · simp only [↓gaW, ↓gaV, ↓gaC, ↓gaN, gaP, Nat.reduceEqDiff, Nat.reduceLeDiff, Nat.reduceAdd, Nat.reduceSub, Nat.reduceMul, Int.reduceLT, Int.reduceLE, Int.reduceEq, Int.reduceToNat, Int.reduceAdd, Int.reduceSub, Int.reduceMul, reduceCtorEq, ↓reduceIte, gaE, implies_true, Nat.le_refl, Int.sub_zero, Nat.sub_zero, Int.le_refl, true_or, or_true, gaU, b1, q1, q2, q3, q4, decide_true, decide_false, List.getD_cons_zero, List.getD_cons_succ, List.length_cons, List.length_nil]
    repeat refine And.intro (by omega) ?_
    exact F1
  by_cases q5 : t < 0
  · simp only [↓gaW, ↓gaV, ↓gaC, ↓gaN, gaP, Nat.reduceEqDiff, Nat.reduceLeDiff, Nat.reduceAdd, Nat.reduceSub, Nat.reduceMul, Int.reduceLT, Int.reduceLE, Int.reduceEq, Int.reduceToNat, Int.reduceAdd, Int.reduceSub, Int.reduceMul, reduceCtorEq, ↓reduceIte, gaE, implies_true, Nat.le_refl, Int.sub_zero, Nat.sub_zero, Int.le_refl, true_or, or_true, gaU, b1, q1, q2, q3, q4, q5, decide_true, decide_false, List.getD_cons_zero, List.getD_cons_succ, List.length_cons, List.length_nil]
    repeat refine And.intro (by omega) ?_
    exact F1
  obtain ⟨i, rfl⟩ : ∃ i' : Nat, i = i' := ⟨i.toNat, by omega⟩
  have hi : i < 8 := by omega
  simp only [↓gaW, ↓gaV, ↓gaC, ↓gaN, gaP, Nat.reduceEqDiff, Nat.reduceLeDiff, Nat.reduceAdd, Nat.reduceSub, Nat.reduceMul, Int.reduceLT, Int.reduceLE, Int.reduceEq, Int.reduceToNat, Int.reduceAdd, Int.reduceSub, Int.reduceMul, reduceCtorEq, ↓reduceIte, gaU, b1, q1, q2, q3, q4, q5, decide_false, List.getD_cons_zero, List.getD_cons_succ, List.length_cons, List.length_nil]
  repeat refine And.intro (by omega) ?_
  refine callK_of (ct_Key hi) (fun v x2 g2 l2 k2 hv => ?_) (by omega)
  obtain ⟨A, n, c, rfl, hc, hN, hA⟩ := hv
  obtain ⟨n1, n2⟩ := keyN_len hi
  rw [hN] at n1 n2
  have F2 : ∀ p, p < nx → g2 p = gt p := fun p hp => by rw [k2 p (by omega), F1 p hp]
  have hC2 := hC1.keep l2 k2
  have hD2 := hD1.keep l2 k2
  simp only [keyV, ↓gaW, ↓gaV, ↓gaC, ↓gaN, gaP, Nat.reduceEqDiff, Nat.reduceLeDiff, Nat.reduceAdd, Nat.reduceSub, Nat.reduceMul, Int.reduceLT, Int.reduceLE, Int.reduceEq, Int.reduceToNat, Int.reduceAdd, Int.reduceSub, Int.reduceMul, reduceCtorEq, ↓reduceIte, gaU, List.getD_cons_zero, List.getD_cons_succ, fillL, splice, List.take_zero, List.drop_zero, List.drop_succ_cons, List.take_succ_cons, List.drop_nil, List.take_nil]
  refine And.intro (by omega) (And.intro ?_ ?_)
  · intro v hv
    simp only [List.mem_cons, List.not_mem_nil, or_false] at hv
    rcases hv with rfl | rfl <;> rfl
  obtain ⟨g3, hg3⟩ : ∃ g, g = upd (upd g2 x2 (some (.cells [.slice none 0 0, .int .u32 0] false))) x2 (some (.cells [.slice A n c, .int .u32 65537] false)) := ⟨_, rfl⟩
  have k3 : ∀ q, q < x2 → g3 q = g2 q := fun q hq => by subst hg3; simp only [upd_e]; rw [if_neg (by omega), if_neg (by omega)]
  have b3 : g3 x2 = some (.cells [.slice A n c, .int .u32 65537] false) := by subst hg3; simp only [upd_e, if_true]
  rw [← hg3]
  clear hg3
  have hA3 := hA.keep (nx' := x2 + 1) (by omega) k3
  have hC3 := hC2.keep (nx' := x2 + 1) (by omega) k3
  have hD3 := hD2.keep (nx' := x2 + 1) (by omega) k3
  have F3 : ∀ q, q < nx → g3 q = gt q := fun q hq => by rw [k3 q (by omega), F2 q hq]
  refine callK_of (ct_Sign hi hC3 he (by omega)) (fun v x4 g4 l4 k4 hv => ?_) (by omega)
  obtain ⟨d, hd, A4, n4, c4, rfl, hc4, hl4, hS4⟩ := hv
  have hR := keyN_right hi
  have v0 : verR (keyN i) (sgL i d T) 65537 T = 0 := (sg_same hi hR hd T T).2 rfl
  have vU : decide (verR (keyN i) (sgL i d T) 65537 U = 0) = decide (sha T = sha U) := decide_eq_decide.2 (sg_same hi hR hd T U)
  have hn4 : n4 = n := by
    have := (powR_ok (verR_ok' v0)).2.2.2.1
    omega
  subst hn4
  generalize sgL i d T = S at *
  have b4 : g4 x2 = some (.cells [.slice A n4 c, .int .u32 65537] false) := by rw [k4 _ (by omega), b3]
  have hA4 := hA3.keep l4 k4
  have hC4 := hC3.keep l4 k4
  have hD4 := hD3.keep l4 k4
  have F4 : ∀ q, q < nx → g4 q = gt q := fun q hq => by rw [k4 q (by omega), F3 q hq]
  simp only [↓gaW, ↓gaV, ↓gaC, ↓gaN, gaP, Nat.reduceEqDiff, Nat.reduceLeDiff, Nat.reduceAdd, Nat.reduceSub, Nat.reduceMul, Int.reduceLT, Int.reduceLE, Int.reduceEq, Int.reduceToNat, Int.reduceAdd, Int.reduceSub, Int.reduceMul, reduceCtorEq, ↓reduceIte]
  refine callK_of (ct_Of hC4 he (by omega)) (fun v x5 g5 l5 k5 hv => ?_) (by omega)
  subst hv
  have hD5 := hD4.keep l5 k5
  simp only [↓gaW, ↓gaV, ↓gaC, ↓gaN, gaP, Nat.reduceEqDiff, Nat.reduceLeDiff, Nat.reduceAdd, Nat.reduceSub, Nat.reduceMul, Int.reduceLT, Int.reduceLE, Int.reduceEq, Int.reduceToNat, Int.reduceAdd, Int.reduceSub, Int.reduceMul, reduceCtorEq, ↓reduceIte]
  refine callK_of (ct_Of hD5 hj (by omega)) (fun v x6 g6 l6 k6 hv => ?_) (by omega)
  subst hv
  have b6 : g6 x2 = some (.cells [.slice A n4 c, .int .u32 65537] false) := by rw [k6 _ (by omega), k5 _ (by omega), b4]
  have hA6 := (hA4.keep l5 k5).keep l6 k6
  have hC6 := (hC4.keep l5 k5).keep l6 k6
  have hD6 := hD5.keep l6 k6
  have hS6 := (hS4.keep l5 k5).keep l6 k6
  have F6 : ∀ q, q < nx → g6 q = gt q := fun q hq => by rw [k6 q (by omega), k5 q (by omega), F4 q hq]
  have K6 : ∀ {B : Option Blk} q, q < x6 → upd g6 x6 B q = g6 q := fun q hq => by simp only [upd_e]; rw [if_neg (by omega)]
  have hrow : ∀ b, rowOf ⟨x6 + 1, b, upd g6 x6 (some (.cells [] false))⟩ A4 n4 = some (S.map u8V) := fun b => (hS6.keep (nx' := x6 + 1) (by omega) K6).rowOf
  simp only [↓gaW, ↓gaV, ↓gaC, ↓gaN, gaP, Nat.reduceEqDiff, Nat.reduceLeDiff, Nat.reduceAdd, Nat.reduceSub, Nat.reduceMul, Int.reduceLT, Int.reduceLE, Int.reduceEq, Int.reduceToNat, Int.reduceAdd, Int.reduceSub, Int.reduceMul, reduceCtorEq, ↓reduceIte, List.getD_cons_zero, List.getD_cons_succ, fillL, splice, List.take_zero, List.drop_zero, List.drop_succ_cons, List.take_succ_cons, List.drop_nil, List.take_nil, o_eqA, eq32 hsT hsU]
  rw [hrow]
  show appendK _ _ _ _ _ _ _ _ _
  refine grow_append (nx := x6 + 1) (k := n4) (l := []) (Grow.lit (q := x6) (l := []) (ro := false) (by omega) (by simp only [upd_e, if_true]) rfl) (by omega) (by omega) (by omega) (by omega) (by simp [hl4]) (all_u8 _) (by omega) (by omega) fun g7 k7 ho7 => ?_
  rw [List.nil_append, Nat.zero_add] at ho7
  rw [Nat.zero_add]
  obtain ⟨_, ⟨hno, _⟩ | ⟨q, e1, e2, e3, e4, e5⟩⟩ := ho7
  · cases hno
  have e1' : q = x6 + 1 := by injection e1 with e1; injection e1 with e1 _ _; exact e1.symm
  subst e1'
  have k7' : ∀ q, q < x6 → g7 q = g6 q := fun q hq => by rw [k7 q (by omega), K6 q hq]
  obtain ⟨kk, hk1, hk2⟩ : ∃ kk : Nat, t.tmod (n4 : Int) = (kk : Int) ∧ kk < n4 := by
    have h1 := Int.tmod_nonneg (n4 : Int) (show 0 ≤ t by omega)
    have h2 := Int.tmod_lt_of_pos t (show (0 : Int) < (n4 : Int) by omega)
    exact ⟨(t.tmod (n4 : Int)).toNat, by omega, by omega⟩
  have hcell : (S.map u8V).getD kk undef = .int .u8 ((S.getD kk 0).toNat : Nat) := getD_u8 (by omega)
  obtain ⟨w, hw⟩ := xor1_8 (UInt8.toNat_lt (S.getD kk 0))
  have hset := splice_setR (l := S) (k := kk) (w := w) (by omega)
  have z1 : ¬ (n4 : Int) = 0 := by omega
  simp only [↓gaW, ↓gaV, ↓gaC, ↓gaN, gaP, Nat.reduceEqDiff, Nat.reduceLeDiff, Nat.reduceAdd, Nat.reduceSub, Nat.reduceMul, Int.reduceLT, Int.reduceLE, Int.reduceEq, Int.reduceToNat, Int.reduceAdd, Int.reduceSub, Int.reduceMul, reduceCtorEq, ↓reduceIte, gaU, z1, hk1, e5, Int.toNat_natCast, Nat.mul_one, Nat.zero_add, hcell, hw, hset]
  repeat refine And.intro (by first | omega | (rw [List.length_map]; omega) | (simp; omega) | exact all_u8 [w]) ?_
  obtain ⟨g8, hg8⟩ : ∃ g, g = upd g7 (x6 + 1) (some (.cells ((S.set kk w).map u8V) false)) := ⟨_, rfl⟩
  have k8 : ∀ q, q < x6 → g8 q = g6 q := fun q hq => by subst hg8; simp only [upd_e]; rw [if_neg (by omega), k7' q hq]
  have e8 : g8 (x6 + 1) = some (.cells ((S.set kk w).map u8V) false) := by subst hg8; simp only [upd_e, if_true]
  have hXl : (S.set kk w).length = n4 := by rw [List.length_set, hl4]
  generalize S.set kk w = X at *
  rw [← hg8]
  clear hg8
  have hX8 : Row (x6 + 1 + 1) g8 1 (some ⟨x6 + 1, 0, some 1⟩) n4 (X.map u8V) := ⟨fun a ha => by injection ha with ha; subst ha; exact .inr rfl, by simp [hXl], fun _ => ⟨_, _, false, rfl, by show x6 + 1 < _; omega, e8, by simp [hXl], fun i hi => by simp⟩⟩
  have b8 : g8 x2 = some (.cells [.slice A n4 c, .int .u32 65537] false) := by rw [k8 _ (by omega), b6]
  have hA8 := hA6.keep (nx' := x6 + 1 + 1) (by omega) k8
  have hC8 := hC6.keep (nx' := x6 + 1 + 1) (by omega) k8
  have hD8 := hD6.keep (nx' := x6 + 1 + 1) (by omega) k8
  have hS8 := hS6.keep (nx' := x6 + 1 + 1) (by omega) k8
  have F8 : ∀ q, q < nx → g8 q = gt q := fun q hq => by rw [k8 q (by omega), F6 q hq]
  rw [if_neg (show ¬ x2 = x6 + 1 by omega), k7' _ (by omega), b6]
  simp only [↓gaW, ↓gaV, ↓gaC, ↓gaN, gaP, Nat.reduceEqDiff, Nat.reduceLeDiff, Nat.reduceAdd, Nat.reduceSub, Nat.reduceMul, Int.reduceLT, Int.reduceLE, Int.reduceEq, Int.reduceToNat, Int.reduceAdd, Int.reduceSub, Int.reduceMul, reduceCtorEq, ↓reduceIte, gaU, b8, List.drop_zero, List.take_succ_cons, List.take_zero, List.length_cons, List.length_nil]
  repeat refine And.intro (by omega) ?_
  refine callK_of (ct_Power (E := 65537) hA8 hc (by omega) (by omega) hX8 (Nat.le_refl _) (by omega)) (fun v x9 g9 l9 k9 hv => ?_) (by omega)
  obtain ⟨A9, n9, c9, rfl, hc9, hl9, r9⟩ := hv
  have b9 : g9 x2 = some (.cells [.slice A n4 c, .int .u32 65537] false) := by rw [k9 _ (by omega), b8]
  have hC9 := hC8.keep l9 k9
  simp only [↓gaW, ↓gaV, ↓gaC, ↓gaN, gaP, Nat.reduceEqDiff, Nat.reduceLeDiff, Nat.reduceAdd, Nat.reduceSub, Nat.reduceMul, Int.reduceLT, Int.reduceLE, Int.reduceEq, Int.reduceToNat, Int.reduceAdd, Int.reduceSub, Int.reduceMul, reduceCtorEq, ↓reduceIte]
  repeat refine And.intro (by omega) ?_
  refine callQ_of (ct_Of hC9 he (by omega)) (fun v x10 g10 l10 k10 hv => ?_)
  subst hv
  have b10 : g10 x2 = some (.cells [.slice A n4 c, .int .u32 65537] false) := by rw [k10 _ (by omega), b9]
  simp only [↓gaW, ↓gaV, ↓gaC, ↓gaN, gaP, Nat.reduceEqDiff, Nat.reduceLeDiff, Nat.reduceAdd, Nat.reduceSub, Nat.reduceMul, Int.reduceLT, Int.reduceLE, Int.reduceEq, Int.reduceToNat, Int.reduceAdd, Int.reduceSub, Int.reduceMul, reduceCtorEq, ↓reduceIte, b10, List.getD_cons_zero, List.length_cons, List.length_nil]
  repeat refine And.intro (by omega) ?_
  refine callQ_of (ct_Frame (s := (n4 : Int)) hsT) (fun v x11 g11 l11 k11 hv => ?_)
  obtain ⟨B, m, cB, rfl, hcB, hm, hB⟩ := hv
  have hf : frameR (sha T) (n4 : Int) = (frL (sha T) n4, 0) := by rw [frameR, if_pos (by omega), Int.toNat_natCast]
  rw [hf] at hm hB ⊢
  have b11 : g11 x2 = some (.cells [.slice A n4 c, .int .u32 65537] false) := by rw [k11 _ (by omega), b10]
  have hA11 := ((hA8.keep l9 k9).keep l10 k10).keep l11 k11
  have hC11 := ((hC8.keep l9 k9).keep l10 k10).keep l11 k11
  have hD11 := ((hD8.keep l9 k9).keep l10 k10).keep l11 k11
  have hS11 := ((hS8.keep l9 k9).keep l10 k10).keep l11 k11
  have hX11 := ((hX8.keep l9 k9).keep l10 k10).keep l11 k11
  have r11 := (r9.keep l10 k10).keep l11 k11
  have F11 : ∀ q, q < nx → g11 q = gt q := fun q hq => by rw [k11 q (by omega), k10 q (by omega), k9 q (by omega), F8 q hq]
  have hsb := @sg_bad (keyN i) X T 65537
  rw [hN] at hsb
  have ra : ∀ b, rowOf ⟨x11, b, g11⟩ A9 n9 = some _ := fun b => r11.rowOf
  have rb : ∀ b, rowOf ⟨x11, b, g11⟩ B m = some _ := fun b => hB.rowOf
  by_cases z : (powR (keyN i) X 65537).2 = 0
  · cases hq : ((powR (keyN i) X 65537).1 == frL (sha T) n4) with
    | true =>
      have hbad : verR (keyN i) X 65537 T = 0 := hsb.2 ⟨z, hq⟩
      simp only [↓gaW, ↓gaV, ↓gaC, ↓gaN, gaP, Nat.reduceEqDiff, Nat.reduceLeDiff, Nat.reduceAdd, Nat.reduceSub, Nat.reduceMul, Int.reduceLT, Int.reduceLE, Int.reduceEq, Int.reduceToNat, Int.reduceAdd, Int.reduceSub, Int.reduceMul, reduceCtorEq, ↓reduceIte, gaU, z, ra, rb, bytesOf_map, str_eq, hq, decide_true]
      repeat refine And.intro (by omega) ?_
      simp only [↓gaW, ↓gaV, ↓gaC, ↓gaN, gaP, Nat.reduceEqDiff, Nat.reduceLeDiff, Nat.reduceAdd, Nat.reduceSub, Nat.reduceMul, Int.reduceLT, Int.reduceLE, Int.reduceEq, Int.reduceToNat, Int.reduceAdd, Int.reduceSub, Int.reduceMul, reduceCtorEq, ↓reduceIte, gaU, b11, List.drop_zero, List.take_succ_cons, List.take_zero, List.length_cons, List.length_nil]
      repeat refine And.intro (by omega) ?_
      refine callK_of (ct_Verify (E := 65537) hA11 hc (by omega) (by omega) hS11 hc4 (by omega) hC11 he (by omega)) (fun v x12 g12 l12 k12 hv => ?_) (by omega)
      rw [v0] at hv
      subst hv
      have b12 : g12 x2 = some (.cells [.slice A n4 c, .int .u32 65537] false) := by rw [k12 _ (by omega), b11]
      have hA12 := hA11.keep l12 k12
      have hD12 := hD11.keep l12 k12
      have hS12 := hS11.keep l12 k12
      have hC12 := hC11.keep l12 k12
      have hX12 := hX11.keep l12 k12
      have F12 : ∀ p, p < nx → g12 p = gt p := fun p hp => by rw [k12 p (by omega), F11 p hp]
      simp only [↓gaW, ↓gaV, ↓gaC, ↓gaN, gaP, Nat.reduceEqDiff, Nat.reduceLeDiff, Nat.reduceAdd, Nat.reduceSub, Nat.reduceMul, Int.reduceLT, Int.reduceLE, Int.reduceEq, Int.reduceToNat, Int.reduceAdd, Int.reduceSub, Int.reduceMul, reduceCtorEq, ↓reduceIte, gaU, b12, List.drop_zero, List.take_succ_cons, List.take_zero, List.length_cons, List.length_nil, decide_true]
      repeat refine And.intro (by omega) ?_
      refine callK_of (ct_Verify (E := 65537) hA12 hc (by omega) (by omega) hS12 hc4 (by omega) hD12 hj (by omega)) (fun v x13 g13 l13 k13 hv => ?_) (by omega)
      subst hv
      have b13 : g13 x2 = some (.cells [.slice A n4 c, .int .u32 65537] false) := by rw [k13 _ (by omega), b12]
      have hA13 := hA12.keep l13 k13
      have hC13 := hC12.keep l13 k13
      have hX13 := hX12.keep l13 k13
      have F13 : ∀ p, p < nx → g13 p = gt p := fun p hp => by rw [k13 p (by omega), F12 p hp]
      simp only [↓gaW, ↓gaV, ↓gaC, ↓gaN, gaP, Nat.reduceEqDiff, Nat.reduceLeDiff, Nat.reduceAdd, Nat.reduceSub, Nat.reduceMul, Int.reduceLT, Int.reduceLE, Int.reduceEq, Int.reduceToNat, Int.reduceAdd, Int.reduceSub, Int.reduceMul, reduceCtorEq, ↓reduceIte, gaU, b13, vU, List.drop_zero, List.take_succ_cons, List.take_zero, List.length_cons, List.length_nil, decide_true, beq_self_eq_true]
      repeat refine And.intro (by omega) ?_
      refine callK_of (ct_Verify (E := 65537) hA13 hc (by omega) (by omega) hX13 (by omega) (by omega) hC13 he (by omega)) (fun v x14 g14 l14 k14 hv => ?_) (by omega)
      subst hv
      simp only [↓gaW, ↓gaV, ↓gaC, ↓gaN, gaP, Nat.reduceEqDiff, Nat.reduceLeDiff, Nat.reduceAdd, Nat.reduceSub, Nat.reduceMul, Int.reduceLT, Int.reduceLE, Int.reduceEq, Int.reduceToNat, Int.reduceAdd, Int.reduceSub, Int.reduceMul, reduceCtorEq, ↓reduceIte, gaE, implies_true, Nat.le_refl, Int.sub_zero, Nat.sub_zero, Int.le_refl, true_or, or_true, hbad, decide_true, decide_false, beq_self_eq_true]
      exact ⟨by omega, fun q hq => by rw [k14 q (by omega), F13 q hq]⟩
    | false =>
      have hbad : ¬ verR (keyN i) X 65537 T = 0 := fun h => by rw [(hsb.1 h).2] at hq; cases hq
      simp only [↓gaW, ↓gaV, ↓gaC, ↓gaN, gaP, Nat.reduceEqDiff, Nat.reduceLeDiff, Nat.reduceAdd, Nat.reduceSub, Nat.reduceMul, Int.reduceLT, Int.reduceLE, Int.reduceEq, Int.reduceToNat, Int.reduceAdd, Int.reduceSub, Int.reduceMul, reduceCtorEq, ↓reduceIte, gaU, z, ra, rb, bytesOf_map, str_eq, hq, decide_true]
      repeat refine And.intro (by omega) ?_
      simp only [↓gaW, ↓gaV, ↓gaC, ↓gaN, gaP, Nat.reduceEqDiff, Nat.reduceLeDiff, Nat.reduceAdd, Nat.reduceSub, Nat.reduceMul, Int.reduceLT, Int.reduceLE, Int.reduceEq, Int.reduceToNat, Int.reduceAdd, Int.reduceSub, Int.reduceMul, reduceCtorEq, ↓reduceIte, gaU, b11, List.drop_zero, List.take_succ_cons, List.take_zero, List.length_cons, List.length_nil]
      repeat refine And.intro (by omega) ?_
      refine callK_of (ct_Verify (E := 65537) hA11 hc (by omega) (by omega) hS11 hc4 (by omega) hC11 he (by omega)) (fun v x12 g12 l12 k12 hv => ?_) (by omega)
      rw [v0] at hv
      subst hv
      have b12 : g12 x2 = some (.cells [.slice A n4 c, .int .u32 65537] false) := by rw [k12 _ (by omega), b11]
      have hA12 := hA11.keep l12 k12
      have hD12 := hD11.keep l12 k12
      have hS12 := hS11.keep l12 k12
      have hC12 := hC11.keep l12 k12
      have hX12 := hX11.keep l12 k12
      have F12 : ∀ p, p < nx → g12 p = gt p := fun p hp => by rw [k12 p (by omega), F11 p hp]
      simp only [↓gaW, ↓gaV, ↓gaC, ↓gaN, gaP, Nat.reduceEqDiff, Nat.reduceLeDiff, Nat.reduceAdd, Nat.reduceSub, Nat.reduceMul, Int.reduceLT, Int.reduceLE, Int.reduceEq, Int.reduceToNat, Int.reduceAdd, Int.reduceSub, Int.reduceMul, reduceCtorEq, ↓reduceIte, gaU, b12, List.drop_zero, List.take_succ_cons, List.take_zero, List.length_cons, List.length_nil, decide_true]
      repeat refine And.intro (by omega) ?_
      refine callK_of (ct_Verify (E := 65537) hA12 hc (by omega) (by omega) hS12 hc4 (by omega) hD12 hj (by omega)) (fun v x13 g13 l13 k13 hv => ?_) (by omega)
      subst hv
      have b13 : g13 x2 = some (.cells [.slice A n4 c, .int .u32 65537] false) := by rw [k13 _ (by omega), b12]
      have hA13 := hA12.keep l13 k13
      have hC13 := hC12.keep l13 k13
      have hX13 := hX12.keep l13 k13
      have F13 : ∀ p, p < nx → g13 p = gt p := fun p hp => by rw [k13 p (by omega), F12 p hp]
      simp only [↓gaW, ↓gaV, ↓gaC, ↓gaN, gaP, Nat.reduceEqDiff, Nat.reduceLeDiff, Nat.reduceAdd, Nat.reduceSub, Nat.reduceMul, Int.reduceLT, Int.reduceLE, Int.reduceEq, Int.reduceToNat, Int.reduceAdd, Int.reduceSub, Int.reduceMul, reduceCtorEq, ↓reduceIte, gaU, b13, vU, List.drop_zero, List.take_succ_cons, List.take_zero, List.length_cons, List.length_nil, decide_true, beq_self_eq_true]
      repeat refine And.intro (by omega) ?_
      refine callK_of (ct_Verify (E := 65537) hA13 hc (by omega) (by omega) hX13 (by omega) (by omega) hC13 he (by omega)) (fun v x14 g14 l14 k14 hv => ?_) (by omega)
      subst hv
      simp only [↓gaW, ↓gaV, ↓gaC, ↓gaN, gaP, Nat.reduceEqDiff, Nat.reduceLeDiff, Nat.reduceAdd, Nat.reduceSub, Nat.reduceMul, Int.reduceLT, Int.reduceLE, Int.reduceEq, Int.reduceToNat, Int.reduceAdd, Int.reduceSub, Int.reduceMul, reduceCtorEq, ↓reduceIte, gaE, implies_true, Nat.le_refl, Int.sub_zero, Nat.sub_zero, Int.le_refl, true_or, or_true, hbad, decide_true, decide_false, beq_self_eq_true]
      exact ⟨by omega, fun q hq => by rw [k14 q (by omega), F13 q hq]⟩
  · have hbad : ¬ verR (keyN i) X 65537 T = 0 := fun h => z (hsb.1 h).1
    simp only [↓gaW, ↓gaV, ↓gaC, ↓gaN, gaP, Nat.reduceEqDiff, Nat.reduceLeDiff, Nat.reduceAdd, Nat.reduceSub, Nat.reduceMul, Int.reduceLT, Int.reduceLE, Int.reduceEq, Int.reduceToNat, Int.reduceAdd, Int.reduceSub, Int.reduceMul, reduceCtorEq, ↓reduceIte, gaU, z, decide_false]
    repeat refine And.intro (by omega) ?_
    simp only [↓gaW, ↓gaV, ↓gaC, ↓gaN, gaP, Nat.reduceEqDiff, Nat.reduceLeDiff, Nat.reduceAdd, Nat.reduceSub, Nat.reduceMul, Int.reduceLT, Int.reduceLE, Int.reduceEq, Int.reduceToNat, Int.reduceAdd, Int.reduceSub, Int.reduceMul, reduceCtorEq, ↓reduceIte, gaU, b11, List.drop_zero, List.take_succ_cons, List.take_zero, List.length_cons, List.length_nil]
    repeat refine And.intro (by omega) ?_
    refine callK_of (ct_Verify (E := 65537) hA11 hc (by omega) (by omega) hS11 hc4 (by omega) hC11 he (by omega)) (fun v x12 g12 l12 k12 hv => ?_) (by omega)
    rw [v0] at hv
    subst hv
    have b12 : g12 x2 = some (.cells [.slice A n4 c, .int .u32 65537] false) := by rw [k12 _ (by omega), b11]
    have hA12 := hA11.keep l12 k12
    have hD12 := hD11.keep l12 k12
    have hS12 := hS11.keep l12 k12
    have hC12 := hC11.keep l12 k12
    have hX12 := hX11.keep l12 k12
    have F12 : ∀ p, p < nx → g12 p = gt p := fun p hp => by rw [k12 p (by omega), F11 p hp]
    simp only [↓gaW, ↓gaV, ↓gaC, ↓gaN, gaP, Nat.reduceEqDiff, Nat.reduceLeDiff, Nat.reduceAdd, Nat.reduceSub, Nat.reduceMul, Int.reduceLT, Int.reduceLE, Int.reduceEq, Int.reduceToNat, Int.reduceAdd, Int.reduceSub, Int.reduceMul, reduceCtorEq, ↓reduceIte, gaU, b12, List.drop_zero, List.take_succ_cons, List.take_zero, List.length_cons, List.length_nil, decide_true]
    repeat refine And.intro (by omega) ?_
    refine callK_of (ct_Verify (E := 65537) hA12 hc (by omega) (by omega) hS12 hc4 (by omega) hD12 hj (by omega)) (fun v x13 g13 l13 k13 hv => ?_) (by omega)
    subst hv
    have b13 : g13 x2 = some (.cells [.slice A n4 c, .int .u32 65537] false) := by rw [k13 _ (by omega), b12]
    have hA13 := hA12.keep l13 k13
    have hC13 := hC12.keep l13 k13
    have hX13 := hX12.keep l13 k13
    have F13 : ∀ p, p < nx → g13 p = gt p := fun p hp => by rw [k13 p (by omega), F12 p hp]
    simp only [↓gaW, ↓gaV, ↓gaC, ↓gaN, gaP, Nat.reduceEqDiff, Nat.reduceLeDiff, Nat.reduceAdd, Nat.reduceSub, Nat.reduceMul, Int.reduceLT, Int.reduceLE, Int.reduceEq, Int.reduceToNat, Int.reduceAdd, Int.reduceSub, Int.reduceMul, reduceCtorEq, ↓reduceIte, gaU, b13, vU, List.drop_zero, List.take_succ_cons, List.take_zero, List.length_cons, List.length_nil, decide_true, beq_self_eq_true]
    repeat refine And.intro (by omega) ?_
    refine callK_of (ct_Verify (E := 65537) hA13 hc (by omega) (by omega) hX13 (by omega) (by omega) hC13 he (by omega)) (fun v x14 g14 l14 k14 hv => ?_) (by omega)
    subst hv
    simp only [↓gaW, ↓gaV, ↓gaC, ↓gaN, gaP, Nat.reduceEqDiff, Nat.reduceLeDiff, Nat.reduceAdd, Nat.reduceSub, Nat.reduceMul, Int.reduceLT, Int.reduceLE, Int.reduceEq, Int.reduceToNat, Int.reduceAdd, Int.reduceSub, Int.reduceMul, reduceCtorEq, ↓reduceIte, gaE, implies_true, Nat.le_refl, Int.sub_zero, Nat.sub_zero, Int.le_refl, true_or, or_true, hbad, decide_true, decide_false, beq_self_eq_true]
    exact ⟨by omega, fun q hq => by rw [k14 q (by omega), F13 q hq]⟩
end
end Go.Ga

/- An array of whole numbers that a law is given. -/
namespace Go.Ga
open Go

section
variable {P : Program} {H : Type} {enc : TypeId × Value → H} {w : World} {base : Nat} {sp : Nat → Bool} {held : Bool} {t e : TypeId} {n : Nat} {k : IntKind}

def intOf : Option Value → Int
  | some (.int _ z) => z
  | _ => 0
theorem mapM_all {α β : Type} (f : α → Option β) (g : α → β) : ∀ (L : List α), (∀ i ∈ L, f i = some (g i)) → L.mapM f = some (L.map g)
  | [], _ => rfl
  | a :: L, h => by
    rw [List.mapM_cons, h a (by simp), mapM_all f g L fun i hi => h i (by simp [hi])]
    rfl
theorem mapM_inv {α β : Type} (f : α → Option β) : ∀ (L : List α) (xs : List β), L.mapM f = some xs → ∃ g : α → Option β, (∀ i ∈ L, f i = g i ∧ (g i).isSome) ∧ xs.map some = L.map g
  | [], xs, h => by
    simp at h
    subst h
    exact ⟨fun _ => none, by simp, rfl⟩
  | a :: L, xs, h => by
    rw [List.mapM_cons] at h
    simp only [bind, Option.bind_eq_some_iff, pure, Option.some.injEq] at h
    obtain ⟨y, hy, ys, hys, rfl⟩ := h
    obtain ⟨g, h1, h2⟩ := mapM_inv f L ys hys
    refine ⟨f, fun i hi => ⟨rfl, ?_⟩, ?_⟩
    · rcases List.mem_cons.1 hi with rfl | hi
      · simp [hy]
      · rw [(h1 i hi).1]; exact (h1 i hi).2
    · simp only [List.map_cons, hy, h2, List.cons.injEq, true_and]
      exact List.map_congr_left fun i hi => (h1 i hi).1.symm

def arrD (k : IntKind) (zs : List Int) : DataW H := .agg (zs.map fun z => .lit (.int k z))

theorem shut_arrI (ht : P.underlying t = some (.array n e)) (he : P.underlying e = some (.int k)) (hc : P.cellsOf e = 1) (hct : P.cellsOf t = n) {zs : List Int} (hl : zs.length = n) (hw : ∀ z ∈ zs, (Lit.int k z).wf = true) :
    DataW.Trod enc P w base sp held t (.agg (zs.map (Value.int k)).toArray) (arrD k zs) [] := by
  refine ⟨2, ?_⟩
  have h1 : ∀ i ∈ List.range n, DataW.trod enc P w base sp held 1 e (((zs.map (Value.int k)).drop (i * 1)).take 1) = some ((.lit (.int k (zs.getD i 0)) : DataW H), []) := by
    intro i hi
    have hi : i < zs.length := by rw [hl]; exact List.mem_range.1 hi
    have e1 : ((zs.map (Value.int k)).drop (i * 1)).take 1 = [.int k (zs.getD i 0)] := by
      rw [Nat.mul_one, List.drop_eq_getElem_cons (by simpa using hi)]
      simp [List.getD_eq_getElem?_getD, hi]
    rw [e1]
    have hwi : (Lit.int k (zs.getD i 0)).wf = true := hw _ (by rw [List.getD_eq_getElem?_getD, List.getElem?_eq_getElem hi]; exact List.getElem_mem hi)
    have hwi' := hwi
    simp only [List.getD_eq_getElem?_getD] at hwi' ⊢
    simp [DataW.trod, he, hwi']
  rw [DataW.trod_step]
  unfold DataW.trodStep
  simp only [ht, Value.cells, hct, hc, List.length_map, hl, if_true]
  rw [mapM_all _ _ _ h1]
  simp only [Option.map_some, List.map_map, arrD, Option.some.injEq, Prod.mk.injEq, DataW.agg.injEq]
  refine ⟨?_, by simp⟩
  refine List.ext_getElem (by simp [hl]) fun i h1 h2 => ?_
  have hi : i < zs.length := by simpa using h2
  simp [hi]

theorem open_arrI (ht : P.underlying t = some (.array n e)) (he : P.underlying e = some (.int k)) (hc : P.cellsOf e = 1) (hct : P.cellsOf t = n) {r : Reach} {b0 : Nat} {v : Value} {d : DataW H} {ps : List MemPlace} (hval : Value.okWide P w r b0 t v) (hd : DataW.Trod enc P w base sp held t v d ps) :
    ∃ zs : List Int, v = .agg (zs.map (Value.int k)).toArray ∧ zs.length = n ∧ (∀ z ∈ zs, (Lit.int k z).wf = true) ∧ d = arrD k zs ∧ ps = [] := by
  simp only [Value.okWide, ht] at hval
  obtain ⟨cs, rfl, hcs, _⟩ := hval
  obtain ⟨fuel, hf⟩ := hd
  cases fuel with
  | zero => simp [DataW.trod] at hf
  | succ fuel =>
    rw [DataW.trod_step] at hf
    unfold DataW.trodStep at hf
    simp only [ht, Value.cells] at hf
    rw [if_pos (by simpa using hcs)] at hf
    simp only [Option.map_eq_some_iff] at hf
    obtain ⟨xs, hx, e1⟩ := hf
    obtain ⟨g, hg, hgx⟩ := mapM_inv _ _ _ hx
    have hlen : cs.toList.length = n := by simp [hcs, hct]
    have cell : ∀ i, i < n → ∃ z, cs.toList[i]? = some (.int k z) ∧ (Lit.int k z).wf = true ∧ g i = some ((.lit (.int k z) : DataW H), []) := by
      intro i hi
      obtain ⟨h1, h2⟩ := hg i (List.mem_range.2 hi)
      obtain ⟨y, hy⟩ := Option.isSome_iff_exists.1 h2
      rw [hy] at h1
      obtain ⟨z, h3, rfl, h4⟩ := DataW.trod_int he h1
      refine ⟨z, ?_, h4, hy⟩
      rw [hc, Nat.mul_one, List.drop_eq_getElem_cons (by omega)] at h3
      simp at h3
      rw [List.getElem?_eq_getElem (by omega)]
      simp [h3]
    have hzs : ∃ zs : List Int, zs.length = n ∧ ∀ i, i < n → cs.toList[i]? = some (.int k (zs.getD i 0)) ∧ (Lit.int k (zs.getD i 0)).wf = true ∧ g i = some ((.lit (.int k (zs.getD i 0)) : DataW H), []) := by
      refine ⟨(List.range n).map fun i => intOf cs.toList[i]?, by simp, fun i hi => ?_⟩
      obtain ⟨z, h1, h2, h3⟩ := cell i hi
      have : ((List.range n).map fun i => intOf cs.toList[i]?).getD i 0 = z := by
        rw [List.getD_eq_getElem?_getD, List.getElem?_map, List.getElem?_range hi]
        simp only [Option.map_some, h1, Option.getD_some, intOf]
      rw [this]
      exact ⟨h1, h2, h3⟩
    obtain ⟨zs, hl, hz⟩ := hzs
    refine ⟨zs, ?_, hl, fun z hmem => ?_, ?_, ?_⟩
    · congr 1
      apply Array.ext'
      refine List.ext_getElem? fun i => ?_
      rcases Nat.lt_or_ge i n with h | h
      · rw [(hz i h).1]
        simp [List.getElem?_map, List.getD_eq_getElem?_getD, List.getElem?_eq_getElem (show i < zs.length by omega)]
      · rw [List.getElem?_eq_none (by omega), List.getElem?_eq_none (by simp; omega)]
    · obtain ⟨i, hi, rfl⟩ := List.getElem_of_mem hmem
      have := (hz i (by omega)).2.1
      simpa [List.getD_eq_getElem?_getD, List.getElem?_eq_getElem hi] using this
    · simp only [Prod.mk.injEq] at e1
      rw [← e1.1, arrD]
      congr 1
      refine List.ext_getElem? fun i => ?_
      have hxi : (xs.map some)[i]? = ((List.range n).map g)[i]? := by rw [hgx]
      rcases Nat.lt_or_ge i n with h | h
      · rw [List.getElem?_map, List.getElem?_map, List.getElem?_range h, Option.map_some, (hz i h).2.2] at hxi
        cases hx1 : xs[i]? with
        | none => simp [hx1] at hxi
        | some y =>
          simp only [hx1, Option.map_some, Option.some.injEq] at hxi
          simp [hx1, hxi, List.getD_eq_getElem?_getD, List.getElem?_eq_getElem (show i < zs.length by omega)]
      · have : xs.length = n := by
          have := congrArg List.length hgx
          simpa using this
        rw [List.getElem?_eq_none (by simp; omega), List.getElem?_eq_none (by simp; omega)]
    · simp only [Prod.mk.injEq] at e1
      rw [← e1.2, List.flatMap_eq_nil_iff]
      intro y hy
      obtain ⟨i, hi, rfl⟩ := List.getElem_of_mem hy
      have hn : xs.length = n := by
        have := congrArg List.length hgx
        simpa using this
      have hxi : (xs.map some)[i]? = ((List.range n).map g)[i]? := by rw [hgx]
      rw [List.getElem?_map, List.getElem?_eq_getElem hi, List.getElem?_map, List.getElem?_range (by omega), Option.map_some, Option.map_some, (hz i (by omega)).2.2] at hxi
      simp only [Option.some.injEq] at hxi
      rw [hxi]
end

theorem absV_arr {w : World} {k : IntKind} {zs : List Int} : absV w (.agg (zs.map (Value.int k)).toArray) = .agg (zs.map (Value.int k)).toArray := by
  simp only [absV]
  congr 1
  apply Array.ext'
  simp [Function.comp_def, absC, goodV]
end Go.Ga

/- A slice of words that a law is given. -/
namespace Go.Ga
open Go

theorem wf_u32 {n : Int} (h : (Lit.int .u32 n).wf = true) : 0 ≤ n ∧ n ≤ 4294967295 := by
  have := (Lit.wf_int_iff _ _).1 h
  simpa [IntKind.min, IntKind.max, IntKind.signed, IntKind.bits] using this
end Go.Ga

/- What a law is given: what its values are made of, in the abstract memory. -/
namespace Go.Ga
open Go

section
variable {H : Type} {enc : TypeId × Value → H} {P : Program} {w : World} {held : Bool} {f : Nat} {t : TypeId} {cs : List Value}

/-- These cells are a value of this type. -/
def Shp (enc : TypeId × Value → H) (P : Program) (w : World) (held : Bool) (f : Nat) (t : TypeId) (cs : List Value) : Prop := ∃ x, DataW.trod enc P w 0 (fun _ => true) held f t cs = some x

theorem Shp.int {k : IntKind} (ht : P.underlying t = some (.int k)) (h : Shp enc P w held f t cs) : ∃ n, cs = [.int k n] ∧ (Lit.int k n).wf = true := by
  obtain ⟨x, hx⟩ := h
  obtain ⟨n, h1, _, h2⟩ := DataW.trod_int ht hx
  exact ⟨n, h1, h2⟩
theorem Shp.bool (ht : P.underlying t = some .bool) (h : Shp enc P w held f t cs) : ∃ b, cs = [.bool b] := by
  obtain ⟨x, hx⟩ := h
  obtain ⟨n, h1, _⟩ := DataW.trod_bool ht hx
  exact ⟨n, h1⟩
theorem Shp.string (ht : P.underlying t = some .string) (h : Shp enc P w held f t cs) : ∃ s : ByteArray, cs = [.string s] ∧ s.size ≤ maxLen := by
  obtain ⟨x, hx⟩ := h
  obtain ⟨n, h1, _, h2⟩ := DataW.trod_string ht hx
  exact ⟨n, h1, h2⟩
theorem Shp.struct {fs : Array Field} (ht : P.underlying t = some (.struct fs)) (h : Shp enc P w held f t cs) :
    ∃ n, f = n + 1 ∧ cs.length = P.cellsOf t ∧ ∀ (i : Nat) (fl : Field), fs[i]? = some fl → Shp enc P w held n fl.type ((cs.drop fl.offset).take (P.cellsOf fl.type)) := by
  obtain ⟨x, hx⟩ := h
  obtain ⟨xs, n, h1, _, h2, h3, h4⟩ := DataW.trod_struct ht hx
  refine ⟨n, h1, h2, fun i fl hi => ?_⟩
  have hlt : i < xs.length := by
    rw [h3]
    exact (Array.getElem?_eq_some_iff.1 hi).1
  exact ⟨xs[i], by rw [h4 i fl hi, List.getElem?_eq_getElem hlt]⟩
theorem Shp.array {m : Nat} {e : TypeId} (ht : P.underlying t = some (.array m e)) (h : Shp enc P w held f t cs) :
    ∃ n, f = n + 1 ∧ cs.length = P.cellsOf t ∧ ∀ i, i < m → Shp enc P w held n e ((cs.drop (i * P.cellsOf e)).take (P.cellsOf e)) := by
  obtain ⟨x, hx⟩ := h
  obtain ⟨xs, n, h1, _, h2, h3, h4⟩ := DataW.trod_array ht hx
  exact ⟨n, h1, h2, fun i hi => ⟨xs[i]'(by omega), by rw [h4 i hi, List.getElem?_eq_getElem (by omega)]⟩⟩

theorem cells_all {w : World} {a : Addr} {N : Nat} {g : Nat → Value} (hN : 0 < N) (h : ∀ i, i < N → w.cell? (a.add i) = some (g i)) :
    a.spot = none ∧ isCells w a.block = true ∧ a.block < w.heap.size ∧ ∃ ce : List Value, (m0 w).get a.block = some (.cells (ce.map (absC w)) true) ∧ a.off + N ≤ ce.length ∧ ∀ i, i < N → ce[a.off + i]? = some (g i) := by
  have c0 := h 0 hN
  have hx : a.add 0 = a := by simp [Addr.add]
  rw [hx] at c0
  unfold World.cell? at c0
  split at c0
  · rename_i ce el fr hb
    have hsp : a.spot = none := by
      by_cases h : a.spot.isSome
      · rw [if_pos h] at c0; cases c0
      · simpa using h
    have hlt : a.block < w.heap.size := by
      rcases Nat.lt_or_ge a.block w.heap.size with h | h
      · exact h
      · rw [Array.getElem?_eq_none h] at hb; cases hb
    have hcell : ∀ i, i < N → ce.toList[a.off + i]? = some (g i) := by
      intro i hi
      have := h i hi
      unfold World.cell? Addr.add at this
      by_cases h0 : i = 0
      · subst h0
        simp only [if_true, hb, hsp] at this
        simpa using this
      · simp only [if_neg h0, hb] at this
        simpa using this
    refine ⟨hsp, by simp [isCells, hb], hlt, ce.toList, by simp [m0, hb], ?_, hcell⟩
    have := hcell (N - 1) (by omega)
    rcases Nat.lt_or_ge (a.off + (N - 1)) ce.toList.length with h | h
    · omega
    · rw [List.getElem?_eq_none h] at this; cases this
  · cases c0

theorem add_addr {a : Addr} {i j : Nat} (_ : a.spot = none) : (a.add i).add j = a.add (i + j) := by
  unfold Addr.add
  by_cases h1 : i = 0 <;> by_cases h2 : j = 0 <;> simp [h1, h2, Nat.add_assoc]

theorem Shp.slice {e : TypeId} (ht : P.underlying t = some (.slice e)) (hc : 0 < P.cellsOf e) (h : Shp enc P w held f t cs) :
    ∃ n v A len cap, ∃ l : List Value, f = n + 1 ∧ cs = [v] ∧ absC w v = .slice A len cap ∧ len ≤ cap ∧ Row w.heap.size (m0 w).get (P.cellsOf e) A (len * P.cellsOf e) (l.map (absC w)) ∧ l.length = len * P.cellsOf e ∧
      ∀ i, i < len → Shp enc P w held n e ((l.drop (i * P.cellsOf e)).take (P.cellsOf e)) := by
  obtain ⟨x, hx⟩ := h
  rcases DataW.trod_slice ht hx with ⟨rfl, _⟩ | ⟨a, len, cap, elems, rest, n, rfl, rfl, _, _, hl, hm, he, hel, hsp, _⟩
  · cases f with
    | zero => simp [DataW.trod] at hx
    | succ n => exact ⟨n, _, none, 0, 0, [], rfl, rfl, rfl, Nat.le_refl _, by rw [Nat.zero_mul]; exact .nil, by simp, fun i hi => absurd hi (Nat.not_lt_zero i)⟩
  · obtain ⟨hr, hrest⟩ := hsp rfl
    have one : ∀ i, i < cap → ∃ cs', w.cells? 0 (a.add (i * P.cellsOf e)) (P.cellsOf e) = some cs' ∧ Shp enc P w held n e cs' := by
      intro i hi
      rcases Nat.lt_or_ge i len with h | h
      · have h1 := hel i h
        rw [List.getElem?_eq_getElem (by omega), Option.bind_eq_some_iff] at h1
        obtain ⟨cs', h1, h2⟩ := h1
        exact ⟨cs', h1, _, h2⟩
      · have h1 := hrest (i - len) (by omega)
        rw [List.getElem?_eq_getElem (by omega), Option.bind_eq_some_iff, show len + (i - len) = i by omega] at h1
        obtain ⟨cs', h1, h2⟩ := h1
        exact ⟨cs', h1, _, h2⟩
    rcases Nat.eq_zero_or_pos cap with h0 | h0
    · subst h0
      have : len = 0 := by omega
      subst this
      exact ⟨n, _, some ⟨a.block, a.off, none⟩, 0, 0, [], rfl, rfl, by simp [absC], Nat.le_refl _, ⟨fun a ha => by injection ha with ha; subst ha; exact .inl rfl, by simp, fun h => by rw [Nat.zero_mul] at h; exact absurd h (Nat.lt_irrefl 0)⟩, by simp, fun i hi => absurd hi (Nat.not_lt_zero i)⟩
    · obtain ⟨cs0, hc0, ht0⟩ := one 0 h0
      obtain ⟨_, hl0, hg0⟩ := World.cells?_some hc0
      have hx0 : a.add (0 * P.cellsOf e) = a := by simp [Addr.add]
      rw [hx0] at hg0
      have hspot : a.spot = none := by
        refine (cells_all (w := w) (a := a) (N := 1) (g := fun i => cs0.getD 0 undef) (by omega) fun i hi => ?_).1
        have : i = 0 := by omega
        subst this
        rw [hg0 0 hc, List.getD_eq_getElem?_getD, List.getElem?_eq_getElem (by omega)]
        rfl
      have hpos : 0 < cap * P.cellsOf e := Nat.mul_pos h0 hc
      have hall : ∀ j, j < cap * P.cellsOf e → ∃ v, w.cell? (a.add j) = some v := by
        intro j hj
        have hd := Nat.div_add_mod j (P.cellsOf e)
        have hm := Nat.mod_lt j hc
        obtain ⟨cs', h1, _⟩ := one (j / P.cellsOf e) ((Nat.div_lt_iff_lt_mul hc).2 hj)
        obtain ⟨_, h2, h3⟩ := World.cells?_some h1
        have h4 := h3 (j % P.cellsOf e) hm
        rw [add_addr hspot, show j / P.cellsOf e * P.cellsOf e + j % P.cellsOf e = j by rw [Nat.mul_comm]; exact hd, List.getElem?_eq_getElem (by omega)] at h4
        exact ⟨_, h4⟩
      obtain ⟨g, hg⟩ : ∃ g : Nat → Value, ∀ j, j < cap * P.cellsOf e → w.cell? (a.add j) = some (g j) := by
        refine ⟨fun j => (w.cell? (a.add j)).getD undef, fun j hj => ?_⟩
        obtain ⟨v, hv⟩ := hall j hj
        simp only [hv, Option.getD_some]
      obtain ⟨h1, h2, h3, ce, h4, h5, h6⟩ := cells_all hpos hg
      have hle : len * P.cellsOf e ≤ cap * P.cellsOf e := Nat.mul_le_mul_right _ hl
      refine ⟨n, _, some a, len, cap, (ce.drop a.off).take (len * P.cellsOf e), rfl, rfl, ?_, hl, ⟨fun a' ha => by injection ha with ha; subst ha; exact .inl h1, by simp; omega, fun _ => ⟨a, _, true, rfl, h3, h4, by simp; omega, fun i hi => ?_⟩⟩, by simp; omega, fun i hi => ?_⟩
      · obtain ⟨ab, ao, asp⟩ := a
        simp only at h1
        subst h1
        simp [absC, show cap ≠ 0 by omega, hl, h2]
      · rw [List.getD_eq_getElem?_getD, List.getD_eq_getElem?_getD, List.getElem?_map, List.getElem?_map, List.getElem?_take_of_lt hi, List.getElem?_drop]
      · obtain ⟨cs', e1, e2⟩ := one i (by omega)
        obtain ⟨_, e3, e4⟩ := World.cells?_some e1
        have hik : i * P.cellsOf e + P.cellsOf e ≤ len * P.cellsOf e := by
          have := Nat.mul_le_mul_right (P.cellsOf e) (show i + 1 ≤ len by omega)
          rw [Nat.add_mul, Nat.one_mul] at this
          exact this
        have : ((((ce.drop a.off).take (len * P.cellsOf e)).drop (i * P.cellsOf e)).take (P.cellsOf e)) = cs' := by
          refine List.ext_getElem? fun k => ?_
          rcases Nat.lt_or_ge k (P.cellsOf e) with hk | hk
          · rw [List.getElem?_take_of_lt hk, List.getElem?_drop, List.getElem?_take_of_lt (by omega), List.getElem?_drop, h6 _ (by omega), ← hg _ (by omega), ← add_addr h1, e4 k hk]
          · rw [List.getElem?_eq_none (by simp; omega), List.getElem?_eq_none (by omega)]
        rw [this]
        exact e2

theorem Shp.bytes {e : TypeId} (ht : P.underlying t = some (.slice e)) (he : P.underlying e = some (.int .u8)) (hc : P.cellsOf e = 1) (h : Shp enc P w held f t cs) :
    ∃ v A len cap, ∃ l : List UInt8, cs = [v] ∧ absC w v = .slice A len cap ∧ len ≤ cap ∧ Row w.heap.size (m0 w).get 1 A len (l.map u8V) := by
  obtain ⟨n, v, A, len, cap, l, rfl, h1, h2, h3, h4, h5, h6⟩ := h.slice ht (by omega)
  rw [hc, Nat.mul_one] at h4 h5
  refine ⟨v, A, len, cap, l.map fun v => UInt8.ofNat (intOf (some v)).toNat, h1, h2, h3, ?_⟩
  have : (l.map fun v => UInt8.ofNat (intOf (some v)).toNat).map u8V = l.map (absC w) := by
    rw [List.map_map]
    refine List.map_congr_left fun v hv => ?_
    obtain ⟨i, hi, rfl⟩ := List.getElem_of_mem hv
    obtain ⟨z, e1, e2⟩ := (h6 i (by omega)).int he
    have e1' : l[i] = .int .u8 z := by
      rw [hc, Nat.mul_one, List.drop_eq_getElem_cons hi] at e1
      simp only [List.take_succ_cons, List.take_zero, List.cons.injEq, and_true] at e1
      exact e1
    rw [e1']
    obtain ⟨b1, b2⟩ := wf_u8 e2
    simp only [Function.comp, intOf, u8V, absC, goodV, if_true]
    rw [UInt8.toNat_ofNat']
    congr 1
    omega
  rw [this]
  exact h4
theorem Shp.words {e : TypeId} (ht : P.underlying t = some (.slice e)) (he : P.underlying e = some (.int .u32)) (hc : P.cellsOf e = 1) (h : Shp enc P w held f t cs) :
    ∃ v A len cap, ∃ l : List UInt32, cs = [v] ∧ absC w v = .slice A len cap ∧ len ≤ cap ∧ Row w.heap.size (m0 w).get 1 A len (l.map u32V) := by
  obtain ⟨n, v, A, len, cap, l, rfl, h1, h2, h3, h4, h5, h6⟩ := h.slice ht (by omega)
  rw [hc, Nat.mul_one] at h4 h5
  refine ⟨v, A, len, cap, l.map fun v => UInt32.ofNat (intOf (some v)).toNat, h1, h2, h3, ?_⟩
  have : (l.map fun v => UInt32.ofNat (intOf (some v)).toNat).map u32V = l.map (absC w) := by
    rw [List.map_map]
    refine List.map_congr_left fun v hv => ?_
    obtain ⟨i, hi, rfl⟩ := List.getElem_of_mem hv
    obtain ⟨z, e1, e2⟩ := (h6 i (by omega)).int he
    have e1' : l[i] = .int .u32 z := by
      rw [hc, Nat.mul_one, List.drop_eq_getElem_cons hi] at e1
      simp only [List.take_succ_cons, List.take_zero, List.cons.injEq, and_true] at e1
      exact e1
    rw [e1']
    obtain ⟨b1, b2⟩ := wf_u32 e2
    simp only [Function.comp, intOf, u32V, absC, goodV, if_true]
    rw [UInt32.toNat_ofNat']
    congr 1
    omega
  rw [this]
  exact h4

end
theorem list2 {zs : List Int} (h : zs.length = 2) : ∃ a b, zs = [a, b] := by
  match zs, h with
  | [a, b], _ => exact ⟨a, b, rfl⟩
end Go.Ga

/- A slice of slices of bytes that a law is given. -/
namespace Go.Ga
open Go

/-- Slices of bytes in a row. -/
def RowB (nx : Nat) (gt : Nat → Option Blk) (A : Option Addr) (n : Nat) (ls : List (List UInt8)) : Prop := ls.length = n ∧ (∀ a, A = some a → a.spot = none ∨ a.spot = some 1) ∧ (0 < n → ∃ a ce ro, A = some a ∧ a.block < nx ∧ gt a.block = some (.cells ce ro) ∧ a.off + n ≤ ce.length ∧
  ∀ i, i < n → ∃ B m d, ce.getD (a.off + i) undef = .slice B m d ∧ m ≤ d ∧ Row nx gt 1 B m ((ls.getD i []).map u8V))
theorem RowB.keep {nx gt A n ls nx' gt'} (h : RowB nx gt A n ls) (h1 : nx ≤ nx') (h2 : ∀ p, p < nx → gt' p = gt p) : RowB nx' gt' A n ls := by
  refine ⟨h.1, h.2.1, fun h0 => ?_⟩
  obtain ⟨a, ce, ro, e1, e2, e3, e4, e5⟩ := h.2.2 h0
  refine ⟨a, ce, ro, e1, by omega, by rw [h2 _ e2, e3], e4, fun i hi => ?_⟩
  obtain ⟨B, m, d, f1, f2, f3⟩ := e5 i hi
  exact ⟨B, m, d, f1, f2, f3.keep h1 h2⟩

section
variable {H : Type} {enc : TypeId × Value → H} {P : Program} {w : World} {held : Bool} {t : TypeId}

end
end Go.Ga

/- A key and a hash that a law is given. -/
namespace Go.Ga
open Go

section
variable {H : Type} {enc : TypeId × Value → H} {P : Program} {w : World} {held : Bool} {t : TypeId}

end
end Go.Ga
