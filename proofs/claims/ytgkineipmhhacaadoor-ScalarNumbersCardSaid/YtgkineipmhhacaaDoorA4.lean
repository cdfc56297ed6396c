/- Words and contracts of functions for the statement's proof. No condition. -/
import Derived.Test.YtgkineipmhhacaaDoorA3
import Derived.ChangeArms
import Derived.OpenShut
import Derived.DataReads
set_option linter.all false

/- An object's name as an element. -/
namespace Go.Ga
open Go Go.Proofs
set_option linter.unusedSimpArgs false
set_option linter.unusedVariables false
set_option maxRecDepth 100000
attribute [local irreducible] appendK

def oidOk : List UInt32 → Bool
  | a :: b :: t => decide (t.length ≤ 18) && decide (a.toNat ≤ 2) && decide (b.toNat ≤ 4294967200) && (decide (a.toNat = 2) || decide (b.toNat ≤ 39))
  | _ => false
def svs : List UInt32 → List UInt8
  | [] => []
  | x :: t => sv x.toNat ++ svs t
theorem svs_app (a b : List UInt32) : svs (a ++ b) = svs a ++ svs b := by
  induction a with
  | nil => rfl
  | cons x t ih => simp [svs, ih]
theorem svs_len (l : List UInt32) : (svs l).length ≤ 10 * l.length := by
  induction l with
  | nil => simp [svs]
  | cons x t ih =>
    have := sv_len (n := x.toNat) (by have := x.toNat_lt; omega)
    simp only [svs, List.length_append, List.length_cons]; omega
def oidB : List UInt32 → List UInt8
  | a :: b :: t => sv (a.toNat * 40 + b.toNat) ++ svs t
  | _ => []
def oidR (l : List UInt32) : Except Nat Fo.El := if oidOk l then .ok ⟨6, oidB l, .nil⟩ else .error 1
theorem take_next {l : List UInt32} {i : Nat} (h : i < l.length) : l.take (i + 1) = l.take i ++ [l.getD i 0] := by
  rw [List.take_add_one, List.getElem?_eq_getElem h, List.getD_eq_getElem?_getD, List.getElem?_eq_getElem h]; rfl

section
variable {nx : Nat} {gt : Nat → Option Blk}

theorem end_nT {b nx : Nat} {gt : Nat → Option Blk} {f : Regs} {i j x' q : Nat} {g' : Nat → Option Blk} {t : Int} {B : Option Addr} {m d : Nat} {A : Option Addr} {n c : Nat} {ro : Bool} {w : Value} {C : Value → Nat → (Nat → Option Blk) → Prop} (h8 : f i = .pointer (some ⟨q, 0, none⟩)) (hw : f j = w) (hg : g' q = some (.cells (nodeL t B m d A n c) ro))
    (h1 : nx ≤ x') (h2 : ∀ n, n < nx → g' n = gt n) (h3 : C (.tuple #[nodeV t B m d A n c, w]) x' g') : endK [.cN i 3, .t j] b nx gt C .ret f ⟨x', b, g'⟩ := by
  rw [end_r, res_cN h8 hg (by simp [nodeL]), res_t, res_nil]
  simp only [Option.map_some, asO_e, one2, List.drop_zero, hw]
  rw [List.take_of_length_le (by simp [nodeL])]
  exact ⟨trivial, h1, h2, h3⟩

theorem ct_Oid {A : Option Addr} {n c : Nat} {l : List UInt32} (hA : Row nx gt 1 A n (l.map u32V)) (hc : n ≤ c) (hn : n ≤ 1000000000) :
    Ct Tryd.prog 28 [.slice A n c] nx gt fun v x g => NErr nx x g v (oidR l) := by
  have hl : l.length = n := by simpa using hA.len
  refine Ct.of hmx r_scalar_Oid (by simp [c_scalar_Oid]) fun b hb => ?_
  have hF : ∀ q, q < nx → upd gt nx (some (.cells [Value.int .i64 0, .slice none 0 0, .slice none 0 0] false)) q = gt q := fun q hq => by simp only [upd_e]; rw [if_neg (by omega)]
  have hb0 : upd gt nx (some (.cells [Value.int .i64 0, .slice none 0 0, .slice none 0 0] false)) nx = some (.cells [Value.int .i64 0, .slice none 0 0, .slice none 0 0] false) := by simp only [upd_e, if_true]
  by_cases h2 : (n : Int) < 2
  · have hr : oidR l = .error 1 := by
      rcases l with _ | ⟨a, _ | ⟨b, t⟩⟩ <;> first | rfl | (simp only [List.length_cons] at hl; omega)
    rw [hr]
    simp only [c_scalar_Oid, ↓gaW, ↓gaV, ↓gaC, ↓gaN, gaP, Nat.reduceEqDiff, Nat.reduceLeDiff, Nat.reduceAdd, Nat.reduceSub, Nat.reduceMul, Int.reduceLT, Int.reduceLE, Int.reduceEq, Int.reduceToNat, Int.reduceAdd, Int.reduceSub, Int.reduceMul, reduceCtorEq, ↓reduceIte, List.getD_cons_zero, List.getD_cons_succ, fillL, splice, List.take_zero, List.drop_zero, List.drop_succ_cons, List.take_succ_cons, List.drop_nil, List.take_nil, gaU, h2, decide_true]
    repeat refine And.intro (by omega) ?_
    refine And.intro (node_cells _ _ _ _ _ _ _) ?_
    exact end_nT (q := nx) (t := 0) (B := none) (m := 0) (d := 0) (A := none) (n := 0) (c := 0) (ro := false) (w := .int .i64 1) (by first | (simp only [↓gaW, ↓gaV, ↓gaC, ↓gaN, gaP, Nat.reduceEqDiff, Nat.reduceLeDiff, Nat.reduceAdd, Nat.reduceSub, Nat.reduceMul, Int.reduceLT, Int.reduceLE, Int.reduceEq, Int.reduceToNat, Int.reduceAdd, Int.reduceSub, Int.reduceMul, reduceCtorEq, ↓reduceIte]; done) | (simp only [↓gaW, ↓gaV, ↓gaC, ↓gaN, gaP, Nat.reduceEqDiff, Nat.reduceLeDiff, Nat.reduceAdd, Nat.reduceSub, Nat.reduceMul, Int.reduceLT, Int.reduceLE, Int.reduceEq, Int.reduceToNat, Int.reduceAdd, Int.reduceSub, Int.reduceMul, reduceCtorEq, ↓reduceIte]; rfl)) (by first | (simp only [↓gaW, ↓gaV, ↓gaC, ↓gaN, gaP, Nat.reduceEqDiff, Nat.reduceLeDiff, Nat.reduceAdd, Nat.reduceSub, Nat.reduceMul, Int.reduceLT, Int.reduceLE, Int.reduceEq, Int.reduceToNat, Int.reduceAdd, Int.reduceSub, Int.reduceMul, reduceCtorEq, ↓reduceIte]; done) | (simp only [↓gaW, ↓gaV, ↓gaC, ↓gaN, gaP, Nat.reduceEqDiff, Nat.reduceLeDiff, Nat.reduceAdd, Nat.reduceSub, Nat.reduceMul, Int.reduceLT, Int.reduceLE, Int.reduceEq, Int.reduceToNat, Int.reduceAdd, Int.reduceSub, Int.reduceMul, reduceCtorEq, ↓reduceIte]; rfl)) (by simp only [upd_e, if_true]) (by omega) (fun p hp => by simp only [upd_e]; rw [if_neg (by omega), if_neg (by omega)]) ⟨rfl, by omega⟩
  by_cases h20 : (20 : Int) < (n : Int)
  · have hr : oidR l = .error 1 := by
      rcases l with _ | ⟨a, _ | ⟨b, t⟩⟩
      · rfl
      · rfl
      · simp only [List.length_cons] at hl
        simp only [oidR, oidOk, decide_eq_false (show ¬ t.length ≤ 18 by omega), Bool.false_and, Bool.false_eq_true, if_false]
    rw [hr]
    simp only [c_scalar_Oid, ↓gaW, ↓gaV, ↓gaC, ↓gaN, gaP, Nat.reduceEqDiff, Nat.reduceLeDiff, Nat.reduceAdd, Nat.reduceSub, Nat.reduceMul, Int.reduceLT, Int.reduceLE, Int.reduceEq, Int.reduceToNat, Int.reduceAdd, Int.reduceSub, Int.reduceMul, reduceCtorEq, ↓reduceIte, List.getD_cons_zero, List.getD_cons_succ, fillL, splice, List.take_zero, List.drop_zero, List.drop_succ_cons, List.take_succ_cons, List.drop_nil, List.take_nil, gaU, h2, decide_false, h20, decide_true]
    repeat refine And.intro (by omega) ?_
    refine And.intro (node_cells _ _ _ _ _ _ _) ?_
    exact end_nT (q := nx) (t := 0) (B := none) (m := 0) (d := 0) (A := none) (n := 0) (c := 0) (ro := false) (w := .int .i64 1) (by first | (simp only [↓gaW, ↓gaV, ↓gaC, ↓gaN, gaP, Nat.reduceEqDiff, Nat.reduceLeDiff, Nat.reduceAdd, Nat.reduceSub, Nat.reduceMul, Int.reduceLT, Int.reduceLE, Int.reduceEq, Int.reduceToNat, Int.reduceAdd, Int.reduceSub, Int.reduceMul, reduceCtorEq, ↓reduceIte]; done) | (simp only [↓gaW, ↓gaV, ↓gaC, ↓gaN, gaP, Nat.reduceEqDiff, Nat.reduceLeDiff, Nat.reduceAdd, Nat.reduceSub, Nat.reduceMul, Int.reduceLT, Int.reduceLE, Int.reduceEq, Int.reduceToNat, Int.reduceAdd, Int.reduceSub, Int.reduceMul, reduceCtorEq, ↓reduceIte]; rfl)) (by first | (simp only [↓gaW, ↓gaV, ↓gaC, ↓gaN, gaP, Nat.reduceEqDiff, Nat.reduceLeDiff, Nat.reduceAdd, Nat.reduceSub, Nat.reduceMul, Int.reduceLT, Int.reduceLE, Int.reduceEq, Int.reduceToNat, Int.reduceAdd, Int.reduceSub, Int.reduceMul, reduceCtorEq, ↓reduceIte]; done) | (simp only [↓gaW, ↓gaV, ↓gaC, ↓gaN, gaP, Nat.reduceEqDiff, Nat.reduceLeDiff, Nat.reduceAdd, Nat.reduceSub, Nat.reduceMul, Int.reduceLT, Int.reduceLE, Int.reduceEq, Int.reduceToNat, Int.reduceAdd, Int.reduceSub, Int.reduceMul, reduceCtorEq, ↓reduceIte]; rfl)) (by simp only [upd_e, if_true]) (by omega) (fun p hp => by simp only [upd_e]; rw [if_neg (by omega), if_neg (by omega)]) ⟨rfl, by omega⟩
  obtain ⟨x, y, t, rfl⟩ : ∃ x y t, l = x :: y :: t := by
    rcases l with _ | ⟨x, _ | ⟨y, t⟩⟩
    · simp only [List.length_nil] at hl; omega
    · simp only [List.length_cons, List.length_nil] at hl; omega
    · exact ⟨_, _, _, rfl⟩
  simp only [List.length_cons] at hl
  obtain ⟨a, cl, ro, rfl, r2, r3, r4, r5⟩ := hA.cells (by omega)
  have hq : upd gt nx (some (.cells [Value.int .i64 0, .slice none 0 0, .slice none 0 0] false)) a.block = some (.cells cl ro) := by rw [hF _ r2, r3]
  have hqn : (a.block = nx) = False := by simp; omega
  have c0 : cl.getD a.off undef = .int .u32 (x.toNat : Nat) := by have := r5 0 (by omega); rw [Nat.add_zero] at this; rw [this]; rfl
  have c1 : cl.getD (a.off + 1) undef = .int .u32 (y.toNat : Nat) := by rw [r5 1 (by omega)]; rfl
  have hx := x.toNat_lt
  have hy := y.toNat_lt
  have hx1 : ¬ (2 : Int) < (x.toNat : Int) ↔ x.toNat ≤ 2 := by omega
  by_cases hx2 : (2 : Int) < (x.toNat : Int)
  · have hr : oidR (x :: y :: t) = .error 1 := by
      simp only [oidR, oidOk, decide_eq_false (show ¬ x.toNat ≤ 2 by omega), Bool.and_false, Bool.false_and, Bool.false_eq_true, if_false]
    rw [hr]
    simp only [c_scalar_Oid, ↓gaW, ↓gaV, ↓gaC, ↓gaN, gaP, Nat.reduceEqDiff, Nat.reduceLeDiff, Nat.reduceAdd, Nat.reduceSub, Nat.reduceMul, Int.reduceLT, Int.reduceLE, Int.reduceEq, Int.reduceToNat, Int.reduceAdd, Int.reduceSub, Int.reduceMul, reduceCtorEq, ↓reduceIte, List.getD_cons_zero, List.getD_cons_succ, fillL, splice, List.take_zero, List.drop_zero, List.drop_succ_cons, List.take_succ_cons, List.drop_nil, List.take_nil, gaU, h2, decide_false, h20, hqn, r3, c0, hx2, decide_true]
    repeat refine And.intro (by omega) ?_
    refine And.intro (node_cells _ _ _ _ _ _ _) ?_
    exact end_nT (q := nx) (t := 0) (B := none) (m := 0) (d := 0) (A := none) (n := 0) (c := 0) (ro := false) (w := .int .i64 1) (by first | (simp only [↓gaW, ↓gaV, ↓gaC, ↓gaN, gaP, Nat.reduceEqDiff, Nat.reduceLeDiff, Nat.reduceAdd, Nat.reduceSub, Nat.reduceMul, Int.reduceLT, Int.reduceLE, Int.reduceEq, Int.reduceToNat, Int.reduceAdd, Int.reduceSub, Int.reduceMul, reduceCtorEq, ↓reduceIte]; done) | (simp only [↓gaW, ↓gaV, ↓gaC, ↓gaN, gaP, Nat.reduceEqDiff, Nat.reduceLeDiff, Nat.reduceAdd, Nat.reduceSub, Nat.reduceMul, Int.reduceLT, Int.reduceLE, Int.reduceEq, Int.reduceToNat, Int.reduceAdd, Int.reduceSub, Int.reduceMul, reduceCtorEq, ↓reduceIte]; rfl)) (by first | (simp only [↓gaW, ↓gaV, ↓gaC, ↓gaN, gaP, Nat.reduceEqDiff, Nat.reduceLeDiff, Nat.reduceAdd, Nat.reduceSub, Nat.reduceMul, Int.reduceLT, Int.reduceLE, Int.reduceEq, Int.reduceToNat, Int.reduceAdd, Int.reduceSub, Int.reduceMul, reduceCtorEq, ↓reduceIte]; done) | (simp only [↓gaW, ↓gaV, ↓gaC, ↓gaN, gaP, Nat.reduceEqDiff, Nat.reduceLeDiff, Nat.reduceAdd, Nat.reduceSub, Nat.reduceMul, Int.reduceLT, Int.reduceLE, Int.reduceEq, Int.reduceToNat, Int.reduceAdd, Int.reduceSub, Int.reduceMul, reduceCtorEq, ↓reduceIte]; rfl)) (by simp only [upd_e, if_true]) (by omega) (fun p hp => by simp only [upd_e]; rw [if_neg (by omega), if_neg (by omega)]) ⟨rfl, by omega⟩
  by_cases hy2 : (4294967200 : Int) < (y.toNat : Int)
  · have hr : oidR (x :: y :: t) = .error 1 := by
      simp only [oidR, oidOk, decide_eq_false (show ¬ y.toNat ≤ 4294967200 by omega), Bool.and_false, Bool.false_and, Bool.false_eq_true, if_false]
    rw [hr]
    simp only [c_scalar_Oid, ↓gaW, ↓gaV, ↓gaC, ↓gaN, gaP, Nat.reduceEqDiff, Nat.reduceLeDiff, Nat.reduceAdd, Nat.reduceSub, Nat.reduceMul, Int.reduceLT, Int.reduceLE, Int.reduceEq, Int.reduceToNat, Int.reduceAdd, Int.reduceSub, Int.reduceMul, reduceCtorEq, ↓reduceIte, List.getD_cons_zero, List.getD_cons_succ, fillL, splice, List.take_zero, List.drop_zero, List.drop_succ_cons, List.take_succ_cons, List.drop_nil, List.take_nil, gaU, h2, decide_false, h20, hqn, r3, c0, c1, hx2, hy2, decide_true]
    repeat refine And.intro (by omega) ?_
    refine And.intro (node_cells _ _ _ _ _ _ _) ?_
    exact end_nT (q := nx) (t := 0) (B := none) (m := 0) (d := 0) (A := none) (n := 0) (c := 0) (ro := false) (w := .int .i64 1) (by first | (simp only [↓gaW, ↓gaV, ↓gaC, ↓gaN, gaP, Nat.reduceEqDiff, Nat.reduceLeDiff, Nat.reduceAdd, Nat.reduceSub, Nat.reduceMul, Int.reduceLT, Int.reduceLE, Int.reduceEq, Int.reduceToNat, Int.reduceAdd, Int.reduceSub, Int.reduceMul, reduceCtorEq, ↓reduceIte]; done) | (simp only [↓gaW, ↓gaV, ↓gaC, ↓gaN, gaP, Nat.reduceEqDiff, Nat.reduceLeDiff, Nat.reduceAdd, Nat.reduceSub, Nat.reduceMul, Int.reduceLT, Int.reduceLE, Int.reduceEq, Int.reduceToNat, Int.reduceAdd, Int.reduceSub, Int.reduceMul, reduceCtorEq, ↓reduceIte]; rfl)) (by first | (simp only [↓gaW, ↓gaV, ↓gaC, ↓gaN, gaP, Nat.reduceEqDiff, Nat.reduceLeDiff, Nat.reduceAdd, Nat.reduceSub, Nat.reduceMul, Int.reduceLT, Int.reduceLE, Int.reduceEq, Int.reduceToNat, Int.reduceAdd, Int.reduceSub, Int.reduceMul, reduceCtorEq, ↓reduceIte]; done) | (simp only [↓gaW, ↓gaV, ↓gaC, ↓gaN, gaP, Nat.reduceEqDiff, Nat.reduceLeDiff, Nat.reduceAdd, Nat.reduceSub, Nat.reduceMul, Int.reduceLT, Int.reduceLE, Int.reduceEq, Int.reduceToNat, Int.reduceAdd, Int.reduceSub, Int.reduceMul, reduceCtorEq, ↓reduceIte]; rfl)) (by simp only [upd_e, if_true]) (by omega) (fun p hp => by simp only [upd_e]; rw [if_neg (by omega), if_neg (by omega)]) ⟨rfl, by omega⟩
  have hs1 : ((n : Int) - 2).toNat = t.length := by omega
  have hs2 : ((c : Int) - 2).toNat = c - 2 := by omega
  have hspot := hA.spot a rfl
  by_cases hx3 : (x.toNat : Int) < 2
  · by_cases hy3 : (39 : Int) < (y.toNat : Int)
    · have hr : oidR (x :: y :: t) = .error 1 := by
        simp only [oidR, oidOk, decide_eq_false (show ¬ x.toNat = 2 by omega), decide_eq_false (show ¬ y.toNat ≤ 39 by omega), Bool.or_false, Bool.and_false, Bool.false_eq_true, if_false]
      rw [hr]
      simp only [c_scalar_Oid, ↓gaW, ↓gaV, ↓gaC, ↓gaN, gaP, Nat.reduceEqDiff, Nat.reduceLeDiff, Nat.reduceAdd, Nat.reduceSub, Nat.reduceMul, Int.reduceLT, Int.reduceLE, Int.reduceEq, Int.reduceToNat, Int.reduceAdd, Int.reduceSub, Int.reduceMul, reduceCtorEq, ↓reduceIte, List.getD_cons_zero, List.getD_cons_succ, fillL, splice, List.take_zero, List.drop_zero, List.drop_succ_cons, List.take_succ_cons, List.drop_nil, List.take_nil, gaU, h2, decide_false, h20, hqn, r3, c0, c1, hx2, hy2, hx3, hy3, decide_true]
      repeat refine And.intro (by omega) ?_
      refine And.intro (node_cells _ _ _ _ _ _ _) ?_
      exact end_nT (q := nx) (t := 0) (B := none) (m := 0) (d := 0) (A := none) (n := 0) (c := 0) (ro := false) (w := .int .i64 1) (by first | (simp only [↓gaW, ↓gaV, ↓gaC, ↓gaN, gaP, Nat.reduceEqDiff, Nat.reduceLeDiff, Nat.reduceAdd, Nat.reduceSub, Nat.reduceMul, Int.reduceLT, Int.reduceLE, Int.reduceEq, Int.reduceToNat, Int.reduceAdd, Int.reduceSub, Int.reduceMul, reduceCtorEq, ↓reduceIte]; done) | (simp only [↓gaW, ↓gaV, ↓gaC, ↓gaN, gaP, Nat.reduceEqDiff, Nat.reduceLeDiff, Nat.reduceAdd, Nat.reduceSub, Nat.reduceMul, Int.reduceLT, Int.reduceLE, Int.reduceEq, Int.reduceToNat, Int.reduceAdd, Int.reduceSub, Int.reduceMul, reduceCtorEq, ↓reduceIte]; rfl)) (by first | (simp only [↓gaW, ↓gaV, ↓gaC, ↓gaN, gaP, Nat.reduceEqDiff, Nat.reduceLeDiff, Nat.reduceAdd, Nat.reduceSub, Nat.reduceMul, Int.reduceLT, Int.reduceLE, Int.reduceEq, Int.reduceToNat, Int.reduceAdd, Int.reduceSub, Int.reduceMul, reduceCtorEq, ↓reduceIte]; done) | (simp only [↓gaW, ↓gaV, ↓gaC, ↓gaN, gaP, Nat.reduceEqDiff, Nat.reduceLeDiff, Nat.reduceAdd, Nat.reduceSub, Nat.reduceMul, Int.reduceLT, Int.reduceLE, Int.reduceEq, Int.reduceToNat, Int.reduceAdd, Int.reduceSub, Int.reduceMul, reduceCtorEq, ↓reduceIte]; rfl)) (by simp only [upd_e, if_true]) (by omega) (fun p hp => by simp only [upd_e]; rw [if_neg (by omega), if_neg (by omega)]) ⟨rfl, by omega⟩
    · have hr : oidR (x :: y :: t) = .ok ⟨6, oidB (x :: y :: t), .nil⟩ := by
        simp only [oidR, oidOk, decide_eq_true (show t.length ≤ 18 by omega), decide_eq_true (show x.toNat ≤ 2 by omega), decide_eq_true (show y.toNat ≤ 4294967200 by omega), decide_eq_true (show y.toNat ≤ 39 by omega), Bool.or_true, Bool.and_true, if_true]
      rw [hr]
      have e1 : IntKind.u64.wrap (IntKind.u64.wrap (IntKind.u64.wrap (x.toNat : Int) * 40) + IntKind.u64.wrap (y.toNat : Int)) = ((x.toNat * 40 + y.toNat : Nat) : Int) := by simp only [u64_w]; omega
      simp only [c_scalar_Oid, ↓gaW, ↓gaV, ↓gaC, ↓gaN, gaP, Nat.reduceEqDiff, Nat.reduceLeDiff, Nat.reduceAdd, Nat.reduceSub, Nat.reduceMul, Int.reduceLT, Int.reduceLE, Int.reduceEq, Int.reduceToNat, Int.reduceAdd, Int.reduceSub, Int.reduceMul, reduceCtorEq, ↓reduceIte, List.getD_cons_zero, List.getD_cons_succ, fillL, splice, List.take_zero, List.drop_zero, List.drop_succ_cons, List.take_succ_cons, List.drop_nil, List.take_nil, gaU, h2, decide_false, h20, hqn, r3, c0, c1, hx2, hy2, hx3, hy3, decide_true, e1]
      generalize upd gt nx (some (.cells [Value.int .i64 0, .slice none 0 0, .slice none 0 0] false)) = g0 at *
      repeat refine And.intro (by omega) ?_
      refine callB_of (cb_seven (n := x.toNat * 40 + y.toNat) (base := nx + 1) (by omega) (by omega) (Nat.le_refl _) Own.nil (l := []) (by omega)) fun v x1 g1 l1 k1 hC => ?_
      obtain ⟨A1, rfl, hO1⟩ := hC
      simp only [Nat.zero_add, List.nil_append] at hO1
      have F1 : ∀ p, p < nx → g1 p = gt p := fun p hp => by rw [k1 p (by omega), hF p hp]
      simp only [↓gaW, ↓gaV, ↓gaC, ↓gaN, gaP, Nat.reduceEqDiff, Nat.reduceLeDiff, Nat.reduceAdd, Nat.reduceSub, Nat.reduceMul, Int.reduceLT, Int.reduceLE, Int.reduceEq, Int.reduceToNat, Int.reduceAdd, Int.reduceSub, Int.reduceMul, reduceCtorEq, ↓reduceIte, List.getD_cons_zero, List.getD_cons_succ, fillL, splice, List.take_zero, List.drop_zero, List.drop_succ_cons, List.take_succ_cons, List.drop_nil, List.take_nil, Nat.zero_add, hs1, hs2]
      repeat refine And.intro (by omega) ?_
      refine And.intro (by rcases hspot with h | h <;> simp [h]) ?_
      have hb1 : g1 nx = some (.cells [Value.int .i64 0, .slice none 0 0, .slice none 0 0] false) := by rw [k1 nx (by omega), hb0]
      have hsv := sv_len (n := x.toNat * 40 + y.toNat) (by omega)
      have hst := svs_len t
      obtain ⟨P, hP⟩ : ∃ P, P = sv (x.toNat * 40 + y.toNat) := ⟨_, rfl⟩
      rw [← hP] at hO1 hsv
      have hoB : oidB (x :: y :: t) = P ++ svs t := by rw [hP]; rfl
      rw [hoB]
      refine loop_of (fun j f mm => ∃ (i x2 : Nat) (g : Nat → Option Blk) (A' : Option Addr), j = t.length - i ∧ i ≤ t.length ∧ f 2 = .pointer (some ⟨nx, 0, none⟩) ∧ f 4 = .slice A' (P.length + (svs (t.take i)).length) (P.length + (svs (t.take i)).length) ∧ f 52 = .slice (some ⟨a.block, a.off + 2, a.spot⟩) t.length (c - 2) ∧ f 53 = .int .i64 (t.length : Nat) ∧ f 54 = .int .i64 (i : Nat) ∧
        mm = ⟨x2, b, g⟩ ∧ nx + 1 ≤ x2 ∧ (∀ p, p < nx + 1 → g p = g1 p) ∧ Own (nx + 1) b x2 g 1 A' (P.length + (svs (t.take i)).length) ((P ++ svs (t.take i)).map u8V)) t.length
        ⟨0, x1, g1, A1, by omega, by omega, (by first | (simp only [↓gaW, ↓gaV, ↓gaC, ↓gaN, gaP, Nat.reduceEqDiff, Nat.reduceLeDiff, Nat.reduceAdd, Nat.reduceSub, Nat.reduceMul, Int.reduceLT, Int.reduceLE, Int.reduceEq, Int.reduceToNat, Int.reduceAdd, Int.reduceSub, Int.reduceMul, reduceCtorEq, ↓reduceIte]; done) | (simp only [↓gaW, ↓gaV, ↓gaC, ↓gaN, gaP, Nat.reduceEqDiff, Nat.reduceLeDiff, Nat.reduceAdd, Nat.reduceSub, Nat.reduceMul, Int.reduceLT, Int.reduceLE, Int.reduceEq, Int.reduceToNat, Int.reduceAdd, Int.reduceSub, Int.reduceMul, reduceCtorEq, ↓reduceIte]; rfl)), (by rw [hP]; simp only [↓gaW, ↓gaV, ↓gaC, ↓gaN, gaP, Nat.reduceEqDiff, Nat.reduceLeDiff, Nat.reduceAdd, Nat.reduceSub, Nat.reduceMul, Int.reduceLT, Int.reduceLE, Int.reduceEq, Int.reduceToNat, Int.reduceAdd, Int.reduceSub, Int.reduceMul, reduceCtorEq, ↓reduceIte, List.getD_cons_zero, List.getD_cons_succ, fillL, splice, List.take_zero, List.drop_zero, List.drop_succ_cons, List.take_succ_cons, List.drop_nil, List.take_nil, svs, List.length_nil, Nat.add_zero]), (by first | (simp only [↓gaW, ↓gaV, ↓gaC, ↓gaN, gaP, Nat.reduceEqDiff, Nat.reduceLeDiff, Nat.reduceAdd, Nat.reduceSub, Nat.reduceMul, Int.reduceLT, Int.reduceLE, Int.reduceEq, Int.reduceToNat, Int.reduceAdd, Int.reduceSub, Int.reduceMul, reduceCtorEq, ↓reduceIte]; done) | (simp only [↓gaW, ↓gaV, ↓gaC, ↓gaN, gaP, Nat.reduceEqDiff, Nat.reduceLeDiff, Nat.reduceAdd, Nat.reduceSub, Nat.reduceMul, Int.reduceLT, Int.reduceLE, Int.reduceEq, Int.reduceToNat, Int.reduceAdd, Int.reduceSub, Int.reduceMul, reduceCtorEq, ↓reduceIte]; rfl)), (by first | (simp only [↓gaW, ↓gaV, ↓gaC, ↓gaN, gaP, Nat.reduceEqDiff, Nat.reduceLeDiff, Nat.reduceAdd, Nat.reduceSub, Nat.reduceMul, Int.reduceLT, Int.reduceLE, Int.reduceEq, Int.reduceToNat, Int.reduceAdd, Int.reduceSub, Int.reduceMul, reduceCtorEq, ↓reduceIte]; done) | (simp only [↓gaW, ↓gaV, ↓gaC, ↓gaN, gaP, Nat.reduceEqDiff, Nat.reduceLeDiff, Nat.reduceAdd, Nat.reduceSub, Nat.reduceMul, Int.reduceLT, Int.reduceLE, Int.reduceEq, Int.reduceToNat, Int.reduceAdd, Int.reduceSub, Int.reduceMul, reduceCtorEq, ↓reduceIte]; rfl)), (by first | (simp only [↓gaW, ↓gaV, ↓gaC, ↓gaN, gaP, Nat.reduceEqDiff, Nat.reduceLeDiff, Nat.reduceAdd, Nat.reduceSub, Nat.reduceMul, Int.reduceLT, Int.reduceLE, Int.reduceEq, Int.reduceToNat, Int.reduceAdd, Int.reduceSub, Int.reduceMul, reduceCtorEq, ↓reduceIte]; done) | (simp only [↓gaW, ↓gaV, ↓gaC, ↓gaN, gaP, Nat.reduceEqDiff, Nat.reduceLeDiff, Nat.reduceAdd, Nat.reduceSub, Nat.reduceMul, Int.reduceLT, Int.reduceLE, Int.reduceEq, Int.reduceToNat, Int.reduceAdd, Int.reduceSub, Int.reduceMul, reduceCtorEq, ↓reduceIte]; rfl)), rfl, by omega, fun _ _ => rfl, by simpa [svs] using hO1⟩ ?_
      rintro j f mm ⟨i, x2, g2, A2, hj, hi, f2, f4, f52, f53, f54, rfl, hx2, F2, hO2⟩
      have hsi := svs_len (t.take i)
      have htk : (t.take i).length = i := by rw [List.length_take]; omega
      by_cases hlt : (i : Int) < (t.length : Int)
      · have c2 : cl.getD (a.off + 2 + i) undef = .int .u32 ((t.getD i 0).toNat : Nat) := by
          have := r5 (2 + i) (by omega)
          rw [← Nat.add_assoc] at this
          rw [this]
          have h3 : ((x :: y :: t).map u32V).getD (2 + i) undef = .int .u32 (((x :: y :: t).getD (2 + i) 0).toNat : Nat) := getD_u32 (by simp only [List.length_cons]; omega)
          rw [h3, Nat.add_comm 2 i]; rfl
        have h2q : g2 a.block = some (.cells cl ro) := by rw [F2 _ (by omega), F1 _ r2, r3]
        have hz := (t.getD i 0).toNat_lt
        have i1 : IntKind.u64.wrap ((t.getD i 0).toNat : Int) = ((t.getD i 0).toNat : Int) := by rw [u64_w]; omega
        have i3 : IntKind.i64.wrap ((i : Int) + 1) = ((i + 1 : Nat) : Int) := by rw [i64_w _ (by omega)]; omega
        simp only [↓gaW, ↓gaV, ↓gaC, ↓gaN, gaP, Nat.reduceEqDiff, Nat.reduceLeDiff, Nat.reduceAdd, Nat.reduceSub, Nat.reduceMul, Int.reduceLT, Int.reduceLE, Int.reduceEq, Int.reduceToNat, Int.reduceAdd, Int.reduceSub, Int.reduceMul, reduceCtorEq, ↓reduceIte, List.getD_cons_zero, List.getD_cons_succ, fillL, splice, List.take_zero, List.drop_zero, List.drop_succ_cons, List.take_succ_cons, List.drop_nil, List.take_nil, f4, f52, f53, f54, hlt, decide_true, h2q, c2, i1]
        repeat refine And.intro (by omega) ?_
        refine callB_of (cb_seven (n := (t.getD i 0).toNat) (base := nx + 1) (by omega) (by omega) hx2 hO2 (by omega)) fun v x3 g3 l3 k3 hC => ?_
        obtain ⟨A3, rfl, hO3⟩ := hC
        have e5 : P.length + (svs (t.take i)).length + (sv (t.getD i 0).toNat).length = P.length + (svs (t.take (i + 1))).length := by
          rw [take_next (by omega), svs_app]; simp [svs]; omega
        have e6 : P ++ svs (t.take i) ++ sv (t.getD i 0).toNat = P ++ svs (t.take (i + 1)) := by
          rw [take_next (by omega), svs_app]; simp [svs]
        rw [e5, e6] at hO3
        rw [e5]
        simp only [↓gaW, ↓gaV, ↓gaC, ↓gaN, gaP, Nat.reduceEqDiff, Nat.reduceLeDiff, Nat.reduceAdd, Nat.reduceSub, Nat.reduceMul, Int.reduceLT, Int.reduceLE, Int.reduceEq, Int.reduceToNat, Int.reduceAdd, Int.reduceSub, Int.reduceMul, reduceCtorEq, ↓reduceIte, List.getD_cons_zero, List.getD_cons_succ, fillL, splice, List.take_zero, List.drop_zero, List.drop_succ_cons, List.take_succ_cons, List.drop_nil, List.take_nil, f2, f54, i3, loopK_n]
        refine ⟨t.length - (i + 1), by omega, i + 1, x3, g3, A3, rfl, by omega, rfl, f52, f53, rfl, rfl, by omega, fun p hp => by rw [k3 p hp, F2 p hp], hO3⟩
      · have hit : i = t.length := by omega
        rw [hit, List.take_length] at hO2 f4
        have hb2 : g2 nx = some (.cells [Value.int .i64 0, .slice none 0 0, .slice none 0 0] false) := by rw [F2 nx (by omega), hb1]
        simp only [↓gaW, ↓gaV, ↓gaC, ↓gaN, gaP, Nat.reduceEqDiff, Nat.reduceLeDiff, Nat.reduceAdd, Nat.reduceSub, Nat.reduceMul, Int.reduceLT, Int.reduceLE, Int.reduceEq, Int.reduceToNat, Int.reduceAdd, Int.reduceSub, Int.reduceMul, reduceCtorEq, ↓reduceIte, List.getD_cons_zero, List.getD_cons_succ, fillL, splice, List.take_zero, List.drop_zero, List.drop_succ_cons, List.take_succ_cons, List.drop_nil, List.take_nil, f2, f4, f52, f53, f54, hlt, decide_false, hb2]
        repeat refine And.intro (by omega) ?_
        refine And.intro (node_cells _ _ _ _ _ _ _) ?_
        have ext : ∀ (cs : List Value), (∀ p, p ≠ nx → upd g2 nx (some (.cells cs false)) p = g2 p) := fun cs p hp => by simp only [upd_e]; rw [if_neg hp]
        refine end_nT (q := nx) (t := 6) (B := A2) (m := P.length + (svs t).length) (d := P.length + (svs t).length) (A := none) (n := 0) (c := 0) (ro := false) (w := .int .i64 0) (by simp only [↓gaW, ↓gaV, ↓gaC, ↓gaN, gaP, Nat.reduceEqDiff, Nat.reduceLeDiff, Nat.reduceAdd, Nat.reduceSub, Nat.reduceMul, Int.reduceLT, Int.reduceLE, Int.reduceEq, Int.reduceToNat, Int.reduceAdd, Int.reduceSub, Int.reduceMul, reduceCtorEq, ↓reduceIte, f2]) (by first | (simp only [↓gaW, ↓gaV, ↓gaC, ↓gaN, gaP, Nat.reduceEqDiff, Nat.reduceLeDiff, Nat.reduceAdd, Nat.reduceSub, Nat.reduceMul, Int.reduceLT, Int.reduceLE, Int.reduceEq, Int.reduceToNat, Int.reduceAdd, Int.reduceSub, Int.reduceMul, reduceCtorEq, ↓reduceIte]; done) | (simp only [↓gaW, ↓gaV, ↓gaC, ↓gaN, gaP, Nat.reduceEqDiff, Nat.reduceLeDiff, Nat.reduceAdd, Nat.reduceSub, Nat.reduceMul, Int.reduceLT, Int.reduceLE, Int.reduceEq, Int.reduceToNat, Int.reduceAdd, Int.reduceSub, Int.reduceMul, reduceCtorEq, ↓reduceIte]; rfl)) (by simp only [upd_e, if_true]) (by omega) (fun p hp => by rw [ext _ p (by omega), F2 p (by omega), F1 p hp]) ⟨_, rfl, ?_⟩
        have hrl := hO2.rowL
        rw [Nat.mul_one] at hrl
        exact NodeIs.leaf (by omega) ((hrl.keep (Nat.le_refl _) fun p hp _ => ext _ p (by omega)).wid (by omega)) (Nat.le_refl _)
  · have hr : oidR (x :: y :: t) = .ok ⟨6, oidB (x :: y :: t), .nil⟩ := by
      simp only [oidR, oidOk, decide_eq_true (show t.length ≤ 18 by omega), decide_eq_true (show x.toNat ≤ 2 by omega), decide_eq_true (show y.toNat ≤ 4294967200 by omega), decide_eq_true (show x.toNat = 2 by omega), Bool.true_or, Bool.and_true, if_true]
    rw [hr]
    have e1 : IntKind.u64.wrap (IntKind.u64.wrap (IntKind.u64.wrap (x.toNat : Int) * 40) + IntKind.u64.wrap (y.toNat : Int)) = ((x.toNat * 40 + y.toNat : Nat) : Int) := by simp only [u64_w]; omega
    simp only [c_scalar_Oid, ↓gaW, ↓gaV, ↓gaC, ↓gaN, gaP, Nat.reduceEqDiff, Nat.reduceLeDiff, Nat.reduceAdd, Nat.reduceSub, Nat.reduceMul, Int.reduceLT, Int.reduceLE, Int.reduceEq, Int.reduceToNat, Int.reduceAdd, Int.reduceSub, Int.reduceMul, reduceCtorEq, ↓reduceIte, List.getD_cons_zero, List.getD_cons_succ, fillL, splice, List.take_zero, List.drop_zero, List.drop_succ_cons, List.take_succ_cons, List.drop_nil, List.take_nil, gaU, h2, decide_false, h20, hqn, r3, c0, c1, hx2, hy2, hx3, decide_true, e1]
    generalize upd gt nx (some (.cells [Value.int .i64 0, .slice none 0 0, .slice none 0 0] false)) = g0 at *
    repeat refine And.intro (by omega) ?_
    refine callB_of (cb_seven (n := x.toNat * 40 + y.toNat) (base := nx + 1) (by omega) (by omega) (Nat.le_refl _) Own.nil (l := []) (by omega)) fun v x1 g1 l1 k1 hC => ?_
    obtain ⟨A1, rfl, hO1⟩ := hC
    simp only [Nat.zero_add, List.nil_append] at hO1
    have F1 : ∀ p, p < nx → g1 p = gt p := fun p hp => by rw [k1 p (by omega), hF p hp]
    simp only [↓gaW, ↓gaV, ↓gaC, ↓gaN, gaP, Nat.reduceEqDiff, Nat.reduceLeDiff, Nat.reduceAdd, Nat.reduceSub, Nat.reduceMul, Int.reduceLT, Int.reduceLE, Int.reduceEq, Int.reduceToNat, Int.reduceAdd, Int.reduceSub, Int.reduceMul, reduceCtorEq, ↓reduceIte, List.getD_cons_zero, List.getD_cons_succ, fillL, splice, List.take_zero, List.drop_zero, List.drop_succ_cons, List.take_succ_cons, List.drop_nil, List.take_nil, Nat.zero_add, hs1, hs2]
    repeat refine And.intro (by omega) ?_
    refine And.intro (by rcases hspot with h | h <;> simp [h]) ?_
    have hb1 : g1 nx = some (.cells [Value.int .i64 0, .slice none 0 0, .slice none 0 0] false) := by rw [k1 nx (by omega), hb0]
    have hsv := sv_len (n := x.toNat * 40 + y.toNat) (by omega)
    have hst := svs_len t
    obtain ⟨P, hP⟩ : ∃ P, P = sv (x.toNat * 40 + y.toNat) := ⟨_, rfl⟩
    rw [← hP] at hO1 hsv
    have hoB : oidB (x :: y :: t) = P ++ svs t := by rw [hP]; rfl
    rw [hoB]
    refine loop_of (fun j f mm => ∃ (i x2 : Nat) (g : Nat → Option Blk) (A' : Option Addr), j = t.length - i ∧ i ≤ t.length ∧ f 2 = .pointer (some ⟨nx, 0, none⟩) ∧ f 4 = .slice A' (P.length + (svs (t.take i)).length) (P.length + (svs (t.take i)).length) ∧ f 52 = .slice (some ⟨a.block, a.off + 2, a.spot⟩) t.length (c - 2) ∧ f 53 = .int .i64 (t.length : Nat) ∧ f 54 = .int .i64 (i : Nat) ∧
      mm = ⟨x2, b, g⟩ ∧ nx + 1 ≤ x2 ∧ (∀ p, p < nx + 1 → g p = g1 p) ∧ Own (nx + 1) b x2 g 1 A' (P.length + (svs (t.take i)).length) ((P ++ svs (t.take i)).map u8V)) t.length
      ⟨0, x1, g1, A1, by omega, by omega, (by first | (simp only [↓gaW, ↓gaV, ↓gaC, ↓gaN, gaP, Nat.reduceEqDiff, Nat.reduceLeDiff, Nat.reduceAdd, Nat.reduceSub, Nat.reduceMul, Int.reduceLT, Int.reduceLE, Int.reduceEq, Int.reduceToNat, Int.reduceAdd, Int.reduceSub, Int.reduceMul, reduceCtorEq, ↓reduceIte]; done) | (simp only [↓gaW, ↓gaV, ↓gaC, ↓gaN, gaP, Nat.reduceEqDiff, Nat.reduceLeDiff, Nat.reduceAdd, Nat.reduceSub, Nat.reduceMul, Int.reduceLT, Int.reduceLE, Int.reduceEq, Int.reduceToNat, Int.reduceAdd, Int.reduceSub, Int.reduceMul, reduceCtorEq, ↓reduceIte]; rfl)), (by rw [hP]; simp only [↓gaW, ↓gaV, ↓gaC, ↓gaN, gaP, Nat.reduceEqDiff, Nat.reduceLeDiff, Nat.reduceAdd, Nat.reduceSub, Nat.reduceMul, Int.reduceLT, Int.reduceLE, Int.reduceEq, Int.reduceToNat, Int.reduceAdd, Int.reduceSub, Int.reduceMul, reduceCtorEq, ↓reduceIte, List.getD_cons_zero, List.getD_cons_succ, fillL, splice, List.take_zero, List.drop_zero, List.drop_succ_cons, List.take_succ_cons, List.drop_nil, List.take_nil, svs, List.length_nil, Nat.add_zero]), (by first | (simp only [↓gaW, ↓gaV, ↓gaC, ↓gaN, gaP, Nat.reduceEqDiff, Nat.reduceLeDiff, Nat.reduceAdd, Nat.reduceSub, Nat.reduceMul, Int.reduceLT, Int.reduceLE, Int.reduceEq, Int.reduceToNat, Int.reduceAdd, Int.reduceSub, Int.reduceMul, reduceCtorEq, ↓reduceIte]; done) | (simp only [↓gaW, ↓gaV, ↓gaC, ↓gaN, gaP, Nat.reduceEqDiff, Nat.reduceLeDiff, Nat.reduceAdd, Nat.reduceSub, Nat.reduceMul, Int.reduceLT, Int.reduceLE, Int.reduceEq, Int.reduceToNat, Int.reduceAdd, Int.reduceSub, Int.reduceMul, reduceCtorEq, ↓reduceIte]; rfl)), (by first | (simp only [↓gaW, ↓gaV, ↓gaC, ↓gaN, gaP, Nat.reduceEqDiff, Nat.reduceLeDiff, Nat.reduceAdd, Nat.reduceSub, Nat.reduceMul, Int.reduceLT, Int.reduceLE, Int.reduceEq, Int.reduceToNat, Int.reduceAdd, Int.reduceSub, Int.reduceMul, reduceCtorEq, ↓reduceIte]; done) | (simp only [↓gaW, ↓gaV, ↓gaC, ↓gaN, gaP, Nat.reduceEqDiff, Nat.reduceLeDiff, Nat.reduceAdd, Nat.reduceSub, Nat.reduceMul, Int.reduceLT, Int.reduceLE, Int.reduceEq, Int.reduceToNat, Int.reduceAdd, Int.reduceSub, Int.reduceMul, reduceCtorEq, ↓reduceIte]; rfl)), (by first | (simp only [↓gaW, ↓gaV, ↓gaC, ↓gaN, gaP, Nat.reduceEqDiff, Nat.reduceLeDiff, Nat.reduceAdd, Nat.reduceSub, Nat.reduceMul, Int.reduceLT, Int.reduceLE, Int.reduceEq, Int.reduceToNat, Int.reduceAdd, Int.reduceSub, Int.reduceMul, reduceCtorEq, ↓reduceIte]; done) | (simp only [↓gaW, ↓gaV, ↓gaC, ↓gaN, gaP, Nat.reduceEqDiff, Nat.reduceLeDiff, Nat.reduceAdd, Nat.reduceSub, Nat.reduceMul, Int.reduceLT, Int.reduceLE, Int.reduceEq, Int.reduceToNat, Int.reduceAdd, Int.reduceSub, Int.reduceMul, reduceCtorEq, ↓reduceIte]; rfl)), rfl, by omega, fun _ _ => rfl, by simpa [svs] using hO1⟩ ?_
    rintro j f mm ⟨i, x2, g2, A2, hj, hi, f2, f4, f52, f53, f54, rfl, hx2, F2, hO2⟩
    have hsi := svs_len (t.take i)
    have htk : (t.take i).length = i := by rw [List.length_take]; omega
    by_cases hlt : (i : Int) < (t.length : Int)
    · have c2 : cl.getD (a.off + 2 + i) undef = .int .u32 ((t.getD i 0).toNat : Nat) := by
        have := r5 (2 + i) (by omega)
        rw [← Nat.add_assoc] at this
        rw [this]
        have h3 : ((x :: y :: t).map u32V).getD (2 + i) undef = .int .u32 (((x :: y :: t).getD (2 + i) 0).toNat : Nat) := getD_u32 (by simp only [List.length_cons]; omega)
        rw [h3, Nat.add_comm 2 i]; rfl
      have h2q : g2 a.block = some (.cells cl ro) := by rw [F2 _ (by omega), F1 _ r2, r3]
      have hz := (t.getD i 0).toNat_lt
      have i1 : IntKind.u64.wrap ((t.getD i 0).toNat : Int) = ((t.getD i 0).toNat : Int) := by rw [u64_w]; omega
      have i3 : IntKind.i64.wrap ((i : Int) + 1) = ((i + 1 : Nat) : Int) := by rw [i64_w _ (by omega)]; omega
      simp only [↓gaW, ↓gaV, ↓gaC, ↓gaN, gaP, Nat.reduceEqDiff, Nat.reduceLeDiff, Nat.reduceAdd, Nat.reduceSub, Nat.reduceMul, Int.reduceLT, Int.reduceLE, Int.reduceEq, Int.reduceToNat, Int.reduceAdd, Int.reduceSub, Int.reduceMul, reduceCtorEq, ↓reduceIte, List.getD_cons_zero, List.getD_cons_succ, fillL, splice, List.take_zero, List.drop_zero, List.drop_succ_cons, List.take_succ_cons, List.drop_nil, List.take_nil, f4, f52, f53, f54, hlt, decide_true, h2q, c2, i1]
      repeat refine And.intro (by omega) ?_
      refine callB_of (cb_seven (n := (t.getD i 0).toNat) (base := nx + 1) (by omega) (by omega) hx2 hO2 (by omega)) fun v x3 g3 l3 k3 hC => ?_
      obtain ⟨A3, rfl, hO3⟩ := hC
      have e5 : P.length + (svs (t.take i)).length + (sv (t.getD i 0).toNat).length = P.length + (svs (t.take (i + 1))).length := by
        rw [take_next (by omega), svs_app]; simp [svs]; omega
      have e6 : P ++ svs (t.take i) ++ sv (t.getD i 0).toNat = P ++ svs (t.take (i + 1)) := by
        rw [take_next (by omega), svs_app]; simp [svs]
      rw [e5, e6] at hO3
      rw [e5]
      simp only [↓gaW, ↓gaV, ↓gaC, ↓gaN, gaP, Nat.reduceEqDiff, Nat.reduceLeDiff, Nat.reduceAdd, Nat.reduceSub, Nat.reduceMul, Int.reduceLT, Int.reduceLE, Int.reduceEq, Int.reduceToNat, Int.reduceAdd, Int.reduceSub, Int.reduceMul, reduceCtorEq, ↓reduceIte, List.getD_cons_zero, List.getD_cons_succ, fillL, splice, List.take_zero, List.drop_zero, List.drop_succ_cons, List.take_succ_cons, List.drop_nil, List.take_nil, f2, f54, i3, loopK_n]
      refine ⟨t.length - (i + 1), by omega, i + 1, x3, g3, A3, rfl, by omega, rfl, f52, f53, rfl, rfl, by omega, fun p hp => by rw [k3 p hp, F2 p hp], hO3⟩
    · have hit : i = t.length := by omega
      rw [hit, List.take_length] at hO2 f4
      have hb2 : g2 nx = some (.cells [Value.int .i64 0, .slice none 0 0, .slice none 0 0] false) := by rw [F2 nx (by omega), hb1]
      simp only [↓gaW, ↓gaV, ↓gaC, ↓gaN, gaP, Nat.reduceEqDiff, Nat.reduceLeDiff, Nat.reduceAdd, Nat.reduceSub, Nat.reduceMul, Int.reduceLT, Int.reduceLE, Int.reduceEq, Int.reduceToNat, Int.reduceAdd, Int.reduceSub, Int.reduceMul, reduceCtorEq, ↓reduceIte, List.getD_cons_zero, List.getD_cons_succ, fillL, splice, List.take_zero, List.drop_zero, List.drop_succ_cons, List.take_succ_cons, List.drop_nil, List.take_nil, f2, f4, f52, f53, f54, hlt, decide_false, hb2]
      repeat refine And.intro (by omega) ?_
      refine And.intro (node_cells _ _ _ _ _ _ _) ?_
      have ext : ∀ (cs : List Value), (∀ p, p ≠ nx → upd g2 nx (some (.cells cs false)) p = g2 p) := fun cs p hp => by simp only [upd_e]; rw [if_neg hp]
      refine end_nT (q := nx) (t := 6) (B := A2) (m := P.length + (svs t).length) (d := P.length + (svs t).length) (A := none) (n := 0) (c := 0) (ro := false) (w := .int .i64 0) (by simp only [↓gaW, ↓gaV, ↓gaC, ↓gaN, gaP, Nat.reduceEqDiff, Nat.reduceLeDiff, Nat.reduceAdd, Nat.reduceSub, Nat.reduceMul, Int.reduceLT, Int.reduceLE, Int.reduceEq, Int.reduceToNat, Int.reduceAdd, Int.reduceSub, Int.reduceMul, reduceCtorEq, ↓reduceIte, f2]) (by first | (simp only [↓gaW, ↓gaV, ↓gaC, ↓gaN, gaP, Nat.reduceEqDiff, Nat.reduceLeDiff, Nat.reduceAdd, Nat.reduceSub, Nat.reduceMul, Int.reduceLT, Int.reduceLE, Int.reduceEq, Int.reduceToNat, Int.reduceAdd, Int.reduceSub, Int.reduceMul, reduceCtorEq, ↓reduceIte]; done) | (simp only [↓gaW, ↓gaV, ↓gaC, ↓gaN, gaP, Nat.reduceEqDiff, Nat.reduceLeDiff, Nat.reduceAdd, Nat.reduceSub, Nat.reduceMul, Int.reduceLT, Int.reduceLE, Int.reduceEq, Int.reduceToNat, Int.reduceAdd, Int.reduceSub, Int.reduceMul, reduceCtorEq, ↓reduceIte]; rfl)) (by simp only [upd_e, if_true]) (by omega) (fun p hp => by rw [ext _ p (by omega), F2 p (by omega), F1 p hp]) ⟨_, rfl, ?_⟩
      have hrl := hO2.rowL
      rw [Nat.mul_one] at hrl
      exact NodeIs.leaf (by omega) ((hrl.keep (Nat.le_refl _) fun p hp _ => ext _ p (by omega)).wid (by omega)) (Nat.le_refl _)
end
end Go.Ga

/- The document's numbers; a number and an object's name. -/
namespace Go.Ga
open Go Go.Proofs
set_option linter.unusedSimpArgs false
set_option linter.unusedVariables false
set_option maxRecDepth 100000
attribute [local irreducible] appendK

theorem valFrom_be (n : Nat) : ∀ k x, valFrom x (be k n) = x * 256 ^ k + n % 256 ^ k := by
  intro k
  induction k with
  | zero => intro x; simp [be, valFrom, Nat.mod_one]
  | succ k ih =>
    intro x
    have hb : be (k + 1) n = UInt8.ofNat (n / 256 ^ k) :: be k n := by
      unfold be
      rw [List.range_succ_eq_map, List.map_cons, List.map_map]
      congr 1
      refine List.map_congr_left fun i hi => ?_
      have := List.mem_range.1 hi
      show UInt8.ofNat (n / 256 ^ (k + 1 - 1 - (i + 1))) = _
      rw [show k + 1 - 1 - (i + 1) = k - 1 - i by omega]
    rw [hb, valFrom_cons, ih]
    have e1 : (UInt8.ofNat (n / 256 ^ k)).toNat = n / 256 ^ k % 256 := UInt8.toNat_ofNat'
    rw [e1, Nat.pow_succ, Nat.mod_mul, Nat.add_mul, Nat.mul_assoc, Nat.mul_comm 256 (256 ^ k), Nat.mul_comm (n / 256 ^ k % 256)]
    omega
theorem val_be {k n : Nat} (h : n < 256 ^ k) : val (be k n) = n := by
  show valFrom 0 (be k n) = n
  rw [valFrom_be, Nat.zero_mul, Nat.zero_add, Nat.mod_eq_of_lt h]
theorem val_bare (l : List UInt8) : val (bare l) = val l := by
  induction l with
  | nil => rfl
  | cons x t ih =>
    by_cases h : x = 0
    · subst h
      rw [bare_0, ih]
      show _ = valFrom 0 (0 :: t)
      rw [valFrom_cons]; rfl
    · rw [bare_n h]
theorem val_bigB (l : List UInt8) : val (bigB l) = val l := by
  cases l with
  | nil => rfl
  | cons x t =>
    show val (if 128 ≤ x.toNat then 0 :: x :: t else x :: t) = _
    by_cases h : 128 ≤ x.toNat
    · rw [if_pos h]
      show valFrom 0 (0 :: x :: t) = _
      rw [valFrom_cons]; rfl
    · rw [if_neg h]
theorem val_int {n : Nat} {y : Fo.El} (h : intE n y) : val y.b = n := by
  obtain ⟨k, hk, rfl⟩ := h
  show val (bigB (bare (be k n))) = n
  rw [val_bigB, val_bare, val_be hk.2.2.1]
theorem uint_int {n : Nat} {y : Fo.El} (hn : n < 18446744073709551616) (h : intE n y) : uintR y = (n, 0) := by
  unfold uintR
  rw [val_int h, if_pos ⟨hn, h⟩]

section
variable {nx : Nat} {gt : Nat → Option Blk}

theorem ct_rUint {x : Fo.El} {B : Option Addr} {m d : Nat} {A : Option Addr} {n c : Nat} {ks : List Value} (h : NdR nx gt x B m d A n c ks) (hxw : x.f.ws < 900000) :
    Ct Tryd.prog 17 [nodeV x.t B m d A n c] nx gt fun v _ _ => v = .tuple #[.int .u64 ((uintR x).1 : Nat), .int .i64 ((uintR x).2 : Nat)] := by
  refine Ct.of hmx r_lanyardref05_Uint (by simp [c_lanyardref05_Uint]) fun b hb => ?_
  have hF : ∀ q, q < nx → upd gt nx (some (.cells (nodeL x.t B m d A n c) false)) q = gt q := fun q hq => by simp only [upd_e]; rw [if_neg (by omega)]
  have hb0 : upd gt nx (some (.cells (nodeL x.t B m d A n c) false)) nx = some (.cells (nodeL x.t B m d A n c) false) := by simp only [upd_e, if_true]
  have xw : x.f.ws = 1 + x.b.length + x.k.ws := by simp only [Fo.El.f, Fo.ws]; omega
  have lw := Fo.len_ws x.k
  have hl := h.blen
  have hkl := h.len
  simp only [c_lanyardref05_Uint, ↓gaW, ↓gaV, ↓gaC, ↓gaN, gaP, Nat.reduceEqDiff, Nat.reduceLeDiff, Nat.reduceAdd, Nat.reduceSub, Nat.reduceMul, Int.reduceLT, Int.reduceLE, Int.reduceEq, Int.reduceToNat, Int.reduceAdd, Int.reduceSub, Int.reduceMul, reduceCtorEq, ↓reduceIte, List.getD_cons_zero, List.getD_cons_succ, fillL, splice, List.take_zero, List.drop_zero, List.drop_succ_cons, List.take_succ_cons, List.drop_nil, List.take_nil, gaU]
  generalize upd gt nx (some (.cells (nodeL x.t B m d A n c) false)) = g0 at *
  repeat refine And.intro (by omega) ?_
  have h0 := h.keep (x' := nx + 1) (by omega) hF
  refine callK_of (ct_rNum h0.body (by omega)) (fun v x1 g1 l1 k1 hC => ?_) (by omega)
  subst hC
  have F1 : ∀ p, p < nx → g1 p = gt p := fun p hp => by rw [k1 p (by omega), hF p hp]
  have hb1 : g1 nx = some (.cells (nodeL x.t B m d A n c) false) := by rw [k1 nx (by omega), hb0]
  by_cases hv : val x.b < 18446744073709551616
  · have e : numV x.b = .tuple #[.int .u64 (val x.b : Nat), .bool true] := if_pos hv
    rw [e]
    simp only [↓gaW, ↓gaV, ↓gaC, ↓gaN, gaP, Nat.reduceEqDiff, Nat.reduceLeDiff, Nat.reduceAdd, Nat.reduceSub, Nat.reduceMul, Int.reduceLT, Int.reduceLE, Int.reduceEq, Int.reduceToNat, Int.reduceAdd, Int.reduceSub, Int.reduceMul, reduceCtorEq, ↓reduceIte, List.getD_cons_zero, List.getD_cons_succ, fillL, splice, List.take_zero, List.drop_zero, List.drop_succ_cons, List.take_succ_cons, List.drop_nil, List.take_nil, Bool.not_true, hb1]
    repeat refine And.intro (by omega) ?_
    refine callQ_of (ct_rInt hv) fun v x2 g2 l2 k2 hC => ?_
    obtain ⟨y, hy, B', m', d', A', n', c', ks', rfl, hN⟩ := hC
    have hyw := intE_ws hy
    have F2 : ∀ p, p < nx → g2 p = gt p := fun p hp => by rw [k2 p (by omega), F1 p hp]
    simp only [↓gaW, ↓gaV, ↓gaC, ↓gaN, gaP, Nat.reduceEqDiff, Nat.reduceLeDiff, Nat.reduceAdd, Nat.reduceSub, Nat.reduceMul, Int.reduceLT, Int.reduceLE, Int.reduceEq, Int.reduceToNat, Int.reduceAdd, Int.reduceSub, Int.reduceMul, reduceCtorEq, ↓reduceIte, List.getD_cons_zero, List.getD_cons_succ, fillL, splice, List.take_zero, List.drop_zero, List.drop_succ_cons, List.take_succ_cons, List.drop_nil, List.take_nil]
    refine callK_of (ct_Same x (by omega) y _ _ _ _ _ _ _ _ _ _ _ _ _ _ _ _ (h.keep (x' := x2) (by omega) F2) hN.r) (fun v x3 g3 l3 k3 hC => ?_) (by omega)
    obtain ⟨s, rfl, hs⟩ := hC
    have F3 : ∀ p, p < nx → g3 p = gt p := fun p hp => by rw [k3 p (by omega), F2 p hp]
    cases s with
    | true =>
      have hxy := hs.1 rfl
      have er : uintR x = (val x.b, 0) := if_pos ⟨hv, by have := hy; rw [← hxy] at this; exact this⟩
      simp only [↓gaW, ↓gaV, ↓gaC, ↓gaN, gaP, Nat.reduceEqDiff, Nat.reduceLeDiff, Nat.reduceAdd, Nat.reduceSub, Nat.reduceMul, Int.reduceLT, Int.reduceLE, Int.reduceEq, Int.reduceToNat, Int.reduceAdd, Int.reduceSub, Int.reduceMul, reduceCtorEq, ↓reduceIte, gaE, implies_true, Nat.le_refl, Int.sub_zero, Nat.sub_zero, Int.le_refl, true_or, or_true, List.getD_cons_zero, List.getD_cons_succ, fillL, splice, List.take_zero, List.drop_zero, List.drop_succ_cons, List.take_succ_cons, List.drop_nil, List.take_nil, Bool.not_true, er]
      exact ⟨by omega, F3⟩
    | false =>
      have er : uintR x = (0, 2) := if_neg fun hc => by
        have := hs.2 (intE_one hc.2 hy)
        cases this
      simp only [↓gaW, ↓gaV, ↓gaC, ↓gaN, gaP, Nat.reduceEqDiff, Nat.reduceLeDiff, Nat.reduceAdd, Nat.reduceSub, Nat.reduceMul, Int.reduceLT, Int.reduceLE, Int.reduceEq, Int.reduceToNat, Int.reduceAdd, Int.reduceSub, Int.reduceMul, reduceCtorEq, ↓reduceIte, gaE, implies_true, Nat.le_refl, Int.sub_zero, Nat.sub_zero, Int.le_refl, true_or, or_true, List.getD_cons_zero, List.getD_cons_succ, fillL, splice, List.take_zero, List.drop_zero, List.drop_succ_cons, List.take_succ_cons, List.drop_nil, List.take_nil, Bool.not_false, er]
      exact ⟨by omega, F3⟩
  · have e : numV x.b = .tuple #[.int .u64 0, .bool false] := if_neg hv
    have er : uintR x = (0, 2) := if_neg fun hc => hv hc.1
    rw [e]
    simp only [↓gaW, ↓gaV, ↓gaC, ↓gaN, gaP, Nat.reduceEqDiff, Nat.reduceLeDiff, Nat.reduceAdd, Nat.reduceSub, Nat.reduceMul, Int.reduceLT, Int.reduceLE, Int.reduceEq, Int.reduceToNat, Int.reduceAdd, Int.reduceSub, Int.reduceMul, reduceCtorEq, ↓reduceIte, gaE, implies_true, Nat.le_refl, Int.sub_zero, Nat.sub_zero, Int.le_refl, true_or, or_true, List.getD_cons_zero, List.getD_cons_succ, fillL, splice, List.take_zero, List.drop_zero, List.drop_succ_cons, List.take_succ_cons, List.drop_nil, List.take_nil, Bool.not_false, hb1, er]
    repeat refine And.intro (by omega) ?_
    exact F1
theorem ct_rGreat {x : Fo.El} {B : Option Addr} {m d : Nat} {A : Option Addr} {n c : Nat} {ks : List Value} (h : NdR nx gt x B m d A n c ks) (hxw : x.f.ws < 900000) :
    Ct Tryd.prog 19 [nodeV x.t B m d A n c] nx gt fun v x' g => BErr x' g v (greatR x) := by
  refine Ct.of hmx r_lanyardref05_Great (by simp [c_lanyardref05_Great]) fun b hb => ?_
  have hF : ∀ q, q < nx → upd gt nx (some (.cells (nodeL x.t B m d A n c) false)) q = gt q := fun q hq => by simp only [upd_e]; rw [if_neg (by omega)]
  have hb0 : upd gt nx (some (.cells (nodeL x.t B m d A n c) false)) nx = some (.cells (nodeL x.t B m d A n c) false) := by simp only [upd_e, if_true]
  have xw : x.f.ws = 1 + x.b.length + x.k.ws := by simp only [Fo.El.f, Fo.ws]; omega
  have lw := Fo.len_ws x.k
  have hl := h.blen
  have hkl := h.len
  have hbl := bare_len x.b
  simp only [c_lanyardref05_Great, ↓gaW, ↓gaV, ↓gaC, ↓gaN, gaP, Nat.reduceEqDiff, Nat.reduceLeDiff, Nat.reduceAdd, Nat.reduceSub, Nat.reduceMul, Int.reduceLT, Int.reduceLE, Int.reduceEq, Int.reduceToNat, Int.reduceAdd, Int.reduceSub, Int.reduceMul, reduceCtorEq, ↓reduceIte, List.getD_cons_zero, List.getD_cons_succ, fillL, splice, List.take_zero, List.drop_zero, List.drop_succ_cons, List.take_succ_cons, List.drop_nil, List.take_nil, gaU]
  generalize upd gt nx (some (.cells (nodeL x.t B m d A n c) false)) = g0 at *
  repeat refine And.intro (by omega) ?_
  have h0 := h.keep (x' := nx + 1) (by omega) hF
  refine callK_of (ct_rBare h0.body h.md (by omega)) (fun v x1 g1 l1 k1 hC => ?_) (by omega)
  obtain ⟨A1, n1, c1, rfl, hc1, hl1, r1⟩ := hC
  have F1 : ∀ p, p < nx → g1 p = gt p := fun p hp => by rw [k1 p (by omega), hF p hp]
  have hb1 : g1 nx = some (.cells (nodeL x.t B m d A n c) false) := by rw [k1 nx (by omega), hb0]
  simp only [↓gaW, ↓gaV, ↓gaC, ↓gaN, gaP, Nat.reduceEqDiff, Nat.reduceLeDiff, Nat.reduceAdd, Nat.reduceSub, Nat.reduceMul, Int.reduceLT, Int.reduceLE, Int.reduceEq, Int.reduceToNat, Int.reduceAdd, Int.reduceSub, Int.reduceMul, reduceCtorEq, ↓reduceIte, List.getD_cons_zero, List.getD_cons_succ, fillL, splice, List.take_zero, List.drop_zero, List.drop_succ_cons, List.take_succ_cons, List.drop_nil, List.take_nil, hb1]
  repeat refine And.intro (by omega) ?_
  refine callQ_of (ct_rBig r1.1 hc1 (by omega)) fun v x2 g2 l2 k2 hC => ?_
  obtain ⟨B', m', d', A', n', c', ks', rfl, hN⟩ := hC
  have hyw := big_ws (bare x.b)
  have F2 : ∀ p, p < nx → g2 p = gt p := fun p hp => by rw [k2 p (by omega), F1 p hp]
  simp only [↓gaW, ↓gaV, ↓gaC, ↓gaN, gaP, Nat.reduceEqDiff, Nat.reduceLeDiff, Nat.reduceAdd, Nat.reduceSub, Nat.reduceMul, Int.reduceLT, Int.reduceLE, Int.reduceEq, Int.reduceToNat, Int.reduceAdd, Int.reduceSub, Int.reduceMul, reduceCtorEq, ↓reduceIte, List.getD_cons_zero, List.getD_cons_succ, fillL, splice, List.take_zero, List.drop_zero, List.drop_succ_cons, List.take_succ_cons, List.drop_nil, List.take_nil]
  refine callK_of (ct_Same x (by omega) (big (bare x.b)) _ _ _ _ _ _ _ _ _ _ _ _ _ _ _ _ (h.keep (x' := x2) (by omega) F2) hN.r) (fun v x3 g3 l3 k3 hC => ?_) (by omega)
  obtain ⟨s, rfl, hs⟩ := hC
  rw [big_big] at hs
  have F3 : ∀ p, p < nx → g3 p = gt p := fun p hp => by rw [k3 p (by omega), F2 p hp]
  cases s with
  | true =>
    have er : greatR x = (bare x.b, 0) := if_pos (hs.1 rfl)
    simp only [↓gaW, ↓gaV, ↓gaC, ↓gaN, gaP, Nat.reduceEqDiff, Nat.reduceLeDiff, Nat.reduceAdd, Nat.reduceSub, Nat.reduceMul, Int.reduceLT, Int.reduceLE, Int.reduceEq, Int.reduceToNat, Int.reduceAdd, Int.reduceSub, Int.reduceMul, reduceCtorEq, ↓reduceIte, gaE, implies_true, Nat.le_refl, Int.sub_zero, Nat.sub_zero, Int.le_refl, true_or, or_true, List.getD_cons_zero, List.getD_cons_succ, fillL, splice, List.take_zero, List.drop_zero, List.drop_succ_cons, List.take_succ_cons, List.drop_nil, List.take_nil, Bool.not_true, er]
    exact ⟨by omega, F3, _, rfl, A1, n1, c1, rfl, hc1, hl1, (r1.1.keep l2 k2).keep l3 k3⟩
  | false =>
    have er : greatR x = ([], 2) := if_neg fun hc => by have := hs.2 hc; cases this
    simp only [↓gaW, ↓gaV, ↓gaC, ↓gaN, gaP, Nat.reduceEqDiff, Nat.reduceLeDiff, Nat.reduceAdd, Nat.reduceSub, Nat.reduceMul, Int.reduceLT, Int.reduceLE, Int.reduceEq, Int.reduceToNat, Int.reduceAdd, Int.reduceSub, Int.reduceMul, reduceCtorEq, ↓reduceIte, gaE, implies_true, Nat.le_refl, Int.sub_zero, Nat.sub_zero, Int.le_refl, true_or, or_true, List.getD_cons_zero, List.getD_cons_succ, fillL, splice, List.take_zero, List.drop_zero, List.drop_succ_cons, List.take_succ_cons, List.drop_nil, List.take_nil, Bool.not_false, er]
    exact ⟨by omega, F3, _, rfl, .nil⟩

theorem oid_awake : oidR [1, 2, 840] = .ok ⟨6, [42, 134, 72], .nil⟩ := by
  have e1 : sv 42 = [42] := by unfold sv le7; rw [show 42 / 128 = 0 by decide, sg_0]; rfl
  have e2 : sv 840 = [134, 72] := by unfold sv le7; rw [show 840 / 128 = 6 by decide, sg_s (by decide), show 6 / 128 = 0 by decide, sg_0]; rfl
  have e3 : oidB [1, 2, 840] = [42, 134, 72] := by
    show sv 42 ++ (sv 840 ++ []) = _
    rw [e1, e2]; rfl
  unfold oidR
  rw [if_pos (by rfl), e3]
theorem ct_awake05 : Ct Tryd.prog 9 [] nx gt fun v _ _ => v = .bool true := by
  refine Ct.of hmx r_lanyardlaw05_awake (by simp [c_lanyardlaw05_awake]) fun b hb => ?_
  simp only [c_lanyardlaw05_awake, ↓gaW, ↓gaV, ↓gaC, ↓gaN, gaP, Nat.reduceEqDiff, Nat.reduceLeDiff, Nat.reduceAdd, Nat.reduceSub, Nat.reduceMul, Int.reduceLT, Int.reduceLE, Int.reduceEq, Int.reduceToNat, Int.reduceAdd, Int.reduceSub, Int.reduceMul, reduceCtorEq, ↓reduceIte, List.getD_cons_zero, List.getD_cons_succ, fillL, splice, List.take_zero, List.drop_zero, List.drop_succ_cons, List.take_succ_cons, List.drop_nil, List.take_nil, gaU]
  refine callK_of (ct_Int (n := 128) (by omega)) (fun v x1 g1 l1 k1 hC => ?_) (by omega)
  obtain ⟨y, hy, B, m, d, A, n, c, ks, rfl, hN⟩ := hC
  have hyw := intE_ws hy
  simp only [↓gaW, ↓gaV, ↓gaC, ↓gaN, gaP, Nat.reduceEqDiff, Nat.reduceLeDiff, Nat.reduceAdd, Nat.reduceSub, Nat.reduceMul, Int.reduceLT, Int.reduceLE, Int.reduceEq, Int.reduceToNat, Int.reduceAdd, Int.reduceSub, Int.reduceMul, reduceCtorEq, ↓reduceIte, List.getD_cons_zero, List.getD_cons_succ, fillL, splice, List.take_zero, List.drop_zero, List.drop_succ_cons, List.take_succ_cons, List.drop_nil, List.take_nil]
  refine callK_of (ct_Uint hN.r (by omega)) (fun v x2 g2 l2 k2 hC => ?_) (by omega)
  rw [uint_int (by omega) hy] at hC
  subst hC
  simp only [↓gaW, ↓gaV, ↓gaC, ↓gaN, gaP, Nat.reduceEqDiff, Nat.reduceLeDiff, Nat.reduceAdd, Nat.reduceSub, Nat.reduceMul, Int.reduceLT, Int.reduceLE, Int.reduceEq, Int.reduceToNat, Int.reduceAdd, Int.reduceSub, Int.reduceMul, reduceCtorEq, ↓reduceIte, List.getD_cons_zero, List.getD_cons_succ, fillL, splice, List.take_zero, List.drop_zero, List.drop_succ_cons, List.take_succ_cons, List.drop_nil, List.take_nil]
  repeat refine And.intro (by omega) ?_
  have hZ : ∀ p, p < x2 → upd g2 x2 (some (.cells [Value.int .u32 1, .int .u32 2, .int .u32 840] false)) p = g2 p := fun p hp => by simp only [upd_e]; rw [if_neg (by omega)]
  have hz : upd g2 x2 (some (.cells [Value.int .u32 1, .int .u32 2, .int .u32 840] false)) x2 = some (.cells [Value.int .u32 1, .int .u32 2, .int .u32 840] false) := by simp only [upd_e, if_true]
  generalize upd g2 x2 (some (.cells [Value.int .u32 1, .int .u32 2, .int .u32 840] false)) = g3 at *
  have rO : Row (x2 + 1) g3 1 (some ⟨x2, 0, none⟩) 3 (([1, 2, 840] : List UInt32).map u32V) := ⟨fun a h => by injection h with h; subst h; exact .inl rfl, rfl, fun _ => ⟨⟨x2, 0, none⟩, _, _, rfl, Nat.lt_succ_self _, hz, by simp, fun i _ => by simp only [Nat.zero_add]; rfl⟩⟩
  refine callK_of (ct_Oid rO (Nat.le_refl _) (by omega)) (fun v x4 g4 l4 k4 hC => ?_) (by omega)
  rw [oid_awake] at hC
  obtain ⟨u, rfl, B', m', d', A', n', c', ks', rfl, hN'⟩ := hC
  have hm := hN'.r.blen
  simp only [List.length_cons, List.length_nil] at hm
  have e6 : ∀ (cs : List Value), rowOf ⟨x4 + 1, b, upd (upd g4 x4 (some (.cells [Value.int .i64 0, .slice none 0 0, .slice none 0 0] false))) x4 (some (.cells cs false))⟩ B' m' = some (([42, 134, 72] : List UInt8).map u8V) := fun cs => (hN'.r.body.keep (nx' := x4 + 1) (by omega) fun p hp => by simp only [upd_e]; rw [if_neg (by omega), if_neg (by omega)]).rowOf
  have e7 : bytesOf [u8V 42, u8V 134, u8V 72] = some [42, 134, 72] := bytesOf_map [42, 134, 72]
  have e8 : ((⟨([42, 134, 72] : List UInt8).toArray⟩ : ByteArray).toList == (⟨#[42, 134, 72]⟩ : ByteArray).toList) = true := by rw [show (#[42, 134, 72] : Array UInt8) = ([42, 134, 72] : List UInt8).toArray from rfl, str_eq]; rfl
  simp only [↓gaW, ↓gaV, ↓gaC, ↓gaN, gaP, Nat.reduceEqDiff, Nat.reduceLeDiff, Nat.reduceAdd, Nat.reduceSub, Nat.reduceMul, Int.reduceLT, Int.reduceLE, Int.reduceEq, Int.reduceToNat, Int.reduceAdd, Int.reduceSub, Int.reduceMul, reduceCtorEq, ↓reduceIte, gaE, implies_true, Nat.le_refl, Int.sub_zero, Nat.sub_zero, Int.le_refl, true_or, or_true, List.getD_cons_zero, List.getD_cons_succ, fillL, splice, List.take_zero, List.drop_zero, List.drop_succ_cons, List.take_succ_cons, List.drop_nil, List.take_nil, e6, e7, e8]
  repeat refine And.intro (by omega) ?_
  refine And.intro (node_cells _ _ _ _ _ _ _) ?_
  exact ⟨by omega, by omega, fun p hp => by rw [if_neg (by omega), if_neg (by omega), k4 p (by omega), hZ p (by omega), k2 p (by omega), k1 p hp]⟩
end
end Go.Ga

/- An array of whole numbers that a law is given. -/
namespace Go.Ga
open Go

section
variable {P : Program} {H : Type} {enc : TypeId × Value → H} {w : World} {base : Nat} {sp : Nat → Bool} {held : Bool} {t e : TypeId} {n : Nat} {k : IntKind}

def intOf : Option Value → Int
  | some (.int _ z) => z
  | _ => 0
def arrD (k : IntKind) (zs : List Int) : DataW H := .agg (zs.map fun z => .lit (.int k z))

end

end Go.Ga

/- A slice of words that a law is given. -/
namespace Go.Ga
open Go

theorem wf_u32 {n : Int} (h : (Lit.int .u32 n).wf = true) : 0 ≤ n ∧ n ≤ 4294967295 := by
  have := (Lit.wf_int_iff _ _).1 h
  simpa [IntKind.min, IntKind.max, IntKind.signed, IntKind.bits] using this
end Go.Ga

/- What a law is given: what its values are made of, in the abstract memory. -/
namespace Go.Ga
open Go

section
variable {H : Type} {enc : TypeId × Value → H} {P : Program} {w : World} {held : Bool} {f : Nat} {t : TypeId} {cs : List Value}

/-- These cells are a value of this type. -/
def Shp (enc : TypeId × Value → H) (P : Program) (w : World) (held : Bool) (f : Nat) (t : TypeId) (cs : List Value) : Prop := ∃ x, DataW.trod enc P w 0 (fun _ => true) held f t cs = some x

theorem Shp.int {k : IntKind} (ht : P.underlying t = some (.int k)) (h : Shp enc P w held f t cs) : ∃ n, cs = [.int k n] ∧ (Lit.int k n).wf = true := by
  obtain ⟨x, hx⟩ := h
  obtain ⟨n, h1, _, h2⟩ := DataW.trod_int ht hx
  exact ⟨n, h1, h2⟩
theorem Shp.bool (ht : P.underlying t = some .bool) (h : Shp enc P w held f t cs) : ∃ b, cs = [.bool b] := by
  obtain ⟨x, hx⟩ := h
  obtain ⟨n, h1, _⟩ := DataW.trod_bool ht hx
  exact ⟨n, h1⟩
theorem Shp.string (ht : P.underlying t = some .string) (h : Shp enc P w held f t cs) : ∃ s : ByteArray, cs = [.string s] ∧ s.size ≤ maxLen := by
  obtain ⟨x, hx⟩ := h
  obtain ⟨n, h1, _, h2⟩ := DataW.trod_string ht hx
  exact ⟨n, h1, h2⟩
theorem Shp.struct {fs : Array Field} (ht : P.underlying t = some (.struct fs)) (h : Shp enc P w held f t cs) :
    ∃ n, f = n + 1 ∧ cs.length = P.cellsOf t ∧ ∀ (i : Nat) (fl : Field), fs[i]? = some fl → Shp enc P w held n fl.type ((cs.drop fl.offset).take (P.cellsOf fl.type)) := by
  obtain ⟨x, hx⟩ := h
  obtain ⟨xs, n, h1, _, h2, h3, h4⟩ := DataW.trod_struct ht hx
  refine ⟨n, h1, h2, fun i fl hi => ?_⟩
  have hlt : i < xs.length := by
    rw [h3]
    exact (Array.getElem?_eq_some_iff.1 hi).1
  exact ⟨xs[i], by rw [h4 i fl hi, List.getElem?_eq_getElem hlt]⟩
theorem Shp.array {m : Nat} {e : TypeId} (ht : P.underlying t = some (.array m e)) (h : Shp enc P w held f t cs) :
    ∃ n, f = n + 1 ∧ cs.length = P.cellsOf t ∧ ∀ i, i < m → Shp enc P w held n e ((cs.drop (i * P.cellsOf e)).take (P.cellsOf e)) := by
  obtain ⟨x, hx⟩ := h
  obtain ⟨xs, n, h1, _, h2, h3, h4⟩ := DataW.trod_array ht hx
  exact ⟨n, h1, h2, fun i hi => ⟨xs[i]'(by omega), by rw [h4 i hi, List.getElem?_eq_getElem (by omega)]⟩⟩

theorem cells_all {w : World} {a : Addr} {N : Nat} {g : Nat → Value} (hN : 0 < N) (h : ∀ i, i < N → w.cell? (a.add i) = some (g i)) :
    a.spot = none ∧ isCells w a.block = true ∧ a.block < w.heap.size ∧ ∃ ce : List Value, (m0 w).get a.block = some (.cells (ce.map (absC w)) true) ∧ a.off + N ≤ ce.length ∧ ∀ i, i < N → ce[a.off + i]? = some (g i) := by
  have c0 := h 0 hN
  have hx : a.add 0 = a := by simp [Addr.add]
  rw [hx] at c0
  unfold World.cell? at c0
  split at c0
  · rename_i ce el fr hb
    have hsp : a.spot = none := by
      by_cases h : a.spot.isSome
      · rw [if_pos h] at c0; cases c0
      · simpa using h
    have hlt : a.block < w.heap.size := by
      rcases Nat.lt_or_ge a.block w.heap.size with h | h
      · exact h
      · rw [Array.getElem?_eq_none h] at hb; cases hb
    have hcell : ∀ i, i < N → ce.toList[a.off + i]? = some (g i) := by
      intro i hi
      have := h i hi
      unfold World.cell? Addr.add at this
      by_cases h0 : i = 0
      · subst h0
        simp only [if_true, hb, hsp] at this
        simpa using this
      · simp only [if_neg h0, hb] at this
        simpa using this
    refine ⟨hsp, by simp [isCells, hb], hlt, ce.toList, by simp [m0, hb], ?_, hcell⟩
    have := hcell (N - 1) (by omega)
    rcases Nat.lt_or_ge (a.off + (N - 1)) ce.toList.length with h | h
    · omega
    · rw [List.getElem?_eq_none h] at this; cases this
  · cases c0

theorem add_addr {a : Addr} {i j : Nat} (_ : a.spot = none) : (a.add i).add j = a.add (i + j) := by
  unfold Addr.add
  by_cases h1 : i = 0 <;> by_cases h2 : j = 0 <;> simp [h1, h2, Nat.add_assoc]

theorem Shp.slice {e : TypeId} (ht : P.underlying t = some (.slice e)) (hc : 0 < P.cellsOf e) (h : Shp enc P w held f t cs) :
    ∃ n v A len cap, ∃ l : List Value, f = n + 1 ∧ cs = [v] ∧ absC w v = .slice A len cap ∧ len ≤ cap ∧ Row w.heap.size (m0 w).get (P.cellsOf e) A (len * P.cellsOf e) (l.map (absC w)) ∧ l.length = len * P.cellsOf e ∧
      ∀ i, i < len → Shp enc P w held n e ((l.drop (i * P.cellsOf e)).take (P.cellsOf e)) := by
  obtain ⟨x, hx⟩ := h
  rcases DataW.trod_slice ht hx with ⟨rfl, _⟩ | ⟨a, len, cap, elems, rest, n, rfl, rfl, _, _, hl, hm, he, hel, hsp, _⟩
  · cases f with
    | zero => simp [DataW.trod] at hx
    | succ n => exact ⟨n, _, none, 0, 0, [], rfl, rfl, rfl, Nat.le_refl _, by rw [Nat.zero_mul]; exact .nil, by simp, fun i hi => absurd hi (Nat.not_lt_zero i)⟩
  · obtain ⟨hr, hrest⟩ := hsp rfl
    have one : ∀ i, i < cap → ∃ cs', w.cells? 0 (a.add (i * P.cellsOf e)) (P.cellsOf e) = some cs' ∧ Shp enc P w held n e cs' := by
      intro i hi
      rcases Nat.lt_or_ge i len with h | h
      · have h1 := hel i h
        rw [List.getElem?_eq_getElem (by omega), Option.bind_eq_some_iff] at h1
        obtain ⟨cs', h1, h2⟩ := h1
        exact ⟨cs', h1, _, h2⟩
      · have h1 := hrest (i - len) (by omega)
        rw [List.getElem?_eq_getElem (by omega), Option.bind_eq_some_iff, show len + (i - len) = i by omega] at h1
        obtain ⟨cs', h1, h2⟩ := h1
        exact ⟨cs', h1, _, h2⟩
    rcases Nat.eq_zero_or_pos cap with h0 | h0
    · subst h0
      have : len = 0 := by omega
      subst this
      exact ⟨n, _, some ⟨a.block, a.off, none⟩, 0, 0, [], rfl, rfl, by simp [absC], Nat.le_refl _, ⟨fun a ha => by injection ha with ha; subst ha; exact .inl rfl, by simp, fun h => by rw [Nat.zero_mul] at h; exact absurd h (Nat.lt_irrefl 0)⟩, by simp, fun i hi => absurd hi (Nat.not_lt_zero i)⟩
    · obtain ⟨cs0, hc0, ht0⟩ := one 0 h0
      obtain ⟨_, hl0, hg0⟩ := World.cells?_some hc0
      have hx0 : a.add (0 * P.cellsOf e) = a := by simp [Addr.add]
      rw [hx0] at hg0
      have hspot : a.spot = none := by
        refine (cells_all (w := w) (a := a) (N := 1) (g := fun i => cs0.getD 0 undef) (by omega) fun i hi => ?_).1
        have : i = 0 := by omega
        subst this
        rw [hg0 0 hc, List.getD_eq_getElem?_getD, List.getElem?_eq_getElem (by omega)]
        rfl
      have hpos : 0 < cap * P.cellsOf e := Nat.mul_pos h0 hc
      have hall : ∀ j, j < cap * P.cellsOf e → ∃ v, w.cell? (a.add j) = some v := by
        intro j hj
        have hd := Nat.div_add_mod j (P.cellsOf e)
        have hm := Nat.mod_lt j hc
        obtain ⟨cs', h1, _⟩ := one (j / P.cellsOf e) ((Nat.div_lt_iff_lt_mul hc).2 hj)
        obtain ⟨_, h2, h3⟩ := World.cells?_some h1
        have h4 := h3 (j % P.cellsOf e) hm
        rw [add_addr hspot, show j / P.cellsOf e * P.cellsOf e + j % P.cellsOf e = j by rw [Nat.mul_comm]; exact hd, List.getElem?_eq_getElem (by omega)] at h4
        exact ⟨_, h4⟩
      obtain ⟨g, hg⟩ : ∃ g : Nat → Value, ∀ j, j < cap * P.cellsOf e → w.cell? (a.add j) = some (g j) := by
        refine ⟨fun j => (w.cell? (a.add j)).getD undef, fun j hj => ?_⟩
        obtain ⟨v, hv⟩ := hall j hj
        simp only [hv, Option.getD_some]
      obtain ⟨h1, h2, h3, ce, h4, h5, h6⟩ := cells_all hpos hg
      have hle : len * P.cellsOf e ≤ cap * P.cellsOf e := Nat.mul_le_mul_right _ hl
      refine ⟨n, _, some a, len, cap, (ce.drop a.off).take (len * P.cellsOf e), rfl, rfl, ?_, hl, ⟨fun a' ha => by injection ha with ha; subst ha; exact .inl h1, by simp; omega, fun _ => ⟨a, _, true, rfl, h3, h4, by simp; omega, fun i hi => ?_⟩⟩, by simp; omega, fun i hi => ?_⟩
      · obtain ⟨ab, ao, asp⟩ := a
        simp only at h1
        subst h1
        simp [absC, show cap ≠ 0 by omega, hl, h2]
      · rw [List.getD_eq_getElem?_getD, List.getD_eq_getElem?_getD, List.getElem?_map, List.getElem?_map, List.getElem?_take_of_lt hi, List.getElem?_drop]
      · obtain ⟨cs', e1, e2⟩ := one i (by omega)
        obtain ⟨_, e3, e4⟩ := World.cells?_some e1
        have hik : i * P.cellsOf e + P.cellsOf e ≤ len * P.cellsOf e := by
          have := Nat.mul_le_mul_right (P.cellsOf e) (show i + 1 ≤ len by omega)
          rw [Nat.add_mul, Nat.one_mul] at this
          exact this
        have : ((((ce.drop a.off).take (len * P.cellsOf e)).drop (i * P.cellsOf e)).take (P.cellsOf e)) = cs' := by
          refine List.ext_getElem? fun k => ?_
          rcases Nat.lt_or_ge k (P.cellsOf e) with hk | hk
          · rw [List.getElem?_take_of_lt hk, List.getElem?_drop, List.getElem?_take_of_lt (by omega), List.getElem?_drop, h6 _ (by omega), ← hg _ (by omega), ← add_addr h1, e4 k hk]
          · rw [List.getElem?_eq_none (by simp; omega), List.getElem?_eq_none (by omega)]
        rw [this]
        exact e2

theorem Shp.bytes {e : TypeId} (ht : P.underlying t = some (.slice e)) (he : P.underlying e = some (.int .u8)) (hc : P.cellsOf e = 1) (h : Shp enc P w held f t cs) :
    ∃ v A len cap, ∃ l : List UInt8, cs = [v] ∧ absC w v = .slice A len cap ∧ len ≤ cap ∧ Row w.heap.size (m0 w).get 1 A len (l.map u8V) := by
  obtain ⟨n, v, A, len, cap, l, rfl, h1, h2, h3, h4, h5, h6⟩ := h.slice ht (by omega)
  rw [hc, Nat.mul_one] at h4 h5
  refine ⟨v, A, len, cap, l.map fun v => UInt8.ofNat (intOf (some v)).toNat, h1, h2, h3, ?_⟩
  have : (l.map fun v => UInt8.ofNat (intOf (some v)).toNat).map u8V = l.map (absC w) := by
    rw [List.map_map]
    refine List.map_congr_left fun v hv => ?_
    obtain ⟨i, hi, rfl⟩ := List.getElem_of_mem hv
    obtain ⟨z, e1, e2⟩ := (h6 i (by omega)).int he
    have e1' : l[i] = .int .u8 z := by
      rw [hc, Nat.mul_one, List.drop_eq_getElem_cons hi] at e1
      simp only [List.take_succ_cons, List.take_zero, List.cons.injEq, and_true] at e1
      exact e1
    rw [e1']
    obtain ⟨b1, b2⟩ := wf_u8 e2
    simp only [Function.comp, intOf, u8V, absC, goodV, if_true]
    rw [UInt8.toNat_ofNat']
    congr 1
    omega
  rw [this]
  exact h4
theorem Shp.words {e : TypeId} (ht : P.underlying t = some (.slice e)) (he : P.underlying e = some (.int .u32)) (hc : P.cellsOf e = 1) (h : Shp enc P w held f t cs) :
    ∃ v A len cap, ∃ l : List UInt32, cs = [v] ∧ absC w v = .slice A len cap ∧ len ≤ cap ∧ Row w.heap.size (m0 w).get 1 A len (l.map u32V) := by
  obtain ⟨n, v, A, len, cap, l, rfl, h1, h2, h3, h4, h5, h6⟩ := h.slice ht (by omega)
  rw [hc, Nat.mul_one] at h4 h5
  refine ⟨v, A, len, cap, l.map fun v => UInt32.ofNat (intOf (some v)).toNat, h1, h2, h3, ?_⟩
  have : (l.map fun v => UInt32.ofNat (intOf (some v)).toNat).map u32V = l.map (absC w) := by
    rw [List.map_map]
    refine List.map_congr_left fun v hv => ?_
    obtain ⟨i, hi, rfl⟩ := List.getElem_of_mem hv
    obtain ⟨z, e1, e2⟩ := (h6 i (by omega)).int he
    have e1' : l[i] = .int .u32 z := by
      rw [hc, Nat.mul_one, List.drop_eq_getElem_cons hi] at e1
      simp only [List.take_succ_cons, List.take_zero, List.cons.injEq, and_true] at e1
      exact e1
    rw [e1']
    obtain ⟨b1, b2⟩ := wf_u32 e2
    simp only [Function.comp, intOf, u32V, absC, goodV, if_true]
    rw [UInt32.toNat_ofNat']
    congr 1
    omega
  rw [this]
  exact h4

theorem take_one {cs : List Value} {i : Nat} (h : i < cs.length) : (cs.drop i).take 1 = [cs[i]] := by
  rw [List.drop_eq_getElem_cons h]; rfl

end
end Go.Ga

/- A slice of slices of bytes that a law is given. -/
namespace Go.Ga
open Go

/-- Slices of bytes in a row. -/
def RowB (nx : Nat) (gt : Nat → Option Blk) (A : Option Addr) (n : Nat) (ls : List (List UInt8)) : Prop := ls.length = n ∧ (∀ a, A = some a → a.spot = none ∨ a.spot = some 1) ∧ (0 < n → ∃ a ce ro, A = some a ∧ a.block < nx ∧ gt a.block = some (.cells ce ro) ∧ a.off + n ≤ ce.length ∧
  ∀ i, i < n → ∃ B m d, ce.getD (a.off + i) undef = .slice B m d ∧ m ≤ d ∧ Row nx gt 1 B m ((ls.getD i []).map u8V))
theorem RowB.keep {nx gt A n ls nx' gt'} (h : RowB nx gt A n ls) (h1 : nx ≤ nx') (h2 : ∀ p, p < nx → gt' p = gt p) : RowB nx' gt' A n ls := by
  refine ⟨h.1, h.2.1, fun h0 => ?_⟩
  obtain ⟨a, ce, ro, e1, e2, e3, e4, e5⟩ := h.2.2 h0
  refine ⟨a, ce, ro, e1, by omega, by rw [h2 _ e2, e3], e4, fun i hi => ?_⟩
  obtain ⟨B, m, d, f1, f2, f3⟩ := e5 i hi
  exact ⟨B, m, d, f1, f2, f3.keep h1 h2⟩

section
variable {H : Type} {enc : TypeId × Value → H} {P : Program} {w : World} {held : Bool} {t : TypeId}

end
end Go.Ga

/- A key and a hash that a law is given. -/
namespace Go.Ga
open Go

section
variable {H : Type} {enc : TypeId × Value → H} {P : Program} {w : World} {held : Bool} {t : TypeId}

end
end Go.Ga

/- An element that a law is given. -/
namespace Go.Ga
open Go

theorem list_three {cs : List Value} {a b c : Value} (hl : cs.length = 3) (h0 : (cs.drop 0).take 1 = [a]) (h1 : (cs.drop 1).take 1 = [b]) (h2 : (cs.drop 2).take 1 = [c]) : cs = [a, b, c] := by
  match cs, hl with
  | [x, y, z], _ =>
    simp at h0 h1 h2
    rw [h0, h1, h2]

section
variable {H : Type} {enc : TypeId × Value → H} {P : Program} {w : World} {held : Bool} {t : TypeId}

/-- The types of a node, as the program has them. -/
structure NodeT (P : Program) (t ti tb tk te : TypeId) : Prop where
  str : ∃ fs : Array Field, P.underlying t = some (.struct fs) ∧ (fs[0]?).map (fun f => (f.type, f.offset)) = some (ti, 0) ∧ (fs[1]?).map (fun f => (f.type, f.offset)) = some (tb, 1) ∧ (fs[2]?).map (fun f => (f.type, f.offset)) = some (tk, 2)
  int : P.underlying ti = some (.int .i64)
  bytes : P.underlying tb = some (.slice te)
  byte : P.underlying te = some (.int .u8)
  kids : P.underlying tk = some (.slice t)
  ct : P.cellsOf t = 3
  ci : P.cellsOf ti = 1
  cb : P.cellsOf tb = 1
  ce : P.cellsOf te = 1
  ck : P.cellsOf tk = 1

theorem Shp.nodes {f : Nat} {t ti tb tk te : TypeId} (hT : NodeT P t ti tb tk te) (hnode : ∀ cs, Shp enc P w held f t cs → ∃ (x : Fo.El) (B : Option Addr) (m d : Nat) (A : Option Addr) (n c : Nat) (ks : List Value), cs.map (absC w) = nodeL x.t B m d A n c ∧ NdR w.heap.size (m0 w).get x B m d A n c ks)
    {cs : List Value} {tk' : TypeId} (hk : P.underlying tk' = some (.slice t)) (h : Shp enc P w held (f + 1) tk' cs) :
    ∃ (v : Value) (A : Option Addr) (n c : Nat) (F : Fo) (ks : List Value), cs = [v] ∧ absC w v = .slice A n c ∧ n ≤ c ∧ n = F.len ∧ Row w.heap.size (m0 w).get 3 A (n * 3) ks ∧ FoR w.heap.size (m0 w).get F ks := by
  obtain ⟨n, v, A, len, cap, l, hf, rfl, h2, h3, h4, h5, h6⟩ := h.slice hk (by rw [hT.ct]; omega)
  injection hf with hf
  subst hf
  rw [hT.ct] at h4 h5 h6
  have key : ∀ i, i ≤ len → ∃ F : Fo, F.len = i ∧ FoR w.heap.size (m0 w).get F ((l.map (absC w)).take (i * 3)) := by
    intro i
    induction i with
    | zero => intro _; exact ⟨.nil, rfl, by rw [Nat.zero_mul]; rfl⟩
    | succ i ih =>
      intro hi
      obtain ⟨F, e1, e2⟩ := ih (by omega)
      obtain ⟨x, B, m, d, A', n', c', ks', g1, g2⟩ := hnode _ (h6 i (by omega))
      refine ⟨F.app x.f, by rw [Fo.len_app, e1]; rfl, ?_⟩
      have e : (l.map (absC w)).take ((i + 1) * 3) = (l.map (absC w)).take (i * 3) ++ nodeL x.t B m d A' n' c' := by
        rw [← g1, Nat.add_mul, Nat.one_mul, List.take_add, List.map_take, List.map_drop]
      rw [e]
      exact e2.app g2.one
  obtain ⟨F, e1, e2⟩ := key len (Nat.le_refl _)
  rw [List.take_of_length_le (by simp; omega)] at e2
  exact ⟨v, A, len, cap, F, _, rfl, h2, h3, e1.symm, h4, e2⟩

theorem Shp.node {t ti tb tk te : TypeId} (hT : NodeT P t ti tb tk te) : ∀ (f : Nat) (cs : List Value), Shp enc P w held f t cs →
    ∃ (x : Fo.El) (B : Option Addr) (m d : Nat) (A : Option Addr) (n c : Nat) (ks : List Value), cs.map (absC w) = nodeL x.t B m d A n c ∧ NdR w.heap.size (m0 w).get x B m d A n c ks := by
  intro f
  induction f using Nat.strongRecOn with
  | ind f ih =>
    intro cs h
    obtain ⟨fs, hs, h0, h1, h2⟩ := hT.str
    obtain ⟨k, rfl, hl, hfl⟩ := h.struct hs
    simp only [Option.map_eq_some_iff] at h0 h1 h2
    obtain ⟨f0, e0, e0'⟩ := h0
    obtain ⟨f1, e1, e1'⟩ := h1
    obtain ⟨f2, e2, e2'⟩ := h2
    injection e0' with a0 b0
    injection e1' with a1 b1
    injection e2' with a2 b2
    have g0 := hfl 0 f0 e0
    have g1 := hfl 1 f1 e1
    have g2 := hfl 2 f2 e2
    rw [hT.ct] at hl
    rw [a0, b0, hT.ci, take_one (by omega)] at g0
    rw [a1, b1, hT.cb, take_one (by omega)] at g1
    rw [a2, b2, hT.ck, take_one (by omega)] at g2
    obtain ⟨z, z1, z2⟩ := g0.int hT.int
    obtain ⟨vb, B, m, d, lb, q0, q1, q2, q3⟩ := g1.bytes hT.bytes hT.byte hT.ce
    cases k with
    | zero =>
      obtain ⟨y, hy⟩ := g2
      rcases DataW.trod_slice hT.kids hy with ⟨_, h⟩ | ⟨a, len, cap, elems, rest, n, h, _⟩
      · simp [DataW.trod] at hy
      · simp [DataW.trod] at hy
    | succ k =>
      obtain ⟨vk, A, n, c, F, ks, p0, p1, p2, p3, p4, p5⟩ := g2.nodes hT (ih k (by omega)) hT.kids
      injection z1 with z1
      injection q0 with q0
      injection p0 with p0
      refine ⟨⟨z, lb, F⟩, B, m, d, A, n, c, ks, ?_, ⟨wf_i64 z2, q3, q2, p4, p2, p3, p5⟩⟩
      have hcs : cs = [cs[0], cs[1], cs[2]] := list_three hl (take_one (by omega)) (take_one (by omega)) (take_one (by omega))
      rw [hcs, z1, q0, p0]
      simp only [List.map_cons, List.map_nil, q1, p1]
      simp [absC, goodV]

theorem open_node {t ti tb tk te : TypeId} (hT : NodeT P t ti tb tk te) {r : Reach} {b0 : Nat} {v : Value} {d : DataW H} {ps : List MemPlace} (hval : Value.okWide P w r b0 t v) (hd : DataW.Trod enc P w 0 (fun _ => true) held t v d ps) :
    ∃ (x : Fo.El) (B : Option Addr) (m d : Nat) (A : Option Addr) (n c : Nat) (ks : List Value), absV w v = nodeV x.t B m d A n c ∧ NdR w.heap.size (m0 w).get x B m d A n c ks := by
  obtain ⟨fs, hs, _⟩ := hT.str
  simp only [Value.okWide, hs] at hval
  obtain ⟨cs, rfl, hcs, _⟩ := hval
  obtain ⟨fuel, hf⟩ := hd
  obtain ⟨x, B, m, d, A, n, c, ks, h1, h2⟩ := Shp.node hT _ _ ⟨_, hf⟩
  refine ⟨x, B, m, d, A, n, c, ks, ?_, h2⟩
  simp only [Value.cells] at h1
  simp only [absV]
  congr 1
  apply Array.ext'
  simpa using h1

end
end Go.Ga

/- The law ScalarNumbers. -/
namespace Go.Ga
open Go Go.Proofs
set_option linter.unusedSimpArgs false
set_option linter.unusedVariables false
set_option maxRecDepth 100000
attribute [local irreducible] appendK

def fieldsOf : Option TypeDesc → Array Field
  | some (.struct fs) => fs
  | _ => #[]
theorem nodeT : NodeT Tryd.prog 26 3 23 24 5 :=
  ⟨⟨fieldsOf (Tryd.prog.underlying 26), by kernel_rfl, by kernel_rfl, by kernel_rfl, by kernel_rfl⟩, by kernel_rfl, by kernel_rfl, by kernel_rfl, by kernel_rfl, by kernel_rfl, by kernel_rfl, by kernel_rfl, by kernel_rfl, by kernel_rfl⟩

section
variable {nx : Nat} {gt : Nat → Option Blk}


theorem fn_Numbers {w : Nat} {A0 : Option Addr} {n0 c0 : Nat} {l0 : List UInt8} {x : Fo.El} {B : Option Addr} {m d : Nat} {A : Option Addr} {n c : Nat} {ks : List Value} (hw : w < 18446744073709551616) (hr : Row nx gt 1 A0 n0 (l0.map u8V)) (hc : n0 ≤ c0) (h : NdR nx gt x B m d A n c ks) :
    Ct Tryd.prog 3 [.int .u64 (w : Nat), .slice A0 n0 c0, nodeV x.t B m d A n c] nx gt fun v _ _ => v = .bool true := by
  refine Ct.of hmx r_lanyardlaw05_ScalarNumbers (by simp [c_lanyardlaw05_ScalarNumbers]) fun b hb => ?_
  have hF : ∀ q, q < nx → upd gt nx (some (.cells (nodeL x.t B m d A n c) false)) q = gt q := fun q hq => by simp only [upd_e]; rw [if_neg (by omega)]
  have hb0 : upd gt nx (some (.cells (nodeL x.t B m d A n c) false)) nx = some (.cells (nodeL x.t B m d A n c) false) := by simp only [upd_e, if_true]
  have hl0 : l0.length = n0 := by simpa using hr.len
  simp only [c_lanyardlaw05_ScalarNumbers, ↓gaW, ↓gaV, ↓gaC, ↓gaN, gaP, Nat.reduceEqDiff, Nat.reduceLeDiff, Nat.reduceAdd, Nat.reduceSub, Nat.reduceMul, Int.reduceLT, Int.reduceLE, Int.reduceEq, Int.reduceToNat, Int.reduceAdd, Int.reduceSub, Int.reduceMul, reduceCtorEq, ↓reduceIte, List.getD_cons_zero, List.getD_cons_succ, fillL, splice, List.take_zero, List.drop_zero, List.drop_succ_cons, List.take_succ_cons, List.drop_nil, List.take_nil, gaU]
  generalize upd gt nx (some (.cells (nodeL x.t B m d A n c) false)) = g0 at *
  refine callK_of ct_awake05 (fun v x1 g1 l1 k1 hC => ?_) (by omega)
  subst hC
  have F1 : ∀ p, p < nx → g1 p = gt p := fun p hp => by rw [k1 p (by omega), hF p hp]
  have hb1 : g1 nx = some (.cells (nodeL x.t B m d A n c) false) := by rw [k1 nx (by omega), hb0]
  simp only [↓gaW, ↓gaV, ↓gaC, ↓gaN, gaP, Nat.reduceEqDiff, Nat.reduceLeDiff, Nat.reduceAdd, Nat.reduceSub, Nat.reduceMul, Int.reduceLT, Int.reduceLE, Int.reduceEq, Int.reduceToNat, Int.reduceAdd, Int.reduceSub, Int.reduceMul, reduceCtorEq, ↓reduceIte, List.getD_cons_zero, List.getD_cons_succ, fillL, splice, List.take_zero, List.drop_zero, List.drop_succ_cons, List.take_succ_cons, List.drop_nil, List.take_nil, hb1]
  repeat refine And.intro (by omega) ?_
  refine callK_of (ct_Light (h.keep (x' := x1) (by omega) F1)) (fun v x2 g2 l2 k2 hC => ?_) (by omega)
  obtain ⟨ok, rfl, hok⟩ := hC
  have F2 : ∀ p, p < nx → g2 p = gt p := fun p hp => by rw [k2 p (by omega), F1 p hp]
  have hb2 : g2 nx = some (.cells (nodeL x.t B m d A n c) false) := by rw [k2 nx (by omega), hb1]
  cases ok with
  | false =>
    simp only [↓gaW, ↓gaV, ↓gaC, ↓gaN, gaP, Nat.reduceEqDiff, Nat.reduceLeDiff, Nat.reduceAdd, Nat.reduceSub, Nat.reduceMul, Int.reduceLT, Int.reduceLE, Int.reduceEq, Int.reduceToNat, Int.reduceAdd, Int.reduceSub, Int.reduceMul, reduceCtorEq, ↓reduceIte, gaE, implies_true, Nat.le_refl, Int.sub_zero, Nat.sub_zero, Int.le_refl, true_or, or_true, List.getD_cons_zero, List.getD_cons_succ, fillL, splice, List.take_zero, List.drop_zero, List.drop_succ_cons, List.take_succ_cons, List.drop_nil, List.take_nil, Bool.not_false]
    exact ⟨by omega, F2⟩
  | true =>
    have hxw := hok rfl
    by_cases hn0 : (1000 : Int) < (n0 : Int)
    · simp only [↓gaW, ↓gaV, ↓gaC, ↓gaN, gaP, Nat.reduceEqDiff, Nat.reduceLeDiff, Nat.reduceAdd, Nat.reduceSub, Nat.reduceMul, Int.reduceLT, Int.reduceLE, Int.reduceEq, Int.reduceToNat, Int.reduceAdd, Int.reduceSub, Int.reduceMul, reduceCtorEq, ↓reduceIte, gaE, implies_true, Nat.le_refl, Int.sub_zero, Nat.sub_zero, Int.le_refl, true_or, or_true, List.getD_cons_zero, List.getD_cons_succ, fillL, splice, List.take_zero, List.drop_zero, List.drop_succ_cons, List.take_succ_cons, List.drop_nil, List.take_nil, Bool.not_true, hn0, decide_true]
      exact ⟨by omega, F2⟩
    simp only [↓gaW, ↓gaV, ↓gaC, ↓gaN, gaP, Nat.reduceEqDiff, Nat.reduceLeDiff, Nat.reduceAdd, Nat.reduceSub, Nat.reduceMul, Int.reduceLT, Int.reduceLE, Int.reduceEq, Int.reduceToNat, Int.reduceAdd, Int.reduceSub, Int.reduceMul, reduceCtorEq, ↓reduceIte, List.getD_cons_zero, List.getD_cons_succ, fillL, splice, List.take_zero, List.drop_zero, List.drop_succ_cons, List.take_succ_cons, List.drop_nil, List.take_nil, Bool.not_true, hn0, decide_false]
    repeat refine And.intro (by omega) ?_
    refine callK_of (ct_Int hw) (fun v x3 g3 l3 k3 hC => ?_) (by omega)
    obtain ⟨y, hy, B3, m3, d3, A3, n3, c3, ks3, rfl, N3⟩ := hC
    have yw := intE_ws hy
    have F3 : ∀ p, p < nx → g3 p = gt p := fun p hp => by rw [k3 p (by omega), F2 p hp]
    have hb3 : g3 nx = some (.cells (nodeL x.t B m d A n c) false) := by rw [k3 nx (by omega), hb2]
    simp only [↓gaW, ↓gaV, ↓gaC, ↓gaN, gaP, Nat.reduceEqDiff, Nat.reduceLeDiff, Nat.reduceAdd, Nat.reduceSub, Nat.reduceMul, Int.reduceLT, Int.reduceLE, Int.reduceEq, Int.reduceToNat, Int.reduceAdd, Int.reduceSub, Int.reduceMul, reduceCtorEq, ↓reduceIte, List.getD_cons_zero, List.getD_cons_succ, fillL, splice, List.take_zero, List.drop_zero, List.drop_succ_cons, List.take_succ_cons, List.drop_nil, List.take_nil]
    refine callK_of (ct_rInt hw) (fun v x4 g4 l4 k4 hC => ?_) (by omega)
    obtain ⟨z, hz, B4, m4, d4, A4, n4, c4, ks4, rfl, N4⟩ := hC
    have := intE_one hz hy
    subst this
    have F4 : ∀ p, p < nx → g4 p = gt p := fun p hp => by rw [k4 p (by omega), F3 p hp]
    have hb4 : g4 nx = some (.cells (nodeL x.t B m d A n c) false) := by rw [k4 nx (by omega), hb3]
    simp only [↓gaW, ↓gaV, ↓gaC, ↓gaN, gaP, Nat.reduceEqDiff, Nat.reduceLeDiff, Nat.reduceAdd, Nat.reduceSub, Nat.reduceMul, Int.reduceLT, Int.reduceLE, Int.reduceEq, Int.reduceToNat, Int.reduceAdd, Int.reduceSub, Int.reduceMul, reduceCtorEq, ↓reduceIte, List.getD_cons_zero, List.getD_cons_succ, fillL, splice, List.take_zero, List.drop_zero, List.drop_succ_cons, List.take_succ_cons, List.drop_nil, List.take_nil]
    refine callK_of (ct_Same z (by omega) z _ _ _ _ _ _ _ _ _ _ _ _ _ _ _ _ (N3.r.keep l4 k4) N4.r) (fun v x5 g5 l5 k5 hC => ?_) (by omega)
    obtain ⟨s5, rfl, hs5⟩ := hC
    have : s5 = true := hs5.2 rfl
    subst this
    have F5 : ∀ p, p < nx → g5 p = gt p := fun p hp => by rw [k5 p (by omega), F4 p hp]
    have hb5 : g5 nx = some (.cells (nodeL x.t B m d A n c) false) := by rw [k5 nx (by omega), hb4]
    simp only [↓gaW, ↓gaV, ↓gaC, ↓gaN, gaP, Nat.reduceEqDiff, Nat.reduceLeDiff, Nat.reduceAdd, Nat.reduceSub, Nat.reduceMul, Int.reduceLT, Int.reduceLE, Int.reduceEq, Int.reduceToNat, Int.reduceAdd, Int.reduceSub, Int.reduceMul, reduceCtorEq, ↓reduceIte, List.getD_cons_zero, List.getD_cons_succ, fillL, splice, List.take_zero, List.drop_zero, List.drop_succ_cons, List.take_succ_cons, List.drop_nil, List.take_nil]
    refine callK_of (ct_Big (hr.keep (nx' := x5) (by omega) F5) hc (by omega)) (fun v x6 g6 l6 k6 hC => ?_) (by omega)
    obtain ⟨B6, m6, d6, A6, n6, c6, ks6, rfl, N6⟩ := hC
    have bw := big_ws l0
    have F6 : ∀ p, p < nx → g6 p = gt p := fun p hp => by rw [k6 p (by omega), F5 p hp]
    have hb6 : g6 nx = some (.cells (nodeL x.t B m d A n c) false) := by rw [k6 nx (by omega), hb5]
    simp only [↓gaW, ↓gaV, ↓gaC, ↓gaN, gaP, Nat.reduceEqDiff, Nat.reduceLeDiff, Nat.reduceAdd, Nat.reduceSub, Nat.reduceMul, Int.reduceLT, Int.reduceLE, Int.reduceEq, Int.reduceToNat, Int.reduceAdd, Int.reduceSub, Int.reduceMul, reduceCtorEq, ↓reduceIte, List.getD_cons_zero, List.getD_cons_succ, fillL, splice, List.take_zero, List.drop_zero, List.drop_succ_cons, List.take_succ_cons, List.drop_nil, List.take_nil]
    refine callK_of (ct_rBig (hr.keep (nx' := x6) (by omega) F6) hc (by omega)) (fun v x7 g7 l7 k7 hC => ?_) (by omega)
    obtain ⟨B7, m7, d7, A7, n7, c7, ks7, rfl, N7⟩ := hC
    have F7 : ∀ p, p < nx → g7 p = gt p := fun p hp => by rw [k7 p (by omega), F6 p hp]
    have hb7 : g7 nx = some (.cells (nodeL x.t B m d A n c) false) := by rw [k7 nx (by omega), hb6]
    simp only [↓gaW, ↓gaV, ↓gaC, ↓gaN, gaP, Nat.reduceEqDiff, Nat.reduceLeDiff, Nat.reduceAdd, Nat.reduceSub, Nat.reduceMul, Int.reduceLT, Int.reduceLE, Int.reduceEq, Int.reduceToNat, Int.reduceAdd, Int.reduceSub, Int.reduceMul, reduceCtorEq, ↓reduceIte, List.getD_cons_zero, List.getD_cons_succ, fillL, splice, List.take_zero, List.drop_zero, List.drop_succ_cons, List.take_succ_cons, List.drop_nil, List.take_nil]
    refine callK_of (ct_Same (big l0) (by omega) (big l0) _ _ _ _ _ _ _ _ _ _ _ _ _ _ _ _ (N6.r.keep l7 k7) N7.r) (fun v x8 g8 l8 k8 hC => ?_) (by omega)
    obtain ⟨s8, rfl, hs8⟩ := hC
    have : s8 = true := hs8.2 rfl
    subst this
    have F8 : ∀ p, p < nx → g8 p = gt p := fun p hp => by rw [k8 p (by omega), F7 p hp]
    have hb8 : g8 nx = some (.cells (nodeL x.t B m d A n c) false) := by rw [k8 nx (by omega), hb7]
    simp only [↓gaW, ↓gaV, ↓gaC, ↓gaN, gaP, Nat.reduceEqDiff, Nat.reduceLeDiff, Nat.reduceAdd, Nat.reduceSub, Nat.reduceMul, Int.reduceLT, Int.reduceLE, Int.reduceEq, Int.reduceToNat, Int.reduceAdd, Int.reduceSub, Int.reduceMul, reduceCtorEq, ↓reduceIte, List.getD_cons_zero, List.getD_cons_succ, fillL, splice, List.take_zero, List.drop_zero, List.drop_succ_cons, List.take_succ_cons, List.drop_nil, List.take_nil, hb8]
    repeat refine And.intro (by omega) ?_
    refine callK_of (ct_Uint (h.keep (x' := x8) (by omega) F8) (by omega)) (fun v x9 g9 l9 k9 hC => ?_) (by omega)
    subst hC
    have F9 : ∀ p, p < nx → g9 p = gt p := fun p hp => by rw [k9 p (by omega), F8 p hp]
    have hb9 : g9 nx = some (.cells (nodeL x.t B m d A n c) false) := by rw [k9 nx (by omega), hb8]
    simp only [↓gaW, ↓gaV, ↓gaC, ↓gaN, gaP, Nat.reduceEqDiff, Nat.reduceLeDiff, Nat.reduceAdd, Nat.reduceSub, Nat.reduceMul, Int.reduceLT, Int.reduceLE, Int.reduceEq, Int.reduceToNat, Int.reduceAdd, Int.reduceSub, Int.reduceMul, reduceCtorEq, ↓reduceIte, List.getD_cons_zero, List.getD_cons_succ, fillL, splice, List.take_zero, List.drop_zero, List.drop_succ_cons, List.take_succ_cons, List.drop_nil, List.take_nil, hb9]
    repeat refine And.intro (by omega) ?_
    refine callK_of (ct_rUint (h.keep (x' := x9) (by omega) F9) (by omega)) (fun v xa ga la ka hC => ?_) (by omega)
    subst hC
    have Fa : ∀ p, p < nx → ga p = gt p := fun p hp => by rw [ka p (by omega), F9 p hp]
    have hba : ga nx = some (.cells (nodeL x.t B m d A n c) false) := by rw [ka nx (by omega), hb9]
    simp only [↓gaW, ↓gaV, ↓gaC, ↓gaN, gaP, Nat.reduceEqDiff, Nat.reduceLeDiff, Nat.reduceAdd, Nat.reduceSub, Nat.reduceMul, Int.reduceLT, Int.reduceLE, Int.reduceEq, Int.reduceToNat, Int.reduceAdd, Int.reduceSub, Int.reduceMul, reduceCtorEq, ↓reduceIte, List.getD_cons_zero, List.getD_cons_succ, fillL, splice, List.take_zero, List.drop_zero, List.drop_succ_cons, List.take_succ_cons, List.drop_nil, List.take_nil, hba]
    repeat refine And.intro (by omega) ?_
    refine callK_of (ct_Great (h.keep (x' := xa) (by omega) Fa) (by omega)) (fun v xb gb lb kb hC => ?_) (by omega)
    obtain ⟨u, rfl, Ab, nb, cb, rfl, hcb, hlb, rb⟩ := hC
    have Fb : ∀ p, p < nx → gb p = gt p := fun p hp => by rw [kb p (by omega), Fa p hp]
    have hbb : gb nx = some (.cells (nodeL x.t B m d A n c) false) := by rw [kb nx (by omega), hba]
    simp only [↓gaW, ↓gaV, ↓gaC, ↓gaN, gaP, Nat.reduceEqDiff, Nat.reduceLeDiff, Nat.reduceAdd, Nat.reduceSub, Nat.reduceMul, Int.reduceLT, Int.reduceLE, Int.reduceEq, Int.reduceToNat, Int.reduceAdd, Int.reduceSub, Int.reduceMul, reduceCtorEq, ↓reduceIte, List.getD_cons_zero, List.getD_cons_succ, fillL, splice, List.take_zero, List.drop_zero, List.drop_succ_cons, List.take_succ_cons, List.drop_nil, List.take_nil, hbb]
    repeat refine And.intro (by omega) ?_
    refine callK_of (ct_rGreat (h.keep (x' := xb) (by omega) Fb) (by omega)) (fun v xc gc lc kc hC => ?_) (by omega)
    obtain ⟨u, rfl, Ac, nc, cc, rfl, hcc, hlc, rc⟩ := hC
    have Fc : ∀ p, p < nx → gc p = gt p := fun p hp => by rw [kc p (by omega), Fb p hp]
    have e3 : rowOf ⟨xc, b, gc⟩ Ab nb = some ((greatR x).1.map u8V) := (rb.keep lc kc).rowOf
    have e4 : rowOf ⟨xc, b, gc⟩ Ac nc = some ((greatR x).1.map u8V) := rc.rowOf
    simp only [↓gaW, ↓gaV, ↓gaC, ↓gaN, gaP, Nat.reduceEqDiff, Nat.reduceLeDiff, Nat.reduceAdd, Nat.reduceSub, Nat.reduceMul, Int.reduceLT, Int.reduceLE, Int.reduceEq, Int.reduceToNat, Int.reduceAdd, Int.reduceSub, Int.reduceMul, reduceCtorEq, ↓reduceIte, List.getD_cons_zero, List.getD_cons_succ, fillL, splice, List.take_zero, List.drop_zero, List.drop_succ_cons, List.take_succ_cons, List.drop_nil, List.take_nil, gaE, implies_true, Nat.le_refl, Int.sub_zero, Nat.sub_zero, Int.le_refl, true_or, or_true, e3, e4, bytesOf_map, str_eq, decide_true, beq_self_eq_true]
    repeat refine And.intro (by omega) ?_
    exact Fc
end
end Go.Ga
