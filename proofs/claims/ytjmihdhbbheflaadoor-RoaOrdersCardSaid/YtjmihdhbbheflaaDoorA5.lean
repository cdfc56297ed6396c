/- Words and contracts of functions for the statement's proof. No condition. -/
import Derived.Test.YtjmihdhbbheflaaDoorA4
import Derived.Test.YtjmihdhbbheflaaDoorProg
import Derived.KernelRfl
set_option linter.all false

/- Bytes without noughts ahead; are bytes, elements alike? -/
namespace Go.Ga
open Go Go.Proofs
set_option linter.unusedSimpArgs false
set_option linter.unusedVariables false
set_option maxRecDepth 100000
attribute [local irreducible] appendK

def bare (l : List UInt8) : List UInt8 := l.dropWhile (· == 0)
theorem bare_nil : bare [] = [] := rfl
theorem bare_0 (l : List UInt8) : bare (0 :: l) = bare l := rfl
theorem bare_n {x : UInt8} (h : x ≠ 0) (l : List UInt8) : bare (x :: l) = x :: l := by
  simp [bare, List.dropWhile_cons, h]
theorem bare_len (l : List UInt8) : (bare l).length ≤ l.length := by
  induction l with
  | nil => exact Nat.le_refl _
  | cons x l ih =>
    by_cases h : x = 0
    · subst h; rw [bare_0]; simp only [List.length_cons]; omega
    · rw [bare_n h]; exact Nat.le_refl _

section
variable {nx : Nat} {gt : Nat → Option Blk}

theorem ct_Equal {A B : Option Addr} {n c m d : Nat} {l k : List UInt8} (hA : Row nx gt 1 A n (l.map u8V)) (hB : Row nx gt 1 B m (k.map u8V)) :
    Ct Tryd.prog 97 [.slice A n c, .slice B m d] nx gt fun v _ _ => v = .bool (l == k) := by
  refine Ct.of hmx r_bytes_Equal (by simp [c_bytes_Equal]) fun b hb => ?_
  have e1 : rowOf ⟨nx, b, gt⟩ A n = some (l.map u8V) := hA.rowOf
  have e2 : rowOf ⟨nx, b, gt⟩ B m = some (k.map u8V) := hB.rowOf
  simp only [c_bytes_Equal, ↓gaW, ↓gaV, ↓gaC, ↓gaN, gaP, Nat.reduceEqDiff, Nat.reduceLeDiff, Nat.reduceAdd, Nat.reduceSub, Nat.reduceMul, Int.reduceLT, Int.reduceLE, Int.reduceEq, Int.reduceToNat, Int.reduceAdd, Int.reduceSub, Int.reduceMul, reduceCtorEq, ↓reduceIte, gaE, implies_true, Nat.le_refl, Int.sub_zero, Nat.sub_zero, Int.le_refl, true_or, or_true, e1, e2, bytesOf_map, str_eq]

theorem ct_trimByte {A : Option Addr} {n c : Nat} {l : List UInt8} (hA : Row nx gt 1 A n (l.map u8V)) (hc : n ≤ c) (hn : n ≤ 1000000000) :
    Ct Tryd.prog 93 [.slice A n c, .int .u8 0] nx gt fun v x g => BySl x g v (bare l) := by
  refine Ct.of hmx r_bytes_trimLeftByte (by simp [c_bytes_trimLeftByte]) fun b hb => ?_
  simp only [c_bytes_trimLeftByte, ↓gaW, ↓gaV, ↓gaC, ↓gaN, gaP, Nat.reduceEqDiff, Nat.reduceLeDiff, Nat.reduceAdd, Nat.reduceSub, Nat.reduceMul, Int.reduceLT, Int.reduceLE, Int.reduceEq, Int.reduceToNat, Int.reduceAdd, Int.reduceSub, Int.reduceMul, reduceCtorEq, ↓reduceIte]
  refine loop_of (fun j f mm => ∃ (A' : Option Addr) (n' c' : Nat) (l' : List UInt8), j = n' ∧ bare l = bare l' ∧ n' ≤ c' ∧ n' ≤ n ∧ Row nx gt 1 A' n' (l'.map u8V) ∧ f 0 = .slice A' n' c' ∧ f 1 = .int .u8 0 ∧ mm = ⟨nx, b, gt⟩) n ⟨A, n, c, l, rfl, rfl, hc, Nat.le_refl _, hA, (by first | (simp only [↓gaW, ↓gaV, ↓gaC, ↓gaN, gaP, Nat.reduceEqDiff, Nat.reduceLeDiff, Nat.reduceAdd, Nat.reduceSub, Nat.reduceMul, Int.reduceLT, Int.reduceLE, Int.reduceEq, Int.reduceToNat, Int.reduceAdd, Int.reduceSub, Int.reduceMul, reduceCtorEq, ↓reduceIte]; done) | (simp only [↓gaW, ↓gaV, ↓gaC, ↓gaN, gaP, Nat.reduceEqDiff, Nat.reduceLeDiff, Nat.reduceAdd, Nat.reduceSub, Nat.reduceMul, Int.reduceLT, Int.reduceLE, Int.reduceEq, Int.reduceToNat, Int.reduceAdd, Int.reduceSub, Int.reduceMul, reduceCtorEq, ↓reduceIte]; rfl)), (by first | (simp only [↓gaW, ↓gaV, ↓gaC, ↓gaN, gaP, Nat.reduceEqDiff, Nat.reduceLeDiff, Nat.reduceAdd, Nat.reduceSub, Nat.reduceMul, Int.reduceLT, Int.reduceLE, Int.reduceEq, Int.reduceToNat, Int.reduceAdd, Int.reduceSub, Int.reduceMul, reduceCtorEq, ↓reduceIte]; done) | (simp only [↓gaW, ↓gaV, ↓gaC, ↓gaN, gaP, Nat.reduceEqDiff, Nat.reduceLeDiff, Nat.reduceAdd, Nat.reduceSub, Nat.reduceMul, Int.reduceLT, Int.reduceLE, Int.reduceEq, Int.reduceToNat, Int.reduceAdd, Int.reduceSub, Int.reduceMul, reduceCtorEq, ↓reduceIte]; rfl)), rfl⟩ ?_
  rintro j f mm ⟨A', n', c', l', hj, hbl, hc', hn', hA', f0, f1, rfl⟩
  have hl' : l'.length = n' := by simpa using hA'.len
  by_cases h0 : (0 : Int) < (n' : Int)
  · obtain ⟨a, cl, ro, rfl, r2, r3, r4, r5⟩ := hA'.cells (by omega)
    obtain ⟨x, t, rfl⟩ : ∃ x t, l' = x :: t := by cases l' with | nil => simp at hl'; omega | cons x t => exact ⟨x, t, rfl⟩
    have c0 : cl.getD a.off undef = .int .u8 (x.toNat : Nat) := by
      have := r5 0 (by omega)
      rw [Nat.add_zero] at this
      rw [this]; rfl
    have hsp := hA'.spot a rfl
    by_cases hx : x = 0
    · subst hx
      rw [bare_0] at hbl
      have P1 := hA'.part (lo := 1) (hi := n') (by omega) (by omega) rfl
      rw [← List.map_drop, ← List.map_take, List.drop_succ_cons, List.drop_zero, List.take_of_length_le (by simp only [List.length_cons] at hl'; omega)] at P1
      have z0 : (((0 : UInt8).toNat : Nat) : Int) = 0 := rfl
      simp only [↓gaW, ↓gaV, ↓gaC, ↓gaN, gaP, Nat.reduceEqDiff, Nat.reduceLeDiff, Nat.reduceAdd, Nat.reduceSub, Nat.reduceMul, Int.reduceLT, Int.reduceLE, Int.reduceEq, Int.reduceToNat, Int.reduceAdd, Int.reduceSub, Int.reduceMul, reduceCtorEq, ↓reduceIte, f0, f1, h0, decide_true, r3, c0, z0, loopK_n]
      repeat refine And.intro (by omega) ?_
      refine And.intro (.inr hsp) ?_
      rw [show ((n' : Int) - 1).toNat = n' - 1 by omega, show ((c' : Int) - 1).toNat = c' - 1 by omega]
      exact ⟨n' - 1, by omega, _, n' - 1, c' - 1, t, rfl, hbl, by omega, by omega, P1, rfl⟩
    · have hx0 : ¬ ((x.toNat : Nat) : Int) = 0 := fun h => hx (UInt8.toNat_inj.1 (by simpa using h))
      have hn0 : ¬ (n' : Int) = 0 := by omega
      rw [bare_n hx] at hbl
      rw [hbl]
      simp only [↓gaW, ↓gaV, ↓gaC, ↓gaN, gaP, Nat.reduceEqDiff, Nat.reduceLeDiff, Nat.reduceAdd, Nat.reduceSub, Nat.reduceMul, Int.reduceLT, Int.reduceLE, Int.reduceEq, Int.reduceToNat, Int.reduceAdd, Int.reduceSub, Int.reduceMul, reduceCtorEq, ↓reduceIte, gaE, implies_true, Nat.le_refl, Int.sub_zero, Nat.sub_zero, Int.le_refl, true_or, or_true, f0, f1, h0, decide_true, r3, c0, hx0, decide_false, hn0]
      repeat refine And.intro (by omega) ?_
      exact ⟨_, n', c', rfl, hc', hl', hA'⟩
  · have hl0 : l' = [] := List.eq_nil_of_length_eq_zero (by omega)
    subst hl0
    have hn0 : (n' : Int) = 0 := by omega
    rw [hbl, bare_nil]
    simp only [↓gaW, ↓gaV, ↓gaC, ↓gaN, gaP, Nat.reduceEqDiff, Nat.reduceLeDiff, Nat.reduceAdd, Nat.reduceSub, Nat.reduceMul, Int.reduceLT, Int.reduceLE, Int.reduceEq, Int.reduceToNat, Int.reduceAdd, Int.reduceSub, Int.reduceMul, reduceCtorEq, ↓reduceIte, gaE, implies_true, Nat.le_refl, Int.sub_zero, Nat.sub_zero, Int.le_refl, true_or, or_true, f0, f1, h0, decide_false, hn0, decide_true]
    exact .nil
theorem ct_Trim {A : Option Addr} {n c : Nat} {l : List UInt8} (hA : Row nx gt 1 A n (l.map u8V)) (hc : n ≤ c) (hn : n ≤ 1000000000) :
    Ct Tryd.prog 71 [.slice A n c, .string ⟨#[0]⟩] nx gt fun v x g => BySl x g v (bare l) := by
  have hl : l.length = n := by simpa using hA.len
  refine Ct.of hmx r_bytes_TrimLeft (by simp [c_bytes_TrimLeft]) fun b hb => ?_
  by_cases h0 : (n : Int) = 0
  · have hl0 : l = [] := List.eq_nil_of_length_eq_zero (by omega)
    subst hl0
    rw [bare_nil]
    simp only [c_bytes_TrimLeft, ↓gaW, ↓gaV, ↓gaC, ↓gaN, gaP, Nat.reduceEqDiff, Nat.reduceLeDiff, Nat.reduceAdd, Nat.reduceSub, Nat.reduceMul, Int.reduceLT, Int.reduceLE, Int.reduceEq, Int.reduceToNat, Int.reduceAdd, Int.reduceSub, Int.reduceMul, reduceCtorEq, ↓reduceIte, gaE, implies_true, Nat.le_refl, Int.sub_zero, Nat.sub_zero, Int.le_refl, true_or, or_true, h0, decide_true]
    exact .nil
  · have hs : ((⟨#[0]⟩ : ByteArray).toList == (⟨#[]⟩ : ByteArray).toList) = false := by rw [show (⟨#[0]⟩ : ByteArray) = ⟨[(0 : UInt8)].toArray⟩ from rfl, show (⟨#[]⟩ : ByteArray) = ⟨([] : List UInt8).toArray⟩ from rfl, str_eq]; rfl
    have hz : (((⟨#[0]⟩ : ByteArray).size : Nat) : Int) = 1 := rfl
    have hu : u8V (([0] : List UInt8).getD 0 0) = .int .u8 0 := rfl
    simp only [c_bytes_TrimLeft, ↓gaW, ↓gaV, ↓gaC, ↓gaN, gaP, Nat.reduceEqDiff, Nat.reduceLeDiff, Nat.reduceAdd, Nat.reduceSub, Nat.reduceMul, Int.reduceLT, Int.reduceLE, Int.reduceEq, Int.reduceToNat, Int.reduceAdd, Int.reduceSub, Int.reduceMul, reduceCtorEq, ↓reduceIte, h0, decide_false, hs, hz, decide_true, hu]
    repeat refine And.intro (by omega) ?_
    refine callK_of (ct_trimByte hA hc hn) (fun v x1 g1 l1 k1 hC => ?_) (by omega)
    simp only [↓gaW, ↓gaV, ↓gaC, ↓gaN, gaP, Nat.reduceEqDiff, Nat.reduceLeDiff, Nat.reduceAdd, Nat.reduceSub, Nat.reduceMul, Int.reduceLT, Int.reduceLE, Int.reduceEq, Int.reduceToNat, Int.reduceAdd, Int.reduceSub, Int.reduceMul, reduceCtorEq, ↓reduceIte, gaE, implies_true, Nat.le_refl, Int.sub_zero, Nat.sub_zero, Int.le_refl, true_or, or_true]
    exact ⟨by omega, k1, hC⟩
theorem ct_Clone {A : Option Addr} {n c : Nat} {l : List UInt8} (hA : Row nx gt 1 A n (l.map u8V)) (hc : n ≤ c) (hn : n ≤ 1000000000) :
    Ct Tryd.prog 72 [.slice A n c] nx gt fun v x g => ByL nx x g v l := by
  have hl : l.length = n := by simpa using hA.len
  refine Ct.of hmx r_bytes_Clone (by simp [c_bytes_Clone]) fun b hb => ?_
  cases A with
  | none =>
    have hn0 : n = 0 := by
      rcases Nat.eq_zero_or_pos n with h | h
      · exact h
      · obtain ⟨a, _, _, e, _⟩ := hA.cells h; cases e
    subst hn0
    have hl0 : l = [] := List.eq_nil_of_length_eq_zero hl
    subst hl0
    have e : isNilV NilK.sl (.slice none 0 c) = some true := rfl
    simp only [c_bytes_Clone, ↓gaW, ↓gaV, ↓gaC, ↓gaN, gaP, Nat.reduceEqDiff, Nat.reduceLeDiff, Nat.reduceAdd, Nat.reduceSub, Nat.reduceMul, Int.reduceLT, Int.reduceLE, Int.reduceEq, Int.reduceToNat, Int.reduceAdd, Int.reduceSub, Int.reduceMul, reduceCtorEq, ↓reduceIte, gaE, implies_true, Nat.le_refl, Int.sub_zero, Nat.sub_zero, Int.le_refl, true_or, or_true, e]
    exact .nil
  | some a =>
    have e : isNilV NilK.sl (.slice (some a) n c) = some false := rfl
    have hZ : ∀ p, p < nx → upd gt nx (some (Blk.cells [] false)) p = gt p := fun p hp => by simp only [upd_e]; rw [if_neg (by omega)]
    have hz : upd gt nx (some (Blk.cells [] false)) nx = some (.cells [] false) := by simp only [upd_e, if_true]
    simp only [c_bytes_Clone, ↓gaW, ↓gaV, ↓gaC, ↓gaN, gaP, Nat.reduceEqDiff, Nat.reduceLeDiff, Nat.reduceAdd, Nat.reduceSub, Nat.reduceMul, Int.reduceLT, Int.reduceLE, Int.reduceEq, Int.reduceToNat, Int.reduceAdd, Int.reduceSub, Int.reduceMul, reduceCtorEq, ↓reduceIte, List.getD_cons_zero, List.getD_cons_succ, fillL, splice, List.take_zero, List.drop_zero, List.drop_succ_cons, List.take_succ_cons, List.drop_nil, List.take_nil, e]
    generalize upd gt nx (some (Blk.cells [] false)) = g1 at *
    have e1 : rowOf ⟨nx + 1, b, g1⟩ (some a) n = some (l.map u8V) := (hA.keep (nx' := nx + 1) (gt' := g1) (by omega) hZ).rowOf
    rw [e1]
    simp only [asO_e]
    refine app_lit (by omega) hz (by omega) (by rw [List.length_map, hl, Nat.mul_one]) (all_u8 _) (by omega) (by omega) fun A6 x6 g6 l6 k6 R6 => ?_
    rw [Nat.mul_one] at R6
    simp only [↓gaW, ↓gaV, ↓gaC, ↓gaN, gaP, Nat.reduceEqDiff, Nat.reduceLeDiff, Nat.reduceAdd, Nat.reduceSub, Nat.reduceMul, Int.reduceLT, Int.reduceLE, Int.reduceEq, Int.reduceToNat, Int.reduceAdd, Int.reduceSub, Int.reduceMul, reduceCtorEq, ↓reduceIte, gaE, implies_true, Nat.le_refl, Int.sub_zero, Nat.sub_zero, Int.le_refl, true_or, or_true]
    exact ⟨by omega, fun p hp => by rw [k6 p (by omega), hZ p hp], A6, n, n, rfl, Nat.le_refl _, hl, R6.wid (by omega)⟩

end
end Go.Ga

/- Numbers as elements. -/
namespace Go.Ga
open Go Go.Proofs
set_option linter.unusedSimpArgs false
set_option linter.unusedVariables false
set_option maxRecDepth 100000
attribute [local irreducible] appendK

/-- A value that is an element, in new blocks. -/
def NodeIs (lo nx : Nat) (g : Nat → Option Blk) (v : Value) (x : Fo.El) : Prop := ∃ (B : Option Addr) (m d : Nat) (A : Option Addr) (n c : Nat) (ks : List Value), v = nodeV x.t B m d A n c ∧ NdL lo nx g x B m d A n c ks
theorem NodeIs.leaf {lo nx : Nat} {g : Nat → Option Blk} {t : Int} {A : Option Addr} {n c : Nat} {l : List UInt8} (ht : -9223372036854775808 ≤ t ∧ t ≤ 9223372036854775807) (hA : RowL lo nx g 1 A n (l.map u8V)) (hc : n ≤ c) : NodeIs lo nx g (nodeV t A n c none 0 0) ⟨t, l, .nil⟩ :=
  ⟨A, n, c, none, 0, 0, [], rfl, ⟨ht, hA, hc, .nil, Nat.le_refl _, rfl, rfl⟩⟩

def bigB : List UInt8 → List UInt8
  | [] => [0]
  | x :: t => if 128 ≤ x.toNat then 0 :: x :: t else x :: t
def big (l : List UInt8) : Fo.El := ⟨2, bigB (bare l), .nil⟩
theorem bigB_len (l : List UInt8) : (bigB l).length ≤ l.length + 1 := by
  cases l with
  | nil => simp [bigB]
  | cons x t => simp only [bigB]; split <;> simp
section
variable {nx : Nat} {gt : Nat → Option Blk}

theorem end_nd {b nx : Nat} {gt : Nat → Option Blk} {f : Regs} {i x' q : Nat} {g' : Nat → Option Blk} {y : Fo.El} {t : Int} {B : Option Addr} {m d : Nat} {A : Option Addr} {n c : Nat} {ro : Bool} (h8 : f i = .pointer (some ⟨q, 0, none⟩)) (hg : g' q = some (.cells (nodeL t B m d A n c) ro))
    (h1 : nx ≤ x') (h2 : ∀ n, n < nx → g' n = gt n) (h3 : NodeIs nx x' g' (nodeV t B m d A n c) y) : endK [.cN i 3] b nx gt (fun v x g => NodeIs nx x g v y) .ret f ⟨x', b, g'⟩ :=
  end_cN _ h8 hg rfl ⟨rfl, h1, h2, h3⟩

theorem ct_Big {A : Option Addr} {n c : Nat} {l : List UInt8} (hA : Row nx gt 1 A n (l.map u8V)) (hc : n ≤ c) (hn : n ≤ 1000000000) :
    Ct Tryd.prog 44 [.slice A n c] nx gt fun v x g => NodeIs nx x g v (big l) := by
  have hl : l.length = n := by simpa using hA.len
  have hbl := bare_len l
  refine Ct.of hmx r_scalar_Big (by simp [c_scalar_Big]) fun b hb => ?_
  have hF : ∀ q, q < nx → upd gt nx (some (.cells [Value.int .i64 0, .slice none 0 0, .slice none 0 0] false)) q = gt q := fun q hq => by simp only [upd_e]; rw [if_neg (by omega)]
  have hb0 : upd gt nx (some (.cells [Value.int .i64 0, .slice none 0 0, .slice none 0 0] false)) nx = some (.cells [Value.int .i64 0, .slice none 0 0, .slice none 0 0] false) := by simp only [upd_e, if_true]
  simp only [c_scalar_Big, ↓gaW, ↓gaV, ↓gaC, ↓gaN, gaP, Nat.reduceEqDiff, Nat.reduceLeDiff, Nat.reduceAdd, Nat.reduceSub, Nat.reduceMul, Int.reduceLT, Int.reduceLE, Int.reduceEq, Int.reduceToNat, Int.reduceAdd, Int.reduceSub, Int.reduceMul, reduceCtorEq, ↓reduceIte, List.getD_cons_zero, List.getD_cons_succ, fillL, splice, List.take_zero, List.drop_zero, List.drop_succ_cons, List.take_succ_cons, List.drop_nil, List.take_nil, gaU]
  generalize upd gt nx (some (.cells [Value.int .i64 0, .slice none 0 0, .slice none 0 0] false)) = g0 at *
  refine callK_of (ct_Trim (hA.keep (nx' := nx + 1) (by omega) hF) hc hn) (fun v x1 g1 l1 k1 hC => ?_) (by omega)
  obtain ⟨A1, n1, c1, rfl, hc1, hl1, r1⟩ := hC
  have F1 : ∀ p, p < nx → g1 p = gt p := fun p hp => by rw [k1 p (by omega), hF p hp]
  have hb1 : g1 nx = some (.cells [Value.int .i64 0, .slice none 0 0, .slice none 0 0] false) := by rw [k1 nx (by omega), hb0]
  unfold big
  have ext : ∀ (g : Nat → Option Blk) (cs : List Value), (∀ p, p ≠ nx → upd g nx (some (.cells cs false)) p = g p) := fun g cs p hp => by simp only [upd_e]; rw [if_neg hp]
  have hZ : ∀ p, p < x1 → upd g1 x1 (some (.cells [Value.int .u8 0] false)) p = g1 p := fun p hp => by simp only [upd_e]; rw [if_neg (by omega)]
  have hz : upd g1 x1 (some (.cells [Value.int .u8 0] false)) x1 = some (.cells [Value.int .u8 0] false) := by simp only [upd_e, if_true]
  cases hbq : bare l with
  | nil =>
    rw [hbq] at hl1 r1
    have hn1 : n1 = 0 := by rw [← hl1]; rfl
    subst hn1
    have hn0 : ((0 : Nat) : Int) = 0 := rfl
    simp only [↓gaW, ↓gaV, ↓gaC, ↓gaN, gaP, Nat.reduceEqDiff, Nat.reduceLeDiff, Nat.reduceAdd, Nat.reduceSub, Nat.reduceMul, Int.reduceLT, Int.reduceLE, Int.reduceEq, Int.reduceToNat, Int.reduceAdd, Int.reduceSub, Int.reduceMul, reduceCtorEq, ↓reduceIte, List.getD_cons_zero, List.getD_cons_succ, fillL, splice, List.take_zero, List.drop_zero, List.drop_succ_cons, List.take_succ_cons, List.drop_nil, List.take_nil, hn0, decide_true]
    generalize upd g1 x1 (some (.cells [Value.int .u8 0] false)) = g2 at *
    have e1 : rowOf ⟨x1 + 1, b, g2⟩ A1 0 = some ((([] : List UInt8)).map u8V) := (r1.keep (nx' := x1 + 1) (gt' := g2) (by omega) hZ).rowOf
    rw [e1]
    simp only [asO_e]
    refine app_litN (bytes := 1) (z := x1) (n := 1) (e := 1) (by omega) hz rfl (by omega) (by rfl) (all_u8 _) (by omega) (by omega) fun A6 x6 g6 l6 k6 r6 => ?_
    rw [Nat.mul_one] at r6
    have hb6 : g6 nx = some (.cells [Value.int .i64 0, .slice none 0 0, .slice none 0 0] false) := by rw [k6 nx (by omega), hZ nx (by omega), hb1]
    simp only [↓gaW, ↓gaV, ↓gaC, ↓gaN, gaP, Nat.reduceEqDiff, Nat.reduceLeDiff, Nat.reduceAdd, Nat.reduceSub, Nat.reduceMul, Int.reduceLT, Int.reduceLE, Int.reduceEq, Int.reduceToNat, Int.reduceAdd, Int.reduceSub, Int.reduceMul, reduceCtorEq, ↓reduceIte, List.getD_cons_zero, List.getD_cons_succ, fillL, splice, List.take_zero, List.drop_zero, List.drop_succ_cons, List.take_succ_cons, List.drop_nil, List.take_nil, hb6]
    refine And.intro (by omega) (And.intro (node_cells _ _ _ _ _ _ _) ?_)
    refine end_nd (q := nx) (t := 2) (B := A6) (m := 1 + 0) (d := 1 + 0) (A := none) (n := 0) (c := 0) (ro := false) (by first | (simp only [↓gaW, ↓gaV, ↓gaC, ↓gaN, gaP, Nat.reduceEqDiff, Nat.reduceLeDiff, Nat.reduceAdd, Nat.reduceSub, Nat.reduceMul, Int.reduceLT, Int.reduceLE, Int.reduceEq, Int.reduceToNat, Int.reduceAdd, Int.reduceSub, Int.reduceMul, reduceCtorEq, ↓reduceIte]; done) | (simp only [↓gaW, ↓gaV, ↓gaC, ↓gaN, gaP, Nat.reduceEqDiff, Nat.reduceLeDiff, Nat.reduceAdd, Nat.reduceSub, Nat.reduceMul, Int.reduceLT, Int.reduceLE, Int.reduceEq, Int.reduceToNat, Int.reduceAdd, Int.reduceSub, Int.reduceMul, reduceCtorEq, ↓reduceIte]; rfl)) (by simp only [upd_e, if_true]) (by omega) (fun p hp => by rw [ext _ _ p (by omega), k6 p (by omega), hZ p (by omega), F1 p hp]) ?_
    have r7 : RowL x1 x6 g6 1 A6 (1 + 0) (([0] : List UInt8).map u8V) := r6
    exact NodeIs.leaf (by omega) ((r7.keep (Nat.le_refl _) fun p hp _ => ext _ _ p (by omega)).wid (by omega)) (Nat.le_refl _)
  | cons x t =>
    rw [hbq] at hl1 r1 hbl
    simp only [List.length_cons] at hl1 hbl
    have hn0 : ¬ (n1 : Int) = 0 := by omega
    obtain ⟨a, cl, ro, rfl, r2, r3, r4, r5⟩ := r1.cells (by omega)
    have c0 : cl.getD a.off undef = .int .u8 (x.toNat : Nat) := by
      have := r5 0 (by omega)
      rw [Nat.add_zero] at this
      rw [this]; rfl
    by_cases hx : (128 : Int) ≤ ((x.toNat : Nat) : Int)
    · simp only [↓gaW, ↓gaV, ↓gaC, ↓gaN, gaP, Nat.reduceEqDiff, Nat.reduceLeDiff, Nat.reduceAdd, Nat.reduceSub, Nat.reduceMul, Int.reduceLT, Int.reduceLE, Int.reduceEq, Int.reduceToNat, Int.reduceAdd, Int.reduceSub, Int.reduceMul, reduceCtorEq, ↓reduceIte, List.getD_cons_zero, List.getD_cons_succ, fillL, splice, List.take_zero, List.drop_zero, List.drop_succ_cons, List.take_succ_cons, List.drop_nil, List.take_nil, hn0, decide_false, r3, c0, hx, decide_true]
      repeat refine And.intro (by omega) ?_
      generalize upd g1 x1 (some (.cells [Value.int .u8 0] false)) = g2 at *
      have e1 : rowOf ⟨x1 + 1, b, g2⟩ (some a) n1 = some ((x :: t).map u8V) := (r1.keep (nx' := x1 + 1) (gt' := g2) (by omega) hZ).rowOf
      rw [e1]
      simp only [asO_e]
      refine app_litN (bytes := 1) (z := x1) (n := 1) (e := 1) (by omega) hz rfl (by omega) (by simp; omega) (all_u8 _) (by omega) (by omega) fun A6 x6 g6 l6 k6 r6 => ?_
      rw [Nat.mul_one] at r6
      have hb6 : g6 nx = some (.cells [Value.int .i64 0, .slice none 0 0, .slice none 0 0] false) := by rw [k6 nx (by omega), hZ nx (by omega), hb1]
      simp only [↓gaW, ↓gaV, ↓gaC, ↓gaN, gaP, Nat.reduceEqDiff, Nat.reduceLeDiff, Nat.reduceAdd, Nat.reduceSub, Nat.reduceMul, Int.reduceLT, Int.reduceLE, Int.reduceEq, Int.reduceToNat, Int.reduceAdd, Int.reduceSub, Int.reduceMul, reduceCtorEq, ↓reduceIte, List.getD_cons_zero, List.getD_cons_succ, fillL, splice, List.take_zero, List.drop_zero, List.drop_succ_cons, List.take_succ_cons, List.drop_nil, List.take_nil, hb6]
      refine And.intro (by omega) (And.intro (node_cells _ _ _ _ _ _ _) ?_)
      refine end_nd (q := nx) (t := 2) (B := A6) (m := 1 + n1) (d := 1 + n1) (A := none) (n := 0) (c := 0) (ro := false) (by first | (simp only [↓gaW, ↓gaV, ↓gaC, ↓gaN, gaP, Nat.reduceEqDiff, Nat.reduceLeDiff, Nat.reduceAdd, Nat.reduceSub, Nat.reduceMul, Int.reduceLT, Int.reduceLE, Int.reduceEq, Int.reduceToNat, Int.reduceAdd, Int.reduceSub, Int.reduceMul, reduceCtorEq, ↓reduceIte]; done) | (simp only [↓gaW, ↓gaV, ↓gaC, ↓gaN, gaP, Nat.reduceEqDiff, Nat.reduceLeDiff, Nat.reduceAdd, Nat.reduceSub, Nat.reduceMul, Int.reduceLT, Int.reduceLE, Int.reduceEq, Int.reduceToNat, Int.reduceAdd, Int.reduceSub, Int.reduceMul, reduceCtorEq, ↓reduceIte]; rfl)) (by simp only [upd_e, if_true]) (by omega) (fun p hp => by rw [ext _ _ p (by omega), k6 p (by omega), hZ p (by omega), F1 p hp]) ?_
      have r7 : RowL x1 x6 g6 1 A6 (1 + n1) ((0 :: x :: t).map u8V) := r6
      have e2 : bigB (x :: t) = 0 :: x :: t := if_pos (by omega)
      rw [e2]
      exact NodeIs.leaf (by omega) ((r7.keep (Nat.le_refl _) fun p hp _ => ext _ _ p (by omega)).wid (by omega)) (Nat.le_refl _)
    · simp only [↓gaW, ↓gaV, ↓gaC, ↓gaN, gaP, Nat.reduceEqDiff, Nat.reduceLeDiff, Nat.reduceAdd, Nat.reduceSub, Nat.reduceMul, Int.reduceLT, Int.reduceLE, Int.reduceEq, Int.reduceToNat, Int.reduceAdd, Int.reduceSub, Int.reduceMul, reduceCtorEq, ↓reduceIte, List.getD_cons_zero, List.getD_cons_succ, fillL, splice, List.take_zero, List.drop_zero, List.drop_succ_cons, List.take_succ_cons, List.drop_nil, List.take_nil, hn0, decide_false, r3, c0, hx]
      repeat refine And.intro (by omega) ?_
      refine callK_of (ct_Clone r1 hc1 (by omega)) (fun v x2 g2 l2 k2 hC => ?_) (by omega)
      obtain ⟨A2, n2, c2, rfl, hc2, hl2, r2⟩ := hC
      have hb2 : g2 nx = some (.cells [Value.int .i64 0, .slice none 0 0, .slice none 0 0] false) := by rw [k2 nx (by omega), hb1]
      have e2 : bigB (x :: t) = x :: t := if_neg (by omega)
      rw [e2]
      simp only [↓gaW, ↓gaV, ↓gaC, ↓gaN, gaP, Nat.reduceEqDiff, Nat.reduceLeDiff, Nat.reduceAdd, Nat.reduceSub, Nat.reduceMul, Int.reduceLT, Int.reduceLE, Int.reduceEq, Int.reduceToNat, Int.reduceAdd, Int.reduceSub, Int.reduceMul, reduceCtorEq, ↓reduceIte, List.getD_cons_zero, List.getD_cons_succ, fillL, splice, List.take_zero, List.drop_zero, List.drop_succ_cons, List.take_succ_cons, List.drop_nil, List.take_nil, hb2]
      refine And.intro (by omega) (And.intro (node_cells _ _ _ _ _ _ _) ?_)
      refine end_nd (q := nx) (t := 2) (B := A2) (m := n2) (d := c2) (A := none) (n := 0) (c := 0) (ro := false) (by first | (simp only [↓gaW, ↓gaV, ↓gaC, ↓gaN, gaP, Nat.reduceEqDiff, Nat.reduceLeDiff, Nat.reduceAdd, Nat.reduceSub, Nat.reduceMul, Int.reduceLT, Int.reduceLE, Int.reduceEq, Int.reduceToNat, Int.reduceAdd, Int.reduceSub, Int.reduceMul, reduceCtorEq, ↓reduceIte]; done) | (simp only [↓gaW, ↓gaV, ↓gaC, ↓gaN, gaP, Nat.reduceEqDiff, Nat.reduceLeDiff, Nat.reduceAdd, Nat.reduceSub, Nat.reduceMul, Int.reduceLT, Int.reduceLE, Int.reduceEq, Int.reduceToNat, Int.reduceAdd, Int.reduceSub, Int.reduceMul, reduceCtorEq, ↓reduceIte]; rfl)) (by simp only [upd_e, if_true]) (by omega) (fun p hp => by rw [ext _ _ p (by omega), k2 p (by omega), F1 p hp]) ?_
      exact NodeIs.leaf (by omega) ((r2.keep (Nat.le_refl _) fun p hp _ => ext _ _ p (by omega)).wid (by omega)) hc2
end
end Go.Ga

/- Numbers as elements: the document's answer. Are two laid alike? -/
namespace Go.Ga
open Go Go.Proofs
set_option linter.unusedSimpArgs false
set_option linter.unusedVariables false
set_option maxRecDepth 100000
attribute [local irreducible] appendK

section
variable {nx : Nat} {gt : Nat → Option Blk}

/-- Are two laid alike? -/
def alike (x y : Fo.El) : Prop := x.t = y.t ∧ x.b = y.b ∧ x.k = .nil ∧ y.k = .nil

theorem ct_same {x y : Fo.El} {B : Option Addr} {m d : Nat} {A : Option Addr} {n c : Nat} {ks : List Value} {B2 : Option Addr} {m2 d2 : Nat} {A2 : Option Addr} {n2 c2 : Nat} {ks2 : List Value} (h : NdR nx gt x B m d A n c ks) (hz : NdR nx gt y B2 m2 d2 A2 n2 c2 ks2) (hx : x.f.ws < 1000000000) (hy : y.f.ws < 1000000000) :
    Ct Tryd.prog 84 [nodeV x.t B m d A n c, nodeV y.t B2 m2 d2 A2 n2 c2] nx gt fun v _ _ => ∃ r, v = .bool r ∧ (r = true ↔ alike x y) := by
  refine Ct.of hmx r_scalar_same (by simp [c_scalar_same]) fun b hb => ?_
  have lw := Fo.len_ws x.k
  have lw2 := Fo.len_ws y.k
  have xw : x.f.ws = 1 + x.b.length + x.k.ws := by simp only [Fo.El.f, Fo.ws]; omega
  have yw : y.f.ws = 1 + y.b.length + y.k.ws := by simp only [Fo.El.f, Fo.ws]; omega
  have hkl := h.len
  have hkz := hz.len
  have hnn : (nx = nx + 1) = False := by simp
  have hF : ∀ q, q < nx → upd (upd gt nx (some (.cells (nodeL x.t B m d A n c) false))) (nx + 1) (some (.cells (nodeL y.t B2 m2 d2 A2 n2 c2) false)) q = gt q := fun q hq => by simp only [upd_e]; rw [if_neg (by omega), if_neg (by omega)]
  have hb0 : upd (upd gt nx (some (.cells (nodeL x.t B m d A n c) false))) (nx + 1) (some (.cells (nodeL y.t B2 m2 d2 A2 n2 c2) false)) nx = some (.cells (nodeL x.t B m d A n c) false) := by simp only [upd_e, if_true]; rw [if_neg (by omega)]
  have hb1 : upd (upd gt nx (some (.cells (nodeL x.t B m d A n c) false))) (nx + 1) (some (.cells (nodeL y.t B2 m2 d2 A2 n2 c2) false)) (nx + 1) = some (.cells (nodeL y.t B2 m2 d2 A2 n2 c2) false) := by simp only [upd_e, if_true]
  have h0 := h.keep (x' := nx + 1 + 1) (by omega) hF
  have hz0 := hz.keep (x' := nx + 1 + 1) (by omega) hF
  simp only [c_scalar_same, ↓gaW, ↓gaV, ↓gaC, ↓gaN, gaP, Nat.reduceEqDiff, Nat.reduceLeDiff, Nat.reduceAdd, Nat.reduceSub, Nat.reduceMul, Int.reduceLT, Int.reduceLE, Int.reduceEq, Int.reduceToNat, Int.reduceAdd, Int.reduceSub, Int.reduceMul, reduceCtorEq, ↓reduceIte, List.getD_cons_zero, List.getD_cons_succ, fillL, splice, List.take_zero, List.drop_zero, List.drop_succ_cons, List.take_succ_cons, List.drop_nil, List.take_nil, gaU, hnn]
  by_cases ht : x.t = y.t
  case neg =>
    simp only [↓gaW, ↓gaV, ↓gaC, ↓gaN, gaP, Nat.reduceEqDiff, Nat.reduceLeDiff, Nat.reduceAdd, Nat.reduceSub, Nat.reduceMul, Int.reduceLT, Int.reduceLE, Int.reduceEq, Int.reduceToNat, Int.reduceAdd, Int.reduceSub, Int.reduceMul, reduceCtorEq, ↓reduceIte, gaE, implies_true, Nat.le_refl, Int.sub_zero, Nat.sub_zero, Int.le_refl, true_or, or_true, ht, decide_false]
    repeat refine And.intro (by omega) ?_
    refine ⟨hF, false, rfl, ?_⟩
    simp only [Bool.false_eq_true, false_iff]
    exact fun h => ht h.1
  generalize upd (upd gt nx (some (.cells (nodeL x.t B m d A n c) false))) (nx + 1) (some (.cells (nodeL y.t B2 m2 d2 A2 n2 c2) false)) = g0 at *
  simp only [↓gaW, ↓gaV, ↓gaC, ↓gaN, gaP, Nat.reduceEqDiff, Nat.reduceLeDiff, Nat.reduceAdd, Nat.reduceSub, Nat.reduceMul, Int.reduceLT, Int.reduceLE, Int.reduceEq, Int.reduceToNat, Int.reduceAdd, Int.reduceSub, Int.reduceMul, reduceCtorEq, ↓reduceIte, ht, decide_true, hb0, hb1, nodeL, List.getD_cons_succ, List.getD_cons_zero]
  repeat refine And.intro (by omega) ?_
  refine callK_of (ct_Equal h0.body hz0.body) (fun v x1 g1 l1 k1 hC => ?_) (by omega)
  subst hC
  have hb2 : g1 nx = some (.cells (nodeL x.t B m d A n c) false) := by rw [k1 nx (by omega), hb0]
  have hb3 : g1 (nx + 1) = some (.cells (nodeL y.t B2 m2 d2 A2 n2 c2) false) := by rw [k1 (nx + 1) (by omega), hb1]
  have F1 : ∀ p, p < nx → g1 p = gt p := fun p hp => by rw [k1 p (by omega), hF p hp]
  by_cases hbq : x.b = y.b
  case neg =>
    have e3 : (x.b == y.b) = false := by simpa using hbq
    simp only [↓gaW, ↓gaV, ↓gaC, ↓gaN, gaP, Nat.reduceEqDiff, Nat.reduceLeDiff, Nat.reduceAdd, Nat.reduceSub, Nat.reduceMul, Int.reduceLT, Int.reduceLE, Int.reduceEq, Int.reduceToNat, Int.reduceAdd, Int.reduceSub, Int.reduceMul, reduceCtorEq, ↓reduceIte, gaE, implies_true, Nat.le_refl, Int.sub_zero, Nat.sub_zero, Int.le_refl, true_or, or_true, e3]
    refine ⟨by omega, F1, false, rfl, ?_⟩
    simp only [Bool.false_eq_true, false_iff]
    exact fun h => hbq h.2.1
  have e3 : (x.b == y.b) = true := by simpa using hbq
  have i1 : IntKind.i64.wrap ((n : Int) + (n2 : Int)) = ((n + n2 : Nat) : Int) := by rw [i64_w _ (by omega)]; omega
  simp only [↓gaW, ↓gaV, ↓gaC, ↓gaN, gaP, Nat.reduceEqDiff, Nat.reduceLeDiff, Nat.reduceAdd, Nat.reduceSub, Nat.reduceMul, Int.reduceLT, Int.reduceLE, Int.reduceEq, Int.reduceToNat, Int.reduceAdd, Int.reduceSub, Int.reduceMul, reduceCtorEq, ↓reduceIte, gaE, implies_true, Nat.le_refl, Int.sub_zero, Nat.sub_zero, Int.le_refl, true_or, or_true, e3, hb2, hb3, nodeL, List.getD_cons_succ, List.getD_cons_zero, i1]
  repeat refine And.intro (by omega) ?_
  refine ⟨_, rfl, ?_⟩
  rw [decide_eq_true_iff]
  constructor
  · intro h
    exact ⟨ht, hbq, len_nil.1 (by omega), len_nil.1 (by omega)⟩
  · rintro ⟨_, _, h1, h2⟩
    rw [h1] at hkl
    rw [h2] at hkz
    simp only [Fo.len] at hkl hkz
    omega
end
end Go.Ga

/- A thing, if it is laid as just an element; numbers of elements. -/
namespace Go.Ga
open Go Go.Proofs
set_option linter.unusedSimpArgs false
set_option linter.unusedVariables false
set_option maxRecDepth 100000
attribute [local irreducible] appendK

def intE (n : Nat) (y : Fo.El) : Prop := ∃ k, isLeast n k ∧ y = big (be k n)
theorem intE_one {n : Nat} {y z : Fo.El} (h : intE n y) (h' : intE n z) : y = z := by
  obtain ⟨k, h1, rfl⟩ := h
  obtain ⟨j, h2, rfl⟩ := h'
  rw [isLeast_one h1 h2]
theorem big_ws (l : List UInt8) : (big l).f.ws ≤ l.length + 2 := by
  have h1 := bigB_len (bare l)
  have h2 := bare_len l
  show 1 + (bigB (bare l)).length + 0 + 0 ≤ _
  omega
theorem intE_ws {n : Nat} {y : Fo.El} (h : intE n y) : y.f.ws ≤ 10 := by
  obtain ⟨k, ⟨h1, h2, _⟩, rfl⟩ := h
  have := big_ws (be k n)
  rw [be_length] at this
  omega

/-- An element, or an error. -/
def NErr (lo nx : Nat) (g : Nat → Option Blk) (v : Value) : Except Nat Fo.El → Prop
  | .error e => v = .tuple #[nodeV 0 none 0 0 none 0 0, .int .i64 (e : Nat)] ∧ e ≠ 0
  | .ok y => ∃ u, v = .tuple #[u, .int .i64 0] ∧ NodeIs lo nx g u y

section
variable {nx : Nat} {gt : Nat → Option Blk}

theorem ct_Int {n : Nat} (hn : n < 18446744073709551616) : Ct Tryd.prog 21 [.int .u64 (n : Nat)] nx gt fun v x g => ∃ y, intE n y ∧ NodeIs nx x g v y := by
  refine Ct.of hmx r_scalar_Int (by simp [c_scalar_Int]) fun b hb => ?_
  have hF : ∀ q, q < nx → upd gt nx (some (.cells [Value.int .i64 0, .slice none 0 0, .slice none 0 0] false)) q = gt q := fun q hq => by simp only [upd_e]; rw [if_neg (by omega)]
  have hb0 : upd gt nx (some (.cells [Value.int .i64 0, .slice none 0 0, .slice none 0 0] false)) nx = some (.cells [Value.int .i64 0, .slice none 0 0, .slice none 0 0] false) := by simp only [upd_e, if_true]
  simp only [c_scalar_Int, ↓gaW, ↓gaV, ↓gaC, ↓gaN, gaP, Nat.reduceEqDiff, Nat.reduceLeDiff, Nat.reduceAdd, Nat.reduceSub, Nat.reduceMul, Int.reduceLT, Int.reduceLE, Int.reduceEq, Int.reduceToNat, Int.reduceAdd, Int.reduceSub, Int.reduceMul, reduceCtorEq, ↓reduceIte, List.getD_cons_zero, List.getD_cons_succ, fillL, splice, List.take_zero, List.drop_zero, List.drop_succ_cons, List.take_succ_cons, List.drop_nil, List.take_nil, gaU]
  generalize upd gt nx (some (.cells [Value.int .i64 0, .slice none 0 0, .slice none 0 0] false)) = g0 at *
  refine callK_of (ct_Least hn) (fun v x1 g1 l1 k1 hC => ?_) (by omega)
  obtain ⟨k, hk, A1, n1, c1, rfl, hc1, hl1, r1⟩ := hC
  have hk8 := hk.2.1
  rw [be_length] at hl1
  have F1 : ∀ p, p < nx → g1 p = gt p := fun p hp => by rw [k1 p (by omega), hF p hp]
  have hb1 : g1 nx = some (.cells [Value.int .i64 0, .slice none 0 0, .slice none 0 0] false) := by rw [k1 nx (by omega), hb0]
  simp only [↓gaW, ↓gaV, ↓gaC, ↓gaN, gaP, Nat.reduceEqDiff, Nat.reduceLeDiff, Nat.reduceAdd, Nat.reduceSub, Nat.reduceMul, Int.reduceLT, Int.reduceLE, Int.reduceEq, Int.reduceToNat, Int.reduceAdd, Int.reduceSub, Int.reduceMul, reduceCtorEq, ↓reduceIte, List.getD_cons_zero, List.getD_cons_succ, fillL, splice, List.take_zero, List.drop_zero, List.drop_succ_cons, List.take_succ_cons, List.drop_nil, List.take_nil]
  refine callK_of (ct_Big r1 hc1 (by omega)) (fun v x2 g2 l2 k2 hC => ?_) (by omega)
  obtain ⟨B, m, d, A, n', c, ks, rfl, hN⟩ := hC
  have F2 : ∀ p, p < nx → g2 p = gt p := fun p hp => by rw [k2 p (by omega), F1 p hp]
  have hb2 : g2 nx = some (.cells [Value.int .i64 0, .slice none 0 0, .slice none 0 0] false) := by rw [k2 nx (by omega), hb1]
  have ext : ∀ (cs : List Value), (∀ p, p ≠ nx → upd g2 nx (some (.cells cs false)) p = g2 p) := fun cs p hp => by simp only [upd_e]; rw [if_neg hp]
  simp only [↓gaW, ↓gaV, ↓gaC, ↓gaN, gaP, Nat.reduceEqDiff, Nat.reduceLeDiff, Nat.reduceAdd, Nat.reduceSub, Nat.reduceMul, Int.reduceLT, Int.reduceLE, Int.reduceEq, Int.reduceToNat, Int.reduceAdd, Int.reduceSub, Int.reduceMul, reduceCtorEq, ↓reduceIte, List.getD_cons_zero, List.getD_cons_succ, fillL, splice, List.take_zero, List.drop_zero, List.drop_succ_cons, List.take_succ_cons, List.drop_nil, List.take_nil, hb2]
  refine And.intro (by omega) (And.intro (node_cells _ _ _ _ _ _ _) ?_)
  refine end_cN (nodeL _ _ _ _ _ _ _) (ro := false) (by first | (simp only [↓gaW, ↓gaV, ↓gaC, ↓gaN, gaP, Nat.reduceEqDiff, Nat.reduceLeDiff, Nat.reduceAdd, Nat.reduceSub, Nat.reduceMul, Int.reduceLT, Int.reduceLE, Int.reduceEq, Int.reduceToNat, Int.reduceAdd, Int.reduceSub, Int.reduceMul, reduceCtorEq, ↓reduceIte]; done) | (simp only [↓gaW, ↓gaV, ↓gaC, ↓gaN, gaP, Nat.reduceEqDiff, Nat.reduceLeDiff, Nat.reduceAdd, Nat.reduceSub, Nat.reduceMul, Int.reduceLT, Int.reduceLE, Int.reduceEq, Int.reduceToNat, Int.reduceAdd, Int.reduceSub, Int.reduceMul, reduceCtorEq, ↓reduceIte]; rfl)) (by simp only [upd_e, if_true]) rfl ⟨rfl, by omega, fun p hp => by rw [ext _ p (by omega), F2 p hp], big (be k n), ⟨k, hk, rfl⟩, ⟨B, m, d, A, n', c, ks, rfl, (hN.keep (Nat.le_refl _) fun p hp _ => ext _ p (by omega)).wid (by omega)⟩⟩
/-- just: the closure's answer r is laid as the element is. -/
def justP (is : Bool) (x : Fo.El) (r : Except Nat Fo.El) : Prop := is = true ∧ ∃ y, r = .ok y ∧ alike y x

theorem ct_justN {x : Fo.El} {w : Nat} {is : Bool} {clo : Nat} {caps : Array Value} {r : Except Nat Fo.El} {B : Option Addr} {m d : Nat} {A : Option Addr} {n c : Nat} {ks : List Value} (h : NdR nx gt x B m d A n c ks) (hxw : x.f.ws < 1000000000) (hyw : ∀ y, r = .ok y → y.f.ws < 1000000000)
    (hclo : ∀ (nx' : Nat) (g : Nat → Option Blk), nx ≤ nx' → (∀ p, p < nx → g p = gt p) → Ct Tryd.prog clo caps.toList nx' g fun v x g => NErr nx' x g v r) :
    Ct Tryd.prog 58 [.int .u64 (w : Nat), .bool is, nodeV x.t B m d A n c, .func (.func clo) #[] caps] nx gt fun v _ _ => ∃ b : Bool, (b = true ↔ justP is x r) ∧ v = if b then .tuple #[.int .u64 (w : Nat), .int .i64 0] else .tuple #[.int .u64 0, .int .i64 2] := by
  refine Ct.of hmx r_scalar_just_uint64_ (by simp [c_scalar_just_uint64_]) fun b hb => ?_
  have hF : ∀ q, q < nx → upd gt nx (some (.cells (nodeL x.t B m d A n c) false)) q = gt q := fun q hq => by simp only [upd_e]; rw [if_neg (by omega)]
  have hb0 : upd gt nx (some (.cells (nodeL x.t B m d A n c) false)) nx = some (.cells (nodeL x.t B m d A n c) false) := by simp only [upd_e, if_true]
  cases is with
  | false =>
    simp only [c_scalar_just_uint64_, ↓gaW, ↓gaV, ↓gaC, ↓gaN, gaP, Nat.reduceEqDiff, Nat.reduceLeDiff, Nat.reduceAdd, Nat.reduceSub, Nat.reduceMul, Int.reduceLT, Int.reduceLE, Int.reduceEq, Int.reduceToNat, Int.reduceAdd, Int.reduceSub, Int.reduceMul, reduceCtorEq, ↓reduceIte, gaE, implies_true, Nat.le_refl, Int.sub_zero, Nat.sub_zero, Int.le_refl, true_or, or_true, List.getD_cons_zero, List.getD_cons_succ, fillL, splice, List.take_zero, List.drop_zero, List.drop_succ_cons, List.take_succ_cons, List.drop_nil, List.take_nil, gaU, Bool.not_false]
    exact ⟨by omega, hF, false, by simp [justP], rfl⟩
  | true =>
    simp only [c_scalar_just_uint64_, ↓gaW, ↓gaV, ↓gaC, ↓gaN, gaP, Nat.reduceEqDiff, Nat.reduceLeDiff, Nat.reduceAdd, Nat.reduceSub, Nat.reduceMul, Int.reduceLT, Int.reduceLE, Int.reduceEq, Int.reduceToNat, Int.reduceAdd, Int.reduceSub, Int.reduceMul, reduceCtorEq, ↓reduceIte, List.getD_cons_zero, List.getD_cons_succ, fillL, splice, List.take_zero, List.drop_zero, List.drop_succ_cons, List.take_succ_cons, List.drop_nil, List.take_nil, gaU, Bool.not_true]
    generalize upd gt nx (some (.cells (nodeL x.t B m d A n c) false)) = g0 at *
    refine callK_of (hclo (nx + 1) g0 (by omega) hF) (fun v x1 g1 l1 k1 hC => ?_) (by omega)
    have F1 : ∀ p, p < nx → g1 p = gt p := fun p hp => by rw [k1 p (by omega), hF p hp]
    have hb1 : g1 nx = some (.cells (nodeL x.t B m d A n c) false) := by rw [k1 nx (by omega), hb0]
    have hnx1 : (nx = x1) = False := by simp; omega
    cases r with
    | error e =>
      obtain ⟨rfl, he⟩ := hC
      have he0 : ¬ (e : Int) = 0 := by omega
      simp only [↓gaW, ↓gaV, ↓gaC, ↓gaN, gaP, Nat.reduceEqDiff, Nat.reduceLeDiff, Nat.reduceAdd, Nat.reduceSub, Nat.reduceMul, Int.reduceLT, Int.reduceLE, Int.reduceEq, Int.reduceToNat, Int.reduceAdd, Int.reduceSub, Int.reduceMul, reduceCtorEq, ↓reduceIte, gaE, implies_true, Nat.le_refl, Int.sub_zero, Nat.sub_zero, Int.le_refl, true_or, or_true, List.getD_cons_zero, List.getD_cons_succ, fillL, splice, List.take_zero, List.drop_zero, List.drop_succ_cons, List.take_succ_cons, List.drop_nil, List.take_nil, gaU, he0, decide_false, Bool.not_false]
      repeat refine And.intro (by omega) ?_
      refine And.intro (node_cells _ _ _ _ _ _ _) ?_
      refine ⟨by omega, fun p hp => by rw [if_neg (by omega), if_neg (by omega), F1 p hp], false, by simp [justP], rfl⟩
    | ok y =>
      obtain ⟨u, rfl, B', m', d', A', n', c', ks', rfl, hN⟩ := hC
      obtain ⟨g2, e2⟩ : ∃ g', g' = upd (upd g1 x1 (some (.cells [Value.int .i64 0, .slice none 0 0, .slice none 0 0] false))) x1 (some (.cells (nodeL y.t B' m' d' A' n' c') false)) := ⟨_, rfl⟩
      have G2 : ∀ p, p < x1 → g2 p = g1 p := fun p hp => by rw [e2]; simp only [upd_e]; rw [if_neg (by omega), if_neg (by omega)]
      have hb2 : g2 nx = some (.cells (nodeL x.t B m d A n c) false) := by rw [G2 nx (by omega), hb1]
      have hy := hyw y rfl
      simp only [↓gaW, ↓gaV, ↓gaC, ↓gaN, gaP, Nat.reduceEqDiff, Nat.reduceLeDiff, Nat.reduceAdd, Nat.reduceSub, Nat.reduceMul, Int.reduceLT, Int.reduceLE, Int.reduceEq, Int.reduceToNat, Int.reduceAdd, Int.reduceSub, Int.reduceMul, reduceCtorEq, ↓reduceIte, List.getD_cons_zero, List.getD_cons_succ, fillL, splice, List.take_zero, List.drop_zero, List.drop_succ_cons, List.take_succ_cons, List.drop_nil, List.take_nil, gaU, hnx1, hb1, decide_true, decide_false, Bool.not_true]
      repeat refine And.intro (by omega) ?_
      refine And.intro (node_cells _ _ _ _ _ _ _) ?_
      repeat refine And.intro (by omega) ?_
      rw [← e2]; clear e2
      refine callK_of (ct_same (hN.r.keep (x' := x1 + 1) (by omega) G2) (h.keep (x' := x1 + 1) (by omega) fun p hp => by rw [G2 p (by omega), F1 p hp]) hy hxw) (fun v x3 g3 l3 k3 hC => ?_) (by omega)
      obtain ⟨s, rfl, hs⟩ := hC
      have F3 : ∀ p, p < nx → g3 p = gt p := fun p hp => by rw [k3 p (by omega), G2 p (by omega), F1 p hp]
      cases s with
      | false =>
        simp only [↓gaW, ↓gaV, ↓gaC, ↓gaN, gaP, Nat.reduceEqDiff, Nat.reduceLeDiff, Nat.reduceAdd, Nat.reduceSub, Nat.reduceMul, Int.reduceLT, Int.reduceLE, Int.reduceEq, Int.reduceToNat, Int.reduceAdd, Int.reduceSub, Int.reduceMul, reduceCtorEq, ↓reduceIte, gaE, implies_true, Nat.le_refl, Int.sub_zero, Nat.sub_zero, Int.le_refl, true_or, or_true, List.getD_cons_zero, List.getD_cons_succ, fillL, splice, List.take_zero, List.drop_zero, List.drop_succ_cons, List.take_succ_cons, List.drop_nil, List.take_nil, Bool.not_false]
        refine ⟨by omega, F3, false, ?_, rfl⟩
        simp only [Bool.false_eq_true, false_iff] at hs ⊢
        rintro ⟨_, z, hz, hal⟩
        injection hz with hz; subst hz
        exact hs hal
      | true =>
        simp only [↓gaW, ↓gaV, ↓gaC, ↓gaN, gaP, Nat.reduceEqDiff, Nat.reduceLeDiff, Nat.reduceAdd, Nat.reduceSub, Nat.reduceMul, Int.reduceLT, Int.reduceLE, Int.reduceEq, Int.reduceToNat, Int.reduceAdd, Int.reduceSub, Int.reduceMul, reduceCtorEq, ↓reduceIte, gaE, implies_true, Nat.le_refl, Int.sub_zero, Nat.sub_zero, Int.le_refl, true_or, or_true, List.getD_cons_zero, List.getD_cons_succ, fillL, splice, List.take_zero, List.drop_zero, List.drop_succ_cons, List.take_succ_cons, List.drop_nil, List.take_nil, Bool.not_true]
        exact ⟨by omega, F3, true, by simp only [true_iff]; exact ⟨rfl, y, rfl, hs.1 rfl⟩, rfl⟩
theorem ct_justB {x : Fo.El} {u : Value} {is : Bool} {clo : Nat} {caps : Array Value} {r : Except Nat Fo.El} {B : Option Addr} {m d : Nat} {A : Option Addr} {n c : Nat} {ks : List Value} (h : NdR nx gt x B m d A n c ks) (hxw : x.f.ws < 1000000000) (hyw : ∀ y, r = .ok y → y.f.ws < 1000000000)
    (hclo : ∀ (nx' : Nat) (g : Nat → Option Blk), nx ≤ nx' → (∀ p, p < nx → g p = gt p) → Ct Tryd.prog clo caps.toList nx' g fun v x g => NErr nx' x g v r) :
    Ct Tryd.prog 87 [u, .bool is, nodeV x.t B m d A n c, .func (.func clo) #[] caps] nx gt fun v _ _ => ∃ b : Bool, (b = true ↔ justP is x r) ∧ v = if b then .tuple #[u, .int .i64 0] else .tuple #[.slice none 0 0, .int .i64 2] := by
  refine Ct.of hmx r_scalar_just___byte_ (by simp [c_scalar_just___byte_]) fun b hb => ?_
  have hF : ∀ q, q < nx → upd gt nx (some (.cells (nodeL x.t B m d A n c) false)) q = gt q := fun q hq => by simp only [upd_e]; rw [if_neg (by omega)]
  have hb0 : upd gt nx (some (.cells (nodeL x.t B m d A n c) false)) nx = some (.cells (nodeL x.t B m d A n c) false) := by simp only [upd_e, if_true]
  cases is with
  | false =>
    simp only [c_scalar_just___byte_, ↓gaW, ↓gaV, ↓gaC, ↓gaN, gaP, Nat.reduceEqDiff, Nat.reduceLeDiff, Nat.reduceAdd, Nat.reduceSub, Nat.reduceMul, Int.reduceLT, Int.reduceLE, Int.reduceEq, Int.reduceToNat, Int.reduceAdd, Int.reduceSub, Int.reduceMul, reduceCtorEq, ↓reduceIte, gaE, implies_true, Nat.le_refl, Int.sub_zero, Nat.sub_zero, Int.le_refl, true_or, or_true, List.getD_cons_zero, List.getD_cons_succ, fillL, splice, List.take_zero, List.drop_zero, List.drop_succ_cons, List.take_succ_cons, List.drop_nil, List.take_nil, gaU, Bool.not_false]
    exact ⟨by omega, hF, false, by simp [justP], rfl⟩
  | true =>
    simp only [c_scalar_just___byte_, ↓gaW, ↓gaV, ↓gaC, ↓gaN, gaP, Nat.reduceEqDiff, Nat.reduceLeDiff, Nat.reduceAdd, Nat.reduceSub, Nat.reduceMul, Int.reduceLT, Int.reduceLE, Int.reduceEq, Int.reduceToNat, Int.reduceAdd, Int.reduceSub, Int.reduceMul, reduceCtorEq, ↓reduceIte, List.getD_cons_zero, List.getD_cons_succ, fillL, splice, List.take_zero, List.drop_zero, List.drop_succ_cons, List.take_succ_cons, List.drop_nil, List.take_nil, gaU, Bool.not_true]
    generalize upd gt nx (some (.cells (nodeL x.t B m d A n c) false)) = g0 at *
    refine callK_of (hclo (nx + 1) g0 (by omega) hF) (fun v x1 g1 l1 k1 hC => ?_) (by omega)
    have F1 : ∀ p, p < nx → g1 p = gt p := fun p hp => by rw [k1 p (by omega), hF p hp]
    have hb1 : g1 nx = some (.cells (nodeL x.t B m d A n c) false) := by rw [k1 nx (by omega), hb0]
    have hnx1 : (nx = x1) = False := by simp; omega
    cases r with
    | error e =>
      obtain ⟨rfl, he⟩ := hC
      have he0 : ¬ (e : Int) = 0 := by omega
      simp only [↓gaW, ↓gaV, ↓gaC, ↓gaN, gaP, Nat.reduceEqDiff, Nat.reduceLeDiff, Nat.reduceAdd, Nat.reduceSub, Nat.reduceMul, Int.reduceLT, Int.reduceLE, Int.reduceEq, Int.reduceToNat, Int.reduceAdd, Int.reduceSub, Int.reduceMul, reduceCtorEq, ↓reduceIte, gaE, implies_true, Nat.le_refl, Int.sub_zero, Nat.sub_zero, Int.le_refl, true_or, or_true, List.getD_cons_zero, List.getD_cons_succ, fillL, splice, List.take_zero, List.drop_zero, List.drop_succ_cons, List.take_succ_cons, List.drop_nil, List.take_nil, gaU, he0, decide_false, Bool.not_false]
      repeat refine And.intro (by omega) ?_
      refine And.intro (node_cells _ _ _ _ _ _ _) ?_
      refine ⟨by omega, fun p hp => by rw [if_neg (by omega), if_neg (by omega), F1 p hp], false, by simp [justP], rfl⟩
    | ok y =>
      obtain ⟨u, rfl, B', m', d', A', n', c', ks', rfl, hN⟩ := hC
      obtain ⟨g2, e2⟩ : ∃ g', g' = upd (upd g1 x1 (some (.cells [Value.int .i64 0, .slice none 0 0, .slice none 0 0] false))) x1 (some (.cells (nodeL y.t B' m' d' A' n' c') false)) := ⟨_, rfl⟩
      have G2 : ∀ p, p < x1 → g2 p = g1 p := fun p hp => by rw [e2]; simp only [upd_e]; rw [if_neg (by omega), if_neg (by omega)]
      have hb2 : g2 nx = some (.cells (nodeL x.t B m d A n c) false) := by rw [G2 nx (by omega), hb1]
      have hy := hyw y rfl
      simp only [↓gaW, ↓gaV, ↓gaC, ↓gaN, gaP, Nat.reduceEqDiff, Nat.reduceLeDiff, Nat.reduceAdd, Nat.reduceSub, Nat.reduceMul, Int.reduceLT, Int.reduceLE, Int.reduceEq, Int.reduceToNat, Int.reduceAdd, Int.reduceSub, Int.reduceMul, reduceCtorEq, ↓reduceIte, List.getD_cons_zero, List.getD_cons_succ, fillL, splice, List.take_zero, List.drop_zero, List.drop_succ_cons, List.take_succ_cons, List.drop_nil, List.take_nil, gaU, hnx1, hb1, decide_true, decide_false, Bool.not_true]
      repeat refine And.intro (by omega) ?_
      refine And.intro (node_cells _ _ _ _ _ _ _) ?_
      repeat refine And.intro (by omega) ?_
      rw [← e2]; clear e2
      refine callK_of (ct_same (hN.r.keep (x' := x1 + 1) (by omega) G2) (h.keep (x' := x1 + 1) (by omega) fun p hp => by rw [G2 p (by omega), F1 p hp]) hy hxw) (fun v x3 g3 l3 k3 hC => ?_) (by omega)
      obtain ⟨s, rfl, hs⟩ := hC
      have F3 : ∀ p, p < nx → g3 p = gt p := fun p hp => by rw [k3 p (by omega), G2 p (by omega), F1 p hp]
      cases s with
      | false =>
        simp only [↓gaW, ↓gaV, ↓gaC, ↓gaN, gaP, Nat.reduceEqDiff, Nat.reduceLeDiff, Nat.reduceAdd, Nat.reduceSub, Nat.reduceMul, Int.reduceLT, Int.reduceLE, Int.reduceEq, Int.reduceToNat, Int.reduceAdd, Int.reduceSub, Int.reduceMul, reduceCtorEq, ↓reduceIte, gaE, implies_true, Nat.le_refl, Int.sub_zero, Nat.sub_zero, Int.le_refl, true_or, or_true, List.getD_cons_zero, List.getD_cons_succ, fillL, splice, List.take_zero, List.drop_zero, List.drop_succ_cons, List.take_succ_cons, List.drop_nil, List.take_nil, Bool.not_false]
        refine ⟨by omega, F3, false, ?_, rfl⟩
        simp only [Bool.false_eq_true, false_iff] at hs ⊢
        rintro ⟨_, z, hz, hal⟩
        injection hz with hz; subst hz
        exact hs hal
      | true =>
        simp only [↓gaW, ↓gaV, ↓gaC, ↓gaN, gaP, Nat.reduceEqDiff, Nat.reduceLeDiff, Nat.reduceAdd, Nat.reduceSub, Nat.reduceMul, Int.reduceLT, Int.reduceLE, Int.reduceEq, Int.reduceToNat, Int.reduceAdd, Int.reduceSub, Int.reduceMul, reduceCtorEq, ↓reduceIte, gaE, implies_true, Nat.le_refl, Int.sub_zero, Nat.sub_zero, Int.le_refl, true_or, or_true, List.getD_cons_zero, List.getD_cons_succ, fillL, splice, List.take_zero, List.drop_zero, List.drop_succ_cons, List.take_succ_cons, List.drop_nil, List.take_nil, Bool.not_true]
        exact ⟨by omega, F3, true, by simp only [true_iff]; exact ⟨rfl, y, rfl, hs.1 rfl⟩, rfl⟩
end
end Go.Ga

/- The number, and the great number, of an element. -/
namespace Go.Ga
open Go Go.Proofs
set_option linter.unusedSimpArgs false
set_option linter.unusedVariables false
set_option maxRecDepth 100000
attribute [local irreducible] appendK

theorem intE_ex {n : Nat} (hn : n < 18446744073709551616) : ∃ y, intE n y := by
  have key : ∀ k, k ≤ 7 → n < 256 ^ (k + 1) → ∃ j, isLeast n j := by
    intro k
    induction k with
    | zero => intro _ h; exact ⟨1, Nat.le_refl _, by omega, h, .inl rfl⟩
    | succ k ih =>
      intro hk h
      rcases Nat.lt_or_ge n (256 ^ (k + 1)) with h1 | h1
      · exact ih (by omega) h1
      · exact ⟨k + 1 + 1, by omega, by omega, h, .inr h1⟩
  have h8 : (256 : Nat) ^ (7 + 1) = 18446744073709551616 := by decide
  obtain ⟨j, hj⟩ := key 7 (Nat.le_refl _) (by rw [h8]; exact hn)
  exact ⟨_, j, hj, rfl⟩
theorem intE_k {n : Nat} {y : Fo.El} (h : intE n y) : y.k = .nil := by
  obtain ⟨k, _, rfl⟩ := h; rfl
theorem alike_eq {y x : Fo.El} (h : y.k = .nil) : alike y x ↔ x = y := by
  cases x; cases y
  simp only [alike, Fo.El.mk.injEq] at *
  constructor
  · rintro ⟨h1, h2, h3, h4⟩; exact ⟨h1.symm, h2.symm, by rw [h4, h3]⟩
  · rintro ⟨h1, h2, h3⟩; exact ⟨h1.symm, h2.symm, h, by rw [h3, h]⟩

/-- The number of an element; or an error. -/
noncomputable def uintR (x : Fo.El) : Nat × Nat := open Classical in if val x.b < 18446744073709551616 ∧ intE (val x.b) x then (val x.b, 0) else (0, 2)
noncomputable def greatR (x : Fo.El) : List UInt8 × Nat := open Classical in if x = big x.b then (bare x.b, 0) else ([], 2)
def BErr (nx : Nat) (g : Nat → Option Blk) (v : Value) (r : List UInt8 × Nat) : Prop := ∃ u, v = .tuple #[u, .int .i64 (r.2 : Nat)] ∧ BySl nx g u r.1
/-- Cells in a block of their own. -/
theorem boxed {g : Nat → Option Blk} {x : Nat} {cs ds : List Value} : ∃ g', g' = upd (upd g x (some (.cells cs false))) x (some (.cells ds false)) ∧ (∀ p, p < x → g' p = g p) ∧ g' x = some (.cells ds false) :=
  ⟨_, rfl, fun p hp => by simp only [upd_e]; rw [if_neg (by omega), if_neg (by omega)], by simp only [upd_e, if_true]⟩

section
variable {nx : Nat} {gt : Nat → Option Blk}

theorem ct_Uint1 {q n : Nat} {ro : Bool} {y : Fo.El} (hq : q < nx) (hg : gt q = some (.cells [.int .u64 (n : Nat)] ro)) (hn : n < 18446744073709551616) (hy : intE n y) : Ct Tryd.prog 59 [.pointer (some ⟨q, 0, none⟩)] nx gt fun v x g => NErr nx x g v (.ok y) := by
  refine Ct.of hmx r_scalar_Uint_1 (by simp [c_scalar_Uint_1]) fun b hb => ?_
  have hF : ∀ q, q < nx → upd gt nx (some (.cells [Value.int .i64 0, .slice none 0 0, .slice none 0 0] false)) q = gt q := fun q hq => by simp only [upd_e]; rw [if_neg (by omega)]
  have hb0 : upd gt nx (some (.cells [Value.int .i64 0, .slice none 0 0, .slice none 0 0] false)) nx = some (.cells [Value.int .i64 0, .slice none 0 0, .slice none 0 0] false) := by simp only [upd_e, if_true]
  have hqn : (q = nx) = False := by simp; omega
  simp only [c_scalar_Uint_1, ↓gaW, ↓gaV, ↓gaC, ↓gaN, gaP, Nat.reduceEqDiff, Nat.reduceLeDiff, Nat.reduceAdd, Nat.reduceSub, Nat.reduceMul, Int.reduceLT, Int.reduceLE, Int.reduceEq, Int.reduceToNat, Int.reduceAdd, Int.reduceSub, Int.reduceMul, reduceCtorEq, ↓reduceIte, List.getD_cons_zero, List.getD_cons_succ, fillL, splice, List.take_zero, List.drop_zero, List.drop_succ_cons, List.take_succ_cons, List.drop_nil, List.take_nil, gaU, hqn, hg, List.getD_cons_zero]
  generalize upd gt nx (some (.cells [Value.int .i64 0, .slice none 0 0, .slice none 0 0] false)) = g0 at *
  repeat refine And.intro (by omega) ?_
  refine callK_of (ct_Int hn) (fun v x1 g1 l1 k1 hC => ?_) (by omega)
  obtain ⟨z, hz, B, m, d, A, n', c, ks, rfl, hN⟩ := hC
  have := intE_one hz hy
  subst this
  have F1 : ∀ p, p < nx → g1 p = gt p := fun p hp => by rw [k1 p (by omega), hF p hp]
  have hb1 : g1 nx = some (.cells [Value.int .i64 0, .slice none 0 0, .slice none 0 0] false) := by rw [k1 nx (by omega), hb0]
  simp only [↓gaW, ↓gaV, ↓gaC, ↓gaN, gaP, Nat.reduceEqDiff, Nat.reduceLeDiff, Nat.reduceAdd, Nat.reduceSub, Nat.reduceMul, Int.reduceLT, Int.reduceLE, Int.reduceEq, Int.reduceToNat, Int.reduceAdd, Int.reduceSub, Int.reduceMul, reduceCtorEq, ↓reduceIte, List.getD_cons_zero, List.getD_cons_succ, fillL, splice, List.take_zero, List.drop_zero, List.drop_succ_cons, List.take_succ_cons, List.drop_nil, List.take_nil, hb1]
  refine And.intro (by omega) (And.intro (node_cells _ _ _ _ _ _ _) ?_)
  have ext : ∀ (cs : List Value), (∀ p, p ≠ nx → upd g1 nx (some (.cells cs false)) p = g1 p) := fun cs p hp => by simp only [upd_e]; rw [if_neg hp]
  rw [end_r, res_cN (by first | (simp only [↓gaW, ↓gaV, ↓gaC, ↓gaN, gaP, Nat.reduceEqDiff, Nat.reduceLeDiff, Nat.reduceAdd, Nat.reduceSub, Nat.reduceMul, Int.reduceLT, Int.reduceLE, Int.reduceEq, Int.reduceToNat, Int.reduceAdd, Int.reduceSub, Int.reduceMul, reduceCtorEq, ↓reduceIte]; done) | (simp only [↓gaW, ↓gaV, ↓gaC, ↓gaN, gaP, Nat.reduceEqDiff, Nat.reduceLeDiff, Nat.reduceAdd, Nat.reduceSub, Nat.reduceMul, Int.reduceLT, Int.reduceLE, Int.reduceEq, Int.reduceToNat, Int.reduceAdd, Int.reduceSub, Int.reduceMul, reduceCtorEq, ↓reduceIte]; rfl)) (by simp only [upd_e, if_true]; rfl) (by simp)]
  simp only [res_t, res_nil, Option.map_some, asO_e, one2, List.drop_zero, ↓gaW, ↓gaV, ↓gaC, ↓gaN, gaP, Nat.reduceEqDiff, Nat.reduceLeDiff, Nat.reduceAdd, Nat.reduceSub, Nat.reduceMul, Int.reduceLT, Int.reduceLE, Int.reduceEq, Int.reduceToNat, Int.reduceAdd, Int.reduceSub, Int.reduceMul, reduceCtorEq, ↓reduceIte, List.getD_cons_zero, List.getD_cons_succ, fillL, splice, List.take_zero, List.drop_zero, List.drop_succ_cons, List.take_succ_cons, List.drop_nil, List.take_nil]
  refine ⟨by omega, fun p hp => by rw [if_neg (by omega), F1 p hp], _, rfl, B, m, d, A, n', c, ks, rfl, (hN.keep (Nat.le_refl _) fun p hp _ => ext _ p (by omega)).wid (by omega)⟩
theorem ct_Uint {x : Fo.El} {B : Option Addr} {m d : Nat} {A : Option Addr} {n c : Nat} {ks : List Value} (h : NdR nx gt x B m d A n c ks) (hxw : x.f.ws < 900000) :
    Ct Tryd.prog 29 [nodeV x.t B m d A n c] nx gt fun v _ _ => v = .tuple #[.int .u64 ((uintR x).1 : Nat), .int .i64 ((uintR x).2 : Nat)] := by
  refine Ct.of hmx r_scalar_Uint (by simp [c_scalar_Uint]) fun b hb => ?_
  have hF : ∀ q, q < nx → upd gt nx (some (.cells (nodeL x.t B m d A n c) false)) q = gt q := fun q hq => by simp only [upd_e]; rw [if_neg (by omega)]
  have hb0 : upd gt nx (some (.cells (nodeL x.t B m d A n c) false)) nx = some (.cells (nodeL x.t B m d A n c) false) := by simp only [upd_e, if_true]
  have xw : x.f.ws = 1 + x.b.length + x.k.ws := by simp only [Fo.El.f, Fo.ws]; omega
  have lw := Fo.len_ws x.k
  have hl := h.blen
  have hkl := h.len
  simp only [c_scalar_Uint, ↓gaW, ↓gaV, ↓gaC, ↓gaN, gaP, Nat.reduceEqDiff, Nat.reduceLeDiff, Nat.reduceAdd, Nat.reduceSub, Nat.reduceMul, Int.reduceLT, Int.reduceLE, Int.reduceEq, Int.reduceToNat, Int.reduceAdd, Int.reduceSub, Int.reduceMul, reduceCtorEq, ↓reduceIte, List.getD_cons_zero, List.getD_cons_succ, fillL, splice, List.take_zero, List.drop_zero, List.drop_succ_cons, List.take_succ_cons, List.drop_nil, List.take_nil, gaU]
  generalize upd gt nx (some (.cells (nodeL x.t B m d A n c) false)) = g0 at *
  repeat refine And.intro (by omega) ?_
  have h0 := h.keep (x' := nx + 1) (by omega) hF
  refine callK_of (ct_Num h0.body h.md (by omega)) (fun v x1 g1 l1 k1 hC => ?_) (by omega)
  subst hC
  have F1 : ∀ p, p < nx → g1 p = gt p := fun p hp => by rw [k1 p (by omega), hF p hp]
  have hb1 : g1 nx = some (.cells (nodeL x.t B m d A n c) false) := by rw [k1 nx (by omega), hb0]
  -- the number, and whether there is one
  obtain ⟨w, is, hv, hw, his⟩ : ∃ (w : Nat) (is : Bool), numV x.b = .tuple #[.int .u64 (w : Nat), .bool is] ∧ w < 18446744073709551616 ∧ ((is = true ∧ val x.b < 18446744073709551616 ∧ w = val x.b) ∨ (is = false ∧ ¬ val x.b < 18446744073709551616 ∧ w = 0)) := by
    unfold numV
    by_cases hv : val x.b < 18446744073709551616
    · rw [if_pos hv]; exact ⟨_, true, rfl, hv, .inl ⟨rfl, hv, rfl⟩⟩
    · rw [if_neg hv]; exact ⟨0, false, rfl, by omega, .inr ⟨rfl, hv, rfl⟩⟩
  rw [hv]
  obtain ⟨y, hy⟩ := intE_ex hw
  have hyw := intE_ws hy
  have hnx1 : (nx = x1) = False := by simp; omega
  simp only [↓gaW, ↓gaV, ↓gaC, ↓gaN, gaP, Nat.reduceEqDiff, Nat.reduceLeDiff, Nat.reduceAdd, Nat.reduceSub, Nat.reduceMul, Int.reduceLT, Int.reduceLE, Int.reduceEq, Int.reduceToNat, Int.reduceAdd, Int.reduceSub, Int.reduceMul, reduceCtorEq, ↓reduceIte, List.getD_cons_zero, List.getD_cons_succ, fillL, splice, List.take_zero, List.drop_zero, List.drop_succ_cons, List.take_succ_cons, List.drop_nil, List.take_nil, gaU, hnx1, hb1]
  repeat refine And.intro (by omega) ?_
  refine And.intro (all1 rfl) ?_
  repeat refine And.intro (by omega) ?_
  obtain ⟨g2, e2, G2, hb2⟩ := boxed (g := g1) (x := x1) (cs := [Value.int .u64 0]) (ds := [Value.int .u64 (w : Nat)])
  rw [← e2]; clear e2
  have hN2 := h.keep (x' := x1 + 1) (g := g2) (by omega) fun p hp => by rw [G2 p (by omega), F1 p hp]
  refine callK_of (ct_justN (r := .ok y) hN2 (by omega) (fun y' hy' => by injection hy' with hy'; subst hy'; omega) (fun nx' g h1 h2 => ct_Uint1 (q := x1) (by omega) (by rw [h2 x1 (by omega), hb2]) hw hy)) (fun v x3 g3 l3 k3 hC => ?_) (by omega)
  obtain ⟨bb, hbb, rfl⟩ := hC
  have F3 : ∀ p, p < nx → g3 p = gt p := fun p hp => by rw [k3 p (by omega), G2 p (by omega), F1 p hp]
  have hj : justP is x (.ok y) ↔ (val x.b < 18446744073709551616 ∧ intE (val x.b) x) := by
    unfold justP
    constructor
    · rintro ⟨h1, z, h2, h3⟩
      injection h2 with h2; subst h2
      rcases his with ⟨_, h4, h5⟩ | ⟨h4, _⟩
      · have := (alike_eq (intE_k hy)).1 h3
        subst this
        exact ⟨h4, by rw [← h5]; exact hy⟩
      · rw [h1] at h4; cases h4
    · rintro ⟨h1, h2⟩
      rcases his with ⟨h3, h4, h5⟩ | ⟨_, h4, _⟩
      · rw [← h5] at h2
        exact ⟨h3, y, rfl, (alike_eq (intE_k hy)).2 (intE_one h2 hy)⟩
      · exact absurd h1 h4
  cases bb with
  | true =>
    have hc := hj.1 (hbb.1 rfl)
    have hw2 : w = val x.b := by
      rcases his with ⟨_, _, h5⟩ | ⟨_, h4, _⟩
      · exact h5
      · exact absurd hc.1 h4
    have e : uintR x = (val x.b, 0) := if_pos hc
    simp only [↓gaW, ↓gaV, ↓gaC, ↓gaN, gaP, Nat.reduceEqDiff, Nat.reduceLeDiff, Nat.reduceAdd, Nat.reduceSub, Nat.reduceMul, Int.reduceLT, Int.reduceLE, Int.reduceEq, Int.reduceToNat, Int.reduceAdd, Int.reduceSub, Int.reduceMul, reduceCtorEq, ↓reduceIte, gaE, implies_true, Nat.le_refl, Int.sub_zero, Nat.sub_zero, Int.le_refl, true_or, or_true, List.getD_cons_zero, List.getD_cons_succ, fillL, splice, List.take_zero, List.drop_zero, List.drop_succ_cons, List.take_succ_cons, List.drop_nil, List.take_nil, e]
    exact ⟨by omega, by omega, by omega, F3, by rw [hw2]⟩
  | false =>
    have hc : ¬ (val x.b < 18446744073709551616 ∧ intE (val x.b) x) := fun hc => by have := hbb.2 (hj.2 hc); cases this
    have e : uintR x = (0, 2) := if_neg hc
    simp only [↓gaW, ↓gaV, ↓gaC, ↓gaN, gaP, Nat.reduceEqDiff, Nat.reduceLeDiff, Nat.reduceAdd, Nat.reduceSub, Nat.reduceMul, Int.reduceLT, Int.reduceLE, Int.reduceEq, Int.reduceToNat, Int.reduceAdd, Int.reduceSub, Int.reduceMul, reduceCtorEq, ↓reduceIte, gaE, implies_true, Nat.le_refl, Int.sub_zero, Nat.sub_zero, Int.le_refl, true_or, or_true, List.getD_cons_zero, List.getD_cons_succ, fillL, splice, List.take_zero, List.drop_zero, List.drop_succ_cons, List.take_succ_cons, List.drop_nil, List.take_nil, e, Bool.false_eq_true, if_false]
    repeat refine And.intro (by omega) ?_
    first | exact F3 | exact ⟨F3, rfl⟩

end
end Go.Ga

/- The document's numbers; a number and an object's name. -/
namespace Go.Ga
open Go Go.Proofs
set_option linter.unusedSimpArgs false
set_option linter.unusedVariables false
set_option maxRecDepth 100000
attribute [local irreducible] appendK

theorem valFrom_be (n : Nat) : ∀ k x, valFrom x (be k n) = x * 256 ^ k + n % 256 ^ k := by
  intro k
  induction k with
  | zero => intro x; simp [be, valFrom, Nat.mod_one]
  | succ k ih =>
    intro x
    have hb : be (k + 1) n = UInt8.ofNat (n / 256 ^ k) :: be k n := by
      unfold be
      rw [List.range_succ_eq_map, List.map_cons, List.map_map]
      congr 1
      refine List.map_congr_left fun i hi => ?_
      have := List.mem_range.1 hi
      show UInt8.ofNat (n / 256 ^ (k + 1 - 1 - (i + 1))) = _
      rw [show k + 1 - 1 - (i + 1) = k - 1 - i by omega]
    rw [hb, valFrom_cons, ih]
    have e1 : (UInt8.ofNat (n / 256 ^ k)).toNat = n / 256 ^ k % 256 := UInt8.toNat_ofNat'
    rw [e1, Nat.pow_succ, Nat.mod_mul, Nat.add_mul, Nat.mul_assoc, Nat.mul_comm 256 (256 ^ k), Nat.mul_comm (n / 256 ^ k % 256)]
    omega
theorem val_be {k n : Nat} (h : n < 256 ^ k) : val (be k n) = n := by
  show valFrom 0 (be k n) = n
  rw [valFrom_be, Nat.zero_mul, Nat.zero_add, Nat.mod_eq_of_lt h]
theorem val_bare (l : List UInt8) : val (bare l) = val l := by
  induction l with
  | nil => rfl
  | cons x t ih =>
    by_cases h : x = 0
    · subst h
      rw [bare_0, ih]
      show _ = valFrom 0 (0 :: t)
      rw [valFrom_cons]; rfl
    · rw [bare_n h]
theorem val_bigB (l : List UInt8) : val (bigB l) = val l := by
  cases l with
  | nil => rfl
  | cons x t =>
    show val (if 128 ≤ x.toNat then 0 :: x :: t else x :: t) = _
    by_cases h : 128 ≤ x.toNat
    · rw [if_pos h]
      show valFrom 0 (0 :: x :: t) = _
      rw [valFrom_cons]; rfl
    · rw [if_neg h]
theorem val_int {n : Nat} {y : Fo.El} (h : intE n y) : val y.b = n := by
  obtain ⟨k, hk, rfl⟩ := h
  show val (bigB (bare (be k n))) = n
  rw [val_bigB, val_bare, val_be hk.2.2.1]
theorem uint_int {n : Nat} {y : Fo.El} (hn : n < 18446744073709551616) (h : intE n y) : uintR y = (n, 0) := by
  unfold uintR
  rw [val_int h, if_pos ⟨hn, h⟩]

section
variable {nx : Nat} {gt : Nat → Option Blk}

end
end Go.Ga

/- Where a function ends that gives an element and another value. -/
namespace Go.Ga
open Go Go.Proofs
theorem end_nT {b nx : Nat} {gt : Nat → Option Blk} {f : Regs} {i j x' q : Nat} {g' : Nat → Option Blk} {t : Int} {B : Option Addr} {m d : Nat} {A : Option Addr} {n c : Nat} {ro : Bool} {w : Value} {C : Value → Nat → (Nat → Option Blk) → Prop} (h8 : f i = .pointer (some ⟨q, 0, none⟩)) (hw : f j = w) (hg : g' q = some (.cells (nodeL t B m d A n c) ro))
    (h1 : nx ≤ x') (h2 : ∀ n, n < nx → g' n = gt n) (h3 : C (.tuple #[nodeV t B m d A n c, w]) x' g') : endK [.cN i 3, .t j] b nx gt C .ret f ⟨x', b, g'⟩ := by
  rw [end_r, res_cN h8 hg (by simp [nodeL]), res_t, res_nil]
  simp only [Option.map_some, asO_e, one2, List.drop_zero, hw]
  rw [List.take_of_length_le (by simp [nodeL])]
  exact ⟨trivial, h1, h2, h3⟩
end Go.Ga

/- Bits as an element. -/
namespace Go.Ga
open Go Go.Proofs
set_option linter.unusedSimpArgs false
set_option linter.unusedVariables false
set_option maxRecDepth 100000
attribute [local irreducible] appendK

def bitsOk (l : List UInt8) (many : Int) : Bool := decide (0 ≤ many) && decide (many ≤ 8 * (l.length : Int)) && decide (8 * (l.length : Int) - many ≤ 7) && decide ((l.getD (l.length - 1) 0).toNat % 2 ^ (8 * (l.length : Int) - many).toNat = 0)
def bitsR (l : List UInt8) (many : Int) : Except Nat Fo.El := if bitsOk l many then .ok ⟨3, UInt8.ofNat (8 * (l.length : Int) - many).toNat :: l, .nil⟩ else .error 1
theorem bits_err {l : List UInt8} {many : Int} (h : ¬ bitsOk l many = true) : bitsR l many = .error 1 := if_neg h

theorem lt8 {k : Nat} (h : k ≤ 7) : k = 0 ∨ k = 1 ∨ k = 2 ∨ k = 3 ∨ k = 4 ∨ k = 5 ∨ k = 6 ∨ k = 7 := by omega
theorem shl8 {k : Nat} (h : k ≤ 7) : shlV .u8 1 (k : Int) = ((2 ^ k : Nat) : Int) := by
  rcases lt8 h with rfl | rfl | rfl | rfl | rfl | rfl | rfl | rfl <;> decide
theorem pow8 {k : Nat} (h : k ≤ 7) : 1 ≤ 2 ^ k ∧ 2 ^ k ≤ 128 := by
  rcases lt8 h with rfl | rfl | rfl | rfl | rfl | rfl | rfl | rfl <;> decide
theorem mask8 {x k : Nat} (hx : x < 256) (h : k ≤ 7) : bitsV .and .u8 (x : Int) (IntKind.u8.wrap (shlV .u8 1 (k : Int) - 1)) = ((x % 2 ^ k : Nat) : Int) := by
  have hp := pow8 h
  have e0 : IntKind.u8.wrap (shlV .u8 1 (k : Int) - 1) = ((2 ^ k - 1 : Nat) : Int) := by
    rw [shl8 h, u8_w]
    generalize 2 ^ k = y at *
    omega
  have e : x &&& (2 ^ k - 1) = x % 2 ^ k := Nat.and_two_pow_sub_one_eq_mod x k
  have hm : x % 2 ^ k < 2 ^ k := Nat.mod_lt _ (by omega)
  rw [e0]
  show IntKind.u8.wrap ((BitVec.ofInt 8 (x : Int) &&& BitVec.ofInt 8 ((2 ^ k - 1 : Nat) : Int)).toNat : Int) = _
  simp only [BitVec.ofInt_natCast, BitVec.toNat_and, BitVec.toNat_ofNat]
  rw [Nat.mod_eq_of_lt (by omega), Nat.mod_eq_of_lt (by omega), e, u8_w]
  generalize 2 ^ k = y at *
  omega

section
variable {nx : Nat} {gt : Nat → Option Blk}

theorem ct_Bits {A : Option Addr} {n c : Nat} {l : List UInt8} {many : Int} (hA : Row nx gt 1 A n (l.map u8V)) (hc : n ≤ c) (hn : n ≤ 1000000) (hm : -9223372036854775808 ≤ many ∧ many ≤ 9223372036854775807) :
    Ct Tryd.prog 22 [.slice A n c, .int .i64 many] nx gt fun v x g => NErr nx x g v (bitsR l many) := by
  have hl : l.length = n := by simpa using hA.len
  refine Ct.of hmx r_scalar_Bits (by simp [c_scalar_Bits]) fun b hb => ?_
  have hF : ∀ q, q < nx → upd gt nx (some (.cells [Value.int .i64 0, .slice none 0 0, .slice none 0 0] false)) q = gt q := fun q hq => by simp only [upd_e]; rw [if_neg (by omega)]
  have hb0 : upd gt nx (some (.cells [Value.int .i64 0, .slice none 0 0, .slice none 0 0] false)) nx = some (.cells [Value.int .i64 0, .slice none 0 0, .slice none 0 0] false) := by simp only [upd_e, if_true]
  by_cases h0 : many < 0
  · rw [bits_err (by unfold bitsOk; simp; omega)]
    simp only [c_scalar_Bits, ↓gaW, ↓gaV, ↓gaC, ↓gaN, gaP, Nat.reduceEqDiff, Nat.reduceLeDiff, Nat.reduceAdd, Nat.reduceSub, Nat.reduceMul, Int.reduceLT, Int.reduceLE, Int.reduceEq, Int.reduceToNat, Int.reduceAdd, Int.reduceSub, Int.reduceMul, reduceCtorEq, ↓reduceIte, List.getD_cons_zero, List.getD_cons_succ, fillL, splice, List.take_zero, List.drop_zero, List.drop_succ_cons, List.take_succ_cons, List.drop_nil, List.take_nil, gaU, h0, decide_true]
    repeat refine And.intro (by omega) ?_
    refine And.intro (node_cells _ _ _ _ _ _ _) ?_
    exact end_nT (q := nx) (t := 0) (B := none) (m := 0) (d := 0) (A := none) (n := 0) (c := 0) (ro := false) (w := .int .i64 1) (by first | (simp only [↓gaW, ↓gaV, ↓gaC, ↓gaN, gaP, Nat.reduceEqDiff, Nat.reduceLeDiff, Nat.reduceAdd, Nat.reduceSub, Nat.reduceMul, Int.reduceLT, Int.reduceLE, Int.reduceEq, Int.reduceToNat, Int.reduceAdd, Int.reduceSub, Int.reduceMul, reduceCtorEq, ↓reduceIte]; done) | (simp only [↓gaW, ↓gaV, ↓gaC, ↓gaN, gaP, Nat.reduceEqDiff, Nat.reduceLeDiff, Nat.reduceAdd, Nat.reduceSub, Nat.reduceMul, Int.reduceLT, Int.reduceLE, Int.reduceEq, Int.reduceToNat, Int.reduceAdd, Int.reduceSub, Int.reduceMul, reduceCtorEq, ↓reduceIte]; rfl)) (by first | (simp only [↓gaW, ↓gaV, ↓gaC, ↓gaN, gaP, Nat.reduceEqDiff, Nat.reduceLeDiff, Nat.reduceAdd, Nat.reduceSub, Nat.reduceMul, Int.reduceLT, Int.reduceLE, Int.reduceEq, Int.reduceToNat, Int.reduceAdd, Int.reduceSub, Int.reduceMul, reduceCtorEq, ↓reduceIte]; done) | (simp only [↓gaW, ↓gaV, ↓gaC, ↓gaN, gaP, Nat.reduceEqDiff, Nat.reduceLeDiff, Nat.reduceAdd, Nat.reduceSub, Nat.reduceMul, Int.reduceLT, Int.reduceLE, Int.reduceEq, Int.reduceToNat, Int.reduceAdd, Int.reduceSub, Int.reduceMul, reduceCtorEq, ↓reduceIte]; rfl)) (by simp only [upd_e, if_true]) (by omega) (fun p hp => by simp only [upd_e]; rw [if_neg (by omega), if_neg (by omega)]) ⟨rfl, by omega⟩
  have i1 : IntKind.i64.wrap (IntKind.i64.wrap (8 * (n : Int)) - many) = 8 * (n : Int) - many := by rw [i64_w (8 * (n : Int)) (by omega), i64_w _ (by omega)]
  obtain ⟨k, hk⟩ : ∃ k : Int, 8 * (n : Int) - many = k := ⟨_, rfl⟩
  rw [hk] at i1
  by_cases h1 : k < 0
  · rw [bits_err (by unfold bitsOk; simp; omega)]
    simp only [c_scalar_Bits, ↓gaW, ↓gaV, ↓gaC, ↓gaN, gaP, Nat.reduceEqDiff, Nat.reduceLeDiff, Nat.reduceAdd, Nat.reduceSub, Nat.reduceMul, Int.reduceLT, Int.reduceLE, Int.reduceEq, Int.reduceToNat, Int.reduceAdd, Int.reduceSub, Int.reduceMul, reduceCtorEq, ↓reduceIte, List.getD_cons_zero, List.getD_cons_succ, fillL, splice, List.take_zero, List.drop_zero, List.drop_succ_cons, List.take_succ_cons, List.drop_nil, List.take_nil, gaU, h0, decide_false, i1, h1, decide_true]
    repeat refine And.intro (by omega) ?_
    refine And.intro (node_cells _ _ _ _ _ _ _) ?_
    exact end_nT (q := nx) (t := 0) (B := none) (m := 0) (d := 0) (A := none) (n := 0) (c := 0) (ro := false) (w := .int .i64 1) (by first | (simp only [↓gaW, ↓gaV, ↓gaC, ↓gaN, gaP, Nat.reduceEqDiff, Nat.reduceLeDiff, Nat.reduceAdd, Nat.reduceSub, Nat.reduceMul, Int.reduceLT, Int.reduceLE, Int.reduceEq, Int.reduceToNat, Int.reduceAdd, Int.reduceSub, Int.reduceMul, reduceCtorEq, ↓reduceIte]; done) | (simp only [↓gaW, ↓gaV, ↓gaC, ↓gaN, gaP, Nat.reduceEqDiff, Nat.reduceLeDiff, Nat.reduceAdd, Nat.reduceSub, Nat.reduceMul, Int.reduceLT, Int.reduceLE, Int.reduceEq, Int.reduceToNat, Int.reduceAdd, Int.reduceSub, Int.reduceMul, reduceCtorEq, ↓reduceIte]; rfl)) (by first | (simp only [↓gaW, ↓gaV, ↓gaC, ↓gaN, gaP, Nat.reduceEqDiff, Nat.reduceLeDiff, Nat.reduceAdd, Nat.reduceSub, Nat.reduceMul, Int.reduceLT, Int.reduceLE, Int.reduceEq, Int.reduceToNat, Int.reduceAdd, Int.reduceSub, Int.reduceMul, reduceCtorEq, ↓reduceIte]; done) | (simp only [↓gaW, ↓gaV, ↓gaC, ↓gaN, gaP, Nat.reduceEqDiff, Nat.reduceLeDiff, Nat.reduceAdd, Nat.reduceSub, Nat.reduceMul, Int.reduceLT, Int.reduceLE, Int.reduceEq, Int.reduceToNat, Int.reduceAdd, Int.reduceSub, Int.reduceMul, reduceCtorEq, ↓reduceIte]; rfl)) (by simp only [upd_e, if_true]) (by omega) (fun p hp => by simp only [upd_e]; rw [if_neg (by omega), if_neg (by omega)]) ⟨rfl, by omega⟩
  by_cases h2 : 7 < k
  · rw [bits_err (by unfold bitsOk; simp; omega)]
    simp only [c_scalar_Bits, ↓gaW, ↓gaV, ↓gaC, ↓gaN, gaP, Nat.reduceEqDiff, Nat.reduceLeDiff, Nat.reduceAdd, Nat.reduceSub, Nat.reduceMul, Int.reduceLT, Int.reduceLE, Int.reduceEq, Int.reduceToNat, Int.reduceAdd, Int.reduceSub, Int.reduceMul, reduceCtorEq, ↓reduceIte, List.getD_cons_zero, List.getD_cons_succ, fillL, splice, List.take_zero, List.drop_zero, List.drop_succ_cons, List.take_succ_cons, List.drop_nil, List.take_nil, gaU, h0, decide_false, i1, h1, h2, decide_true]
    repeat refine And.intro (by omega) ?_
    refine And.intro (node_cells _ _ _ _ _ _ _) ?_
    exact end_nT (q := nx) (t := 0) (B := none) (m := 0) (d := 0) (A := none) (n := 0) (c := 0) (ro := false) (w := .int .i64 1) (by first | (simp only [↓gaW, ↓gaV, ↓gaC, ↓gaN, gaP, Nat.reduceEqDiff, Nat.reduceLeDiff, Nat.reduceAdd, Nat.reduceSub, Nat.reduceMul, Int.reduceLT, Int.reduceLE, Int.reduceEq, Int.reduceToNat, Int.reduceAdd, Int.reduceSub, Int.reduceMul, reduceCtorEq, ↓reduceIte]; done) | (simp only [↓gaW, ↓gaV, ↓gaC, ↓gaN, gaP, Nat.reduceEqDiff, Nat.reduceLeDiff, Nat.reduceAdd, Nat.reduceSub, Nat.reduceMul, Int.reduceLT, Int.reduceLE, Int.reduceEq, Int.reduceToNat, Int.reduceAdd, Int.reduceSub, Int.reduceMul, reduceCtorEq, ↓reduceIte]; rfl)) (by first | (simp only [↓gaW, ↓gaV, ↓gaC, ↓gaN, gaP, Nat.reduceEqDiff, Nat.reduceLeDiff, Nat.reduceAdd, Nat.reduceSub, Nat.reduceMul, Int.reduceLT, Int.reduceLE, Int.reduceEq, Int.reduceToNat, Int.reduceAdd, Int.reduceSub, Int.reduceMul, reduceCtorEq, ↓reduceIte]; done) | (simp only [↓gaW, ↓gaV, ↓gaC, ↓gaN, gaP, Nat.reduceEqDiff, Nat.reduceLeDiff, Nat.reduceAdd, Nat.reduceSub, Nat.reduceMul, Int.reduceLT, Int.reduceLE, Int.reduceEq, Int.reduceToNat, Int.reduceAdd, Int.reduceSub, Int.reduceMul, reduceCtorEq, ↓reduceIte]; rfl)) (by simp only [upd_e, if_true]) (by omega) (fun p hp => by simp only [upd_e]; rw [if_neg (by omega), if_neg (by omega)]) ⟨rfl, by omega⟩
  obtain ⟨k, rfl⟩ : ∃ j : Nat, k = (j : Int) := ⟨k.toNat, by omega⟩
  have hkt : (8 * (l.length : Int) - many).toNat = k := by rw [hl]; omega
  by_cases h3 : (0 : Int) < (k : Int)
  · obtain ⟨a, cl, ro, rfl, r2, r3, r4, r5⟩ := hA.cells (by omega)
    have i2 : IntKind.i64.wrap ((n : Int) - 1) = ((n - 1 : Nat) : Int) := by rw [i64_w _ (by omega)]; omega
    have hqn : (a.block = nx) = False := by simp; omega
    have c0 : cl.getD (a.off + (n - 1)) undef = .int .u8 ((l.getD (n - 1) 0).toNat : Nat) := by rw [r5 (n - 1) (by omega), getD_u8 (by omega)]
    have hx := (l.getD (n - 1) 0).toNat_lt
    have hp := pow8 (k := k) (by omega)
    by_cases h4 : (((l.getD (n - 1) 0).toNat % 2 ^ k : Nat) : Int) = 0
    · have hr : bitsR l many = .ok ⟨3, UInt8.ofNat k :: l, .nil⟩ := by
        unfold bitsR
        rw [hkt, if_pos]
        unfold bitsOk
        rw [hkt, hl]
        simp only [Bool.and_eq_true, decide_eq_true_eq]
        exact ⟨⟨⟨by omega, by omega⟩, by omega⟩, by omega⟩
      rw [hr]
      simp only [c_scalar_Bits, ↓gaW, ↓gaV, ↓gaC, ↓gaN, gaP, Nat.reduceEqDiff, Nat.reduceLeDiff, Nat.reduceAdd, Nat.reduceSub, Nat.reduceMul, Int.reduceLT, Int.reduceLE, Int.reduceEq, Int.reduceToNat, Int.reduceAdd, Int.reduceSub, Int.reduceMul, reduceCtorEq, ↓reduceIte, List.getD_cons_zero, List.getD_cons_succ, fillL, splice, List.take_zero, List.drop_zero, List.drop_succ_cons, List.take_succ_cons, List.drop_nil, List.take_nil, gaU, h0, decide_false, i1, i2, h1, h2, h3, decide_true, hqn, r3, c0, mask8 hx (show k ≤ 7 by omega), h4, not_true]
      obtain ⟨A, hAe⟩ : ∃ A : Option Addr, A = some a := ⟨_, rfl⟩
      rw [← hAe] at hA ⊢
      have e8 : Value.int .u8 (IntKind.u8.wrap (k : Int)) = u8V (UInt8.ofNat k) := by
        show _ = Value.int .u8 _
        exact congrArg (Value.int .u8) (by first | rfl | (rw [UInt8.toNat_ofNat', u8_w]; omega))
      rw [e8]
      have hZ : ∀ p, p < nx + 1 → upd (upd gt nx (some (.cells [Value.int .i64 0, .slice none 0 0, .slice none 0 0] false))) (nx + 1) (some (.cells [u8V (UInt8.ofNat k)] false)) p = upd gt nx (some (.cells [Value.int .i64 0, .slice none 0 0, .slice none 0 0] false)) p := fun p hp => by rw [upd_e, if_neg (by omega)]
      have hz : upd (upd gt nx (some (.cells [Value.int .i64 0, .slice none 0 0, .slice none 0 0] false))) (nx + 1) (some (.cells [u8V (UInt8.ofNat k)] false)) (nx + 1) = some (.cells [u8V (UInt8.ofNat k)] false) := by rw [upd_e, if_pos rfl]
      have e1 : rowOf ⟨nx + 1 + 1, b, upd (upd gt nx (some (.cells [Value.int .i64 0, .slice none 0 0, .slice none 0 0] false))) (nx + 1) (some (.cells [u8V (UInt8.ofNat k)] false))⟩ A n = some (l.map u8V) := (hA.keep (nx' := nx + 1 + 1) (by omega) fun p hp => by rw [hZ p (by omega), hF p hp]).rowOf
      repeat refine And.intro (by omega) ?_
      rw [e1]
      simp only [asO_e]
      refine app_litN (bytes := 1) (z := nx + 1) (n := 1) (e := 1) (by omega) hz rfl (by omega) (by simp [hl]) (all_u8 _) (by omega) (by omega) fun A6 x6 g6 l6 k6 r6 => ?_
      rw [Nat.mul_one] at r6
      have hb6 : g6 nx = some (.cells [Value.int .i64 0, .slice none 0 0, .slice none 0 0] false) := by rw [k6 nx (by omega), hZ nx (by omega), hb0]
      have ext : ∀ (g : Nat → Option Blk) (cs : List Value), (∀ p, p ≠ nx → upd g nx (some (.cells cs false)) p = g p) := fun g cs p hp => by simp only [upd_e]; rw [if_neg hp]
      simp only [↓gaW, ↓gaV, ↓gaC, ↓gaN, gaP, Nat.reduceEqDiff, Nat.reduceLeDiff, Nat.reduceAdd, Nat.reduceSub, Nat.reduceMul, Int.reduceLT, Int.reduceLE, Int.reduceEq, Int.reduceToNat, Int.reduceAdd, Int.reduceSub, Int.reduceMul, reduceCtorEq, ↓reduceIte, List.getD_cons_zero, List.getD_cons_succ, fillL, splice, List.take_zero, List.drop_zero, List.drop_succ_cons, List.take_succ_cons, List.drop_nil, List.take_nil, hb6]
      refine And.intro (by omega) (And.intro (node_cells _ _ _ _ _ _ _) ?_)
      refine end_nT (q := nx) (t := 3) (B := A6) (m := 1 + n) (d := 1 + n) (A := none) (n := 0) (c := 0) (ro := false) (w := .int .i64 0) (by first | (simp only [↓gaW, ↓gaV, ↓gaC, ↓gaN, gaP, Nat.reduceEqDiff, Nat.reduceLeDiff, Nat.reduceAdd, Nat.reduceSub, Nat.reduceMul, Int.reduceLT, Int.reduceLE, Int.reduceEq, Int.reduceToNat, Int.reduceAdd, Int.reduceSub, Int.reduceMul, reduceCtorEq, ↓reduceIte]; done) | (simp only [↓gaW, ↓gaV, ↓gaC, ↓gaN, gaP, Nat.reduceEqDiff, Nat.reduceLeDiff, Nat.reduceAdd, Nat.reduceSub, Nat.reduceMul, Int.reduceLT, Int.reduceLE, Int.reduceEq, Int.reduceToNat, Int.reduceAdd, Int.reduceSub, Int.reduceMul, reduceCtorEq, ↓reduceIte]; rfl)) (by first | (simp only [↓gaW, ↓gaV, ↓gaC, ↓gaN, gaP, Nat.reduceEqDiff, Nat.reduceLeDiff, Nat.reduceAdd, Nat.reduceSub, Nat.reduceMul, Int.reduceLT, Int.reduceLE, Int.reduceEq, Int.reduceToNat, Int.reduceAdd, Int.reduceSub, Int.reduceMul, reduceCtorEq, ↓reduceIte]; done) | (simp only [↓gaW, ↓gaV, ↓gaC, ↓gaN, gaP, Nat.reduceEqDiff, Nat.reduceLeDiff, Nat.reduceAdd, Nat.reduceSub, Nat.reduceMul, Int.reduceLT, Int.reduceLE, Int.reduceEq, Int.reduceToNat, Int.reduceAdd, Int.reduceSub, Int.reduceMul, reduceCtorEq, ↓reduceIte]; rfl)) (by simp only [upd_e, if_true]) (by omega) (fun p hp => by rw [ext _ _ p (by omega), k6 p (by omega), hZ p (by omega), hF p hp]) ⟨_, rfl, ?_⟩
      have r7 : RowL (nx + 1) x6 g6 1 A6 (1 + n) ((UInt8.ofNat k :: l).map u8V) := r6
      exact NodeIs.leaf (by omega) ((r7.keep (Nat.le_refl _) fun p hp _ => ext _ _ p (by omega)).wid (by omega)) (Nat.le_refl _)
    · rw [bits_err (by unfold bitsOk; rw [hkt, hl]; simp only [Bool.and_eq_true, decide_eq_true_eq]; omega)]
      simp only [c_scalar_Bits, ↓gaW, ↓gaV, ↓gaC, ↓gaN, gaP, Nat.reduceEqDiff, Nat.reduceLeDiff, Nat.reduceAdd, Nat.reduceSub, Nat.reduceMul, Int.reduceLT, Int.reduceLE, Int.reduceEq, Int.reduceToNat, Int.reduceAdd, Int.reduceSub, Int.reduceMul, reduceCtorEq, ↓reduceIte, List.getD_cons_zero, List.getD_cons_succ, fillL, splice, List.take_zero, List.drop_zero, List.drop_succ_cons, List.take_succ_cons, List.drop_nil, List.take_nil, gaU, h0, decide_false, i1, i2, h1, h2, h3, decide_true, hqn, r3, c0, mask8 hx (show k ≤ 7 by omega), h4, not_false_eq_true]
      repeat refine And.intro (by omega) ?_
      refine And.intro (node_cells _ _ _ _ _ _ _) ?_
      exact end_nT (q := nx) (t := 0) (B := none) (m := 0) (d := 0) (A := none) (n := 0) (c := 0) (ro := false) (w := .int .i64 1) (by first | (simp only [↓gaW, ↓gaV, ↓gaC, ↓gaN, gaP, Nat.reduceEqDiff, Nat.reduceLeDiff, Nat.reduceAdd, Nat.reduceSub, Nat.reduceMul, Int.reduceLT, Int.reduceLE, Int.reduceEq, Int.reduceToNat, Int.reduceAdd, Int.reduceSub, Int.reduceMul, reduceCtorEq, ↓reduceIte]; done) | (simp only [↓gaW, ↓gaV, ↓gaC, ↓gaN, gaP, Nat.reduceEqDiff, Nat.reduceLeDiff, Nat.reduceAdd, Nat.reduceSub, Nat.reduceMul, Int.reduceLT, Int.reduceLE, Int.reduceEq, Int.reduceToNat, Int.reduceAdd, Int.reduceSub, Int.reduceMul, reduceCtorEq, ↓reduceIte]; rfl)) (by first | (simp only [↓gaW, ↓gaV, ↓gaC, ↓gaN, gaP, Nat.reduceEqDiff, Nat.reduceLeDiff, Nat.reduceAdd, Nat.reduceSub, Nat.reduceMul, Int.reduceLT, Int.reduceLE, Int.reduceEq, Int.reduceToNat, Int.reduceAdd, Int.reduceSub, Int.reduceMul, reduceCtorEq, ↓reduceIte]; done) | (simp only [↓gaW, ↓gaV, ↓gaC, ↓gaN, gaP, Nat.reduceEqDiff, Nat.reduceLeDiff, Nat.reduceAdd, Nat.reduceSub, Nat.reduceMul, Int.reduceLT, Int.reduceLE, Int.reduceEq, Int.reduceToNat, Int.reduceAdd, Int.reduceSub, Int.reduceMul, reduceCtorEq, ↓reduceIte]; rfl)) (by simp only [upd_e, if_true]) (by omega) (fun p hp => by simp only [upd_e]; rw [if_neg (by omega), if_neg (by omega)]) ⟨rfl, by omega⟩
  · have hk0 : k = 0 := by omega
    have hr : bitsR l many = .ok ⟨3, UInt8.ofNat k :: l, .nil⟩ := by
      unfold bitsR
      rw [hkt, if_pos]
      unfold bitsOk
      rw [hkt, hl, hk0]
      simp only [Bool.and_eq_true, decide_eq_true_eq, Nat.pow_zero, Nat.mod_one]
      exact ⟨⟨⟨by omega, by omega⟩, by omega⟩, trivial⟩
    rw [hr]
    simp only [c_scalar_Bits, ↓gaW, ↓gaV, ↓gaC, ↓gaN, gaP, Nat.reduceEqDiff, Nat.reduceLeDiff, Nat.reduceAdd, Nat.reduceSub, Nat.reduceMul, Int.reduceLT, Int.reduceLE, Int.reduceEq, Int.reduceToNat, Int.reduceAdd, Int.reduceSub, Int.reduceMul, reduceCtorEq, ↓reduceIte, List.getD_cons_zero, List.getD_cons_succ, fillL, splice, List.take_zero, List.drop_zero, List.drop_succ_cons, List.take_succ_cons, List.drop_nil, List.take_nil, gaU, h0, decide_false, i1, h1, h2, h3, decide_true]
    have e8 : Value.int .u8 (IntKind.u8.wrap (k : Int)) = u8V (UInt8.ofNat k) := by
      show _ = Value.int .u8 _
      exact congrArg (Value.int .u8) (by first | rfl | (rw [UInt8.toNat_ofNat', u8_w]; omega))
    rw [e8]
    have hZ : ∀ p, p < nx + 1 → upd (upd gt nx (some (.cells [Value.int .i64 0, .slice none 0 0, .slice none 0 0] false))) (nx + 1) (some (.cells [u8V (UInt8.ofNat k)] false)) p = upd gt nx (some (.cells [Value.int .i64 0, .slice none 0 0, .slice none 0 0] false)) p := fun p hp => by rw [upd_e, if_neg (by omega)]
    have hz : upd (upd gt nx (some (.cells [Value.int .i64 0, .slice none 0 0, .slice none 0 0] false))) (nx + 1) (some (.cells [u8V (UInt8.ofNat k)] false)) (nx + 1) = some (.cells [u8V (UInt8.ofNat k)] false) := by rw [upd_e, if_pos rfl]
    have e1 : rowOf ⟨nx + 1 + 1, b, upd (upd gt nx (some (.cells [Value.int .i64 0, .slice none 0 0, .slice none 0 0] false))) (nx + 1) (some (.cells [u8V (UInt8.ofNat k)] false))⟩ A n = some (l.map u8V) := (hA.keep (nx' := nx + 1 + 1) (by omega) fun p hp => by rw [hZ p (by omega), hF p hp]).rowOf
    repeat refine And.intro (by omega) ?_
    rw [e1]
    simp only [asO_e]
    refine app_litN (bytes := 1) (z := nx + 1) (n := 1) (e := 1) (by omega) hz rfl (by omega) (by simp [hl]) (all_u8 _) (by omega) (by omega) fun A6 x6 g6 l6 k6 r6 => ?_
    rw [Nat.mul_one] at r6
    have hb6 : g6 nx = some (.cells [Value.int .i64 0, .slice none 0 0, .slice none 0 0] false) := by rw [k6 nx (by omega), hZ nx (by omega), hb0]
    have ext : ∀ (g : Nat → Option Blk) (cs : List Value), (∀ p, p ≠ nx → upd g nx (some (.cells cs false)) p = g p) := fun g cs p hp => by simp only [upd_e]; rw [if_neg hp]
    simp only [↓gaW, ↓gaV, ↓gaC, ↓gaN, gaP, Nat.reduceEqDiff, Nat.reduceLeDiff, Nat.reduceAdd, Nat.reduceSub, Nat.reduceMul, Int.reduceLT, Int.reduceLE, Int.reduceEq, Int.reduceToNat, Int.reduceAdd, Int.reduceSub, Int.reduceMul, reduceCtorEq, ↓reduceIte, List.getD_cons_zero, List.getD_cons_succ, fillL, splice, List.take_zero, List.drop_zero, List.drop_succ_cons, List.take_succ_cons, List.drop_nil, List.take_nil, hb6]
    refine And.intro (by omega) (And.intro (node_cells _ _ _ _ _ _ _) ?_)
    refine end_nT (q := nx) (t := 3) (B := A6) (m := 1 + n) (d := 1 + n) (A := none) (n := 0) (c := 0) (ro := false) (w := .int .i64 0) (by first | (simp only [↓gaW, ↓gaV, ↓gaC, ↓gaN, gaP, Nat.reduceEqDiff, Nat.reduceLeDiff, Nat.reduceAdd, Nat.reduceSub, Nat.reduceMul, Int.reduceLT, Int.reduceLE, Int.reduceEq, Int.reduceToNat, Int.reduceAdd, Int.reduceSub, Int.reduceMul, reduceCtorEq, ↓reduceIte]; done) | (simp only [↓gaW, ↓gaV, ↓gaC, ↓gaN, gaP, Nat.reduceEqDiff, Nat.reduceLeDiff, Nat.reduceAdd, Nat.reduceSub, Nat.reduceMul, Int.reduceLT, Int.reduceLE, Int.reduceEq, Int.reduceToNat, Int.reduceAdd, Int.reduceSub, Int.reduceMul, reduceCtorEq, ↓reduceIte]; rfl)) (by first | (simp only [↓gaW, ↓gaV, ↓gaC, ↓gaN, gaP, Nat.reduceEqDiff, Nat.reduceLeDiff, Nat.reduceAdd, Nat.reduceSub, Nat.reduceMul, Int.reduceLT, Int.reduceLE, Int.reduceEq, Int.reduceToNat, Int.reduceAdd, Int.reduceSub, Int.reduceMul, reduceCtorEq, ↓reduceIte]; done) | (simp only [↓gaW, ↓gaV, ↓gaC, ↓gaN, gaP, Nat.reduceEqDiff, Nat.reduceLeDiff, Nat.reduceAdd, Nat.reduceSub, Nat.reduceMul, Int.reduceLT, Int.reduceLE, Int.reduceEq, Int.reduceToNat, Int.reduceAdd, Int.reduceSub, Int.reduceMul, reduceCtorEq, ↓reduceIte]; rfl)) (by simp only [upd_e, if_true]) (by omega) (fun p hp => by rw [ext _ _ p (by omega), k6 p (by omega), hZ p (by omega), hF p hp]) ⟨_, rfl, ?_⟩
    have r7 : RowL (nx + 1) x6 g6 1 A6 (1 + n) ((UInt8.ofNat k :: l).map u8V) := r6
    exact NodeIs.leaf (by omega) ((r7.keep (Nat.le_refl _) fun p hp _ => ext _ _ p (by omega)).wid (by omega)) (Nat.le_refl _)
end
end Go.Ga

/- Truths, and the bits of an element. -/
namespace Go.Ga
open Go Go.Proofs
set_option linter.unusedSimpArgs false
set_option linter.unusedVariables false
set_option maxRecDepth 100000
attribute [local irreducible] appendK

def boolE (is : Bool) : Fo.El := ⟨1, [if is then 255 else 0], .nil⟩
noncomputable def trueR (x : Fo.El) : Bool × Nat := open Classical in if x = boolE true then (true, 0) else if x = boolE false then (false, 0) else (false, 2)
noncomputable def ofR (x : Fo.El) : List UInt8 × Int × Nat := open Classical in if x.b ≠ [] ∧ bitsR x.b.tail (8 * (x.b.tail.length : Int) - (x.b.headD 0).toNat) = .ok x then (x.b.tail, 8 * (x.b.tail.length : Int) - (x.b.headD 0).toNat, 0) else ([], 0, 2)
theorem boolE_ws (is : Bool) : (boolE is).f.ws ≤ 2 := by cases is <;> decide
theorem bitsR_k {l : List UInt8} {many : Int} {y : Fo.El} (h : bitsR l many = .ok y) : y.k = .nil := by
  unfold bitsR at h
  split at h
  · injection h with h; rw [← h]
  · cases h
theorem bitsR_ws {l : List UInt8} {many : Int} {y : Fo.El} (h : bitsR l many = .ok y) : y.f.ws ≤ l.length + 2 := by
  unfold bitsR at h
  split at h
  · injection h with h; rw [← h]
    show 1 + (_ :: l).length + 0 + 0 ≤ _
    simp only [List.length_cons]; omega
  · cases h

section
variable {nx : Nat} {gt : Nat → Option Blk}



theorem ct_Bool (is : Bool) : Ct Tryd.prog 20 [.bool is] nx gt fun v x g => NodeIs nx x g v (boolE is) := by
  refine Ct.of hmx r_scalar_Bool (by simp [c_scalar_Bool]) fun b hb => ?_
  have hF : ∀ q, q < nx → upd gt nx (some (.cells [Value.int .i64 0, .slice none 0 0, .slice none 0 0] false)) q = gt q := fun q hq => by simp only [upd_e]; rw [if_neg (by omega)]
  have hb0 : upd gt nx (some (.cells [Value.int .i64 0, .slice none 0 0, .slice none 0 0] false)) nx = some (.cells [Value.int .i64 0, .slice none 0 0, .slice none 0 0] false) := by simp only [upd_e, if_true]
  have hZ : ∀ (v : Value) p, p < nx + 1 → upd (upd gt nx (some (.cells [Value.int .i64 0, .slice none 0 0, .slice none 0 0] false))) (nx + 1) (some (.cells [v] false)) p = upd gt nx (some (.cells [Value.int .i64 0, .slice none 0 0, .slice none 0 0] false)) p := fun v p hp => by rw [upd_e, if_neg (by omega)]
  have ext : ∀ (g : Nat → Option Blk) (cs : List Value), (∀ p, p ≠ nx → upd g nx (some (.cells cs false)) p = g p) := fun g cs p hp => by simp only [upd_e]; rw [if_neg hp]
  have hnn : (nx = nx + 1) = False := by simp
  cases is with
  | true =>
    simp only [c_scalar_Bool, ↓gaW, ↓gaV, ↓gaC, ↓gaN, gaP, Nat.reduceEqDiff, Nat.reduceLeDiff, Nat.reduceAdd, Nat.reduceSub, Nat.reduceMul, Int.reduceLT, Int.reduceLE, Int.reduceEq, Int.reduceToNat, Int.reduceAdd, Int.reduceSub, Int.reduceMul, reduceCtorEq, ↓reduceIte, List.getD_cons_zero, List.getD_cons_succ, fillL, splice, List.take_zero, List.drop_zero, List.drop_succ_cons, List.take_succ_cons, List.drop_nil, List.take_nil, gaU, hnn]
    repeat refine And.intro (by omega) ?_
    refine And.intro (node_cells _ _ _ _ _ _ _) ?_
    refine end_nd (q := nx) (t := 1) (B := some ⟨nx + 1, 0, none⟩) (m := 1) (d := 1) (A := none) (n := 0) (c := 0) (ro := false) (by first | (simp only [↓gaW, ↓gaV, ↓gaC, ↓gaN, gaP, Nat.reduceEqDiff, Nat.reduceLeDiff, Nat.reduceAdd, Nat.reduceSub, Nat.reduceMul, Int.reduceLT, Int.reduceLE, Int.reduceEq, Int.reduceToNat, Int.reduceAdd, Int.reduceSub, Int.reduceMul, reduceCtorEq, ↓reduceIte]; done) | (simp only [↓gaW, ↓gaV, ↓gaC, ↓gaN, gaP, Nat.reduceEqDiff, Nat.reduceLeDiff, Nat.reduceAdd, Nat.reduceSub, Nat.reduceMul, Int.reduceLT, Int.reduceLE, Int.reduceEq, Int.reduceToNat, Int.reduceAdd, Int.reduceSub, Int.reduceMul, reduceCtorEq, ↓reduceIte]; rfl)) (by simp only [upd_e, if_true]) (by omega) (fun p hp => by rw [ext _ _ p (by omega), hZ _ p (by omega), hF p hp]) ?_
    refine NodeIs.leaf (l := [255]) (by omega) ⟨?_, fun _ a ha => by injection ha with ha; subst ha; show nx ≤ nx + 1; omega⟩ (Nat.le_refl _)
    exact ⟨fun a h => by injection h with h; subst h; exact .inl rfl, rfl, fun _ => ⟨⟨nx + 1, 0, none⟩, [u8V 255], false, rfl, Nat.lt_succ_self _, by rw [ext _ _ (nx + 1) (by omega), upd_e, if_pos rfl]; rfl, by simp, fun i hi => by rw [Nat.zero_add]; rfl⟩⟩
  | false =>
    simp only [c_scalar_Bool, ↓gaW, ↓gaV, ↓gaC, ↓gaN, gaP, Nat.reduceEqDiff, Nat.reduceLeDiff, Nat.reduceAdd, Nat.reduceSub, Nat.reduceMul, Int.reduceLT, Int.reduceLE, Int.reduceEq, Int.reduceToNat, Int.reduceAdd, Int.reduceSub, Int.reduceMul, reduceCtorEq, ↓reduceIte, List.getD_cons_zero, List.getD_cons_succ, fillL, splice, List.take_zero, List.drop_zero, List.drop_succ_cons, List.take_succ_cons, List.drop_nil, List.take_nil, gaU, hnn]
    repeat refine And.intro (by omega) ?_
    refine And.intro (node_cells _ _ _ _ _ _ _) ?_
    refine end_nd (q := nx) (t := 1) (B := some ⟨nx + 1, 0, none⟩) (m := 1) (d := 1) (A := none) (n := 0) (c := 0) (ro := false) (by first | (simp only [↓gaW, ↓gaV, ↓gaC, ↓gaN, gaP, Nat.reduceEqDiff, Nat.reduceLeDiff, Nat.reduceAdd, Nat.reduceSub, Nat.reduceMul, Int.reduceLT, Int.reduceLE, Int.reduceEq, Int.reduceToNat, Int.reduceAdd, Int.reduceSub, Int.reduceMul, reduceCtorEq, ↓reduceIte]; done) | (simp only [↓gaW, ↓gaV, ↓gaC, ↓gaN, gaP, Nat.reduceEqDiff, Nat.reduceLeDiff, Nat.reduceAdd, Nat.reduceSub, Nat.reduceMul, Int.reduceLT, Int.reduceLE, Int.reduceEq, Int.reduceToNat, Int.reduceAdd, Int.reduceSub, Int.reduceMul, reduceCtorEq, ↓reduceIte]; rfl)) (by simp only [upd_e, if_true]) (by omega) (fun p hp => by rw [ext _ _ p (by omega), hZ _ p (by omega), hF p hp]) ?_
    refine NodeIs.leaf (l := [0]) (by omega) ⟨?_, fun _ a ha => by injection ha with ha; subst ha; show nx ≤ nx + 1; omega⟩ (Nat.le_refl _)
    exact ⟨fun a h => by injection h with h; subst h; exact .inl rfl, rfl, fun _ => ⟨⟨nx + 1, 0, none⟩, [u8V 0], false, rfl, Nat.lt_succ_self _, by rw [ext _ _ (nx + 1) (by omega), upd_e, if_pos rfl]; rfl, by simp, fun i hi => by rw [Nat.zero_add]; rfl⟩⟩
theorem ct_True1 {q : Nat} {ro is : Bool} (hq : q < nx) (hg : gt q = some (.cells [.bool is] ro)) : Ct Tryd.prog 86 [.pointer (some ⟨q, 0, none⟩)] nx gt fun v x g => NErr nx x g v (.ok (boolE is)) := by
  refine Ct.of hmx r_scalar_True_1 (by simp [c_scalar_True_1]) fun b hb => ?_
  have hF : ∀ q, q < nx → upd gt nx (some (.cells [Value.int .i64 0, .slice none 0 0, .slice none 0 0] false)) q = gt q := fun q hq => by simp only [upd_e]; rw [if_neg (by omega)]
  have hb0 : upd gt nx (some (.cells [Value.int .i64 0, .slice none 0 0, .slice none 0 0] false)) nx = some (.cells [Value.int .i64 0, .slice none 0 0, .slice none 0 0] false) := by simp only [upd_e, if_true]
  have hqn : (q = nx) = False := by simp; omega
  simp only [c_scalar_True_1, ↓gaW, ↓gaV, ↓gaC, ↓gaN, gaP, Nat.reduceEqDiff, Nat.reduceLeDiff, Nat.reduceAdd, Nat.reduceSub, Nat.reduceMul, Int.reduceLT, Int.reduceLE, Int.reduceEq, Int.reduceToNat, Int.reduceAdd, Int.reduceSub, Int.reduceMul, reduceCtorEq, ↓reduceIte, List.getD_cons_zero, List.getD_cons_succ, fillL, splice, List.take_zero, List.drop_zero, List.drop_succ_cons, List.take_succ_cons, List.drop_nil, List.take_nil, gaU, hqn, hg, List.getD_cons_zero]
  generalize upd gt nx (some (.cells [Value.int .i64 0, .slice none 0 0, .slice none 0 0] false)) = g0 at *
  repeat refine And.intro (by omega) ?_
  refine callK_of (ct_Bool is) (fun v x1 g1 l1 k1 hC => ?_) (by omega)
  obtain ⟨B, m, d, A, n', c, ks, rfl, hN⟩ := hC
  have F1 : ∀ p, p < nx → g1 p = gt p := fun p hp => by rw [k1 p (by omega), hF p hp]
  have hb1 : g1 nx = some (.cells [Value.int .i64 0, .slice none 0 0, .slice none 0 0] false) := by rw [k1 nx (by omega), hb0]
  simp only [↓gaW, ↓gaV, ↓gaC, ↓gaN, gaP, Nat.reduceEqDiff, Nat.reduceLeDiff, Nat.reduceAdd, Nat.reduceSub, Nat.reduceMul, Int.reduceLT, Int.reduceLE, Int.reduceEq, Int.reduceToNat, Int.reduceAdd, Int.reduceSub, Int.reduceMul, reduceCtorEq, ↓reduceIte, List.getD_cons_zero, List.getD_cons_succ, fillL, splice, List.take_zero, List.drop_zero, List.drop_succ_cons, List.take_succ_cons, List.drop_nil, List.take_nil, hb1]
  refine And.intro (by omega) (And.intro (node_cells _ _ _ _ _ _ _) ?_)
  have ext : ∀ (cs : List Value), (∀ p, p ≠ nx → upd g1 nx (some (.cells cs false)) p = g1 p) := fun cs p hp => by simp only [upd_e]; rw [if_neg hp]
  rw [end_r, res_cN (by first | (simp only [↓gaW, ↓gaV, ↓gaC, ↓gaN, gaP, Nat.reduceEqDiff, Nat.reduceLeDiff, Nat.reduceAdd, Nat.reduceSub, Nat.reduceMul, Int.reduceLT, Int.reduceLE, Int.reduceEq, Int.reduceToNat, Int.reduceAdd, Int.reduceSub, Int.reduceMul, reduceCtorEq, ↓reduceIte]; done) | (simp only [↓gaW, ↓gaV, ↓gaC, ↓gaN, gaP, Nat.reduceEqDiff, Nat.reduceLeDiff, Nat.reduceAdd, Nat.reduceSub, Nat.reduceMul, Int.reduceLT, Int.reduceLE, Int.reduceEq, Int.reduceToNat, Int.reduceAdd, Int.reduceSub, Int.reduceMul, reduceCtorEq, ↓reduceIte]; rfl)) (by simp only [upd_e, if_true]; rfl) (by simp)]
  simp only [res_t, res_nil, Option.map_some, asO_e, one2, List.drop_zero, ↓gaW, ↓gaV, ↓gaC, ↓gaN, gaP, Nat.reduceEqDiff, Nat.reduceLeDiff, Nat.reduceAdd, Nat.reduceSub, Nat.reduceMul, Int.reduceLT, Int.reduceLE, Int.reduceEq, Int.reduceToNat, Int.reduceAdd, Int.reduceSub, Int.reduceMul, reduceCtorEq, ↓reduceIte, List.getD_cons_zero, List.getD_cons_succ, fillL, splice, List.take_zero, List.drop_zero, List.drop_succ_cons, List.take_succ_cons, List.drop_nil, List.take_nil]
  refine ⟨by omega, fun p hp => by rw [if_neg (by omega), F1 p hp], _, rfl, B, m, d, A, n', c, ks, rfl, (hN.keep (Nat.le_refl _) fun p hp _ => ext _ p (by omega)).wid (by omega)⟩
theorem ct_justT {x : Fo.El} {w : Bool} {is : Bool} {clo : Nat} {caps : Array Value} {r : Except Nat Fo.El} {B : Option Addr} {m d : Nat} {A : Option Addr} {n c : Nat} {ks : List Value} (h : NdR nx gt x B m d A n c ks) (hxw : x.f.ws < 1000000000) (hyw : ∀ y, r = .ok y → y.f.ws < 1000000000)
    (hclo : ∀ (nx' : Nat) (g : Nat → Option Blk), nx ≤ nx' → (∀ p, p < nx → g p = gt p) → Ct Tryd.prog clo caps.toList nx' g fun v x g => NErr nx' x g v r) :
    Ct Tryd.prog 85 [.bool w, .bool is, nodeV x.t B m d A n c, .func (.func clo) #[] caps] nx gt fun v _ _ => ∃ b : Bool, (b = true ↔ justP is x r) ∧ v = if b then .tuple #[.bool w, .int .i64 0] else .tuple #[.bool false, .int .i64 2] := by
  refine Ct.of hmx r_scalar_just_bool_ (by simp [c_scalar_just_bool_]) fun b hb => ?_
  have hF : ∀ q, q < nx → upd gt nx (some (.cells (nodeL x.t B m d A n c) false)) q = gt q := fun q hq => by simp only [upd_e]; rw [if_neg (by omega)]
  have hb0 : upd gt nx (some (.cells (nodeL x.t B m d A n c) false)) nx = some (.cells (nodeL x.t B m d A n c) false) := by simp only [upd_e, if_true]
  cases is with
  | false =>
    simp only [c_scalar_just_bool_, ↓gaW, ↓gaV, ↓gaC, ↓gaN, gaP, Nat.reduceEqDiff, Nat.reduceLeDiff, Nat.reduceAdd, Nat.reduceSub, Nat.reduceMul, Int.reduceLT, Int.reduceLE, Int.reduceEq, Int.reduceToNat, Int.reduceAdd, Int.reduceSub, Int.reduceMul, reduceCtorEq, ↓reduceIte, gaE, implies_true, Nat.le_refl, Int.sub_zero, Nat.sub_zero, Int.le_refl, true_or, or_true, List.getD_cons_zero, List.getD_cons_succ, fillL, splice, List.take_zero, List.drop_zero, List.drop_succ_cons, List.take_succ_cons, List.drop_nil, List.take_nil, gaU, Bool.not_false]
    exact ⟨by omega, hF, false, by simp [justP], rfl⟩
  | true =>
    simp only [c_scalar_just_bool_, ↓gaW, ↓gaV, ↓gaC, ↓gaN, gaP, Nat.reduceEqDiff, Nat.reduceLeDiff, Nat.reduceAdd, Nat.reduceSub, Nat.reduceMul, Int.reduceLT, Int.reduceLE, Int.reduceEq, Int.reduceToNat, Int.reduceAdd, Int.reduceSub, Int.reduceMul, reduceCtorEq, ↓reduceIte, List.getD_cons_zero, List.getD_cons_succ, fillL, splice, List.take_zero, List.drop_zero, List.drop_succ_cons, List.take_succ_cons, List.drop_nil, List.take_nil, gaU, Bool.not_true]
    generalize upd gt nx (some (.cells (nodeL x.t B m d A n c) false)) = g0 at *
    refine callK_of (hclo (nx + 1) g0 (by omega) hF) (fun v x1 g1 l1 k1 hC => ?_) (by omega)
    have F1 : ∀ p, p < nx → g1 p = gt p := fun p hp => by rw [k1 p (by omega), hF p hp]
    have hb1 : g1 nx = some (.cells (nodeL x.t B m d A n c) false) := by rw [k1 nx (by omega), hb0]
    have hnx1 : (nx = x1) = False := by simp; omega
    cases r with
    | error e =>
      obtain ⟨rfl, he⟩ := hC
      have he0 : ¬ (e : Int) = 0 := by omega
      simp only [↓gaW, ↓gaV, ↓gaC, ↓gaN, gaP, Nat.reduceEqDiff, Nat.reduceLeDiff, Nat.reduceAdd, Nat.reduceSub, Nat.reduceMul, Int.reduceLT, Int.reduceLE, Int.reduceEq, Int.reduceToNat, Int.reduceAdd, Int.reduceSub, Int.reduceMul, reduceCtorEq, ↓reduceIte, gaE, implies_true, Nat.le_refl, Int.sub_zero, Nat.sub_zero, Int.le_refl, true_or, or_true, List.getD_cons_zero, List.getD_cons_succ, fillL, splice, List.take_zero, List.drop_zero, List.drop_succ_cons, List.take_succ_cons, List.drop_nil, List.take_nil, gaU, he0, decide_false, Bool.not_false]
      repeat refine And.intro (by omega) ?_
      refine And.intro (node_cells _ _ _ _ _ _ _) ?_
      refine ⟨by omega, fun p hp => by rw [if_neg (by omega), if_neg (by omega), F1 p hp], false, by simp [justP], rfl⟩
    | ok y =>
      obtain ⟨u, rfl, B', m', d', A', n', c', ks', rfl, hN⟩ := hC
      obtain ⟨g2, e2⟩ : ∃ g', g' = upd (upd g1 x1 (some (.cells [Value.int .i64 0, .slice none 0 0, .slice none 0 0] false))) x1 (some (.cells (nodeL y.t B' m' d' A' n' c') false)) := ⟨_, rfl⟩
      have G2 : ∀ p, p < x1 → g2 p = g1 p := fun p hp => by rw [e2]; simp only [upd_e]; rw [if_neg (by omega), if_neg (by omega)]
      have hb2 : g2 nx = some (.cells (nodeL x.t B m d A n c) false) := by rw [G2 nx (by omega), hb1]
      have hy := hyw y rfl
      simp only [↓gaW, ↓gaV, ↓gaC, ↓gaN, gaP, Nat.reduceEqDiff, Nat.reduceLeDiff, Nat.reduceAdd, Nat.reduceSub, Nat.reduceMul, Int.reduceLT, Int.reduceLE, Int.reduceEq, Int.reduceToNat, Int.reduceAdd, Int.reduceSub, Int.reduceMul, reduceCtorEq, ↓reduceIte, List.getD_cons_zero, List.getD_cons_succ, fillL, splice, List.take_zero, List.drop_zero, List.drop_succ_cons, List.take_succ_cons, List.drop_nil, List.take_nil, gaU, hnx1, hb1, decide_true, decide_false, Bool.not_true]
      repeat refine And.intro (by omega) ?_
      refine And.intro (node_cells _ _ _ _ _ _ _) ?_
      repeat refine And.intro (by omega) ?_
      rw [← e2]; clear e2
      refine callK_of (ct_same (hN.r.keep (x' := x1 + 1) (by omega) G2) (h.keep (x' := x1 + 1) (by omega) fun p hp => by rw [G2 p (by omega), F1 p hp]) hy hxw) (fun v x3 g3 l3 k3 hC => ?_) (by omega)
      obtain ⟨s, rfl, hs⟩ := hC
      have F3 : ∀ p, p < nx → g3 p = gt p := fun p hp => by rw [k3 p (by omega), G2 p (by omega), F1 p hp]
      cases s with
      | false =>
        simp only [↓gaW, ↓gaV, ↓gaC, ↓gaN, gaP, Nat.reduceEqDiff, Nat.reduceLeDiff, Nat.reduceAdd, Nat.reduceSub, Nat.reduceMul, Int.reduceLT, Int.reduceLE, Int.reduceEq, Int.reduceToNat, Int.reduceAdd, Int.reduceSub, Int.reduceMul, reduceCtorEq, ↓reduceIte, gaE, implies_true, Nat.le_refl, Int.sub_zero, Nat.sub_zero, Int.le_refl, true_or, or_true, List.getD_cons_zero, List.getD_cons_succ, fillL, splice, List.take_zero, List.drop_zero, List.drop_succ_cons, List.take_succ_cons, List.drop_nil, List.take_nil, Bool.not_false]
        refine ⟨by omega, F3, false, ?_, rfl⟩
        simp only [Bool.false_eq_true, false_iff] at hs ⊢
        rintro ⟨_, z, hz, hal⟩
        injection hz with hz; subst hz
        exact hs hal
      | true =>
        simp only [↓gaW, ↓gaV, ↓gaC, ↓gaN, gaP, Nat.reduceEqDiff, Nat.reduceLeDiff, Nat.reduceAdd, Nat.reduceSub, Nat.reduceMul, Int.reduceLT, Int.reduceLE, Int.reduceEq, Int.reduceToNat, Int.reduceAdd, Int.reduceSub, Int.reduceMul, reduceCtorEq, ↓reduceIte, gaE, implies_true, Nat.le_refl, Int.sub_zero, Nat.sub_zero, Int.le_refl, true_or, or_true, List.getD_cons_zero, List.getD_cons_succ, fillL, splice, List.take_zero, List.drop_zero, List.drop_succ_cons, List.take_succ_cons, List.drop_nil, List.take_nil, Bool.not_true]
        exact ⟨by omega, F3, true, by simp only [true_iff]; exact ⟨rfl, y, rfl, hs.1 rfl⟩, rfl⟩
end
end Go.Ga

/- The truth of an element. -/
namespace Go.Ga
open Go Go.Proofs
set_option linter.unusedSimpArgs false
set_option linter.unusedVariables false
set_option maxRecDepth 100000
attribute [local irreducible] appendK

def isT (l : List UInt8) : Bool := match l with | [] => false | a :: _ => decide (¬ (a.toNat : Int) = 0)
theorem isT_bool (is : Bool) : isT (boolE is).b = is := by cases is <;> decide
theorem trueR_is (x : Fo.El) : ∀ is, isT x.b = is → (x = boolE is → trueR x = (is, 0)) ∧ (¬ x = boolE is → trueR x = (false, 2)) := by
  intro is his
  have key : ∀ w, x = boolE w → w = is := fun w hw => by rw [← his, hw, isT_bool]
  unfold trueR
  constructor
  · rintro rfl
    cases is with
    | true => exact if_pos rfl
    | false => rw [if_neg (fun h => by have := key _ h; cases this), if_pos rfl]
  · intro hn
    rw [if_neg (fun h => hn (by rw [← key _ h]; exact h)), if_neg (fun h => hn (by rw [← key _ h]; exact h))]

section
variable {nx : Nat} {gt : Nat → Option Blk}

theorem ct_True {x : Fo.El} {B : Option Addr} {m d : Nat} {A : Option Addr} {n c : Nat} {ks : List Value} (h : NdR nx gt x B m d A n c ks) (hxw : x.f.ws < 900000) :
    Ct Tryd.prog 60 [nodeV x.t B m d A n c] nx gt fun v _ _ => v = .tuple #[.bool (trueR x).1, .int .i64 ((trueR x).2 : Nat)] := by
  refine Ct.of hmx r_scalar_True (by simp [c_scalar_True]) fun b hb => ?_
  have hF : ∀ q, q < nx → upd gt nx (some (.cells (nodeL x.t B m d A n c) false)) q = gt q := fun q hq => by simp only [upd_e]; rw [if_neg (by omega)]
  have hb0 : upd gt nx (some (.cells (nodeL x.t B m d A n c) false)) nx = some (.cells (nodeL x.t B m d A n c) false) := by simp only [upd_e, if_true]
  have xw : x.f.ws = 1 + x.b.length + x.k.ws := by simp only [Fo.El.f, Fo.ws]; omega
  have lw := Fo.len_ws x.k
  have hl := h.blen
  have hkl := h.len
  have hnn : (nx = nx + 1) = False := by simp
  cases hxb : x.b with
  | nil =>
    have hm0 : m = 0 := by rw [← hl, hxb]; rfl
    have hm : ¬ (0 : Int) < (m : Int) := by omega
    simp only [c_scalar_True, ↓gaW, ↓gaV, ↓gaC, ↓gaN, gaP, Nat.reduceEqDiff, Nat.reduceLeDiff, Nat.reduceAdd, Nat.reduceSub, Nat.reduceMul, Int.reduceLT, Int.reduceLE, Int.reduceEq, Int.reduceToNat, Int.reduceAdd, Int.reduceSub, Int.reduceMul, reduceCtorEq, ↓reduceIte, List.getD_cons_zero, List.getD_cons_succ, fillL, splice, List.take_zero, List.drop_zero, List.drop_succ_cons, List.take_succ_cons, List.drop_nil, List.take_nil, gaU, hm, decide_false, hnn]
    generalize upd gt nx (some (.cells (nodeL x.t B m d A n c) false)) = g0 at *
    repeat refine And.intro (by omega) ?_
    refine And.intro (all1 rfl) ?_
    repeat refine And.intro (by omega) ?_
    obtain ⟨g2, e2, G2, hb2⟩ := boxed (g := g0) (x := nx + 1) (cs := [Value.bool false]) (ds := [Value.bool false])
    rw [← e2]; clear e2
    have hb3 : g2 nx = some (.cells (nodeL x.t B m d A n c) false) := by rw [G2 nx (by omega), hb0]
    have hN2 := h.keep (x' := nx + 2) (g := g2) (by omega) fun p hp => by rw [G2 p (by omega), hF p hp]
    refine callK_of (ct_justT (r := .ok (boolE false)) hN2 (by omega) (fun y' hy' => by injection hy' with hy'; subst hy'; have := boolE_ws false; omega) (fun nx' g h1 h2 => ct_True1 (q := nx + 1) (by omega) (by rw [h2 (nx + 1) (by omega), hb2]))) (fun v x3 g3 l3 k3 hC => ?_) (by omega)
    obtain ⟨bb, hbb, rfl⟩ := hC
    have F3 : ∀ p, p < nx → g3 p = gt p := fun p hp => by rw [k3 p (by omega), G2 p (by omega), hF p hp]
    have hj : justP true x (.ok (boolE false)) ↔ x = boolE false := by
      unfold justP
      constructor
      · rintro ⟨_, z, h2, h3⟩
        injection h2 with h2; subst h2
        exact (alike_eq rfl).1 h3
      · intro h1
        exact ⟨rfl, _, rfl, (alike_eq rfl).2 h1⟩
    have he : trueR x = if bb = true then (false, 0) else (false, 2) := by
      have := trueR_is x
      have his : isT x.b = false := by rw [hxb]; rfl
      cases bb with
      | true => rw [if_pos rfl]; exact (this _ his).1 (hj.1 (hbb.1 rfl))
      | false => exact (this _ his).2 fun hc => by have := hbb.2 (hj.2 hc); cases this
    rw [he]
    cases bb with
    | true =>
      simp only [↓gaW, ↓gaV, ↓gaC, ↓gaN, gaP, Nat.reduceEqDiff, Nat.reduceLeDiff, Nat.reduceAdd, Nat.reduceSub, Nat.reduceMul, Int.reduceLT, Int.reduceLE, Int.reduceEq, Int.reduceToNat, Int.reduceAdd, Int.reduceSub, Int.reduceMul, reduceCtorEq, ↓reduceIte, gaE, implies_true, Nat.le_refl, Int.sub_zero, Nat.sub_zero, Int.le_refl, true_or, or_true, List.getD_cons_zero, List.getD_cons_succ, fillL, splice, List.take_zero, List.drop_zero, List.drop_succ_cons, List.take_succ_cons, List.drop_nil, List.take_nil, if_true]
      repeat refine And.intro (by omega) ?_
      first | exact F3 | exact ⟨F3, rfl⟩
    | false =>
      simp only [↓gaW, ↓gaV, ↓gaC, ↓gaN, gaP, Nat.reduceEqDiff, Nat.reduceLeDiff, Nat.reduceAdd, Nat.reduceSub, Nat.reduceMul, Int.reduceLT, Int.reduceLE, Int.reduceEq, Int.reduceToNat, Int.reduceAdd, Int.reduceSub, Int.reduceMul, reduceCtorEq, ↓reduceIte, gaE, implies_true, Nat.le_refl, Int.sub_zero, Nat.sub_zero, Int.le_refl, true_or, or_true, List.getD_cons_zero, List.getD_cons_succ, fillL, splice, List.take_zero, List.drop_zero, List.drop_succ_cons, List.take_succ_cons, List.drop_nil, List.take_nil, Bool.false_eq_true, if_false]
      repeat refine And.intro (by omega) ?_
      first | exact F3 | exact ⟨F3, rfl⟩
  | cons a t =>
    have hm : (0 : Int) < (m : Int) := by rw [hxb, List.length_cons] at hl; omega
    have hm' : 0 < m := by omega
    obtain ⟨a', cl, ro, e1, r2, r3, r4, r5⟩ := h.body.cells hm'
    subst e1
    have c0 : cl.getD a'.off undef = .int .u8 (a.toNat : Nat) := by
      have := r5 0 (by omega)
      rw [Nat.add_zero] at this
      rw [this, hxb]; rfl
    have hqn : (a'.block = nx) = False := by simp; omega
    simp only [c_scalar_True, ↓gaW, ↓gaV, ↓gaC, ↓gaN, gaP, Nat.reduceEqDiff, Nat.reduceLeDiff, Nat.reduceAdd, Nat.reduceSub, Nat.reduceMul, Int.reduceLT, Int.reduceLE, Int.reduceEq, Int.reduceToNat, Int.reduceAdd, Int.reduceSub, Int.reduceMul, reduceCtorEq, ↓reduceIte, List.getD_cons_zero, List.getD_cons_succ, fillL, splice, List.take_zero, List.drop_zero, List.drop_succ_cons, List.take_succ_cons, List.drop_nil, List.take_nil, gaU, hm, decide_true, hnn, hqn, r3, c0]
    obtain ⟨is, hisd⟩ : ∃ is : Bool, is = decide (¬ (a.toNat : Int) = 0) := ⟨_, rfl⟩
    rw [← hisd]
    generalize upd gt nx (some (.cells (nodeL x.t (some a') m d A n c) false)) = g0 at *
    repeat refine And.intro (by omega) ?_
    refine And.intro (all1 rfl) ?_
    repeat refine And.intro (by omega) ?_
    obtain ⟨g2, e2, G2, hb2⟩ := boxed (g := g0) (x := nx + 1) (cs := [Value.bool false]) (ds := [Value.bool is])
    rw [← e2]; clear e2
    have hb3 : g2 nx = some (.cells (nodeL x.t (some a') m d A n c) false) := by rw [G2 nx (by omega), hb0]
    have hN2 := h.keep (x' := nx + 2) (g := g2) (by omega) fun p hp => by rw [G2 p (by omega), hF p hp]
    refine callK_of (ct_justT (r := .ok (boolE is)) hN2 (by omega) (fun y' hy' => by injection hy' with hy'; subst hy'; have := boolE_ws is; omega) (fun nx' g h1 h2 => ct_True1 (q := nx + 1) (by omega) (by rw [h2 (nx + 1) (by omega), hb2]))) (fun v x3 g3 l3 k3 hC => ?_) (by omega)
    obtain ⟨bb, hbb, rfl⟩ := hC
    have F3 : ∀ p, p < nx → g3 p = gt p := fun p hp => by rw [k3 p (by omega), G2 p (by omega), hF p hp]
    have hj : justP true x (.ok (boolE is)) ↔ x = boolE is := by
      unfold justP
      constructor
      · rintro ⟨_, z, h2, h3⟩
        injection h2 with h2; subst h2
        exact (alike_eq rfl).1 h3
      · intro h1
        exact ⟨rfl, _, rfl, (alike_eq rfl).2 h1⟩
    have he : trueR x = if bb = true then (is, 0) else (false, 2) := by
      have := trueR_is x
      have his : isT x.b = is := by rw [hxb, hisd]; rfl
      cases bb with
      | true => rw [if_pos rfl]; exact (this _ his).1 (hj.1 (hbb.1 rfl))
      | false => exact (this _ his).2 fun hc => by have := hbb.2 (hj.2 hc); cases this
    rw [he]
    cases bb with
    | true =>
      simp only [↓gaW, ↓gaV, ↓gaC, ↓gaN, gaP, Nat.reduceEqDiff, Nat.reduceLeDiff, Nat.reduceAdd, Nat.reduceSub, Nat.reduceMul, Int.reduceLT, Int.reduceLE, Int.reduceEq, Int.reduceToNat, Int.reduceAdd, Int.reduceSub, Int.reduceMul, reduceCtorEq, ↓reduceIte, gaE, implies_true, Nat.le_refl, Int.sub_zero, Nat.sub_zero, Int.le_refl, true_or, or_true, List.getD_cons_zero, List.getD_cons_succ, fillL, splice, List.take_zero, List.drop_zero, List.drop_succ_cons, List.take_succ_cons, List.drop_nil, List.take_nil, if_true]
      repeat refine And.intro (by omega) ?_
      first | exact F3 | exact ⟨F3, rfl⟩
    | false =>
      simp only [↓gaW, ↓gaV, ↓gaC, ↓gaN, gaP, Nat.reduceEqDiff, Nat.reduceLeDiff, Nat.reduceAdd, Nat.reduceSub, Nat.reduceMul, Int.reduceLT, Int.reduceLE, Int.reduceEq, Int.reduceToNat, Int.reduceAdd, Int.reduceSub, Int.reduceMul, reduceCtorEq, ↓reduceIte, gaE, implies_true, Nat.le_refl, Int.sub_zero, Nat.sub_zero, Int.le_refl, true_or, or_true, List.getD_cons_zero, List.getD_cons_succ, fillL, splice, List.take_zero, List.drop_zero, List.drop_succ_cons, List.take_succ_cons, List.drop_nil, List.take_nil, Bool.false_eq_true, if_false]
      repeat refine And.intro (by omega) ?_
      first | exact F3 | exact ⟨F3, rfl⟩

end
end Go.Ga

/- The document's truth; the bits of an element. -/
namespace Go.Ga
open Go Go.Proofs
set_option linter.unusedSimpArgs false
set_option linter.unusedVariables false
set_option maxRecDepth 100000
attribute [local irreducible] appendK

def OErr (nx : Nat) (g : Nat → Option Blk) (v : Value) (r : List UInt8 × Int × Nat) : Prop := ∃ u, v = .tuple #[u, .int .i64 r.2.1, .int .i64 (r.2.2 : Nat)] ∧ BySl nx g u r.1

section
variable {nx : Nat} {gt : Nat → Option Blk}


theorem ct_Of1 {q q2 : Nat} {ro ro2 : Bool} {A0 : Option Addr} {n0 c0 : Nat} {l : List UInt8} {many : Int} (hq : q < nx) (hg : gt q = some (.cells [.slice A0 n0 c0] ro)) (hq2 : q2 < nx) (hg2 : gt q2 = some (.cells [.int .i64 many] ro2)) (hA : Row nx gt 1 A0 n0 (l.map u8V)) (hc : n0 ≤ c0) (hn : n0 ≤ 1000000) (hm : -9223372036854775808 ≤ many ∧ many ≤ 9223372036854775807) :
    Ct Tryd.prog 88 [.pointer (some ⟨q, 0, none⟩), .pointer (some ⟨q2, 0, none⟩)] nx gt fun v x g => NErr nx x g v (bitsR l many) := by
  refine Ct.of hmx r_scalar_Of_1 (by simp [c_scalar_Of_1]) fun b hb => ?_
  have hF : ∀ q, q < nx → upd gt nx (some (.cells [Value.int .i64 0, .slice none 0 0, .slice none 0 0] false)) q = gt q := fun q hq => by simp only [upd_e]; rw [if_neg (by omega)]
  have hb0 : upd gt nx (some (.cells [Value.int .i64 0, .slice none 0 0, .slice none 0 0] false)) nx = some (.cells [Value.int .i64 0, .slice none 0 0, .slice none 0 0] false) := by simp only [upd_e, if_true]
  have hqn : (q = nx) = False := by simp; omega
  have hqn2 : (q2 = nx) = False := by simp; omega
  simp only [c_scalar_Of_1, ↓gaW, ↓gaV, ↓gaC, ↓gaN, gaP, Nat.reduceEqDiff, Nat.reduceLeDiff, Nat.reduceAdd, Nat.reduceSub, Nat.reduceMul, Int.reduceLT, Int.reduceLE, Int.reduceEq, Int.reduceToNat, Int.reduceAdd, Int.reduceSub, Int.reduceMul, reduceCtorEq, ↓reduceIte, List.getD_cons_zero, List.getD_cons_succ, fillL, splice, List.take_zero, List.drop_zero, List.drop_succ_cons, List.take_succ_cons, List.drop_nil, List.take_nil, gaU, hqn, hqn2, hg, hg2, List.getD_cons_zero]
  generalize upd gt nx (some (.cells [Value.int .i64 0, .slice none 0 0, .slice none 0 0] false)) = g0 at *
  repeat refine And.intro (by omega) ?_
  refine callK_of (ct_Bits (hA.keep (nx' := nx + 1) (by omega) hF) hc hn hm) (fun v x1 g1 l1 k1 hC => ?_) (by omega)
  have F1 : ∀ p, p < nx → g1 p = gt p := fun p hp => by rw [k1 p (by omega), hF p hp]
  have hb1 : g1 nx = some (.cells [Value.int .i64 0, .slice none 0 0, .slice none 0 0] false) := by rw [k1 nx (by omega), hb0]
  have ext : ∀ (cs : List Value), (∀ p, p ≠ nx → upd g1 nx (some (.cells cs false)) p = g1 p) := fun cs p hp => by simp only [upd_e]; rw [if_neg hp]
  cases hr : bitsR l many with
  | error e =>
    rw [hr] at hC
    obtain ⟨rfl, he⟩ := hC
    simp only [↓gaW, ↓gaV, ↓gaC, ↓gaN, gaP, Nat.reduceEqDiff, Nat.reduceLeDiff, Nat.reduceAdd, Nat.reduceSub, Nat.reduceMul, Int.reduceLT, Int.reduceLE, Int.reduceEq, Int.reduceToNat, Int.reduceAdd, Int.reduceSub, Int.reduceMul, reduceCtorEq, ↓reduceIte, List.getD_cons_zero, List.getD_cons_succ, fillL, splice, List.take_zero, List.drop_zero, List.drop_succ_cons, List.take_succ_cons, List.drop_nil, List.take_nil, hb1]
    refine And.intro (by omega) (And.intro (by omega) ?_)
    repeat refine And.intro (by omega) ?_
    refine And.intro (node_cells _ _ _ _ _ _ _) ?_
    exact end_nT (q := nx) (t := 0) (B := none) (m := 0) (d := 0) (A := none) (n := 0) (c := 0) (ro := false) (w := .int .i64 e) (by first | (simp only [↓gaW, ↓gaV, ↓gaC, ↓gaN, gaP, Nat.reduceEqDiff, Nat.reduceLeDiff, Nat.reduceAdd, Nat.reduceSub, Nat.reduceMul, Int.reduceLT, Int.reduceLE, Int.reduceEq, Int.reduceToNat, Int.reduceAdd, Int.reduceSub, Int.reduceMul, reduceCtorEq, ↓reduceIte]; done) | (simp only [↓gaW, ↓gaV, ↓gaC, ↓gaN, gaP, Nat.reduceEqDiff, Nat.reduceLeDiff, Nat.reduceAdd, Nat.reduceSub, Nat.reduceMul, Int.reduceLT, Int.reduceLE, Int.reduceEq, Int.reduceToNat, Int.reduceAdd, Int.reduceSub, Int.reduceMul, reduceCtorEq, ↓reduceIte]; rfl)) (by first | (simp only [↓gaW, ↓gaV, ↓gaC, ↓gaN, gaP, Nat.reduceEqDiff, Nat.reduceLeDiff, Nat.reduceAdd, Nat.reduceSub, Nat.reduceMul, Int.reduceLT, Int.reduceLE, Int.reduceEq, Int.reduceToNat, Int.reduceAdd, Int.reduceSub, Int.reduceMul, reduceCtorEq, ↓reduceIte]; done) | (simp only [↓gaW, ↓gaV, ↓gaC, ↓gaN, gaP, Nat.reduceEqDiff, Nat.reduceLeDiff, Nat.reduceAdd, Nat.reduceSub, Nat.reduceMul, Int.reduceLT, Int.reduceLE, Int.reduceEq, Int.reduceToNat, Int.reduceAdd, Int.reduceSub, Int.reduceMul, reduceCtorEq, ↓reduceIte]; rfl)) (by simp only [upd_e, if_true]) (by omega) (fun p hp => by rw [ext _ p (by omega), F1 p hp]) ⟨rfl, he⟩
  | ok y =>
    rw [hr] at hC
    obtain ⟨u, rfl, B, m, d, A, n, c, ks, rfl, hN⟩ := hC
    simp only [↓gaW, ↓gaV, ↓gaC, ↓gaN, gaP, Nat.reduceEqDiff, Nat.reduceLeDiff, Nat.reduceAdd, Nat.reduceSub, Nat.reduceMul, Int.reduceLT, Int.reduceLE, Int.reduceEq, Int.reduceToNat, Int.reduceAdd, Int.reduceSub, Int.reduceMul, reduceCtorEq, ↓reduceIte, List.getD_cons_zero, List.getD_cons_succ, fillL, splice, List.take_zero, List.drop_zero, List.drop_succ_cons, List.take_succ_cons, List.drop_nil, List.take_nil, hb1]
    repeat refine And.intro (by omega) ?_
    refine And.intro (node_cells _ _ _ _ _ _ _) ?_
    exact end_nT (q := nx) (t := y.t) (B := B) (m := m) (d := d) (A := A) (n := n) (c := c) (ro := false) (w := .int .i64 0) (by first | (simp only [↓gaW, ↓gaV, ↓gaC, ↓gaN, gaP, Nat.reduceEqDiff, Nat.reduceLeDiff, Nat.reduceAdd, Nat.reduceSub, Nat.reduceMul, Int.reduceLT, Int.reduceLE, Int.reduceEq, Int.reduceToNat, Int.reduceAdd, Int.reduceSub, Int.reduceMul, reduceCtorEq, ↓reduceIte]; done) | (simp only [↓gaW, ↓gaV, ↓gaC, ↓gaN, gaP, Nat.reduceEqDiff, Nat.reduceLeDiff, Nat.reduceAdd, Nat.reduceSub, Nat.reduceMul, Int.reduceLT, Int.reduceLE, Int.reduceEq, Int.reduceToNat, Int.reduceAdd, Int.reduceSub, Int.reduceMul, reduceCtorEq, ↓reduceIte]; rfl)) (by first | (simp only [↓gaW, ↓gaV, ↓gaC, ↓gaN, gaP, Nat.reduceEqDiff, Nat.reduceLeDiff, Nat.reduceAdd, Nat.reduceSub, Nat.reduceMul, Int.reduceLT, Int.reduceLE, Int.reduceEq, Int.reduceToNat, Int.reduceAdd, Int.reduceSub, Int.reduceMul, reduceCtorEq, ↓reduceIte]; done) | (simp only [↓gaW, ↓gaV, ↓gaC, ↓gaN, gaP, Nat.reduceEqDiff, Nat.reduceLeDiff, Nat.reduceAdd, Nat.reduceSub, Nat.reduceMul, Int.reduceLT, Int.reduceLE, Int.reduceEq, Int.reduceToNat, Int.reduceAdd, Int.reduceSub, Int.reduceMul, reduceCtorEq, ↓reduceIte]; rfl)) (by simp only [upd_e, if_true]) (by omega) (fun p hp => by rw [ext _ p (by omega), F1 p hp]) ⟨_, rfl, B, m, d, A, n, c, ks, rfl, (hN.keep (Nat.le_refl _) fun p hp _ => ext _ p (by omega)).wid (by omega)⟩
theorem ct_Of {x : Fo.El} {B : Option Addr} {m d : Nat} {A : Option Addr} {n c : Nat} {ks : List Value} (h : NdR nx gt x B m d A n c ks) (hxw : x.f.ws < 900000) :
    Ct Tryd.prog 61 [nodeV x.t B m d A n c] nx gt fun v x' g => OErr x' g v (ofR x) := by
  refine Ct.of hmx r_scalar_Of (by simp [c_scalar_Of]) fun b hb => ?_
  have hF : ∀ q, q < nx → upd gt nx (some (.cells (nodeL x.t B m d A n c) false)) q = gt q := fun q hq => by simp only [upd_e]; rw [if_neg (by omega)]
  have hb0 : upd gt nx (some (.cells (nodeL x.t B m d A n c) false)) nx = some (.cells (nodeL x.t B m d A n c) false) := by simp only [upd_e, if_true]
  have xw : x.f.ws = 1 + x.b.length + x.k.ws := by simp only [Fo.El.f, Fo.ws]; omega
  have lw := Fo.len_ws x.k
  have hl := h.blen
  have hkl := h.len
  cases hxb : x.b with
  | nil =>
    have hm0 : m = 0 := by rw [← hl, hxb]; rfl
    have hm : (m : Int) = 0 := by omega
    have er : ofR x = ([], 0, 2) := if_neg fun hc => hc.1 hxb
    simp only [c_scalar_Of, ↓gaW, ↓gaV, ↓gaC, ↓gaN, gaP, Nat.reduceEqDiff, Nat.reduceLeDiff, Nat.reduceAdd, Nat.reduceSub, Nat.reduceMul, Int.reduceLT, Int.reduceLE, Int.reduceEq, Int.reduceToNat, Int.reduceAdd, Int.reduceSub, Int.reduceMul, reduceCtorEq, ↓reduceIte, gaE, implies_true, Nat.le_refl, Int.sub_zero, Nat.sub_zero, Int.le_refl, true_or, or_true, List.getD_cons_zero, List.getD_cons_succ, fillL, splice, List.take_zero, List.drop_zero, List.drop_succ_cons, List.take_succ_cons, List.drop_nil, List.take_nil, gaU, hm, decide_true, er]
    repeat refine And.intro (by omega) ?_
    exact ⟨hF, _, rfl, .nil⟩
  | cons a t =>
    have hm : ¬ (m : Int) = 0 := by rw [hxb, List.length_cons] at hl; omega
    have hm' : 0 < m := by omega
    obtain ⟨a', cl, ro, e1, r2, r3, r4, r5⟩ := h.body.cells hm'
    subst e1
    have c0 : cl.getD a'.off undef = .int .u8 (a.toNat : Nat) := by
      have := r5 0 (by omega)
      rw [Nat.add_zero] at this
      rw [this, hxb]; rfl
    have hqn : (a'.block = nx) = False := by simp; omega
    have im1 : ((m : Int) - 1).toNat = m - 1 := by omega
    have hmd := h.md
    have id1 : ((d : Int) - 1).toNat = d - 1 := by omega
    have hspot := h.body.spot a' rfl
    have htl : t.length = m - 1 := by rw [hxb, List.length_cons] at hl; omega
    have ht := h.body.part (lo := 1) (hi := m) (by omega) (Nat.le_refl _) rfl
    have et : ((x.b.map u8V).drop 1).take (m - 1) = t.map u8V := by rw [hxb, ← htl]; simp [List.take_of_length_le]
    rw [et] at ht
    simp only [c_scalar_Of, ↓gaW, ↓gaV, ↓gaC, ↓gaN, gaP, Nat.reduceEqDiff, Nat.reduceLeDiff, Nat.reduceAdd, Nat.reduceSub, Nat.reduceMul, Int.reduceLT, Int.reduceLE, Int.reduceEq, Int.reduceToNat, Int.reduceAdd, Int.reduceSub, Int.reduceMul, reduceCtorEq, ↓reduceIte, List.getD_cons_zero, List.getD_cons_succ, fillL, splice, List.take_zero, List.drop_zero, List.drop_succ_cons, List.take_succ_cons, List.drop_nil, List.take_nil, gaU, hm, decide_false, im1, id1]
    generalize upd gt nx (some (.cells (nodeL x.t (some a') m d A n c) false)) = g0 at *
    repeat refine And.intro (by omega) ?_
    refine And.intro (by rcases hspot with h | h <;> simp [h]) ?_
    have h0 := h.keep (x' := nx + 1) (by omega) hF
    refine callK_of (ct_Clone (ht.keep (nx' := nx + 1) (by omega) hF) (by omega) (by omega)) (fun v x1 g1 l1 k1 hC => ?_) (by omega)
    obtain ⟨A2, n2, c2, rfl, hc2, hl2, rr2⟩ := hC
    have r2' := rr2.1
    have F1 : ∀ p, p < nx → g1 p = gt p := fun p hp => by rw [k1 p (by omega), hF p hp]
    have hb1 : g1 nx = some (.cells (nodeL x.t (some a') m d A n c) false) := by rw [k1 nx (by omega), hb0]
    have hx1 : (nx = x1) = False := by simp; omega
    have hx2 : (nx = x1 + 1) = False := by simp; omega
    have hx3 : (x1 = x1 + 1) = False := by simp
    have ha1 : (a'.block = x1) = False := by simp; omega
    have ha2 : (a'.block = x1 + 1) = False := by simp; omega
    have hga : g1 a'.block = some (.cells cl ro) := by rw [F1 _ r2, r3]
    have ha256 := a.toNat_lt
    obtain ⟨many, hmany⟩ : ∃ many : Int, many = 8 * (t.length : Int) - (a.toNat : Int) := ⟨_, rfl⟩
    have i1 : IntKind.i64.wrap (IntKind.i64.wrap (8 * (n2 : Int)) - IntKind.i64.wrap ((a.toNat : Nat) : Int)) = many := by rw [i64_w (8 * (n2 : Int)) (by omega), i64_w ((a.toNat : Nat) : Int) (by omega), i64_w _ (by omega)]; omega
    simp only [↓gaW, ↓gaV, ↓gaC, ↓gaN, gaP, Nat.reduceEqDiff, Nat.reduceLeDiff, Nat.reduceAdd, Nat.reduceSub, Nat.reduceMul, Int.reduceLT, Int.reduceLE, Int.reduceEq, Int.reduceToNat, Int.reduceAdd, Int.reduceSub, Int.reduceMul, reduceCtorEq, ↓reduceIte, List.getD_cons_zero, List.getD_cons_succ, fillL, splice, List.take_zero, List.drop_zero, List.drop_succ_cons, List.take_succ_cons, List.drop_nil, List.take_nil, gaU, hx1, hx2, hx3, hb1, hga, c0, ha1, ha2, nodeL, List.getD_cons_succ, List.getD_cons_zero, i1]
    repeat refine And.intro (by omega) ?_
    refine And.intro (all1 rfl) ?_
    repeat refine And.intro (by omega) ?_
    refine And.intro (all1 rfl) ?_
    repeat refine And.intro (by omega) ?_
    obtain ⟨g2, e2⟩ : ∃ g', g' = upd (upd (upd (upd g1 x1 (some (.cells [Value.slice none 0 0] false))) x1 (some (.cells [Value.slice A2 n2 c2] false))) (x1 + 1) (some (.cells [Value.int .i64 0] false))) (x1 + 1) (some (.cells [Value.int .i64 many] false)) := ⟨_, rfl⟩
    have G2 : ∀ p, p < x1 → g2 p = g1 p := fun p hp => by rw [e2]; simp only [upd_e]; rw [if_neg (by omega), if_neg (by omega), if_neg (by omega), if_neg (by omega)]
    have hbA : g2 x1 = some (.cells [Value.slice A2 n2 c2] false) := by rw [e2, upd_e, if_neg (by omega), upd_e, if_neg (by omega), upd_e, if_pos rfl]
    have hbB : g2 (x1 + 1) = some (.cells [Value.int .i64 many] false) := by rw [e2]; simp only [upd_e, if_true]
    rw [← e2]; clear e2
    have hN2 := h.keep (x' := x1 + 1 + 1) (g := g2) (by omega) fun p hp => by rw [G2 p (by omega), F1 p hp]
    have rA2 := r2'.keep (nx' := x1 + 1 + 1) (gt' := g2) (by omega) G2
    refine callK_of (ct_justB (r := bitsR t many) hN2 (by omega) (fun y' hy' => by have := bitsR_ws hy'; omega) (fun nx' g h1 h2 => ct_Of1 (q := x1) (q2 := x1 + 1) (by omega) (by rw [h2 x1 (by omega), hbA]) (by omega) (by rw [h2 (x1 + 1) (by omega), hbB]) (rA2.keep h1 h2) hc2 (by omega) (by omega))) (fun v x4 g4 l4 k4 hC => ?_) (by omega)
    obtain ⟨bb, hbb, rfl⟩ := hC
    have F4 : ∀ p, p < nx → g4 p = gt p := fun p hp => by rw [k4 p (by omega), G2 p (by omega), F1 p hp]
    have hj : justP true x (bitsR t many) ↔ bitsR t many = .ok x := by
      unfold justP
      constructor
      · rintro ⟨_, z, h2, h3⟩
        rw [h2, (alike_eq (bitsR_k h2)).1 h3]
      · intro h2
        exact ⟨rfl, x, h2, (alike_eq (bitsR_k h2)).2 rfl⟩
    have hb4 : g4 x1 = some (.cells [Value.slice A2 n2 c2] false) := by rw [k4 x1 (by omega), hbA]
    have hb5 : g4 (x1 + 1) = some (.cells [Value.int .i64 many] false) := by rw [k4 (x1 + 1) (by omega), hbB]
    have hx4 : (x1 + 1 = x1) = False := by simp
    have eo : x.b ≠ [] ∧ bitsR x.b.tail (8 * (x.b.tail.length : Int) - (x.b.headD 0).toNat) = .ok x ↔ bitsR t many = .ok x := by
      rw [hxb, hmany]
      exact ⟨fun h => h.2, fun h => ⟨by simp, h⟩⟩
    cases bb with
    | true =>
      have er : ofR x = (t, many, 0) := by
        unfold ofR
        rw [if_pos (eo.2 (hj.1 (hbb.1 rfl))), hxb, hmany]; rfl
      simp only [↓gaW, ↓gaV, ↓gaC, ↓gaN, gaP, Nat.reduceEqDiff, Nat.reduceLeDiff, Nat.reduceAdd, Nat.reduceSub, Nat.reduceMul, Int.reduceLT, Int.reduceLE, Int.reduceEq, Int.reduceToNat, Int.reduceAdd, Int.reduceSub, Int.reduceMul, reduceCtorEq, ↓reduceIte, gaE, implies_true, Nat.le_refl, Int.sub_zero, Nat.sub_zero, Int.le_refl, true_or, or_true, List.getD_cons_zero, List.getD_cons_succ, fillL, splice, List.take_zero, List.drop_zero, List.drop_succ_cons, List.take_succ_cons, List.drop_nil, List.take_nil, er, if_true, hb4, hb5, hx4]
      repeat refine And.intro (by omega) ?_
      refine And.intro (all1 rfl) ?_
      repeat refine And.intro (by omega) ?_
      have ext : ∀ (cs : List Value), (∀ p, p < x1 → upd g4 x1 (some (.cells cs false)) p = g4 p) := fun cs p hp => by simp only [upd_e]; rw [if_neg (by omega)]
      refine ⟨fun p hp => by rw [if_neg (by omega), F4 p hp], _, rfl, A2, n2, c2, rfl, hc2, hl2, ?_⟩
      have rA4 := (r2'.keep (Nat.le_refl _) (gt' := g4) fun p hp => by rw [k4 p (by omega), G2 p hp])
      exact rA4.keep (by omega) (ext _)
    | false =>
      have er : ofR x = ([], 0, 2) := if_neg fun hc => by have := hbb.2 (hj.2 (eo.1 hc)); cases this
      simp only [↓gaW, ↓gaV, ↓gaC, ↓gaN, gaP, Nat.reduceEqDiff, Nat.reduceLeDiff, Nat.reduceAdd, Nat.reduceSub, Nat.reduceMul, Int.reduceLT, Int.reduceLE, Int.reduceEq, Int.reduceToNat, Int.reduceAdd, Int.reduceSub, Int.reduceMul, reduceCtorEq, ↓reduceIte, gaE, implies_true, Nat.le_refl, Int.sub_zero, Nat.sub_zero, Int.le_refl, true_or, or_true, List.getD_cons_zero, List.getD_cons_succ, fillL, splice, List.take_zero, List.drop_zero, List.drop_succ_cons, List.take_succ_cons, List.drop_nil, List.take_nil, er, Bool.false_eq_true, if_false, hb4, hb5, hx4]
      repeat refine And.intro (by omega) ?_
      refine And.intro (all1 rfl) ?_
      repeat refine And.intro (by omega) ?_
      exact ⟨fun p hp => by rw [if_neg (by omega), F4 p hp], _, rfl, .nil⟩
end
end Go.Ga

/- The document's bits; the law ScalarBits. -/
namespace Go.Ga
open Go Go.Proofs
set_option linter.unusedSimpArgs false
set_option linter.unusedVariables false
set_option maxRecDepth 100000
attribute [local irreducible] appendK

section
variable {nx : Nat} {gt : Nat → Option Blk}

end
end Go.Ga

namespace Go.Ga
open Go Go.Proofs
set_option maxRecDepth 100000

def c_roa_most : RFn :=
  ⟨4,
  (.seq
  (.ops [] [
  ⟨(some 2), (.op (.mv (.k (.int .i64 0)))), none⟩])
  (.seq
  (.seq
  (.ops [] [
  ⟨(some 3), (.op (.mv (.t 0))), none⟩])
  (.cond (.t 3)
  (.seq
  (.ops [] [
  ⟨(some 2), (.op (.mv (.k (.int .i64 128)))), none⟩])
  .ret)
  .skip))
  (.seq
  (.ops [] [
  ⟨(some 2), (.op (.mv (.k (.int .i64 32)))), none⟩])
  .ret))),
  [(.t 2)]⟩
theorem r_roa_most : resolveFn Tryd.prog 41 = some c_roa_most := by kernel_rfl

def c_roa_One : RFn :=
  ⟨23,
  (.seq
  (.ops [] [
  ⟨(some 1), (.op (.box (.t 0))), none⟩,
  ⟨(some 2), (.op (.mv (.k (.bool false)))), none⟩])
  (.seq
  (.ops [
  ⟨(some 3), (.op (.fieldAddr 1 (.t 1))), none⟩,
  ⟨(some 4), (.op (.loadN 18 (.t 3))), none⟩,
  ⟨(some 5), (.call (.k (.func (.func 40) #[] #[])) [(.t 4)]), none⟩,
  ⟨(some 6), (.op (.mv (.t 5))), none⟩,
  ⟨(some 7), (.op (.fieldAddr 19 (.t 1))), (some (6, true))⟩,
  ⟨(some 8), (.op (.load1 (.t 7))), (some (6, true))⟩,
  ⟨(some 9), (.op (.fieldAddr 1 (.t 1))), (some (6, true))⟩,
  ⟨(some 10), (.op (.fieldAddr 17 (.t 9))), (some (6, true))⟩,
  ⟨(some 11), (.op (.load1 (.t 10))), (some (6, true))⟩,
  ⟨(some 12), (.op (.bin .geq (.t 8) (.t 11))), (some (6, true))⟩,
  ⟨(some 13), (.op (.pick (.t 6) (.t 12) (.k (.bool false)))), none⟩,
  ⟨(some 14), (.op (.mv (.t 13))), none⟩,
  ⟨(some 15), (.op (.fieldAddr 19 (.t 1))), (some (14, true))⟩,
  ⟨(some 16), (.op (.load1 (.t 15))), (some (14, true))⟩,
  ⟨(some 17), (.op (.fieldAddr 1 (.t 1))), (some (14, true))⟩,
  ⟨(some 18), (.op (.fieldAddr 0 (.t 17))), (some (14, true))⟩,
  ⟨(some 19), (.op (.load1 (.t 18))), (some (14, true))⟩,
  ⟨(some 20), (.call (.k (.func (.func 41) #[] #[])) [(.t 19)]), (some (14, true))⟩] [
  ⟨(some 21), (.op (.bin .leq (.t 16) (.t 20))), (some (14, true))⟩,
  ⟨(some 22), (.op (.pick (.t 14) (.t 21) (.k (.bool false)))), none⟩,
  ⟨(some 2), (.op (.mv (.t 22))), none⟩])
  .ret)),
  [(.t 2)]⟩
theorem r_roa_One : resolveFn Tryd.prog 18 = some c_roa_One := by kernel_rfl

def c_roa_Cmp : RFn :=
  ⟨22,
  (.seq
  (.ops [] [
  ⟨(some 2), (.op (.box (.t 0))), none⟩,
  ⟨(some 3), (.op (.box (.t 1))), none⟩,
  ⟨(some 4), (.op (.mv (.k (.int .i64 0)))), none⟩])
  (.seq
  (.ops [
  ⟨(some 5), (.op (.fieldAddr 1 (.t 2))), none⟩,
  ⟨(some 6), (.op (.loadN 18 (.t 5))), none⟩,
  ⟨(some 7), (.op (.fieldAddr 1 (.t 3))), none⟩,
  ⟨(some 8), (.op (.loadN 18 (.t 7))), none⟩,
  ⟨(some 9), (.call (.k (.func (.func 36) #[] #[])) [(.t 6), (.t 8)]), none⟩,
  ⟨(some 10), (.op (.fieldAddr 19 (.t 2))), none⟩,
  ⟨(some 11), (.op (.load1 (.t 10))), none⟩,
  ⟨(some 12), (.op (.fieldAddr 19 (.t 3))), none⟩,
  ⟨(some 13), (.op (.load1 (.t 12))), none⟩,
  ⟨(some 14), (.call (.k (.func (.func 37) #[] #[])) [(.t 11), (.t 13)]), none⟩,
  ⟨(some 15), (.op (.fieldAddr 0 (.t 2))), none⟩,
  ⟨(some 16), (.op (.load1 (.t 15))), none⟩,
  ⟨(some 17), (.op (.fieldAddr 0 (.t 3))), none⟩,
  ⟨(some 18), (.op (.load1 (.t 17))), none⟩] [
  ⟨(some 19), (.call (.k (.func (.func 38) #[] #[])) [(.t 16), (.t 18)]), none⟩,
  ⟨(some 20), (.op (.mkSl 3 [(.int .i64 0), (.int .i64 0), (.int .i64 0)] [(0, (1, (.t 9))), (1, (1, (.t 14))), (2, (1, (.t 19)))])), none⟩,
  ⟨(some 21), (.call (.k (.func (.func 35) #[] #[])) [(.t 20)]), none⟩,
  ⟨(some 4), (.op (.mv (.t 21))), none⟩])
  .ret)),
  [(.t 4)]⟩
theorem r_roa_Cmp : resolveFn Tryd.prog 16 = some c_roa_Cmp := by kernel_rfl

def c_roa_Right : RFn :=
  ⟨56,
  (.seq
  (.ops [] [
  ⟨(some 2), (.op (.mv (.k (.bool false)))), none⟩])
  (.seq
  (.ops [] [
  ⟨(some 6), (.xop .mkMap), none⟩,
  ⟨(some 3), (.op (.mv (.t 6))), none⟩])
  (.seq
  (.seq
  (.ops [] [
  ⟨(some 7), (.op (.mv (.t 0))), none⟩,
  ⟨(some 8), (.op (.lenSl (.t 7))), none⟩,
  ⟨(some 9), (.op (.mv (.k (.int .i64 0)))), none⟩])
  (.block 0
  (.loop
  (.seq
  (.ops [] [
  ⟨(some 10), (.op (.bin .lss (.t 9) (.t 8))), none⟩])
  (.seq
  (.cond (.t 10)
  .skip
  (.exit 0))
  (.seq
  (.block 1
  (.seq
  (.ops [] [
  ⟨(some 11), (.op (.mv (.t 9))), none⟩,
  ⟨(some 12), (.op (.ixAddr 20 (.t 7) (.t 9))), none⟩,
  ⟨(some 13), (.op (.loadN 20 (.t 12))), none⟩,
  ⟨(some 5), (.op (.new [(.int .u32 0), (.bool false), (.int .u8 0), (.int .u8 0), (.int .u8 0), (.int .u8 0), (.int .u8 0), (.int .u8 0), (.int .u8 0), (.int .u8 0), (.int .u8 0), (.int .u8 0), (.int .u8 0), (.int .u8 0), (.int .u8 0), (.int .u8 0), (.int .u8 0), (.int .u8 0), (.int .i64 0), (.int .i64 0)])), none⟩,
  ⟨(some 4), (.op (.mv (.t 11))), none⟩,
  ⟨none, (.op (.store 20 (.t 5) (.t 13))), none⟩])
  (.seq
  (.seq
  (.ops [
  ⟨(some 14), (.op (.loadN 20 (.t 5))), none⟩,
  ⟨(some 15), (.call (.k (.func (.func 18) #[] #[])) [(.t 14)]), none⟩,
  ⟨(some 16), (.op (.un .not (.t 15))), none⟩,
  ⟨(some 17), (.op (.mv (.t 16))), none⟩,
  ⟨(some 18), (.op (.mv (.t 3))), (some (17, false))⟩,
  ⟨(some 19), (.op (.loadN 20 (.t 5))), (some (17, false))⟩,
  ⟨(some 20), (.xop (.mapGet 38 (.bool false) false (.t 18) (.t 19))), (some (17, false))⟩,
  ⟨(some 21), (.op (.pick (.t 17) (.k (.bool true)) (.t 20))), none⟩,
  ⟨(some 22), (.op (.mv (.t 21))), none⟩,
  ⟨(some 23), (.op (.fieldAddr 0 (.t 5))), (some (22, false))⟩,
  ⟨(some 24), (.op (.load1 (.t 23))), (some (22, false))⟩,
  ⟨(some 25), (.op (.mv (.t 0))), (some (22, false))⟩,
  ⟨(some 26), (.op (.ixAddr 20 (.t 25) (.k (.int .i64 0)))), (some (22, false))⟩,
  ⟨(some 27), (.op (.fieldAddr 0 (.t 26))), (some (22, false))⟩,
  ⟨(some 28), (.op (.load1 (.t 27))), (some (22, false))⟩,
  ⟨(some 29), (.op (.bin .neq (.t 24) (.t 28))), (some (22, false))⟩,
  ⟨(some 30), (.op (.pick (.t 22) (.k (.bool true)) (.t 29))), none⟩,
  ⟨(some 31), (.op (.mv (.t 30))), none⟩,
  ⟨(some 32), (.op (.mv (.t 4))), (some (31, false))⟩,
  ⟨(some 33), (.op (.bin .gtr (.t 32) (.k (.int .i64 0)))), (some (31, false))⟩,
  ⟨(some 34), (.op (.mv (.t 33))), (some (31, false))⟩,
  ⟨(some 35), (.op (.mv (.t 0))), (some (34, true))⟩,
  ⟨(some 36), (.op (.mv (.t 4))), (some (34, true))⟩,
  ⟨(some 37), (.op (.bin .sub (.t 36) (.k (.int .i64 1)))), (some (34, true))⟩,
  ⟨(some 38), (.op (.ixAddr 20 (.t 35) (.t 37))), (some (34, true))⟩,
  ⟨(some 39), (.op (.loadN 20 (.t 38))), (some (34, true))⟩,
  ⟨(some 40), (.op (.loadN 20 (.t 5))), (some (34, true))⟩] [
  ⟨(some 41), (.call (.k (.func (.func 16) #[] #[])) [(.t 39), (.t 40)]), (some (34, true))⟩,
  ⟨(some 42), (.op (.bin .gtr (.t 41) (.k (.int .i64 0)))), (some (34, true))⟩,
  ⟨(some 43), (.op (.pick (.t 34) (.t 42) (.k (.bool false)))), (some (31, false))⟩,
  ⟨(some 44), (.op (.pick (.t 31) (.k (.bool true)) (.t 43))), none⟩])
  (.cond (.t 44)
  (.seq
  (.ops [] [
  ⟨(some 2), (.op (.mv (.k (.bool false)))), none⟩])
  .ret)
  .skip))
  (.ops [] [
  ⟨(some 45), (.op (.mv (.t 3))), none⟩,
  ⟨(some 46), (.op (.loadN 20 (.t 5))), none⟩,
  ⟨none, (.xop (.mapPut 38 (.t 45) (.t 46) (.k (.bool true)))), none⟩]))))
  (.ops [] [
  ⟨(some 47), (.op (.bin .add (.t 9) (.k (.int .i64 1)))), none⟩,
  ⟨(some 9), (.op (.mv (.t 47))), none⟩])))))))
  (.seq
  (.ops [] [
  ⟨(some 48), (.op (.mv (.t 0))), none⟩,
  ⟨(some 49), (.op (.lenSl (.t 48))), none⟩,
  ⟨(some 50), (.op (.bin .gtr (.t 49) (.k (.int .i64 0)))), none⟩,
  ⟨(some 51), (.op (.mv (.t 50))), none⟩,
  ⟨(some 52), (.op (.mv (.t 0))), (some (51, true))⟩,
  ⟨(some 53), (.op (.lenSl (.t 52))), (some (51, true))⟩,
  ⟨(some 54), (.op (.bin .leq (.t 53) (.k (.int .i64 400)))), (some (51, true))⟩,
  ⟨(some 55), (.op (.pick (.t 51) (.t 54) (.k (.bool false)))), none⟩,
  ⟨(some 2), (.op (.mv (.t 55))), none⟩])
  .ret)))),
  [(.t 2)]⟩
theorem r_roa_Right : resolveFn Tryd.prog 14 = some c_roa_Right := by kernel_rfl

def d_roa_Make1 : List (List Nat) := [[], [], [1], [], [3], [4], [5], [6], [2, 7], [], [9], [10], [8, 11], [12], [13], [13], [0, 0, 1, 2, 3, 4, 5, 6, 7, 8, 9, 10, 11, 12, 13, 14], [16, 14, 12, 0, 1, 2, 3, 4, 5, 6, 7, 8, 9, 10, 11, 12, 13, 14]]
def q_roa_Make1 : List (Option (List Nat)) := [(some []), none, none, none, none, none, none, none, none, none, none, none, none, (some [12]), (some [13]), (some [13]), none, none]
def d_roa_Make : List (List Nat) := [[], [], [], [2], [3], [4], [], [6], [7], [8, 5], [0, 0, 2, 3, 4, 5, 7, 9], [10, 5, 9, 0, 2, 3, 4, 5, 7, 9], [1, 0, 1, 2, 3, 4, 5, 6, 7, 8, 9, 10, 11], [12, 9, 11, 0, 1, 2, 3, 4, 5, 6, 7, 8, 9, 10, 11]]
def q_roa_Make : List (Option (List Nat)) := [(some []), (some []), none, none, none, none, none, none, none, none, none, none, none, none]
def c_roa_Make : RFn :=
  ⟨68,
  (.seq
  (.ops [] [
  ⟨(some 2), (.op (.mv (.k (.slice none 0 0)))), none⟩,
  ⟨(some 3), (.op (.mv (.k (.int .i64 0)))), none⟩])
  (.seq
  (.seq
  (.ops [] [
  ⟨(some 8), (.op (.mv (.t 0))), none⟩,
  ⟨(some 9), (.call (.k (.func (.func 14) #[] #[])) [(.t 8)]), none⟩,
  ⟨(some 10), (.op (.un .not (.t 9))), none⟩])
  (.cond (.t 10)
  (.seq
  (.ops [] [
  ⟨(some 2), (.op (.mv (.k (.slice none 0 0)))), none⟩,
  ⟨(some 3), (.op (.mv (.k (.int .i64 1)))), none⟩])
  .ret)
  .skip))
  (.seq
  (.ops [] [
  ⟨(some 11), (.op (.build [(.int .i64 0), (.slice none 0 0), (.slice none 0 0)] [(0, (1, (.k (.int .i64 48))))])), none⟩,
  ⟨(some 4), (.op (.new [(.int .i64 0), (.slice none 0 0), (.slice none 0 0)])), none⟩,
  ⟨none, (.op (.store 3 (.t 4) (.t 11))), none⟩])
  (.seq
  (.seq
  (.ops [] [
  ⟨(some 12), (.op (.mv (.t 0))), none⟩,
  ⟨(some 13), (.op (.lenSl (.t 12))), none⟩,
  ⟨(some 14), (.op (.mv (.k (.int .i64 0)))), none⟩])
  (.block 0
  (.loop
  (.seq
  (.ops [] [
  ⟨(some 15), (.op (.bin .lss (.t 14) (.t 13))), none⟩])
  (.seq
  (.cond (.t 15)
  .skip
  (.exit 0))
  (.seq
  (.block 1
  (.seq
  (.ops [] [
  ⟨(some 16), (.op (.ixAddr 20 (.t 12) (.t 14))), none⟩,
  ⟨(some 17), (.op (.loadN 20 (.t 16))), none⟩,
  ⟨(some 6), (.op (.new [(.int .u32 0), (.bool false), (.int .u8 0), (.int .u8 0), (.int .u8 0), (.int .u8 0), (.int .u8 0), (.int .u8 0), (.int .u8 0), (.int .u8 0), (.int .u8 0), (.int .u8 0), (.int .u8 0), (.int .u8 0), (.int .u8 0), (.int .u8 0), (.int .u8 0), (.int .u8 0), (.int .i64 0), (.int .i64 0)])), none⟩,
  ⟨none, (.op (.store 20 (.t 6) (.t 17))), none⟩])
  (.seq
  (.ops [] [
  ⟨(some 18), (.op (.make 3 56 [(.int .i64 0), (.slice none 0 0), (.slice none 0 0)] (.k (.int .i64 3)) (.k (.int .i64 3)))), none⟩,
  ⟨(some 7), (.op (.mv (.t 18))), none⟩])
  (.seq
  (.tree [
  ⟨(some 19), (.op (.mv (.t 7))), none⟩,
  ⟨(some 20), (.op (.mv (.t 7))), none⟩,
  ⟨(some 21), (.op (.fieldAddr 1 (.t 6))), none⟩,
  ⟨(some 22), (.op (.fieldAddr 0 (.t 21))), none⟩,
  ⟨(some 23), (.op (.load1 (.t 22))), none⟩,
  ⟨(some 24), (.call (.k (.func (.func 20) #[] #[])) [(.t 23)]), none⟩,
  ⟨(some 25), (.op (.fieldAddr 19 (.t 6))), none⟩,
  ⟨(some 26), (.op (.load1 (.t 25))), none⟩,
  ⟨(some 27), (.op (.toInt .u64 (.t 26))), none⟩,
  ⟨(some 28), (.call (.k (.func (.func 21) #[] #[])) [(.t 27)]), none⟩,
  ⟨(some 29), (.op (.ixAddr 3 (.t 19) (.k (.int .i64 0)))), none⟩,
  ⟨none, (.op (.store 3 (.t 29) (.t 24))), none⟩,
  ⟨(some 30), (.op (.ixAddr 3 (.t 20) (.k (.int .i64 2)))), none⟩,
  ⟨none, (.op (.store 3 (.t 30) (.t 28))), none⟩] d_roa_Make q_roa_Make)
  (.seq
  (.tree [
  ⟨(some 32), (.op (.mv (.t 7))), none⟩,
  ⟨(some 33), (.op (.fieldAddr 1 (.t 6))), none⟩,
  ⟨(some 34), (.op (.fieldAddr 1 (.t 33))), none⟩,
  ⟨(some 35), (.op (.fieldAddr 1 (.t 6))), none⟩,
  ⟨(some 36), (.op (.fieldAddr 17 (.t 35))), none⟩,
  ⟨(some 37), (.op (.load1 (.t 36))), none⟩,
  ⟨(some 38), (.op (.bin .add (.t 37) (.k (.int .i64 7)))), none⟩,
  ⟨(some 39), (.op (.bin .quo (.t 38) (.k (.int .i64 8)))), none⟩,
  ⟨(some 40), (.op (.slArr 16 1 (.t 34) none (some (.t 39)) none)), none⟩,
  ⟨(some 41), (.op (.fieldAddr 1 (.t 6))), none⟩,
  ⟨(some 42), (.op (.fieldAddr 17 (.t 41))), none⟩,
  ⟨(some 43), (.op (.load1 (.t 42))), none⟩,
  ⟨(some 44), (.call (.k (.func (.func 22) #[] #[])) [(.t 40), (.t 43)]), none⟩,
  ⟨(some 31), (.op (.mv (.t 44))), none⟩,
  ⟨(some 45), (.op (.extract (.t 31) 0)), none⟩,
  ⟨(some 46), (.op (.extract (.t 31) 1)), none⟩,
  ⟨(some 47), (.op (.ixAddr 3 (.t 32) (.k (.int .i64 1)))), none⟩,
  ⟨none, (.op (.store 3 (.t 47) (.t 45))), none⟩] d_roa_Make1 q_roa_Make1)
  (.ops [] [
  ⟨(some 48), (.op (.fieldAddr 2 (.t 4))), none⟩,
  ⟨(some 49), (.op (.load1 (.t 48))), none⟩,
  ⟨(some 50), (.op (.mv (.t 7))), none⟩,
  ⟨(some 51), (.op (.build [(.int .i64 0), (.slice none 0 0), (.slice none 0 0)] [(0, (1, (.k (.int .i64 48)))), (2, (1, (.t 50)))])), none⟩,
  ⟨(some 52), (.op (.mkSl 1 [(.int .i64 0), (.slice none 0 0), (.slice none 0 0)] [(0, (3, (.t 51)))])), none⟩,
  ⟨(some 53), (.op (.append 3 56 (.t 49) (.t 52))), none⟩,
  ⟨(some 54), (.op (.fieldAddr 2 (.t 4))), none⟩,
  ⟨none, (.op (.store 1 (.t 54) (.t 53))), none⟩]))))))
  (.ops [] [
  ⟨(some 55), (.op (.bin .add (.t 14) (.k (.int .i64 1)))), none⟩,
  ⟨(some 14), (.op (.mv (.t 55))), none⟩])))))))
  (.seq
  (.ops [
  ⟨(some 56), (.op (.mv (.t 0))), none⟩,
  ⟨(some 57), (.op (.ixAddr 20 (.t 56) (.k (.int .i64 0)))), none⟩,
  ⟨(some 58), (.op (.fieldAddr 0 (.t 57))), none⟩,
  ⟨(some 59), (.op (.load1 (.t 58))), none⟩,
  ⟨(some 60), (.op (.toInt .u64 (.t 59))), none⟩,
  ⟨(some 61), (.call (.k (.func (.func 21) #[] #[])) [(.t 60)]), none⟩,
  ⟨(some 62), (.op (.loadN 3 (.t 4))), none⟩,
  ⟨(some 63), (.op (.mkSl 2 [(.int .i64 0), (.slice none 0 0), (.slice none 0 0), (.int .i64 0), (.slice none 0 0), (.slice none 0 0)] [(0, (3, (.t 61))), (3, (3, (.t 62)))])), none⟩,
  ⟨(some 64), (.op (.build [(.int .i64 0), (.slice none 0 0), (.slice none 0 0)] [(0, (1, (.k (.int .i64 48)))), (2, (1, (.t 63)))])), none⟩,
  ⟨(some 65), (.call (.k (.func (.func 23) #[] #[])) [(.t 64)]), none⟩,
  ⟨(some 66), (.op (.extract (.t 65) 0)), none⟩,
  ⟨(some 67), (.op (.extract (.t 65) 1)), none⟩] [
  ⟨(some 2), (.op (.mv (.t 66))), none⟩,
  ⟨(some 3), (.op (.mv (.t 67))), none⟩])
  .ret))))),
  [(.t 2), (.t 3)]⟩
theorem r_roa_Make : resolveFn Tryd.prog 9 [8,9] = some c_roa_Make := by kernel_rfl

def c_roa_one : RFn :=
  ⟨81,
  (.seq
  (.ops [] [
  ⟨(some 2), (.op (.box (.t 0))), none⟩,
  ⟨(some 4), (.op (.new [(.int .u32 0), (.bool false), (.int .u8 0), (.int .u8 0), (.int .u8 0), (.int .u8 0), (.int .u8 0), (.int .u8 0), (.int .u8 0), (.int .u8 0), (.int .u8 0), (.int .u8 0), (.int .u8 0), (.int .u8 0), (.int .u8 0), (.int .u8 0), (.int .u8 0), (.int .u8 0), (.int .i64 0), (.int .i64 0)])), none⟩,
  ⟨(some 5), (.op (.mv (.k (.bool false)))), none⟩])
  (.seq
  (.seq
  (.ops [] [
  ⟨(some 13), (.op (.fieldAddr 0 (.t 2))), none⟩,
  ⟨(some 14), (.op (.load1 (.t 13))), none⟩,
  ⟨(some 15), (.op (.bin .neq (.t 14) (.k (.int .i64 48)))), none⟩,
  ⟨(some 16), (.op (.mv (.t 15))), none⟩,
  ⟨(some 17), (.op (.fieldAddr 2 (.t 2))), (some (16, false))⟩,
  ⟨(some 18), (.op (.load1 (.t 17))), (some (16, false))⟩,
  ⟨(some 19), (.op (.lenSl (.t 18))), (some (16, false))⟩,
  ⟨(some 20), (.op (.bin .neq (.t 19) (.k (.int .i64 3)))), (some (16, false))⟩,
  ⟨(some 21), (.op (.pick (.t 16) (.k (.bool true)) (.t 20))), none⟩])
  (.cond (.t 21)
  (.seq
  (.ops [] [
  ⟨(some 22), (.op (.loadN 20 (.t 4))), none⟩,
  ⟨none, (.op (.store 20 (.t 4) (.t 22))), none⟩,
  ⟨(some 5), (.op (.mv (.k (.bool false)))), none⟩])
  .ret)
  .skip))
  (.seq
  (.ops [] [
  ⟨(some 24), (.op (.fieldAddr 2 (.t 2))), none⟩,
  ⟨(some 25), (.op (.load1 (.t 24))), none⟩,
  ⟨(some 26), (.op (.ixAddr 3 (.t 25) (.k (.int .i64 0)))), none⟩,
  ⟨(some 27), (.op (.loadN 3 (.t 26))), none⟩,
  ⟨(some 28), (.call (.k (.func (.func 60) #[] #[])) [(.t 27)]), none⟩,
  ⟨(some 23), (.op (.mv (.t 28))), none⟩,
  ⟨(some 29), (.op (.extract (.t 23) 0)), none⟩,
  ⟨(some 30), (.op (.extract (.t 23) 1)), none⟩,
  ⟨(some 6), (.op (.mv (.t 29))), none⟩,
  ⟨(some 7), (.op (.mv (.t 30))), none⟩])
  (.seq
  (.ops [] [
  ⟨(some 32), (.op (.fieldAddr 2 (.t 2))), none⟩,
  ⟨(some 33), (.op (.load1 (.t 32))), none⟩,
  ⟨(some 34), (.op (.ixAddr 3 (.t 33) (.k (.int .i64 1)))), none⟩,
  ⟨(some 35), (.op (.loadN 3 (.t 34))), none⟩,
  ⟨(some 36), (.call (.k (.func (.func 61) #[] #[])) [(.t 35)]), none⟩,
  ⟨(some 31), (.op (.mv (.t 36))), none⟩,
  ⟨(some 37), (.op (.extract (.t 31) 0)), none⟩,
  ⟨(some 38), (.op (.extract (.t 31) 1)), none⟩,
  ⟨(some 39), (.op (.extract (.t 31) 2)), none⟩,
  ⟨(some 8), (.op (.mv (.t 37))), none⟩,
  ⟨(some 9), (.op (.mv (.t 38))), none⟩,
  ⟨(some 10), (.op (.mv (.t 39))), none⟩])
  (.seq
  (.ops [] [
  ⟨(some 41), (.op (.fieldAddr 2 (.t 2))), none⟩,
  ⟨(some 42), (.op (.load1 (.t 41))), none⟩,
  ⟨(some 43), (.op (.ixAddr 3 (.t 42) (.k (.int .i64 2)))), none⟩,
  ⟨(some 44), (.op (.loadN 3 (.t 43))), none⟩,
  ⟨(some 45), (.call (.k (.func (.func 29) #[] #[])) [(.t 44)]), none⟩,
  ⟨(some 40), (.op (.mv (.t 45))), none⟩,
  ⟨(some 46), (.op (.extract (.t 40) 0)), none⟩,
  ⟨(some 47), (.op (.extract (.t 40) 1)), none⟩,
  ⟨(some 11), (.op (.mv (.t 46))), none⟩,
  ⟨(some 12), (.op (.mv (.t 47))), none⟩])
  (.seq
  (.seq
  (.ops [] [
  ⟨(some 48), (.op (.mv (.t 7))), none⟩,
  ⟨(some 49), (.op (.bin .neq (.t 48) (.k (.int .i64 0)))), none⟩,
  ⟨(some 50), (.op (.mv (.t 49))), none⟩,
  ⟨(some 51), (.op (.mv (.t 10))), (some (50, false))⟩,
  ⟨(some 52), (.op (.bin .neq (.t 51) (.k (.int .i64 0)))), (some (50, false))⟩,
  ⟨(some 53), (.op (.pick (.t 50) (.k (.bool true)) (.t 52))), none⟩,
  ⟨(some 54), (.op (.mv (.t 53))), none⟩,
  ⟨(some 55), (.op (.mv (.t 12))), (some (54, false))⟩,
  ⟨(some 56), (.op (.bin .neq (.t 55) (.k (.int .i64 0)))), (some (54, false))⟩,
  ⟨(some 57), (.op (.pick (.t 54) (.k (.bool true)) (.t 56))), none⟩,
  ⟨(some 58), (.op (.mv (.t 57))), none⟩,
  ⟨(some 59), (.op (.mv (.t 8))), (some (58, false))⟩,
  ⟨(some 60), (.op (.lenSl (.t 59))), (some (58, false))⟩,
  ⟨(some 61), (.op (.bin .gtr (.t 60) (.k (.int .i64 16)))), (some (58, false))⟩,
  ⟨(some 62), (.op (.pick (.t 58) (.k (.bool true)) (.t 61))), none⟩,
  ⟨(some 63), (.op (.mv (.t 62))), none⟩,
  ⟨(some 64), (.op (.mv (.t 11))), (some (63, false))⟩,
  ⟨(some 65), (.op (.bin .gtr (.t 64) (.k (.int .u64 128)))), (some (63, false))⟩,
  ⟨(some 66), (.op (.pick (.t 63) (.k (.bool true)) (.t 65))), none⟩])
  (.cond (.t 66)
  (.seq
  (.ops [] [
  ⟨(some 67), (.op (.loadN 20 (.t 4))), none⟩,
  ⟨none, (.op (.store 20 (.t 4) (.t 67))), none⟩,
  ⟨(some 5), (.op (.mv (.k (.bool false)))), none⟩])
  .ret)
  .skip))
  (.seq
  (.ops [] [
  ⟨(some 68), (.op (.mv (.t 1))), none⟩,
  ⟨(some 69), (.op (.mv (.t 6))), none⟩,
  ⟨(some 70), (.op (.mv (.t 9))), none⟩,
  ⟨(some 71), (.op (.build [(.bool false), (.int .u8 0), (.int .u8 0), (.int .u8 0), (.int .u8 0), (.int .u8 0), (.int .u8 0), (.int .u8 0), (.int .u8 0), (.int .u8 0), (.int .u8 0), (.int .u8 0), (.int .u8 0), (.int .u8 0), (.int .u8 0), (.int .u8 0), (.int .u8 0), (.int .i64 0)] [(0, (1, (.t 69))), (17, (1, (.t 70)))])), none⟩,
  ⟨(some 72), (.op (.mv (.t 11))), none⟩,
  ⟨(some 73), (.op (.toInt .i64 (.t 72))), none⟩,
  ⟨(some 74), (.op (.build [(.int .u32 0), (.bool false), (.int .u8 0), (.int .u8 0), (.int .u8 0), (.int .u8 0), (.int .u8 0), (.int .u8 0), (.int .u8 0), (.int .u8 0), (.int .u8 0), (.int .u8 0), (.int .u8 0), (.int .u8 0), (.int .u8 0), (.int .u8 0), (.int .u8 0), (.int .u8 0), (.int .i64 0), (.int .i64 0)] [(0, (1, (.t 68))), (1, (18, (.t 71))), (19, (1, (.t 73)))])), none⟩,
  ⟨none, (.op (.store 20 (.t 4) (.t 74))), none⟩])
  (.seq
  (.ops [] [
  ⟨(some 75), (.op (.fieldAddr 1 (.t 4))), none⟩,
  ⟨(some 76), (.op (.fieldAddr 1 (.t 75))), none⟩,
  ⟨(some 77), (.op (.slArr 16 1 (.t 76) none none none)), none⟩,
  ⟨(some 78), (.op (.mv (.t 8))), none⟩,
  ⟨(some 79), (.op (.copy 1 (.t 77) (.t 78))), none⟩])
  (.seq
  (.ops [] [
  ⟨(some 80), (.op (.loadN 20 (.t 4))), none⟩,
  ⟨none, (.op (.store 20 (.t 4) (.t 80))), none⟩,
  ⟨(some 5), (.op (.mv (.k (.bool true)))), none⟩])
  .ret))))))))),
  [(.cN 4 20), (.t 5)]⟩
theorem r_roa_one : resolveFn Tryd.prog 30 = some c_roa_one := by kernel_rfl

def c_roa_Read : RFn :=
  ⟨80,
  (.seq
  (.ops [] [
  ⟨(some 2), (.op (.mv (.k (.slice none 0 0)))), none⟩,
  ⟨(some 3), (.op (.mv (.k (.int .i64 0)))), none⟩])
  (.seq
  (.ops [] [
  ⟨(some 13), (.op (.mv (.t 0))), none⟩,
  ⟨(some 14), (.call (.k (.func (.func 28) #[] #[])) [(.t 13)]), none⟩,
  ⟨(some 12), (.op (.mv (.t 14))), none⟩,
  ⟨(some 15), (.op (.extract (.t 12) 0)), none⟩,
  ⟨(some 16), (.op (.extract (.t 12) 1)), none⟩,
  ⟨(some 4), (.op (.new [(.int .i64 0), (.slice none 0 0), (.slice none 0 0)])), none⟩,
  ⟨none, (.op (.store 3 (.t 4) (.t 15))), none⟩,
  ⟨(some 5), (.op (.mv (.t 16))), none⟩])
  (.seq
  (.seq
  (.ops [] [
  ⟨(some 17), (.op (.mv (.t 5))), none⟩,
  ⟨(some 18), (.op (.bin .neq (.t 17) (.k (.int .i64 0)))), none⟩])
  (.cond (.t 18)
  (.seq
  (.ops [] [
  ⟨(some 19), (.op (.mv (.t 5))), none⟩,
  ⟨(some 2), (.op (.mv (.k (.slice none 0 0)))), none⟩,
  ⟨(some 3), (.op (.mv (.t 19))), none⟩])
  .ret)
  .skip))
  (.seq
  (.seq
  (.ops [] [
  ⟨(some 20), (.op (.fieldAddr 0 (.t 4))), none⟩,
  ⟨(some 21), (.op (.load1 (.t 20))), none⟩,
  ⟨(some 22), (.op (.bin .neq (.t 21) (.k (.int .i64 48)))), none⟩,
  ⟨(some 23), (.op (.mv (.t 22))), none⟩,
  ⟨(some 24), (.op (.fieldAddr 2 (.t 4))), (some (23, false))⟩,
  ⟨(some 25), (.op (.load1 (.t 24))), (some (23, false))⟩,
  ⟨(some 26), (.op (.lenSl (.t 25))), (some (23, false))⟩,
  ⟨(some 27), (.op (.bin .neq (.t 26) (.k (.int .i64 2)))), (some (23, false))⟩,
  ⟨(some 28), (.op (.pick (.t 23) (.k (.bool true)) (.t 27))), none⟩,
  ⟨(some 29), (.op (.mv (.t 28))), none⟩,
  ⟨(some 30), (.op (.fieldAddr 2 (.t 4))), (some (29, false))⟩,
  ⟨(some 31), (.op (.load1 (.t 30))), (some (29, false))⟩,
  ⟨(some 32), (.op (.ixAddr 3 (.t 31) (.k (.int .i64 1)))), (some (29, false))⟩,
  ⟨(some 33), (.op (.fieldAddr 0 (.t 32))), (some (29, false))⟩,
  ⟨(some 34), (.op (.load1 (.t 33))), (some (29, false))⟩,
  ⟨(some 35), (.op (.bin .neq (.t 34) (.k (.int .i64 48)))), (some (29, false))⟩,
  ⟨(some 36), (.op (.pick (.t 29) (.k (.bool true)) (.t 35))), none⟩])
  (.cond (.t 36)
  (.seq
  (.ops [] [
  ⟨(some 2), (.op (.mv (.k (.slice none 0 0)))), none⟩,
  ⟨(some 3), (.op (.mv (.k (.int .i64 2)))), none⟩])
  .ret)
  .skip))
  (.seq
  (.ops [] [
  ⟨(some 38), (.op (.fieldAddr 2 (.t 4))), none⟩,
  ⟨(some 39), (.op (.load1 (.t 38))), none⟩,
  ⟨(some 40), (.op (.ixAddr 3 (.t 39) (.k (.int .i64 0)))), none⟩,
  ⟨(some 41), (.op (.loadN 3 (.t 40))), none⟩,
  ⟨(some 42), (.call (.k (.func (.func 29) #[] #[])) [(.t 41)]), none⟩,
  ⟨(some 37), (.op (.mv (.t 42))), none⟩,
  ⟨(some 43), (.op (.extract (.t 37) 0)), none⟩,
  ⟨(some 44), (.op (.extract (.t 37) 1)), none⟩,
  ⟨(some 6), (.op (.mv (.t 43))), none⟩,
  ⟨(some 5), (.op (.mv (.t 44))), none⟩])
  (.seq
  (.seq
  (.ops [] [
  ⟨(some 45), (.op (.mv (.t 5))), none⟩,
  ⟨(some 46), (.op (.bin .neq (.t 45) (.k (.int .i64 0)))), none⟩,
  ⟨(some 47), (.op (.mv (.t 46))), none⟩,
  ⟨(some 48), (.op (.mv (.t 6))), (some (47, false))⟩,
  ⟨(some 49), (.op (.bin .shr (.t 48) (.k (.int .u64 32)))), (some (47, false))⟩,
  ⟨(some 50), (.op (.bin .neq (.t 49) (.k (.int .u64 0)))), (some (47, false))⟩,
  ⟨(some 51), (.op (.pick (.t 47) (.k (.bool true)) (.t 50))), none⟩])
  (.cond (.t 51)
  (.seq
  (.ops [] [
  ⟨(some 2), (.op (.mv (.k (.slice none 0 0)))), none⟩,
  ⟨(some 3), (.op (.mv (.k (.int .i64 2)))), none⟩])
  .ret)
  .skip))
  (.seq
  (.ops [] [
  ⟨(some 7), (.op (.mv (.k (.slice none 0 0)))), none⟩])
  (.seq
  (.seq
  (.ops [] [
  ⟨(some 52), (.op (.fieldAddr 2 (.t 4))), none⟩,
  ⟨(some 53), (.op (.load1 (.t 52))), none⟩,
  ⟨(some 54), (.op (.ixAddr 3 (.t 53) (.k (.int .i64 1)))), none⟩,
  ⟨(some 55), (.op (.fieldAddr 2 (.t 54))), none⟩,
  ⟨(some 56), (.op (.load1 (.t 55))), none⟩,
  ⟨(some 57), (.op (.lenSl (.t 56))), none⟩,
  ⟨(some 58), (.op (.mv (.k (.int .i64 0)))), none⟩])
  (.block 0
  (.loop
  (.seq
  (.ops [] [
  ⟨(some 59), (.op (.bin .lss (.t 58) (.t 57))), none⟩])
  (.seq
  (.cond (.t 59)
  .skip
  (.exit 0))
  (.seq
  (.block 1
  (.seq
  (.ops [] [
  ⟨(some 60), (.op (.ixAddr 3 (.t 56) (.t 58))), none⟩,
  ⟨(some 61), (.op (.loadN 3 (.t 60))), none⟩,
  ⟨(some 9), (.op (.new [(.int .i64 0), (.slice none 0 0), (.slice none 0 0)])), none⟩,
  ⟨none, (.op (.store 3 (.t 9) (.t 61))), none⟩])
  (.seq
  (.ops [] [
  ⟨(some 63), (.op (.loadN 3 (.t 9))), none⟩,
  ⟨(some 64), (.op (.mv (.t 6))), none⟩,
  ⟨(some 65), (.op (.toInt .u32 (.t 64))), none⟩,
  ⟨(some 66), (.call (.k (.func (.func 30) #[] #[])) [(.t 63), (.t 65)]), none⟩,
  ⟨(some 62), (.op (.mv (.t 66))), none⟩,
  ⟨(some 67), (.op (.extract (.t 62) 0)), none⟩,
  ⟨(some 68), (.op (.extract (.t 62) 1)), none⟩,
  ⟨(some 10), (.op (.new [(.int .u32 0), (.bool false), (.int .u8 0), (.int .u8 0), (.int .u8 0), (.int .u8 0), (.int .u8 0), (.int .u8 0), (.int .u8 0), (.int .u8 0), (.int .u8 0), (.int .u8 0), (.int .u8 0), (.int .u8 0), (.int .u8 0), (.int .u8 0), (.int .u8 0), (.int .u8 0), (.int .i64 0), (.int .i64 0)])), none⟩,
  ⟨none, (.op (.store 20 (.t 10) (.t 67))), none⟩,
  ⟨(some 11), (.op (.mv (.t 68))), none⟩])
  (.seq
  (.seq
  (.ops [] [
  ⟨(some 69), (.op (.mv (.t 11))), none⟩,
  ⟨(some 70), (.op (.un .not (.t 69))), none⟩])
  (.cond (.t 70)
  (.seq
  (.ops [] [
  ⟨(some 2), (.op (.mv (.k (.slice none 0 0)))), none⟩,
  ⟨(some 3), (.op (.mv (.k (.int .i64 2)))), none⟩])
  .ret)
  .skip))
  (.ops [] [
  ⟨(some 71), (.op (.mv (.t 7))), none⟩,
  ⟨(some 72), (.op (.loadN 20 (.t 10))), none⟩,
  ⟨(some 73), (.op (.mkSl 1 [(.int .u32 0), (.bool false), (.int .u8 0), (.int .u8 0), (.int .u8 0), (.int .u8 0), (.int .u8 0), (.int .u8 0), (.int .u8 0), (.int .u8 0), (.int .u8 0), (.int .u8 0), (.int .u8 0), (.int .u8 0), (.int .u8 0), (.int .u8 0), (.int .u8 0), (.int .u8 0), (.int .i64 0), (.int .i64 0)] [(0, (20, (.t 72)))])), none⟩,
  ⟨(some 74), (.op (.append 20 48 (.t 71) (.t 73))), none⟩,
  ⟨(some 7), (.op (.mv (.t 74))), none⟩])))))
  (.ops [] [
  ⟨(some 75), (.op (.bin .add (.t 58) (.k (.int .i64 1)))), none⟩,
  ⟨(some 58), (.op (.mv (.t 75))), none⟩])))))))
  (.seq
  (.seq
  (.ops [] [
  ⟨(some 76), (.op (.mv (.t 7))), none⟩,
  ⟨(some 77), (.call (.k (.func (.func 14) #[] #[])) [(.t 76)]), none⟩,
  ⟨(some 78), (.op (.un .not (.t 77))), none⟩])
  (.cond (.t 78)
  (.seq
  (.ops [] [
  ⟨(some 2), (.op (.mv (.k (.slice none 0 0)))), none⟩,
  ⟨(some 3), (.op (.mv (.k (.int .i64 2)))), none⟩])
  .ret)
  .skip))
  (.seq
  (.ops [] [
  ⟨(some 79), (.op (.mv (.t 7))), none⟩,
  ⟨(some 2), (.op (.mv (.t 79))), none⟩,
  ⟨(some 3), (.op (.mv (.k (.int .i64 0)))), none⟩])
  .ret)))))))))),
  [(.t 2), (.t 3)]⟩
theorem r_roa_Read : resolveFn Tryd.prog 11 = some c_roa_Read := by kernel_rfl

def c_addr_most : RFn :=
  ⟨4,
  (.seq
  (.ops [] [
  ⟨(some 2), (.op (.mv (.k (.int .i64 0)))), none⟩])
  (.seq
  (.seq
  (.ops [] [
  ⟨(some 3), (.op (.mv (.t 0))), none⟩])
  (.cond (.t 3)
  (.seq
  (.ops [] [
  ⟨(some 2), (.op (.mv (.k (.int .i64 128)))), none⟩])
  .ret)
  .skip))
  (.seq
  (.ops [] [
  ⟨(some 2), (.op (.mv (.k (.int .i64 32)))), none⟩])
  .ret))),
  [(.t 2)]⟩
theorem r_addr_most : resolveFn Tryd.prog 91 = some c_addr_most := by kernel_rfl

def c_addr_mask : RFn :=
  ⟨12,
  (.seq
  (.ops [] [
  ⟨(some 2), (.op (.mv (.k (.int .u8 0)))), none⟩])
  (.seq
  (.block 0
  (.seq
  (.ops [] [
  ⟨(some 4), (.op (.mv (.t 0))), none⟩,
  ⟨(some 5), (.op (.bin .leq (.t 4) (.k (.int .i64 0)))), none⟩,
  ⟨(some 3), (.op (.mv (.t 5))), none⟩])
  (.cond (.t 3)
  (.seq
  (.ops [] [
  ⟨(some 2), (.op (.mv (.k (.int .u8 0)))), none⟩])
  .ret)
  (.seq
  (.ops [] [
  ⟨(some 7), (.op (.mv (.t 0))), none⟩,
  ⟨(some 8), (.op (.bin .geq (.t 7) (.k (.int .i64 8)))), none⟩,
  ⟨(some 6), (.op (.mv (.t 8))), none⟩])
  (.cond (.t 6)
  (.seq
  (.ops [] [
  ⟨(some 2), (.op (.mv (.k (.int .u8 255)))), none⟩])
  .ret)
  .skip)))))
  (.seq
  (.ops [] [
  ⟨(some 9), (.op (.mv (.t 0))), none⟩,
  ⟨(some 10), (.op (.bin .shr (.k (.int .u8 255)) (.t 9))), none⟩,
  ⟨(some 11), (.op (.un .xor (.t 10))), none⟩,
  ⟨(some 2), (.op (.mv (.t 11))), none⟩])
  .ret))),
  [(.t 2)]⟩
theorem r_addr_mask : resolveFn Tryd.prog 92 = some c_addr_mask := by kernel_rfl

def c_addr_Cut : RFn :=
  ⟨30,
  (.seq
  (.ops [] [
  ⟨(some 1), (.op (.box (.t 0))), none⟩,
  ⟨(some 2), (.op (.new [(.bool false), (.int .u8 0), (.int .u8 0), (.int .u8 0), (.int .u8 0), (.int .u8 0), (.int .u8 0), (.int .u8 0), (.int .u8 0), (.int .u8 0), (.int .u8 0), (.int .u8 0), (.int .u8 0), (.int .u8 0), (.int .u8 0), (.int .u8 0), (.int .u8 0), (.int .i64 0)])), none⟩])
  (.seq
  (.ops [
  ⟨(some 4), (.op (.fieldAddr 17 (.t 1))), none⟩,
  ⟨(some 5), (.op (.load1 (.t 4))), none⟩,
  ⟨(some 6), (.op (.mm true (.t 5) [(.k (.int .i64 0))])), none⟩,
  ⟨(some 7), (.op (.fieldAddr 0 (.t 1))), none⟩,
  ⟨(some 8), (.op (.load1 (.t 7))), none⟩,
  ⟨(some 9), (.call (.k (.func (.func 91) #[] #[])) [(.t 8)]), none⟩] [
  ⟨(some 10), (.op (.mm false (.t 6) [(.t 9)])), none⟩,
  ⟨(some 11), (.op (.fieldAddr 17 (.t 1))), none⟩,
  ⟨none, (.op (.store 1 (.t 11) (.t 10))), none⟩])
  (.seq
  (.seq
  (.ops [] [
  ⟨(some 12), (.op (.mv (.k (.int .i64 0)))), none⟩])
  (.block 0
  (.loop
  (.seq
  (.ops [] [
  ⟨(some 13), (.op (.bin .lss (.t 12) (.k (.int .i64 16)))), none⟩])
  (.seq
  (.cond (.t 13)
  .skip
  (.exit 0))
  (.seq
  (.block 1
  (.seq
  (.ops [] [
  ⟨(some 14), (.op (.mv (.t 12))), none⟩,
  ⟨(some 3), (.op (.mv (.t 14))), none⟩])
  (.ops [
  ⟨(some 15), (.op (.mv (.t 3))), none⟩,
  ⟨(some 16), (.op (.fieldAddr 1 (.t 1))), none⟩,
  ⟨(some 17), (.op (.ixAddrA 16 1 (.t 16) (.t 15))), none⟩,
  ⟨(some 18), (.op (.load1 (.t 17))), none⟩,
  ⟨(some 19), (.op (.fieldAddr 17 (.t 1))), none⟩,
  ⟨(some 20), (.op (.load1 (.t 19))), none⟩,
  ⟨(some 21), (.op (.mv (.t 3))), none⟩,
  ⟨(some 22), (.op (.bin .mul (.k (.int .i64 8)) (.t 21))), none⟩,
  ⟨(some 23), (.op (.bin .sub (.t 20) (.t 22))), none⟩,
  ⟨(some 24), (.call (.k (.func (.func 92) #[] #[])) [(.t 23)]), none⟩,
  ⟨(some 25), (.op (.bin .and (.t 18) (.t 24))), none⟩,
  ⟨(some 26), (.op (.fieldAddr 1 (.t 1))), none⟩] [
  ⟨(some 27), (.op (.ixAddrA 16 1 (.t 26) (.t 15))), none⟩,
  ⟨none, (.op (.store 1 (.t 27) (.t 25))), none⟩])))
  (.ops [] [
  ⟨(some 28), (.op (.bin .add (.t 12) (.k (.int .i64 1)))), none⟩,
  ⟨(some 12), (.op (.mv (.t 28))), none⟩])))))))
  (.seq
  (.ops [] [
  ⟨(some 29), (.op (.loadN 18 (.t 1))), none⟩,
  ⟨none, (.op (.store 18 (.t 2) (.t 29))), none⟩])
  .ret)))),
  [(.cN 2 18)]⟩
theorem r_addr_Cut : resolveFn Tryd.prog 69 = some c_addr_Cut := by kernel_rfl

def c_addr_Right : RFn :=
  ⟨7,
  (.seq
  (.ops [] [
  ⟨(some 1), (.op (.box (.t 0))), none⟩,
  ⟨(some 2), (.op (.mv (.k (.bool false)))), none⟩])
  (.seq
  (.ops [
  ⟨(some 3), (.op (.loadN 18 (.t 1))), none⟩,
  ⟨(some 4), (.call (.k (.func (.func 69) #[] #[])) [(.t 3)]), none⟩,
  ⟨(some 5), (.op (.loadN 18 (.t 1))), none⟩] [
  ⟨(some 6), (.op (.eqA .eql 36 (.t 4) (.t 5))), none⟩,
  ⟨(some 2), (.op (.mv (.t 6))), none⟩])
  .ret)),
  [(.t 2)]⟩
theorem r_addr_Right : resolveFn Tryd.prog 40 = some c_addr_Right := by kernel_rfl

def c_addr_Cmp : RFn :=
  ⟨42,
  (.seq
  (.ops [] [
  ⟨(some 2), (.op (.box (.t 0))), none⟩,
  ⟨(some 3), (.op (.box (.t 1))), none⟩,
  ⟨(some 4), (.op (.mv (.k (.int .i64 0)))), none⟩])
  (.seq
  (.block 0
  (.seq
  (.ops [] [
  ⟨(some 7), (.op (.fieldAddr 0 (.t 2))), none⟩,
  ⟨(some 8), (.op (.load1 (.t 7))), none⟩,
  ⟨(some 9), (.op (.fieldAddr 0 (.t 3))), none⟩,
  ⟨(some 10), (.op (.load1 (.t 9))), none⟩,
  ⟨(some 11), (.op (.eqB true (.t 8) (.t 10))), none⟩,
  ⟨(some 12), (.op (.mv (.t 11))), none⟩,
  ⟨(some 13), (.op (.fieldAddr 0 (.t 3))), (some (12, true))⟩,
  ⟨(some 14), (.op (.load1 (.t 13))), (some (12, true))⟩,
  ⟨(some 15), (.op (.pick (.t 12) (.t 14) (.k (.bool false)))), none⟩,
  ⟨(some 6), (.op (.mv (.t 15))), none⟩])
  (.cond (.t 6)
  (.seq
  (.ops [] [
  ⟨(some 4), (.op (.mv (.k (.int .i64 (-1))))), none⟩])
  .ret)
  (.seq
  (.ops [] [
  ⟨(some 17), (.op (.fieldAddr 0 (.t 2))), none⟩,
  ⟨(some 18), (.op (.load1 (.t 17))), none⟩,
  ⟨(some 19), (.op (.fieldAddr 0 (.t 3))), none⟩,
  ⟨(some 20), (.op (.load1 (.t 19))), none⟩,
  ⟨(some 21), (.op (.eqB true (.t 18) (.t 20))), none⟩,
  ⟨(some 16), (.op (.mv (.t 21))), none⟩])
  (.cond (.t 16)
  (.seq
  (.ops [] [
  ⟨(some 4), (.op (.mv (.k (.int .i64 1)))), none⟩])
  .ret)
  .skip)))))
  (.seq
  (.seq
  (.ops [
  ⟨(some 22), (.op (.fieldAddr 1 (.t 2))), none⟩,
  ⟨(some 23), (.op (.slArr 16 1 (.t 22) none none none)), none⟩,
  ⟨(some 24), (.op (.fieldAddr 1 (.t 3))), none⟩,
  ⟨(some 25), (.op (.slArr 16 1 (.t 24) none none none)), none⟩] [
  ⟨(some 26), (.call (.k (.func (.func 65) #[] #[])) [(.t 23), (.t 25)]), none⟩,
  ⟨(some 5), (.op (.mv (.t 26))), none⟩])
  (.seq
  (.ops [] [
  ⟨(some 27), (.op (.mv (.t 5))), none⟩,
  ⟨(some 28), (.op (.bin .neq (.t 27) (.k (.int .i64 0)))), none⟩])
  (.cond (.t 28)
  (.seq
  (.ops [] [
  ⟨(some 29), (.op (.mv (.t 5))), none⟩,
  ⟨(some 4), (.op (.mv (.t 29))), none⟩])
  .ret)
  .skip)))
  (.seq
  (.block 1
  (.seq
  (.ops [] [
  ⟨(some 31), (.op (.fieldAddr 17 (.t 2))), none⟩,
  ⟨(some 32), (.op (.load1 (.t 31))), none⟩,
  ⟨(some 33), (.op (.fieldAddr 17 (.t 3))), none⟩,
  ⟨(some 34), (.op (.load1 (.t 33))), none⟩,
  ⟨(some 35), (.op (.bin .lss (.t 32) (.t 34))), none⟩,
  ⟨(some 30), (.op (.mv (.t 35))), none⟩])
  (.cond (.t 30)
  (.seq
  (.ops [] [
  ⟨(some 4), (.op (.mv (.k (.int .i64 (-1))))), none⟩])
  .ret)
  (.seq
  (.ops [] [
  ⟨(some 37), (.op (.fieldAddr 17 (.t 2))), none⟩,
  ⟨(some 38), (.op (.load1 (.t 37))), none⟩,
  ⟨(some 39), (.op (.fieldAddr 17 (.t 3))), none⟩,
  ⟨(some 40), (.op (.load1 (.t 39))), none⟩,
  ⟨(some 41), (.op (.bin .gtr (.t 38) (.t 40))), none⟩,
  ⟨(some 36), (.op (.mv (.t 41))), none⟩])
  (.cond (.t 36)
  (.seq
  (.ops [] [
  ⟨(some 4), (.op (.mv (.k (.int .i64 1)))), none⟩])
  .ret)
  .skip)))))
  (.seq
  (.ops [] [
  ⟨(some 4), (.op (.mv (.k (.int .i64 0)))), none⟩])
  .ret))))),
  [(.t 4)]⟩
theorem r_addr_Cmp : resolveFn Tryd.prog 36 = some c_addr_Cmp := by kernel_rfl

def c_bytes_Compare : RFn :=
  ⟨8,
  (.seq
  (.ops [] [
  ⟨(some 4), (.op (.mv (.k (.int .i64 0)))), none⟩])
  (.seq
  (.ops [] [
  ⟨(some 5), (.op (.mv (.t 0))), none⟩,
  ⟨(some 6), (.op (.mv (.t 1))), none⟩,
  ⟨(some 7), (.xop (.cmpB (.t 5) (.t 6))), none⟩,
  ⟨(some 4), (.op (.mv (.t 7))), none⟩])
  .ret)),
  [(.t 4)]⟩
theorem r_bytes_Compare : resolveFn Tryd.prog 65 = some c_bytes_Compare := by kernel_rfl

def c_cmp_Or_int_ : RFn :=
  ⟨18,
  (.seq
  (.ops [] [
  ⟨(some 2), (.op (.mv (.k (.int .i64 0)))), none⟩])
  (.seq
  (.ops [] [
  ⟨(some 3), (.op (.mv (.k (.int .i64 0)))), none⟩])
  (.seq
  (.seq
  (.ops [] [
  ⟨(some 6), (.op (.mv (.t 0))), none⟩,
  ⟨(some 7), (.op (.lenSl (.t 6))), none⟩,
  ⟨(some 8), (.op (.mv (.k (.int .i64 0)))), none⟩])
  (.block 0
  (.loop
  (.seq
  (.ops [] [
  ⟨(some 9), (.op (.bin .lss (.t 8) (.t 7))), none⟩])
  (.seq
  (.cond (.t 9)
  .skip
  (.exit 0))
  (.seq
  (.block 1
  (.seq
  (.ops [] [
  ⟨(some 10), (.op (.ixAddr 1 (.t 6) (.t 8))), none⟩,
  ⟨(some 11), (.op (.load1 (.t 10))), none⟩,
  ⟨(some 5), (.op (.mv (.t 11))), none⟩])
  (.seq
  (.ops [] [
  ⟨(some 12), (.op (.mv (.t 5))), none⟩,
  ⟨(some 13), (.op (.mv (.t 3))), none⟩,
  ⟨(some 14), (.op (.bin .neq (.t 12) (.t 13))), none⟩])
  (.cond (.t 14)
  (.seq
  (.ops [] [
  ⟨(some 15), (.op (.mv (.t 5))), none⟩,
  ⟨(some 2), (.op (.mv (.t 15))), none⟩])
  .ret)
  .skip))))
  (.ops [] [
  ⟨(some 16), (.op (.bin .add (.t 8) (.k (.int .i64 1)))), none⟩,
  ⟨(some 8), (.op (.mv (.t 16))), none⟩])))))))
  (.seq
  (.ops [] [
  ⟨(some 17), (.op (.mv (.t 3))), none⟩,
  ⟨(some 2), (.op (.mv (.t 17))), none⟩])
  .ret)))),
  [(.t 2)]⟩
theorem r_cmp_Or_int_ : resolveFn Tryd.prog 35 = some c_cmp_Or_int_ := by kernel_rfl

def c_cmp_Compare_int_ : RFn :=
  ⟨20,
  (.seq
  (.ops [] [
  ⟨(some 4), (.op (.mv (.k (.int .i64 0)))), none⟩])
  (.seq
  (.ops [] [
  ⟨(some 7), (.op (.mv (.t 0))), none⟩,
  ⟨(some 8), (.call (.k (.func (.func 66) #[] #[])) [(.t 7)]), none⟩,
  ⟨(some 5), (.op (.mv (.t 8))), none⟩])
  (.seq
  (.ops [] [
  ⟨(some 9), (.op (.mv (.t 1))), none⟩,
  ⟨(some 10), (.call (.k (.func (.func 66) #[] #[])) [(.t 9)]), none⟩,
  ⟨(some 6), (.op (.mv (.t 10))), none⟩])
  (.seq
  (.seq
  (.ops [] [
  ⟨(some 11), (.op (.mv (.t 5))), none⟩])
  (.cond (.t 11)
  (.seq
  (.seq
  (.ops [] [
  ⟨(some 12), (.op (.mv (.t 6))), none⟩])
  (.cond (.t 12)
  (.seq
  (.ops [] [
  ⟨(some 4), (.op (.mv (.k (.int .i64 0)))), none⟩])
  .ret)
  .skip))
  (.seq
  (.ops [] [
  ⟨(some 4), (.op (.mv (.k (.int .i64 (-1))))), none⟩])
  .ret))
  .skip))
  (.seq
  (.seq
  (.ops [] [
  ⟨(some 13), (.op (.mv (.t 6))), none⟩])
  (.cond (.t 13)
  (.seq
  (.ops [] [
  ⟨(some 4), (.op (.mv (.k (.int .i64 1)))), none⟩])
  .ret)
  .skip))
  (.seq
  (.seq
  (.ops [] [
  ⟨(some 14), (.op (.mv (.t 0))), none⟩,
  ⟨(some 15), (.op (.mv (.t 1))), none⟩,
  ⟨(some 16), (.op (.bin .lss (.t 14) (.t 15))), none⟩])
  (.cond (.t 16)
  (.seq
  (.ops [] [
  ⟨(some 4), (.op (.mv (.k (.int .i64 (-1))))), none⟩])
  .ret)
  .skip))
  (.seq
  (.seq
  (.ops [] [
  ⟨(some 17), (.op (.mv (.t 0))), none⟩,
  ⟨(some 18), (.op (.mv (.t 1))), none⟩,
  ⟨(some 19), (.op (.bin .gtr (.t 17) (.t 18))), none⟩])
  (.cond (.t 19)
  (.seq
  (.ops [] [
  ⟨(some 4), (.op (.mv (.k (.int .i64 1)))), none⟩])
  .ret)
  .skip))
  (.seq
  (.ops [] [
  ⟨(some 4), (.op (.mv (.k (.int .i64 0)))), none⟩])
  .ret)))))))),
  [(.t 4)]⟩
theorem r_cmp_Compare_int_ : resolveFn Tryd.prog 37 = some c_cmp_Compare_int_ := by kernel_rfl

def c_cmp_Compare_uint32_ : RFn :=
  ⟨20,
  (.seq
  (.ops [] [
  ⟨(some 4), (.op (.mv (.k (.int .i64 0)))), none⟩])
  (.seq
  (.ops [] [
  ⟨(some 7), (.op (.mv (.t 0))), none⟩,
  ⟨(some 8), (.call (.k (.func (.func 67) #[] #[])) [(.t 7)]), none⟩,
  ⟨(some 5), (.op (.mv (.t 8))), none⟩])
  (.seq
  (.ops [] [
  ⟨(some 9), (.op (.mv (.t 1))), none⟩,
  ⟨(some 10), (.call (.k (.func (.func 67) #[] #[])) [(.t 9)]), none⟩,
  ⟨(some 6), (.op (.mv (.t 10))), none⟩])
  (.seq
  (.seq
  (.ops [] [
  ⟨(some 11), (.op (.mv (.t 5))), none⟩])
  (.cond (.t 11)
  (.seq
  (.seq
  (.ops [] [
  ⟨(some 12), (.op (.mv (.t 6))), none⟩])
  (.cond (.t 12)
  (.seq
  (.ops [] [
  ⟨(some 4), (.op (.mv (.k (.int .i64 0)))), none⟩])
  .ret)
  .skip))
  (.seq
  (.ops [] [
  ⟨(some 4), (.op (.mv (.k (.int .i64 (-1))))), none⟩])
  .ret))
  .skip))
  (.seq
  (.seq
  (.ops [] [
  ⟨(some 13), (.op (.mv (.t 6))), none⟩])
  (.cond (.t 13)
  (.seq
  (.ops [] [
  ⟨(some 4), (.op (.mv (.k (.int .i64 1)))), none⟩])
  .ret)
  .skip))
  (.seq
  (.seq
  (.ops [] [
  ⟨(some 14), (.op (.mv (.t 0))), none⟩,
  ⟨(some 15), (.op (.mv (.t 1))), none⟩,
  ⟨(some 16), (.op (.bin .lss (.t 14) (.t 15))), none⟩])
  (.cond (.t 16)
  (.seq
  (.ops [] [
  ⟨(some 4), (.op (.mv (.k (.int .i64 (-1))))), none⟩])
  .ret)
  .skip))
  (.seq
  (.seq
  (.ops [] [
  ⟨(some 17), (.op (.mv (.t 0))), none⟩,
  ⟨(some 18), (.op (.mv (.t 1))), none⟩,
  ⟨(some 19), (.op (.bin .gtr (.t 17) (.t 18))), none⟩])
  (.cond (.t 19)
  (.seq
  (.ops [] [
  ⟨(some 4), (.op (.mv (.k (.int .i64 1)))), none⟩])
  .ret)
  .skip))
  (.seq
  (.ops [] [
  ⟨(some 4), (.op (.mv (.k (.int .i64 0)))), none⟩])
  .ret)))))))),
  [(.t 4)]⟩
theorem r_cmp_Compare_uint32_ : resolveFn Tryd.prog 38 = some c_cmp_Compare_uint32_ := by kernel_rfl

def c_cmp_isNaN_int_ : RFn :=
  ⟨6,
  (.seq
  (.ops [] [
  ⟨(some 2), (.op (.mv (.k (.bool false)))), none⟩])
  (.seq
  (.ops [] [
  ⟨(some 3), (.op (.mv (.t 0))), none⟩,
  ⟨(some 4), (.op (.mv (.t 0))), none⟩,
  ⟨(some 5), (.op (.bin .neq (.t 3) (.t 4))), none⟩,
  ⟨(some 2), (.op (.mv (.t 5))), none⟩])
  .ret)),
  [(.t 2)]⟩
theorem r_cmp_isNaN_int_ : resolveFn Tryd.prog 66 = some c_cmp_isNaN_int_ := by kernel_rfl

def c_cmp_isNaN_uint32_ : RFn :=
  ⟨6,
  (.seq
  (.ops [] [
  ⟨(some 2), (.op (.mv (.k (.bool false)))), none⟩])
  (.seq
  (.ops [] [
  ⟨(some 3), (.op (.mv (.t 0))), none⟩,
  ⟨(some 4), (.op (.mv (.t 0))), none⟩,
  ⟨(some 5), (.op (.bin .neq (.t 3) (.t 4))), none⟩,
  ⟨(some 2), (.op (.mv (.t 5))), none⟩])
  .ret)),
  [(.t 2)]⟩
theorem r_cmp_isNaN_uint32_ : resolveFn Tryd.prog 67 = some c_cmp_isNaN_uint32_ := by kernel_rfl

def c_lanyardref10_Most : RFn :=
  ⟨4,
  (.seq
  (.ops [] [
  ⟨(some 2), (.op (.mv (.k (.int .i64 0)))), none⟩])
  (.seq
  (.seq
  (.ops [] [
  ⟨(some 3), (.op (.mv (.t 0))), none⟩])
  (.cond (.t 3)
  (.seq
  (.ops [] [
  ⟨(some 2), (.op (.mv (.k (.int .i64 128)))), none⟩])
  .ret)
  .skip))
  (.seq
  (.ops [] [
  ⟨(some 2), (.op (.mv (.k (.int .i64 32)))), none⟩])
  .ret))),
  [(.t 2)]⟩
theorem r_lanyardref10_Most : resolveFn Tryd.prog 43 = some c_lanyardref10_Most := by kernel_rfl

def c_lanyardref10_Bit : RFn :=
  ⟨14,
  (.seq
  (.ops [] [
  ⟨(some 2), (.op (.box (.t 0))), none⟩,
  ⟨(some 4), (.op (.mv (.k (.int .u8 0)))), none⟩])
  (.seq
  (.ops [] [
  ⟨(some 5), (.op (.mv (.t 1))), none⟩,
  ⟨(some 6), (.op (.bin .quo (.t 5) (.k (.int .i64 8)))), none⟩,
  ⟨(some 7), (.op (.ixAddrA 16 1 (.t 2) (.t 6))), none⟩,
  ⟨(some 8), (.op (.load1 (.t 7))), none⟩,
  ⟨(some 9), (.op (.mv (.t 1))), none⟩,
  ⟨(some 10), (.op (.bin .rem (.t 9) (.k (.int .i64 8)))), none⟩,
  ⟨(some 11), (.op (.bin .sub (.k (.int .i64 7)) (.t 10))), none⟩,
  ⟨(some 12), (.op (.bin .shr (.t 8) (.t 11))), none⟩,
  ⟨(some 13), (.op (.bin .rem (.t 12) (.k (.int .u8 2)))), none⟩,
  ⟨(some 4), (.op (.mv (.t 13))), none⟩])
  .ret)),
  [(.t 4)]⟩
theorem r_lanyardref10_Bit : resolveFn Tryd.prog 70 = some c_lanyardref10_Bit := by kernel_rfl

def c_lanyardref10_Right : RFn :=
  ⟨26,
  (.seq
  (.ops [] [
  ⟨(some 1), (.op (.box (.t 0))), none⟩,
  ⟨(some 2), (.op (.mv (.k (.bool false)))), none⟩])
  (.seq
  (.seq
  (.ops [
  ⟨(some 4), (.op (.fieldAddr 17 (.t 1))), none⟩,
  ⟨(some 5), (.op (.load1 (.t 4))), none⟩,
  ⟨(some 6), (.op (.bin .lss (.t 5) (.k (.int .i64 0)))), none⟩,
  ⟨(some 7), (.op (.mv (.t 6))), none⟩,
  ⟨(some 8), (.op (.fieldAddr 17 (.t 1))), (some (7, false))⟩,
  ⟨(some 9), (.op (.load1 (.t 8))), (some (7, false))⟩,
  ⟨(some 10), (.op (.fieldAddr 0 (.t 1))), (some (7, false))⟩,
  ⟨(some 11), (.op (.load1 (.t 10))), (some (7, false))⟩,
  ⟨(some 12), (.call (.k (.func (.func 43) #[] #[])) [(.t 11)]), (some (7, false))⟩] [
  ⟨(some 13), (.op (.bin .gtr (.t 9) (.t 12))), (some (7, false))⟩,
  ⟨(some 14), (.op (.pick (.t 7) (.k (.bool true)) (.t 13))), none⟩])
  (.cond (.t 14)
  (.seq
  (.ops [] [
  ⟨(some 2), (.op (.mv (.k (.bool false)))), none⟩])
  .ret)
  .skip))
  (.seq
  (.seq
  (.ops [] [
  ⟨(some 15), (.op (.fieldAddr 17 (.t 1))), none⟩,
  ⟨(some 16), (.op (.load1 (.t 15))), none⟩,
  ⟨(some 3), (.op (.mv (.t 16))), none⟩])
  (.block 0
  (.loop
  (.seq
  (.seq
  (.ops [] [
  ⟨(some 17), (.op (.mv (.t 3))), none⟩,
  ⟨(some 18), (.op (.bin .lss (.t 17) (.k (.int .i64 128)))), none⟩])
  (.cond (.t 18)
  .skip
  (.exit 0)))
  (.seq
  (.block 1
  (.seq
  (.ops [] [
  ⟨(some 21), (.op (.fieldAddr 1 (.t 1))), none⟩,
  ⟨(some 22), (.op (.loadN 16 (.t 21))), none⟩,
  ⟨(some 23), (.op (.mv (.t 3))), none⟩,
  ⟨(some 24), (.call (.k (.func (.func 70) #[] #[])) [(.t 22), (.t 23)]), none⟩,
  ⟨(some 25), (.op (.bin .eql (.t 24) (.k (.int .u8 1)))), none⟩])
  (.cond (.t 25)
  (.seq
  (.ops [] [
  ⟨(some 2), (.op (.mv (.k (.bool false)))), none⟩])
  .ret)
  .skip)))
  (.ops [] [
  ⟨(some 19), (.op (.mv (.t 3))), none⟩,
  ⟨(some 20), (.op (.bin .add (.t 19) (.k (.int .i64 1)))), none⟩,
  ⟨(some 3), (.op (.mv (.t 20))), none⟩]))))))
  (.seq
  (.ops [] [
  ⟨(some 2), (.op (.mv (.k (.bool true)))), none⟩])
  .ret)))),
  [(.t 2)]⟩
theorem r_lanyardref10_Right : resolveFn Tryd.prog 42 = some c_lanyardref10_Right := by kernel_rfl

def c_lanyardref10_CmpAddr : RFn :=
  ⟨24,
  (.seq
  (.ops [] [
  ⟨(some 2), (.op (.box (.t 0))), none⟩,
  ⟨(some 3), (.op (.box (.t 1))), none⟩,
  ⟨(some 4), (.op (.mv (.k (.int .i64 0)))), none⟩])
  (.seq
  (.seq
  (.ops [] [
  ⟨(some 5), (.op (.mv (.k (.int .i64 0)))), none⟩])
  (.block 0
  (.loop
  (.seq
  (.seq
  (.ops [] [
  ⟨(some 6), (.op (.mv (.t 5))), none⟩,
  ⟨(some 7), (.op (.bin .lss (.t 6) (.k (.int .i64 16)))), none⟩])
  (.cond (.t 7)
  .skip
  (.exit 0)))
  (.seq
  (.block 1
  (.seq
  (.seq
  (.ops [
  ⟨(some 10), (.op (.mv (.t 5))), none⟩,
  ⟨(some 11), (.op (.ixAddrA 16 1 (.t 2) (.t 10))), none⟩,
  ⟨(some 12), (.op (.load1 (.t 11))), none⟩,
  ⟨(some 13), (.op (.mv (.t 5))), none⟩,
  ⟨(some 14), (.op (.ixAddrA 16 1 (.t 3) (.t 13))), none⟩,
  ⟨(some 15), (.op (.load1 (.t 14))), none⟩] [
  ⟨(some 16), (.op (.bin .lss (.t 12) (.t 15))), none⟩])
  (.cond (.t 16)
  (.seq
  (.ops [] [
  ⟨(some 4), (.op (.mv (.k (.int .i64 (-1))))), none⟩])
  .ret)
  .skip))
  (.seq
  (.ops [
  ⟨(some 17), (.op (.mv (.t 5))), none⟩,
  ⟨(some 18), (.op (.ixAddrA 16 1 (.t 2) (.t 17))), none⟩,
  ⟨(some 19), (.op (.load1 (.t 18))), none⟩,
  ⟨(some 20), (.op (.mv (.t 5))), none⟩,
  ⟨(some 21), (.op (.ixAddrA 16 1 (.t 3) (.t 20))), none⟩,
  ⟨(some 22), (.op (.load1 (.t 21))), none⟩] [
  ⟨(some 23), (.op (.bin .gtr (.t 19) (.t 22))), none⟩])
  (.cond (.t 23)
  (.seq
  (.ops [] [
  ⟨(some 4), (.op (.mv (.k (.int .i64 1)))), none⟩])
  .ret)
  .skip))))
  (.ops [] [
  ⟨(some 8), (.op (.mv (.t 5))), none⟩,
  ⟨(some 9), (.op (.bin .add (.t 8) (.k (.int .i64 1)))), none⟩,
  ⟨(some 5), (.op (.mv (.t 9))), none⟩]))))))
  (.seq
  (.ops [] [
  ⟨(some 4), (.op (.mv (.k (.int .i64 0)))), none⟩])
  .ret))),
  [(.t 4)]⟩
theorem r_lanyardref10_CmpAddr : resolveFn Tryd.prog 68 = some c_lanyardref10_CmpAddr := by kernel_rfl

def c_lanyardref10_Cmp : RFn :=
  ⟨37,
  (.seq
  (.ops [] [
  ⟨(some 2), (.op (.box (.t 0))), none⟩,
  ⟨(some 3), (.op (.box (.t 1))), none⟩,
  ⟨(some 4), (.op (.mv (.k (.int .i64 0)))), none⟩])
  (.seq
  (.seq
  (.ops [] [
  ⟨(some 6), (.op (.fieldAddr 0 (.t 2))), none⟩,
  ⟨(some 7), (.op (.load1 (.t 6))), none⟩,
  ⟨(some 8), (.op (.fieldAddr 0 (.t 3))), none⟩,
  ⟨(some 9), (.op (.load1 (.t 8))), none⟩,
  ⟨(some 10), (.op (.eqB true (.t 7) (.t 9))), none⟩])
  (.cond (.t 10)
  (.seq
  (.seq
  (.ops [] [
  ⟨(some 11), (.op (.fieldAddr 0 (.t 3))), none⟩,
  ⟨(some 12), (.op (.load1 (.t 11))), none⟩])
  (.cond (.t 12)
  (.seq
  (.ops [] [
  ⟨(some 4), (.op (.mv (.k (.int .i64 (-1))))), none⟩])
  .ret)
  .skip))
  (.seq
  (.ops [] [
  ⟨(some 4), (.op (.mv (.k (.int .i64 1)))), none⟩])
  .ret))
  .skip))
  (.seq
  (.ops [] [
  ⟨(some 13), (.op (.fieldAddr 1 (.t 2))), none⟩,
  ⟨(some 14), (.op (.loadN 16 (.t 13))), none⟩,
  ⟨(some 15), (.op (.fieldAddr 1 (.t 3))), none⟩,
  ⟨(some 16), (.op (.loadN 16 (.t 15))), none⟩,
  ⟨(some 17), (.call (.k (.func (.func 68) #[] #[])) [(.t 14), (.t 16)]), none⟩,
  ⟨(some 5), (.op (.mv (.t 17))), none⟩])
  (.seq
  (.seq
  (.ops [] [
  ⟨(some 18), (.op (.mv (.t 5))), none⟩,
  ⟨(some 19), (.op (.bin .eql (.t 18) (.k (.int .i64 0)))), none⟩,
  ⟨(some 20), (.op (.mv (.t 19))), none⟩,
  ⟨(some 21), (.op (.fieldAddr 17 (.t 2))), (some (20, true))⟩,
  ⟨(some 22), (.op (.load1 (.t 21))), (some (20, true))⟩,
  ⟨(some 23), (.op (.fieldAddr 17 (.t 3))), (some (20, true))⟩,
  ⟨(some 24), (.op (.load1 (.t 23))), (some (20, true))⟩,
  ⟨(some 25), (.op (.bin .lss (.t 22) (.t 24))), (some (20, true))⟩,
  ⟨(some 26), (.op (.pick (.t 20) (.t 25) (.k (.bool false)))), none⟩])
  (.cond (.t 26)
  (.seq
  (.ops [] [
  ⟨(some 4), (.op (.mv (.k (.int .i64 (-1))))), none⟩])
  .ret)
  .skip))
  (.seq
  (.seq
  (.ops [] [
  ⟨(some 27), (.op (.mv (.t 5))), none⟩,
  ⟨(some 28), (.op (.bin .eql (.t 27) (.k (.int .i64 0)))), none⟩,
  ⟨(some 29), (.op (.mv (.t 28))), none⟩,
  ⟨(some 30), (.op (.fieldAddr 17 (.t 2))), (some (29, true))⟩,
  ⟨(some 31), (.op (.load1 (.t 30))), (some (29, true))⟩,
  ⟨(some 32), (.op (.fieldAddr 17 (.t 3))), (some (29, true))⟩,
  ⟨(some 33), (.op (.load1 (.t 32))), (some (29, true))⟩,
  ⟨(some 34), (.op (.bin .gtr (.t 31) (.t 33))), (some (29, true))⟩,
  ⟨(some 35), (.op (.pick (.t 29) (.t 34) (.k (.bool false)))), none⟩])
  (.cond (.t 35)
  (.seq
  (.ops [] [
  ⟨(some 4), (.op (.mv (.k (.int .i64 1)))), none⟩])
  .ret)
  .skip))
  (.seq
  (.ops [] [
  ⟨(some 36), (.op (.mv (.t 5))), none⟩,
  ⟨(some 4), (.op (.mv (.t 36))), none⟩])
  .ret)))))),
  [(.t 4)]⟩
theorem r_lanyardref10_Cmp : resolveFn Tryd.prog 39 = some c_lanyardref10_Cmp := by kernel_rfl

def c_lanyardref18_One : RFn :=
  ⟨23,
  (.seq
  (.ops [] [
  ⟨(some 1), (.op (.box (.t 0))), none⟩,
  ⟨(some 2), (.op (.mv (.k (.bool false)))), none⟩])
  (.seq
  (.ops [
  ⟨(some 3), (.op (.fieldAddr 1 (.t 1))), none⟩,
  ⟨(some 4), (.op (.loadN 18 (.t 3))), none⟩,
  ⟨(some 5), (.call (.k (.func (.func 42) #[] #[])) [(.t 4)]), none⟩,
  ⟨(some 6), (.op (.mv (.t 5))), none⟩,
  ⟨(some 7), (.op (.fieldAddr 19 (.t 1))), (some (6, true))⟩,
  ⟨(some 8), (.op (.load1 (.t 7))), (some (6, true))⟩,
  ⟨(some 9), (.op (.fieldAddr 1 (.t 1))), (some (6, true))⟩,
  ⟨(some 10), (.op (.fieldAddr 17 (.t 9))), (some (6, true))⟩,
  ⟨(some 11), (.op (.load1 (.t 10))), (some (6, true))⟩,
  ⟨(some 12), (.op (.bin .geq (.t 8) (.t 11))), (some (6, true))⟩,
  ⟨(some 13), (.op (.pick (.t 6) (.t 12) (.k (.bool false)))), none⟩,
  ⟨(some 14), (.op (.mv (.t 13))), none⟩,
  ⟨(some 15), (.op (.fieldAddr 19 (.t 1))), (some (14, true))⟩,
  ⟨(some 16), (.op (.load1 (.t 15))), (some (14, true))⟩,
  ⟨(some 17), (.op (.fieldAddr 1 (.t 1))), (some (14, true))⟩,
  ⟨(some 18), (.op (.fieldAddr 0 (.t 17))), (some (14, true))⟩,
  ⟨(some 19), (.op (.load1 (.t 18))), (some (14, true))⟩,
  ⟨(some 20), (.call (.k (.func (.func 43) #[] #[])) [(.t 19)]), (some (14, true))⟩] [
  ⟨(some 21), (.op (.bin .leq (.t 16) (.t 20))), (some (14, true))⟩,
  ⟨(some 22), (.op (.pick (.t 14) (.t 21) (.k (.bool false)))), none⟩,
  ⟨(some 2), (.op (.mv (.t 22))), none⟩])
  .ret)),
  [(.t 2)]⟩
theorem r_lanyardref18_One : resolveFn Tryd.prog 19 = some c_lanyardref18_One := by kernel_rfl

def c_lanyardref18_Cmp : RFn :=
  ⟨39,
  (.seq
  (.ops [] [
  ⟨(some 2), (.op (.box (.t 0))), none⟩,
  ⟨(some 3), (.op (.box (.t 1))), none⟩,
  ⟨(some 4), (.op (.mv (.k (.int .i64 0)))), none⟩])
  (.seq
  (.ops [] [
  ⟨(some 6), (.op (.fieldAddr 1 (.t 2))), none⟩,
  ⟨(some 7), (.op (.loadN 18 (.t 6))), none⟩,
  ⟨(some 8), (.op (.fieldAddr 1 (.t 3))), none⟩,
  ⟨(some 9), (.op (.loadN 18 (.t 8))), none⟩,
  ⟨(some 10), (.call (.k (.func (.func 39) #[] #[])) [(.t 7), (.t 9)]), none⟩,
  ⟨(some 5), (.op (.mv (.t 10))), none⟩])
  (.seq
  (.block 0
  (.seq
  (.ops [] [
  ⟨(some 12), (.op (.mv (.t 5))), none⟩,
  ⟨(some 13), (.op (.bin .neq (.t 12) (.k (.int .i64 0)))), none⟩,
  ⟨(some 11), (.op (.mv (.t 13))), none⟩])
  (.cond (.t 11)
  (.seq
  (.ops [] [
  ⟨(some 14), (.op (.mv (.t 5))), none⟩,
  ⟨(some 4), (.op (.mv (.t 14))), none⟩])
  .ret)
  (.seq
  (.ops [] [
  ⟨(some 16), (.op (.fieldAddr 19 (.t 2))), none⟩,
  ⟨(some 17), (.op (.load1 (.t 16))), none⟩,
  ⟨(some 18), (.op (.fieldAddr 19 (.t 3))), none⟩,
  ⟨(some 19), (.op (.load1 (.t 18))), none⟩,
  ⟨(some 20), (.op (.bin .lss (.t 17) (.t 19))), none⟩,
  ⟨(some 15), (.op (.mv (.t 20))), none⟩])
  (.cond (.t 15)
  (.seq
  (.ops [] [
  ⟨(some 4), (.op (.mv (.k (.int .i64 (-1))))), none⟩])
  .ret)
  (.seq
  (.ops [] [
  ⟨(some 22), (.op (.fieldAddr 19 (.t 2))), none⟩,
  ⟨(some 23), (.op (.load1 (.t 22))), none⟩,
  ⟨(some 24), (.op (.fieldAddr 19 (.t 3))), none⟩,
  ⟨(some 25), (.op (.load1 (.t 24))), none⟩,
  ⟨(some 26), (.op (.bin .gtr (.t 23) (.t 25))), none⟩,
  ⟨(some 21), (.op (.mv (.t 26))), none⟩])
  (.cond (.t 21)
  (.seq
  (.ops [] [
  ⟨(some 4), (.op (.mv (.k (.int .i64 1)))), none⟩])
  .ret)
  (.seq
  (.ops [] [
  ⟨(some 28), (.op (.fieldAddr 0 (.t 2))), none⟩,
  ⟨(some 29), (.op (.load1 (.t 28))), none⟩,
  ⟨(some 30), (.op (.fieldAddr 0 (.t 3))), none⟩,
  ⟨(some 31), (.op (.load1 (.t 30))), none⟩,
  ⟨(some 32), (.op (.bin .lss (.t 29) (.t 31))), none⟩,
  ⟨(some 27), (.op (.mv (.t 32))), none⟩])
  (.cond (.t 27)
  (.seq
  (.ops [] [
  ⟨(some 4), (.op (.mv (.k (.int .i64 (-1))))), none⟩])
  .ret)
  (.seq
  (.ops [] [
  ⟨(some 34), (.op (.fieldAddr 0 (.t 2))), none⟩,
  ⟨(some 35), (.op (.load1 (.t 34))), none⟩,
  ⟨(some 36), (.op (.fieldAddr 0 (.t 3))), none⟩,
  ⟨(some 37), (.op (.load1 (.t 36))), none⟩,
  ⟨(some 38), (.op (.bin .gtr (.t 35) (.t 37))), none⟩,
  ⟨(some 33), (.op (.mv (.t 38))), none⟩])
  (.cond (.t 33)
  (.seq
  (.ops [] [
  ⟨(some 4), (.op (.mv (.k (.int .i64 1)))), none⟩])
  .ret)
  .skip)))))))))))
  (.seq
  (.ops [] [
  ⟨(some 4), (.op (.mv (.k (.int .i64 0)))), none⟩])
  .ret)))),
  [(.t 4)]⟩
theorem r_lanyardref18_Cmp : resolveFn Tryd.prog 17 = some c_lanyardref18_Cmp := by kernel_rfl

def c_lanyardref18_Right : RFn :=
  ⟨53,
  (.seq
  (.ops [] [
  ⟨(some 2), (.op (.mv (.k (.bool false)))), none⟩])
  (.seq
  (.seq
  (.ops [] [
  ⟨(some 3), (.op (.mv (.k (.int .i64 0)))), none⟩])
  (.block 0
  (.loop
  (.seq
  (.seq
  (.ops [] [
  ⟨(some 4), (.op (.mv (.t 3))), none⟩,
  ⟨(some 5), (.op (.mv (.t 0))), none⟩,
  ⟨(some 6), (.op (.lenSl (.t 5))), none⟩,
  ⟨(some 7), (.op (.bin .lss (.t 4) (.t 6))), none⟩])
  (.cond (.t 7)
  .skip
  (.exit 0)))
  (.seq
  (.block 1
  (.seq
  (.ops [
  ⟨(some 10), (.op (.mv (.t 0))), none⟩,
  ⟨(some 11), (.op (.mv (.t 3))), none⟩,
  ⟨(some 12), (.op (.ixAddr 20 (.t 10) (.t 11))), none⟩,
  ⟨(some 13), (.op (.loadN 20 (.t 12))), none⟩,
  ⟨(some 14), (.call (.k (.func (.func 19) #[] #[])) [(.t 13)]), none⟩,
  ⟨(some 15), (.op (.un .not (.t 14))), none⟩,
  ⟨(some 16), (.op (.mv (.t 15))), none⟩,
  ⟨(some 17), (.op (.mv (.t 0))), (some (16, false))⟩,
  ⟨(some 18), (.op (.mv (.t 3))), (some (16, false))⟩,
  ⟨(some 19), (.op (.ixAddr 20 (.t 17) (.t 18))), (some (16, false))⟩,
  ⟨(some 20), (.op (.fieldAddr 0 (.t 19))), (some (16, false))⟩,
  ⟨(some 21), (.op (.load1 (.t 20))), (some (16, false))⟩,
  ⟨(some 22), (.op (.mv (.t 0))), (some (16, false))⟩,
  ⟨(some 23), (.op (.ixAddr 20 (.t 22) (.k (.int .i64 0)))), (some (16, false))⟩,
  ⟨(some 24), (.op (.fieldAddr 0 (.t 23))), (some (16, false))⟩,
  ⟨(some 25), (.op (.load1 (.t 24))), (some (16, false))⟩,
  ⟨(some 26), (.op (.bin .neq (.t 21) (.t 25))), (some (16, false))⟩,
  ⟨(some 27), (.op (.pick (.t 16) (.k (.bool true)) (.t 26))), none⟩,
  ⟨(some 28), (.op (.mv (.t 27))), none⟩,
  ⟨(some 29), (.op (.mv (.t 3))), (some (28, false))⟩,
  ⟨(some 30), (.op (.bin .gtr (.t 29) (.k (.int .i64 0)))), (some (28, false))⟩,
  ⟨(some 31), (.op (.mv (.t 30))), (some (28, false))⟩,
  ⟨(some 32), (.op (.mv (.t 0))), (some (31, true))⟩,
  ⟨(some 33), (.op (.mv (.t 3))), (some (31, true))⟩,
  ⟨(some 34), (.op (.bin .sub (.t 33) (.k (.int .i64 1)))), (some (31, true))⟩,
  ⟨(some 35), (.op (.ixAddr 20 (.t 32) (.t 34))), (some (31, true))⟩,
  ⟨(some 36), (.op (.loadN 20 (.t 35))), (some (31, true))⟩,
  ⟨(some 37), (.op (.mv (.t 0))), (some (31, true))⟩,
  ⟨(some 38), (.op (.mv (.t 3))), (some (31, true))⟩,
  ⟨(some 39), (.op (.ixAddr 20 (.t 37) (.t 38))), (some (31, true))⟩,
  ⟨(some 40), (.op (.loadN 20 (.t 39))), (some (31, true))⟩] [
  ⟨(some 41), (.call (.k (.func (.func 17) #[] #[])) [(.t 36), (.t 40)]), (some (31, true))⟩,
  ⟨(some 42), (.op (.bin .geq (.t 41) (.k (.int .i64 0)))), (some (31, true))⟩,
  ⟨(some 43), (.op (.pick (.t 31) (.t 42) (.k (.bool false)))), (some (28, false))⟩,
  ⟨(some 44), (.op (.pick (.t 28) (.k (.bool true)) (.t 43))), none⟩])
  (.cond (.t 44)
  (.seq
  (.ops [] [
  ⟨(some 2), (.op (.mv (.k (.bool false)))), none⟩])
  .ret)
  .skip)))
  (.ops [] [
  ⟨(some 8), (.op (.mv (.t 3))), none⟩,
  ⟨(some 9), (.op (.bin .add (.t 8) (.k (.int .i64 1)))), none⟩,
  ⟨(some 3), (.op (.mv (.t 9))), none⟩]))))))
  (.seq
  (.ops [] [
  ⟨(some 45), (.op (.mv (.t 0))), none⟩,
  ⟨(some 46), (.op (.lenSl (.t 45))), none⟩,
  ⟨(some 47), (.op (.bin .geq (.t 46) (.k (.int .i64 1)))), none⟩,
  ⟨(some 48), (.op (.mv (.t 47))), none⟩,
  ⟨(some 49), (.op (.mv (.t 0))), (some (48, true))⟩,
  ⟨(some 50), (.op (.lenSl (.t 49))), (some (48, true))⟩,
  ⟨(some 51), (.op (.bin .leq (.t 50) (.k (.int .i64 400)))), (some (48, true))⟩,
  ⟨(some 52), (.op (.pick (.t 48) (.t 51) (.k (.bool false)))), none⟩,
  ⟨(some 2), (.op (.mv (.t 52))), none⟩])
  .ret))),
  [(.t 2)]⟩
def d_lanyardref18_Make : List (List Nat) := [[], [], [1], [2], [3], [0, 4], [], [6], [5, 7], [8], [9], [9], [], [12, 10, 8, 0, 1, 2, 3, 4, 5, 6, 7, 8, 9, 10, 12], [11, 13, 0, 1, 2, 3, 4, 5, 6, 7, 8, 9, 10, 11, 12, 13]]
def q_lanyardref18_Make : List (Option (List Nat)) := [none, none, none, none, none, none, none, none, none, (some [8]), (some [9]), (some [9]), none, none, (some [11])]
def c_lanyardref18_Make : RFn :=
  ⟨66,
  (.seq
  (.ops [] [
  ⟨(some 2), (.op (.mv (.k (.slice none 0 0)))), none⟩,
  ⟨(some 3), (.op (.mv (.k (.int .i64 0)))), none⟩])
  (.seq
  (.seq
  (.ops [] [
  ⟨(some 9), (.op (.mv (.t 0))), none⟩,
  ⟨(some 10), (.call (.k (.func (.func 15) #[] #[])) [(.t 9)]), none⟩,
  ⟨(some 11), (.op (.un .not (.t 10))), none⟩])
  (.cond (.t 11)
  (.seq
  (.ops [] [
  ⟨(some 2), (.op (.mv (.k (.slice none 0 0)))), none⟩,
  ⟨(some 3), (.op (.mv (.k (.int .i64 1)))), none⟩])
  .ret)
  .skip))
  (.seq
  (.ops [] [
  ⟨(some 12), (.op (.build [(.int .i64 0), (.slice none 0 0), (.slice none 0 0)] [(0, (1, (.k (.int .i64 48))))])), none⟩,
  ⟨(some 4), (.op (.new [(.int .i64 0), (.slice none 0 0), (.slice none 0 0)])), none⟩,
  ⟨none, (.op (.store 3 (.t 4) (.t 12))), none⟩])
  (.seq
  (.seq
  (.ops [] [
  ⟨(some 5), (.op (.mv (.k (.int .i64 0)))), none⟩])
  (.block 0
  (.loop
  (.seq
  (.seq
  (.ops [] [
  ⟨(some 13), (.op (.mv (.t 5))), none⟩,
  ⟨(some 14), (.op (.mv (.t 0))), none⟩,
  ⟨(some 15), (.op (.lenSl (.t 14))), none⟩,
  ⟨(some 16), (.op (.bin .lss (.t 13) (.t 15))), none⟩])
  (.cond (.t 16)
  .skip
  (.exit 0)))
  (.seq
  (.block 1
  (.seq
  (.ops [] [
  ⟨(some 19), (.op (.mv (.t 0))), none⟩,
  ⟨(some 20), (.op (.mv (.t 5))), none⟩,
  ⟨(some 21), (.op (.ixAddr 20 (.t 19) (.t 20))), none⟩,
  ⟨(some 22), (.op (.fieldAddr 1 (.t 21))), none⟩,
  ⟨(some 23), (.op (.loadN 18 (.t 22))), none⟩,
  ⟨(some 6), (.op (.new [(.bool false), (.int .u8 0), (.int .u8 0), (.int .u8 0), (.int .u8 0), (.int .u8 0), (.int .u8 0), (.int .u8 0), (.int .u8 0), (.int .u8 0), (.int .u8 0), (.int .u8 0), (.int .u8 0), (.int .u8 0), (.int .u8 0), (.int .u8 0), (.int .u8 0), (.int .i64 0)])), none⟩,
  ⟨none, (.op (.store 18 (.t 6) (.t 23))), none⟩])
  (.seq
  (.tree [
  ⟨(some 25), (.op (.fieldAddr 1 (.t 6))), none⟩,
  ⟨(some 26), (.op (.fieldAddr 17 (.t 6))), none⟩,
  ⟨(some 27), (.op (.load1 (.t 26))), none⟩,
  ⟨(some 28), (.op (.bin .add (.t 27) (.k (.int .i64 7)))), none⟩,
  ⟨(some 29), (.op (.bin .quo (.t 28) (.k (.int .i64 8)))), none⟩,
  ⟨(some 30), (.op (.slArr 16 1 (.t 25) none (some (.t 29)) none)), none⟩,
  ⟨(some 31), (.op (.fieldAddr 17 (.t 6))), none⟩,
  ⟨(some 32), (.op (.load1 (.t 31))), none⟩,
  ⟨(some 33), (.call (.k (.func (.func 24) #[] #[])) [(.t 30), (.t 32)]), none⟩,
  ⟨(some 24), (.op (.mv (.t 33))), none⟩,
  ⟨(some 34), (.op (.extract (.t 24) 0)), none⟩,
  ⟨(some 35), (.op (.extract (.t 24) 1)), none⟩,
  ⟨(some 7), (.op (.new [(.int .i64 0), (.slice none 0 0), (.slice none 0 0)])), none⟩,
  ⟨none, (.op (.store 3 (.t 7) (.t 34))), none⟩,
  ⟨(some 8), (.op (.mv (.t 35))), none⟩] d_lanyardref18_Make q_lanyardref18_Make)
  (.ops [
  ⟨(some 36), (.op (.fieldAddr 2 (.t 4))), none⟩,
  ⟨(some 37), (.op (.load1 (.t 36))), none⟩,
  ⟨(some 38), (.op (.fieldAddr 0 (.t 6))), none⟩,
  ⟨(some 39), (.op (.load1 (.t 38))), none⟩,
  ⟨(some 40), (.call (.k (.func (.func 25) #[] #[])) [(.t 39)]), none⟩,
  ⟨(some 41), (.op (.loadN 3 (.t 7))), none⟩,
  ⟨(some 42), (.op (.mv (.t 0))), none⟩,
  ⟨(some 43), (.op (.mv (.t 5))), none⟩,
  ⟨(some 44), (.op (.ixAddr 20 (.t 42) (.t 43))), none⟩,
  ⟨(some 45), (.op (.fieldAddr 19 (.t 44))), none⟩,
  ⟨(some 46), (.op (.load1 (.t 45))), none⟩,
  ⟨(some 47), (.op (.toInt .u64 (.t 46))), none⟩,
  ⟨(some 48), (.call (.k (.func (.func 26) #[] #[])) [(.t 47)]), none⟩,
  ⟨(some 49), (.op (.mkSl 3 [(.int .i64 0), (.slice none 0 0), (.slice none 0 0), (.int .i64 0), (.slice none 0 0), (.slice none 0 0), (.int .i64 0), (.slice none 0 0), (.slice none 0 0)] [(0, (3, (.t 40))), (3, (3, (.t 41))), (6, (3, (.t 48)))])), none⟩,
  ⟨(some 50), (.op (.build [(.int .i64 0), (.slice none 0 0), (.slice none 0 0)] [(0, (1, (.k (.int .i64 48)))), (2, (1, (.t 49)))])), none⟩,
  ⟨(some 51), (.op (.mkSl 1 [(.int .i64 0), (.slice none 0 0), (.slice none 0 0)] [(0, (3, (.t 50)))])), none⟩] [
  ⟨(some 52), (.op (.append 3 56 (.t 37) (.t 51))), none⟩,
  ⟨(some 53), (.op (.fieldAddr 2 (.t 4))), none⟩,
  ⟨none, (.op (.store 1 (.t 53) (.t 52))), none⟩]))))
  (.ops [] [
  ⟨(some 17), (.op (.mv (.t 5))), none⟩,
  ⟨(some 18), (.op (.bin .add (.t 17) (.k (.int .i64 1)))), none⟩,
  ⟨(some 5), (.op (.mv (.t 18))), none⟩]))))))
  (.seq
  (.ops [
  ⟨(some 54), (.op (.mv (.t 0))), none⟩,
  ⟨(some 55), (.op (.ixAddr 20 (.t 54) (.k (.int .i64 0)))), none⟩,
  ⟨(some 56), (.op (.fieldAddr 0 (.t 55))), none⟩,
  ⟨(some 57), (.op (.load1 (.t 56))), none⟩,
  ⟨(some 58), (.op (.toInt .u64 (.t 57))), none⟩,
  ⟨(some 59), (.call (.k (.func (.func 26) #[] #[])) [(.t 58)]), none⟩,
  ⟨(some 60), (.op (.loadN 3 (.t 4))), none⟩,
  ⟨(some 61), (.op (.mkSl 2 [(.int .i64 0), (.slice none 0 0), (.slice none 0 0), (.int .i64 0), (.slice none 0 0), (.slice none 0 0)] [(0, (3, (.t 59))), (3, (3, (.t 60)))])), none⟩,
  ⟨(some 62), (.op (.build [(.int .i64 0), (.slice none 0 0), (.slice none 0 0)] [(0, (1, (.k (.int .i64 48)))), (2, (1, (.t 61)))])), none⟩,
  ⟨(some 63), (.call (.k (.func (.func 27) #[] #[])) [(.t 62)]), none⟩,
  ⟨(some 64), (.op (.extract (.t 63) 0)), none⟩,
  ⟨(some 65), (.op (.extract (.t 63) 1)), none⟩] [
  ⟨(some 2), (.op (.mv (.t 64))), none⟩,
  ⟨(some 3), (.op (.mv (.t 65))), none⟩])
  .ret))))),
  [(.t 2), (.t 3)]⟩
def c_lanyardref18_Read : RFn :=
  ⟨135,
  (.seq
  (.ops [] [
  ⟨(some 2), (.op (.mv (.k (.slice none 0 0)))), none⟩,
  ⟨(some 3), (.op (.mv (.k (.int .i64 0)))), none⟩])
  (.seq
  (.ops [] [
  ⟨(some 22), (.op (.mv (.t 0))), none⟩,
  ⟨(some 23), (.call (.k (.func (.func 31) #[] #[])) [(.t 22)]), none⟩,
  ⟨(some 21), (.op (.mv (.t 23))), none⟩,
  ⟨(some 24), (.op (.extract (.t 21) 0)), none⟩,
  ⟨(some 25), (.op (.extract (.t 21) 1)), none⟩,
  ⟨(some 4), (.op (.new [(.int .i64 0), (.slice none 0 0), (.slice none 0 0)])), none⟩,
  ⟨none, (.op (.store 3 (.t 4) (.t 24))), none⟩,
  ⟨(some 5), (.op (.mv (.t 25))), none⟩])
  (.seq
  (.seq
  (.ops [] [
  ⟨(some 26), (.op (.mv (.t 5))), none⟩,
  ⟨(some 27), (.op (.bin .neq (.t 26) (.k (.int .i64 0)))), none⟩])
  (.cond (.t 27)
  (.seq
  (.ops [] [
  ⟨(some 28), (.op (.mv (.t 5))), none⟩,
  ⟨(some 2), (.op (.mv (.k (.slice none 0 0)))), none⟩,
  ⟨(some 3), (.op (.mv (.t 28))), none⟩])
  .ret)
  .skip))
  (.seq
  (.seq
  (.ops [] [
  ⟨(some 29), (.op (.fieldAddr 2 (.t 4))), none⟩,
  ⟨(some 30), (.op (.load1 (.t 29))), none⟩,
  ⟨(some 31), (.op (.lenSl (.t 30))), none⟩,
  ⟨(some 32), (.op (.bin .neq (.t 31) (.k (.int .i64 2)))), none⟩])
  (.cond (.t 32)
  (.seq
  (.ops [] [
  ⟨(some 2), (.op (.mv (.k (.slice none 0 0)))), none⟩,
  ⟨(some 3), (.op (.mv (.k (.int .i64 2)))), none⟩])
  .ret)
  .skip))
  (.seq
  (.ops [] [
  ⟨(some 34), (.op (.fieldAddr 2 (.t 4))), none⟩,
  ⟨(some 35), (.op (.load1 (.t 34))), none⟩,
  ⟨(some 36), (.op (.ixAddr 3 (.t 35) (.k (.int .i64 0)))), none⟩,
  ⟨(some 37), (.op (.loadN 3 (.t 36))), none⟩,
  ⟨(some 38), (.call (.k (.func (.func 32) #[] #[])) [(.t 37)]), none⟩,
  ⟨(some 33), (.op (.mv (.t 38))), none⟩,
  ⟨(some 39), (.op (.extract (.t 33) 0)), none⟩,
  ⟨(some 40), (.op (.extract (.t 33) 1)), none⟩,
  ⟨(some 6), (.op (.mv (.t 39))), none⟩,
  ⟨(some 7), (.op (.mv (.t 40))), none⟩])
  (.seq
  (.ops [] [
  ⟨(some 8), (.op (.mv (.k (.slice none 0 0)))), none⟩])
  (.seq
  (.seq
  (.ops [] [
  ⟨(some 9), (.op (.mv (.k (.int .i64 0)))), none⟩])
  (.block 0
  (.loop
  (.seq
  (.seq
  (.ops [] [
  ⟨(some 41), (.op (.mv (.t 9))), none⟩,
  ⟨(some 42), (.op (.fieldAddr 2 (.t 4))), none⟩,
  ⟨(some 43), (.op (.load1 (.t 42))), none⟩,
  ⟨(some 44), (.op (.ixAddr 3 (.t 43) (.k (.int .i64 1)))), none⟩,
  ⟨(some 45), (.op (.fieldAddr 2 (.t 44))), none⟩,
  ⟨(some 46), (.op (.load1 (.t 45))), none⟩,
  ⟨(some 47), (.op (.lenSl (.t 46))), none⟩,
  ⟨(some 48), (.op (.bin .lss (.t 41) (.t 47))), none⟩])
  (.cond (.t 48)
  .skip
  (.exit 0)))
  (.seq
  (.block 1
  (.seq
  (.ops [] [
  ⟨(some 51), (.op (.fieldAddr 2 (.t 4))), none⟩,
  ⟨(some 52), (.op (.load1 (.t 51))), none⟩,
  ⟨(some 53), (.op (.ixAddr 3 (.t 52) (.k (.int .i64 1)))), none⟩,
  ⟨(some 54), (.op (.fieldAddr 2 (.t 53))), none⟩,
  ⟨(some 55), (.op (.load1 (.t 54))), none⟩,
  ⟨(some 56), (.op (.mv (.t 9))), none⟩,
  ⟨(some 57), (.op (.ixAddr 3 (.t 55) (.t 56))), none⟩,
  ⟨(some 58), (.op (.fieldAddr 2 (.t 57))), none⟩,
  ⟨(some 59), (.op (.load1 (.t 58))), none⟩,
  ⟨(some 10), (.op (.mv (.t 59))), none⟩])
  (.seq
  (.seq
  (.ops [] [
  ⟨(some 60), (.op (.mv (.t 10))), none⟩,
  ⟨(some 61), (.op (.lenSl (.t 60))), none⟩,
  ⟨(some 62), (.op (.bin .neq (.t 61) (.k (.int .i64 3)))), none⟩])
  (.cond (.t 62)
  (.seq
  (.ops [] [
  ⟨(some 2), (.op (.mv (.k (.slice none 0 0)))), none⟩,
  ⟨(some 3), (.op (.mv (.k (.int .i64 2)))), none⟩])
  .ret)
  .skip))
  (.seq
  (.ops [] [
  ⟨(some 63), (.op (.mv (.t 6))), none⟩,
  ⟨(some 64), (.op (.toInt .u32 (.t 63))), none⟩,
  ⟨(some 65), (.op (.build [(.int .u32 0), (.bool false), (.int .u8 0), (.int .u8 0), (.int .u8 0), (.int .u8 0), (.int .u8 0), (.int .u8 0), (.int .u8 0), (.int .u8 0), (.int .u8 0), (.int .u8 0), (.int .u8 0), (.int .u8 0), (.int .u8 0), (.int .u8 0), (.int .u8 0), (.int .u8 0), (.int .i64 0), (.int .i64 0)] [(0, (1, (.t 64)))])), none⟩,
  ⟨(some 11), (.op (.new [(.int .u32 0), (.bool false), (.int .u8 0), (.int .u8 0), (.int .u8 0), (.int .u8 0), (.int .u8 0), (.int .u8 0), (.int .u8 0), (.int .u8 0), (.int .u8 0), (.int .u8 0), (.int .u8 0), (.int .u8 0), (.int .u8 0), (.int .u8 0), (.int .u8 0), (.int .u8 0), (.int .i64 0), (.int .i64 0)])), none⟩,
  ⟨none, (.op (.store 20 (.t 11) (.t 65))), none⟩])
  (.seq
  (.ops [] [
  ⟨(some 67), (.op (.mv (.t 10))), none⟩,
  ⟨(some 68), (.op (.ixAddr 3 (.t 67) (.k (.int .i64 0)))), none⟩,
  ⟨(some 69), (.op (.loadN 3 (.t 68))), none⟩,
  ⟨(some 70), (.call (.k (.func (.func 33) #[] #[])) [(.t 69)]), none⟩,
  ⟨(some 66), (.op (.mv (.t 70))), none⟩,
  ⟨(some 71), (.op (.extract (.t 66) 0)), none⟩,
  ⟨(some 72), (.op (.extract (.t 66) 1)), none⟩,
  ⟨(some 12), (.op (.mv (.t 71))), none⟩,
  ⟨(some 13), (.op (.mv (.t 72))), none⟩])
  (.seq
  (.ops [] [
  ⟨(some 74), (.op (.mv (.t 10))), none⟩,
  ⟨(some 75), (.op (.ixAddr 3 (.t 74) (.k (.int .i64 1)))), none⟩,
  ⟨(some 76), (.op (.loadN 3 (.t 75))), none⟩,
  ⟨(some 77), (.call (.k (.func (.func 34) #[] #[])) [(.t 76)]), none⟩,
  ⟨(some 73), (.op (.mv (.t 77))), none⟩,
  ⟨(some 78), (.op (.extract (.t 73) 0)), none⟩,
  ⟨(some 79), (.op (.extract (.t 73) 1)), none⟩,
  ⟨(some 80), (.op (.extract (.t 73) 2)), none⟩,
  ⟨(some 14), (.op (.mv (.t 78))), none⟩,
  ⟨(some 15), (.op (.mv (.t 79))), none⟩,
  ⟨(some 16), (.op (.mv (.t 80))), none⟩])
  (.seq
  (.ops [] [
  ⟨(some 82), (.op (.mv (.t 10))), none⟩,
  ⟨(some 83), (.op (.ixAddr 3 (.t 82) (.k (.int .i64 2)))), none⟩,
  ⟨(some 84), (.op (.loadN 3 (.t 83))), none⟩,
  ⟨(some 85), (.call (.k (.func (.func 32) #[] #[])) [(.t 84)]), none⟩,
  ⟨(some 81), (.op (.mv (.t 85))), none⟩,
  ⟨(some 86), (.op (.extract (.t 81) 0)), none⟩,
  ⟨(some 87), (.op (.extract (.t 81) 1)), none⟩,
  ⟨(some 17), (.op (.mv (.t 86))), none⟩,
  ⟨(some 18), (.op (.mv (.t 87))), none⟩])
  (.seq
  (.ops [] [
  ⟨(some 88), (.op (.mv (.t 12))), none⟩,
  ⟨(some 89), (.op (.fieldAddr 1 (.t 11))), none⟩,
  ⟨(some 90), (.op (.fieldAddr 0 (.t 89))), none⟩,
  ⟨none, (.op (.store 1 (.t 90) (.t 88))), none⟩])
  (.seq
  (.ops [] [
  ⟨(some 91), (.op (.mv (.t 15))), none⟩,
  ⟨(some 92), (.op (.fieldAddr 1 (.t 11))), none⟩,
  ⟨(some 93), (.op (.fieldAddr 17 (.t 92))), none⟩,
  ⟨none, (.op (.store 1 (.t 93) (.t 91))), none⟩])
  (.seq
  (.seq
  (.ops [] [
  ⟨(some 19), (.op (.mv (.k (.int .i64 0)))), none⟩])
  (.block 2
  (.loop
  (.seq
  (.seq
  (.ops [] [
  ⟨(some 94), (.op (.mv (.t 19))), none⟩,
  ⟨(some 95), (.op (.mv (.t 14))), none⟩,
  ⟨(some 96), (.op (.lenSl (.t 95))), none⟩,
  ⟨(some 97), (.op (.bin .lss (.t 94) (.t 96))), none⟩,
  ⟨(some 98), (.op (.mv (.t 97))), none⟩,
  ⟨(some 99), (.op (.mv (.t 19))), (some (98, true))⟩,
  ⟨(some 100), (.op (.bin .lss (.t 99) (.k (.int .i64 16)))), (some (98, true))⟩,
  ⟨(some 101), (.op (.pick (.t 98) (.t 100) (.k (.bool false)))), none⟩])
  (.cond (.t 101)
  .skip
  (.exit 2)))
  (.seq
  (.block 3
  (.ops [] [
  ⟨(some 104), (.op (.mv (.t 19))), none⟩,
  ⟨(some 105), (.op (.mv (.t 14))), none⟩,
  ⟨(some 106), (.op (.mv (.t 19))), none⟩,
  ⟨(some 107), (.op (.ixAddr 1 (.t 105) (.t 106))), none⟩,
  ⟨(some 108), (.op (.load1 (.t 107))), none⟩,
  ⟨(some 109), (.op (.fieldAddr 1 (.t 11))), none⟩,
  ⟨(some 110), (.op (.fieldAddr 1 (.t 109))), none⟩,
  ⟨(some 111), (.op (.ixAddrA 16 1 (.t 110) (.t 104))), none⟩,
  ⟨none, (.op (.store 1 (.t 111) (.t 108))), none⟩]))
  (.ops [] [
  ⟨(some 102), (.op (.mv (.t 19))), none⟩,
  ⟨(some 103), (.op (.bin .add (.t 102) (.k (.int .i64 1)))), none⟩,
  ⟨(some 19), (.op (.mv (.t 103))), none⟩]))))))
  (.seq
  (.ops [] [
  ⟨(some 112), (.op (.mv (.t 17))), none⟩,
  ⟨(some 113), (.op (.mm false (.t 112) [(.k (.int .u64 1000))])), none⟩,
  ⟨(some 114), (.op (.toInt .i64 (.t 113))), none⟩,
  ⟨(some 115), (.op (.fieldAddr 19 (.t 11))), none⟩,
  ⟨none, (.op (.store 1 (.t 115) (.t 114))), none⟩])
  (.ops [] [
  ⟨(some 116), (.op (.mv (.t 8))), none⟩,
  ⟨(some 117), (.op (.loadN 20 (.t 11))), none⟩,
  ⟨(some 118), (.op (.mkSl 1 [(.int .u32 0), (.bool false), (.int .u8 0), (.int .u8 0), (.int .u8 0), (.int .u8 0), (.int .u8 0), (.int .u8 0), (.int .u8 0), (.int .u8 0), (.int .u8 0), (.int .u8 0), (.int .u8 0), (.int .u8 0), (.int .u8 0), (.int .u8 0), (.int .u8 0), (.int .u8 0), (.int .i64 0), (.int .i64 0)] [(0, (20, (.t 117)))])), none⟩,
  ⟨(some 119), (.op (.append 20 48 (.t 116) (.t 118))), none⟩,
  ⟨(some 8), (.op (.mv (.t 119))), none⟩]))))))))))))
  (.ops [] [
  ⟨(some 49), (.op (.mv (.t 9))), none⟩,
  ⟨(some 50), (.op (.bin .add (.t 49) (.k (.int .i64 1)))), none⟩,
  ⟨(some 9), (.op (.mv (.t 50))), none⟩]))))))
  (.seq
  (.ops [] [
  ⟨(some 121), (.op (.mv (.t 8))), none⟩,
  ⟨(some 122), (.call (.k (.func (.func 10) #[] #[])) [(.t 121)]), none⟩,
  ⟨(some 120), (.op (.mv (.t 122))), none⟩,
  ⟨(some 123), (.op (.extract (.t 120) 0)), none⟩,
  ⟨(some 124), (.op (.extract (.t 120) 1)), none⟩,
  ⟨(some 20), (.op (.mv (.t 123))), none⟩,
  ⟨(some 5), (.op (.mv (.t 124))), none⟩])
  (.seq
  (.seq
  (.ops [] [
  ⟨(some 125), (.op (.mv (.t 5))), none⟩,
  ⟨(some 126), (.op (.bin .neq (.t 125) (.k (.int .i64 0)))), none⟩,
  ⟨(some 127), (.op (.mv (.t 126))), none⟩,
  ⟨(some 128), (.op (.mv (.t 20))), (some (127, false))⟩,
  ⟨(some 129), (.op (.b2s (.t 128))), (some (127, false))⟩,
  ⟨(some 130), (.op (.mv (.t 0))), (some (127, false))⟩,
  ⟨(some 131), (.op (.b2s (.t 130))), (some (127, false))⟩,
  ⟨(some 132), (.op (.bin .neq (.t 129) (.t 131))), (some (127, false))⟩,
  ⟨(some 133), (.op (.pick (.t 127) (.k (.bool true)) (.t 132))), none⟩])
  (.cond (.t 133)
  (.seq
  (.ops [] [
  ⟨(some 2), (.op (.mv (.k (.slice none 0 0)))), none⟩,
  ⟨(some 3), (.op (.mv (.k (.int .i64 2)))), none⟩])
  .ret)
  .skip))
  (.seq
  (.ops [] [
  ⟨(some 134), (.op (.mv (.t 8))), none⟩,
  ⟨(some 2), (.op (.mv (.t 134))), none⟩,
  ⟨(some 3), (.op (.mv (.k (.int .i64 0)))), none⟩])
  .ret)))))))))),
  [(.t 2), (.t 3)]⟩
def c_lanyardref18_Same : RFn :=
  ⟨26,
  (.seq
  (.ops [] [
  ⟨(some 4), (.op (.mv (.k (.bool false)))), none⟩])
  (.seq
  (.seq
  (.ops [] [
  ⟨(some 6), (.op (.mv (.t 0))), none⟩,
  ⟨(some 7), (.op (.lenSl (.t 6))), none⟩,
  ⟨(some 8), (.op (.mv (.t 1))), none⟩,
  ⟨(some 9), (.op (.lenSl (.t 8))), none⟩,
  ⟨(some 10), (.op (.bin .neq (.t 7) (.t 9))), none⟩])
  (.cond (.t 10)
  (.seq
  (.ops [] [
  ⟨(some 4), (.op (.mv (.k (.bool false)))), none⟩])
  .ret)
  .skip))
  (.seq
  (.seq
  (.ops [] [
  ⟨(some 5), (.op (.mv (.k (.int .i64 0)))), none⟩])
  (.block 0
  (.loop
  (.seq
  (.seq
  (.ops [] [
  ⟨(some 11), (.op (.mv (.t 5))), none⟩,
  ⟨(some 12), (.op (.mv (.t 0))), none⟩,
  ⟨(some 13), (.op (.lenSl (.t 12))), none⟩,
  ⟨(some 14), (.op (.bin .lss (.t 11) (.t 13))), none⟩])
  (.cond (.t 14)
  .skip
  (.exit 0)))
  (.seq
  (.block 1
  (.seq
  (.ops [
  ⟨(some 17), (.op (.mv (.t 0))), none⟩,
  ⟨(some 18), (.op (.mv (.t 5))), none⟩,
  ⟨(some 19), (.op (.ixAddr 20 (.t 17) (.t 18))), none⟩,
  ⟨(some 20), (.op (.loadN 20 (.t 19))), none⟩,
  ⟨(some 21), (.op (.mv (.t 1))), none⟩,
  ⟨(some 22), (.op (.mv (.t 5))), none⟩,
  ⟨(some 23), (.op (.ixAddr 20 (.t 21) (.t 22))), none⟩,
  ⟨(some 24), (.op (.loadN 20 (.t 23))), none⟩] [
  ⟨(some 25), (.op (.eqA .neq 38 (.t 20) (.t 24))), none⟩])
  (.cond (.t 25)
  (.seq
  (.ops [] [
  ⟨(some 4), (.op (.mv (.k (.bool false)))), none⟩])
  .ret)
  .skip)))
  (.ops [] [
  ⟨(some 15), (.op (.mv (.t 5))), none⟩,
  ⟨(some 16), (.op (.bin .add (.t 15) (.k (.int .i64 1)))), none⟩,
  ⟨(some 5), (.op (.mv (.t 16))), none⟩]))))))
  (.seq
  (.ops [] [
  ⟨(some 4), (.op (.mv (.k (.bool true)))), none⟩])
  .ret)))),
  [(.t 4)]⟩
def c_lanyardlaw18_awake : RFn :=
  ⟨52,
  (.seq
  (.ops [] [
  ⟨(some 0), (.op (.mv (.k (.bool false)))), none⟩])
  (.seq
  (.ops [] [
  ⟨(some 6), (.op (.build [(.int .u8 0), (.int .u8 0), (.int .u8 0), (.int .u8 0), (.int .u8 0), (.int .u8 0), (.int .u8 0), (.int .u8 0), (.int .u8 0), (.int .u8 0), (.int .u8 0), (.int .u8 0), (.int .u8 0), (.int .u8 0), (.int .u8 0), (.int .u8 0)] [(0, (1, (.k (.int .u8 10))))])), none⟩,
  ⟨(some 7), (.op (.build [(.bool false), (.int .u8 0), (.int .u8 0), (.int .u8 0), (.int .u8 0), (.int .u8 0), (.int .u8 0), (.int .u8 0), (.int .u8 0), (.int .u8 0), (.int .u8 0), (.int .u8 0), (.int .u8 0), (.int .u8 0), (.int .u8 0), (.int .u8 0), (.int .u8 0), (.int .i64 0)] [(1, (16, (.t 6))), (17, (1, (.k (.int .i64 8))))])), none⟩,
  ⟨(some 8), (.op (.build [(.int .u32 0), (.bool false), (.int .u8 0), (.int .u8 0), (.int .u8 0), (.int .u8 0), (.int .u8 0), (.int .u8 0), (.int .u8 0), (.int .u8 0), (.int .u8 0), (.int .u8 0), (.int .u8 0), (.int .u8 0), (.int .u8 0), (.int .u8 0), (.int .u8 0), (.int .u8 0), (.int .i64 0), (.int .i64 0)] [(0, (1, (.k (.int .u32 7)))), (1, (18, (.t 7))), (19, (1, (.k (.int .i64 24))))])), none⟩,
  ⟨(some 9), (.op (.mkSl 1 [(.int .u32 0), (.bool false), (.int .u8 0), (.int .u8 0), (.int .u8 0), (.int .u8 0), (.int .u8 0), (.int .u8 0), (.int .u8 0), (.int .u8 0), (.int .u8 0), (.int .u8 0), (.int .u8 0), (.int .u8 0), (.int .u8 0), (.int .u8 0), (.int .u8 0), (.int .u8 0), (.int .i64 0), (.int .i64 0)] [(0, (20, (.t 8)))])), none⟩,
  ⟨(some 10), (.call (.k (.func (.func 9) #[] #[])) [(.t 9)]), none⟩,
  ⟨(some 5), (.op (.mv (.t 10))), none⟩,
  ⟨(some 11), (.op (.extract (.t 5) 0)), none⟩,
  ⟨(some 12), (.op (.extract (.t 5) 1)), none⟩,
  ⟨(some 1), (.op (.mv (.t 11))), none⟩,
  ⟨(some 2), (.op (.mv (.t 12))), none⟩])
  (.seq
  (.ops [] [
  ⟨(some 14), (.op (.mv (.t 1))), none⟩,
  ⟨(some 15), (.call (.k (.func (.func 11) #[] #[])) [(.t 14)]), none⟩,
  ⟨(some 13), (.op (.mv (.t 15))), none⟩,
  ⟨(some 16), (.op (.extract (.t 13) 0)), none⟩,
  ⟨(some 17), (.op (.extract (.t 13) 1)), none⟩,
  ⟨(some 3), (.op (.mv (.t 16))), none⟩,
  ⟨(some 4), (.op (.mv (.t 17))), none⟩])
  (.seq
  (.ops [] [
  ⟨(some 18), (.op (.mv (.t 2))), none⟩,
  ⟨(some 19), (.op (.bin .eql (.t 18) (.k (.int .i64 0)))), none⟩,
  ⟨(some 20), (.op (.mv (.t 19))), none⟩,
  ⟨(some 21), (.op (.mv (.t 4))), (some (20, true))⟩,
  ⟨(some 22), (.op (.bin .eql (.t 21) (.k (.int .i64 0)))), (some (20, true))⟩,
  ⟨(some 23), (.op (.pick (.t 20) (.t 22) (.k (.bool false)))), none⟩,
  ⟨(some 24), (.op (.mv (.t 23))), none⟩,
  ⟨(some 25), (.op (.mv (.t 3))), (some (24, true))⟩,
  ⟨(some 26), (.op (.lenSl (.t 25))), (some (24, true))⟩,
  ⟨(some 27), (.op (.bin .eql (.t 26) (.k (.int .i64 1)))), (some (24, true))⟩,
  ⟨(some 28), (.op (.pick (.t 24) (.t 27) (.k (.bool false)))), none⟩,
  ⟨(some 29), (.op (.mv (.t 28))), none⟩,
  ⟨(some 30), (.op (.mv (.t 3))), (some (29, true))⟩,
  ⟨(some 31), (.op (.ixAddr 20 (.t 30) (.k (.int .i64 0)))), (some (29, true))⟩,
  ⟨(some 32), (.op (.fieldAddr 0 (.t 31))), (some (29, true))⟩,
  ⟨(some 33), (.op (.load1 (.t 32))), (some (29, true))⟩,
  ⟨(some 34), (.op (.bin .eql (.t 33) (.k (.int .u32 7)))), (some (29, true))⟩,
  ⟨(some 35), (.op (.pick (.t 29) (.t 34) (.k (.bool false)))), none⟩,
  ⟨(some 36), (.op (.mv (.t 35))), none⟩,
  ⟨(some 37), (.op (.mv (.t 3))), (some (36, true))⟩,
  ⟨(some 38), (.op (.ixAddr 20 (.t 37) (.k (.int .i64 0)))), (some (36, true))⟩,
  ⟨(some 39), (.op (.fieldAddr 19 (.t 38))), (some (36, true))⟩,
  ⟨(some 40), (.op (.load1 (.t 39))), (some (36, true))⟩,
  ⟨(some 41), (.op (.bin .eql (.t 40) (.k (.int .i64 24)))), (some (36, true))⟩,
  ⟨(some 42), (.op (.pick (.t 36) (.t 41) (.k (.bool false)))), none⟩,
  ⟨(some 43), (.op (.mv (.t 42))), none⟩,
  ⟨(some 44), (.op (.mv (.t 3))), (some (43, true))⟩,
  ⟨(some 45), (.op (.ixAddr 20 (.t 44) (.k (.int .i64 0)))), (some (43, true))⟩,
  ⟨(some 46), (.op (.fieldAddr 1 (.t 45))), (some (43, true))⟩,
  ⟨(some 47), (.op (.fieldAddr 1 (.t 46))), (some (43, true))⟩,
  ⟨(some 48), (.op (.ixAddrA 16 1 (.t 47) (.k (.int .i64 0)))), (some (43, true))⟩,
  ⟨(some 49), (.op (.load1 (.t 48))), (some (43, true))⟩,
  ⟨(some 50), (.op (.bin .eql (.t 49) (.k (.int .u8 10)))), (some (43, true))⟩,
  ⟨(some 51), (.op (.pick (.t 43) (.t 50) (.k (.bool false)))), none⟩,
  ⟨(some 0), (.op (.mv (.t 51))), none⟩])
  .ret)))),
  [(.t 0)]⟩
theorem r_lanyardlaw18_awake : resolveFn Tryd.prog 8 = some c_lanyardlaw18_awake := by kernel_rfl

def c_lanyardlaw18_RoaReads : RFn :=
  ⟨76,
  (.seq
  (.ops [] [
  ⟨(some 4), (.op (.mv (.k (.bool false)))), none⟩])
  (.seq
  (.ops [] [
  ⟨(some 15), (.call (.k (.func (.func 8) #[] #[])) []), none⟩,
  ⟨(some 5), (.op (.mv (.t 15))), none⟩])
  (.seq
  (.seq
  (.ops [] [
  ⟨(some 16), (.op (.mv (.t 0))), none⟩,
  ⟨(some 17), (.op (.lenSl (.t 16))), none⟩,
  ⟨(some 18), (.op (.bin .gtr (.t 17) (.k (.int .i64 450)))), none⟩,
  ⟨(some 19), (.op (.mv (.t 18))), none⟩,
  ⟨(some 20), (.op (.mv (.t 1))), (some (19, false))⟩,
  ⟨(some 21), (.op (.lenSl (.t 20))), (some (19, false))⟩,
  ⟨(some 22), (.op (.bin .gtr (.t 21) (.k (.int .i64 20000)))), (some (19, false))⟩,
  ⟨(some 23), (.op (.pick (.t 19) (.k (.bool true)) (.t 22))), none⟩])
  (.cond (.t 23)
  (.seq
  (.ops [] [
  ⟨(some 24), (.op (.mv (.t 5))), none⟩,
  ⟨(some 4), (.op (.mv (.t 24))), none⟩])
  .ret)
  .skip))
  (.seq
  (.ops [] [
  ⟨(some 26), (.op (.mv (.t 0))), none⟩,
  ⟨(some 27), (.call (.k (.func (.func 9) #[] #[])) [(.t 26)]), none⟩,
  ⟨(some 25), (.op (.mv (.t 27))), none⟩,
  ⟨(some 28), (.op (.extract (.t 25) 0)), none⟩,
  ⟨(some 29), (.op (.extract (.t 25) 1)), none⟩,
  ⟨(some 6), (.op (.mv (.t 28))), none⟩,
  ⟨(some 7), (.op (.mv (.t 29))), none⟩])
  (.seq
  (.ops [] [
  ⟨(some 31), (.op (.mv (.t 0))), none⟩,
  ⟨(some 32), (.call (.k (.func (.func 10) #[] #[])) [(.t 31)]), none⟩,
  ⟨(some 30), (.op (.mv (.t 32))), none⟩,
  ⟨(some 33), (.op (.extract (.t 30) 0)), none⟩,
  ⟨(some 34), (.op (.extract (.t 30) 1)), none⟩,
  ⟨(some 8), (.op (.mv (.t 33))), none⟩,
  ⟨(some 9), (.op (.mv (.t 34))), none⟩])
  (.seq
  (.ops [] [
  ⟨(some 36), (.op (.mv (.t 1))), none⟩,
  ⟨(some 37), (.call (.k (.func (.func 11) #[] #[])) [(.t 36)]), none⟩,
  ⟨(some 35), (.op (.mv (.t 37))), none⟩,
  ⟨(some 38), (.op (.extract (.t 35) 0)), none⟩,
  ⟨(some 39), (.op (.extract (.t 35) 1)), none⟩,
  ⟨(some 10), (.op (.mv (.t 38))), none⟩,
  ⟨(some 11), (.op (.mv (.t 39))), none⟩])
  (.seq
  (.ops [] [
  ⟨(some 41), (.op (.mv (.t 1))), none⟩,
  ⟨(some 42), (.call (.k (.func (.func 12) #[] #[])) [(.t 41)]), none⟩,
  ⟨(some 40), (.op (.mv (.t 42))), none⟩,
  ⟨(some 43), (.op (.extract (.t 40) 0)), none⟩,
  ⟨(some 44), (.op (.extract (.t 40) 1)), none⟩,
  ⟨(some 12), (.op (.mv (.t 43))), none⟩,
  ⟨(some 13), (.op (.mv (.t 44))), none⟩])
  (.seq
  (.ops [] [
  ⟨(some 45), (.op (.mv (.t 10))), none⟩,
  ⟨(some 46), (.op (.mv (.t 12))), none⟩,
  ⟨(some 47), (.call (.k (.func (.func 13) #[] #[])) [(.t 45), (.t 46)]), none⟩,
  ⟨(some 14), (.op (.mv (.t 47))), none⟩])
  (.seq
  (.ops [] [
  ⟨(some 48), (.op (.mv (.t 5))), none⟩,
  ⟨(some 49), (.op (.mv (.t 48))), none⟩,
  ⟨(some 50), (.op (.mv (.t 6))), (some (49, true))⟩,
  ⟨(some 51), (.op (.b2s (.t 50))), (some (49, true))⟩,
  ⟨(some 52), (.op (.mv (.t 8))), (some (49, true))⟩,
  ⟨(some 53), (.op (.b2s (.t 52))), (some (49, true))⟩,
  ⟨(some 54), (.op (.bin .eql (.t 51) (.t 53))), (some (49, true))⟩,
  ⟨(some 55), (.op (.pick (.t 49) (.t 54) (.k (.bool false)))), none⟩,
  ⟨(some 56), (.op (.mv (.t 55))), none⟩,
  ⟨(some 57), (.op (.mv (.t 7))), (some (56, true))⟩,
  ⟨(some 58), (.op (.mv (.t 9))), (some (56, true))⟩,
  ⟨(some 59), (.op (.bin .eql (.t 57) (.t 58))), (some (56, true))⟩,
  ⟨(some 60), (.op (.pick (.t 56) (.t 59) (.k (.bool false)))), none⟩,
  ⟨(some 61), (.op (.mv (.t 60))), none⟩,
  ⟨(some 62), (.op (.mv (.t 14))), (some (61, true))⟩,
  ⟨(some 63), (.op (.pick (.t 61) (.t 62) (.k (.bool false)))), none⟩,
  ⟨(some 64), (.op (.mv (.t 63))), none⟩,
  ⟨(some 65), (.op (.mv (.t 11))), (some (64, true))⟩,
  ⟨(some 66), (.op (.mv (.t 13))), (some (64, true))⟩,
  ⟨(some 67), (.op (.bin .eql (.t 65) (.t 66))), (some (64, true))⟩,
  ⟨(some 68), (.op (.pick (.t 64) (.t 67) (.k (.bool false)))), none⟩,
  ⟨(some 69), (.op (.mv (.t 68))), none⟩,
  ⟨(some 70), (.op (.mv (.t 0))), (some (69, true))⟩,
  ⟨(some 71), (.call (.k (.func (.func 14) #[] #[])) [(.t 70)]), (some (69, true))⟩,
  ⟨(some 72), (.op (.mv (.t 0))), (some (69, true))⟩,
  ⟨(some 73), (.call (.k (.func (.func 15) #[] #[])) [(.t 72)]), (some (69, true))⟩,
  ⟨(some 74), (.op (.eqB false (.t 71) (.t 73))), (some (69, true))⟩,
  ⟨(some 75), (.op (.pick (.t 69) (.t 74) (.k (.bool false)))), none⟩,
  ⟨(some 4), (.op (.mv (.t 75))), none⟩])
  .ret))))))))),
  [(.t 4)]⟩
def c_lanyardlaw18_RoaOrders : RFn :=
  ⟨24,
  (.seq
  (.ops [] [
  ⟨(some 2), (.op (.box (.t 0))), none⟩,
  ⟨(some 3), (.op (.box (.t 1))), none⟩,
  ⟨(some 4), (.op (.mv (.k (.bool false)))), none⟩])
  (.seq
  (.ops [] [
  ⟨(some 6), (.call (.k (.func (.func 8) #[] #[])) []), none⟩,
  ⟨(some 5), (.op (.mv (.t 6))), none⟩])
  (.seq
  (.ops [
  ⟨(some 7), (.op (.mv (.t 5))), none⟩,
  ⟨(some 8), (.op (.mv (.t 7))), none⟩,
  ⟨(some 9), (.op (.loadN 20 (.t 2))), (some (8, true))⟩,
  ⟨(some 10), (.op (.loadN 20 (.t 3))), (some (8, true))⟩,
  ⟨(some 11), (.call (.k (.func (.func 16) #[] #[])) [(.t 9), (.t 10)]), (some (8, true))⟩,
  ⟨(some 12), (.op (.loadN 20 (.t 2))), (some (8, true))⟩,
  ⟨(some 13), (.op (.loadN 20 (.t 3))), (some (8, true))⟩,
  ⟨(some 14), (.call (.k (.func (.func 17) #[] #[])) [(.t 12), (.t 13)]), (some (8, true))⟩,
  ⟨(some 15), (.op (.bin .eql (.t 11) (.t 14))), (some (8, true))⟩,
  ⟨(some 16), (.op (.pick (.t 8) (.t 15) (.k (.bool false)))), none⟩,
  ⟨(some 17), (.op (.mv (.t 16))), none⟩,
  ⟨(some 18), (.op (.loadN 20 (.t 2))), (some (17, true))⟩,
  ⟨(some 19), (.call (.k (.func (.func 18) #[] #[])) [(.t 18)]), (some (17, true))⟩,
  ⟨(some 20), (.op (.loadN 20 (.t 2))), (some (17, true))⟩] [
  ⟨(some 21), (.call (.k (.func (.func 19) #[] #[])) [(.t 20)]), (some (17, true))⟩,
  ⟨(some 22), (.op (.eqB false (.t 19) (.t 21))), (some (17, true))⟩,
  ⟨(some 23), (.op (.pick (.t 17) (.t 22) (.k (.bool false)))), none⟩,
  ⟨(some 4), (.op (.mv (.t 23))), none⟩])
  .ret))),
  [(.t 4)]⟩
theorem r_lanyardlaw18_RoaOrders : resolveFn Tryd.prog 4 = some c_lanyardlaw18_RoaOrders := by kernel_rfl

def c_lanyardlaw18_RoaBack : RFn :=
  ⟨81,
  (.seq
  (.ops [] [
  ⟨(some 4), (.op (.mv (.k (.bool false)))), none⟩])
  (.seq
  (.ops [] [
  ⟨(some 15), (.call (.k (.func (.func 8) #[] #[])) []), none⟩,
  ⟨(some 5), (.op (.mv (.t 15))), none⟩])
  (.seq
  (.seq
  (.ops [] [
  ⟨(some 16), (.op (.mv (.t 0))), none⟩,
  ⟨(some 17), (.op (.lenSl (.t 16))), none⟩,
  ⟨(some 18), (.op (.bin .gtr (.t 17) (.k (.int .i64 450)))), none⟩,
  ⟨(some 19), (.op (.mv (.t 18))), none⟩,
  ⟨(some 20), (.op (.mv (.t 1))), (some (19, false))⟩,
  ⟨(some 21), (.op (.lenSl (.t 20))), (some (19, false))⟩,
  ⟨(some 22), (.op (.bin .gtr (.t 21) (.k (.int .i64 20000)))), (some (19, false))⟩,
  ⟨(some 23), (.op (.pick (.t 19) (.k (.bool true)) (.t 22))), none⟩])
  (.cond (.t 23)
  (.seq
  (.ops [] [
  ⟨(some 24), (.op (.mv (.t 5))), none⟩,
  ⟨(some 4), (.op (.mv (.t 24))), none⟩])
  .ret)
  .skip))
  (.seq
  (.ops [] [
  ⟨(some 26), (.op (.mv (.t 0))), none⟩,
  ⟨(some 27), (.call (.k (.func (.func 9) #[] #[])) [(.t 26)]), none⟩,
  ⟨(some 25), (.op (.mv (.t 27))), none⟩,
  ⟨(some 28), (.op (.extract (.t 25) 0)), none⟩,
  ⟨(some 29), (.op (.extract (.t 25) 1)), none⟩,
  ⟨(some 6), (.op (.mv (.t 28))), none⟩,
  ⟨(some 7), (.op (.mv (.t 29))), none⟩])
  (.seq
  (.seq
  (.ops [] [
  ⟨(some 30), (.op (.mv (.t 7))), none⟩,
  ⟨(some 31), (.op (.bin .eql (.t 30) (.k (.int .i64 0)))), none⟩])
  (.cond (.t 31)
  (.seq
  (.ops [] [
  ⟨(some 33), (.op (.mv (.t 6))), none⟩,
  ⟨(some 34), (.call (.k (.func (.func 11) #[] #[])) [(.t 33)]), none⟩,
  ⟨(some 32), (.op (.mv (.t 34))), none⟩,
  ⟨(some 35), (.op (.extract (.t 32) 0)), none⟩,
  ⟨(some 36), (.op (.extract (.t 32) 1)), none⟩,
  ⟨(some 8), (.op (.mv (.t 35))), none⟩,
  ⟨(some 9), (.op (.mv (.t 36))), none⟩])
  (.seq
  (.ops [] [
  ⟨(some 37), (.op (.mv (.t 8))), none⟩,
  ⟨(some 38), (.op (.mv (.t 0))), none⟩,
  ⟨(some 39), (.call (.k (.func (.func 13) #[] #[])) [(.t 37), (.t 38)]), none⟩,
  ⟨(some 10), (.op (.mv (.t 39))), none⟩])
  (.seq
  (.ops [] [
  ⟨(some 40), (.op (.mv (.t 9))), none⟩,
  ⟨(some 41), (.op (.bin .neq (.t 40) (.k (.int .i64 0)))), none⟩,
  ⟨(some 42), (.op (.mv (.t 41))), none⟩,
  ⟨(some 43), (.op (.mv (.t 10))), (some (42, false))⟩,
  ⟨(some 44), (.op (.un .not (.t 43))), (some (42, false))⟩,
  ⟨(some 45), (.op (.pick (.t 42) (.k (.bool true)) (.t 44))), none⟩,
  ⟨(some 46), (.op (.mv (.t 45))), none⟩,
  ⟨(some 47), (.op (.mv (.t 0))), (some (46, false))⟩,
  ⟨(some 48), (.call (.k (.func (.func 14) #[] #[])) [(.t 47)]), (some (46, false))⟩,
  ⟨(some 49), (.op (.un .not (.t 48))), (some (46, false))⟩,
  ⟨(some 50), (.op (.pick (.t 46) (.k (.bool true)) (.t 49))), none⟩])
  (.cond (.t 50)
  (.seq
  (.ops [] [
  ⟨(some 4), (.op (.mv (.k (.bool false)))), none⟩])
  .ret)
  .skip))))
  .skip))
  (.seq
  (.ops [] [
  ⟨(some 52), (.op (.mv (.t 1))), none⟩,
  ⟨(some 53), (.call (.k (.func (.func 11) #[] #[])) [(.t 52)]), none⟩,
  ⟨(some 51), (.op (.mv (.t 53))), none⟩,
  ⟨(some 54), (.op (.extract (.t 51) 0)), none⟩,
  ⟨(some 55), (.op (.extract (.t 51) 1)), none⟩,
  ⟨(some 11), (.op (.mv (.t 54))), none⟩,
  ⟨(some 12), (.op (.mv (.t 55))), none⟩])
  (.seq
  (.seq
  (.ops [] [
  ⟨(some 56), (.op (.mv (.t 12))), none⟩,
  ⟨(some 57), (.op (.bin .neq (.t 56) (.k (.int .i64 0)))), none⟩])
  (.cond (.t 57)
  (.seq
  (.ops [] [
  ⟨(some 58), (.op (.mv (.t 5))), none⟩,
  ⟨(some 59), (.op (.mv (.t 58))), none⟩,
  ⟨(some 60), (.op (.mv (.t 11))), (some (59, true))⟩,
  ⟨(some 61), (.op (.lenSl (.t 60))), (some (59, true))⟩,
  ⟨(some 62), (.op (.bin .eql (.t 61) (.k (.int .i64 0)))), (some (59, true))⟩,
  ⟨(some 63), (.op (.pick (.t 59) (.t 62) (.k (.bool false)))), none⟩,
  ⟨(some 4), (.op (.mv (.t 63))), none⟩])
  .ret)
  .skip))
  (.seq
  (.ops [] [
  ⟨(some 65), (.op (.mv (.t 11))), none⟩,
  ⟨(some 66), (.call (.k (.func (.func 9) #[] #[])) [(.t 65)]), none⟩,
  ⟨(some 64), (.op (.mv (.t 66))), none⟩,
  ⟨(some 67), (.op (.extract (.t 64) 0)), none⟩,
  ⟨(some 68), (.op (.extract (.t 64) 1)), none⟩,
  ⟨(some 13), (.op (.mv (.t 67))), none⟩,
  ⟨(some 14), (.op (.mv (.t 68))), none⟩])
  (.seq
  (.ops [] [
  ⟨(some 69), (.op (.mv (.t 5))), none⟩,
  ⟨(some 70), (.op (.mv (.t 69))), none⟩,
  ⟨(some 71), (.op (.mv (.t 14))), (some (70, true))⟩,
  ⟨(some 72), (.op (.bin .eql (.t 71) (.k (.int .i64 0)))), (some (70, true))⟩,
  ⟨(some 73), (.op (.pick (.t 70) (.t 72) (.k (.bool false)))), none⟩,
  ⟨(some 74), (.op (.mv (.t 73))), none⟩,
  ⟨(some 75), (.op (.mv (.t 13))), (some (74, true))⟩,
  ⟨(some 76), (.op (.b2s (.t 75))), (some (74, true))⟩,
  ⟨(some 77), (.op (.mv (.t 1))), (some (74, true))⟩,
  ⟨(some 78), (.op (.b2s (.t 77))), (some (74, true))⟩,
  ⟨(some 79), (.op (.bin .eql (.t 76) (.t 78))), (some (74, true))⟩,
  ⟨(some 80), (.op (.pick (.t 74) (.t 79) (.k (.bool false)))), none⟩,
  ⟨(some 4), (.op (.mv (.t 80))), none⟩])
  .ret))))))))),
  [(.t 4)]⟩
def c_lanyardlaw18_RoaRow : RFn :=
  ⟨46,
  (.seq
  (.ops [] [
  ⟨(some 3), (.op (.box (.t 0))), none⟩,
  ⟨(some 4), (.op (.box (.t 1))), none⟩,
  ⟨(some 5), (.op (.box (.t 2))), none⟩,
  ⟨(some 6), (.op (.mv (.k (.bool false)))), none⟩])
  (.seq
  (.ops [] [
  ⟨(some 10), (.call (.k (.func (.func 8) #[] #[])) []), none⟩,
  ⟨(some 7), (.op (.mv (.t 10))), none⟩])
  (.seq
  (.ops [] [
  ⟨(some 11), (.op (.loadN 20 (.t 3))), none⟩,
  ⟨(some 12), (.op (.loadN 20 (.t 4))), none⟩,
  ⟨(some 13), (.call (.k (.func (.func 16) #[] #[])) [(.t 11), (.t 12)]), none⟩,
  ⟨(some 8), (.op (.mv (.t 13))), none⟩])
  (.seq
  (.ops [] [
  ⟨(some 14), (.op (.loadN 20 (.t 4))), none⟩,
  ⟨(some 15), (.op (.loadN 20 (.t 5))), none⟩,
  ⟨(some 16), (.call (.k (.func (.func 16) #[] #[])) [(.t 14), (.t 15)]), none⟩,
  ⟨(some 9), (.op (.mv (.t 16))), none⟩])
  (.seq
  (.ops [] [
  ⟨(some 17), (.op (.mv (.t 7))), none⟩,
  ⟨(some 18), (.op (.mv (.t 17))), none⟩,
  ⟨(some 19), (.op (.loadN 20 (.t 4))), (some (18, true))⟩,
  ⟨(some 20), (.op (.loadN 20 (.t 3))), (some (18, true))⟩,
  ⟨(some 21), (.call (.k (.func (.func 16) #[] #[])) [(.t 19), (.t 20)]), (some (18, true))⟩,
  ⟨(some 22), (.op (.mv (.t 8))), (some (18, true))⟩,
  ⟨(some 23), (.op (.un .neg (.t 22))), (some (18, true))⟩,
  ⟨(some 24), (.op (.bin .eql (.t 21) (.t 23))), (some (18, true))⟩,
  ⟨(some 25), (.op (.pick (.t 18) (.t 24) (.k (.bool false)))), none⟩,
  ⟨(some 26), (.op (.mv (.t 25))), none⟩,
  ⟨(some 27), (.op (.mv (.t 8))), (some (26, true))⟩,
  ⟨(some 28), (.op (.bin .eql (.t 27) (.k (.int .i64 0)))), (some (26, true))⟩,
  ⟨(some 29), (.op (.loadN 20 (.t 3))), (some (26, true))⟩,
  ⟨(some 30), (.op (.loadN 20 (.t 4))), (some (26, true))⟩,
  ⟨(some 31), (.op (.eqA .eql 38 (.t 29) (.t 30))), (some (26, true))⟩,
  ⟨(some 32), (.op (.eqB false (.t 28) (.t 31))), (some (26, true))⟩,
  ⟨(some 33), (.op (.pick (.t 26) (.t 32) (.k (.bool false)))), none⟩,
  ⟨(some 34), (.op (.mv (.t 33))), none⟩,
  ⟨(some 35), (.op (.mv (.t 8))), (some (34, true))⟩,
  ⟨(some 36), (.op (.mv (.t 9))), (some (34, true))⟩,
  ⟨(some 37), (.op (.bin .neq (.t 35) (.t 36))), (some (34, true))⟩,
  ⟨(some 38), (.op (.mv (.t 37))), (some (34, true))⟩,
  ⟨(some 39), (.op (.loadN 20 (.t 3))), (some (38, false))⟩,
  ⟨(some 40), (.op (.loadN 20 (.t 5))), (some (38, false))⟩,
  ⟨(some 41), (.call (.k (.func (.func 16) #[] #[])) [(.t 39), (.t 40)]), (some (38, false))⟩,
  ⟨(some 42), (.op (.mv (.t 8))), (some (38, false))⟩,
  ⟨(some 43), (.op (.bin .eql (.t 41) (.t 42))), (some (38, false))⟩,
  ⟨(some 44), (.op (.pick (.t 38) (.k (.bool true)) (.t 43))), (some (34, true))⟩,
  ⟨(some 45), (.op (.pick (.t 34) (.t 44) (.k (.bool false)))), none⟩,
  ⟨(some 6), (.op (.mv (.t 45))), none⟩])
  .ret))))),
  [(.t 6)]⟩
def c_lanyardlaw18_RoaOne : RFn :=
  ⟨54,
  (.seq
  (.ops [] [
  ⟨(some 1), (.op (.box (.t 0))), none⟩,
  ⟨(some 2), (.op (.mv (.k (.bool false)))), none⟩])
  (.seq
  (.ops [] [
  ⟨(some 8), (.call (.k (.func (.func 8) #[] #[])) []), none⟩,
  ⟨(some 3), (.op (.mv (.t 8))), none⟩])
  (.seq
  (.ops [] [
  ⟨(some 9), (.op (.loadN 20 (.t 1))), none⟩,
  ⟨(some 4), (.op (.new [(.int .u32 0), (.bool false), (.int .u8 0), (.int .u8 0), (.int .u8 0), (.int .u8 0), (.int .u8 0), (.int .u8 0), (.int .u8 0), (.int .u8 0), (.int .u8 0), (.int .u8 0), (.int .u8 0), (.int .u8 0), (.int .u8 0), (.int .u8 0), (.int .u8 0), (.int .u8 0), (.int .i64 0), (.int .i64 0)])), none⟩,
  ⟨none, (.op (.store 20 (.t 4) (.t 9))), none⟩])
  (.seq
  (.ops [] [
  ⟨(some 10), (.op (.fieldAddr 0 (.t 1))), none⟩,
  ⟨(some 11), (.op (.load1 (.t 10))), none⟩,
  ⟨(some 12), (.op (.bin .add (.t 11) (.k (.int .u32 1)))), none⟩,
  ⟨(some 13), (.op (.fieldAddr 0 (.t 4))), none⟩,
  ⟨none, (.op (.store 1 (.t 13) (.t 12))), none⟩])
  (.seq
  (.ops [] [
  ⟨(some 14), (.op (.loadN 20 (.t 1))), none⟩,
  ⟨(some 15), (.call (.k (.func (.func 18) #[] #[])) [(.t 14)]), none⟩,
  ⟨(some 5), (.op (.mv (.t 15))), none⟩])
  (.seq
  (.ops [] [
  ⟨(some 17), (.op (.loadN 20 (.t 1))), none⟩,
  ⟨(some 18), (.op (.mkSl 1 [(.int .u32 0), (.bool false), (.int .u8 0), (.int .u8 0), (.int .u8 0), (.int .u8 0), (.int .u8 0), (.int .u8 0), (.int .u8 0), (.int .u8 0), (.int .u8 0), (.int .u8 0), (.int .u8 0), (.int .u8 0), (.int .u8 0), (.int .u8 0), (.int .u8 0), (.int .u8 0), (.int .i64 0), (.int .i64 0)] [(0, (20, (.t 17)))])), none⟩,
  ⟨(some 19), (.call (.k (.func (.func 9) #[] #[])) [(.t 18)]), none⟩,
  ⟨(some 16), (.op (.mv (.t 19))), none⟩,
  ⟨(some 20), (.op (.extract (.t 16) 0)), none⟩,
  ⟨(some 21), (.op (.extract (.t 16) 1)), none⟩,
  ⟨(some 6), (.op (.mv (.t 20))), none⟩,
  ⟨(some 7), (.op (.mv (.t 21))), none⟩])
  (.seq
  (.ops [] [
  ⟨(some 22), (.op (.mv (.t 3))), none⟩,
  ⟨(some 23), (.op (.mv (.t 22))), none⟩,
  ⟨(some 24), (.op (.loadN 20 (.t 1))), (some (23, true))⟩,
  ⟨(some 25), (.op (.mkSl 1 [(.int .u32 0), (.bool false), (.int .u8 0), (.int .u8 0), (.int .u8 0), (.int .u8 0), (.int .u8 0), (.int .u8 0), (.int .u8 0), (.int .u8 0), (.int .u8 0), (.int .u8 0), (.int .u8 0), (.int .u8 0), (.int .u8 0), (.int .u8 0), (.int .u8 0), (.int .u8 0), (.int .i64 0), (.int .i64 0)] [(0, (20, (.t 24)))])), (some (23, true))⟩,
  ⟨(some 26), (.call (.k (.func (.func 14) #[] #[])) [(.t 25)]), (some (23, true))⟩,
  ⟨(some 27), (.op (.mv (.t 5))), (some (23, true))⟩,
  ⟨(some 28), (.op (.eqB false (.t 26) (.t 27))), (some (23, true))⟩,
  ⟨(some 29), (.op (.pick (.t 23) (.t 28) (.k (.bool false)))), none⟩,
  ⟨(some 30), (.op (.mv (.t 29))), none⟩,
  ⟨(some 31), (.op (.mv (.t 7))), (some (30, true))⟩,
  ⟨(some 32), (.op (.bin .eql (.t 31) (.k (.int .i64 0)))), (some (30, true))⟩,
  ⟨(some 33), (.op (.mv (.t 5))), (some (30, true))⟩,
  ⟨(some 34), (.op (.eqB false (.t 32) (.t 33))), (some (30, true))⟩,
  ⟨(some 35), (.op (.pick (.t 30) (.t 34) (.k (.bool false)))), none⟩,
  ⟨(some 36), (.op (.mv (.t 35))), none⟩,
  ⟨(some 37), (.op (.loadN 20 (.t 1))), (some (36, true))⟩,
  ⟨(some 38), (.op (.loadN 20 (.t 4))), (some (36, true))⟩,
  ⟨(some 39), (.op (.mkSl 2 [(.int .u32 0), (.bool false), (.int .u8 0), (.int .u8 0), (.int .u8 0), (.int .u8 0), (.int .u8 0), (.int .u8 0), (.int .u8 0), (.int .u8 0), (.int .u8 0), (.int .u8 0), (.int .u8 0), (.int .u8 0), (.int .u8 0), (.int .u8 0), (.int .u8 0), (.int .u8 0), (.int .i64 0), (.int .i64 0), (.int .u32 0), (.bool false), (.int .u8 0), (.int .u8 0), (.int .u8 0), (.int .u8 0), (.int .u8 0), (.int .u8 0), (.int .u8 0), (.int .u8 0), (.int .u8 0), (.int .u8 0), (.int .u8 0), (.int .u8 0), (.int .u8 0), (.int .u8 0), (.int .u8 0), (.int .u8 0), (.int .i64 0), (.int .i64 0)] [(0, (20, (.t 37))), (20, (20, (.t 38)))])), (some (36, true))⟩,
  ⟨(some 40), (.call (.k (.func (.func 14) #[] #[])) [(.t 39)]), (some (36, true))⟩,
  ⟨(some 41), (.op (.un .not (.t 40))), (some (36, true))⟩,
  ⟨(some 42), (.op (.pick (.t 36) (.t 41) (.k (.bool false)))), none⟩,
  ⟨(some 43), (.op (.mv (.t 42))), none⟩,
  ⟨(some 44), (.op (.loadN 20 (.t 1))), (some (43, true))⟩,
  ⟨(some 45), (.op (.loadN 20 (.t 1))), (some (43, true))⟩,
  ⟨(some 46), (.op (.mkSl 2 [(.int .u32 0), (.bool false), (.int .u8 0), (.int .u8 0), (.int .u8 0), (.int .u8 0), (.int .u8 0), (.int .u8 0), (.int .u8 0), (.int .u8 0), (.int .u8 0), (.int .u8 0), (.int .u8 0), (.int .u8 0), (.int .u8 0), (.int .u8 0), (.int .u8 0), (.int .u8 0), (.int .i64 0), (.int .i64 0), (.int .u32 0), (.bool false), (.int .u8 0), (.int .u8 0), (.int .u8 0), (.int .u8 0), (.int .u8 0), (.int .u8 0), (.int .u8 0), (.int .u8 0), (.int .u8 0), (.int .u8 0), (.int .u8 0), (.int .u8 0), (.int .u8 0), (.int .u8 0), (.int .u8 0), (.int .u8 0), (.int .i64 0), (.int .i64 0)] [(0, (20, (.t 44))), (20, (20, (.t 45)))])), (some (43, true))⟩,
  ⟨(some 47), (.call (.k (.func (.func 14) #[] #[])) [(.t 46)]), (some (43, true))⟩,
  ⟨(some 48), (.op (.un .not (.t 47))), (some (43, true))⟩,
  ⟨(some 49), (.op (.pick (.t 43) (.t 48) (.k (.bool false)))), none⟩,
  ⟨(some 50), (.op (.mv (.t 49))), none⟩,
  ⟨(some 51), (.call (.k (.func (.func 14) #[] #[])) [(.k (.slice none 0 0))]), (some (50, true))⟩,
  ⟨(some 52), (.op (.un .not (.t 51))), (some (50, true))⟩,
  ⟨(some 53), (.op (.pick (.t 50) (.t 52) (.k (.bool false)))), none⟩,
  ⟨(some 2), (.op (.mv (.t 53))), none⟩])
  .ret))))))),
  [(.t 2)]⟩
end Go.Ga

/- Equality of arrays of whole numbers. -/
namespace Go.Ga
open Go

theorem pr_size {P : Program} {t : TypeId} {i : TypeInfo} (h : P.info? t = some i) : pureRun P (sizeOf t) = some i.size := by
  simp only [sizeOf, typeInfo, pr_bind, pr_prog, Option.bind_some, h]; rfl

def eqK (P : Program) (op : BinOp) (t : TypeId) (xs ys : Array Value) (K : Bool → Prop) : Prop :=
  xs.toList.all plain = true ∧ ys.toList.all plain = true ∧
  match pureRun P (do eqGuard op t (.tmp 0) (.tmp 0) (.agg xs) (.agg ys); binOp op t (.agg xs) (.agg ys)) with
  | some (.bool b) => K b
  | _ => False
theorem o_eqA {P : Program} {f : Regs} {m : Mem} {K : Value → Mem → Prop} (op : BinOp) (t : TypeId) (x y : Rv) : ROp.vc P f m K (.eqA op t x y) = asA (x.ev f) fun xs => asA (y.ev f) fun ys => eqK P op t xs ys fun b => K (.bool b) m := by
  dsimp only [ROp.vc, asA, eqK]
  cases x.ev f <;> first | rfl | (cases y.ev f <;> rfl)

theorem eq_ints {P : Program} {t e : TypeId} {len : Nat} {k k' : IntKind} {i : TypeInfo} (ht : P.underlying t = some (.array len e)) (he : P.underlying e = some (.int k')) (hi : P.info? e = some i) (hs : i.size = 1)
    (xs ys : List Int) (hx : xs.length = len) (hy : ys.length = len) (d : Nat) :
    pureRun P (Op.equalIn (d + 2) t (.agg (xs.map (Value.int k)).toArray) (.agg (ys.map (Value.int k)).toArray)) = some (decide (xs = ys)) := by
  have hpart : ∀ (l : List Int) j, j < l.length → pureRun P (part e (l.map (Value.int k)).toArray (j * 1)) = some (.int k (l.getD j 0)) := by
    intro l j hj
    simp only [part, isAgg, pr_bind, pr_under he, Option.bind_some, pr_pure, Nat.mul_one]
    simp [hj, List.getD_eq_getElem?_getD, pr_pure]
  have hel : ∀ a b : Int, pureRun P (Op.equalIn (d + 1) e (.int k a) (.int k b)) = some (a == b) := by
    intro a b
    rw [Op.equalIn]
    simp only [pr_bind, pr_under he, Option.bind_some, if_true]
    rfl
  have hdrop : ∀ (l : List Int) j, j < l.length → l.drop j = l.getD j 0 :: l.drop (j + 1) := fun l j hj => by
    rw [List.drop_eq_getElem_cons hj, List.getD_eq_getElem?_getD, List.getElem?_eq_getElem hj]; rfl
  have key : ∀ n s, s + n = len → pureRun P (forIn (List.range' s n) ((none, ()) : Option Bool × Unit) fun i __s => do
      let __do_lift ← part e (List.map (Value.int k) xs).toArray (i * 1)
      let __do_lift_1 ← part e (List.map (Value.int k) ys).toArray (i * 1)
      let __do_lift ← Op.equalIn (d + 1) e __do_lift __do_lift_1
      if (!__do_lift) = true then pure (ForInStep.done (some false, ())) else pure (ForInStep.yield (none, ()))) = some (if xs.drop s = ys.drop s then (none, ()) else (some false, ())) := by
    intro n
    induction n with
    | zero =>
      intro s hs
      rw [List.drop_eq_nil_of_le (by omega), List.drop_eq_nil_of_le (by omega)]
      rfl
    | succ n ih =>
      intro s hs
      rw [List.range'_succ, List.forIn_cons]
      simp only [pr_bind, hpart xs s (by omega), hpart ys s (by omega), Option.bind_some, hel]
      rw [hdrop xs s (by omega), hdrop ys s (by omega)]
      by_cases hab : xs.getD s 0 = ys.getD s 0
      · rw [hab]
        simp only [beq_self_eq_true, Bool.not_true, Bool.false_eq_true, if_false, pr_pure, Option.bind_some, List.cons.injEq, true_and]
        exact ih (s + 1) (by omega)
      · have : (xs.getD s 0 == ys.getD s 0) = false := by simpa using hab
        rw [this, if_neg (fun h => hab (List.cons.inj h).1)]
        simp only [Bool.not_false, if_true, pr_pure, Option.bind_some]
  rw [Op.equalIn]
  simp only [pr_bind, pr_under ht, Option.bind_some, pr_size hi, hs]
  simp only [Std.Legacy.Range.forIn_eq_forIn_range', Std.Legacy.Range.size]
  rw [show (len - 0 + 1 - 1) / 1 = len by omega, key len 0 (by omega), Option.bind_some]
  simp only [List.drop_zero]
  by_cases h : xs = ys <;> simp [h, pr_pure]

end Go.Ga
