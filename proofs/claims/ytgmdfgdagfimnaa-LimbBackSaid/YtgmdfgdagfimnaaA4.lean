/- Words and contracts of functions for the statement's proof. No condition. -/
import Derived.Test.YtgmdfgdagfimnaaA3
set_option linter.all false

namespace Go.Ga
open Go Go.Proofs
set_option linter.unusedSimpArgs false
set_option linter.unusedVariables false
set_option maxRecDepth 100000
attribute [local irreducible] appendK

section
variable {nx : Nat} {gt : Nat → Option Blk}

theorem fn_Back07 {A B E : Option Addr} {n m e c d h : Nat} {l k : List UInt32} {p : List UInt8} (hA : Row nx gt 1 A n (l.map u32V)) (hc : n ≤ c) (hB : Row nx gt 1 B m (k.map u32V)) (hd : m ≤ d) (hE : Row nx gt 1 E e (p.map u8V)) (hh : e ≤ h) :
    Ct Try.prog 7 [.slice A n c, .slice B m d, .slice E e h] nx gt fun v _ _ => v = .bool true := by
  have hl : l.length = n := by simpa using hA.len
  have hk : k.length = m := by simpa using hB.len
  have hp : p.length = e := by simpa using hE.len
  refine Ct.of hmx r_lanyardlaw07_LimbBack (by simp [c_lanyardlaw07_LimbBack]) fun b hb => ?_
  have hF : ∀ q, q < nx → gt q = gt q := fun _ _ => rfl
  simp only [c_lanyardlaw07_LimbBack, ↓gaW, ↓gaV, ↓gaC, ↓gaN, gaP, Nat.reduceEqDiff, Nat.reduceLeDiff, Nat.reduceAdd, Nat.reduceSub, Nat.reduceMul, Int.reduceLT, Int.reduceLE, Int.reduceEq, Int.reduceToNat, Int.reduceAdd, Int.reduceSub, Int.reduceMul, reduceCtorEq, ↓reduceIte]
  refine callK_of ct_awake07 (fun v n1 g1 l1 k1 hC => ?_) (by omega)
  subst hC
  have hA := hA.keep l1 k1
  have hB := hB.keep l1 k1
  have hE := hE.keep l1 k1
  have hF : ∀ q, q < nx → g1 q = gt q := fun q hq => (k1 q (by omega)).trans (hF q hq)
  simp only [↓gaW, ↓gaV, ↓gaC, ↓gaN, gaP, Nat.reduceEqDiff, Nat.reduceLeDiff, Nat.reduceAdd, Nat.reduceSub, Nat.reduceMul, Int.reduceLT, Int.reduceLE, Int.reduceEq, Int.reduceToNat, Int.reduceAdd, Int.reduceSub, Int.reduceMul, reduceCtorEq, ↓reduceIte]
  by_cases g1 : (200 : Int) < (n : Int)
  · simp only [↓gaW, ↓gaV, ↓gaC, ↓gaN, gaP, Nat.reduceEqDiff, Nat.reduceLeDiff, Nat.reduceAdd, Nat.reduceSub, Nat.reduceMul, Int.reduceLT, Int.reduceLE, Int.reduceEq, Int.reduceToNat, Int.reduceAdd, Int.reduceSub, Int.reduceMul, reduceCtorEq, ↓reduceIte, gaE, implies_true, Nat.le_refl, Int.sub_zero, Nat.sub_zero, Int.le_refl, true_or, or_true, g1, decide_true]
    exact ⟨by omega, hF⟩
  by_cases g2 : (200 : Int) < (m : Int)
  · simp only [↓gaW, ↓gaV, ↓gaC, ↓gaN, gaP, Nat.reduceEqDiff, Nat.reduceLeDiff, Nat.reduceAdd, Nat.reduceSub, Nat.reduceMul, Int.reduceLT, Int.reduceLE, Int.reduceEq, Int.reduceToNat, Int.reduceAdd, Int.reduceSub, Int.reduceMul, reduceCtorEq, ↓reduceIte, gaE, implies_true, Nat.le_refl, Int.sub_zero, Nat.sub_zero, Int.le_refl, true_or, or_true, g1, g2, decide_true, decide_false]
    exact ⟨by omega, hF⟩
  by_cases g3 : (1000 : Int) < (e : Int)
  · simp only [↓gaW, ↓gaV, ↓gaC, ↓gaN, gaP, Nat.reduceEqDiff, Nat.reduceLeDiff, Nat.reduceAdd, Nat.reduceSub, Nat.reduceMul, Int.reduceLT, Int.reduceLE, Int.reduceEq, Int.reduceToNat, Int.reduceAdd, Int.reduceSub, Int.reduceMul, reduceCtorEq, ↓reduceIte, gaE, implies_true, Nat.le_refl, Int.sub_zero, Nat.sub_zero, Int.le_refl, true_or, or_true, g1, g2, g3, decide_true, decide_false]
    exact ⟨by omega, hF⟩
  simp only [↓gaW, ↓gaV, ↓gaC, ↓gaN, gaP, Nat.reduceEqDiff, Nat.reduceLeDiff, Nat.reduceAdd, Nat.reduceSub, Nat.reduceMul, Int.reduceLT, Int.reduceLE, Int.reduceEq, Int.reduceToNat, Int.reduceAdd, Int.reduceSub, Int.reduceMul, reduceCtorEq, ↓reduceIte, g1, g2, g3, decide_false]
  have b2 : (lb (bv p)).length ≤ 1000 := lb_bv_len (by omega)
  have b3 : (lb (lv l)).length ≤ 200 := lb_len_le.2 (lv_lt' (by omega))
  have b4 := lb_len_le.2 (lt_add (show lv l < 4294967296 ^ 200 from lv_lt' (by omega)) (show lv k < 4294967296 ^ 200 from lv_lt' (by omega)))
  have s1 : bl (lv l) ≤ 32 * n := by
    refine bl_le.2 ?_
    have := lv_lt l
    rw [hl] at this
    rw [Nat.pow_mul]; exact this
  have s2 := cb_len (lv l)
  refine callK_of (ct_To hA hc (by omega)) (fun v n2 g2 l2 k2 hC => ?_) (by omega)
  obtain ⟨A2, a2, c2, rfl, hc2, hl2, r2⟩ := hC
  have hA := hA.keep l2 k2
  have hB := hB.keep l2 k2
  have hE := hE.keep l2 k2
  have hF : ∀ q, q < nx → g2 q = gt q := fun q hq => (k2 q (by omega)).trans (hF q hq)
  simp only [↓gaW, ↓gaV, ↓gaC, ↓gaN, gaP, Nat.reduceEqDiff, Nat.reduceLeDiff, Nat.reduceAdd, Nat.reduceSub, Nat.reduceMul, Int.reduceLT, Int.reduceLE, Int.reduceEq, Int.reduceToNat, Int.reduceAdd, Int.reduceSub, Int.reduceMul, reduceCtorEq, ↓reduceIte]
  refine callK_of (ct_From r2 (by omega)) (fun v n3 g3 l3 k3 hC => ?_) (by omega)
  obtain ⟨A3, a3, c3, rfl, hc3, hl3, r3⟩ := hC
  have hA := hA.keep l3 k3
  have hB := hB.keep l3 k3
  have hE := hE.keep l3 k3
  have hF : ∀ q, q < nx → g3 q = gt q := fun q hq => (k3 q (by omega)).trans (hF q hq)
  simp only [↓gaW, ↓gaV, ↓gaC, ↓gaN, gaP, Nat.reduceEqDiff, Nat.reduceLeDiff, Nat.reduceAdd, Nat.reduceSub, Nat.reduceMul, Int.reduceLT, Int.reduceLE, Int.reduceEq, Int.reduceToNat, Int.reduceAdd, Int.reduceSub, Int.reduceMul, reduceCtorEq, ↓reduceIte]
  rw [bv_cb] at r3 hl3
  refine callK_of (ct_Bare hA hc (by omega)) (fun v n4 g4 l4 k4 hC => ?_) (by omega)
  obtain ⟨A4, a4, c4, rfl, hc4, hl4, r4⟩ := hC
  have hA := hA.keep l4 k4
  have hB := hB.keep l4 k4
  have hE := hE.keep l4 k4
  have r3 := r3.keep l4 k4
  have hF : ∀ q, q < nx → g4 q = gt q := fun q hq => (k4 q (by omega)).trans (hF q hq)
  simp only [↓gaW, ↓gaV, ↓gaC, ↓gaN, gaP, Nat.reduceEqDiff, Nat.reduceLeDiff, Nat.reduceAdd, Nat.reduceSub, Nat.reduceMul, Int.reduceLT, Int.reduceLE, Int.reduceEq, Int.reduceToNat, Int.reduceAdd, Int.reduceSub, Int.reduceMul, reduceCtorEq, ↓reduceIte]
  refine callK_of (ct_Same r3 (by omega) r4) (fun v n5 g5 l5 k5 hC => ?_) (by omega)
  subst hC
  have hA := hA.keep l5 k5
  have hB := hB.keep l5 k5
  have hE := hE.keep l5 k5
  have hF : ∀ q, q < nx → g5 q = gt q := fun q hq => (k5 q (by omega)).trans (hF q hq)
  simp only [↓gaW, ↓gaV, ↓gaC, ↓gaN, gaP, Nat.reduceEqDiff, Nat.reduceLeDiff, Nat.reduceAdd, Nat.reduceSub, Nat.reduceMul, Int.reduceLT, Int.reduceLE, Int.reduceEq, Int.reduceToNat, Int.reduceAdd, Int.reduceSub, Int.reduceMul, reduceCtorEq, ↓reduceIte]
  refine callK_of (ct_Add hA (by omega) hB (by omega)) (fun v n6 g6 l6 k6 hC => ?_) (by omega)
  obtain ⟨A6, a6, c6, rfl, hc6, hl6, r6⟩ := hC
  have hA := hA.keep l6 k6
  have hB := hB.keep l6 k6
  have hE := hE.keep l6 k6
  have hF : ∀ q, q < nx → g6 q = gt q := fun q hq => (k6 q (by omega)).trans (hF q hq)
  simp only [↓gaW, ↓gaV, ↓gaC, ↓gaN, gaP, Nat.reduceEqDiff, Nat.reduceLeDiff, Nat.reduceAdd, Nat.reduceSub, Nat.reduceMul, Int.reduceLT, Int.reduceLE, Int.reduceEq, Int.reduceToNat, Int.reduceAdd, Int.reduceSub, Int.reduceMul, reduceCtorEq, ↓reduceIte]
  refine callK_of (ct_Sub r6 hc6 (by omega) hB hd (by omega)) (fun v n8 g8 l8 k8 hC => ?_) (by omega)
  rw [lv_lb] at hC
  obtain ⟨sl, rfl, A8, a8, c8, rfl, hc8, hl8, r8⟩ := hC
  rw [show lv l + lv k - lv k = lv l by omega] at r8 hl8
  rw [decide_eq_true (show lv k ≤ lv l + lv k by omega)]
  have hA := hA.keep l8 k8
  have hB := hB.keep l8 k8
  have hE := hE.keep l8 k8
  have hF : ∀ q, q < nx → g8 q = gt q := fun q hq => (k8 q (by omega)).trans (hF q hq)
  simp only [↓gaW, ↓gaV, ↓gaC, ↓gaN, gaP, Nat.reduceEqDiff, Nat.reduceLeDiff, Nat.reduceAdd, Nat.reduceSub, Nat.reduceMul, Int.reduceLT, Int.reduceLE, Int.reduceEq, Int.reduceToNat, Int.reduceAdd, Int.reduceSub, Int.reduceMul, reduceCtorEq, ↓reduceIte]
  repeat refine And.intro (by omega) ?_
  refine callK_of (ct_Bare hA hc (by omega)) (fun v n9 g9 l9 k9 hC => ?_) (by omega)
  obtain ⟨A9, a9, c9, rfl, hc9, hl9, r9⟩ := hC
  have hA := hA.keep l9 k9
  have hB := hB.keep l9 k9
  have hE := hE.keep l9 k9
  have r8 := r8.keep l9 k9
  have hF : ∀ q, q < nx → g9 q = gt q := fun q hq => (k9 q (by omega)).trans (hF q hq)
  simp only [↓gaW, ↓gaV, ↓gaC, ↓gaN, gaP, Nat.reduceEqDiff, Nat.reduceLeDiff, Nat.reduceAdd, Nat.reduceSub, Nat.reduceMul, Int.reduceLT, Int.reduceLE, Int.reduceEq, Int.reduceToNat, Int.reduceAdd, Int.reduceSub, Int.reduceMul, reduceCtorEq, ↓reduceIte]
  refine callK_of (ct_Same r8 (by omega) r9) (fun v n10 g10 l10 k10 hC => ?_) (by omega)
  subst hC
  have hA := hA.keep l10 k10
  have hB := hB.keep l10 k10
  have hE := hE.keep l10 k10
  have hF : ∀ q, q < nx → g10 q = gt q := fun q hq => (k10 q (by omega)).trans (hF q hq)
  simp only [↓gaW, ↓gaV, ↓gaC, ↓gaN, gaP, Nat.reduceEqDiff, Nat.reduceLeDiff, Nat.reduceAdd, Nat.reduceSub, Nat.reduceMul, Int.reduceLT, Int.reduceLE, Int.reduceEq, Int.reduceToNat, Int.reduceAdd, Int.reduceSub, Int.reduceMul, reduceCtorEq, ↓reduceIte]
  refine callK_of (ct_From hE (by omega)) (fun v n11 g11 l11 k11 hC => ?_) (by omega)
  obtain ⟨A11, a11, c11, rfl, hc11, hl11, r11⟩ := hC
  have hA := hA.keep l11 k11
  have hB := hB.keep l11 k11
  have hE := hE.keep l11 k11
  have hF : ∀ q, q < nx → g11 q = gt q := fun q hq => (k11 q (by omega)).trans (hF q hq)
  simp only [↓gaW, ↓gaV, ↓gaC, ↓gaN, gaP, Nat.reduceEqDiff, Nat.reduceLeDiff, Nat.reduceAdd, Nat.reduceSub, Nat.reduceMul, Int.reduceLT, Int.reduceLE, Int.reduceEq, Int.reduceToNat, Int.reduceAdd, Int.reduceSub, Int.reduceMul, reduceCtorEq, ↓reduceIte]
  refine callK_of (ct_To r11 hc11 (by omega)) (fun v n12 g12 l12 k12 hC => ?_) (by omega)
  obtain ⟨A12, a12, c12, rfl, hc12, hl12, r12⟩ := hC
  have hA := hA.keep l12 k12
  have hB := hB.keep l12 k12
  have hE := hE.keep l12 k12
  have hF : ∀ q, q < nx → g12 q = gt q := fun q hq => (k12 q (by omega)).trans (hF q hq)
  simp only [↓gaW, ↓gaV, ↓gaC, ↓gaN, gaP, Nat.reduceEqDiff, Nat.reduceLeDiff, Nat.reduceAdd, Nat.reduceSub, Nat.reduceMul, Int.reduceLT, Int.reduceLE, Int.reduceEq, Int.reduceToNat, Int.reduceAdd, Int.reduceSub, Int.reduceMul, reduceCtorEq, ↓reduceIte]
  rw [lv_lb] at r12 hl12
  obtain ⟨z1, z2⟩ := bv_cb_drop p
  rw [hl12, hp] at z1 z2
  have q1 : (a12 : Int) ≤ (e : Int) := by omega
  have q2 : (e : Int) - (a12 : Int) = ((e - a12 : Nat) : Int) := by omega
  simp only [↓gaW, ↓gaV, ↓gaC, ↓gaN, gaP, Nat.reduceEqDiff, Nat.reduceLeDiff, Nat.reduceAdd, Nat.reduceSub, Nat.reduceMul, Int.reduceLT, Int.reduceLE, Int.reduceEq, Int.reduceToNat, Int.reduceAdd, Int.reduceSub, Int.reduceMul, reduceCtorEq, ↓reduceIte, q1, q2, decide_true, i64_w ((e - a12 : Nat) : Int) (by omega)]
  have hSp := hE.spot
  have q3 : ((e : Int) - ((e - a12 : Nat) : Int)).toNat = a12 := by omega
  obtain ⟨R, hR⟩ : ∃ R, cb (bv p) = R := ⟨_, rfl⟩
  have hhead : a12 ≠ 0 → ¬ (((R.getD 0 0).toNat : Nat) : Int) = 0 := fun h0 hz => by
    have hb0 : bv p ≠ 0 := fun e => h0 (by rw [← hl12, e, cb_zero]; rfl)
    have := cb_head hb0
    rw [hR] at this
    apply this
    apply UInt8.toNat_inj.1
    show _ = 0
    omega
  rw [hR] at r12 hl12 z2
  have r12' : ∀ b, rowOf ⟨n12, b, g12⟩ A12 a12 = some _ := fun b => r12.rowOf
  repeat refine And.intro (by omega) ?_
  cases E with
  | none =>
    have e0 : e = 0 := by
      rcases Nat.eq_zero_or_pos e with h | h
      · exact h
      · obtain ⟨a, _, _, h, _⟩ := hE.cells h
        exact nomatch h
    subst e0
    have a0 : a12 = 0 := by omega
    have R0 : R = [] := List.eq_nil_of_length_eq_zero (by omega)
    have r0 : ∀ m, rowOf m none 0 = some [] := fun m => rfl
    have r1 : bytesOf [] = some [] := rfl
    have r2 : ∀ b, rowOf ⟨n12, b, g12⟩ A12 0 = some [] := fun b => by have := r12' b; rw [a0, R0] at this; exact this
    rw [slK_n]
    simp only [↓gaW, ↓gaV, ↓gaC, ↓gaN, gaP, Nat.reduceEqDiff, Nat.reduceLeDiff, Nat.reduceAdd, Nat.reduceSub, Nat.reduceMul, Int.reduceLT, Int.reduceLE, Int.reduceEq, Int.reduceToNat, Int.reduceAdd, Int.reduceSub, Int.reduceMul, reduceCtorEq, ↓reduceIte, gaE, implies_true, Nat.le_refl, Int.sub_zero, Nat.sub_zero, Int.le_refl, true_or, or_true, r0, r1, r2, R0, a0, beq_self_eq_true, decide_true]
    exact ⟨by omega, hF⟩
  | some a =>
    have hpart := hE.part (lo := e - a12) (hi := e) (by omega) (Nat.le_refl _) rfl
    rw [show e - (e - a12) = a12 by omega] at hpart
    have hpl : ((p.map u8V).drop (e - a12)).take a12 = R.map u8V := by
      rw [← List.map_drop, z2, List.take_of_length_le (by simp [hl12])]
    rw [hpl] at hpart
    have hpart' : ∀ b, rowOf ⟨n12, b, g12⟩ (some ⟨a.block, a.off + (e - a12), a.spot⟩) a12 = some _ := fun b => hpart.rowOf
    rw [slK_s]
    refine ⟨.inr (hSp a rfl), ?_⟩
    simp only [↓gaW, ↓gaV, ↓gaC, ↓gaN, gaP, Nat.reduceEqDiff, Nat.reduceLeDiff, Nat.reduceAdd, Nat.reduceSub, Nat.reduceMul, Int.reduceLT, Int.reduceLE, Int.reduceEq, Int.reduceToNat, Int.reduceAdd, Int.reduceSub, Int.reduceMul, reduceCtorEq, ↓reduceIte, Int.toNat_natCast, Nat.mul_one, q3, hpart', r12', bytesOf_map, beq_self_eq_true]
    by_cases h0 : (a12 : Int) = 0
    · simp only [↓gaW, ↓gaV, ↓gaC, ↓gaN, gaP, Nat.reduceEqDiff, Nat.reduceLeDiff, Nat.reduceAdd, Nat.reduceSub, Nat.reduceMul, Int.reduceLT, Int.reduceLE, Int.reduceEq, Int.reduceToNat, Int.reduceAdd, Int.reduceSub, Int.reduceMul, reduceCtorEq, ↓reduceIte, gaE, implies_true, Nat.le_refl, Int.sub_zero, Nat.sub_zero, Int.le_refl, true_or, or_true, h0, decide_true]
      exact ⟨by omega, hF⟩
    · obtain ⟨a', ce, ro, rfl, a1, a2, a3, a4⟩ := u8_cell r12 hl12 (i := 0) (by omega)
      have a4 : ce.getD a'.off undef = .int .u8 ((R.getD 0 0).toNat : Nat) := a4
      simp only [↓gaW, ↓gaV, ↓gaC, ↓gaN, gaP, Nat.reduceEqDiff, Nat.reduceLeDiff, Nat.reduceAdd, Nat.reduceSub, Nat.reduceMul, Int.reduceLT, Int.reduceLE, Int.reduceEq, Int.reduceToNat, Int.reduceAdd, Int.reduceSub, Int.reduceMul, reduceCtorEq, ↓reduceIte, gaE, implies_true, Nat.le_refl, Int.sub_zero, Nat.sub_zero, Int.le_refl, true_or, or_true, h0, decide_false, a2, a4, hhead (by omega)]
      exact ⟨by omega, a3, by omega, hF⟩
end
end Go.Ga

/- An array of whole numbers that a law is given. -/
namespace Go.Ga
open Go

section
variable {P : Program} {H : Type} {enc : TypeId × Value → H} {w : World} {base : Nat} {sp : Nat → Bool} {held : Bool} {t e : TypeId} {n : Nat} {k : IntKind}

def intOf : Option Value → Int
  | some (.int _ z) => z
  | _ => 0
theorem mapM_all {α β : Type} (f : α → Option β) (g : α → β) : ∀ (L : List α), (∀ i ∈ L, f i = some (g i)) → L.mapM f = some (L.map g)
  | [], _ => rfl
  | a :: L, h => by
    rw [List.mapM_cons, h a (by simp), mapM_all f g L fun i hi => h i (by simp [hi])]
    rfl
theorem mapM_inv {α β : Type} (f : α → Option β) : ∀ (L : List α) (xs : List β), L.mapM f = some xs → ∃ g : α → Option β, (∀ i ∈ L, f i = g i ∧ (g i).isSome) ∧ xs.map some = L.map g
  | [], xs, h => by
    simp at h
    subst h
    exact ⟨fun _ => none, by simp, rfl⟩
  | a :: L, xs, h => by
    rw [List.mapM_cons] at h
    simp only [bind, Option.bind_eq_some_iff, pure, Option.some.injEq] at h
    obtain ⟨y, hy, ys, hys, rfl⟩ := h
    obtain ⟨g, h1, h2⟩ := mapM_inv f L ys hys
    refine ⟨f, fun i hi => ⟨rfl, ?_⟩, ?_⟩
    · rcases List.mem_cons.1 hi with rfl | hi
      · simp [hy]
      · rw [(h1 i hi).1]; exact (h1 i hi).2
    · simp only [List.map_cons, hy, h2, List.cons.injEq, true_and]
      exact List.map_congr_left fun i hi => (h1 i hi).1.symm

def arrD (k : IntKind) (zs : List Int) : DataW H := .agg (zs.map fun z => .lit (.int k z))

theorem shut_arrI (ht : P.underlying t = some (.array n e)) (he : P.underlying e = some (.int k)) (hc : P.cellsOf e = 1) (hct : P.cellsOf t = n) {zs : List Int} (hl : zs.length = n) (hw : ∀ z ∈ zs, (Lit.int k z).wf = true) :
    DataW.Trod enc P w base sp held t (.agg (zs.map (Value.int k)).toArray) (arrD k zs) [] := by
  refine ⟨2, ?_⟩
  have h1 : ∀ i ∈ List.range n, DataW.trod enc P w base sp held 1 e (((zs.map (Value.int k)).drop (i * 1)).take 1) = some ((.lit (.int k (zs.getD i 0)) : DataW H), []) := by
    intro i hi
    have hi : i < zs.length := by rw [hl]; exact List.mem_range.1 hi
    have e1 : ((zs.map (Value.int k)).drop (i * 1)).take 1 = [.int k (zs.getD i 0)] := by
      rw [Nat.mul_one, List.drop_eq_getElem_cons (by simpa using hi)]
      simp [List.getD_eq_getElem?_getD, hi]
    rw [e1]
    have hwi : (Lit.int k (zs.getD i 0)).wf = true := hw _ (by rw [List.getD_eq_getElem?_getD, List.getElem?_eq_getElem hi]; exact List.getElem_mem hi)
    have hwi' := hwi
    simp only [List.getD_eq_getElem?_getD] at hwi' ⊢
    simp [DataW.trod, he, hwi']
  rw [DataW.trod_step]
  unfold DataW.trodStep
  simp only [ht, Value.cells, hct, hc, List.length_map, hl, if_true]
  rw [mapM_all _ _ _ h1]
  simp only [Option.map_some, List.map_map, arrD, Option.some.injEq, Prod.mk.injEq, DataW.agg.injEq]
  refine ⟨?_, by simp⟩
  refine List.ext_getElem (by simp [hl]) fun i h1 h2 => ?_
  have hi : i < zs.length := by simpa using h2
  simp [hi]

theorem open_arrI (ht : P.underlying t = some (.array n e)) (he : P.underlying e = some (.int k)) (hc : P.cellsOf e = 1) (hct : P.cellsOf t = n) {r : Reach} {b0 : Nat} {v : Value} {d : DataW H} {ps : List MemPlace} (hval : Value.okWide P w r b0 t v) (hd : DataW.Trod enc P w base sp held t v d ps) :
    ∃ zs : List Int, v = .agg (zs.map (Value.int k)).toArray ∧ zs.length = n ∧ (∀ z ∈ zs, (Lit.int k z).wf = true) ∧ d = arrD k zs ∧ ps = [] := by
  simp only [Value.okWide, ht] at hval
  obtain ⟨cs, rfl, hcs, _⟩ := hval
  obtain ⟨fuel, hf⟩ := hd
  cases fuel with
  | zero => simp [DataW.trod] at hf
  | succ fuel =>
    rw [DataW.trod_step] at hf
    unfold DataW.trodStep at hf
    simp only [ht, Value.cells] at hf
    rw [if_pos (by simpa using hcs)] at hf
    simp only [Option.map_eq_some_iff] at hf
    obtain ⟨xs, hx, e1⟩ := hf
    obtain ⟨g, hg, hgx⟩ := mapM_inv _ _ _ hx
    have hlen : cs.toList.length = n := by simp [hcs, hct]
    have cell : ∀ i, i < n → ∃ z, cs.toList[i]? = some (.int k z) ∧ (Lit.int k z).wf = true ∧ g i = some ((.lit (.int k z) : DataW H), []) := by
      intro i hi
      obtain ⟨h1, h2⟩ := hg i (List.mem_range.2 hi)
      obtain ⟨y, hy⟩ := Option.isSome_iff_exists.1 h2
      rw [hy] at h1
      obtain ⟨z, h3, rfl, h4⟩ := DataW.trod_int he h1
      refine ⟨z, ?_, h4, hy⟩
      rw [hc, Nat.mul_one, List.drop_eq_getElem_cons (by omega)] at h3
      simp at h3
      rw [List.getElem?_eq_getElem (by omega)]
      simp [h3]
    have hzs : ∃ zs : List Int, zs.length = n ∧ ∀ i, i < n → cs.toList[i]? = some (.int k (zs.getD i 0)) ∧ (Lit.int k (zs.getD i 0)).wf = true ∧ g i = some ((.lit (.int k (zs.getD i 0)) : DataW H), []) := by
      refine ⟨(List.range n).map fun i => intOf cs.toList[i]?, by simp, fun i hi => ?_⟩
      obtain ⟨z, h1, h2, h3⟩ := cell i hi
      have : ((List.range n).map fun i => intOf cs.toList[i]?).getD i 0 = z := by
        rw [List.getD_eq_getElem?_getD, List.getElem?_map, List.getElem?_range hi]
        simp only [Option.map_some, h1, Option.getD_some, intOf]
      rw [this]
      exact ⟨h1, h2, h3⟩
    obtain ⟨zs, hl, hz⟩ := hzs
    refine ⟨zs, ?_, hl, fun z hmem => ?_, ?_, ?_⟩
    · congr 1
      apply Array.ext'
      refine List.ext_getElem? fun i => ?_
      rcases Nat.lt_or_ge i n with h | h
      · rw [(hz i h).1]
        simp [List.getElem?_map, List.getD_eq_getElem?_getD, List.getElem?_eq_getElem (show i < zs.length by omega)]
      · rw [List.getElem?_eq_none (by omega), List.getElem?_eq_none (by simp; omega)]
    · obtain ⟨i, hi, rfl⟩ := List.getElem_of_mem hmem
      have := (hz i (by omega)).2.1
      simpa [List.getD_eq_getElem?_getD, List.getElem?_eq_getElem hi] using this
    · simp only [Prod.mk.injEq] at e1
      rw [← e1.1, arrD]
      congr 1
      refine List.ext_getElem? fun i => ?_
      have hxi : (xs.map some)[i]? = ((List.range n).map g)[i]? := by rw [hgx]
      rcases Nat.lt_or_ge i n with h | h
      · rw [List.getElem?_map, List.getElem?_map, List.getElem?_range h, Option.map_some, (hz i h).2.2] at hxi
        cases hx1 : xs[i]? with
        | none => simp [hx1] at hxi
        | some y =>
          simp only [hx1, Option.map_some, Option.some.injEq] at hxi
          simp [hx1, hxi, List.getD_eq_getElem?_getD, List.getElem?_eq_getElem (show i < zs.length by omega)]
      · have : xs.length = n := by
          have := congrArg List.length hgx
          simpa using this
        rw [List.getElem?_eq_none (by simp; omega), List.getElem?_eq_none (by simp; omega)]
    · simp only [Prod.mk.injEq] at e1
      rw [← e1.2, List.flatMap_eq_nil_iff]
      intro y hy
      obtain ⟨i, hi, rfl⟩ := List.getElem_of_mem hy
      have hn : xs.length = n := by
        have := congrArg List.length hgx
        simpa using this
      have hxi : (xs.map some)[i]? = ((List.range n).map g)[i]? := by rw [hgx]
      rw [List.getElem?_map, List.getElem?_eq_getElem hi, List.getElem?_map, List.getElem?_range (by omega), Option.map_some, Option.map_some, (hz i (by omega)).2.2] at hxi
      simp only [Option.some.injEq] at hxi
      rw [hxi]
end

theorem absV_arr {w : World} {k : IntKind} {zs : List Int} : absV w (.agg (zs.map (Value.int k)).toArray) = .agg (zs.map (Value.int k)).toArray := by
  simp only [absV]
  congr 1
  apply Array.ext'
  simp [Function.comp_def, absC, goodV]
theorem list6 {zs : List Int} (h : zs.length = 6) : ∃ a b c d e f, zs = [a, b, c, d, e, f] := by
  match zs, h with
  | [a, b, c, d, e, f], _ => exact ⟨a, b, c, d, e, f, rfl⟩
end Go.Ga

/- A slice of words that a law is given. -/
namespace Go.Ga
open Go

theorem wf_u32 {n : Int} (h : (Lit.int .u32 n).wf = true) : 0 ≤ n ∧ n ≤ 4294967295 := by
  have := (Lit.wf_int_iff _ _).1 h
  simpa [IntKind.min, IntKind.max, IntKind.signed, IntKind.bits] using this
theorem wf_u32N {n : Int} (h : (Lit.int .u32 n).wf = true) : ∃ x : Nat, n = x ∧ x < 4294967296 := by
  have := wf_u32 h
  exact ⟨n.toNat, by omega, by omega⟩

/-- A row's slice of words. -/
theorem absV_words {w : World} {a : Option Addr} {len cap : Nat} {zs : List Int} (h : IsRow .u32 w a len cap zs) :
    ∃ A, absV w (.slice a len cap) = .slice A len cap ∧ len ≤ cap ∧ ∃ l : List UInt32, Row w.heap.size (m0 w).get 1 A len (l.map u32V) := by
  rcases h with ⟨rfl, rfl, rfl, rfl⟩ | ⟨x, rfl, h1, h2, h3, h4, h5⟩
  · exact ⟨none, rfl, Nat.le_refl _, [], .nil⟩
  by_cases hc : cap = 0
  · subst hc
    have : len = 0 := by omega
    subst this
    exact ⟨some ⟨x.block, x.off, none⟩, by simp [absV, absC], Nat.le_refl _, [], ⟨fun a ha => by injection ha with ha; subst ha; exact .inl rfl, rfl, fun h => absurd h (Nat.lt_irrefl 0)⟩⟩
  have c0 := h4 0 (by omega)
  have hx : x.add 0 = x := by simp [Addr.add]
  rw [hx] at c0
  unfold World.cell? at c0
  split at c0
  · rename_i ce el fr hb
    have hsp : x.spot = none := by
      by_cases h : x.spot.isSome
      · rw [if_pos h] at c0; cases c0
      · simpa using h
    have hlt : x.block < w.heap.size := by
      rcases Nat.lt_or_ge x.block w.heap.size with h | h
      · exact h
      · rw [Array.getElem?_eq_none h] at hb; cases hb
    have hcell : ∀ i, i < cap → ce[x.off + i]? = some (.int .u32 (zs.getD i 0)) := by
      intro i hi
      have := h4 i (by omega)
      unfold World.cell? Addr.add at this
      by_cases h0 : i = 0
      · subst h0
        simp only [if_true, hb, hsp] at this
        simpa using this
      · simp only [if_neg h0, hb] at this
        simpa using this
    have hsz : x.off + cap ≤ ce.size := by
      have := hcell (cap - 1) (by omega)
      rcases Nat.lt_or_ge (x.off + (cap - 1)) ce.size with h | h
      · omega
      · rw [Array.getElem?_eq_none h] at this; cases this
    refine ⟨some x, ?_, h1, (zs.take len).map fun n => UInt32.ofNat n.toNat, ⟨fun a ha => by injection ha with ha; subst ha; exact .inl hsp, ?_, fun hN => ⟨x, ce.toList.map (absC w), true, rfl, hlt, ?_, ?_, fun i hi => ?_⟩⟩⟩
    · have : isCells w x.block = true := by simp [isCells, hb]
      simp [absV, absC, hc, hsp, h1, this]
    · simp; omega
    · simp [m0, hb]
    · simp; omega
    · have e1 := hcell i (by omega)
      have hz : i < zs.length := by omega
      have hw := wf_u32 (h5 (zs.getD i 0) (by rw [List.getD_eq_getElem?_getD, List.getElem?_eq_getElem hz]; exact List.getElem_mem hz))
      have e2 : ce.toList[x.off + i]? = some (.int .u32 (zs.getD i 0)) := by simpa using e1
      have e3 : (ce.toList.map (absC w)).getD (x.off + i) undef = .int .u32 (zs.getD i 0) := by
        rw [List.getD_eq_getElem?_getD, List.getElem?_map, e2]
        rfl
      rw [e3, getD_u32 (by simp; omega)]
      congr 1
      have e4 : ((zs.take len).map fun n => UInt32.ofNat n.toNat).getD i 0 = UInt32.ofNat (zs.getD i 0).toNat := by
        simp [List.getD_eq_getElem?_getD, List.getElem?_map, hi, List.getElem?_eq_getElem hz]
      rw [e4, UInt32.toNat_ofNat']
      omega
  · cases c0

end Go.Ga
