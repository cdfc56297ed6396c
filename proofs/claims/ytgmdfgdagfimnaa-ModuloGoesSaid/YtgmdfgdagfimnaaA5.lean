/- Words and contracts of functions for the statement's proof. No condition. -/
import Derived.Test.YtgmdfgdagfimnaaA4
import Derived.ChangeArms
import Derived.OpenShut
import Derived.DataReads
set_option linter.all false

namespace Go.Ga
open Go Go.Proofs
set_option linter.unusedSimpArgs false
set_option linter.unusedVariables false
set_option maxRecDepth 100000
attribute [local irreducible] appendK

theorem word_bit (l : List UInt32) (k : Nat) : (l.getD (k / 32) 0).toNat / 2 ^ (k % 32) % 2 = lv l / 2 ^ k % 2 := by
  have hr : k % 32 < 32 := Nat.mod_lt _ (by decide)
  have e1 : (2 : Nat) ^ k = 4294967296 ^ (k / 32) * 2 ^ (k % 32) := by
    have e : (4294967296 : Nat) = 2 ^ 32 := by decide
    rw [e, ← Nat.pow_mul, ← Nat.pow_add, Nat.div_add_mod]
  have e2 : (4294967296 : Nat) = 2 ^ (k % 32) * (2 * 2 ^ (31 - k % 32)) := by
    rw [← Nat.pow_succ', ← Nat.pow_add, show k % 32 + (31 - k % 32).succ = 32 by omega]
  rw [lv_get, e1, ← Nat.div_div_eq_div_mul]
  generalize lv l / 4294967296 ^ (k / 32) = Y
  rw [e2, Nat.mod_mul_right_div_self, Nat.mod_mul_right_mod]

theorem pow_bit (a e m j : Nat) : a ^ (e / 2 ^ j) % m = if e / 2 ^ j % 2 = 1 then (a ^ (e / 2 ^ (j + 1)) % m * (a ^ (e / 2 ^ (j + 1)) % m) % m) * (a % m) % m else a ^ (e / 2 ^ (j + 1)) % m * (a ^ (e / 2 ^ (j + 1)) % m) % m := by
  have h : e / 2 ^ j = 2 * (e / 2 ^ (j + 1)) + e / 2 ^ j % 2 := by
    rw [Nat.pow_succ, ← Nat.div_div_eq_div_mul]; omega
  generalize e / 2 ^ (j + 1) = q at *
  generalize e / 2 ^ j = p at *
  split
  · rename_i hb
    rw [h, hb, Nat.pow_succ, Nat.two_mul, Nat.pow_add]
    simp only [Nat.mul_mod, Nat.mod_mod]
  · rw [h, show p % 2 = 0 by omega, Nat.add_zero, Nat.two_mul, Nat.pow_add]
    simp only [Nat.mul_mod, Nat.mod_mod]

/-- What is left of a number, and whether it may be asked. -/
def ModV (nx : Nat) (gt : Nat → Option Blk) (r m : Nat) (v : Value) : Prop :=
  (m = 0 ∧ v = .tuple #[.slice none 0 0, .bool false]) ∨ (m ≠ 0 ∧ ∃ v1, v = .tuple #[v1, .bool true] ∧ W32 nx gt v1 (lb (r % m)))

theorem mod_len {x : Nat} {t : List UInt32} {h : Nat} (h0 : lv t ≠ 0) (ht : t.length ≤ h) : (lb (x % lv t)).length ≤ h := by
  refine lb_len_le.2 ?_
  have h1 := Nat.mod_lt x (Nat.pos_of_ne_zero h0)
  have h2 := lv_lt' ht
  omega

section
variable {nx : Nat} {gt : Nat → Option Blk}

theorem ct_mMul {A B E : Option Addr} {n m h c d e : Nat} {l k t : List UInt32} (hr : Row nx gt 1 A n (l.map u32V)) (hn : n < 4000000) (hs : Row nx gt 1 B m (k.map u32V)) (hm : m < 4000000) (ht : Row nx gt 1 E h (t.map u32V)) (he : h ≤ e) (hh : h < 4000000) :
    Ct Try.prog 34 [.slice A n c, .slice B m d, .slice E h e] nx gt fun v nx' gt' => ModV nx' gt' (lv l * lv k) (lv t) v := by
  have hl : l.length = n := by simpa using hr.len
  have hk : k.length = m := by simpa using hs.len
  refine Ct.of hmx r_modulo_Mul (by simp [c_modulo_Mul]) fun b hb => ?_
  have hF : ∀ q, q < nx → gt q = gt q := fun _ _ => rfl
  simp only [c_modulo_Mul, ↓gaW, ↓gaV, ↓gaC, ↓gaN, gaP, Nat.reduceEqDiff, Nat.reduceLeDiff, Nat.reduceAdd, Nat.reduceSub, Nat.reduceMul, Int.reduceLT, Int.reduceLE, Int.reduceEq, Int.reduceToNat, Int.reduceAdd, Int.reduceSub, Int.reduceMul, reduceCtorEq, ↓reduceIte]
  refine callK_of (ct_Mul hr (by omega) hs (by omega)) (fun v n1 g1 l1 k1 hC => ?_) (by omega)
  obtain ⟨A1, a1, c1, rfl, hc1, hl1, r1⟩ := hC
  have ht := ht.keep l1 k1
  have hF : ∀ q, q < nx → g1 q = gt q := fun q hq => (k1 q (by omega)).trans (hF q hq)
  simp only [↓gaW, ↓gaV, ↓gaC, ↓gaN, gaP, Nat.reduceEqDiff, Nat.reduceLeDiff, Nat.reduceAdd, Nat.reduceSub, Nat.reduceMul, Int.reduceLT, Int.reduceLE, Int.reduceEq, Int.reduceToNat, Int.reduceAdd, Int.reduceSub, Int.reduceMul, reduceCtorEq, ↓reduceIte]
  have hlen : (lb (lv l * lv k)).length ≤ n + m := lb_len_le.2 (lt_mul (lv_lt' (by omega)) (lv_lt' (by omega)))
  refine callK_of (ct_DivMod r1 hc1 (by omega) ht he (by omega)) (fun v n2 g2 l2 k2 hC => ?_) (by omega)
  rw [lv_lb] at hC
  rcases hC with ⟨h0, rfl⟩ | ⟨h0, v1, v2, rfl, hq, hw⟩
  · simp only [↓gaW, ↓gaV, ↓gaC, ↓gaN, gaP, Nat.reduceEqDiff, Nat.reduceLeDiff, Nat.reduceAdd, Nat.reduceSub, Nat.reduceMul, Int.reduceLT, Int.reduceLE, Int.reduceEq, Int.reduceToNat, Int.reduceAdd, Int.reduceSub, Int.reduceMul, reduceCtorEq, ↓reduceIte, gaE, implies_true, Nat.le_refl, Int.sub_zero, Nat.sub_zero, Int.le_refl, true_or, or_true]
    repeat refine And.intro (by first | omega | (simp; done) | (simp; omega) | exact all1 rfl) ?_
    exact ⟨fun q hq => (k2 q (by omega)).trans (hF q hq), .inl ⟨h0, rfl⟩⟩
  · simp only [↓gaW, ↓gaV, ↓gaC, ↓gaN, gaP, Nat.reduceEqDiff, Nat.reduceLeDiff, Nat.reduceAdd, Nat.reduceSub, Nat.reduceMul, Int.reduceLT, Int.reduceLE, Int.reduceEq, Int.reduceToNat, Int.reduceAdd, Int.reduceSub, Int.reduceMul, reduceCtorEq, ↓reduceIte, gaE, implies_true, Nat.le_refl, Int.sub_zero, Nat.sub_zero, Int.le_refl, true_or, or_true]
    repeat refine And.intro (by first | omega | (simp; done) | (simp; omega) | exact all1 rfl) ?_
    exact ⟨fun q hq => (k2 q (by omega)).trans (hF q hq), .inr ⟨h0, _, rfl, hw⟩⟩

theorem ct_mExp {A B E : Option Addr} {n m h c d e : Nat} {l k t : List UInt32} (hr : Row nx gt 1 A n (l.map u32V)) (hc : n ≤ c) (hn : n < 4000000) (hs : Row nx gt 1 B m (k.map u32V)) (hd : m ≤ d) (hm : m < 4000000) (ht : Row nx gt 1 E h (t.map u32V)) (he : h ≤ e) (hh : h < 4000000) :
    Ct Try.prog 36 [.slice A n c, .slice B m d, .slice E h e] nx gt fun v nx' gt' => ModV nx' gt' (lv l ^ lv k) (lv t) v := by
  have hl : l.length = n := by simpa using hr.len
  have hk : k.length = m := by simpa using hs.len
  have htl : t.length = h := by simpa using ht.len
  refine Ct.of hmx r_modulo_Exp (by simp [c_modulo_Exp]) fun b hb => ?_
  have hF : ∀ q, q < nx → gt q = gt q := fun _ _ => rfl
  have ebl : bl (lv k) ≤ 32 * m := by
    refine bl_le.2 ?_
    have := lv_lt' (Nat.le_of_eq hk)
    rwa [show (4294967296 : Nat) = 2 ^ 32 by decide, ← Nat.pow_mul] at this
  simp only [c_modulo_Exp, ↓gaW, ↓gaV, ↓gaC, ↓gaN, gaP, Nat.reduceEqDiff, Nat.reduceLeDiff, Nat.reduceAdd, Nat.reduceSub, Nat.reduceMul, Int.reduceLT, Int.reduceLE, Int.reduceEq, Int.reduceToNat, Int.reduceAdd, Int.reduceSub, Int.reduceMul, reduceCtorEq, ↓reduceIte, List.getD_cons_zero, List.getD_cons_succ, fillL, splice, List.take_zero, List.drop_zero, List.drop_succ_cons, List.take_succ_cons, List.drop_nil, List.take_nil]
  have r0 : Row (nx + 1) (upd gt nx (some (.cells [.int .u32 1] false))) 1 (some ⟨nx, 0, none⟩) 1 (([1] : List UInt32).map u32V) := Row.w32 (ro := false) (by omega) (by simp [upd]; rfl) rfl
  have kx : ∀ q, q < nx → upd gt nx (some (.cells [.int .u32 1] false)) q = gt q := fun q hq => by simp only [upd_e]; rw [if_neg (by omega)]
  have hr := hr.keep (nx' := nx + 1) (by omega) kx
  have hs := hs.keep (nx' := nx + 1) (by omega) kx
  have ht := ht.keep (nx' := nx + 1) (by omega) kx
  refine callK_of (ct_DivMod r0 (by omega) (by omega) ht he (by omega)) (fun v n1 g1 l1 k1 hC => ?_) (by omega)
  rw [show lv [1] = 1 by decide] at hC
  have hF : ∀ q, q < nx → g1 q = gt q := fun q hq => (k1 q (by omega)).trans (kx q hq)
  have hr := hr.keep l1 k1
  have hs := hs.keep l1 k1
  have ht := ht.keep l1 k1
  rcases hC with ⟨h0, rfl⟩ | ⟨h0, v1, v2, rfl, hq, hw⟩
  · simp only [↓gaW, ↓gaV, ↓gaC, ↓gaN, gaP, Nat.reduceEqDiff, Nat.reduceLeDiff, Nat.reduceAdd, Nat.reduceSub, Nat.reduceMul, Int.reduceLT, Int.reduceLE, Int.reduceEq, Int.reduceToNat, Int.reduceAdd, Int.reduceSub, Int.reduceMul, reduceCtorEq, ↓reduceIte, gaE, implies_true, Nat.le_refl, Int.sub_zero, Nat.sub_zero, Int.le_refl, true_or, or_true]
    repeat refine And.intro (by first | omega | (simp; done) | (simp; omega) | exact all1 rfl) ?_
    first | exact ⟨hF, .inl ⟨h0, rfl⟩⟩ | exact .inl ⟨h0, rfl⟩
  simp only [↓gaW, ↓gaV, ↓gaC, ↓gaN, gaP, Nat.reduceEqDiff, Nat.reduceLeDiff, Nat.reduceAdd, Nat.reduceSub, Nat.reduceMul, Int.reduceLT, Int.reduceLE, Int.reduceEq, Int.reduceToNat, Int.reduceAdd, Int.reduceSub, Int.reduceMul, reduceCtorEq, ↓reduceIte, Bool.not_true]
  repeat refine And.intro (by first | omega | (simp; done) | (simp; omega) | exact all1 rfl) ?_
  refine callK_of (ct_DivMod hr hc (by omega) ht he (by omega)) (fun v n3 g3 l3 k3 hC => ?_) (by omega)
  have hs := hs.keep l3 k3
  have ht := ht.keep l3 k3
  have hw := hw.keep l3 k3
  have hF : ∀ q, q < nx → g3 q = gt q := fun q hq => (k3 q (by omega)).trans (hF q hq)
  rcases hC with ⟨h0', rfl⟩ | ⟨_, v3, v4, rfl, hq3, hw3⟩
  · exact absurd h0' h0
  simp only [↓gaW, ↓gaV, ↓gaC, ↓gaN, gaP, Nat.reduceEqDiff, Nat.reduceLeDiff, Nat.reduceAdd, Nat.reduceSub, Nat.reduceMul, Int.reduceLT, Int.reduceLE, Int.reduceEq, Int.reduceToNat, Int.reduceAdd, Int.reduceSub, Int.reduceMul, reduceCtorEq, ↓reduceIte]
  repeat refine And.intro (by first | omega | (simp; done) | (simp; omega) | exact all1 rfl) ?_
  refine callK_of (ct_Len hs hd (by omega)) (fun v n4 g4 l4 k4 hC => ?_) (by omega)
  subst hC
  have hs := hs.keep l4 k4
  have ht := ht.keep l4 k4
  have hw := hw.keep l4 k4
  have hw3 := hw3.keep l4 k4
  have hF : ∀ q, q < nx → g4 q = gt q := fun q hq => (k4 q (by omega)).trans (hF q hq)
  simp only [↓gaW, ↓gaV, ↓gaC, ↓gaN, gaP, Nat.reduceEqDiff, Nat.reduceLeDiff, Nat.reduceAdd, Nat.reduceSub, Nat.reduceMul, Int.reduceLT, Int.reduceLE, Int.reduceEq, Int.reduceToNat, Int.reduceAdd, Int.reduceSub, Int.reduceMul, reduceCtorEq, ↓reduceIte, i64_w ((bl (lv k) : Int) - 1) (by omega)]
  refine loop_of (fun j f mm => ∃ (y x : Nat) (g : Nat → Option Blk), j = y ∧ y ≤ bl (lv k) ∧ W32 x g (f 0) (lb (lv l % lv t)) ∧ f 1 = .slice B m d ∧ f 2 = .slice E h e ∧ W32 x g (f 9) (lb (lv l ^ (lv k / 2 ^ y) % lv t)) ∧ f 11 = .int .i64 ((y : Int) - 1) ∧ mm = ⟨x, b, g⟩ ∧ nx ≤ x ∧
      (∀ p, p < nx → g p = gt p) ∧ Row x g 1 B m (k.map u32V) ∧ Row x g 1 E h (t.map u32V)) (bl (lv k))
    ⟨_, n4, g4, rfl, Nat.le_refl _, by simp only [↓gaW, ↓gaV, ↓gaC, ↓gaN, gaP, Nat.reduceEqDiff, Nat.reduceLeDiff, Nat.reduceAdd, Nat.reduceSub, Nat.reduceMul, Int.reduceLT, Int.reduceLE, Int.reduceEq, Int.reduceToNat, Int.reduceAdd, Int.reduceSub, Int.reduceMul, reduceCtorEq, ↓reduceIte]; exact hw3, by simp only [↓gaW, ↓gaV, ↓gaC, ↓gaN, gaP, Nat.reduceEqDiff, Nat.reduceLeDiff, Nat.reduceAdd, Nat.reduceSub, Nat.reduceMul, Int.reduceLT, Int.reduceLE, Int.reduceEq, Int.reduceToNat, Int.reduceAdd, Int.reduceSub, Int.reduceMul, reduceCtorEq, ↓reduceIte], by simp only [↓gaW, ↓gaV, ↓gaC, ↓gaN, gaP, Nat.reduceEqDiff, Nat.reduceLeDiff, Nat.reduceAdd, Nat.reduceSub, Nat.reduceMul, Int.reduceLT, Int.reduceLE, Int.reduceEq, Int.reduceToNat, Int.reduceAdd, Int.reduceSub, Int.reduceMul, reduceCtorEq, ↓reduceIte], by simp only [↓gaW, ↓gaV, ↓gaC, ↓gaN, gaP, Nat.reduceEqDiff, Nat.reduceLeDiff, Nat.reduceAdd, Nat.reduceSub, Nat.reduceMul, Int.reduceLT, Int.reduceLE, Int.reduceEq, Int.reduceToNat, Int.reduceAdd, Int.reduceSub, Int.reduceMul, reduceCtorEq, ↓reduceIte]; rw [Nat.div_eq_of_lt (bl_lt _), Nat.pow_zero]; exact hw, by simp only [↓gaW, ↓gaV, ↓gaC, ↓gaN, gaP, Nat.reduceEqDiff, Nat.reduceLeDiff, Nat.reduceAdd, Nat.reduceSub, Nat.reduceMul, Int.reduceLT, Int.reduceLE, Int.reduceEq, Int.reduceToNat, Int.reduceAdd, Int.reduceSub, Int.reduceMul, reduceCtorEq, ↓reduceIte], rfl, by omega, hF, hs, ht⟩ ?_
  rintro j f mm ⟨y, x, g, rfl, hy, w0, h1, h2, w9, h11, rfl, hx, hF, hs, ht⟩
  rcases Nat.eq_zero_or_pos j with rfl | hj
  · simp only [↓gaW, ↓gaV, ↓gaC, ↓gaN, gaP, Nat.reduceEqDiff, Nat.reduceLeDiff, Nat.reduceAdd, Nat.reduceSub, Nat.reduceMul, Int.reduceLT, Int.reduceLE, Int.reduceEq, Int.reduceToNat, Int.reduceAdd, Int.reduceSub, Int.reduceMul, reduceCtorEq, ↓reduceIte, gaE, implies_true, Nat.le_refl, Int.sub_zero, Nat.sub_zero, Int.le_refl, true_or, or_true, h11, show ((0 : Nat) : Int) - 1 = -1 from rfl, show ¬ (0 : Int) ≤ -1 by omega, decide_false, loopK_e]
    rw [Nat.pow_zero, Nat.div_one] at w9
    repeat refine And.intro (by first | omega | (simp; done) | (simp; omega) | exact all1 rfl) ?_
    first | exact ⟨hF, .inr ⟨h0, _, rfl, w9⟩⟩ | exact .inr ⟨h0, _, rfl, w9⟩
  · obtain ⟨z, rfl⟩ : ∃ z, j = z + 1 := ⟨j - 1, by omega⟩
    rw [show ((z + 1 : Nat) : Int) - 1 = (z : Int) by omega] at h11
    obtain ⟨a0, s0, c0, e0, hc0, hl0, r0⟩ := w0
    obtain ⟨a9, s9, c9, e9, hc9, hl9, r9⟩ := w9
    have z0 := mod_len (x := lv l) h0 (Nat.le_of_eq htl)
    have z9 := mod_len (x := lv l ^ (lv k / 2 ^ (z + 1))) h0 (Nat.le_of_eq htl)
    simp only [↓gaW, ↓gaV, ↓gaC, ↓gaN, gaP, Nat.reduceEqDiff, Nat.reduceLeDiff, Nat.reduceAdd, Nat.reduceSub, Nat.reduceMul, Int.reduceLT, Int.reduceLE, Int.reduceEq, Int.reduceToNat, Int.reduceAdd, Int.reduceSub, Int.reduceMul, reduceCtorEq, ↓reduceIte, h1, h2, h11, e9, show (0 : Int) ≤ (z : Int) by omega, decide_true]
    refine callK_of (ct_mMul r9 (by omega) r9 (by omega) ht he hh) (fun v n5 g5 l5 k5 hC => ?_) (by omega)
    rcases hC with ⟨h0', rfl⟩ | ⟨_, v5, rfl, hw5⟩
    · exact absurd h0' h0
    have hs := hs.keep l5 k5
    have ht := ht.keep l5 k5
    have r0 := r0.keep l5 k5
    have hF : ∀ q, q < nx → g5 q = gt q := fun q hq => (k5 q (by omega)).trans (hF q hq)
    rw [lv_lb] at hw5
    obtain ⟨a, ce, ro, rfl, p1, p2, p3, p4⟩ := w32_cell hs hk (i := z / 32) (by omega)
    have d1 : (z : Int).tdiv 32 = ((z / 32 : Nat) : Int) := by rw [Int.tdiv_eq_ediv_of_nonneg (by omega)]; omega
    have d2 : (z : Int).tmod 32 = ((z % 32 : Nat) : Int) := by rw [Int.tmod_eq_emod_of_nonneg (by omega)]; omega
    have d3 : shrV .u32 ((((k.getD (z / 32) 0).toNat : Nat)) : Int) ((z % 32 : Nat) : Int) = (((k.getD (z / 32) 0).toNat / 2 ^ (z % 32) : Nat) : Int) := shr_nat (k := .u32) _ _ (by show _ ≤ 32; omega)
    have d4 := lt32 (k.getD (z / 32) 0)
    have d5 : (k.getD (z / 32) 0).toNat / 2 ^ (z % 32) ≤ (k.getD (z / 32) 0).toNat := Nat.div_le_self _ _
    have d6 : bitsV .and .u32 (((k.getD (z / 32) 0).toNat / 2 ^ (z % 32) : Nat) : Int) 1 = ((lv k / 2 ^ z % 2 : Nat) : Int) := by
      rw [show (1 : Int) = ((1 : Nat) : Int) from rfl, and_u32 (by omega) (by omega), Nat.and_one_is_mod, word_bit]
    simp only [↓gaW, ↓gaV, ↓gaC, ↓gaN, gaP, Nat.reduceEqDiff, Nat.reduceLeDiff, Nat.reduceAdd, Nat.reduceSub, Nat.reduceMul, Int.reduceLT, Int.reduceLE, Int.reduceEq, Int.reduceToNat, Int.reduceAdd, Int.reduceSub, Int.reduceMul, reduceCtorEq, ↓reduceIte, h1, h11, p2, d1, d2, i64_w ((z / 32 : Nat) : Int) (by omega), Int.toNat_natCast, p4, d3, d6]
    repeat refine And.intro (by first | omega | (simp; done) | (simp; omega) | exact all1 rfl) ?_
    have hpb := pow_bit (lv l) (lv k) (lv t) z
    obtain ⟨a5, s5, c5, rfl, hc5, hl5, r5⟩ := hw5
    have z5 := mod_len (x := lv l ^ (lv k / 2 ^ (z + 1)) % lv t * (lv l ^ (lv k / 2 ^ (z + 1)) % lv t)) h0 (Nat.le_of_eq htl)
    by_cases hbt : lv k / 2 ^ z % 2 = 1
    · rw [if_pos hbt] at hpb
      simp only [↓gaW, ↓gaV, ↓gaC, ↓gaN, gaP, Nat.reduceEqDiff, Nat.reduceLeDiff, Nat.reduceAdd, Nat.reduceSub, Nat.reduceMul, Int.reduceLT, Int.reduceLE, Int.reduceEq, Int.reduceToNat, Int.reduceAdd, Int.reduceSub, Int.reduceMul, reduceCtorEq, ↓reduceIte, hbt, decide_true, e0, h2]
      repeat refine And.intro (by first | omega | (simp; done) | (simp; omega) | exact all1 rfl) ?_
      refine callK_of (ct_mMul r5 (by omega) r0 (by omega) ht he hh) (fun v n6 g6 l6 k6 hC => ?_) (by omega)
      rcases hC with ⟨h0', rfl⟩ | ⟨_, v6, rfl, hw6⟩
      · exact absurd h0' h0
      have hs := hs.keep l6 k6
      have ht := ht.keep l6 k6
      have r0 := r0.keep l6 k6
      have hF : ∀ q, q < nx → g6 q = gt q := fun q hq => (k6 q (by omega)).trans (hF q hq)
      rw [lv_lb, lv_lb, ← hpb] at hw6
      simp only [↓gaW, ↓gaV, ↓gaC, ↓gaN, gaP, Nat.reduceEqDiff, Nat.reduceLeDiff, Nat.reduceAdd, Nat.reduceSub, Nat.reduceMul, Int.reduceLT, Int.reduceLE, Int.reduceEq, Int.reduceToNat, Int.reduceAdd, Int.reduceSub, Int.reduceMul, reduceCtorEq, ↓reduceIte, h11, i64_w ((z : Int) - 1) (by omega), loopK_n]
      repeat refine And.intro (by first | omega | (simp; done) | (simp; omega) | exact all1 rfl) ?_
      exact ⟨z, by omega, z, n6, g6, rfl, by omega, e0 ▸ ⟨a0, s0, c0, rfl, hc0, hl0, r0⟩, h1, h2, hw6, rfl, rfl, by omega, hF, hs, ht⟩
    · rw [if_neg hbt] at hpb
      have hbi : ¬ ((lv k / 2 ^ z % 2 : Nat) : Int) = 1 := by omega
      simp only [↓gaW, ↓gaV, ↓gaC, ↓gaN, gaP, Nat.reduceEqDiff, Nat.reduceLeDiff, Nat.reduceAdd, Nat.reduceSub, Nat.reduceMul, Int.reduceLT, Int.reduceLE, Int.reduceEq, Int.reduceToNat, Int.reduceAdd, Int.reduceSub, Int.reduceMul, reduceCtorEq, ↓reduceIte, hbi, decide_false, h11, i64_w ((z : Int) - 1) (by omega), loopK_n]
      repeat refine And.intro (by first | omega | (simp; done) | (simp; omega) | exact all1 rfl) ?_
      rw [← hpb] at hl5 r5
      exact ⟨z, by omega, z, n5, g5, rfl, by omega, e0 ▸ ⟨a0, s0, c0, rfl, hc0, hl0, r0⟩, h1, h2, ⟨a5, s5, c5, rfl, hc5, hl5, r5⟩, rfl, rfl, by omega, hF, hs, ht⟩
end
end Go.Ga

namespace Go.Ga
open Go Go.Proofs
set_option linter.unusedSimpArgs false
set_option linter.unusedVariables false
set_option maxRecDepth 100000
attribute [local irreducible] appendK

/-- A slice that a call made, which may be appended to. -/
def GrowV (lo nx : Nat) (gt : Nat → Option Blk) (v : Value) (l : List UInt32) : Prop := ∃ A n, v = .slice A n n ∧ l.length = n ∧ Grow lo lo nx gt 1 A n (l.map u32V)
theorem Own.low {nx b x g e A n l nx' b'} (h : Own nx b x g e A n l) (h1 : nx' ≤ nx) (h2 : b' ≤ nx) : Own nx' b' x g e A n l := by
  refine ⟨h.1, ?_⟩
  rcases h.2 with h | ⟨q, e1, e2, e3, e4, e5⟩
  · exact .inl h
  · exact .inr ⟨q, e1, by omega, by omega, by omega, e5⟩
theorem Grow.low {nx b x g e A n l nx' b'} (h : Grow nx b x g e A n l) (h1 : nx' ≤ nx) (h2 : b' ≤ nx) : Grow nx' b' x g e A n l := by
  rcases h with h | h
  · exact .inl (h.low h1 h2)
  · exact .inr h
theorem GrowV.of {lo b nx : Nat} {gt : Nat → Option Blk} {A : Option Addr} {n : Nat} {l : List UInt32} (hb : b ≤ lo) (h : Grow lo b nx gt 1 A n (l.map u32V)) : GrowV lo nx gt (.slice A n n) l :=
  ⟨A, n, rfl, by simpa using h.len, h.low (Nat.le_refl _) (Nat.le_refl _)⟩

section
variable {nx : Nat} {gt : Nat → Option Blk}

theorem ct_rBareG {A : Option Addr} {n c : Nat} {l : List UInt32} (hr : Row nx gt 1 A n (l.map u32V)) (hc : n ≤ c) (hn : n < 1000000000) :
    Ct Try.prog 20 [.slice A n c] nx gt fun v nx' gt' => GrowV nx nx' gt' v (lb (lv l)) := by
  have hlen : l.length = n := by simpa using hr.len
  refine Ct.of hmx r_lanyardref07_Bare (by simp [c_lanyardref07_Bare]) fun b hb => ?_
  simp only [c_lanyardref07_Bare, ↓gaW, ↓gaV, ↓gaC, ↓gaN, gaP, Nat.reduceEqDiff, Nat.reduceLeDiff, Nat.reduceAdd, Nat.reduceSub, Nat.reduceMul, Int.reduceLT, Int.reduceLE, Int.reduceEq, Int.reduceToNat, Int.reduceAdd, Int.reduceSub, Int.reduceMul, reduceCtorEq, ↓reduceIte]
  have hcut : ∀ a k, A = some a → k ≤ n → rowOf ⟨nx + 1, b, upd gt nx (some (.cells [] false))⟩ (some ⟨a.block, a.off, a.spot⟩) k = some ((l.take k).map u32V) := by
    intro a k ha hk
    have h := ((hr.keep (nx' := nx + 1) (gt' := upd gt nx (some (.cells [] false))) (Nat.le_succ _) (fun k hk => by simp only [upd_e]; rw [if_neg (by omega)])).part (lo := 0) (hi := k) (Nat.zero_le _) hk ha).rowOf (b := b)
    simpa [List.map_take] using h
  have hnil : rowOf ⟨nx + 1, b, upd gt nx (some (.cells [] false))⟩ none 0 = some [] := by simp [rowOf]
  have app : ∀ (k : Nat) (K : Value → Mem → Prop), k ≤ n → (∀ A' x' g', nx + 1 ≤ x' → (∀ i, i < nx → g' i = gt i) → GrowV nx x' g' (.slice A' k k) (l.take k) → K (.slice A' k k) ⟨x', b, g'⟩) →
      appendK 1 4 ⟨nx + 1, b, upd gt nx (some (.cells [] false))⟩ (some ⟨nx, 0, none⟩) 0 0 k ((l.take k).map u32V) K := by
    intro k K hk hK
    refine grow_app (nx := nx) (l := []) (Grow.lit (q := nx) (l := []) (ro := false) (by omega) (by simp [upd]) rfl) (by omega) (by omega) (by omega) (by simp [hlen]; omega) (all_u32 _) (by omega) (by omega) fun A' x' g' h1 h2 h3 => ?_
    rw [List.nil_append, Nat.zero_add] at h3
    rw [Nat.zero_add]
    exact hK A' x' g' h1 (fun i hi => by rw [h2 i hi]; simp only [upd_e]; rw [if_neg (by omega)]) (GrowV.of hb h3)
  refine loop_of (fun j f m => ∃ k : Nat, j = k ∧ k ≤ n ∧ f 0 = .slice A n c ∧ f 3 = .int .i64 (k : Nat) ∧ m = ⟨nx, b, gt⟩ ∧ ∀ i, k ≤ i → i < l.length → l.getD i 0 = 0) n ⟨n, rfl, Nat.le_refl _, rfl, rfl, rfl, fun i h1 h2 => by omega⟩ ?_
  rintro j f m ⟨k, rfl, hk, h0, h3, rfl, hz⟩
  by_cases hpos : (0 : Int) < (j : Int)
  · have e1 : ((j : Int) - 1) = ((j - 1 : Nat) : Int) := by omega
    obtain ⟨a, ce, ro, ha, h5, h6, h7, h8⟩ := w32_cell hr hlen (i := j - 1) (by omega)
    by_cases hzero : (l.getD (j - 1) 0) = 0
    · have hv : ((l.getD (j - 1) 0).toNat : Int) = 0 := by rw [hzero]; rfl
      simp only [↓gaW, ↓gaV, ↓gaC, ↓gaN, gaP, Nat.reduceEqDiff, Nat.reduceLeDiff, Nat.reduceAdd, Nat.reduceSub, Nat.reduceMul, Int.reduceLT, Int.reduceLE, Int.reduceEq, Int.reduceToNat, Int.reduceAdd, Int.reduceSub, Int.reduceMul, reduceCtorEq, ↓reduceIte, h0, h3, hpos, decide_true, e1, i64_w ((j - 1 : Nat) : Int) (by omega), ha, h6, h8, hv]
      refine ⟨by omega, by omega, by omega, ?_⟩
      simp only [↓gaW, ↓gaV, ↓gaC, ↓gaN, gaP, Nat.reduceEqDiff, Nat.reduceLeDiff, Nat.reduceAdd, Nat.reduceSub, Nat.reduceMul, Int.reduceLT, Int.reduceLE, Int.reduceEq, Int.reduceToNat, Int.reduceAdd, Int.reduceSub, Int.reduceMul, reduceCtorEq, ↓reduceIte, h3, e1, i64_w ((j - 1 : Nat) : Int) (by omega), loopK_n]
      refine ⟨j - 1, by omega, j - 1, rfl, by omega, by rw [h0, ha], rfl, fun i h1 h2 => ?_⟩
      by_cases hi : i = j - 1
      · rw [hi]; exact hzero
      · exact hz i (by omega) h2
    · have hv : ¬ ((l.getD (j - 1) 0).toNat : Int) = 0 := fun h => hzero (by apply UInt32.toNat_inj.1; show _ = 0; omega)
      have hsp := hr.spot a ha
      simp only [↓gaW, ↓gaV, ↓gaC, ↓gaN, gaP, Nat.reduceEqDiff, Nat.reduceLeDiff, Nat.reduceAdd, Nat.reduceSub, Nat.reduceMul, Int.reduceLT, Int.reduceLE, Int.reduceEq, Int.reduceToNat, Int.reduceAdd, Int.reduceSub, Int.reduceMul, reduceCtorEq, ↓reduceIte, gaE, implies_true, Nat.le_refl, Int.sub_zero, Nat.sub_zero, Int.le_refl, true_or, or_true, List.getD_cons_zero, List.getD_cons_succ, fillL, splice, List.take_zero, List.drop_zero, List.drop_succ_cons, List.take_succ_cons, List.drop_nil, List.take_nil, h0, h3, hpos, decide_true, e1, i64_w ((j - 1 : Nat) : Int) (by omega), ha, h6, h8, hv, decide_false, hcut a j ha hk]
      repeat refine And.intro (by first | omega | (rcases hsp with h | h <;> simp [h])) ?_
      refine app j _ hk fun A' x' g' h1 h2 h3 => ?_
      simp only [↓gaW, ↓gaV, ↓gaC, ↓gaN, gaP, Nat.reduceEqDiff, Nat.reduceLeDiff, Nat.reduceAdd, Nat.reduceSub, Nat.reduceMul, Int.reduceLT, Int.reduceLE, Int.reduceEq, Int.reduceToNat, Int.reduceAdd, Int.reduceSub, Int.reduceMul, reduceCtorEq, ↓reduceIte, gaE, implies_true, Nat.le_refl, Int.sub_zero, Nat.sub_zero, Int.le_refl, true_or, or_true]
      rw [lb_lv_take l j (by omega) hz (.inr hzero)]
      exact ⟨by omega, h2, h3⟩
  · have hj : j = 0 := by omega
    subst hj
    have hneg : ¬ (0 : Int) < ((0 : Nat) : Int) := by omega
    rw [lb_lv_take l 0 (by omega) hz (.inl rfl)]
    cases A with
    | none =>
      simp only [↓gaW, ↓gaV, ↓gaC, ↓gaN, gaP, Nat.reduceEqDiff, Nat.reduceLeDiff, Nat.reduceAdd, Nat.reduceSub, Nat.reduceMul, Int.reduceLT, Int.reduceLE, Int.reduceEq, Int.reduceToNat, Int.reduceAdd, Int.reduceSub, Int.reduceMul, reduceCtorEq, ↓reduceIte, gaE, implies_true, Nat.le_refl, Int.sub_zero, Nat.sub_zero, Int.le_refl, true_or, or_true, List.getD_cons_zero, List.getD_cons_succ, fillL, splice, List.take_zero, List.drop_zero, List.drop_succ_cons, List.take_succ_cons, List.drop_nil, List.take_nil, h0, h3, hneg, decide_false, hnil]
      repeat refine And.intro (by omega) ?_
      refine app 0 _ hk fun A' x' g' h1 h2 h3 => ?_
      simp only [↓gaW, ↓gaV, ↓gaC, ↓gaN, gaP, Nat.reduceEqDiff, Nat.reduceLeDiff, Nat.reduceAdd, Nat.reduceSub, Nat.reduceMul, Int.reduceLT, Int.reduceLE, Int.reduceEq, Int.reduceToNat, Int.reduceAdd, Int.reduceSub, Int.reduceMul, reduceCtorEq, ↓reduceIte, gaE, implies_true, Nat.le_refl, Int.sub_zero, Nat.sub_zero, Int.le_refl, true_or, or_true]
      exact ⟨by omega, h2, h3⟩
    | some a =>
      have hsp := hr.spot a rfl
      simp only [↓gaW, ↓gaV, ↓gaC, ↓gaN, gaP, Nat.reduceEqDiff, Nat.reduceLeDiff, Nat.reduceAdd, Nat.reduceSub, Nat.reduceMul, Int.reduceLT, Int.reduceLE, Int.reduceEq, Int.reduceToNat, Int.reduceAdd, Int.reduceSub, Int.reduceMul, reduceCtorEq, ↓reduceIte, gaE, implies_true, Nat.le_refl, Int.sub_zero, Nat.sub_zero, Int.le_refl, true_or, or_true, List.getD_cons_zero, List.getD_cons_succ, fillL, splice, List.take_zero, List.drop_zero, List.drop_succ_cons, List.take_succ_cons, List.drop_nil, List.take_nil, h0, h3, hneg, decide_false, hcut a 0 rfl (Nat.zero_le _)]
      repeat refine And.intro (by first | omega | (rcases hsp with h | h <;> simp [h])) ?_
      refine app 0 _ hk fun A' x' g' h1 h2 h3 => ?_
      simp only [↓gaW, ↓gaV, ↓gaC, ↓gaN, gaP, Nat.reduceEqDiff, Nat.reduceLeDiff, Nat.reduceAdd, Nat.reduceSub, Nat.reduceMul, Int.reduceLT, Int.reduceLE, Int.reduceEq, Int.reduceToNat, Int.reduceAdd, Int.reduceSub, Int.reduceMul, reduceCtorEq, ↓reduceIte, gaE, implies_true, Nat.le_refl, Int.sub_zero, Nat.sub_zero, Int.le_refl, true_or, or_true]
      exact ⟨by omega, h2, h3⟩

theorem ct_rbit {A : Option Addr} {n c k : Nat} {l : List UInt32} (hr : Row nx gt 1 A n (l.map u32V)) (hn : n < 1000000000) (hk : k < 32 * n) :
    Ct Try.prog 53 [.slice A n c, .int .i64 (k : Nat)] nx gt fun v nx' gt' => v = .int .u32 ((lv l / 2 ^ k % 2 : Nat) : Int) ∧ nx' = nx ∧ gt' = gt := by
  have hl : l.length = n := by simpa using hr.len
  refine Ct.of hmx r_lanyardref08_bit (by simp [c_lanyardref08_bit]) fun b hb => ?_
  obtain ⟨a, ce, ro, rfl, p1, p2, p3, p4⟩ := w32_cell hr hl (i := k / 32) (by omega)
  have d1 : (k : Int).tdiv 32 = ((k / 32 : Nat) : Int) := by rw [Int.tdiv_eq_ediv_of_nonneg (by omega)]; omega
  have d2 : (k : Int).tmod 32 = ((k % 32 : Nat) : Int) := by rw [Int.tmod_eq_emod_of_nonneg (by omega)]; omega
  have d3 : shrV .u32 ((((l.getD (k / 32) 0).toNat : Nat)) : Int) ((k % 32 : Nat) : Int) = (((l.getD (k / 32) 0).toNat / 2 ^ (k % 32) : Nat) : Int) := shr_nat (k := .u32) _ _ (by show _ ≤ 32; omega)
  have d4 : ((((l.getD (k / 32) 0).toNat / 2 ^ (k % 32) : Nat)) : Int).tmod 2 = ((lv l / 2 ^ k % 2 : Nat) : Int) := by
    rw [Int.tmod_eq_emod_of_nonneg (Int.natCast_nonneg _), ← word_bit]
    generalize (l.getD (k / 32) 0).toNat / 2 ^ (k % 32) = Y
    omega
  simp only [c_lanyardref08_bit, ↓gaW, ↓gaV, ↓gaC, ↓gaN, gaP, Nat.reduceEqDiff, Nat.reduceLeDiff, Nat.reduceAdd, Nat.reduceSub, Nat.reduceMul, Int.reduceLT, Int.reduceLE, Int.reduceEq, Int.reduceToNat, Int.reduceAdd, Int.reduceSub, Int.reduceMul, reduceCtorEq, ↓reduceIte, gaE, implies_true, Nat.le_refl, Int.sub_zero, Nat.sub_zero, Int.le_refl, true_or, or_true, p2, d1, d2, i64_w ((k / 32 : Nat) : Int) (by omega), Int.toNat_natCast, p4, d3, d4]
  repeat refine And.intro (by first | omega | (simp; done) | (simp; omega) | exact all1 rfl) ?_
  omega

theorem ct_rless {A B : Option Addr} {n c d : Nat} {l k : List UInt32} (hr : Row nx gt 1 A n (l.map u32V)) (hn : n < 1000000000) (hs : Row nx gt 1 B n (k.map u32V)) :
    Ct Try.prog 54 [.slice A n c, .slice B n d] nx gt fun v nx' gt' => v = .bool (decide (lv l < lv k)) ∧ nx' = nx ∧ gt' = gt := by
  have hl : l.length = n := by simpa using hr.len
  have hk : k.length = n := by simpa using hs.len
  refine Ct.of hmx r_lanyardref08_less (by simp [c_lanyardref08_less]) fun b hb => ?_
  simp only [c_lanyardref08_less, ↓gaW, ↓gaV, ↓gaC, ↓gaN, gaP, Nat.reduceEqDiff, Nat.reduceLeDiff, Nat.reduceAdd, Nat.reduceSub, Nat.reduceMul, Int.reduceLT, Int.reduceLE, Int.reduceEq, Int.reduceToNat, Int.reduceAdd, Int.reduceSub, Int.reduceMul, reduceCtorEq, ↓reduceIte, i64_w ((n : Int) - 1) (by omega)]
  refine loop_of (fun j f mm => ∃ (i : Nat), j = i ∧ i ≤ n ∧ f 0 = .slice A n c ∧ f 1 = .slice B n d ∧ f 5 = .int .i64 ((i : Nat) - 1) ∧ mm = ⟨nx, b, gt⟩ ∧ lv l / 4294967296 ^ i = lv k / 4294967296 ^ i) n ⟨n, rfl, Nat.le_refl _, rfl, rfl, rfl, rfl, ?_⟩ ?_
  · have h1 : lv l < 4294967296 ^ n := lv_lt' (Nat.le_of_eq hl)
    have h2 : lv k < 4294967296 ^ n := lv_lt' (Nat.le_of_eq hk)
    rw [Nat.div_eq_of_lt h1, Nat.div_eq_of_lt h2]
  · rintro j f m ⟨i, rfl, hi, h0, h1, h5, rfl, he⟩
    by_cases hpos : (0 : Int) ≤ (j : Int) - 1
    · obtain ⟨i, rfl⟩ : ∃ i, j = i + 1 := ⟨j - 1, by omega⟩
      have e1 : (((i + 1 : Nat) : Int) - 1) = (i : Int) := by omega
      rw [e1] at h5 hpos
      obtain ⟨a, ce, ro, rfl, p1, p2, p3, p4⟩ := w32_cell hr hl (i := i) (by omega)
      obtain ⟨a', ce', ro', rfl, q1, q2, q3, q4⟩ := w32_cell hs hk (i := i) (by omega)
      rw [lv_get] at p4 q4
      simp only [↓gaW, ↓gaV, ↓gaC, ↓gaN, gaP, Nat.reduceEqDiff, Nat.reduceLeDiff, Nat.reduceAdd, Nat.reduceSub, Nat.reduceMul, Int.reduceLT, Int.reduceLE, Int.reduceEq, Int.reduceToNat, Int.reduceAdd, Int.reduceSub, Int.reduceMul, reduceCtorEq, ↓reduceIte, h0, h1, h5, hpos, decide_true, p2, p4, q2, q4]
      repeat refine And.intro (by first | omega | (simp; done) | (simp; omega) | exact all1 rfl) ?_
      by_cases hne : ((lv l / 4294967296 ^ i % 4294967296 : Nat) : Int) = ((lv k / 4294967296 ^ i % 4294967296 : Nat) : Int)
      · simp only [↓gaW, ↓gaV, ↓gaC, ↓gaN, gaP, Nat.reduceEqDiff, Nat.reduceLeDiff, Nat.reduceAdd, Nat.reduceSub, Nat.reduceMul, Int.reduceLT, Int.reduceLE, Int.reduceEq, Int.reduceToNat, Int.reduceAdd, Int.reduceSub, Int.reduceMul, reduceCtorEq, ↓reduceIte, hne, decide_true, decide_false, Bool.not_true, h5, i64_w ((i : Int) - 1) (by omega), loopK_n]
        exact ⟨i, by omega, i, rfl, by omega, h0, h1, rfl, (cmp_digit he).2 (by omega)⟩
      · simp only [↓gaW, ↓gaV, ↓gaC, ↓gaN, gaP, Nat.reduceEqDiff, Nat.reduceLeDiff, Nat.reduceAdd, Nat.reduceSub, Nat.reduceMul, Int.reduceLT, Int.reduceLE, Int.reduceEq, Int.reduceToNat, Int.reduceAdd, Int.reduceSub, Int.reduceMul, reduceCtorEq, ↓reduceIte, gaE, implies_true, Nat.le_refl, Int.sub_zero, Nat.sub_zero, Int.le_refl, true_or, or_true, hne, decide_true, decide_false, Bool.not_false, h0, h1, h5, p2, p4, q2, q4, loopK_r]
        repeat refine And.intro (by first | omega | (simp; done) | (simp; omega) | exact all1 rfl) ?_
        rcases Nat.lt_or_gt_of_ne (show lv l / 4294967296 ^ i % 4294967296 ≠ lv k / 4294967296 ^ i % 4294967296 by omega) with h | h
        · have h2 := (cmp_digit he).1 h
          rw [decide_eq_true h2, decide_eq_true (by omega)]
        · have h2 := (cmp_digit he.symm).1 h
          rw [decide_eq_false (by omega), decide_eq_false (by omega)]
    · have hj : j = 0 := by omega
      subst hj
      simp only [↓gaW, ↓gaV, ↓gaC, ↓gaN, gaP, Nat.reduceEqDiff, Nat.reduceLeDiff, Nat.reduceAdd, Nat.reduceSub, Nat.reduceMul, Int.reduceLT, Int.reduceLE, Int.reduceEq, Int.reduceToNat, Int.reduceAdd, Int.reduceSub, Int.reduceMul, reduceCtorEq, ↓reduceIte, gaE, implies_true, Nat.le_refl, Int.sub_zero, Nat.sub_zero, Int.le_refl, true_or, or_true, h5, hpos, decide_false, loopK_e]
      have he' : lv l = lv k := by simpa using he
      repeat refine And.intro (by first | omega | (simp; done) | (simp; omega) | exact all1 rfl) ?_
      simp [he']
end
end Go.Ga

namespace Go.Ga
open Go Go.Proofs
set_option linter.unusedSimpArgs false
set_option linter.unusedVariables false
set_option maxRecDepth 100000
attribute [local irreducible] appendK

def rdA : RC :=
  (.seq
  (.ops [] [
  ⟨(some 12), (.op (.mv (.k (.int .i64 0)))), none⟩])
  (.block 2
  (.loop
  (.seq
  (.seq
  (.ops [] [
  ⟨(some 42), (.op (.mv (.t 12))), none⟩,
  ⟨(some 43), (.op (.mv (.t 8))), none⟩,
  ⟨(some 44), (.op (.lenSl (.t 43))), none⟩,
  ⟨(some 45), (.op (.bin .lss (.t 42) (.t 44))), none⟩])
  (.cond (.t 45)
  .skip
  (.exit 2)))
  (.seq
  (.block 3
  (.seq
  (.ops [] [
  ⟨(some 48), (.op (.mv (.t 8))), none⟩,
  ⟨(some 49), (.op (.mv (.t 12))), none⟩,
  ⟨(some 50), (.op (.ixAddr 1 (.t 48) (.t 49))), none⟩,
  ⟨(some 51), (.op (.load1 (.t 50))), none⟩,
  ⟨(some 52), (.op (.bin .shr (.t 51) (.k (.int .u64 31)))), none⟩,
  ⟨(some 13), (.op (.mv (.t 52))), none⟩])
  (.seq
  (.ops [] [
  ⟨(some 53), (.op (.mv (.t 8))), none⟩,
  ⟨(some 54), (.op (.mv (.t 12))), none⟩,
  ⟨(some 55), (.op (.mv (.t 8))), none⟩,
  ⟨(some 56), (.op (.mv (.t 12))), none⟩,
  ⟨(some 57), (.op (.ixAddr 1 (.t 55) (.t 56))), none⟩,
  ⟨(some 58), (.op (.load1 (.t 57))), none⟩,
  ⟨(some 59), (.op (.bin .shl (.t 58) (.k (.int .u64 1)))), none⟩,
  ⟨(some 60), (.op (.mv (.t 11))), none⟩,
  ⟨(some 61), (.op (.bin .or (.t 59) (.t 60))), none⟩,
  ⟨(some 62), (.op (.ixAddr 1 (.t 53) (.t 54))), none⟩,
  ⟨none, (.op (.store 1 (.t 62) (.t 61))), none⟩])
  (.ops [] [
  ⟨(some 63), (.op (.mv (.t 13))), none⟩,
  ⟨(some 11), (.op (.mv (.t 63))), none⟩]))))
  (.ops [] [
  ⟨(some 46), (.op (.mv (.t 12))), none⟩,
  ⟨(some 47), (.op (.bin .add (.t 46) (.k (.int .i64 1)))), none⟩,
  ⟨(some 12), (.op (.mv (.t 47))), none⟩]))))))
def rdB : RC :=
  (.seq
  (.ops [] [
  ⟨(some 15), (.op (.mv (.k (.int .i64 0)))), none⟩])
  (.block 4
  (.loop
  (.seq
  (.seq
  (.ops [] [
  ⟨(some 67), (.op (.mv (.t 15))), none⟩,
  ⟨(some 68), (.op (.mv (.t 8))), none⟩,
  ⟨(some 69), (.op (.lenSl (.t 68))), none⟩,
  ⟨(some 70), (.op (.bin .lss (.t 67) (.t 69))), none⟩])
  (.cond (.t 70)
  .skip
  (.exit 4)))
  (.seq
  (.block 5
  (.seq
  (.ops [] [
  ⟨(some 73), (.op (.mv (.t 7))), none⟩,
  ⟨(some 74), (.op (.mv (.t 15))), none⟩,
  ⟨(some 75), (.op (.ixAddr 1 (.t 73) (.t 74))), none⟩,
  ⟨(some 76), (.op (.load1 (.t 75))), none⟩,
  ⟨(some 77), (.op (.toInt .u64 (.t 76))), none⟩,
  ⟨(some 78), (.op (.mv (.t 14))), none⟩,
  ⟨(some 79), (.op (.bin .add (.t 77) (.t 78))), none⟩,
  ⟨(some 16), (.op (.mv (.t 79))), none⟩])
  (.seq
  (.ops [] [
  ⟨(some 14), (.op (.mv (.k (.int .u64 0)))), none⟩])
  (.seq
  (.seq
  (.ops [] [
  ⟨(some 80), (.op (.mv (.t 8))), none⟩,
  ⟨(some 81), (.op (.mv (.t 15))), none⟩,
  ⟨(some 82), (.op (.ixAddr 1 (.t 80) (.t 81))), none⟩,
  ⟨(some 83), (.op (.load1 (.t 82))), none⟩,
  ⟨(some 84), (.op (.toInt .u64 (.t 83))), none⟩,
  ⟨(some 85), (.op (.mv (.t 16))), none⟩,
  ⟨(some 86), (.op (.bin .lss (.t 84) (.t 85))), none⟩])
  (.cond (.t 86)
  (.ops [] [
  ⟨(some 14), (.op (.mv (.k (.int .u64 1)))), none⟩])
  .skip))
  (.ops [] [
  ⟨(some 87), (.op (.mv (.t 8))), none⟩,
  ⟨(some 88), (.op (.mv (.t 15))), none⟩,
  ⟨(some 89), (.op (.mv (.t 8))), none⟩,
  ⟨(some 90), (.op (.mv (.t 15))), none⟩,
  ⟨(some 91), (.op (.ixAddr 1 (.t 89) (.t 90))), none⟩,
  ⟨(some 92), (.op (.load1 (.t 91))), none⟩,
  ⟨(some 93), (.op (.toInt .u64 (.t 92))), none⟩,
  ⟨(some 94), (.op (.mv (.t 16))), none⟩,
  ⟨(some 95), (.op (.bin .sub (.t 93) (.t 94))), none⟩,
  ⟨(some 96), (.op (.toInt .u32 (.t 95))), none⟩,
  ⟨(some 97), (.op (.ixAddr 1 (.t 87) (.t 88))), none⟩,
  ⟨none, (.op (.store 1 (.t 97) (.t 96))), none⟩])))))
  (.ops [] [
  ⟨(some 71), (.op (.mv (.t 15))), none⟩,
  ⟨(some 72), (.op (.bin .add (.t 71) (.k (.int .i64 1)))), none⟩,
  ⟨(some 15), (.op (.mv (.t 72))), none⟩]))))))
def rdC : RC :=
  (.ops [
  ⟨(some 98), (.op (.mv (.t 9))), none⟩,
  ⟨(some 99), (.op (.mv (.t 10))), none⟩,
  ⟨(some 100), (.op (.bin .quo (.t 99) (.k (.int .i64 32)))), none⟩,
  ⟨(some 101), (.op (.mv (.t 9))), none⟩,
  ⟨(some 102), (.op (.mv (.t 10))), none⟩,
  ⟨(some 103), (.op (.bin .quo (.t 102) (.k (.int .i64 32)))), none⟩,
  ⟨(some 104), (.op (.ixAddr 1 (.t 101) (.t 103))), none⟩,
  ⟨(some 105), (.op (.load1 (.t 104))), none⟩,
  ⟨(some 106), (.op (.mv (.t 10))), none⟩,
  ⟨(some 107), (.op (.bin .rem (.t 106) (.k (.int .i64 32)))), none⟩,
  ⟨(some 108), (.op (.bin .shl (.k (.int .u32 1)) (.t 107))), none⟩,
  ⟨(some 109), (.op (.bin .or (.t 105) (.t 108))), none⟩] [
  ⟨(some 110), (.op (.ixAddr 1 (.t 98) (.t 100))), none⟩,
  ⟨none, (.op (.store 1 (.t 110) (.t 109))), none⟩])

theorem dbl_step {U L P c0 c W : Nat} (h : U + P * c = 2 * L + c0) : U + P * (W * 2 % 4294967296 + c) + P * 4294967296 * (W / 2147483648) = 2 * (L + P * W) + c0 := by
  have key : W * 2 % 4294967296 + 4294967296 * (W / 2147483648) = 2 * W := by omega
  have h2 := congrArg (P * ·) key
  simp only [Nat.mul_add] at h2 ⊢
  rw [Nat.mul_assoc P 4294967296]
  have e : P * (2 * W) = 2 * (P * W) := by ac_rfl
  omega

theorem sub_step8 {U L K P o W Y D S : Nat} (hk : D + Y + o = W + 4294967296 * S) (h : U + K = L + P * o) : U + P * D + (K + P * Y) = L + P * W + P * 4294967296 * S := by
  have h2 := congrArg (P * ·) hk
  simp only [Nat.mul_add] at h2
  rw [Nat.mul_assoc P 4294967296]
  omega

theorem low_word {l : List UInt32} {k : Nat} (h : lv l % 2 ^ (k + 1) = 0) : (l.getD (k / 32) 0).toNat % 2 ^ (k % 32 + 1) = 0 := by
  have hr : k % 32 < 32 := Nat.mod_lt _ (by decide)
  have e1 : (2 : Nat) ^ (k + 1) = 4294967296 ^ (k / 32) * 2 ^ (k % 32 + 1) := by
    have e : (4294967296 : Nat) = 2 ^ 32 := by decide
    rw [e, ← Nat.pow_mul, ← Nat.pow_add]
    congr 1
    omega
  have e2 : (4294967296 : Nat) = 2 ^ (k % 32 + 1) * 2 ^ (31 - k % 32) := by
    rw [← Nat.pow_add, show k % 32 + 1 + (31 - k % 32) = 32 by omega]
  have h3 : 2 ^ (k % 32 + 1) ∣ lv l / 4294967296 ^ (k / 32) := by
    obtain ⟨x, hx⟩ := Nat.dvd_of_mod_eq_zero h
    rw [hx, e1, Nat.mul_assoc, Nat.mul_div_cancel_left _ (Nat.pow_pos (by decide))]
    exact Nat.dvd_mul_right _ _
  rw [lv_get]
  obtain ⟨x, hx⟩ := h3
  rw [hx]
  conv => lhs; rw [show 2 ^ (k % 32 + 1) * x % 4294967296 = 2 ^ (k % 32 + 1) * x % (2 ^ (k % 32 + 1) * 2 ^ (31 - k % 32)) by rw [← e2]]
  rw [Nat.mul_mod_mul_left, Nat.mul_mod_right]

theorem or_bit {w r : Nat} (h : w % 2 ^ (r + 1) = 0) : (w ||| 2 ^ r) = w + 2 ^ r := by
  obtain ⟨x, hx⟩ := Nat.dvd_of_mod_eq_zero h
  rw [hx]
  exact (Nat.two_pow_add_eq_or_of_lt (i := r + 1) (b := 2 ^ r) (Nat.pow_lt_pow_right (by decide) (by omega)) x).symm

section
variable {f : Regs} {x b q N : Nat} {g : Nat → Option Blk} {rl : List UInt32} {s : Stk}

theorem rdA_of {c0 : Nat} (hb : b ≤ q) (hq : q < x) (f8 : f 8 = .slice (some ⟨q, 0, none⟩) N N) (f11 : f 11 = .int .u32 (c0 : Nat)) (hc : c0 < 2) (gq : g q = some (.cells (rl.map u32V) false)) (hN : rl.length = N) (hNs : N < 1000000000)
    (K : ∀ (f' : Regs) (g' : Nat → Option Blk) (u : List UInt32) (c : Nat), f' 0 = f 0 → f' 7 = f 7 → f' 8 = f 8 → f' 9 = f 9 → f' 10 = f 10 → (∀ p, p ≠ q → g' p = g p) → g' q = some (.cells (u.map u32V) false) → u.length = N → lv u + 4294967296 ^ N * c = 2 * lv rl + c0 → D Try.prog s .normal f' ⟨x, b, g'⟩) :
    RC.vc Try.prog rdA f ⟨x, b, g⟩ (D Try.prog s) := by
  simp only [rdA, ↓gaW, ↓gaV, ↓gaC, ↓gaN, gaP, Nat.reduceEqDiff, Nat.reduceLeDiff, Nat.reduceAdd, Nat.reduceSub, Nat.reduceMul, Int.reduceLT, Int.reduceLE, Int.reduceEq, Int.reduceToNat, Int.reduceAdd, Int.reduceSub, Int.reduceMul, reduceCtorEq, ↓reduceIte]
  refine loop_of (fun j f' m => ∃ (i c : Nat) (g' : Nat → Option Blk) (u : List UInt32), j = N - i ∧ i ≤ N ∧ c < 2 ∧ f' 0 = f 0 ∧ f' 7 = f 7 ∧ f' 8 = .slice (some ⟨q, 0, none⟩) N N ∧ f' 9 = f 9 ∧ f' 10 = f 10 ∧ f' 11 = .int .u32 (c : Nat) ∧ f' 12 = .int .i64 (i : Nat) ∧ m = ⟨x, b, g'⟩ ∧
      (∀ p, p ≠ q → g' p = g p) ∧ g' q = some (.cells (u.map u32V) false) ∧ u.length = N ∧ (∀ j, i ≤ j → u.getD j 0 = rl.getD j 0) ∧ lv (u.take i) + 4294967296 ^ i * c = 2 * lv (rl.take i) + c0) N
    ⟨0, c0, g, rl, by omega, by omega, hc, by simp only [↓gaW, ↓gaV, ↓gaC, ↓gaN, gaP, Nat.reduceEqDiff, Nat.reduceLeDiff, Nat.reduceAdd, Nat.reduceSub, Nat.reduceMul, Int.reduceLT, Int.reduceLE, Int.reduceEq, Int.reduceToNat, Int.reduceAdd, Int.reduceSub, Int.reduceMul, reduceCtorEq, ↓reduceIte], by simp only [↓gaW, ↓gaV, ↓gaC, ↓gaN, gaP, Nat.reduceEqDiff, Nat.reduceLeDiff, Nat.reduceAdd, Nat.reduceSub, Nat.reduceMul, Int.reduceLT, Int.reduceLE, Int.reduceEq, Int.reduceToNat, Int.reduceAdd, Int.reduceSub, Int.reduceMul, reduceCtorEq, ↓reduceIte], by simp only [↓gaW, ↓gaV, ↓gaC, ↓gaN, gaP, Nat.reduceEqDiff, Nat.reduceLeDiff, Nat.reduceAdd, Nat.reduceSub, Nat.reduceMul, Int.reduceLT, Int.reduceLE, Int.reduceEq, Int.reduceToNat, Int.reduceAdd, Int.reduceSub, Int.reduceMul, reduceCtorEq, ↓reduceIte, f8], by simp only [↓gaW, ↓gaV, ↓gaC, ↓gaN, gaP, Nat.reduceEqDiff, Nat.reduceLeDiff, Nat.reduceAdd, Nat.reduceSub, Nat.reduceMul, Int.reduceLT, Int.reduceLE, Int.reduceEq, Int.reduceToNat, Int.reduceAdd, Int.reduceSub, Int.reduceMul, reduceCtorEq, ↓reduceIte], by simp only [↓gaW, ↓gaV, ↓gaC, ↓gaN, gaP, Nat.reduceEqDiff, Nat.reduceLeDiff, Nat.reduceAdd, Nat.reduceSub, Nat.reduceMul, Int.reduceLT, Int.reduceLE, Int.reduceEq, Int.reduceToNat, Int.reduceAdd, Int.reduceSub, Int.reduceMul, reduceCtorEq, ↓reduceIte], by simp only [↓gaW, ↓gaV, ↓gaC, ↓gaN, gaP, Nat.reduceEqDiff, Nat.reduceLeDiff, Nat.reduceAdd, Nat.reduceSub, Nat.reduceMul, Int.reduceLT, Int.reduceLE, Int.reduceEq, Int.reduceToNat, Int.reduceAdd, Int.reduceSub, Int.reduceMul, reduceCtorEq, ↓reduceIte, f11], by simp only [↓gaW, ↓gaV, ↓gaC, ↓gaN, gaP, Nat.reduceEqDiff, Nat.reduceLeDiff, Nat.reduceAdd, Nat.reduceSub, Nat.reduceMul, Int.reduceLT, Int.reduceLE, Int.reduceEq, Int.reduceToNat, Int.reduceAdd, Int.reduceSub, Int.reduceMul, reduceCtorEq, ↓reduceIte], rfl, fun _ _ => rfl, gq, hN, fun _ _ => rfl, by simp [lv]⟩ ?_
  rintro j f' m ⟨i, c, g', u, rfl, hi, hc2, h0, h7, h8, h9, h10, h11, h12, rfl, hg, hgq, hu, hz, he⟩
  by_cases hlt : (i : Int) < (N : Int)
  · have hw : (u.map u32V).getD i undef = .int .u32 ((u.getD i 0).toNat : Nat) := getD_u32 (by omega)
    have hW32 := lt32 (u.getD i 0)
    have hzi := hz i (Nat.le_refl i)
    obtain ⟨W, hW⟩ : ∃ W, (u.getD i 0).toNat = W := ⟨_, rfl⟩
    rw [hW] at hw hW32
    have s1 : shrV .u32 (W : Int) 31 = ((W / 2147483648 : Nat) : Int) := shr_nat (k := .u32) W 31 (by decide)
    have s2 : shlV .u32 (W : Int) 1 = ((W * 2 % 4294967296 : Nat) : Int) := shl32w (s := 1) (by decide)
    obtain ⟨o1, o2⟩ := low_or (c := c) (x := W) (s := 1) (by decide) (by omega)
    rw [Nat.pow_one] at o1 o2
    have s3 : bitsV .or .u32 ((W * 2 % 4294967296 : Nat) : Int) (c : Int) = ((W * 2 % 4294967296 + c : Nat) : Int) := by
      rw [or_u32 (Nat.mod_lt _ (by decide)) (by omega), Nat.or_comm, o1, Nat.add_comm]
    have sp : splice (u.map u32V) i [.int .u32 ((W * 2 % 4294967296 + c : Nat) : Int)] = (u.set i (UInt32.ofNat (W * 2 % 4294967296 + c))).map u32V := by
      rw [u32V_lt (by omega), splice_set (by omega)]
    have q1 : (i : Int) + 1 = ((i + 1 : Nat) : Int) := by omega
    simp only [↓gaW, ↓gaV, ↓gaC, ↓gaN, gaP, Nat.reduceEqDiff, Nat.reduceLeDiff, Nat.reduceAdd, Nat.reduceSub, Nat.reduceMul, Int.reduceLT, Int.reduceLE, Int.reduceEq, Int.reduceToNat, Int.reduceAdd, Int.reduceSub, Int.reduceMul, reduceCtorEq, ↓reduceIte, h0, h7, h8, h9, h10, h11, h12, hlt, decide_true, hgq, Nat.zero_add, Nat.mul_one, hw, s1, s2, s3, sp]
    repeat refine And.intro (by first | omega | (simp; done) | (simp; omega) | exact all1 rfl) ?_
    simp only [↓gaW, ↓gaV, ↓gaC, ↓gaN, gaP, Nat.reduceEqDiff, Nat.reduceLeDiff, Nat.reduceAdd, Nat.reduceSub, Nat.reduceMul, Int.reduceLT, Int.reduceLE, Int.reduceEq, Int.reduceToNat, Int.reduceAdd, Int.reduceSub, Int.reduceMul, reduceCtorEq, ↓reduceIte, h12, q1, i64_w ((i + 1 : Nat) : Int) (by omega), loopK_n]
    repeat refine And.intro (by first | omega | (simp; done) | (simp; omega) | exact all1 rfl) ?_
    refine ⟨N - (i + 1), by omega, i + 1, W / 2147483648, _, u.set i (UInt32.ofNat (W * 2 % 4294967296 + c)), rfl, by omega, by omega, h0, h7, h8, h9, h10, rfl, rfl, rfl, fun p hp => ?_, by simp only [upd_e, if_true], by simp [hu], fun j hj => ?_, ?_⟩
    · simp only [upd_e]; rw [if_neg hp, hg p hp]
    · rw [set_getD_ne (by omega)]; exact hz j (by omega)
    · rw [lv_set_take (by omega), ofNat32, Nat.mod_eq_of_lt (by omega), lv_take' rl, ← hzi, hW, Nat.pow_succ]
      exact dbl_step he
  · have hin : i = N := by omega
    subst hin
    rw [List.take_of_length_le (by omega), List.take_of_length_le (by omega)] at he
    simp only [↓gaW, ↓gaV, ↓gaC, ↓gaN, gaP, Nat.reduceEqDiff, Nat.reduceLeDiff, Nat.reduceAdd, Nat.reduceSub, Nat.reduceMul, Int.reduceLT, Int.reduceLE, Int.reduceEq, Int.reduceToNat, Int.reduceAdd, Int.reduceSub, Int.reduceMul, reduceCtorEq, ↓reduceIte, h8, h12, hlt, decide_false, loopK_e]
    exact K _ _ u c (by simp only [↓gaW, ↓gaV, ↓gaC, ↓gaN, gaP, Nat.reduceEqDiff, Nat.reduceLeDiff, Nat.reduceAdd, Nat.reduceSub, Nat.reduceMul, Int.reduceLT, Int.reduceLE, Int.reduceEq, Int.reduceToNat, Int.reduceAdd, Int.reduceSub, Int.reduceMul, reduceCtorEq, ↓reduceIte, h0]) (by simp only [↓gaW, ↓gaV, ↓gaC, ↓gaN, gaP, Nat.reduceEqDiff, Nat.reduceLeDiff, Nat.reduceAdd, Nat.reduceSub, Nat.reduceMul, Int.reduceLT, Int.reduceLE, Int.reduceEq, Int.reduceToNat, Int.reduceAdd, Int.reduceSub, Int.reduceMul, reduceCtorEq, ↓reduceIte, h7]) (by simp only [↓gaW, ↓gaV, ↓gaC, ↓gaN, gaP, Nat.reduceEqDiff, Nat.reduceLeDiff, Nat.reduceAdd, Nat.reduceSub, Nat.reduceMul, Int.reduceLT, Int.reduceLE, Int.reduceEq, Int.reduceToNat, Int.reduceAdd, Int.reduceSub, Int.reduceMul, reduceCtorEq, ↓reduceIte, h8, f8]) (by simp only [↓gaW, ↓gaV, ↓gaC, ↓gaN, gaP, Nat.reduceEqDiff, Nat.reduceLeDiff, Nat.reduceAdd, Nat.reduceSub, Nat.reduceMul, Int.reduceLT, Int.reduceLE, Int.reduceEq, Int.reduceToNat, Int.reduceAdd, Int.reduceSub, Int.reduceMul, reduceCtorEq, ↓reduceIte, h9]) (by simp only [↓gaW, ↓gaV, ↓gaC, ↓gaN, gaP, Nat.reduceEqDiff, Nat.reduceLeDiff, Nat.reduceAdd, Nat.reduceSub, Nat.reduceMul, Int.reduceLT, Int.reduceLE, Int.reduceEq, Int.reduceToNat, Int.reduceAdd, Int.reduceSub, Int.reduceMul, reduceCtorEq, ↓reduceIte, h10]) hg hgq hu he

theorem rdB_of {A : Option Addr} {d : Nat} {kl : List UInt32} (hb : b ≤ q) (hq : q < x) (f7 : f 7 = .slice A N d) (f8 : f 8 = .slice (some ⟨q, 0, none⟩) N N) (f14 : f 14 = .int .u64 0) (hr : Row x g 1 A N (kl.map u32V)) (hA : ∀ a, A = some a → a.block ≠ q) (gq : g q = some (.cells (rl.map u32V) false)) (hN : rl.length = N) (hNs : N < 1000000000)
    (K : ∀ (f' : Regs) (g' : Nat → Option Blk) (u : List UInt32) (c : Nat), f' 0 = f 0 → f' 7 = f 7 → f' 8 = f 8 → f' 9 = f 9 → f' 10 = f 10 → (∀ p, p ≠ q → g' p = g p) → g' q = some (.cells (u.map u32V) false) → u.length = N → lv u + lv kl = lv rl + 4294967296 ^ N * c → D Try.prog s .normal f' ⟨x, b, g'⟩) :
    RC.vc Try.prog rdB f ⟨x, b, g⟩ (D Try.prog s) := by
  have hk : kl.length = N := by simpa using hr.len
  simp only [rdB, ↓gaW, ↓gaV, ↓gaC, ↓gaN, gaP, Nat.reduceEqDiff, Nat.reduceLeDiff, Nat.reduceAdd, Nat.reduceSub, Nat.reduceMul, Int.reduceLT, Int.reduceLE, Int.reduceEq, Int.reduceToNat, Int.reduceAdd, Int.reduceSub, Int.reduceMul, reduceCtorEq, ↓reduceIte]
  refine loop_of (fun j f' m => ∃ (i c : Nat) (g' : Nat → Option Blk) (u : List UInt32), j = N - i ∧ i ≤ N ∧ c < 2 ∧ f' 0 = f 0 ∧ f' 7 = .slice A N d ∧ f' 8 = .slice (some ⟨q, 0, none⟩) N N ∧ f' 9 = f 9 ∧ f' 10 = f 10 ∧ f' 14 = .int .u64 (c : Nat) ∧ f' 15 = .int .i64 (i : Nat) ∧ m = ⟨x, b, g'⟩ ∧
      (∀ p, p ≠ q → g' p = g p) ∧ g' q = some (.cells (u.map u32V) false) ∧ u.length = N ∧ (∀ j, i ≤ j → u.getD j 0 = rl.getD j 0) ∧ lv (u.take i) + lv (kl.take i) = lv (rl.take i) + 4294967296 ^ i * c) N
    ⟨0, 0, g, rl, by omega, by omega, by omega, by simp only [↓gaW, ↓gaV, ↓gaC, ↓gaN, gaP, Nat.reduceEqDiff, Nat.reduceLeDiff, Nat.reduceAdd, Nat.reduceSub, Nat.reduceMul, Int.reduceLT, Int.reduceLE, Int.reduceEq, Int.reduceToNat, Int.reduceAdd, Int.reduceSub, Int.reduceMul, reduceCtorEq, ↓reduceIte], by simp only [↓gaW, ↓gaV, ↓gaC, ↓gaN, gaP, Nat.reduceEqDiff, Nat.reduceLeDiff, Nat.reduceAdd, Nat.reduceSub, Nat.reduceMul, Int.reduceLT, Int.reduceLE, Int.reduceEq, Int.reduceToNat, Int.reduceAdd, Int.reduceSub, Int.reduceMul, reduceCtorEq, ↓reduceIte, f7], by simp only [↓gaW, ↓gaV, ↓gaC, ↓gaN, gaP, Nat.reduceEqDiff, Nat.reduceLeDiff, Nat.reduceAdd, Nat.reduceSub, Nat.reduceMul, Int.reduceLT, Int.reduceLE, Int.reduceEq, Int.reduceToNat, Int.reduceAdd, Int.reduceSub, Int.reduceMul, reduceCtorEq, ↓reduceIte, f8], by simp only [↓gaW, ↓gaV, ↓gaC, ↓gaN, gaP, Nat.reduceEqDiff, Nat.reduceLeDiff, Nat.reduceAdd, Nat.reduceSub, Nat.reduceMul, Int.reduceLT, Int.reduceLE, Int.reduceEq, Int.reduceToNat, Int.reduceAdd, Int.reduceSub, Int.reduceMul, reduceCtorEq, ↓reduceIte], by simp only [↓gaW, ↓gaV, ↓gaC, ↓gaN, gaP, Nat.reduceEqDiff, Nat.reduceLeDiff, Nat.reduceAdd, Nat.reduceSub, Nat.reduceMul, Int.reduceLT, Int.reduceLE, Int.reduceEq, Int.reduceToNat, Int.reduceAdd, Int.reduceSub, Int.reduceMul, reduceCtorEq, ↓reduceIte], by simp only [↓gaW, ↓gaV, ↓gaC, ↓gaN, gaP, Nat.reduceEqDiff, Nat.reduceLeDiff, Nat.reduceAdd, Nat.reduceSub, Nat.reduceMul, Int.reduceLT, Int.reduceLE, Int.reduceEq, Int.reduceToNat, Int.reduceAdd, Int.reduceSub, Int.reduceMul, reduceCtorEq, ↓reduceIte, f14], by simp only [↓gaW, ↓gaV, ↓gaC, ↓gaN, gaP, Nat.reduceEqDiff, Nat.reduceLeDiff, Nat.reduceAdd, Nat.reduceSub, Nat.reduceMul, Int.reduceLT, Int.reduceLE, Int.reduceEq, Int.reduceToNat, Int.reduceAdd, Int.reduceSub, Int.reduceMul, reduceCtorEq, ↓reduceIte], rfl, fun _ _ => rfl, gq, hN, fun _ _ => rfl, by simp [lv]⟩ ?_
  rintro j f' m ⟨i, c, g', u, rfl, hi, hc2, h0, h7, h8, h9, h10, h14, h15, rfl, hg, hgq, hu, hz, he⟩
  by_cases hlt : (i : Int) < (N : Int)
  · have hw : (u.map u32V).getD i undef = .int .u32 ((u.getD i 0).toNat : Nat) := getD_u32 (by omega)
    have hW32 := lt32 (u.getD i 0)
    have hzi := hz i (Nat.le_refl i)
    obtain ⟨a, ce, ro, rfl, p1, p2, p3, p4⟩ := w32_cell hr hk (i := i) (by omega)
    have p2' : g' a.block = some (.cells ce ro) := by rw [hg _ (hA a rfl), p2]
    have hY32 := lt32 (kl.getD i 0)
    obtain ⟨W, hW⟩ : ∃ W, (u.getD i 0).toNat = W := ⟨_, rfl⟩
    obtain ⟨Y, hY⟩ : ∃ Y, (kl.getD i 0).toNat = Y := ⟨_, rfl⟩
    rw [hW] at hw hW32
    rw [hY] at p4 hY32
    have q1 : (i : Int) + 1 = ((i + 1 : Nat) : Int) := by omega
    have e1 : (Y : Int) + (c : Int) = ((Y + c : Nat) : Int) := by omega
    have hD : ∃ D S : Nat, D < 4294967296 ∧ S < 2 ∧ D + Y + c = W + 4294967296 * S ∧ IntKind.u32.wrap (IntKind.u64.wrap ((W : Int) - ((Y + c : Nat) : Int))) = (D : Int) ∧ ((W : Int) < ((Y + c : Nat) : Int) ↔ S = 1) := by
      rw [u64_w, u32_w]
      by_cases h : W < Y + c
      · exact ⟨W + 4294967296 - Y - c, 1, by omega, by omega, by omega, by omega, by omega⟩
      · exact ⟨W - Y - c, 0, by omega, by omega, by omega, by omega, by omega⟩
    obtain ⟨D, S, hD1, hS1, hkey, hD2, hS2⟩ := hD
    have sp : splice (u.map u32V) i [.int .u32 (D : Nat)] = (u.set i (UInt32.ofNat D)).map u32V := by
      rw [u32V_lt (by omega), splice_set (by omega)]
    simp only [↓gaW, ↓gaV, ↓gaC, ↓gaN, gaP, Nat.reduceEqDiff, Nat.reduceLeDiff, Nat.reduceAdd, Nat.reduceSub, Nat.reduceMul, Int.reduceLT, Int.reduceLE, Int.reduceEq, Int.reduceToNat, Int.reduceAdd, Int.reduceSub, Int.reduceMul, reduceCtorEq, ↓reduceIte, h0, h7, h8, h9, h10, h14, h15, hlt, decide_true, hgq, p2', p4, Nat.zero_add, Nat.mul_one, hw, u64_i (Y : Int) (by omega), u64_i (W : Int) (by omega), e1, u64_i ((Y + c : Nat) : Int) (by omega)]
    repeat refine And.intro (by first | omega | (simp; done) | (simp; omega) | exact all1 rfl) ?_
    have hz' : ∀ j, i + 1 ≤ j → (u.set i (UInt32.ofNat D)).getD j 0 = rl.getD j 0 := fun j hj => by
      rw [set_getD_ne (by omega)]; exact hz j (by omega)
    have he' : lv ((u.set i (UInt32.ofNat D)).take (i + 1)) + lv (kl.take (i + 1)) = lv (rl.take (i + 1)) + 4294967296 ^ (i + 1) * S := by
      rw [lv_set_take (by omega), ofNat32, Nat.mod_eq_of_lt (by omega), lv_take' rl, lv_take' kl, ← hzi, hW, hY, Nat.pow_succ]
      exact sub_step8 hkey he
    have hg' : ∀ p, p ≠ q → upd g' q (some (.cells ((u.set i (UInt32.ofNat D)).map u32V) false)) p = g p := fun p hp => by
      simp only [upd_e]; rw [if_neg hp, hg p hp]
    have hq' : upd g' q (some (.cells ((u.set i (UInt32.ofNat D)).map u32V) false)) q = some (.cells ((u.set i (UInt32.ofNat D)).map u32V) false) := by simp only [upd_e, if_true]
    by_cases hS : (W : Int) < ((Y + c : Nat) : Int)
    · have := hS2.1 hS
      subst this
      simp only [↓gaW, ↓gaV, ↓gaC, ↓gaN, gaP, Nat.reduceEqDiff, Nat.reduceLeDiff, Nat.reduceAdd, Nat.reduceSub, Nat.reduceMul, Int.reduceLT, Int.reduceLE, Int.reduceEq, Int.reduceToNat, Int.reduceAdd, Int.reduceSub, Int.reduceMul, reduceCtorEq, ↓reduceIte, h8, h15, hS, decide_true, hgq, hw, Nat.zero_add, Nat.mul_one, u64_i (W : Int) (by omega), hD2, sp]
      repeat refine And.intro (by first | omega | (simp; done) | (simp; omega) | exact all1 rfl) ?_
      simp only [↓gaW, ↓gaV, ↓gaC, ↓gaN, gaP, Nat.reduceEqDiff, Nat.reduceLeDiff, Nat.reduceAdd, Nat.reduceSub, Nat.reduceMul, Int.reduceLT, Int.reduceLE, Int.reduceEq, Int.reduceToNat, Int.reduceAdd, Int.reduceSub, Int.reduceMul, reduceCtorEq, ↓reduceIte, h15, q1, i64_w ((i + 1 : Nat) : Int) (by omega), loopK_n]
      repeat refine And.intro (by first | omega | (simp; done) | (simp; omega) | exact all1 rfl) ?_
      exact ⟨N - (i + 1), by omega, i + 1, 1, _, _, rfl, by omega, by omega, h0, h7, h8, h9, h10, rfl, rfl, rfl, hg', hq', by simp [hu], hz', he'⟩
    · have hS0 : S = 0 := by
        rcases Nat.lt_or_ge S 1 with h | h
        · omega
        · exact absurd (hS2.2 (by omega)) hS
      subst hS0
      simp only [↓gaW, ↓gaV, ↓gaC, ↓gaN, gaP, Nat.reduceEqDiff, Nat.reduceLeDiff, Nat.reduceAdd, Nat.reduceSub, Nat.reduceMul, Int.reduceLT, Int.reduceLE, Int.reduceEq, Int.reduceToNat, Int.reduceAdd, Int.reduceSub, Int.reduceMul, reduceCtorEq, ↓reduceIte, h8, h15, hS, decide_false, hgq, hw, Nat.zero_add, Nat.mul_one, u64_i (W : Int) (by omega), hD2, sp]
      repeat refine And.intro (by first | omega | (simp; done) | (simp; omega) | exact all1 rfl) ?_
      simp only [↓gaW, ↓gaV, ↓gaC, ↓gaN, gaP, Nat.reduceEqDiff, Nat.reduceLeDiff, Nat.reduceAdd, Nat.reduceSub, Nat.reduceMul, Int.reduceLT, Int.reduceLE, Int.reduceEq, Int.reduceToNat, Int.reduceAdd, Int.reduceSub, Int.reduceMul, reduceCtorEq, ↓reduceIte, h15, q1, i64_w ((i + 1 : Nat) : Int) (by omega), loopK_n]
      repeat refine And.intro (by first | omega | (simp; done) | (simp; omega) | exact all1 rfl) ?_
      exact ⟨N - (i + 1), by omega, i + 1, 0, _, _, rfl, by omega, by omega, h0, h7, h8, h9, h10, rfl, rfl, rfl, hg', hq', by simp [hu], hz', he'⟩
  · have hin : i = N := by omega
    subst hin
    rw [List.take_of_length_le (by omega), List.take_of_length_le (by omega), List.take_of_length_le (by omega)] at he
    simp only [↓gaW, ↓gaV, ↓gaC, ↓gaN, gaP, Nat.reduceEqDiff, Nat.reduceLeDiff, Nat.reduceAdd, Nat.reduceSub, Nat.reduceMul, Int.reduceLT, Int.reduceLE, Int.reduceEq, Int.reduceToNat, Int.reduceAdd, Int.reduceSub, Int.reduceMul, reduceCtorEq, ↓reduceIte, h8, h15, hlt, decide_false, loopK_e]
    exact K _ _ u c (by simp only [↓gaW, ↓gaV, ↓gaC, ↓gaN, gaP, Nat.reduceEqDiff, Nat.reduceLeDiff, Nat.reduceAdd, Nat.reduceSub, Nat.reduceMul, Int.reduceLT, Int.reduceLE, Int.reduceEq, Int.reduceToNat, Int.reduceAdd, Int.reduceSub, Int.reduceMul, reduceCtorEq, ↓reduceIte, h0]) (by simp only [↓gaW, ↓gaV, ↓gaC, ↓gaN, gaP, Nat.reduceEqDiff, Nat.reduceLeDiff, Nat.reduceAdd, Nat.reduceSub, Nat.reduceMul, Int.reduceLT, Int.reduceLE, Int.reduceEq, Int.reduceToNat, Int.reduceAdd, Int.reduceSub, Int.reduceMul, reduceCtorEq, ↓reduceIte, h7, f7]) (by simp only [↓gaW, ↓gaV, ↓gaC, ↓gaN, gaP, Nat.reduceEqDiff, Nat.reduceLeDiff, Nat.reduceAdd, Nat.reduceSub, Nat.reduceMul, Int.reduceLT, Int.reduceLE, Int.reduceEq, Int.reduceToNat, Int.reduceAdd, Int.reduceSub, Int.reduceMul, reduceCtorEq, ↓reduceIte, h8, f8]) (by simp only [↓gaW, ↓gaV, ↓gaC, ↓gaN, gaP, Nat.reduceEqDiff, Nat.reduceLeDiff, Nat.reduceAdd, Nat.reduceSub, Nat.reduceMul, Int.reduceLT, Int.reduceLE, Int.reduceEq, Int.reduceToNat, Int.reduceAdd, Int.reduceSub, Int.reduceMul, reduceCtorEq, ↓reduceIte, h9]) (by simp only [↓gaW, ↓gaV, ↓gaC, ↓gaN, gaP, Nat.reduceEqDiff, Nat.reduceLeDiff, Nat.reduceAdd, Nat.reduceSub, Nat.reduceMul, Int.reduceLT, Int.reduceLE, Int.reduceEq, Int.reduceToNat, Int.reduceAdd, Int.reduceSub, Int.reduceMul, reduceCtorEq, ↓reduceIte, h10]) hg hgq hu he

theorem rdC_of {k : Nat} {ql : List UInt32} (hb : b ≤ q) (hq : q < x) (f9 : f 9 = .slice (some ⟨q, 0, none⟩) N N) (f10 : f 10 = .int .i64 (k : Nat)) (gq : g q = some (.cells (ql.map u32V) false)) (hN : ql.length = N) (hNs : N < 1000000000) (hk : k < 32 * N) (h0 : lv ql % 2 ^ (k + 1) = 0)
    (K : ∀ (f' : Regs) (g' : Nat → Option Blk) (u : List UInt32), f' 0 = f 0 → f' 7 = f 7 → f' 8 = f 8 → f' 9 = f 9 → f' 10 = f 10 → (∀ p, p ≠ q → g' p = g p) → g' q = some (.cells (u.map u32V) false) → u.length = N → lv u = lv ql + 2 ^ k → D Try.prog s .normal f' ⟨x, b, g'⟩) :
    RC.vc Try.prog rdC f ⟨x, b, g⟩ (D Try.prog s) := by
  have d1 : (k : Int).tdiv 32 = ((k / 32 : Nat) : Int) := by rw [Int.tdiv_eq_ediv_of_nonneg (by omega)]; omega
  have d2 : (k : Int).tmod 32 = ((k % 32 : Nat) : Int) := by rw [Int.tmod_eq_emod_of_nonneg (by omega)]; omega
  have hr : k % 32 < 32 := Nat.mod_lt _ (by decide)
  have hr2 : 2 ^ (k % 32) < 4294967296 := Nat.pow_lt_pow_right (a := 2) (by decide) hr
  have s2 : shlV .u32 1 ((k % 32 : Nat) : Int) = ((2 ^ (k % 32) : Nat) : Int) := by
    have := shl32w (x := 1) (s := k % 32) (by omega)
    rw [Nat.one_mul, Nat.mod_eq_of_lt hr2] at this
    exact this
  have hw : (ql.map u32V).getD (k / 32) undef = .int .u32 ((ql.getD (k / 32) 0).toNat : Nat) := getD_u32 (by omega)
  have hW32 := lt32 (ql.getD (k / 32) 0)
  have hlw := low_word h0
  have hse := lv_set (w := ql) (i := k / 32) (x := UInt32.ofNat ((ql.getD (k / 32) 0).toNat + 2 ^ (k % 32))) (by omega)
  obtain ⟨W, hW⟩ : ∃ W, (ql.getD (k / 32) 0).toNat = W := ⟨_, rfl⟩
  rw [hW] at hw hW32 hlw hse
  have ho := or_bit hlw
  have hWb : W + 2 ^ (k % 32) < 4294967296 := by rw [← ho]; exact Nat.or_lt_two_pow (n := 32) hW32 hr2
  have s3 : bitsV .or .u32 (W : Int) ((2 ^ (k % 32) : Nat) : Int) = ((W + 2 ^ (k % 32) : Nat) : Int) := by rw [or_u32 hW32 hr2, ho]
  rw [ofNat32, Nat.mod_eq_of_lt hWb] at hse
  obtain ⟨Z, hZ⟩ : ∃ Z, 2 ^ (k % 32) = Z := ⟨_, rfl⟩
  have e1 : (2 : Nat) ^ k = 4294967296 ^ (k / 32) * Z := by
    have e : (4294967296 : Nat) = 2 ^ 32 := by decide
    rw [e, ← hZ, ← Nat.pow_mul, ← Nat.pow_add, Nat.div_add_mod]
  rw [hZ] at s2 s3 hWb hse
  have sp : splice (ql.map u32V) (k / 32) [.int .u32 ((W + Z : Nat) : Int)] = (ql.set (k / 32) (UInt32.ofNat (W + Z))).map u32V := by
    rw [u32V_lt (by omega), splice_set (by omega)]
  simp only [rdC, ↓gaW, ↓gaV, ↓gaC, ↓gaN, gaP, Nat.reduceEqDiff, Nat.reduceLeDiff, Nat.reduceAdd, Nat.reduceSub, Nat.reduceMul, Int.reduceLT, Int.reduceLE, Int.reduceEq, Int.reduceToNat, Int.reduceAdd, Int.reduceSub, Int.reduceMul, reduceCtorEq, ↓reduceIte, f9, f10, d1, d2, i64_w ((k / 32 : Nat) : Int) (by omega), Int.toNat_natCast, gq, Nat.zero_add, Nat.mul_one, hw, s2, s3, sp]
  repeat refine And.intro (by first | omega | (simp; done) | (simp; omega) | exact all1 rfl) ?_
  refine K _ _ (ql.set (k / 32) (UInt32.ofNat (W + Z))) (by simp only [↓gaW, ↓gaV, ↓gaC, ↓gaN, gaP, Nat.reduceEqDiff, Nat.reduceLeDiff, Nat.reduceAdd, Nat.reduceSub, Nat.reduceMul, Int.reduceLT, Int.reduceLE, Int.reduceEq, Int.reduceToNat, Int.reduceAdd, Int.reduceSub, Int.reduceMul, reduceCtorEq, ↓reduceIte]) (by simp only [↓gaW, ↓gaV, ↓gaC, ↓gaN, gaP, Nat.reduceEqDiff, Nat.reduceLeDiff, Nat.reduceAdd, Nat.reduceSub, Nat.reduceMul, Int.reduceLT, Int.reduceLE, Int.reduceEq, Int.reduceToNat, Int.reduceAdd, Int.reduceSub, Int.reduceMul, reduceCtorEq, ↓reduceIte]) (by simp only [↓gaW, ↓gaV, ↓gaC, ↓gaN, gaP, Nat.reduceEqDiff, Nat.reduceLeDiff, Nat.reduceAdd, Nat.reduceSub, Nat.reduceMul, Int.reduceLT, Int.reduceLE, Int.reduceEq, Int.reduceToNat, Int.reduceAdd, Int.reduceSub, Int.reduceMul, reduceCtorEq, ↓reduceIte]) (by simp only [↓gaW, ↓gaV, ↓gaC, ↓gaN, gaP, Nat.reduceEqDiff, Nat.reduceLeDiff, Nat.reduceAdd, Nat.reduceSub, Nat.reduceMul, Int.reduceLT, Int.reduceLE, Int.reduceEq, Int.reduceToNat, Int.reduceAdd, Int.reduceSub, Int.reduceMul, reduceCtorEq, ↓reduceIte, f9]) (by simp only [↓gaW, ↓gaV, ↓gaC, ↓gaN, gaP, Nat.reduceEqDiff, Nat.reduceLeDiff, Nat.reduceAdd, Nat.reduceSub, Nat.reduceMul, Int.reduceLT, Int.reduceLE, Int.reduceEq, Int.reduceToNat, Int.reduceAdd, Int.reduceSub, Int.reduceMul, reduceCtorEq, ↓reduceIte, f10]) (fun p hp => ?_) (by simp only [upd_e, if_true]) (by simp [hN]) ?_
  · simp only [upd_e]; rw [if_neg hp]
  · rw [e1]
    rw [Nat.mul_add] at hse
    omega
end
end Go.Ga

namespace Go.Ga
open Go Go.Proofs
set_option linter.unusedSimpArgs false
set_option linter.unusedVariables false
set_option maxRecDepth 100000
attribute [local irreducible] appendK

theorem div_bit0 {a m z : Nat} (h : 2 * (a / 2 ^ (z + 1) % m) + a / 2 ^ z % 2 < m) : a / 2 ^ z % m = 2 * (a / 2 ^ (z + 1) % m) + a / 2 ^ z % 2 ∧ a / 2 ^ z / m * 2 ^ z = a / 2 ^ (z + 1) / m * 2 ^ (z + 1) := by
  have e : a / 2 ^ z = 2 * (a / 2 ^ (z + 1)) + a / 2 ^ z % 2 := by rw [Nat.pow_succ, ← Nat.div_div_eq_div_mul]; omega
  have dm := Nat.div_add_mod (a / 2 ^ (z + 1)) m
  generalize a / 2 ^ (z + 1) = X at *
  generalize a / 2 ^ z % 2 = c at *
  have e2 : a / 2 ^ z = (2 * (X % m) + c) + m * (2 * (X / m)) := by
    rw [e, ← Nat.mul_assoc, Nat.mul_comm m 2, Nat.mul_assoc]
    omega
  rw [e2, Nat.add_mul_mod_self_left, Nat.mod_eq_of_lt h, Nat.add_mul_div_left _ _ (by omega), Nat.div_eq_of_lt h, Nat.zero_add, Nat.pow_succ]
  refine ⟨rfl, ?_⟩
  ac_rfl
theorem div_bit1 {a m z : Nat} (hm : 0 < m) (h : m ≤ 2 * (a / 2 ^ (z + 1) % m) + a / 2 ^ z % 2) : a / 2 ^ z % m + m = 2 * (a / 2 ^ (z + 1) % m) + a / 2 ^ z % 2 ∧ a / 2 ^ z / m * 2 ^ z = a / 2 ^ (z + 1) / m * 2 ^ (z + 1) + 2 ^ z := by
  have e : a / 2 ^ z = 2 * (a / 2 ^ (z + 1)) + a / 2 ^ z % 2 := by rw [Nat.pow_succ, ← Nat.div_div_eq_div_mul]; omega
  have dm := Nat.div_add_mod (a / 2 ^ (z + 1)) m
  have hc : a / 2 ^ z % 2 < 2 := Nat.mod_lt _ (by decide)
  generalize a / 2 ^ (z + 1) = X at *
  generalize a / 2 ^ z % 2 = c at *
  have hX := Nat.mod_lt X hm
  have e2 : a / 2 ^ z = (2 * (X % m) + c - m) + m * (2 * (X / m) + 1) := by
    rw [e, Nat.mul_add, Nat.mul_one, ← Nat.mul_assoc, Nat.mul_comm m 2, Nat.mul_assoc]
    omega
  rw [e2, Nat.add_mul_mod_self_left, Nat.mod_eq_of_lt (by omega), Nat.add_mul_div_left _ _ (by omega), Nat.div_eq_of_lt (by omega), Nat.zero_add, Nat.pow_succ, Nat.add_mul, Nat.one_mul]
  refine ⟨by omega, ?_⟩
  congr 1
  ac_rfl

section
variable {nx : Nat} {gt : Nat → Option Blk}

theorem ct_rDivMod {A B : Option Addr} {n m c d : Nat} {l k : List UInt32} (hr : Row nx gt 1 A n (l.map u32V)) (hc : n ≤ c) (hn : n < 10000000) (hs : Row nx gt 1 B m (k.map u32V)) (hd : m ≤ d) (hm : m < 10000000) :
    Ct Try.prog 33 [.slice A n c, .slice B m d] nx gt fun v nx' gt' => DivV nx' gt' (lv l) (lv k) v := by
  have hl : l.length = n := by simpa using hr.len
  have hk : k.length = m := by simpa using hs.len
  refine Ct.of hmx r_lanyardref08_DivMod (by simp [c_lanyardref08_DivMod]) fun b hb => ?_
  have lm := lb_len_le.2 (show lv k < 4294967296 ^ m by rw [← hk]; exact lv_lt k)
  have hF : ∀ q, q < nx → gt q = gt q := fun _ _ => rfl
  simp only [c_lanyardref08_DivMod, ↓gaW, ↓gaV, ↓gaC, ↓gaN, gaP, Nat.reduceEqDiff, Nat.reduceLeDiff, Nat.reduceAdd, Nat.reduceSub, Nat.reduceMul, Int.reduceLT, Int.reduceLE, Int.reduceEq, Int.reduceToNat, Int.reduceAdd, Int.reduceSub, Int.reduceMul, reduceCtorEq, ↓reduceIte]
  refine callK_of (ct_rBareG hs hd (by omega)) (fun v n1 g1 l1 k1 hC => ?_) (by omega)
  obtain ⟨A1, N0, rfl, hN0, hg1⟩ := hC
  have hr0 := hr
  have hF : ∀ q, q < nx → g1 q = gt q := fun q hq => k1 q (by omega)
  by_cases h0 : (N0 : Int) = 0
  · have k0 := lb_nil (show (lb (lv k)).length = 0 by omega)
    simp only [↓gaW, ↓gaV, ↓gaC, ↓gaN, gaP, Nat.reduceEqDiff, Nat.reduceLeDiff, Nat.reduceAdd, Nat.reduceSub, Nat.reduceMul, Int.reduceLT, Int.reduceLE, Int.reduceEq, Int.reduceToNat, Int.reduceAdd, Int.reduceSub, Int.reduceMul, reduceCtorEq, ↓reduceIte, gaE, implies_true, Nat.le_refl, Int.sub_zero, Nat.sub_zero, Int.le_refl, true_or, or_true, h0, decide_true]
    repeat refine And.intro (by first | omega | (simp; done) | (simp; omega) | exact all1 rfl) ?_
    first | exact ⟨hF, .inl ⟨k0, rfl⟩⟩ | exact .inl ⟨k0, rfl⟩
  have k0 : lv k ≠ 0 := fun h => h0 (by rw [h, lb_zero] at hN0; simp at hN0; omega)
  have hrow0 : ∀ b, rowOf ⟨n1 + 1, b, upd g1 n1 (some (.cells [.int .u32 0] false))⟩ (some ⟨n1, 0, none⟩) 1 = some (([0] : List UInt32).map u32V) := fun b =>
    (Row.w32 (ro := false) (w := [0]) (by omega) (by simp [upd]; rfl) rfl).rowOf
  simp only [↓gaW, ↓gaV, ↓gaC, ↓gaN, gaP, Nat.reduceEqDiff, Nat.reduceLeDiff, Nat.reduceAdd, Nat.reduceSub, Nat.reduceMul, Int.reduceLT, Int.reduceLE, Int.reduceEq, Int.reduceToNat, Int.reduceAdd, Int.reduceSub, Int.reduceMul, reduceCtorEq, ↓reduceIte, List.getD_cons_zero, List.getD_cons_succ, fillL, splice, List.take_zero, List.drop_zero, List.drop_succ_cons, List.take_succ_cons, List.drop_nil, List.take_nil, h0, decide_false, hrow0]
  repeat refine And.intro (by first | omega | (simp; done) | (simp; omega) | exact all1 rfl) ?_
  refine grow_append (nx := nx) (k := 1) ((hg1.low (nx' := nx) (b' := b) (by omega) (by omega)).keep (Nat.le_succ _) (fun p hp => by simp only [upd_e]; rw [if_neg (by omega)])) (by omega) (by omega) (by omega) (by omega) (by simp) (by simpa using cl_u32 _) (by omega) (by omega) fun g2 hk2 ho2 => ?_
  obtain ⟨kl, hkl⟩ : ∃ kl, lb (lv k) ++ [0] = kl := ⟨_, rfl⟩
  obtain ⟨N, hN⟩ : ∃ N, N0 + 1 = N := ⟨_, rfl⟩
  have hkv : lv kl = lv k := by rw [← hkl, lv_append, lv_lb]; simp [lv]
  have hkn : kl.length = N := by rw [← hkl, ← hN]; simp [hN0]
  have hMN : lv k < 4294967296 ^ N0 := lb_len_le.1 (Nat.le_of_eq hN0)
  have hrn := ho2.row
  rw [show (lb (lv k)).map u32V ++ [u32V 0] = kl.map u32V by rw [← hkl]; simp, Nat.mul_one, hN] at hrn
  have hF : ∀ q, q < nx → g2 q = gt q := fun q hq => by rw [hk2 q hq, upd_e, if_neg (by omega), hF q hq]
  have e32 : (32 : Int) * (n : Int) = ((32 * n : Nat) : Int) := by omega
  rw [hN]
  simp only [↓gaW, ↓gaV, ↓gaC, ↓gaN, gaP, Nat.reduceEqDiff, Nat.reduceLeDiff, Nat.reduceAdd, Nat.reduceSub, Nat.reduceMul, Int.reduceLT, Int.reduceLE, Int.reduceEq, Int.reduceToNat, Int.reduceAdd, Int.reduceSub, Int.reduceMul, reduceCtorEq, ↓reduceIte, zeros32, Int.toNat_natCast, e32, i64_w ((32 * n : Nat) : Int) (by omega), i64_w (((32 * n : Nat) : Int) - 1) (by omega)]
  repeat refine And.intro (by first | omega | (simp; done) | (simp; omega) | exact all1 rfl) ?_
  have hM0 : 0 < lv k := by omega
  have hAn : lv l < 2 ^ (32 * n) := by
    have := lv_lt l
    rwa [hl, show (4294967296 : Nat) = 2 ^ 32 by decide, ← Nat.pow_mul] at this
  refine loop_of (fun j f mm => ∃ (y : Nat) (g : Nat → Option Blk) (u qs : List UInt32), j = y ∧ y ≤ 32 * n ∧ f 0 = .slice A n c ∧ f 7 = .slice (some ⟨n1 + 1, 0, some 1⟩) N N ∧ f 8 = .slice (some ⟨n1 + 1 + 1, 0, none⟩) N N ∧ f 9 = .slice (some ⟨n1 + 1 + 1 + 1, 0, none⟩) n n ∧ f 10 = .int .i64 ((y : Int) - 1) ∧ mm = ⟨n1 + 1 + 1 + 1 + 1, b, g⟩ ∧
      (∀ p, p < n1 + 1 + 1 → g p = g2 p) ∧ g (n1 + 1 + 1) = some (.cells (u.map u32V) false) ∧ g (n1 + 1 + 1 + 1) = some (.cells (qs.map u32V) false) ∧ u.length = N ∧ qs.length = n ∧ lv u = lv l / 2 ^ y % lv k ∧ lv qs = lv l / 2 ^ y / lv k * 2 ^ y) (32 * n)
    ⟨32 * n, _, List.replicate N 0, List.replicate n 0, rfl, Nat.le_refl _, rfl, rfl, rfl, rfl, rfl, rfl, fun p hp => by simp only [upd_e]; rw [if_neg (by omega), if_neg (by omega)], by simp [upd_e], by simp only [upd_e, if_true], by simp, by simp, by rw [lv_replicate, Nat.div_eq_of_lt hAn, Nat.zero_mod], by rw [lv_replicate, Nat.div_eq_of_lt hAn, Nat.zero_div, Nat.zero_mul]⟩ ?_
  rintro j f mm ⟨y, g, u, qs, rfl, hy, f0, f7, f8, f9, f10, rfl, hg, hgu, hgq, hu, hqs, huv, hqv⟩
  have hrN := hrn.keep (nx' := n1 + 1 + 1 + 1 + 1) (gt' := g) (by omega) (fun p hp => hg p hp)
  have hrA := hr0.keep (nx' := n1 + 1 + 1 + 1 + 1) (gt' := g) (by omega) (fun p hp => by rw [hg p (by omega), hF p hp])
  rcases Nat.eq_zero_or_pos j with rfl | hj
  · rw [Nat.pow_zero, Nat.div_one] at huv
    rw [Nat.pow_zero, Nat.div_one, Nat.mul_one] at hqv
    simp only [↓gaW, ↓gaV, ↓gaC, ↓gaN, gaP, Nat.reduceEqDiff, Nat.reduceLeDiff, Nat.reduceAdd, Nat.reduceSub, Nat.reduceMul, Int.reduceLT, Int.reduceLE, Int.reduceEq, Int.reduceToNat, Int.reduceAdd, Int.reduceSub, Int.reduceMul, reduceCtorEq, ↓reduceIte, gaE, implies_true, Nat.le_refl, Int.sub_zero, Nat.sub_zero, Int.le_refl, true_or, or_true, f7, f8, f9, f10, show ((0 : Nat) : Int) - 1 = -1 from rfl, show ¬ (0 : Int) ≤ -1 by omega, decide_false, loopK_e]
    refine callK_of (ct_rBare (Row.w32 (by omega) hgq hqs) (Nat.le_refl _) (by omega)) (fun v n3 g3 l3 k3 hC => ?_) (by omega)
    rw [hqv] at hC
    simp only [↓gaW, ↓gaV, ↓gaC, ↓gaN, gaP, Nat.reduceEqDiff, Nat.reduceLeDiff, Nat.reduceAdd, Nat.reduceSub, Nat.reduceMul, Int.reduceLT, Int.reduceLE, Int.reduceEq, Int.reduceToNat, Int.reduceAdd, Int.reduceSub, Int.reduceMul, reduceCtorEq, ↓reduceIte, gaE, implies_true, Nat.le_refl, Int.sub_zero, Nat.sub_zero, Int.le_refl, true_or, or_true, f8]
    refine callK_of (ct_rBare (Row.w32 (by omega) ((k3 _ (by omega)).trans hgu) hu) (Nat.le_refl _) (by omega)) (fun v' n4 g4 l4 k4 hC' => ?_) (by omega)
    rw [huv] at hC'
    simp only [↓gaW, ↓gaV, ↓gaC, ↓gaN, gaP, Nat.reduceEqDiff, Nat.reduceLeDiff, Nat.reduceAdd, Nat.reduceSub, Nat.reduceMul, Int.reduceLT, Int.reduceLE, Int.reduceEq, Int.reduceToNat, Int.reduceAdd, Int.reduceSub, Int.reduceMul, reduceCtorEq, ↓reduceIte, gaE, implies_true, Nat.le_refl, Int.sub_zero, Nat.sub_zero, Int.le_refl, true_or, or_true]
    repeat refine And.intro (by first | omega | (simp; done) | (simp; omega) | exact all1 rfl) ?_
    exact ⟨fun p hp => by rw [k4 p (by omega), k3 p (by omega), hg p (by omega), hF p hp], .inr ⟨k0, _, _, rfl, hC.keep l4 k4, hC'⟩⟩
  obtain ⟨z, rfl⟩ : ∃ z, j = z + 1 := ⟨j - 1, by omega⟩
  rw [show ((z + 1 : Nat) : Int) - 1 = (z : Int) by omega] at f10
  simp only [↓gaW, ↓gaV, ↓gaC, ↓gaN, gaP, Nat.reduceEqDiff, Nat.reduceLeDiff, Nat.reduceAdd, Nat.reduceSub, Nat.reduceMul, Int.reduceLT, Int.reduceLE, Int.reduceEq, Int.reduceToNat, Int.reduceAdd, Int.reduceSub, Int.reduceMul, reduceCtorEq, ↓reduceIte, f0, f10, show (0 : Int) ≤ (z : Int) by omega, decide_true]
  refine callK_of (ct_rbit hrA (by omega) (by omega)) (fun v n3 g3 l3 k3 hC => ?_) (by omega)
  obtain ⟨rfl, rfl, rfl⟩ := hC
  refine (show goOps Try.prog _ _ _ (D Try.prog (.thn (.seq rdA (.seq _ (.seq _ (.seq rdB rdC)))) _)) from ?_)
  simp only [↓gaW, ↓gaV, ↓gaC, ↓gaN, gaP, Nat.reduceEqDiff, Nat.reduceLeDiff, Nat.reduceAdd, Nat.reduceSub, Nat.reduceMul, Int.reduceLT, Int.reduceLE, Int.reduceEq, Int.reduceToNat, Int.reduceAdd, Int.reduceSub, Int.reduceMul, reduceCtorEq, ↓reduceIte]
  have hc2 : lv l / 2 ^ z % 2 < 2 := Nat.mod_lt _ (by decide)
  refine rdA_of (N := N) (rl := u) (c0 := lv l / 2 ^ z % 2) (b := b) (q := n1 + 1 + 1) (by omega) (by omega) (by simp only [↓gaW, ↓gaV, ↓gaC, ↓gaN, gaP, Nat.reduceEqDiff, Nat.reduceLeDiff, Nat.reduceAdd, Nat.reduceSub, Nat.reduceMul, Int.reduceLT, Int.reduceLE, Int.reduceEq, Int.reduceToNat, Int.reduceAdd, Int.reduceSub, Int.reduceMul, reduceCtorEq, ↓reduceIte, f8]) (by simp only [↓gaW, ↓gaV, ↓gaC, ↓gaN, gaP, Nat.reduceEqDiff, Nat.reduceLeDiff, Nat.reduceAdd, Nat.reduceSub, Nat.reduceMul, Int.reduceLT, Int.reduceLE, Int.reduceEq, Int.reduceToNat, Int.reduceAdd, Int.reduceSub, Int.reduceMul, reduceCtorEq, ↓reduceIte]) hc2 hgu hu (by omega) ?_
  intro f' g' u' cc e0 e7 e8 e9 e10 ko hgu' hu' hv'
  simp only [↓gaW, ↓gaV, ↓gaC, ↓gaN, gaP, Nat.reduceEqDiff, Nat.reduceLeDiff, Nat.reduceAdd, Nat.reduceSub, Nat.reduceMul, Int.reduceLT, Int.reduceLE, Int.reduceEq, Int.reduceToNat, Int.reduceAdd, Int.reduceSub, Int.reduceMul, reduceCtorEq, ↓reduceIte] at e0 e7 e8 e9 e10
  rw [f0] at e0
  rw [f7] at e7
  rw [f8] at e8
  rw [f9] at e9
  rw [f10] at e10
  have hcc : cc = 0 := by
    rcases Nat.eq_zero_or_pos cc with h | h
    · exact h
    · exfalso
      have h1 := Nat.mod_lt (lv l / 2 ^ (z + 1)) hM0
      have h2 := Nat.le_mul_of_pos_right (4294967296 ^ N) h
      have h3 : 4294967296 ^ N = 4294967296 * 4294967296 ^ N0 := by rw [← hN, Nat.pow_succ']
      omega
  rw [hcc, Nat.mul_zero, Nat.add_zero, huv] at hv'
  have hgq' := (ko (n1 + 1 + 1 + 1) (by omega)).trans hgq
  have hrN' := hrN.keepA (nx' := n1 + 1 + 1 + 1 + 1) (gt' := g') (Nat.le_refl _) (fun _ a ha => by injection ha with ha; subst ha; exact ko _ (by simp))
  simp only [↓gaW, ↓gaV, ↓gaC, ↓gaN, gaP, Nat.reduceEqDiff, Nat.reduceLeDiff, Nat.reduceAdd, Nat.reduceSub, Nat.reduceMul, Int.reduceLT, Int.reduceLE, Int.reduceEq, Int.reduceToNat, Int.reduceAdd, Int.reduceSub, Int.reduceMul, reduceCtorEq, ↓reduceIte, e7, e8]
  refine callK_of (ct_rless (Row.w32 (by omega) hgu' hu') (by omega) hrN') (fun v n3 g3 l3 k3 hC => ?_) (by omega)
  obtain ⟨rfl, rfl, rfl⟩ := hC
  rw [hkv, hv']
  by_cases hlt : 2 * (lv l / 2 ^ (z + 1) % lv k) + lv l / 2 ^ z % 2 < lv k
  · obtain ⟨h1, h2⟩ := div_bit0 hlt
    simp only [↓gaW, ↓gaV, ↓gaC, ↓gaN, gaP, Nat.reduceEqDiff, Nat.reduceLeDiff, Nat.reduceAdd, Nat.reduceSub, Nat.reduceMul, Int.reduceLT, Int.reduceLE, Int.reduceEq, Int.reduceToNat, Int.reduceAdd, Int.reduceSub, Int.reduceMul, reduceCtorEq, ↓reduceIte, hlt, decide_true, e10, i64_w ((z : Int) - 1) (by omega), loopK_n]
    refine ⟨z, by omega, z, _, u', qs, rfl, by omega, e0, e7, e8, e9, rfl, rfl, fun p hp => ?_, hgu', hgq', hu', hqs, by rw [hv', h1], by rw [hqv, h2]⟩
    rw [ko p (by omega), hg p hp]
  · obtain ⟨h1, h2⟩ := div_bit1 hM0 (Nat.le_of_not_lt hlt)
    simp only [↓gaW, ↓gaV, ↓gaC, ↓gaN, gaP, Nat.reduceEqDiff, Nat.reduceLeDiff, Nat.reduceAdd, Nat.reduceSub, Nat.reduceMul, Int.reduceLT, Int.reduceLE, Int.reduceEq, Int.reduceToNat, Int.reduceAdd, Int.reduceSub, Int.reduceMul, reduceCtorEq, ↓reduceIte, hlt, decide_false]
    refine rdB_of (N := N) (d := N) (rl := u') (kl := kl) (q := n1 + 1 + 1) (by omega) (by omega) (by simp only [↓gaW, ↓gaV, ↓gaC, ↓gaN, gaP, Nat.reduceEqDiff, Nat.reduceLeDiff, Nat.reduceAdd, Nat.reduceSub, Nat.reduceMul, Int.reduceLT, Int.reduceLE, Int.reduceEq, Int.reduceToNat, Int.reduceAdd, Int.reduceSub, Int.reduceMul, reduceCtorEq, ↓reduceIte, e7]) (by simp only [↓gaW, ↓gaV, ↓gaC, ↓gaN, gaP, Nat.reduceEqDiff, Nat.reduceLeDiff, Nat.reduceAdd, Nat.reduceSub, Nat.reduceMul, Int.reduceLT, Int.reduceLE, Int.reduceEq, Int.reduceToNat, Int.reduceAdd, Int.reduceSub, Int.reduceMul, reduceCtorEq, ↓reduceIte, e8]) (by simp only [↓gaW, ↓gaV, ↓gaC, ↓gaN, gaP, Nat.reduceEqDiff, Nat.reduceLeDiff, Nat.reduceAdd, Nat.reduceSub, Nat.reduceMul, Int.reduceLT, Int.reduceLE, Int.reduceEq, Int.reduceToNat, Int.reduceAdd, Int.reduceSub, Int.reduceMul, reduceCtorEq, ↓reduceIte]) hrN' (fun a ha => by injection ha with ha; subst ha; simp) hgu' hu' (by omega) ?_
    intro f3 g3 u3 c3 i0 i7 i8 i9 i10 ko3 hgu3 hu3 hv3
    simp only [↓gaW, ↓gaV, ↓gaC, ↓gaN, gaP, Nat.reduceEqDiff, Nat.reduceLeDiff, Nat.reduceAdd, Nat.reduceSub, Nat.reduceMul, Int.reduceLT, Int.reduceLE, Int.reduceEq, Int.reduceToNat, Int.reduceAdd, Int.reduceSub, Int.reduceMul, reduceCtorEq, ↓reduceIte] at i0 i7 i8 i9 i10
    rw [e0] at i0
    rw [e7] at i7
    rw [e8] at i8
    rw [e9] at i9
    rw [e10] at i10
    rw [hkv, hv'] at hv3
    have hc3 : c3 = 0 := by
      rcases Nat.eq_zero_or_pos c3 with h | h
      · exact h
      · exfalso
        have h1 := lv_lt' (Nat.le_of_eq hu3)
        have h2 := Nat.le_mul_of_pos_right (4294967296 ^ N) h
        omega
    rw [hc3, Nat.mul_zero, Nat.add_zero] at hv3
    have hgq3 := (ko3 (n1 + 1 + 1 + 1) (by omega)).trans hgq'
    simp only [↓gaW, ↓gaV, ↓gaC, ↓gaN, gaP, Nat.reduceEqDiff, Nat.reduceLeDiff, Nat.reduceAdd, Nat.reduceSub, Nat.reduceMul, Int.reduceLT, Int.reduceLE, Int.reduceEq, Int.reduceToNat, Int.reduceAdd, Int.reduceSub, Int.reduceMul, reduceCtorEq, ↓reduceIte]
    refine rdC_of (N := n) (k := z) (ql := qs) (q := n1 + 1 + 1 + 1) (by omega) (by omega) i9 i10 hgq3 hqs (by omega) (by omega) (by rw [hqv, Nat.mul_mod_left]) ?_
    intro f4 g4 u4 j0 j7 j8 j9 j10 ko4 hgq4 hq4 hv4
    rw [i0] at j0
    rw [i7] at j7
    rw [i8] at j8
    rw [i9] at j9
    rw [i10] at j10
    simp only [↓gaW, ↓gaV, ↓gaC, ↓gaN, gaP, Nat.reduceEqDiff, Nat.reduceLeDiff, Nat.reduceAdd, Nat.reduceSub, Nat.reduceMul, Int.reduceLT, Int.reduceLE, Int.reduceEq, Int.reduceToNat, Int.reduceAdd, Int.reduceSub, Int.reduceMul, reduceCtorEq, ↓reduceIte, j10, i64_w ((z : Int) - 1) (by omega), loopK_n]
    refine ⟨z, by omega, z, _, u3, u4, rfl, by omega, j0, j7, j8, j9, rfl, rfl, fun p hp => ?_, (ko4 _ (by omega)).trans hgu3, hgq4, hu3, hq4, by omega, by rw [hv4, hqv, h2]⟩
    rw [ko4 p (by omega), ko3 p (by omega), ko p (by omega), hg p hp]
end
end Go.Ga

namespace Go.Ga
open Go Go.Proofs
set_option linter.unusedSimpArgs false
set_option linter.unusedVariables false
set_option maxRecDepth 100000
attribute [local irreducible] appendK

section
variable {nx : Nat} {gt : Nat → Option Blk}

theorem ct_rmMul {A B E : Option Addr} {n m h c d e : Nat} {l k t : List UInt32} (hr : Row nx gt 1 A n (l.map u32V)) (hn : n < 4000000) (hs : Row nx gt 1 B m (k.map u32V)) (hm : m < 4000000) (ht : Row nx gt 1 E h (t.map u32V)) (he : h ≤ e) (hh : h < 4000000) :
    Ct Try.prog 35 [.slice A n c, .slice B m d, .slice E h e] nx gt fun v nx' gt' => ModV nx' gt' (lv l * lv k) (lv t) v := by
  have hl : l.length = n := by simpa using hr.len
  have hk : k.length = m := by simpa using hs.len
  refine Ct.of hmx r_lanyardref08_Mul (by simp [c_lanyardref08_Mul]) fun b hb => ?_
  have hF : ∀ q, q < nx → gt q = gt q := fun _ _ => rfl
  simp only [c_lanyardref08_Mul, ↓gaW, ↓gaV, ↓gaC, ↓gaN, gaP, Nat.reduceEqDiff, Nat.reduceLeDiff, Nat.reduceAdd, Nat.reduceSub, Nat.reduceMul, Int.reduceLT, Int.reduceLE, Int.reduceEq, Int.reduceToNat, Int.reduceAdd, Int.reduceSub, Int.reduceMul, reduceCtorEq, ↓reduceIte]
  refine callK_of (ct_rMul hr (by omega) hs (by omega)) (fun v n1 g1 l1 k1 hC => ?_) (by omega)
  obtain ⟨A1, a1, c1, rfl, hc1, hl1, r1⟩ := hC
  have ht := ht.keep l1 k1
  have hF : ∀ q, q < nx → g1 q = gt q := fun q hq => (k1 q (by omega)).trans (hF q hq)
  simp only [↓gaW, ↓gaV, ↓gaC, ↓gaN, gaP, Nat.reduceEqDiff, Nat.reduceLeDiff, Nat.reduceAdd, Nat.reduceSub, Nat.reduceMul, Int.reduceLT, Int.reduceLE, Int.reduceEq, Int.reduceToNat, Int.reduceAdd, Int.reduceSub, Int.reduceMul, reduceCtorEq, ↓reduceIte]
  have hlen : (lb (lv l * lv k)).length ≤ n + m := lb_len_le.2 (lt_mul (lv_lt' (by omega)) (lv_lt' (by omega)))
  refine callK_of (ct_rDivMod r1 hc1 (by omega) ht he (by omega)) (fun v n2 g2 l2 k2 hC => ?_) (by omega)
  rw [lv_lb] at hC
  rcases hC with ⟨h0, rfl⟩ | ⟨h0, v1, v2, rfl, hq, hw⟩
  · simp only [↓gaW, ↓gaV, ↓gaC, ↓gaN, gaP, Nat.reduceEqDiff, Nat.reduceLeDiff, Nat.reduceAdd, Nat.reduceSub, Nat.reduceMul, Int.reduceLT, Int.reduceLE, Int.reduceEq, Int.reduceToNat, Int.reduceAdd, Int.reduceSub, Int.reduceMul, reduceCtorEq, ↓reduceIte, gaE, implies_true, Nat.le_refl, Int.sub_zero, Nat.sub_zero, Int.le_refl, true_or, or_true]
    repeat refine And.intro (by first | omega | (simp; done) | (simp; omega) | exact all1 rfl) ?_
    exact ⟨fun q hq => (k2 q (by omega)).trans (hF q hq), .inl ⟨h0, rfl⟩⟩
  · simp only [↓gaW, ↓gaV, ↓gaC, ↓gaN, gaP, Nat.reduceEqDiff, Nat.reduceLeDiff, Nat.reduceAdd, Nat.reduceSub, Nat.reduceMul, Int.reduceLT, Int.reduceLE, Int.reduceEq, Int.reduceToNat, Int.reduceAdd, Int.reduceSub, Int.reduceMul, reduceCtorEq, ↓reduceIte, gaE, implies_true, Nat.le_refl, Int.sub_zero, Nat.sub_zero, Int.le_refl, true_or, or_true]
    repeat refine And.intro (by first | omega | (simp; done) | (simp; omega) | exact all1 rfl) ?_
    exact ⟨fun q hq => (k2 q (by omega)).trans (hF q hq), .inr ⟨h0, _, rfl, hw⟩⟩

theorem ct_rExp {A B E : Option Addr} {n m h c d e : Nat} {l k t : List UInt32} (hr : Row nx gt 1 A n (l.map u32V)) (hc : n ≤ c) (hn : n < 4000000) (hs : Row nx gt 1 B m (k.map u32V)) (hd : m ≤ d) (hm : m < 4000000) (ht : Row nx gt 1 E h (t.map u32V)) (he : h ≤ e) (hh : h < 4000000) :
    Ct Try.prog 37 [.slice A n c, .slice B m d, .slice E h e] nx gt fun v nx' gt' => ModV nx' gt' (lv l ^ lv k) (lv t) v := by
  have hl : l.length = n := by simpa using hr.len
  have hk : k.length = m := by simpa using hs.len
  have htl : t.length = h := by simpa using ht.len
  refine Ct.of hmx r_lanyardref08_Exp (by simp [c_lanyardref08_Exp]) fun b hb => ?_
  have hF : ∀ q, q < nx → gt q = gt q := fun _ _ => rfl
  have ebl : bl (lv k) ≤ 32 * m := by
    refine bl_le.2 ?_
    have := lv_lt' (Nat.le_of_eq hk)
    rwa [show (4294967296 : Nat) = 2 ^ 32 by decide, ← Nat.pow_mul] at this
  simp only [c_lanyardref08_Exp, ↓gaW, ↓gaV, ↓gaC, ↓gaN, gaP, Nat.reduceEqDiff, Nat.reduceLeDiff, Nat.reduceAdd, Nat.reduceSub, Nat.reduceMul, Int.reduceLT, Int.reduceLE, Int.reduceEq, Int.reduceToNat, Int.reduceAdd, Int.reduceSub, Int.reduceMul, reduceCtorEq, ↓reduceIte, List.getD_cons_zero, List.getD_cons_succ, fillL, splice, List.take_zero, List.drop_zero, List.drop_succ_cons, List.take_succ_cons, List.drop_nil, List.take_nil]
  have r0 : Row (nx + 1) (upd gt nx (some (.cells [.int .u32 1] false))) 1 (some ⟨nx, 0, none⟩) 1 (([1] : List UInt32).map u32V) := Row.w32 (ro := false) (by omega) (by simp [upd]; rfl) rfl
  have kx : ∀ q, q < nx → upd gt nx (some (.cells [.int .u32 1] false)) q = gt q := fun q hq => by simp only [upd_e]; rw [if_neg (by omega)]
  have hr := hr.keep (nx' := nx + 1) (by omega) kx
  have hs := hs.keep (nx' := nx + 1) (by omega) kx
  have ht := ht.keep (nx' := nx + 1) (by omega) kx
  refine callK_of (ct_rDivMod r0 (by omega) (by omega) ht he (by omega)) (fun v n1 g1 l1 k1 hC => ?_) (by omega)
  rw [show lv [1] = 1 by decide] at hC
  have hF : ∀ q, q < nx → g1 q = gt q := fun q hq => (k1 q (by omega)).trans (kx q hq)
  have hr := hr.keep l1 k1
  have hs := hs.keep l1 k1
  have ht := ht.keep l1 k1
  rcases hC with ⟨h0, rfl⟩ | ⟨h0, v1, v2, rfl, hq, hw⟩
  · simp only [↓gaW, ↓gaV, ↓gaC, ↓gaN, gaP, Nat.reduceEqDiff, Nat.reduceLeDiff, Nat.reduceAdd, Nat.reduceSub, Nat.reduceMul, Int.reduceLT, Int.reduceLE, Int.reduceEq, Int.reduceToNat, Int.reduceAdd, Int.reduceSub, Int.reduceMul, reduceCtorEq, ↓reduceIte, gaE, implies_true, Nat.le_refl, Int.sub_zero, Nat.sub_zero, Int.le_refl, true_or, or_true]
    repeat refine And.intro (by first | omega | (simp; done) | (simp; omega) | exact all1 rfl) ?_
    first | exact ⟨hF, .inl ⟨h0, rfl⟩⟩ | exact .inl ⟨h0, rfl⟩
  simp only [↓gaW, ↓gaV, ↓gaC, ↓gaN, gaP, Nat.reduceEqDiff, Nat.reduceLeDiff, Nat.reduceAdd, Nat.reduceSub, Nat.reduceMul, Int.reduceLT, Int.reduceLE, Int.reduceEq, Int.reduceToNat, Int.reduceAdd, Int.reduceSub, Int.reduceMul, reduceCtorEq, ↓reduceIte, Bool.not_true]
  repeat refine And.intro (by first | omega | (simp; done) | (simp; omega) | exact all1 rfl) ?_
  refine callK_of (ct_rDivMod hr hc (by omega) ht he (by omega)) (fun v n3 g3 l3 k3 hC => ?_) (by omega)
  have hs := hs.keep l3 k3
  have ht := ht.keep l3 k3
  have hw := hw.keep l3 k3
  have hF : ∀ q, q < nx → g3 q = gt q := fun q hq => (k3 q (by omega)).trans (hF q hq)
  rcases hC with ⟨h0', rfl⟩ | ⟨_, v3, v4, rfl, hq3, hw3⟩
  · exact absurd h0' h0
  simp only [↓gaW, ↓gaV, ↓gaC, ↓gaN, gaP, Nat.reduceEqDiff, Nat.reduceLeDiff, Nat.reduceAdd, Nat.reduceSub, Nat.reduceMul, Int.reduceLT, Int.reduceLE, Int.reduceEq, Int.reduceToNat, Int.reduceAdd, Int.reduceSub, Int.reduceMul, reduceCtorEq, ↓reduceIte]
  repeat refine And.intro (by first | omega | (simp; done) | (simp; omega) | exact all1 rfl) ?_
  refine callK_of (ct_rLen hs hd (by omega)) (fun v n4 g4 l4 k4 hC => ?_) (by omega)
  subst hC
  have hs := hs.keep l4 k4
  have ht := ht.keep l4 k4
  have hw := hw.keep l4 k4
  have hw3 := hw3.keep l4 k4
  have hF : ∀ q, q < nx → g4 q = gt q := fun q hq => (k4 q (by omega)).trans (hF q hq)
  simp only [↓gaW, ↓gaV, ↓gaC, ↓gaN, gaP, Nat.reduceEqDiff, Nat.reduceLeDiff, Nat.reduceAdd, Nat.reduceSub, Nat.reduceMul, Int.reduceLT, Int.reduceLE, Int.reduceEq, Int.reduceToNat, Int.reduceAdd, Int.reduceSub, Int.reduceMul, reduceCtorEq, ↓reduceIte, i64_w ((bl (lv k) : Int) - 1) (by omega)]
  refine loop_of (fun j f mm => ∃ (y x : Nat) (g : Nat → Option Blk), j = y ∧ y ≤ bl (lv k) ∧ W32 x g (f 12) (lb (lv l % lv t)) ∧ f 1 = .slice B m d ∧ f 2 = .slice E h e ∧ W32 x g (f 9) (lb (lv l ^ (lv k / 2 ^ y) % lv t)) ∧ f 14 = .int .i64 ((y : Int) - 1) ∧ mm = ⟨x, b, g⟩ ∧ nx ≤ x ∧
      (∀ p, p < nx → g p = gt p) ∧ Row x g 1 B m (k.map u32V) ∧ Row x g 1 E h (t.map u32V)) (bl (lv k))
    ⟨_, n4, g4, rfl, Nat.le_refl _, by simp only [↓gaW, ↓gaV, ↓gaC, ↓gaN, gaP, Nat.reduceEqDiff, Nat.reduceLeDiff, Nat.reduceAdd, Nat.reduceSub, Nat.reduceMul, Int.reduceLT, Int.reduceLE, Int.reduceEq, Int.reduceToNat, Int.reduceAdd, Int.reduceSub, Int.reduceMul, reduceCtorEq, ↓reduceIte]; exact hw3, by simp only [↓gaW, ↓gaV, ↓gaC, ↓gaN, gaP, Nat.reduceEqDiff, Nat.reduceLeDiff, Nat.reduceAdd, Nat.reduceSub, Nat.reduceMul, Int.reduceLT, Int.reduceLE, Int.reduceEq, Int.reduceToNat, Int.reduceAdd, Int.reduceSub, Int.reduceMul, reduceCtorEq, ↓reduceIte], by simp only [↓gaW, ↓gaV, ↓gaC, ↓gaN, gaP, Nat.reduceEqDiff, Nat.reduceLeDiff, Nat.reduceAdd, Nat.reduceSub, Nat.reduceMul, Int.reduceLT, Int.reduceLE, Int.reduceEq, Int.reduceToNat, Int.reduceAdd, Int.reduceSub, Int.reduceMul, reduceCtorEq, ↓reduceIte], by simp only [↓gaW, ↓gaV, ↓gaC, ↓gaN, gaP, Nat.reduceEqDiff, Nat.reduceLeDiff, Nat.reduceAdd, Nat.reduceSub, Nat.reduceMul, Int.reduceLT, Int.reduceLE, Int.reduceEq, Int.reduceToNat, Int.reduceAdd, Int.reduceSub, Int.reduceMul, reduceCtorEq, ↓reduceIte]; rw [Nat.div_eq_of_lt (bl_lt _), Nat.pow_zero]; exact hw, by simp only [↓gaW, ↓gaV, ↓gaC, ↓gaN, gaP, Nat.reduceEqDiff, Nat.reduceLeDiff, Nat.reduceAdd, Nat.reduceSub, Nat.reduceMul, Int.reduceLT, Int.reduceLE, Int.reduceEq, Int.reduceToNat, Int.reduceAdd, Int.reduceSub, Int.reduceMul, reduceCtorEq, ↓reduceIte], rfl, by omega, hF, hs, ht⟩ ?_
  rintro j f mm ⟨y, x, g, rfl, hy, w0, h1, h2, w9, h11, rfl, hx, hF, hs, ht⟩
  rcases Nat.eq_zero_or_pos j with rfl | hj
  · simp only [↓gaW, ↓gaV, ↓gaC, ↓gaN, gaP, Nat.reduceEqDiff, Nat.reduceLeDiff, Nat.reduceAdd, Nat.reduceSub, Nat.reduceMul, Int.reduceLT, Int.reduceLE, Int.reduceEq, Int.reduceToNat, Int.reduceAdd, Int.reduceSub, Int.reduceMul, reduceCtorEq, ↓reduceIte, gaE, implies_true, Nat.le_refl, Int.sub_zero, Nat.sub_zero, Int.le_refl, true_or, or_true, h11, show ((0 : Nat) : Int) - 1 = -1 from rfl, show ¬ (0 : Int) ≤ -1 by omega, decide_false, loopK_e]
    rw [Nat.pow_zero, Nat.div_one] at w9
    repeat refine And.intro (by first | omega | (simp; done) | (simp; omega) | exact all1 rfl) ?_
    first | exact ⟨hF, .inr ⟨h0, _, rfl, w9⟩⟩ | exact .inr ⟨h0, _, rfl, w9⟩
  · obtain ⟨z, rfl⟩ : ∃ z, j = z + 1 := ⟨j - 1, by omega⟩
    rw [show ((z + 1 : Nat) : Int) - 1 = (z : Int) by omega] at h11
    obtain ⟨a0, s0, c0, e0, hc0, hl0, r0⟩ := w0
    obtain ⟨a9, s9, c9, e9, hc9, hl9, r9⟩ := w9
    have z0 := mod_len (x := lv l) h0 (Nat.le_of_eq htl)
    have z9 := mod_len (x := lv l ^ (lv k / 2 ^ (z + 1))) h0 (Nat.le_of_eq htl)
    simp only [↓gaW, ↓gaV, ↓gaC, ↓gaN, gaP, Nat.reduceEqDiff, Nat.reduceLeDiff, Nat.reduceAdd, Nat.reduceSub, Nat.reduceMul, Int.reduceLT, Int.reduceLE, Int.reduceEq, Int.reduceToNat, Int.reduceAdd, Int.reduceSub, Int.reduceMul, reduceCtorEq, ↓reduceIte, h1, h2, h11, e9, show (0 : Int) ≤ (z : Int) by omega, decide_true]
    refine callK_of (ct_rmMul r9 (by omega) r9 (by omega) ht he hh) (fun v n5 g5 l5 k5 hC => ?_) (by omega)
    rcases hC with ⟨h0', rfl⟩ | ⟨_, v5, rfl, hw5⟩
    · exact absurd h0' h0
    have hs := hs.keep l5 k5
    have ht := ht.keep l5 k5
    have r0 := r0.keep l5 k5
    have hF : ∀ q, q < nx → g5 q = gt q := fun q hq => (k5 q (by omega)).trans (hF q hq)
    rw [lv_lb] at hw5
    have hs2 := hs
    simp only [↓gaW, ↓gaV, ↓gaC, ↓gaN, gaP, Nat.reduceEqDiff, Nat.reduceLeDiff, Nat.reduceAdd, Nat.reduceSub, Nat.reduceMul, Int.reduceLT, Int.reduceLE, Int.reduceEq, Int.reduceToNat, Int.reduceAdd, Int.reduceSub, Int.reduceMul, reduceCtorEq, ↓reduceIte, h1, h11]
    repeat refine And.intro (by first | omega | (simp; done) | (simp; omega) | exact all1 rfl) ?_
    refine callK_of (ct_rbit hs (by omega) (by omega)) (fun v n7 g7 l7 k7 hC => ?_) (by omega)
    obtain ⟨rfl, rfl, rfl⟩ := hC
    simp only [↓gaW, ↓gaV, ↓gaC, ↓gaN, gaP, Nat.reduceEqDiff, Nat.reduceLeDiff, Nat.reduceAdd, Nat.reduceSub, Nat.reduceMul, Int.reduceLT, Int.reduceLE, Int.reduceEq, Int.reduceToNat, Int.reduceAdd, Int.reduceSub, Int.reduceMul, reduceCtorEq, ↓reduceIte]
    have hpb := pow_bit (lv l) (lv k) (lv t) z
    obtain ⟨a5, s5, c5, rfl, hc5, hl5, r5⟩ := hw5
    have z5 := mod_len (x := lv l ^ (lv k / 2 ^ (z + 1)) % lv t * (lv l ^ (lv k / 2 ^ (z + 1)) % lv t)) h0 (Nat.le_of_eq htl)
    by_cases hbt : lv k / 2 ^ z % 2 = 1
    · rw [if_pos hbt] at hpb
      simp only [↓gaW, ↓gaV, ↓gaC, ↓gaN, gaP, Nat.reduceEqDiff, Nat.reduceLeDiff, Nat.reduceAdd, Nat.reduceSub, Nat.reduceMul, Int.reduceLT, Int.reduceLE, Int.reduceEq, Int.reduceToNat, Int.reduceAdd, Int.reduceSub, Int.reduceMul, reduceCtorEq, ↓reduceIte, hbt, decide_true, e0, h2]
      repeat refine And.intro (by first | omega | (simp; done) | (simp; omega) | exact all1 rfl) ?_
      refine callK_of (ct_rmMul r5 (by omega) r0 (by omega) ht he hh) (fun v n6 g6 l6 k6 hC => ?_) (by omega)
      rcases hC with ⟨h0', rfl⟩ | ⟨_, v6, rfl, hw6⟩
      · exact absurd h0' h0
      have hs := hs.keep l6 k6
      have ht := ht.keep l6 k6
      have r0 := r0.keep l6 k6
      have hF : ∀ q, q < nx → g6 q = gt q := fun q hq => (k6 q (by omega)).trans (hF q hq)
      rw [lv_lb, lv_lb, ← hpb] at hw6
      simp only [↓gaW, ↓gaV, ↓gaC, ↓gaN, gaP, Nat.reduceEqDiff, Nat.reduceLeDiff, Nat.reduceAdd, Nat.reduceSub, Nat.reduceMul, Int.reduceLT, Int.reduceLE, Int.reduceEq, Int.reduceToNat, Int.reduceAdd, Int.reduceSub, Int.reduceMul, reduceCtorEq, ↓reduceIte, h11, i64_w ((z : Int) - 1) (by omega), loopK_n]
      repeat refine And.intro (by first | omega | (simp; done) | (simp; omega) | exact all1 rfl) ?_
      exact ⟨z, by omega, z, n6, g6, rfl, by omega, e0 ▸ ⟨a0, s0, c0, rfl, hc0, hl0, r0⟩, h1, h2, hw6, rfl, rfl, by omega, hF, hs, ht⟩
    · rw [if_neg hbt] at hpb
      have hbi : ¬ ((lv k / 2 ^ z % 2 : Nat) : Int) = 1 := by omega
      simp only [↓gaW, ↓gaV, ↓gaC, ↓gaN, gaP, Nat.reduceEqDiff, Nat.reduceLeDiff, Nat.reduceAdd, Nat.reduceSub, Nat.reduceMul, Int.reduceLT, Int.reduceLE, Int.reduceEq, Int.reduceToNat, Int.reduceAdd, Int.reduceSub, Int.reduceMul, reduceCtorEq, ↓reduceIte, hbi, decide_false, h11, i64_w ((z : Int) - 1) (by omega), loopK_n]
      repeat refine And.intro (by first | omega | (simp; done) | (simp; omega) | exact all1 rfl) ?_
      rw [← hpb] at hl5 r5
      exact ⟨z, by omega, z, _, _, rfl, by omega, e0 ▸ ⟨a0, s0, c0, rfl, hc0, hl0, r0⟩, h1, h2, ⟨a5, s5, c5, rfl, hc5, hl5, r5⟩, rfl, rfl, by omega, hF, hs, ht⟩
end
end Go.Ga

namespace Go.Ga
open Go Go.Proofs
set_option linter.unusedSimpArgs false
set_option linter.unusedVariables false
set_option maxRecDepth 100000
attribute [local irreducible] appendK

/-- What is left, 0 where nothing may be asked. -/
def md (a m : Nat) : Nat := if m = 0 then 0 else a % m
theorem md_is {a m : Nat} (h : m ≠ 0) : md a m = a % m := if_neg h
theorem md_no (a : Nat) : md a 0 = 0 := if_pos rfl

theorem DivV.u {nx : Nat} {gt : Nat → Option Blk} {a m : Nat} {v : Value} (h : DivV nx gt a m v) : ∃ (A : Option Addr) (n c : Nat) (B : Option Addr) (k d : Nat), v = .tuple #[.slice A n c, .slice B k d, .bool (decide (m ≠ 0))] ∧ n ≤ c ∧ (lb (a / m)).length = n ∧ Row nx gt 1 A n ((lb (a / m)).map u32V) ∧ k ≤ d ∧ (lb (md a m)).length = k ∧ Row nx gt 1 B k ((lb (md a m)).map u32V) := by
  rcases h with ⟨rfl, rfl⟩ | ⟨h0, v1, v2, rfl, ⟨A, n, c, rfl, h1, h2, h3⟩, ⟨B, k, d, rfl, h4, h5, h6⟩⟩
  · refine ⟨none, 0, 0, none, 0, 0, by simp, by omega, ?_, ?_, by omega, ?_, ?_⟩ <;> simp only [Nat.div_zero, md_no, lb_zero] <;> first | rfl | exact .nil
  · rw [← md_is h0] at h5 h6
    exact ⟨A, n, c, B, k, d, by rw [decide_eq_true h0], h1, h2, h3, h4, h5, h6⟩
theorem ModV.u {nx : Nat} {gt : Nat → Option Blk} {a m : Nat} {v : Value} (h : ModV nx gt a m v) : ∃ (A : Option Addr) (n c : Nat), v = .tuple #[.slice A n c, .bool (decide (m ≠ 0))] ∧ n ≤ c ∧ (lb (md a m)).length = n ∧ Row nx gt 1 A n ((lb (md a m)).map u32V) := by
  rcases h with ⟨rfl, rfl⟩ | ⟨h0, v1, rfl, ⟨A, n, c, rfl, h1, h2, h3⟩⟩
  · refine ⟨none, 0, 0, by simp, by omega, ?_, ?_⟩ <;> simp only [md_no, lb_zero] <;> first | rfl | exact .nil
  · rw [← md_is h0] at h2 h3
    exact ⟨A, n, c, by rw [decide_eq_true h0], h1, h2, h3⟩

theorem lb_one_word {w : Nat} (h0 : w ≠ 0) (h : w < 4294967296) : lb w = [UInt32.ofNat w] := by
  rw [lb_pos h0, Nat.div_eq_of_lt h, lb_zero]

section
variable {nx : Nat} {gt : Nat → Option Blk}

theorem row_one {x : UInt32} : Row (nx + 1) (upd gt nx (some (.cells [u32V x] false))) 1 (some ⟨nx, 0, none⟩) 1 (([x] : List UInt32).map u32V) := Row.w32 (ro := false) (by omega) (by simp only [upd_e, if_true]; rfl) rfl
theorem keep_one {v : Value} : ∀ q, q < nx → upd gt nx (some (.cells [v] false)) q = gt q := fun q hq => by simp only [upd_e]; rw [if_neg (by omega)]

theorem ct_awake08 : Ct Try.prog 31 [] nx gt fun v _ _ => v = .bool true := by
  refine Ct.of hmx r_lanyardlaw08_awake (by simp [c_lanyardlaw08_awake]) fun b hb => ?_
  have e3 : Value.int .u32 3 = u32V 3 := rfl
  have e4 : Value.int .u32 4 = u32V 4 := rfl
  have e7 : Value.int .u32 7 = u32V 7 := rfl
  have e100 : Value.int .u32 100 = u32V 100 := rfl
  simp only [c_lanyardlaw08_awake, ↓gaW, ↓gaV, ↓gaC, ↓gaN, gaP, Nat.reduceEqDiff, Nat.reduceLeDiff, Nat.reduceAdd, Nat.reduceSub, Nat.reduceMul, Int.reduceLT, Int.reduceLE, Int.reduceEq, Int.reduceToNat, Int.reduceAdd, Int.reduceSub, Int.reduceMul, reduceCtorEq, ↓reduceIte, List.getD_cons_zero, List.getD_cons_succ, fillL, splice, List.take_zero, List.drop_zero, List.drop_succ_cons, List.take_succ_cons, List.drop_nil, List.take_nil, e3, e4, e7, e100]
  refine callK_of (ct_DivMod ((row_one (x := 100)).keep (Nat.le_succ _) keep_one) (by omega) (by omega) (row_one (x := 7)) (by omega) (by omega)) (fun v n1 g1 l1 k1 hC => ?_) (by omega)
  obtain ⟨A1, a1, c1, B1, b1, d1, rfl, hc1, hl1, r1, hd1, hm1, s1⟩ := hC.u
  have q1 : lv [100] / lv [7] = 14 := by decide
  have q2 : md (lv [100]) (lv [7]) = 2 := by decide
  have q3 : decide (lv [7] ≠ 0) = true := by decide
  rw [q1, lb_one_word (by decide) (by decide)] at hl1 r1
  rw [q2, lb_one_word (by decide) (by decide)] at hm1 s1
  have hl1 : 1 = a1 := hl1
  have hm1 : 1 = b1 := hm1
  subst hl1 hm1
  rw [q3]
  simp only [↓gaW, ↓gaV, ↓gaC, ↓gaN, gaP, Nat.reduceEqDiff, Nat.reduceLeDiff, Nat.reduceAdd, Nat.reduceSub, Nat.reduceMul, Int.reduceLT, Int.reduceLE, Int.reduceEq, Int.reduceToNat, Int.reduceAdd, Int.reduceSub, Int.reduceMul, reduceCtorEq, ↓reduceIte]
  repeat refine And.intro (by first | omega | (simp; done) | (simp; omega) | exact all1 rfl) ?_
  refine callK_of (ct_mExp (((row_one (x := 3)).keep (Nat.le_succ _) keep_one).keep (Nat.le_succ _) keep_one) (by omega) (by omega) ((row_one (x := 4)).keep (Nat.le_succ _) keep_one) (by omega) (by omega) (row_one (x := 7)) (by omega) (by omega)) (fun v n2 g2 l2 k2 hC => ?_) (by omega)
  obtain ⟨A2, a2, c2, rfl, hc2, hl2, r2⟩ := hC.u
  have q4 : md (lv [3] ^ lv [4]) (lv [7]) = 4 := by decide
  rw [q4, lb_one_word (by decide) (by decide)] at hl2 r2
  have hl2 : 1 = a2 := hl2
  subst hl2
  rw [q3]
  have r1 := r1.keep (nx' := n2) (gt' := g2) (by omega) (fun q hq => by rw [k2 q (by omega)]; simp only [upd_e]; rw [if_neg (by omega), if_neg (by omega), if_neg (by omega)])
  have s1 := s1.keep (nx' := n2) (gt' := g2) (by omega) (fun q hq => by rw [k2 q (by omega)]; simp only [upd_e]; rw [if_neg (by omega), if_neg (by omega), if_neg (by omega)])
  obtain ⟨a, ce, ro, rfl, p1, p2, p3, p4⟩ := w32_cell r1 rfl (i := 0) (by omega)
  obtain ⟨a', ce', ro', rfl, p1', p2', p3', p4'⟩ := w32_cell s1 rfl (i := 0) (by omega)
  obtain ⟨a'', ce'', ro'', rfl, p1'', p2'', p3'', p4''⟩ := w32_cell r2 rfl (i := 0) (by omega)
  have p4 : ce.getD a.off undef = .int .u32 14 := p4
  have p4' : ce'.getD a'.off undef = .int .u32 2 := p4'
  have p4'' : ce''.getD a''.off undef = .int .u32 4 := p4''
  simp only [↓gaW, ↓gaV, ↓gaC, ↓gaN, gaP, Nat.reduceEqDiff, Nat.reduceLeDiff, Nat.reduceAdd, Nat.reduceSub, Nat.reduceMul, Int.reduceLT, Int.reduceLE, Int.reduceEq, Int.reduceToNat, Int.reduceAdd, Int.reduceSub, Int.reduceMul, reduceCtorEq, ↓reduceIte, gaE, implies_true, Nat.le_refl, Int.sub_zero, Nat.sub_zero, Int.le_refl, true_or, or_true, p2, p4, p2', p4', p2'', p4'', decide_true, ← e4]
  repeat refine And.intro (by first | omega | (simp; done) | (simp; omega) | exact all1 rfl) ?_
  intro q hq
  rw [k2 q (by omega), upd_e, if_neg (by omega), upd_e, if_neg (by omega), upd_e, if_neg (by omega), k1 q (by omega), upd_e, if_neg (by omega), upd_e, if_neg (by omega)]

theorem fn_Parts {A B : Option Addr} {n m c d : Nat} {l k : List UInt32} (hA : Row nx gt 1 A n (l.map u32V)) (hc : n ≤ c) (hB : Row nx gt 1 B m (k.map u32V)) (hd : m ≤ d) :
    Ct Try.prog 8 [.slice A n c, .slice B m d] nx gt fun v _ _ => v = .bool true := by
  have hl : l.length = n := by simpa using hA.len
  have hk : k.length = m := by simpa using hB.len
  refine Ct.of hmx r_lanyardlaw08_ModuloParts (by simp [c_lanyardlaw08_ModuloParts]) fun b hb => ?_
  have hF : ∀ q, q < nx → gt q = gt q := fun _ _ => rfl
  simp only [c_lanyardlaw08_ModuloParts, ↓gaW, ↓gaV, ↓gaC, ↓gaN, gaP, Nat.reduceEqDiff, Nat.reduceLeDiff, Nat.reduceAdd, Nat.reduceSub, Nat.reduceMul, Int.reduceLT, Int.reduceLE, Int.reduceEq, Int.reduceToNat, Int.reduceAdd, Int.reduceSub, Int.reduceMul, reduceCtorEq, ↓reduceIte]
  refine callK_of ct_awake08 (fun v n1 g1 l1 k1 hC => ?_) (by omega)
  subst hC
  have hA := hA.keep l1 k1
  have hB := hB.keep l1 k1
  have hF : ∀ q, q < nx → g1 q = gt q := fun q hq => (k1 q (by omega)).trans (hF q hq)
  simp only [↓gaW, ↓gaV, ↓gaC, ↓gaN, gaP, Nat.reduceEqDiff, Nat.reduceLeDiff, Nat.reduceAdd, Nat.reduceSub, Nat.reduceMul, Int.reduceLT, Int.reduceLE, Int.reduceEq, Int.reduceToNat, Int.reduceAdd, Int.reduceSub, Int.reduceMul, reduceCtorEq, ↓reduceIte]
  by_cases g1 : (60 : Int) < (n : Int)
  · simp only [↓gaW, ↓gaV, ↓gaC, ↓gaN, gaP, Nat.reduceEqDiff, Nat.reduceLeDiff, Nat.reduceAdd, Nat.reduceSub, Nat.reduceMul, Int.reduceLT, Int.reduceLE, Int.reduceEq, Int.reduceToNat, Int.reduceAdd, Int.reduceSub, Int.reduceMul, reduceCtorEq, ↓reduceIte, gaE, implies_true, Nat.le_refl, Int.sub_zero, Nat.sub_zero, Int.le_refl, true_or, or_true, g1, decide_true]
    exact ⟨by omega, hF⟩
  by_cases g2 : (60 : Int) < (m : Int)
  · simp only [↓gaW, ↓gaV, ↓gaC, ↓gaN, gaP, Nat.reduceEqDiff, Nat.reduceLeDiff, Nat.reduceAdd, Nat.reduceSub, Nat.reduceMul, Int.reduceLT, Int.reduceLE, Int.reduceEq, Int.reduceToNat, Int.reduceAdd, Int.reduceSub, Int.reduceMul, reduceCtorEq, ↓reduceIte, gaE, implies_true, Nat.le_refl, Int.sub_zero, Nat.sub_zero, Int.le_refl, true_or, or_true, g1, g2, decide_true, decide_false]
    exact ⟨by omega, hF⟩
  simp only [↓gaW, ↓gaV, ↓gaC, ↓gaN, gaP, Nat.reduceEqDiff, Nat.reduceLeDiff, Nat.reduceAdd, Nat.reduceSub, Nat.reduceMul, Int.reduceLT, Int.reduceLE, Int.reduceEq, Int.reduceToNat, Int.reduceAdd, Int.reduceSub, Int.reduceMul, reduceCtorEq, ↓reduceIte, g1, g2, decide_false]
  refine callK_of (ct_DivMod hA hc (by omega) hB hd (by omega)) (fun v n2 g2 l2 k2 hC => ?_) (by omega)
  obtain ⟨A2, a2, c2, B2, b2, d2, rfl, hc2, hl2, r2, hd2, hm2, s2⟩ := hC.u
  have hA := hA.keep l2 k2
  have hB := hB.keep l2 k2
  have hF : ∀ q, q < nx → g2 q = gt q := fun q hq => (k2 q (by omega)).trans (hF q hq)
  simp only [↓gaW, ↓gaV, ↓gaC, ↓gaN, gaP, Nat.reduceEqDiff, Nat.reduceLeDiff, Nat.reduceAdd, Nat.reduceSub, Nat.reduceMul, Int.reduceLT, Int.reduceLE, Int.reduceEq, Int.reduceToNat, Int.reduceAdd, Int.reduceSub, Int.reduceMul, reduceCtorEq, ↓reduceIte]
  repeat refine And.intro (by omega) ?_
  refine callK_of (ct_rDivMod hA hc (by omega) hB hd (by omega)) (fun v n3 g3 l3 k3 hC => ?_) (by omega)
  obtain ⟨A3, a3, c3, B3, b3, d3, rfl, hc3, hl3, r3, hd3, hm3, s3⟩ := hC.u
  have hA := hA.keep l3 k3
  have hB := hB.keep l3 k3
  have r2 := r2.keep l3 k3
  have s2 := s2.keep l3 k3
  have hF : ∀ q, q < nx → g3 q = gt q := fun q hq => (k3 q (by omega)).trans (hF q hq)
  simp only [↓gaW, ↓gaV, ↓gaC, ↓gaN, gaP, Nat.reduceEqDiff, Nat.reduceLeDiff, Nat.reduceAdd, Nat.reduceSub, Nat.reduceMul, Int.reduceLT, Int.reduceLE, Int.reduceEq, Int.reduceToNat, Int.reduceAdd, Int.reduceSub, Int.reduceMul, reduceCtorEq, ↓reduceIte]
  repeat refine And.intro (by omega) ?_
  have z1 : (lb (lv l / lv k)).length ≤ n := lb_len_le.2 (Nat.lt_of_le_of_lt (Nat.div_le_self _ _) (lv_lt' (by omega)))
  have z2 : (lb (md (lv l) (lv k))).length ≤ n := lb_len_le.2 (Nat.lt_of_le_of_lt (by unfold md; split <;> first | omega | exact Nat.mod_le _ _) (lv_lt' (Nat.le_of_eq hl)))
  refine callK_of (ct_Same r2 (by omega) r3) (fun v n4 g4 l4 k4 hC => ?_) (by omega)
  subst hC
  have hA := hA.keep l4 k4
  have hB := hB.keep l4 k4
  have s2 := s2.keep l4 k4
  have s3 := s3.keep l4 k4
  have hF : ∀ q, q < nx → g4 q = gt q := fun q hq => (k4 q (by omega)).trans (hF q hq)
  simp only [↓gaW, ↓gaV, ↓gaC, ↓gaN, gaP, Nat.reduceEqDiff, Nat.reduceLeDiff, Nat.reduceAdd, Nat.reduceSub, Nat.reduceMul, Int.reduceLT, Int.reduceLE, Int.reduceEq, Int.reduceToNat, Int.reduceAdd, Int.reduceSub, Int.reduceMul, reduceCtorEq, ↓reduceIte, decide_true]
  refine callK_of (ct_Same s2 (by omega) s3) (fun v n5 g5 l5 k5 hC => ?_) (by omega)
  subst hC
  have hA := hA.keep l5 k5
  have hB := hB.keep l5 k5
  have hF : ∀ q, q < nx → g5 q = gt q := fun q hq => (k5 q (by omega)).trans (hF q hq)
  simp only [↓gaW, ↓gaV, ↓gaC, ↓gaN, gaP, Nat.reduceEqDiff, Nat.reduceLeDiff, Nat.reduceAdd, Nat.reduceSub, Nat.reduceMul, Int.reduceLT, Int.reduceLE, Int.reduceEq, Int.reduceToNat, Int.reduceAdd, Int.reduceSub, Int.reduceMul, reduceCtorEq, ↓reduceIte, gaE, implies_true, Nat.le_refl, Int.sub_zero, Nat.sub_zero, Int.le_refl, true_or, or_true, decide_true]
  exact ⟨by omega, hF⟩

theorem fn_Powers {A B E : Option Addr} {n m h c d e : Nat} {l k t : List UInt32} (hA : Row nx gt 1 A n (l.map u32V)) (hc : n ≤ c) (hB : Row nx gt 1 B m (k.map u32V)) (hd : m ≤ d) (hE : Row nx gt 1 E h (t.map u32V)) (he : h ≤ e) :
    Ct Try.prog 9 [.slice A n c, .slice B m d, .slice E h e] nx gt fun v _ _ => v = .bool true := by
  have hl : l.length = n := by simpa using hA.len
  have hk : k.length = m := by simpa using hB.len
  have ht : t.length = h := by simpa using hE.len
  refine Ct.of hmx r_lanyardlaw08_ModuloPowers (by simp [c_lanyardlaw08_ModuloPowers]) fun b hb => ?_
  have hF : ∀ q, q < nx → gt q = gt q := fun _ _ => rfl
  simp only [c_lanyardlaw08_ModuloPowers, ↓gaW, ↓gaV, ↓gaC, ↓gaN, gaP, Nat.reduceEqDiff, Nat.reduceLeDiff, Nat.reduceAdd, Nat.reduceSub, Nat.reduceMul, Int.reduceLT, Int.reduceLE, Int.reduceEq, Int.reduceToNat, Int.reduceAdd, Int.reduceSub, Int.reduceMul, reduceCtorEq, ↓reduceIte]
  refine callK_of ct_awake08 (fun v n1 g1 l1 k1 hC => ?_) (by omega)
  subst hC
  have hA := hA.keep l1 k1
  have hB := hB.keep l1 k1
  have hE := hE.keep l1 k1
  have hF : ∀ q, q < nx → g1 q = gt q := fun q hq => (k1 q (by omega)).trans (hF q hq)
  simp only [↓gaW, ↓gaV, ↓gaC, ↓gaN, gaP, Nat.reduceEqDiff, Nat.reduceLeDiff, Nat.reduceAdd, Nat.reduceSub, Nat.reduceMul, Int.reduceLT, Int.reduceLE, Int.reduceEq, Int.reduceToNat, Int.reduceAdd, Int.reduceSub, Int.reduceMul, reduceCtorEq, ↓reduceIte]
  by_cases g1 : (20 : Int) < (n : Int)
  · simp only [↓gaW, ↓gaV, ↓gaC, ↓gaN, gaP, Nat.reduceEqDiff, Nat.reduceLeDiff, Nat.reduceAdd, Nat.reduceSub, Nat.reduceMul, Int.reduceLT, Int.reduceLE, Int.reduceEq, Int.reduceToNat, Int.reduceAdd, Int.reduceSub, Int.reduceMul, reduceCtorEq, ↓reduceIte, gaE, implies_true, Nat.le_refl, Int.sub_zero, Nat.sub_zero, Int.le_refl, true_or, or_true, g1, decide_true]
    exact ⟨by omega, hF⟩
  by_cases g2 : (3 : Int) < (m : Int)
  · simp only [↓gaW, ↓gaV, ↓gaC, ↓gaN, gaP, Nat.reduceEqDiff, Nat.reduceLeDiff, Nat.reduceAdd, Nat.reduceSub, Nat.reduceMul, Int.reduceLT, Int.reduceLE, Int.reduceEq, Int.reduceToNat, Int.reduceAdd, Int.reduceSub, Int.reduceMul, reduceCtorEq, ↓reduceIte, gaE, implies_true, Nat.le_refl, Int.sub_zero, Nat.sub_zero, Int.le_refl, true_or, or_true, g1, g2, decide_true, decide_false]
    exact ⟨by omega, hF⟩
  by_cases g3 : (20 : Int) < (h : Int)
  · simp only [↓gaW, ↓gaV, ↓gaC, ↓gaN, gaP, Nat.reduceEqDiff, Nat.reduceLeDiff, Nat.reduceAdd, Nat.reduceSub, Nat.reduceMul, Int.reduceLT, Int.reduceLE, Int.reduceEq, Int.reduceToNat, Int.reduceAdd, Int.reduceSub, Int.reduceMul, reduceCtorEq, ↓reduceIte, gaE, implies_true, Nat.le_refl, Int.sub_zero, Nat.sub_zero, Int.le_refl, true_or, or_true, g1, g2, g3, decide_true, decide_false]
    exact ⟨by omega, hF⟩
  simp only [↓gaW, ↓gaV, ↓gaC, ↓gaN, gaP, Nat.reduceEqDiff, Nat.reduceLeDiff, Nat.reduceAdd, Nat.reduceSub, Nat.reduceMul, Int.reduceLT, Int.reduceLE, Int.reduceEq, Int.reduceToNat, Int.reduceAdd, Int.reduceSub, Int.reduceMul, reduceCtorEq, ↓reduceIte, g1, g2, g3, decide_false]
  have z0 : ∀ x, (lb (md x (lv t))).length ≤ h := fun x => lb_len_le.2 (by
    have h1 := lv_lt' (Nat.le_of_eq ht)
    unfold md
    split
    · omega
    · exact Nat.lt_trans (Nat.mod_lt _ (by omega)) h1)
  have z1 := z0 (lv l * lv k)
  have z2 := z0 (lv l ^ lv k)
  refine callK_of (ct_mMul hA (by omega) hB (by omega) hE he (by omega)) (fun v n2 g2 l2 k2 hC => ?_) (by omega)
  obtain ⟨A2, a2, c2, rfl, hc2, hl2, r2⟩ := hC.u
  have hA := hA.keep l2 k2
  have hB := hB.keep l2 k2
  have hE := hE.keep l2 k2
  have hF : ∀ q, q < nx → g2 q = gt q := fun q hq => (k2 q (by omega)).trans (hF q hq)
  simp only [↓gaW, ↓gaV, ↓gaC, ↓gaN, gaP, Nat.reduceEqDiff, Nat.reduceLeDiff, Nat.reduceAdd, Nat.reduceSub, Nat.reduceMul, Int.reduceLT, Int.reduceLE, Int.reduceEq, Int.reduceToNat, Int.reduceAdd, Int.reduceSub, Int.reduceMul, reduceCtorEq, ↓reduceIte]
  repeat refine And.intro (by omega) ?_
  refine callK_of (ct_rmMul hA (by omega) hB (by omega) hE he (by omega)) (fun v n3 g3 l3 k3 hC => ?_) (by omega)
  obtain ⟨A3, a3, c3, rfl, hc3, hl3, r3⟩ := hC.u
  have hA := hA.keep l3 k3
  have hB := hB.keep l3 k3
  have hE := hE.keep l3 k3
  have r2 := r2.keep l3 k3
  have hF : ∀ q, q < nx → g3 q = gt q := fun q hq => (k3 q (by omega)).trans (hF q hq)
  simp only [↓gaW, ↓gaV, ↓gaC, ↓gaN, gaP, Nat.reduceEqDiff, Nat.reduceLeDiff, Nat.reduceAdd, Nat.reduceSub, Nat.reduceMul, Int.reduceLT, Int.reduceLE, Int.reduceEq, Int.reduceToNat, Int.reduceAdd, Int.reduceSub, Int.reduceMul, reduceCtorEq, ↓reduceIte]
  repeat refine And.intro (by omega) ?_
  refine callK_of (ct_mExp hA hc (by omega) hB hd (by omega) hE he (by omega)) (fun v n4 g4 l4 k4 hC => ?_) (by omega)
  obtain ⟨A4, a4, c4, rfl, hc4, hl4, r4⟩ := hC.u
  have hA := hA.keep l4 k4
  have hB := hB.keep l4 k4
  have hE := hE.keep l4 k4
  have r2 := r2.keep l4 k4
  have r3 := r3.keep l4 k4
  have hF : ∀ q, q < nx → g4 q = gt q := fun q hq => (k4 q (by omega)).trans (hF q hq)
  simp only [↓gaW, ↓gaV, ↓gaC, ↓gaN, gaP, Nat.reduceEqDiff, Nat.reduceLeDiff, Nat.reduceAdd, Nat.reduceSub, Nat.reduceMul, Int.reduceLT, Int.reduceLE, Int.reduceEq, Int.reduceToNat, Int.reduceAdd, Int.reduceSub, Int.reduceMul, reduceCtorEq, ↓reduceIte]
  repeat refine And.intro (by omega) ?_
  refine callK_of (ct_rExp hA hc (by omega) hB hd (by omega) hE he (by omega)) (fun v n5 g5 l5 k5 hC => ?_) (by omega)
  obtain ⟨A5, a5, c5, rfl, hc5, hl5, r5⟩ := hC.u
  have hA := hA.keep l5 k5
  have hB := hB.keep l5 k5
  have hE := hE.keep l5 k5
  have r2 := r2.keep l5 k5
  have r3 := r3.keep l5 k5
  have r4 := r4.keep l5 k5
  have hF : ∀ q, q < nx → g5 q = gt q := fun q hq => (k5 q (by omega)).trans (hF q hq)
  simp only [↓gaW, ↓gaV, ↓gaC, ↓gaN, gaP, Nat.reduceEqDiff, Nat.reduceLeDiff, Nat.reduceAdd, Nat.reduceSub, Nat.reduceMul, Int.reduceLT, Int.reduceLE, Int.reduceEq, Int.reduceToNat, Int.reduceAdd, Int.reduceSub, Int.reduceMul, reduceCtorEq, ↓reduceIte]
  repeat refine And.intro (by omega) ?_
  refine callK_of (ct_Same r2 (by omega) r3) (fun v n6 g6 l6 k6 hC => ?_) (by omega)
  subst hC
  have r4 := r4.keep l6 k6
  have r5 := r5.keep l6 k6
  have hF : ∀ q, q < nx → g6 q = gt q := fun q hq => (k6 q (by omega)).trans (hF q hq)
  simp only [↓gaW, ↓gaV, ↓gaC, ↓gaN, gaP, Nat.reduceEqDiff, Nat.reduceLeDiff, Nat.reduceAdd, Nat.reduceSub, Nat.reduceMul, Int.reduceLT, Int.reduceLE, Int.reduceEq, Int.reduceToNat, Int.reduceAdd, Int.reduceSub, Int.reduceMul, reduceCtorEq, ↓reduceIte, decide_true]
  refine callK_of (ct_Same r4 (by omega) r5) (fun v n7 g7 l7 k7 hC => ?_) (by omega)
  subst hC
  have hF : ∀ q, q < nx → g7 q = gt q := fun q hq => (k7 q (by omega)).trans (hF q hq)
  simp only [↓gaW, ↓gaV, ↓gaC, ↓gaN, gaP, Nat.reduceEqDiff, Nat.reduceLeDiff, Nat.reduceAdd, Nat.reduceSub, Nat.reduceMul, Int.reduceLT, Int.reduceLE, Int.reduceEq, Int.reduceToNat, Int.reduceAdd, Int.reduceSub, Int.reduceMul, reduceCtorEq, ↓reduceIte, gaE, implies_true, Nat.le_refl, Int.sub_zero, Nat.sub_zero, Int.le_refl, true_or, or_true, decide_true]
  exact ⟨by omega, hF⟩

theorem bl_zero_iff {n : Nat} : bl n = 0 ↔ n = 0 := by
  constructor
  · intro h
    have := bl_le.1 (Nat.le_of_eq h)
    simpa using this
  · rintro rfl; rfl

theorem fn_Back {A B : Option Addr} {n m c d : Nat} {l k : List UInt32} (hA : Row nx gt 1 A n (l.map u32V)) (hc : n ≤ c) (hB : Row nx gt 1 B m (k.map u32V)) (hd : m ≤ d) :
    Ct Try.prog 10 [.slice A n c, .slice B m d] nx gt fun v _ _ => v = .bool true := by
  have hl : l.length = n := by simpa using hA.len
  have hk : k.length = m := by simpa using hB.len
  refine Ct.of hmx r_lanyardlaw08_ModuloBack (by simp [c_lanyardlaw08_ModuloBack]) fun b hb => ?_
  have hF : ∀ q, q < nx → gt q = gt q := fun _ _ => rfl
  simp only [c_lanyardlaw08_ModuloBack, ↓gaW, ↓gaV, ↓gaC, ↓gaN, gaP, Nat.reduceEqDiff, Nat.reduceLeDiff, Nat.reduceAdd, Nat.reduceSub, Nat.reduceMul, Int.reduceLT, Int.reduceLE, Int.reduceEq, Int.reduceToNat, Int.reduceAdd, Int.reduceSub, Int.reduceMul, reduceCtorEq, ↓reduceIte]
  refine callK_of ct_awake08 (fun v n1 g1 l1 k1 hC => ?_) (by omega)
  subst hC
  have hA := hA.keep l1 k1
  have hB := hB.keep l1 k1
  have hF : ∀ q, q < nx → g1 q = gt q := fun q hq => (k1 q (by omega)).trans (hF q hq)
  simp only [↓gaW, ↓gaV, ↓gaC, ↓gaN, gaP, Nat.reduceEqDiff, Nat.reduceLeDiff, Nat.reduceAdd, Nat.reduceSub, Nat.reduceMul, Int.reduceLT, Int.reduceLE, Int.reduceEq, Int.reduceToNat, Int.reduceAdd, Int.reduceSub, Int.reduceMul, reduceCtorEq, ↓reduceIte]
  by_cases g1 : (150 : Int) < (n : Int)
  · simp only [↓gaW, ↓gaV, ↓gaC, ↓gaN, gaP, Nat.reduceEqDiff, Nat.reduceLeDiff, Nat.reduceAdd, Nat.reduceSub, Nat.reduceMul, Int.reduceLT, Int.reduceLE, Int.reduceEq, Int.reduceToNat, Int.reduceAdd, Int.reduceSub, Int.reduceMul, reduceCtorEq, ↓reduceIte, gaE, implies_true, Nat.le_refl, Int.sub_zero, Nat.sub_zero, Int.le_refl, true_or, or_true, g1, decide_true]
    exact ⟨by omega, hF⟩
  by_cases g2 : (150 : Int) < (m : Int)
  · simp only [↓gaW, ↓gaV, ↓gaC, ↓gaN, gaP, Nat.reduceEqDiff, Nat.reduceLeDiff, Nat.reduceAdd, Nat.reduceSub, Nat.reduceMul, Int.reduceLT, Int.reduceLE, Int.reduceEq, Int.reduceToNat, Int.reduceAdd, Int.reduceSub, Int.reduceMul, reduceCtorEq, ↓reduceIte, gaE, implies_true, Nat.le_refl, Int.sub_zero, Nat.sub_zero, Int.le_refl, true_or, or_true, g1, g2, decide_true, decide_false]
    exact ⟨by omega, hF⟩
  simp only [↓gaW, ↓gaV, ↓gaC, ↓gaN, gaP, Nat.reduceEqDiff, Nat.reduceLeDiff, Nat.reduceAdd, Nat.reduceSub, Nat.reduceMul, Int.reduceLT, Int.reduceLE, Int.reduceEq, Int.reduceToNat, Int.reduceAdd, Int.reduceSub, Int.reduceMul, reduceCtorEq, ↓reduceIte, g1, g2, decide_false]
  refine callK_of (ct_DivMod hA hc (by omega) hB hd (by omega)) (fun v n2 g2 l2 k2 hC => ?_) (by omega)
  obtain ⟨A2, a2, c2, B2, b2, d2, rfl, hc2, hl2, r2, hd2, hm2, s2⟩ := hC.u
  have hA := hA.keep l2 k2
  have hB := hB.keep l2 k2
  have hF : ∀ q, q < nx → g2 q = gt q := fun q hq => (k2 q (by omega)).trans (hF q hq)
  simp only [↓gaW, ↓gaV, ↓gaC, ↓gaN, gaP, Nat.reduceEqDiff, Nat.reduceLeDiff, Nat.reduceAdd, Nat.reduceSub, Nat.reduceMul, Int.reduceLT, Int.reduceLE, Int.reduceEq, Int.reduceToNat, Int.reduceAdd, Int.reduceSub, Int.reduceMul, reduceCtorEq, ↓reduceIte]
  repeat refine And.intro (by omega) ?_
  refine callK_of (ct_Len hB hd (by omega)) (fun v n3 g3 l3 k3 hC => ?_) (by omega)
  subst hC
  have hA := hA.keep l3 k3
  have hB := hB.keep l3 k3
  have r2 := r2.keep l3 k3
  have s2 := s2.keep l3 k3
  have hF : ∀ q, q < nx → g3 q = gt q := fun q hq => (k3 q (by omega)).trans (hF q hq)
  simp only [↓gaW, ↓gaV, ↓gaC, ↓gaN, gaP, Nat.reduceEqDiff, Nat.reduceLeDiff, Nat.reduceAdd, Nat.reduceSub, Nat.reduceMul, Int.reduceLT, Int.reduceLE, Int.reduceEq, Int.reduceToNat, Int.reduceAdd, Int.reduceSub, Int.reduceMul, reduceCtorEq, ↓reduceIte]
  by_cases g3 : ((bl (lv k) : Nat) : Int) = 0
  · have k0 := bl_zero_iff.1 (show bl (lv k) = 0 by omega)
    rw [k0, Nat.div_zero, lb_zero] at hl2
    rw [k0, md_no, lb_zero] at hm2
    have hl2 : 0 = a2 := hl2
    have hm2 : 0 = b2 := hm2
    subst hl2 hm2
    have k1 : decide (lv k ≠ 0) = false := decide_eq_false (fun h => h k0)
    simp only [↓gaW, ↓gaV, ↓gaC, ↓gaN, gaP, Nat.reduceEqDiff, Nat.reduceLeDiff, Nat.reduceAdd, Nat.reduceSub, Nat.reduceMul, Int.reduceLT, Int.reduceLE, Int.reduceEq, Int.reduceToNat, Int.reduceAdd, Int.reduceSub, Int.reduceMul, reduceCtorEq, ↓reduceIte, gaE, implies_true, Nat.le_refl, Int.sub_zero, Nat.sub_zero, Int.le_refl, true_or, or_true, g3, decide_true, k1, decide_false, Bool.not_false]
    repeat refine And.intro (by first | omega | (simp; done) | (simp; omega) | exact all1 rfl) ?_
    exact hF
  have k0 : lv k ≠ 0 := fun h => g3 (by rw [h]; rfl)
  have k1 : decide (lv k ≠ 0) = true := decide_eq_true k0
  simp only [↓gaW, ↓gaV, ↓gaC, ↓gaN, gaP, Nat.reduceEqDiff, Nat.reduceLeDiff, Nat.reduceAdd, Nat.reduceSub, Nat.reduceMul, Int.reduceLT, Int.reduceLE, Int.reduceEq, Int.reduceToNat, Int.reduceAdd, Int.reduceSub, Int.reduceMul, reduceCtorEq, ↓reduceIte, g3, decide_false]
  have z1 : (lb (lv l / lv k)).length ≤ n := lb_len_le.2 (Nat.lt_of_le_of_lt (Nat.div_le_self _ _) (lv_lt' (by omega)))
  have z2 : (lb (md (lv l) (lv k))).length ≤ n := lb_len_le.2 (Nat.lt_of_le_of_lt (by unfold md; split <;> first | omega | exact Nat.mod_le _ _) (lv_lt' (Nat.le_of_eq hl)))
  have z3 : (lb (lv l)).length ≤ n := lb_len_le.2 (lv_lt' (Nat.le_of_eq hl))
  have z4 : (lb (lv (lb (lv l / lv k)) * lv k)).length ≤ n := by
    rw [lv_lb]
    exact lb_len_le.2 (Nat.lt_of_le_of_lt (Nat.div_mul_le_self _ _) (lv_lt' (by omega)))
  refine callK_of (ct_Mul r2 (by omega) hB (by omega)) (fun v n4 g4 l4 k4 hC => ?_) (by omega)
  obtain ⟨A4, a4, c4, rfl, hc4, hl4, r4⟩ := hC
  have hA := hA.keep l4 k4
  have hB := hB.keep l4 k4
  have s2 := s2.keep l4 k4
  have hF : ∀ q, q < nx → g4 q = gt q := fun q hq => (k4 q (by omega)).trans (hF q hq)
  simp only [↓gaW, ↓gaV, ↓gaC, ↓gaN, gaP, Nat.reduceEqDiff, Nat.reduceLeDiff, Nat.reduceAdd, Nat.reduceSub, Nat.reduceMul, Int.reduceLT, Int.reduceLE, Int.reduceEq, Int.reduceToNat, Int.reduceAdd, Int.reduceSub, Int.reduceMul, reduceCtorEq, ↓reduceIte]
  refine callK_of (ct_Add r4 (by omega) s2 (by omega)) (fun v n5 g5 l5 k5 hC => ?_) (by omega)
  obtain ⟨A5, a5, c5, rfl, hc5, hl5, r5⟩ := hC
  have hA := hA.keep l5 k5
  have hB := hB.keep l5 k5
  have s2 := s2.keep l5 k5
  have hF : ∀ q, q < nx → g5 q = gt q := fun q hq => (k5 q (by omega)).trans (hF q hq)
  simp only [↓gaW, ↓gaV, ↓gaC, ↓gaN, gaP, Nat.reduceEqDiff, Nat.reduceLeDiff, Nat.reduceAdd, Nat.reduceSub, Nat.reduceMul, Int.reduceLT, Int.reduceLE, Int.reduceEq, Int.reduceToNat, Int.reduceAdd, Int.reduceSub, Int.reduceMul, reduceCtorEq, ↓reduceIte]
  rw [lv_lb, lv_lb, lv_lb, md_is k0, Nat.mul_comm, Nat.div_add_mod] at r5 hl5
  refine callK_of (ct_Bare hA hc (by omega)) (fun v n6 g6 l6 k6 hC => ?_) (by omega)
  obtain ⟨A6, a6, c6, rfl, hc6, hl6, r6⟩ := hC
  have hA := hA.keep l6 k6
  have hB := hB.keep l6 k6
  have r5 := r5.keep l6 k6
  have s2 := s2.keep l6 k6
  have hF : ∀ q, q < nx → g6 q = gt q := fun q hq => (k6 q (by omega)).trans (hF q hq)
  simp only [↓gaW, ↓gaV, ↓gaC, ↓gaN, gaP, Nat.reduceEqDiff, Nat.reduceLeDiff, Nat.reduceAdd, Nat.reduceSub, Nat.reduceMul, Int.reduceLT, Int.reduceLE, Int.reduceEq, Int.reduceToNat, Int.reduceAdd, Int.reduceSub, Int.reduceMul, reduceCtorEq, ↓reduceIte]
  refine callK_of (ct_Same r5 (by omega) r6) (fun v n7 g7 l7 k7 hC => ?_) (by omega)
  subst hC
  have hB := hB.keep l7 k7
  have s2 := s2.keep l7 k7
  have hF : ∀ q, q < nx → g7 q = gt q := fun q hq => (k7 q (by omega)).trans (hF q hq)
  simp only [↓gaW, ↓gaV, ↓gaC, ↓gaN, gaP, Nat.reduceEqDiff, Nat.reduceLeDiff, Nat.reduceAdd, Nat.reduceSub, Nat.reduceMul, Int.reduceLT, Int.reduceLE, Int.reduceEq, Int.reduceToNat, Int.reduceAdd, Int.reduceSub, Int.reduceMul, reduceCtorEq, ↓reduceIte, decide_true, k1]
  refine callK_of (ct_Cmp s2 hd2 (by omega) hB hd (by omega)) (fun v n8 g8 l8 k8 hC => ?_) (by omega)
  subst hC
  have hB := hB.keep l8 k8
  have hF : ∀ q, q < nx → g8 q = gt q := fun q hq => (k8 q (by omega)).trans (hF q hq)
  simp only [↓gaW, ↓gaV, ↓gaC, ↓gaN, gaP, Nat.reduceEqDiff, Nat.reduceLeDiff, Nat.reduceAdd, Nat.reduceSub, Nat.reduceMul, Int.reduceLT, Int.reduceLE, Int.reduceEq, Int.reduceToNat, Int.reduceAdd, Int.reduceSub, Int.reduceMul, reduceCtorEq, ↓reduceIte]
  have hcm : cmpI ((lv (lb (md (lv l) (lv k))) : Nat) : Int) ((lv k : Nat) : Int) < 0 := by
    rw [lv_lb, md_is k0]
    have := Nat.mod_lt (lv l) (show lv k > 0 by omega)
    rw [cmpI_neg]
    omega
  simp only [↓gaW, ↓gaV, ↓gaC, ↓gaN, gaP, Nat.reduceEqDiff, Nat.reduceLeDiff, Nat.reduceAdd, Nat.reduceSub, Nat.reduceMul, Int.reduceLT, Int.reduceLE, Int.reduceEq, Int.reduceToNat, Int.reduceAdd, Int.reduceSub, Int.reduceMul, reduceCtorEq, ↓reduceIte, gaE, implies_true, Nat.le_refl, Int.sub_zero, Nat.sub_zero, Int.le_refl, true_or, or_true, hcm, decide_true]
  exact ⟨by omega, hF⟩

theorem fn_Made {A B E : Option Addr} {n m h c d e : Nat} {l k t : List UInt32} (hA : Row nx gt 1 A n (l.map u32V)) (hc : n ≤ c) (hB : Row nx gt 1 B m (k.map u32V)) (hd : m ≤ d) (hE : Row nx gt 1 E h (t.map u32V)) (he : h ≤ e) :
    Ct Try.prog 11 [.slice A n c, .slice B m d, .slice E h e] nx gt fun v _ _ => v = .bool true := by
  have hl : l.length = n := by simpa using hA.len
  have hk : k.length = m := by simpa using hB.len
  have ht : t.length = h := by simpa using hE.len
  refine Ct.of hmx r_lanyardlaw08_ModuloMade (by simp [c_lanyardlaw08_ModuloMade]) fun b hb => ?_
  have hF : ∀ q, q < nx → gt q = gt q := fun _ _ => rfl
  simp only [c_lanyardlaw08_ModuloMade, ↓gaW, ↓gaV, ↓gaC, ↓gaN, gaP, Nat.reduceEqDiff, Nat.reduceLeDiff, Nat.reduceAdd, Nat.reduceSub, Nat.reduceMul, Int.reduceLT, Int.reduceLE, Int.reduceEq, Int.reduceToNat, Int.reduceAdd, Int.reduceSub, Int.reduceMul, reduceCtorEq, ↓reduceIte]
  refine callK_of ct_awake08 (fun v n1 g1 l1 k1 hC => ?_) (by omega)
  subst hC
  have hA := hA.keep l1 k1
  have hB := hB.keep l1 k1
  have hE := hE.keep l1 k1
  have hF : ∀ q, q < nx → g1 q = gt q := fun q hq => (k1 q (by omega)).trans (hF q hq)
  simp only [↓gaW, ↓gaV, ↓gaC, ↓gaN, gaP, Nat.reduceEqDiff, Nat.reduceLeDiff, Nat.reduceAdd, Nat.reduceSub, Nat.reduceMul, Int.reduceLT, Int.reduceLE, Int.reduceEq, Int.reduceToNat, Int.reduceAdd, Int.reduceSub, Int.reduceMul, reduceCtorEq, ↓reduceIte]
  by_cases g1 : (60 : Int) < (n : Int)
  · simp only [↓gaW, ↓gaV, ↓gaC, ↓gaN, gaP, Nat.reduceEqDiff, Nat.reduceLeDiff, Nat.reduceAdd, Nat.reduceSub, Nat.reduceMul, Int.reduceLT, Int.reduceLE, Int.reduceEq, Int.reduceToNat, Int.reduceAdd, Int.reduceSub, Int.reduceMul, reduceCtorEq, ↓reduceIte, gaE, implies_true, Nat.le_refl, Int.sub_zero, Nat.sub_zero, Int.le_refl, true_or, or_true, g1, decide_true]
    exact ⟨by omega, hF⟩
  by_cases g2 : (60 : Int) < (m : Int)
  · simp only [↓gaW, ↓gaV, ↓gaC, ↓gaN, gaP, Nat.reduceEqDiff, Nat.reduceLeDiff, Nat.reduceAdd, Nat.reduceSub, Nat.reduceMul, Int.reduceLT, Int.reduceLE, Int.reduceEq, Int.reduceToNat, Int.reduceAdd, Int.reduceSub, Int.reduceMul, reduceCtorEq, ↓reduceIte, gaE, implies_true, Nat.le_refl, Int.sub_zero, Nat.sub_zero, Int.le_refl, true_or, or_true, g1, g2, decide_true, decide_false]
    exact ⟨by omega, hF⟩
  by_cases g3 : (60 : Int) < (h : Int)
  · simp only [↓gaW, ↓gaV, ↓gaC, ↓gaN, gaP, Nat.reduceEqDiff, Nat.reduceLeDiff, Nat.reduceAdd, Nat.reduceSub, Nat.reduceMul, Int.reduceLT, Int.reduceLE, Int.reduceEq, Int.reduceToNat, Int.reduceAdd, Int.reduceSub, Int.reduceMul, reduceCtorEq, ↓reduceIte, gaE, implies_true, Nat.le_refl, Int.sub_zero, Nat.sub_zero, Int.le_refl, true_or, or_true, g1, g2, g3, decide_true, decide_false]
    exact ⟨by omega, hF⟩
  simp only [↓gaW, ↓gaV, ↓gaC, ↓gaN, gaP, Nat.reduceEqDiff, Nat.reduceLeDiff, Nat.reduceAdd, Nat.reduceSub, Nat.reduceMul, Int.reduceLT, Int.reduceLE, Int.reduceEq, Int.reduceToNat, Int.reduceAdd, Int.reduceSub, Int.reduceMul, reduceCtorEq, ↓reduceIte, g1, g2, g3, decide_false]
  refine callK_of (ct_Cmp hB hd (by omega) hE he (by omega)) (fun v n2 g2 l2 k2 hC => ?_) (by omega)
  subst hC
  have hA := hA.keep l2 k2
  have hB := hB.keep l2 k2
  have hE := hE.keep l2 k2
  have hF : ∀ q, q < nx → g2 q = gt q := fun q hq => (k2 q (by omega)).trans (hF q hq)
  simp only [↓gaW, ↓gaV, ↓gaC, ↓gaN, gaP, Nat.reduceEqDiff, Nat.reduceLeDiff, Nat.reduceAdd, Nat.reduceSub, Nat.reduceMul, Int.reduceLT, Int.reduceLE, Int.reduceEq, Int.reduceToNat, Int.reduceAdd, Int.reduceSub, Int.reduceMul, reduceCtorEq, ↓reduceIte]
  by_cases g4 : (0 : Int) ≤ cmpI ((lv k : Nat) : Int) ((lv t : Nat) : Int)
  · simp only [↓gaW, ↓gaV, ↓gaC, ↓gaN, gaP, Nat.reduceEqDiff, Nat.reduceLeDiff, Nat.reduceAdd, Nat.reduceSub, Nat.reduceMul, Int.reduceLT, Int.reduceLE, Int.reduceEq, Int.reduceToNat, Int.reduceAdd, Int.reduceSub, Int.reduceMul, reduceCtorEq, ↓reduceIte, gaE, implies_true, Nat.le_refl, Int.sub_zero, Nat.sub_zero, Int.le_refl, true_or, or_true, g4, decide_true]
    exact ⟨by omega, hF⟩
  have hlt : lv k < lv t := by
    have := (cmpI_neg _ _).1 (show cmpI ((lv k : Nat) : Int) ((lv t : Nat) : Int) < 0 by omega)
    omega
  simp only [↓gaW, ↓gaV, ↓gaC, ↓gaN, gaP, Nat.reduceEqDiff, Nat.reduceLeDiff, Nat.reduceAdd, Nat.reduceSub, Nat.reduceMul, Int.reduceLT, Int.reduceLE, Int.reduceEq, Int.reduceToNat, Int.reduceAdd, Int.reduceSub, Int.reduceMul, reduceCtorEq, ↓reduceIte, g4, decide_false]
  have z1 : (lb (lv l * lv t)).length ≤ n + h := lb_len_le.2 (lt_mul (lv_lt' (by omega)) (lv_lt' (by omega)))
  have z2 : (lb (lv l)).length ≤ n := lb_len_le.2 (lv_lt' (Nat.le_of_eq hl))
  have z3 : (lb (lv k)).length ≤ m := lb_len_le.2 (lv_lt' (Nat.le_of_eq hk))
  refine callK_of (ct_Mul hA (by omega) hE (by omega)) (fun v n3 g3 l3 k3 hC => ?_) (by omega)
  obtain ⟨A3, a3, c3, rfl, hc3, hl3, r3⟩ := hC
  have hA := hA.keep l3 k3
  have hB := hB.keep l3 k3
  have hE := hE.keep l3 k3
  have hF : ∀ q, q < nx → g3 q = gt q := fun q hq => (k3 q (by omega)).trans (hF q hq)
  simp only [↓gaW, ↓gaV, ↓gaC, ↓gaN, gaP, Nat.reduceEqDiff, Nat.reduceLeDiff, Nat.reduceAdd, Nat.reduceSub, Nat.reduceMul, Int.reduceLT, Int.reduceLE, Int.reduceEq, Int.reduceToNat, Int.reduceAdd, Int.reduceSub, Int.reduceMul, reduceCtorEq, ↓reduceIte]
  have z4 : (lb (lv (lb (lv l * lv t)) + lv k)).length ≤ n + h + 1 := by
    rw [lv_lb]
    have h1 := lt_mul (lv_lt' (Nat.le_of_eq hl)) (lv_lt' (Nat.le_of_eq ht))
    exact lb_len_le.2 (lt_add h1 (Nat.lt_of_lt_of_le hlt (by
      have := lt_up (lv_lt' (Nat.le_of_eq ht)) (show h ≤ n + h by omega)
      omega)))
  refine callK_of (ct_Add r3 (by omega) hB (by omega)) (fun v n4 g4 l4 k4 hC => ?_) (by omega)
  obtain ⟨A4, a4, c4, rfl, hc4, hl4, r4⟩ := hC
  have hA := hA.keep l4 k4
  have hB := hB.keep l4 k4
  have hE := hE.keep l4 k4
  have hF : ∀ q, q < nx → g4 q = gt q := fun q hq => (k4 q (by omega)).trans (hF q hq)
  simp only [↓gaW, ↓gaV, ↓gaC, ↓gaN, gaP, Nat.reduceEqDiff, Nat.reduceLeDiff, Nat.reduceAdd, Nat.reduceSub, Nat.reduceMul, Int.reduceLT, Int.reduceLE, Int.reduceEq, Int.reduceToNat, Int.reduceAdd, Int.reduceSub, Int.reduceMul, reduceCtorEq, ↓reduceIte]
  refine callK_of (ct_DivMod r4 hc4 (by omega) hE he (by omega)) (fun v n5 g5 l5 k5 hC => ?_) (by omega)
  obtain ⟨A5, a5, c5, B5, b5, d5, rfl, hc5, hl5, r5, hd5, hm5, s5⟩ := hC.u
  have hA := hA.keep l5 k5
  have hB := hB.keep l5 k5
  have hE := hE.keep l5 k5
  have hF : ∀ q, q < nx → g5 q = gt q := fun q hq => (k5 q (by omega)).trans (hF q hq)
  simp only [↓gaW, ↓gaV, ↓gaC, ↓gaN, gaP, Nat.reduceEqDiff, Nat.reduceLeDiff, Nat.reduceAdd, Nat.reduceSub, Nat.reduceMul, Int.reduceLT, Int.reduceLE, Int.reduceEq, Int.reduceToNat, Int.reduceAdd, Int.reduceSub, Int.reduceMul, reduceCtorEq, ↓reduceIte]
  repeat refine And.intro (by omega) ?_
  have e1 : (lv l * lv t + lv k) / lv t = lv l := by
    rw [Nat.mul_comm, Nat.mul_add_div (by omega), Nat.div_eq_of_lt hlt, Nat.add_zero]
  have e2 : md (lv l * lv t + lv k) (lv t) = lv k := by
    rw [md_is (by omega), Nat.mul_comm, Nat.mul_add_mod, Nat.mod_eq_of_lt hlt]
  rw [lv_lb, lv_lb, e1] at r5 hl5
  rw [lv_lb, lv_lb, e2] at s5 hm5
  refine callK_of (ct_Bare hA hc (by omega)) (fun v n6 g6 l6 k6 hC => ?_) (by omega)
  obtain ⟨A6, a6, c6, rfl, hc6, hl6, r6⟩ := hC
  have hB := hB.keep l6 k6
  have r5 := r5.keep l6 k6
  have s5 := s5.keep l6 k6
  have hF : ∀ q, q < nx → g6 q = gt q := fun q hq => (k6 q (by omega)).trans (hF q hq)
  simp only [↓gaW, ↓gaV, ↓gaC, ↓gaN, gaP, Nat.reduceEqDiff, Nat.reduceLeDiff, Nat.reduceAdd, Nat.reduceSub, Nat.reduceMul, Int.reduceLT, Int.reduceLE, Int.reduceEq, Int.reduceToNat, Int.reduceAdd, Int.reduceSub, Int.reduceMul, reduceCtorEq, ↓reduceIte]
  refine callK_of (ct_Same r5 (by omega) r6) (fun v n7 g7 l7 k7 hC => ?_) (by omega)
  subst hC
  have hB := hB.keep l7 k7
  have s5 := s5.keep l7 k7
  have hF : ∀ q, q < nx → g7 q = gt q := fun q hq => (k7 q (by omega)).trans (hF q hq)
  simp only [↓gaW, ↓gaV, ↓gaC, ↓gaN, gaP, Nat.reduceEqDiff, Nat.reduceLeDiff, Nat.reduceAdd, Nat.reduceSub, Nat.reduceMul, Int.reduceLT, Int.reduceLE, Int.reduceEq, Int.reduceToNat, Int.reduceAdd, Int.reduceSub, Int.reduceMul, reduceCtorEq, ↓reduceIte, decide_true]
  refine callK_of (ct_Bare hB hd (by omega)) (fun v n8 g8 l8 k8 hC => ?_) (by omega)
  obtain ⟨A8, a8, c8, rfl, hc8, hl8, r8⟩ := hC
  have s5 := s5.keep l8 k8
  have hF : ∀ q, q < nx → g8 q = gt q := fun q hq => (k8 q (by omega)).trans (hF q hq)
  simp only [↓gaW, ↓gaV, ↓gaC, ↓gaN, gaP, Nat.reduceEqDiff, Nat.reduceLeDiff, Nat.reduceAdd, Nat.reduceSub, Nat.reduceMul, Int.reduceLT, Int.reduceLE, Int.reduceEq, Int.reduceToNat, Int.reduceAdd, Int.reduceSub, Int.reduceMul, reduceCtorEq, ↓reduceIte]
  refine callK_of (ct_Same s5 (by omega) r8) (fun v n9 g9 l9 k9 hC => ?_) (by omega)
  subst hC
  have hF : ∀ q, q < nx → g9 q = gt q := fun q hq => (k9 q (by omega)).trans (hF q hq)
  simp only [↓gaW, ↓gaV, ↓gaC, ↓gaN, gaP, Nat.reduceEqDiff, Nat.reduceLeDiff, Nat.reduceAdd, Nat.reduceSub, Nat.reduceMul, Int.reduceLT, Int.reduceLE, Int.reduceEq, Int.reduceToNat, Int.reduceAdd, Int.reduceSub, Int.reduceMul, reduceCtorEq, ↓reduceIte, gaE, implies_true, Nat.le_refl, Int.sub_zero, Nat.sub_zero, Int.le_refl, true_or, or_true, decide_true, show lv t ≠ 0 by omega, ne_eq, not_false_eq_true]
  exact ⟨by omega, hF⟩
end
end Go.Ga

namespace Go.Ga
open Go Go.Proofs
set_option linter.unusedSimpArgs false
set_option linter.unusedVariables false
set_option maxRecDepth 100000
attribute [local irreducible] appendK

section
variable {nx : Nat} {gt : Nat → Option Blk}

theorem fn_Goes {A B E : Option Addr} {n m h c d e x y : Nat} {l k t : List UInt32} (hA : Row nx gt 1 A n (l.map u32V)) (hc : n ≤ c) (hB : Row nx gt 1 B m (k.map u32V)) (hd : m ≤ d) (hE : Row nx gt 1 E h (t.map u32V)) (he : h ≤ e) (hx : x < 4294967296) (hy : y < 4294967296) :
    Ct Try.prog 12 [.agg #[.slice A n c, .slice B m d], .slice E h e, .agg #[.int .u32 (x : Nat), .int .u32 (y : Nat)]] nx gt fun v _ _ => v = .bool true := by
  have hl : l.length = n := by simpa using hA.len
  have hk : k.length = m := by simpa using hB.len
  have ht : t.length = h := by simpa using hE.len
  refine Ct.of hmx r_lanyardlaw08_ModuloGoes (by simp [c_lanyardlaw08_ModuloGoes]) fun b hb => ?_
  have hF : ∀ q, q < nx → gt q = gt q := fun _ _ => rfl
  simp only [c_lanyardlaw08_ModuloGoes, ↓gaW, ↓gaV, ↓gaC, ↓gaN, gaP, Nat.reduceEqDiff, Nat.reduceLeDiff, Nat.reduceAdd, Nat.reduceSub, Nat.reduceMul, Int.reduceLT, Int.reduceLE, Int.reduceEq, Int.reduceToNat, Int.reduceAdd, Int.reduceSub, Int.reduceMul, reduceCtorEq, ↓reduceIte, List.getD_cons_zero, List.getD_cons_succ, fillL, splice, List.take_zero, List.drop_zero, List.drop_succ_cons, List.take_succ_cons, List.drop_nil, List.take_nil]
  obtain ⟨g0, hg0⟩ : ∃ g0, upd (upd gt nx (some (.cells [.slice A n c, .slice B m d] false))) (nx + 1) (some (.cells [.int .u32 (x : Nat), .int .u32 (y : Nat)] false)) = g0 := ⟨_, rfl⟩
  have hF : ∀ q, q < nx → g0 q = gt q := fun q hq => by rw [← hg0, upd_e, if_neg (by omega), upd_e, if_neg (by omega)]
  have gn : g0 nx = some (.cells [.slice A n c, .slice B m d] false) := by rw [← hg0]; simp [upd]
  have gm : g0 (nx + 1) = some (.cells (([UInt32.ofNat x, UInt32.ofNat y] : List UInt32).map u32V) false) := by
    rw [← hg0]; simp only [upd_e, if_true, List.map_cons, List.map_nil, ← u32V_lt hx, ← u32V_lt hy]
  have hX : Row (nx + 1 + 1) g0 1 (some ⟨nx + 1, 0, none⟩) 2 (([UInt32.ofNat x, UInt32.ofNat y] : List UInt32).map u32V) := Row.w32 (ro := false) (by omega) gm rfl
  have h1 : Row (nx + 1 + 1) g0 1 (some ⟨nx + 1, 0, none⟩) 1 (([UInt32.ofNat x] : List UInt32).map u32V) := hX.part (lo := 0) (hi := 1) (by omega) (by omega) rfl
  have h2 : Row (nx + 1 + 1) g0 1 (some ⟨nx + 1, 1, none⟩) 1 (([UInt32.ofNat y] : List UInt32).map u32V) := hX.part (lo := 1) (hi := 2) (by omega) (by omega) rfl
  have hA := hA.keep (nx' := nx + 1 + 1) (by omega) hF
  have hB := hB.keep (nx' := nx + 1 + 1) (by omega) hF
  have hE := hE.keep (nx' := nx + 1 + 1) (by omega) hF
  rw [hg0]
  refine callK_of ct_awake08 (fun v n1 g1 l1 k1 hC => ?_) (by omega)
  subst hC
  have hA := hA.keep l1 k1
  have hB := hB.keep l1 k1
  have hE := hE.keep l1 k1
  have h1 := h1.keep l1 k1
  have h2 := h2.keep l1 k1
  have hF : ∀ q, q < nx → g1 q = gt q := fun q hq => (k1 q (by omega)).trans (hF q hq)
  have gn := (k1 nx (by omega)).trans gn
  simp only [↓gaW, ↓gaV, ↓gaC, ↓gaN, gaP, Nat.reduceEqDiff, Nat.reduceLeDiff, Nat.reduceAdd, Nat.reduceSub, Nat.reduceMul, Int.reduceLT, Int.reduceLE, Int.reduceEq, Int.reduceToNat, Int.reduceAdd, Int.reduceSub, Int.reduceMul, reduceCtorEq, ↓reduceIte, List.getD_cons_zero, List.getD_cons_succ, fillL, splice, List.take_zero, List.drop_zero, List.drop_succ_cons, List.take_succ_cons, List.drop_nil, List.take_nil, gn]
  repeat refine And.intro (by first | omega | (simp; done) | (simp; omega) | exact all1 rfl) ?_
  by_cases g1 : (20 : Int) < (n : Int)
  · simp only [↓gaW, ↓gaV, ↓gaC, ↓gaN, gaP, Nat.reduceEqDiff, Nat.reduceLeDiff, Nat.reduceAdd, Nat.reduceSub, Nat.reduceMul, Int.reduceLT, Int.reduceLE, Int.reduceEq, Int.reduceToNat, Int.reduceAdd, Int.reduceSub, Int.reduceMul, reduceCtorEq, ↓reduceIte, gaE, implies_true, Nat.le_refl, Int.sub_zero, Nat.sub_zero, Int.le_refl, true_or, or_true, g1, decide_true]
    exact ⟨by omega, hF⟩
  by_cases g2 : (20 : Int) < (m : Int)
  · simp only [↓gaW, ↓gaV, ↓gaC, ↓gaN, gaP, Nat.reduceEqDiff, Nat.reduceLeDiff, Nat.reduceAdd, Nat.reduceSub, Nat.reduceMul, Int.reduceLT, Int.reduceLE, Int.reduceEq, Int.reduceToNat, Int.reduceAdd, Int.reduceSub, Int.reduceMul, reduceCtorEq, ↓reduceIte, gaE, implies_true, Nat.le_refl, Int.sub_zero, Nat.sub_zero, Int.le_refl, true_or, or_true, g1, g2, decide_true, decide_false]
    exact ⟨by omega, hF⟩
  by_cases g3 : (20 : Int) < (h : Int)
  · simp only [↓gaW, ↓gaV, ↓gaC, ↓gaN, gaP, Nat.reduceEqDiff, Nat.reduceLeDiff, Nat.reduceAdd, Nat.reduceSub, Nat.reduceMul, Int.reduceLT, Int.reduceLE, Int.reduceEq, Int.reduceToNat, Int.reduceAdd, Int.reduceSub, Int.reduceMul, reduceCtorEq, ↓reduceIte, gaE, implies_true, Nat.le_refl, Int.sub_zero, Nat.sub_zero, Int.le_refl, true_or, or_true, g1, g2, g3, decide_true, decide_false]
    exact ⟨by omega, hF⟩
  simp only [↓gaW, ↓gaV, ↓gaC, ↓gaN, gaP, Nat.reduceEqDiff, Nat.reduceLeDiff, Nat.reduceAdd, Nat.reduceSub, Nat.reduceMul, Int.reduceLT, Int.reduceLE, Int.reduceEq, Int.reduceToNat, Int.reduceAdd, Int.reduceSub, Int.reduceMul, reduceCtorEq, ↓reduceIte, g1, g2, g3, decide_false]
  refine callK_of (ct_Len hE he (by omega)) (fun v n2 g2 l2 k2 hC => ?_) (by omega)
  subst hC
  have hA := hA.keep l2 k2
  have hB := hB.keep l2 k2
  have hE := hE.keep l2 k2
  have h1 := h1.keep l2 k2
  have h2 := h2.keep l2 k2
  have hF : ∀ q, q < nx → g2 q = gt q := fun q hq => (k2 q (by omega)).trans (hF q hq)
  simp only [↓gaW, ↓gaV, ↓gaC, ↓gaN, gaP, Nat.reduceEqDiff, Nat.reduceLeDiff, Nat.reduceAdd, Nat.reduceSub, Nat.reduceMul, Int.reduceLT, Int.reduceLE, Int.reduceEq, Int.reduceToNat, Int.reduceAdd, Int.reduceSub, Int.reduceMul, reduceCtorEq, ↓reduceIte]
  by_cases g4 : ((bl (lv t) : Nat) : Int) = 0
  · simp only [↓gaW, ↓gaV, ↓gaC, ↓gaN, gaP, Nat.reduceEqDiff, Nat.reduceLeDiff, Nat.reduceAdd, Nat.reduceSub, Nat.reduceMul, Int.reduceLT, Int.reduceLE, Int.reduceEq, Int.reduceToNat, Int.reduceAdd, Int.reduceSub, Int.reduceMul, reduceCtorEq, ↓reduceIte, gaE, implies_true, Nat.le_refl, Int.sub_zero, Nat.sub_zero, Int.le_refl, true_or, or_true, g4, decide_true]
    exact ⟨by omega, hF⟩
  have t0 : lv t ≠ 0 := fun h => g4 (by rw [h]; rfl)
  have z0 : ∀ x, (lb (md x (lv t))).length ≤ h := fun x => lb_len_le.2 (by
    have h1 := lv_lt' (Nat.le_of_eq ht)
    rw [md_is t0]
    exact Nat.lt_trans (Nat.mod_lt _ (by omega)) h1)
  have z1 := z0 (lv l)
  have z2 := z0 (lv k)
  have z3 := z0 (lv l * lv k)
  simp only [↓gaW, ↓gaV, ↓gaC, ↓gaN, gaP, Nat.reduceEqDiff, Nat.reduceLeDiff, Nat.reduceAdd, Nat.reduceSub, Nat.reduceMul, Int.reduceLT, Int.reduceLE, Int.reduceEq, Int.reduceToNat, Int.reduceAdd, Int.reduceSub, Int.reduceMul, reduceCtorEq, ↓reduceIte, g4, decide_false]
  refine callK_of (ct_DivMod hA hc (by omega) hE he (by omega)) (fun v n3 g3 l3 k3 hC => ?_) (by omega)
  obtain ⟨A3, a3, c3, B3, b3, d3, rfl, hc3, hl3, r3, hd3, hm3, s3⟩ := hC.u
  have hA := hA.keep l3 k3
  have hB := hB.keep l3 k3
  have hE := hE.keep l3 k3
  have h1 := h1.keep l3 k3
  have h2 := h2.keep l3 k3
  have hF : ∀ q, q < nx → g3 q = gt q := fun q hq => (k3 q (by omega)).trans (hF q hq)
  simp only [↓gaW, ↓gaV, ↓gaC, ↓gaN, gaP, Nat.reduceEqDiff, Nat.reduceLeDiff, Nat.reduceAdd, Nat.reduceSub, Nat.reduceMul, Int.reduceLT, Int.reduceLE, Int.reduceEq, Int.reduceToNat, Int.reduceAdd, Int.reduceSub, Int.reduceMul, reduceCtorEq, ↓reduceIte]
  repeat refine And.intro (by omega) ?_
  refine callK_of (ct_DivMod hB hd (by omega) hE he (by omega)) (fun v n4 g4 l4 k4 hC => ?_) (by omega)
  obtain ⟨A4, a4, c4, B4, b4, d4, rfl, hc4, hl4, r4, hd4, hm4, s4⟩ := hC.u
  have hA := hA.keep l4 k4
  have hB := hB.keep l4 k4
  have hE := hE.keep l4 k4
  have h1 := h1.keep l4 k4
  have h2 := h2.keep l4 k4
  have s3 := s3.keep l4 k4
  have hF : ∀ q, q < nx → g4 q = gt q := fun q hq => (k4 q (by omega)).trans (hF q hq)
  simp only [↓gaW, ↓gaV, ↓gaC, ↓gaN, gaP, Nat.reduceEqDiff, Nat.reduceLeDiff, Nat.reduceAdd, Nat.reduceSub, Nat.reduceMul, Int.reduceLT, Int.reduceLE, Int.reduceEq, Int.reduceToNat, Int.reduceAdd, Int.reduceSub, Int.reduceMul, reduceCtorEq, ↓reduceIte]
  repeat refine And.intro (by omega) ?_
  refine callK_of (ct_mMul hA (by omega) hB (by omega) hE he (by omega)) (fun v n5 g5 l5 k5 hC => ?_) (by omega)
  obtain ⟨A5, a5, c5, rfl, hc5, hl5, r5⟩ := hC.u
  have hA := hA.keep l5 k5
  have hB := hB.keep l5 k5
  have hE := hE.keep l5 k5
  have h1 := h1.keep l5 k5
  have h2 := h2.keep l5 k5
  have s3 := s3.keep l5 k5
  have s4 := s4.keep l5 k5
  have hF : ∀ q, q < nx → g5 q = gt q := fun q hq => (k5 q (by omega)).trans (hF q hq)
  simp only [↓gaW, ↓gaV, ↓gaC, ↓gaN, gaP, Nat.reduceEqDiff, Nat.reduceLeDiff, Nat.reduceAdd, Nat.reduceSub, Nat.reduceMul, Int.reduceLT, Int.reduceLE, Int.reduceEq, Int.reduceToNat, Int.reduceAdd, Int.reduceSub, Int.reduceMul, reduceCtorEq, ↓reduceIte]
  repeat refine And.intro (by omega) ?_
  refine callK_of (ct_mMul s3 (by omega) s4 (by omega) hE he (by omega)) (fun v n6 g6 l6 k6 hC => ?_) (by omega)
  obtain ⟨A6, a6, c6, rfl, hc6, hl6, r6⟩ := hC.u
  have hA := hA.keep l6 k6
  have hB := hB.keep l6 k6
  have hE := hE.keep l6 k6
  have h1 := h1.keep l6 k6
  have h2 := h2.keep l6 k6
  have r5 := r5.keep l6 k6
  have hF : ∀ q, q < nx → g6 q = gt q := fun q hq => (k6 q (by omega)).trans (hF q hq)
  simp only [↓gaW, ↓gaV, ↓gaC, ↓gaN, gaP, Nat.reduceEqDiff, Nat.reduceLeDiff, Nat.reduceAdd, Nat.reduceSub, Nat.reduceMul, Int.reduceLT, Int.reduceLE, Int.reduceEq, Int.reduceToNat, Int.reduceAdd, Int.reduceSub, Int.reduceMul, reduceCtorEq, ↓reduceIte]
  repeat refine And.intro (by omega) ?_
  rw [lv_lb, lv_lb] at r6
  refine callK_of (ct_Same r5 (by omega) r6) (fun v n7 g7 l7 k7 hC => ?_) (by omega)
  subst hC
  have hA := hA.keep l7 k7
  have hB := hB.keep l7 k7
  have hE := hE.keep l7 k7
  have h1 := h1.keep l7 k7
  have h2 := h2.keep l7 k7
  have hF : ∀ q, q < nx → g7 q = gt q := fun q hq => (k7 q (by omega)).trans (hF q hq)
  have hone : lb (md (lv l * lv k) (lv t)) = lb (md (md (lv l) (lv t) * md (lv k) (lv t)) (lv t)) := by
    rw [md_is t0, md_is t0, md_is t0, md_is t0, ← Nat.mul_mod]
  rw [decide_eq_true hone]
  simp only [↓gaW, ↓gaV, ↓gaC, ↓gaN, gaP, Nat.reduceEqDiff, Nat.reduceLeDiff, Nat.reduceAdd, Nat.reduceSub, Nat.reduceMul, Int.reduceLT, Int.reduceLE, Int.reduceEq, Int.reduceToNat, Int.reduceAdd, Int.reduceSub, Int.reduceMul, reduceCtorEq, ↓reduceIte]
  obtain ⟨X, hX'⟩ : ∃ X, lv [UInt32.ofNat x] = X := ⟨_, rfl⟩
  obtain ⟨Y, hY'⟩ : ∃ Y, lv [UInt32.ofNat y] = Y := ⟨_, rfl⟩
  have z4 := z0 (lv l ^ X)
  have z5 := z0 (lv l ^ Y)
  have z6 := z0 (md (lv l ^ X) (lv t) * md (lv l ^ Y) (lv t))
  have z7 : (lb (X + Y)).length ≤ 2 := by
    rw [← hX', ← hY']
    exact lb_len_le.2 (lt_add (p := 1) (lv_lt' (Nat.le_refl _)) (lv_lt' (Nat.le_refl _)))
  refine callK_of (ct_mExp hA hc (by omega) h1 (by omega) (by omega) hE he (by omega)) (fun v n8 g8 l8 k8 hC => ?_) (by omega)
  obtain ⟨A8, a8, c8, rfl, hc8, hl8, r8⟩ := hC.u
  have hA := hA.keep l8 k8
  have hE := hE.keep l8 k8
  have h1 := h1.keep l8 k8
  have h2 := h2.keep l8 k8
  have hF : ∀ q, q < nx → g8 q = gt q := fun q hq => (k8 q (by omega)).trans (hF q hq)
  simp only [↓gaW, ↓gaV, ↓gaC, ↓gaN, gaP, Nat.reduceEqDiff, Nat.reduceLeDiff, Nat.reduceAdd, Nat.reduceSub, Nat.reduceMul, Int.reduceLT, Int.reduceLE, Int.reduceEq, Int.reduceToNat, Int.reduceAdd, Int.reduceSub, Int.reduceMul, reduceCtorEq, ↓reduceIte]
  repeat refine And.intro (by omega) ?_
  rw [hX'] at r8 hl8
  refine callK_of (ct_mExp hA hc (by omega) h2 (by omega) (by omega) hE he (by omega)) (fun v n9 g9 l9 k9 hC => ?_) (by omega)
  obtain ⟨A9, a9, c9, rfl, hc9, hl9, r9⟩ := hC.u
  have hA := hA.keep l9 k9
  have hE := hE.keep l9 k9
  have h1 := h1.keep l9 k9
  have h2 := h2.keep l9 k9
  have r8 := r8.keep l9 k9
  have hF : ∀ q, q < nx → g9 q = gt q := fun q hq => (k9 q (by omega)).trans (hF q hq)
  simp only [↓gaW, ↓gaV, ↓gaC, ↓gaN, gaP, Nat.reduceEqDiff, Nat.reduceLeDiff, Nat.reduceAdd, Nat.reduceSub, Nat.reduceMul, Int.reduceLT, Int.reduceLE, Int.reduceEq, Int.reduceToNat, Int.reduceAdd, Int.reduceSub, Int.reduceMul, reduceCtorEq, ↓reduceIte]
  repeat refine And.intro (by omega) ?_
  rw [hY'] at r9 hl9
  refine callK_of (ct_mMul r8 (by omega) r9 (by omega) hE he (by omega)) (fun v n10 g10 l10 k10 hC => ?_) (by omega)
  obtain ⟨A10, a10, c10, rfl, hc10, hl10, r10⟩ := hC.u
  have hA := hA.keep l10 k10
  have hE := hE.keep l10 k10
  have h1 := h1.keep l10 k10
  have h2 := h2.keep l10 k10
  have hF : ∀ q, q < nx → g10 q = gt q := fun q hq => (k10 q (by omega)).trans (hF q hq)
  simp only [↓gaW, ↓gaV, ↓gaC, ↓gaN, gaP, Nat.reduceEqDiff, Nat.reduceLeDiff, Nat.reduceAdd, Nat.reduceSub, Nat.reduceMul, Int.reduceLT, Int.reduceLE, Int.reduceEq, Int.reduceToNat, Int.reduceAdd, Int.reduceSub, Int.reduceMul, reduceCtorEq, ↓reduceIte]
  repeat refine And.intro (by omega) ?_
  rw [lv_lb, lv_lb] at r10
  refine callQ_of (ct_Add h1 (by omega) h2 (by omega)) (fun v n11 g11 l11 k11 hC => ?_)
  obtain ⟨A11, a11, c11, rfl, hc11, hl11, r11⟩ := hC
  have hA := hA.keep l11 k11
  have hE := hE.keep l11 k11
  have r10 := r10.keep l11 k11
  have hF : ∀ q, q < nx → g11 q = gt q := fun q hq => (k11 q (by omega)).trans (hF q hq)
  simp only [↓gaW, ↓gaV, ↓gaC, ↓gaN, gaP, Nat.reduceEqDiff, Nat.reduceLeDiff, Nat.reduceAdd, Nat.reduceSub, Nat.reduceMul, Int.reduceLT, Int.reduceLE, Int.reduceEq, Int.reduceToNat, Int.reduceAdd, Int.reduceSub, Int.reduceMul, reduceCtorEq, ↓reduceIte]
  rw [hX', hY'] at r11 hl11
  refine callQ_of (ct_mExp hA hc (by omega) r11 hc11 (by omega) hE he (by omega)) (fun v n12 g12 l12 k12 hC => ?_)
  obtain ⟨A12, a12, c12, rfl, hc12, hl12, r12⟩ := hC.u
  have r10 := r10.keep l12 k12
  have hF : ∀ q, q < nx → g12 q = gt q := fun q hq => (k12 q (by omega)).trans (hF q hq)
  simp only [↓gaW, ↓gaV, ↓gaC, ↓gaN, gaP, Nat.reduceEqDiff, Nat.reduceLeDiff, Nat.reduceAdd, Nat.reduceSub, Nat.reduceMul, Int.reduceLT, Int.reduceLE, Int.reduceEq, Int.reduceToNat, Int.reduceAdd, Int.reduceSub, Int.reduceMul, reduceCtorEq, ↓reduceIte]
  repeat refine And.intro (by omega) ?_
  rw [lv_lb] at r12
  rw [lv_lb, lv_lb] at hl10
  refine callK_of (ct_Same r10 (by omega) r12) (fun v n13 g13 l13 k13 hC => ?_) (by omega)
  subst hC
  have hF : ∀ q, q < nx → g13 q = gt q := fun q hq => (k13 q (by omega)).trans (hF q hq)
  have htwo : lb (md (md (lv l ^ X) (lv t) * md (lv l ^ Y) (lv t)) (lv t)) = lb (md (lv l ^ (X + Y)) (lv t)) := by
    rw [md_is t0, md_is t0, md_is t0, md_is t0, ← Nat.mul_mod, Nat.pow_add]
  rw [decide_eq_true htwo]
  simp only [↓gaW, ↓gaV, ↓gaC, ↓gaN, gaP, Nat.reduceEqDiff, Nat.reduceLeDiff, Nat.reduceAdd, Nat.reduceSub, Nat.reduceMul, Int.reduceLT, Int.reduceLE, Int.reduceEq, Int.reduceToNat, Int.reduceAdd, Int.reduceSub, Int.reduceMul, reduceCtorEq, ↓reduceIte, gaE, implies_true, Nat.le_refl, Int.sub_zero, Nat.sub_zero, Int.le_refl, true_or, or_true]
  exact ⟨by omega, hF⟩
end
end Go.Ga

/- An array of whole numbers that a law is given. -/
namespace Go.Ga
open Go

section
variable {P : Program} {H : Type} {enc : TypeId × Value → H} {w : World} {base : Nat} {sp : Nat → Bool} {held : Bool} {t e : TypeId} {n : Nat} {k : IntKind}

def intOf : Option Value → Int
  | some (.int _ z) => z
  | _ => 0
theorem mapM_all {α β : Type} (f : α → Option β) (g : α → β) : ∀ (L : List α), (∀ i ∈ L, f i = some (g i)) → L.mapM f = some (L.map g)
  | [], _ => rfl
  | a :: L, h => by
    rw [List.mapM_cons, h a (by simp), mapM_all f g L fun i hi => h i (by simp [hi])]
    rfl
theorem mapM_inv {α β : Type} (f : α → Option β) : ∀ (L : List α) (xs : List β), L.mapM f = some xs → ∃ g : α → Option β, (∀ i ∈ L, f i = g i ∧ (g i).isSome) ∧ xs.map some = L.map g
  | [], xs, h => by
    simp at h
    subst h
    exact ⟨fun _ => none, by simp, rfl⟩
  | a :: L, xs, h => by
    rw [List.mapM_cons] at h
    simp only [bind, Option.bind_eq_some_iff, pure, Option.some.injEq] at h
    obtain ⟨y, hy, ys, hys, rfl⟩ := h
    obtain ⟨g, h1, h2⟩ := mapM_inv f L ys hys
    refine ⟨f, fun i hi => ⟨rfl, ?_⟩, ?_⟩
    · rcases List.mem_cons.1 hi with rfl | hi
      · simp [hy]
      · rw [(h1 i hi).1]; exact (h1 i hi).2
    · simp only [List.map_cons, hy, h2, List.cons.injEq, true_and]
      exact List.map_congr_left fun i hi => (h1 i hi).1.symm

def arrD (k : IntKind) (zs : List Int) : DataW H := .agg (zs.map fun z => .lit (.int k z))

theorem shut_arrI (ht : P.underlying t = some (.array n e)) (he : P.underlying e = some (.int k)) (hc : P.cellsOf e = 1) (hct : P.cellsOf t = n) {zs : List Int} (hl : zs.length = n) (hw : ∀ z ∈ zs, (Lit.int k z).wf = true) :
    DataW.Trod enc P w base sp held t (.agg (zs.map (Value.int k)).toArray) (arrD k zs) [] := by
  refine ⟨2, ?_⟩
  have h1 : ∀ i ∈ List.range n, DataW.trod enc P w base sp held 1 e (((zs.map (Value.int k)).drop (i * 1)).take 1) = some ((.lit (.int k (zs.getD i 0)) : DataW H), []) := by
    intro i hi
    have hi : i < zs.length := by rw [hl]; exact List.mem_range.1 hi
    have e1 : ((zs.map (Value.int k)).drop (i * 1)).take 1 = [.int k (zs.getD i 0)] := by
      rw [Nat.mul_one, List.drop_eq_getElem_cons (by simpa using hi)]
      simp [List.getD_eq_getElem?_getD, hi]
    rw [e1]
    have hwi : (Lit.int k (zs.getD i 0)).wf = true := hw _ (by rw [List.getD_eq_getElem?_getD, List.getElem?_eq_getElem hi]; exact List.getElem_mem hi)
    have hwi' := hwi
    simp only [List.getD_eq_getElem?_getD] at hwi' ⊢
    simp [DataW.trod, he, hwi']
  rw [DataW.trod_step]
  unfold DataW.trodStep
  simp only [ht, Value.cells, hct, hc, List.length_map, hl, if_true]
  rw [mapM_all _ _ _ h1]
  simp only [Option.map_some, List.map_map, arrD, Option.some.injEq, Prod.mk.injEq, DataW.agg.injEq]
  refine ⟨?_, by simp⟩
  refine List.ext_getElem (by simp [hl]) fun i h1 h2 => ?_
  have hi : i < zs.length := by simpa using h2
  simp [hi]

theorem open_arrI (ht : P.underlying t = some (.array n e)) (he : P.underlying e = some (.int k)) (hc : P.cellsOf e = 1) (hct : P.cellsOf t = n) {r : Reach} {b0 : Nat} {v : Value} {d : DataW H} {ps : List MemPlace} (hval : Value.okWide P w r b0 t v) (hd : DataW.Trod enc P w base sp held t v d ps) :
    ∃ zs : List Int, v = .agg (zs.map (Value.int k)).toArray ∧ zs.length = n ∧ (∀ z ∈ zs, (Lit.int k z).wf = true) ∧ d = arrD k zs ∧ ps = [] := by
  simp only [Value.okWide, ht] at hval
  obtain ⟨cs, rfl, hcs, _⟩ := hval
  obtain ⟨fuel, hf⟩ := hd
  cases fuel with
  | zero => simp [DataW.trod] at hf
  | succ fuel =>
    rw [DataW.trod_step] at hf
    unfold DataW.trodStep at hf
    simp only [ht, Value.cells] at hf
    rw [if_pos (by simpa using hcs)] at hf
    simp only [Option.map_eq_some_iff] at hf
    obtain ⟨xs, hx, e1⟩ := hf
    obtain ⟨g, hg, hgx⟩ := mapM_inv _ _ _ hx
    have hlen : cs.toList.length = n := by simp [hcs, hct]
    have cell : ∀ i, i < n → ∃ z, cs.toList[i]? = some (.int k z) ∧ (Lit.int k z).wf = true ∧ g i = some ((.lit (.int k z) : DataW H), []) := by
      intro i hi
      obtain ⟨h1, h2⟩ := hg i (List.mem_range.2 hi)
      obtain ⟨y, hy⟩ := Option.isSome_iff_exists.1 h2
      rw [hy] at h1
      obtain ⟨z, h3, rfl, h4⟩ := DataW.trod_int he h1
      refine ⟨z, ?_, h4, hy⟩
      rw [hc, Nat.mul_one, List.drop_eq_getElem_cons (by omega)] at h3
      simp at h3
      rw [List.getElem?_eq_getElem (by omega)]
      simp [h3]
    have hzs : ∃ zs : List Int, zs.length = n ∧ ∀ i, i < n → cs.toList[i]? = some (.int k (zs.getD i 0)) ∧ (Lit.int k (zs.getD i 0)).wf = true ∧ g i = some ((.lit (.int k (zs.getD i 0)) : DataW H), []) := by
      refine ⟨(List.range n).map fun i => intOf cs.toList[i]?, by simp, fun i hi => ?_⟩
      obtain ⟨z, h1, h2, h3⟩ := cell i hi
      have : ((List.range n).map fun i => intOf cs.toList[i]?).getD i 0 = z := by
        rw [List.getD_eq_getElem?_getD, List.getElem?_map, List.getElem?_range hi]
        simp only [Option.map_some, h1, Option.getD_some, intOf]
      rw [this]
      exact ⟨h1, h2, h3⟩
    obtain ⟨zs, hl, hz⟩ := hzs
    refine ⟨zs, ?_, hl, fun z hmem => ?_, ?_, ?_⟩
    · congr 1
      apply Array.ext'
      refine List.ext_getElem? fun i => ?_
      rcases Nat.lt_or_ge i n with h | h
      · rw [(hz i h).1]
        simp [List.getElem?_map, List.getD_eq_getElem?_getD, List.getElem?_eq_getElem (show i < zs.length by omega)]
      · rw [List.getElem?_eq_none (by omega), List.getElem?_eq_none (by simp; omega)]
    · obtain ⟨i, hi, rfl⟩ := List.getElem_of_mem hmem
      have := (hz i (by omega)).2.1
      simpa [List.getD_eq_getElem?_getD, List.getElem?_eq_getElem hi] using this
    · simp only [Prod.mk.injEq] at e1
      rw [← e1.1, arrD]
      congr 1
      refine List.ext_getElem? fun i => ?_
      have hxi : (xs.map some)[i]? = ((List.range n).map g)[i]? := by rw [hgx]
      rcases Nat.lt_or_ge i n with h | h
      · rw [List.getElem?_map, List.getElem?_map, List.getElem?_range h, Option.map_some, (hz i h).2.2] at hxi
        cases hx1 : xs[i]? with
        | none => simp [hx1] at hxi
        | some y =>
          simp only [hx1, Option.map_some, Option.some.injEq] at hxi
          simp [hx1, hxi, List.getD_eq_getElem?_getD, List.getElem?_eq_getElem (show i < zs.length by omega)]
      · have : xs.length = n := by
          have := congrArg List.length hgx
          simpa using this
        rw [List.getElem?_eq_none (by simp; omega), List.getElem?_eq_none (by simp; omega)]
    · simp only [Prod.mk.injEq] at e1
      rw [← e1.2, List.flatMap_eq_nil_iff]
      intro y hy
      obtain ⟨i, hi, rfl⟩ := List.getElem_of_mem hy
      have hn : xs.length = n := by
        have := congrArg List.length hgx
        simpa using this
      have hxi : (xs.map some)[i]? = ((List.range n).map g)[i]? := by rw [hgx]
      rw [List.getElem?_map, List.getElem?_eq_getElem hi, List.getElem?_map, List.getElem?_range (by omega), Option.map_some, Option.map_some, (hz i (by omega)).2.2] at hxi
      simp only [Option.some.injEq] at hxi
      rw [hxi]
end

theorem absV_arr {w : World} {k : IntKind} {zs : List Int} : absV w (.agg (zs.map (Value.int k)).toArray) = .agg (zs.map (Value.int k)).toArray := by
  simp only [absV]
  congr 1
  apply Array.ext'
  simp [Function.comp_def, absC, goodV]
theorem list6 {zs : List Int} (h : zs.length = 6) : ∃ a b c d e f, zs = [a, b, c, d, e, f] := by
  match zs, h with
  | [a, b, c, d, e, f], _ => exact ⟨a, b, c, d, e, f, rfl⟩
end Go.Ga

/- A slice of words that a law is given. -/
namespace Go.Ga
open Go

theorem wf_u32 {n : Int} (h : (Lit.int .u32 n).wf = true) : 0 ≤ n ∧ n ≤ 4294967295 := by
  have := (Lit.wf_int_iff _ _).1 h
  simpa [IntKind.min, IntKind.max, IntKind.signed, IntKind.bits] using this
theorem wf_u32N {n : Int} (h : (Lit.int .u32 n).wf = true) : ∃ x : Nat, n = x ∧ x < 4294967296 := by
  have := wf_u32 h
  exact ⟨n.toNat, by omega, by omega⟩

/-- A row's slice of words. -/
theorem absV_words {w : World} {a : Option Addr} {len cap : Nat} {zs : List Int} (h : IsRow .u32 w a len cap zs) :
    ∃ A, absV w (.slice a len cap) = .slice A len cap ∧ len ≤ cap ∧ ∃ l : List UInt32, Row w.heap.size (m0 w).get 1 A len (l.map u32V) := by
  rcases h with ⟨rfl, rfl, rfl, rfl⟩ | ⟨x, rfl, h1, h2, h3, h4, h5⟩
  · exact ⟨none, rfl, Nat.le_refl _, [], .nil⟩
  by_cases hc : cap = 0
  · subst hc
    have : len = 0 := by omega
    subst this
    exact ⟨some ⟨x.block, x.off, none⟩, by simp [absV, absC], Nat.le_refl _, [], ⟨fun a ha => by injection ha with ha; subst ha; exact .inl rfl, rfl, fun h => absurd h (Nat.lt_irrefl 0)⟩⟩
  have c0 := h4 0 (by omega)
  have hx : x.add 0 = x := by simp [Addr.add]
  rw [hx] at c0
  unfold World.cell? at c0
  split at c0
  · rename_i ce el fr hb
    have hsp : x.spot = none := by
      by_cases h : x.spot.isSome
      · rw [if_pos h] at c0; cases c0
      · simpa using h
    have hlt : x.block < w.heap.size := by
      rcases Nat.lt_or_ge x.block w.heap.size with h | h
      · exact h
      · rw [Array.getElem?_eq_none h] at hb; cases hb
    have hcell : ∀ i, i < cap → ce[x.off + i]? = some (.int .u32 (zs.getD i 0)) := by
      intro i hi
      have := h4 i (by omega)
      unfold World.cell? Addr.add at this
      by_cases h0 : i = 0
      · subst h0
        simp only [if_true, hb, hsp] at this
        simpa using this
      · simp only [if_neg h0, hb] at this
        simpa using this
    have hsz : x.off + cap ≤ ce.size := by
      have := hcell (cap - 1) (by omega)
      rcases Nat.lt_or_ge (x.off + (cap - 1)) ce.size with h | h
      · omega
      · rw [Array.getElem?_eq_none h] at this; cases this
    refine ⟨some x, ?_, h1, (zs.take len).map fun n => UInt32.ofNat n.toNat, ⟨fun a ha => by injection ha with ha; subst ha; exact .inl hsp, ?_, fun hN => ⟨x, ce.toList.map (absC w), true, rfl, hlt, ?_, ?_, fun i hi => ?_⟩⟩⟩
    · have : isCells w x.block = true := by simp [isCells, hb]
      simp [absV, absC, hc, hsp, h1, this]
    · simp; omega
    · simp [m0, hb]
    · simp; omega
    · have e1 := hcell i (by omega)
      have hz : i < zs.length := by omega
      have hw := wf_u32 (h5 (zs.getD i 0) (by rw [List.getD_eq_getElem?_getD, List.getElem?_eq_getElem hz]; exact List.getElem_mem hz))
      have e2 : ce.toList[x.off + i]? = some (.int .u32 (zs.getD i 0)) := by simpa using e1
      have e3 : (ce.toList.map (absC w)).getD (x.off + i) undef = .int .u32 (zs.getD i 0) := by
        rw [List.getD_eq_getElem?_getD, List.getElem?_map, e2]
        rfl
      rw [e3, getD_u32 (by simp; omega)]
      congr 1
      have e4 : ((zs.take len).map fun n => UInt32.ofNat n.toNat).getD i 0 = UInt32.ofNat (zs.getD i 0).toNat := by
        simp [List.getD_eq_getElem?_getD, List.getElem?_map, hi, List.getElem?_eq_getElem hz]
      rw [e4, UInt32.toNat_ofNat']
      omega
  · cases c0

end Go.Ga

/- What a law is given: what its values are made of, in the abstract memory. -/
namespace Go.Ga
open Go

section
variable {H : Type} {enc : TypeId × Value → H} {P : Program} {w : World} {held : Bool} {f : Nat} {t : TypeId} {cs : List Value}

/-- These cells are a value of this type. -/
def Shp (enc : TypeId × Value → H) (P : Program) (w : World) (held : Bool) (f : Nat) (t : TypeId) (cs : List Value) : Prop := ∃ x, DataW.trod enc P w 0 (fun _ => true) held f t cs = some x

theorem Shp.int {k : IntKind} (ht : P.underlying t = some (.int k)) (h : Shp enc P w held f t cs) : ∃ n, cs = [.int k n] ∧ (Lit.int k n).wf = true := by
  obtain ⟨x, hx⟩ := h
  obtain ⟨n, h1, _, h2⟩ := DataW.trod_int ht hx
  exact ⟨n, h1, h2⟩
theorem Shp.bool (ht : P.underlying t = some .bool) (h : Shp enc P w held f t cs) : ∃ b, cs = [.bool b] := by
  obtain ⟨x, hx⟩ := h
  obtain ⟨n, h1, _⟩ := DataW.trod_bool ht hx
  exact ⟨n, h1⟩
theorem Shp.string (ht : P.underlying t = some .string) (h : Shp enc P w held f t cs) : ∃ s : ByteArray, cs = [.string s] ∧ s.size ≤ maxLen := by
  obtain ⟨x, hx⟩ := h
  obtain ⟨n, h1, _, h2⟩ := DataW.trod_string ht hx
  exact ⟨n, h1, h2⟩
theorem Shp.struct {fs : Array Field} (ht : P.underlying t = some (.struct fs)) (h : Shp enc P w held f t cs) :
    ∃ n, f = n + 1 ∧ cs.length = P.cellsOf t ∧ ∀ (i : Nat) (fl : Field), fs[i]? = some fl → Shp enc P w held n fl.type ((cs.drop fl.offset).take (P.cellsOf fl.type)) := by
  obtain ⟨x, hx⟩ := h
  obtain ⟨xs, n, h1, _, h2, h3, h4⟩ := DataW.trod_struct ht hx
  refine ⟨n, h1, h2, fun i fl hi => ?_⟩
  have hlt : i < xs.length := by
    rw [h3]
    exact (Array.getElem?_eq_some_iff.1 hi).1
  exact ⟨xs[i], by rw [h4 i fl hi, List.getElem?_eq_getElem hlt]⟩
theorem Shp.array {m : Nat} {e : TypeId} (ht : P.underlying t = some (.array m e)) (h : Shp enc P w held f t cs) :
    ∃ n, f = n + 1 ∧ cs.length = P.cellsOf t ∧ ∀ i, i < m → Shp enc P w held n e ((cs.drop (i * P.cellsOf e)).take (P.cellsOf e)) := by
  obtain ⟨x, hx⟩ := h
  obtain ⟨xs, n, h1, _, h2, h3, h4⟩ := DataW.trod_array ht hx
  exact ⟨n, h1, h2, fun i hi => ⟨xs[i]'(by omega), by rw [h4 i hi, List.getElem?_eq_getElem (by omega)]⟩⟩

theorem cells_all {w : World} {a : Addr} {N : Nat} {g : Nat → Value} (hN : 0 < N) (h : ∀ i, i < N → w.cell? (a.add i) = some (g i)) :
    a.spot = none ∧ isCells w a.block = true ∧ a.block < w.heap.size ∧ ∃ ce : List Value, (m0 w).get a.block = some (.cells (ce.map (absC w)) true) ∧ a.off + N ≤ ce.length ∧ ∀ i, i < N → ce[a.off + i]? = some (g i) := by
  have c0 := h 0 hN
  have hx : a.add 0 = a := by simp [Addr.add]
  rw [hx] at c0
  unfold World.cell? at c0
  split at c0
  · rename_i ce el fr hb
    have hsp : a.spot = none := by
      by_cases h : a.spot.isSome
      · rw [if_pos h] at c0; cases c0
      · simpa using h
    have hlt : a.block < w.heap.size := by
      rcases Nat.lt_or_ge a.block w.heap.size with h | h
      · exact h
      · rw [Array.getElem?_eq_none h] at hb; cases hb
    have hcell : ∀ i, i < N → ce.toList[a.off + i]? = some (g i) := by
      intro i hi
      have := h i hi
      unfold World.cell? Addr.add at this
      by_cases h0 : i = 0
      · subst h0
        simp only [if_true, hb, hsp] at this
        simpa using this
      · simp only [if_neg h0, hb] at this
        simpa using this
    refine ⟨hsp, by simp [isCells, hb], hlt, ce.toList, by simp [m0, hb], ?_, hcell⟩
    have := hcell (N - 1) (by omega)
    rcases Nat.lt_or_ge (a.off + (N - 1)) ce.toList.length with h | h
    · omega
    · rw [List.getElem?_eq_none h] at this; cases this
  · cases c0

theorem add_addr {a : Addr} {i j : Nat} (_ : a.spot = none) : (a.add i).add j = a.add (i + j) := by
  unfold Addr.add
  by_cases h1 : i = 0 <;> by_cases h2 : j = 0 <;> simp [h1, h2, Nat.add_assoc]

theorem Shp.slice {e : TypeId} (ht : P.underlying t = some (.slice e)) (hc : 0 < P.cellsOf e) (h : Shp enc P w held f t cs) :
    ∃ n v A len cap, ∃ l : List Value, f = n + 1 ∧ cs = [v] ∧ absC w v = .slice A len cap ∧ len ≤ cap ∧ Row w.heap.size (m0 w).get (P.cellsOf e) A (len * P.cellsOf e) (l.map (absC w)) ∧ l.length = len * P.cellsOf e ∧
      ∀ i, i < len → Shp enc P w held n e ((l.drop (i * P.cellsOf e)).take (P.cellsOf e)) := by
  obtain ⟨x, hx⟩ := h
  rcases DataW.trod_slice ht hx with ⟨rfl, _⟩ | ⟨a, len, cap, elems, rest, n, rfl, rfl, _, _, hl, hm, he, hel, hsp, _⟩
  · cases f with
    | zero => simp [DataW.trod] at hx
    | succ n => exact ⟨n, _, none, 0, 0, [], rfl, rfl, rfl, Nat.le_refl _, by rw [Nat.zero_mul]; exact .nil, by simp, fun i hi => absurd hi (Nat.not_lt_zero i)⟩
  · obtain ⟨hr, hrest⟩ := hsp rfl
    have one : ∀ i, i < cap → ∃ cs', w.cells? 0 (a.add (i * P.cellsOf e)) (P.cellsOf e) = some cs' ∧ Shp enc P w held n e cs' := by
      intro i hi
      rcases Nat.lt_or_ge i len with h | h
      · have h1 := hel i h
        rw [List.getElem?_eq_getElem (by omega), Option.bind_eq_some_iff] at h1
        obtain ⟨cs', h1, h2⟩ := h1
        exact ⟨cs', h1, _, h2⟩
      · have h1 := hrest (i - len) (by omega)
        rw [List.getElem?_eq_getElem (by omega), Option.bind_eq_some_iff, show len + (i - len) = i by omega] at h1
        obtain ⟨cs', h1, h2⟩ := h1
        exact ⟨cs', h1, _, h2⟩
    rcases Nat.eq_zero_or_pos cap with h0 | h0
    · subst h0
      have : len = 0 := by omega
      subst this
      exact ⟨n, _, some ⟨a.block, a.off, none⟩, 0, 0, [], rfl, rfl, by simp [absC], Nat.le_refl _, ⟨fun a ha => by injection ha with ha; subst ha; exact .inl rfl, by simp, fun h => by rw [Nat.zero_mul] at h; exact absurd h (Nat.lt_irrefl 0)⟩, by simp, fun i hi => absurd hi (Nat.not_lt_zero i)⟩
    · obtain ⟨cs0, hc0, ht0⟩ := one 0 h0
      obtain ⟨_, hl0, hg0⟩ := World.cells?_some hc0
      have hx0 : a.add (0 * P.cellsOf e) = a := by simp [Addr.add]
      rw [hx0] at hg0
      have hspot : a.spot = none := by
        refine (cells_all (w := w) (a := a) (N := 1) (g := fun i => cs0.getD 0 undef) (by omega) fun i hi => ?_).1
        have : i = 0 := by omega
        subst this
        rw [hg0 0 hc, List.getD_eq_getElem?_getD, List.getElem?_eq_getElem (by omega)]
        rfl
      have hpos : 0 < cap * P.cellsOf e := Nat.mul_pos h0 hc
      have hall : ∀ j, j < cap * P.cellsOf e → ∃ v, w.cell? (a.add j) = some v := by
        intro j hj
        have hd := Nat.div_add_mod j (P.cellsOf e)
        have hm := Nat.mod_lt j hc
        obtain ⟨cs', h1, _⟩ := one (j / P.cellsOf e) ((Nat.div_lt_iff_lt_mul hc).2 hj)
        obtain ⟨_, h2, h3⟩ := World.cells?_some h1
        have h4 := h3 (j % P.cellsOf e) hm
        rw [add_addr hspot, show j / P.cellsOf e * P.cellsOf e + j % P.cellsOf e = j by rw [Nat.mul_comm]; exact hd, List.getElem?_eq_getElem (by omega)] at h4
        exact ⟨_, h4⟩
      obtain ⟨g, hg⟩ : ∃ g : Nat → Value, ∀ j, j < cap * P.cellsOf e → w.cell? (a.add j) = some (g j) := by
        refine ⟨fun j => (w.cell? (a.add j)).getD undef, fun j hj => ?_⟩
        obtain ⟨v, hv⟩ := hall j hj
        simp only [hv, Option.getD_some]
      obtain ⟨h1, h2, h3, ce, h4, h5, h6⟩ := cells_all hpos hg
      have hle : len * P.cellsOf e ≤ cap * P.cellsOf e := Nat.mul_le_mul_right _ hl
      refine ⟨n, _, some a, len, cap, (ce.drop a.off).take (len * P.cellsOf e), rfl, rfl, ?_, hl, ⟨fun a' ha => by injection ha with ha; subst ha; exact .inl h1, by simp; omega, fun _ => ⟨a, _, true, rfl, h3, h4, by simp; omega, fun i hi => ?_⟩⟩, by simp; omega, fun i hi => ?_⟩
      · obtain ⟨ab, ao, asp⟩ := a
        simp only at h1
        subst h1
        simp [absC, show cap ≠ 0 by omega, hl, h2]
      · rw [List.getD_eq_getElem?_getD, List.getD_eq_getElem?_getD, List.getElem?_map, List.getElem?_map, List.getElem?_take_of_lt hi, List.getElem?_drop]
      · obtain ⟨cs', e1, e2⟩ := one i (by omega)
        obtain ⟨_, e3, e4⟩ := World.cells?_some e1
        have hik : i * P.cellsOf e + P.cellsOf e ≤ len * P.cellsOf e := by
          have := Nat.mul_le_mul_right (P.cellsOf e) (show i + 1 ≤ len by omega)
          rw [Nat.add_mul, Nat.one_mul] at this
          exact this
        have : ((((ce.drop a.off).take (len * P.cellsOf e)).drop (i * P.cellsOf e)).take (P.cellsOf e)) = cs' := by
          refine List.ext_getElem? fun k => ?_
          rcases Nat.lt_or_ge k (P.cellsOf e) with hk | hk
          · rw [List.getElem?_take_of_lt hk, List.getElem?_drop, List.getElem?_take_of_lt (by omega), List.getElem?_drop, h6 _ (by omega), ← hg _ (by omega), ← add_addr h1, e4 k hk]
          · rw [List.getElem?_eq_none (by simp; omega), List.getElem?_eq_none (by omega)]
        rw [this]
        exact e2

theorem Shp.bytes {e : TypeId} (ht : P.underlying t = some (.slice e)) (he : P.underlying e = some (.int .u8)) (hc : P.cellsOf e = 1) (h : Shp enc P w held f t cs) :
    ∃ v A len cap, ∃ l : List UInt8, cs = [v] ∧ absC w v = .slice A len cap ∧ len ≤ cap ∧ Row w.heap.size (m0 w).get 1 A len (l.map u8V) := by
  obtain ⟨n, v, A, len, cap, l, rfl, h1, h2, h3, h4, h5, h6⟩ := h.slice ht (by omega)
  rw [hc, Nat.mul_one] at h4 h5
  refine ⟨v, A, len, cap, l.map fun v => UInt8.ofNat (intOf (some v)).toNat, h1, h2, h3, ?_⟩
  have : (l.map fun v => UInt8.ofNat (intOf (some v)).toNat).map u8V = l.map (absC w) := by
    rw [List.map_map]
    refine List.map_congr_left fun v hv => ?_
    obtain ⟨i, hi, rfl⟩ := List.getElem_of_mem hv
    obtain ⟨z, e1, e2⟩ := (h6 i (by omega)).int he
    have e1' : l[i] = .int .u8 z := by
      rw [hc, Nat.mul_one, List.drop_eq_getElem_cons hi] at e1
      simp only [List.take_succ_cons, List.take_zero, List.cons.injEq, and_true] at e1
      exact e1
    rw [e1']
    obtain ⟨b1, b2⟩ := wf_u8 e2
    simp only [Function.comp, intOf, u8V, absC, goodV, if_true]
    rw [UInt8.toNat_ofNat']
    congr 1
    omega
  rw [this]
  exact h4
theorem Shp.words {e : TypeId} (ht : P.underlying t = some (.slice e)) (he : P.underlying e = some (.int .u32)) (hc : P.cellsOf e = 1) (h : Shp enc P w held f t cs) :
    ∃ v A len cap, ∃ l : List UInt32, cs = [v] ∧ absC w v = .slice A len cap ∧ len ≤ cap ∧ Row w.heap.size (m0 w).get 1 A len (l.map u32V) := by
  obtain ⟨n, v, A, len, cap, l, rfl, h1, h2, h3, h4, h5, h6⟩ := h.slice ht (by omega)
  rw [hc, Nat.mul_one] at h4 h5
  refine ⟨v, A, len, cap, l.map fun v => UInt32.ofNat (intOf (some v)).toNat, h1, h2, h3, ?_⟩
  have : (l.map fun v => UInt32.ofNat (intOf (some v)).toNat).map u32V = l.map (absC w) := by
    rw [List.map_map]
    refine List.map_congr_left fun v hv => ?_
    obtain ⟨i, hi, rfl⟩ := List.getElem_of_mem hv
    obtain ⟨z, e1, e2⟩ := (h6 i (by omega)).int he
    have e1' : l[i] = .int .u32 z := by
      rw [hc, Nat.mul_one, List.drop_eq_getElem_cons hi] at e1
      simp only [List.take_succ_cons, List.take_zero, List.cons.injEq, and_true] at e1
      exact e1
    rw [e1']
    obtain ⟨b1, b2⟩ := wf_u32 e2
    simp only [Function.comp, intOf, u32V, absC, goodV, if_true]
    rw [UInt32.toNat_ofNat']
    congr 1
    omega
  rw [this]
  exact h4

theorem list_two {cs : List Value} {a b : Value} (hl : cs.length = 2) (h0 : (cs.drop 0).take 1 = [a]) (h1 : (cs.drop 1).take 1 = [b]) : cs = [a, b] := by
  match cs, hl with
  | [x, y], _ =>
    simp at h0 h1
    rw [h0, h1]
theorem take_one {cs : List Value} {i : Nat} (h : i < cs.length) : (cs.drop i).take 1 = [cs[i]] := by
  rw [List.drop_eq_getElem_cons h]; rfl

/-- An array of two. -/
theorem open_two {e : TypeId} (ht : P.underlying t = some (.array 2 e)) (hc : P.cellsOf e = 1) (hct : P.cellsOf t = 2) {r : Reach} {b0 : Nat} {v : Value} {d : DataW H} {ps : List MemPlace} (hval : Value.okWide P w r b0 t v) (hd : DataW.Trod enc P w 0 (fun _ => true) held t v d ps) :
    ∃ a b n, v = .agg #[a, b] ∧ Shp enc P w held n e [a] ∧ Shp enc P w held n e [b] := by
  simp only [Value.okWide, ht] at hval
  obtain ⟨cs, rfl, hcs, _⟩ := hval
  obtain ⟨fuel, hf⟩ := hd
  obtain ⟨n, rfl, hl, h⟩ := Shp.array ht ⟨_, hf⟩
  have h0 := h 0 (by omega)
  have h1 := h 1 (by omega)
  simp only [Value.cells] at hl h0 h1
  rw [hct] at hl
  rw [hc, take_one (by omega)] at h0 h1
  refine ⟨_, _, n, ?_, h0, h1⟩
  congr 1
  apply Array.ext'
  exact list_two hl (take_one (by omega)) (take_one (by omega))
theorem open_words2 {e e' : TypeId} (ht : P.underlying t = some (.array 2 e)) (he : P.underlying e = some (.slice e')) (he' : P.underlying e' = some (.int .u32)) (hc : P.cellsOf e = 1) (hct : P.cellsOf t = 2) (hc' : P.cellsOf e' = 1) {r : Reach} {b0 : Nat} {v : Value} {d : DataW H} {ps : List MemPlace} (hval : Value.okWide P w r b0 t v) (hd : DataW.Trod enc P w 0 (fun _ => true) held t v d ps) :
    ∃ (A : Option Addr) (n c : Nat) (l : List UInt32) (B : Option Addr) (m d : Nat) (k : List UInt32), absV w v = .agg #[.slice A n c, .slice B m d] ∧ Row w.heap.size (m0 w).get 1 A n (l.map u32V) ∧ n ≤ c ∧ Row w.heap.size (m0 w).get 1 B m (k.map u32V) ∧ m ≤ d := by
  obtain ⟨a, b, n, rfl, h0, h1⟩ := open_two ht hc hct hval hd
  obtain ⟨_, A, n, c, l, e0, e1, e2, e3⟩ := h0.words he he' hc'
  obtain ⟨_, B, m, d, k, f0, f1, f2, f3⟩ := h1.words he he' hc'
  injection e0 with e0
  injection f0 with f0
  subst e0 f0
  exact ⟨A, n, c, l, B, m, d, k, by simp [absV, e1, f1], e3, e2, f3, f2⟩
theorem open_bytes2 {e e' : TypeId} (ht : P.underlying t = some (.array 2 e)) (he : P.underlying e = some (.slice e')) (he' : P.underlying e' = some (.int .u8)) (hc : P.cellsOf e = 1) (hct : P.cellsOf t = 2) (hc' : P.cellsOf e' = 1) {r : Reach} {b0 : Nat} {v : Value} {d : DataW H} {ps : List MemPlace} (hval : Value.okWide P w r b0 t v) (hd : DataW.Trod enc P w 0 (fun _ => true) held t v d ps) :
    ∃ (A : Option Addr) (n c : Nat) (l : List UInt8) (B : Option Addr) (m d : Nat) (k : List UInt8), absV w v = .agg #[.slice A n c, .slice B m d] ∧ Row w.heap.size (m0 w).get 1 A n (l.map u8V) ∧ n ≤ c ∧ Row w.heap.size (m0 w).get 1 B m (k.map u8V) ∧ m ≤ d := by
  obtain ⟨a, b, n, rfl, h0, h1⟩ := open_two ht hc hct hval hd
  obtain ⟨_, A, n, c, l, e0, e1, e2, e3⟩ := h0.bytes he he' hc'
  obtain ⟨_, B, m, d, k, f0, f1, f2, f3⟩ := h1.bytes he he' hc'
  injection e0 with e0
  injection f0 with f0
  subst e0 f0
  exact ⟨A, n, c, l, B, m, d, k, by simp [absV, e1, f1], e3, e2, f3, f2⟩
end
theorem list2 {zs : List Int} (h : zs.length = 2) : ∃ a b, zs = [a, b] := by
  match zs, h with
  | [a, b], _ => exact ⟨a, b, rfl⟩
end Go.Ga
