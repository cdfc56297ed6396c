/- Words and contracts of functions for the statement's proof. No condition. -/
import Derived.Test.YtdoceobedbmkiaaA4
set_option linter.all false

namespace Go.Ga
open Go Go.Proofs
set_option linter.unusedSimpArgs false
set_option linter.unusedVariables false
set_option maxRecDepth 100000
attribute [local irreducible] appendK

theorem mm_t {f : Regs} (mx : Bool) (k : IntKind) (a : Int) (t : Nat) (ys : List Rv) (K : Int → Prop) : asO (mmV mx k a f (.t t :: ys)) K = asI (f t) fun _ b => asO (mmV mx k (if mx then (if b > a then b else a) else (if b < a then b else a)) f ys) K := by
  simp only [mmV, Rv.ev]
  cases f t <;> rfl

section
variable {nx : Nat} {gt : Nat → Option Blk}

/-- The highest part of a number, and its bits. -/
theorem bl_top {X n : Nat} (h : (lb X).length = n + 1) : bl X = 32 * n + bl (X / 4294967296 ^ n) ∧ X / 4294967296 ^ n < 4294967296 ∧ X / 4294967296 ^ n ≠ 0 := by
  have h1 := lb_len_le.1 (Nat.le_of_eq h)
  have h2 : ¬ X < 4294967296 ^ n := fun hc => by have := lb_len_le.2 hc; omega
  have e : 4294967296 ^ n = 2 ^ (32 * n) := by rw [Nat.pow_mul]
  have hp : 0 < 4294967296 ^ n := Nat.pow_pos (by decide)
  have h3 : X / 4294967296 ^ n < 4294967296 := by
    rw [Nat.div_lt_iff_lt_mul hp, Nat.mul_comm, ← Nat.pow_succ]
    exact h1
  refine ⟨?_, h3, ?_⟩
  · rw [e]
    have := bl_div (n := X) (s := 32 * n) (by rw [← e]; omega)
    omega
  · have := Nat.div_pos (Nat.not_lt.1 h2) hp
    omega

theorem ct_Len {A : Option Addr} {n c : Nat} {l : List UInt32} (hr : Row nx gt 1 A n (l.map u32V)) (hc : n ≤ c) (hn : n < 1000000000) :
    Ct Try.prog 71 [.slice A n c] nx gt fun v _ _ => v = .int .i64 (bl (lv l) : Nat) := by
  have hlen : l.length = n := by simpa using hr.len
  refine Ct.of hmx r_limb_Len (by simp [c_limb_Len]) fun b hb => ?_
  simp only [c_limb_Len, ↓gaW, ↓gaV, ↓gaC, ↓gaN, gaP, Nat.reduceEqDiff, Nat.reduceLeDiff, Nat.reduceAdd, Nat.reduceSub, Nat.reduceMul, Int.reduceLT, Int.reduceLE, Int.reduceEq, Int.reduceToNat, Int.reduceAdd, Int.reduceSub, Int.reduceMul, reduceCtorEq, ↓reduceIte]
  refine callK_of (ct_bare hr hc hn) (fun v n1 g1 l1 k1 hC => ?_) (by omega)
  obtain ⟨A1, n', c1, rfl, hc1, hl1, hr1⟩ := hC
  have hn' : n' < 1000000000 := by
    have := lb_len_le.2 (lv_lt l)
    omega
  generalize lv l = X at *
  by_cases h0 : (n' : Int) = 0
  · have : X = 0 := by
      have h1 := lb_len_le.1 (show (lb X).length ≤ 0 by omega)
      simpa using h1
    subst this
    simp only [↓gaW, ↓gaV, ↓gaC, ↓gaN, gaP, Nat.reduceEqDiff, Nat.reduceLeDiff, Nat.reduceAdd, Nat.reduceSub, Nat.reduceMul, Int.reduceLT, Int.reduceLE, Int.reduceEq, Int.reduceToNat, Int.reduceAdd, Int.reduceSub, Int.reduceMul, reduceCtorEq, ↓reduceIte, gaE, implies_true, Nat.le_refl, Int.sub_zero, Nat.sub_zero, Int.le_refl, true_or, or_true, h0, decide_true]
    exact ⟨by omega, k1, rfl⟩
  · obtain ⟨k, rfl⟩ : ∃ k, n' = k + 1 := ⟨n' - 1, by omega⟩
    obtain ⟨t1, t2, t3⟩ := bl_top hl1
    have tb := bl_le.2 (show X / 4294967296 ^ k < 2 ^ 32 from t2)
    have e1 : (((k + 1 : Nat) : Int) - 1) = (k : Int) := by omega
    have e2 : (32 * (k : Int)) = ((32 * k : Nat) : Int) := by omega
    obtain ⟨a, ce, ro, rfl, a1, a2, a3, a4⟩ := w32_cell hr1 hl1 (i := k) (by omega)
    rw [lb_get, Nat.mod_eq_of_lt t2] at a4
    simp only [↓gaW, ↓gaV, ↓gaC, ↓gaN, gaP, Nat.reduceEqDiff, Nat.reduceLeDiff, Nat.reduceAdd, Nat.reduceSub, Nat.reduceMul, Int.reduceLT, Int.reduceLE, Int.reduceEq, Int.reduceToNat, Int.reduceAdd, Int.reduceSub, Int.reduceMul, reduceCtorEq, ↓reduceIte, h0, decide_false, e1, i64_w (k : Int) (by omega), e2, i64_w ((32 * k : Nat) : Int) (by omega), a2, a4]
    repeat refine And.intro (by omega) ?_
    refine callK_of (ct_Len32 t2) (fun v n2 g2 l2 k2 hC => ?_) (by omega)
    subst hC
    simp only [↓gaW, ↓gaV, ↓gaC, ↓gaN, gaP, Nat.reduceEqDiff, Nat.reduceLeDiff, Nat.reduceAdd, Nat.reduceSub, Nat.reduceMul, Int.reduceLT, Int.reduceLE, Int.reduceEq, Int.reduceToNat, Int.reduceAdd, Int.reduceSub, Int.reduceMul, reduceCtorEq, ↓reduceIte, gaE, implies_true, Nat.le_refl, Int.sub_zero, Nat.sub_zero, Int.le_refl, true_or, or_true, i64_w (((32 * k : Nat) : Int) + (bl (X / 4294967296 ^ k) : Nat)) (by omega)]
    exact ⟨by omega, fun i hi => by rw [k2 i (by omega), k1 i hi], by rw [t1]; congr 1⟩

theorem ct_rpart {A : Option Addr} {n c i : Nat} {l : List UInt32} (hr : Row nx gt 1 A n (l.map u32V)) (hn : n < 1000000000) (hi : i < 10000000000) :
    Ct Try.prog 74 [.slice A n c, .int .i64 (i : Nat)] nx gt fun v _ _ => v = .int .u64 ((lv l / 4294967296 ^ i % 4294967296 : Nat) : Int) := by
  have hlen : l.length = n := by simpa using hr.len
  refine Ct.of hmx r_lanyardref07_part (by simp [c_lanyardref07_part]) fun b hb => ?_
  by_cases h : (n : Int) ≤ (i : Int)
  · simp only [c_lanyardref07_part, ↓gaW, ↓gaV, ↓gaC, ↓gaN, gaP, Nat.reduceEqDiff, Nat.reduceLeDiff, Nat.reduceAdd, Nat.reduceSub, Nat.reduceMul, Int.reduceLT, Int.reduceLE, Int.reduceEq, Int.reduceToNat, Int.reduceAdd, Int.reduceSub, Int.reduceMul, reduceCtorEq, ↓reduceIte, gaE, implies_true, Nat.le_refl, Int.sub_zero, Nat.sub_zero, Int.le_refl, true_or, or_true, h, decide_true]
    have h1 := lv_lt l
    have h2 : lv l < 4294967296 ^ i := Nat.lt_of_lt_of_le h1 (Nat.pow_le_pow_right (by decide) (by omega))
    rw [Nat.div_eq_of_lt h2]; rfl
  · obtain ⟨a, ce, ro, rfl, a1, a2, a3, a4⟩ := w32_cell hr hlen (i := i) (by omega)
    have := lt32 (l.getD i 0)
    simp only [c_lanyardref07_part, ↓gaW, ↓gaV, ↓gaC, ↓gaN, gaP, Nat.reduceEqDiff, Nat.reduceLeDiff, Nat.reduceAdd, Nat.reduceSub, Nat.reduceMul, Int.reduceLT, Int.reduceLE, Int.reduceEq, Int.reduceToNat, Int.reduceAdd, Int.reduceSub, Int.reduceMul, reduceCtorEq, ↓reduceIte, gaE, implies_true, Nat.le_refl, Int.sub_zero, Nat.sub_zero, Int.le_refl, true_or, or_true, h, decide_false, a2, a4, u64_i ((l.getD i 0).toNat : Int) (by omega)]
    exact ⟨by omega, by omega, by omega, by rw [lv_get]⟩

theorem bl_half {x : Nat} (h : 0 < x) : bl x = bl (x / 2) + 1 := by
  rcases Nat.lt_or_ge 1 x with h1 | h1
  · exact bl_div (s := 1) (by omega)
  · have : x = 1 := by omega
    subst this
    decide

theorem ct_rLen {A : Option Addr} {n c : Nat} {l : List UInt32} (hr : Row nx gt 1 A n (l.map u32V)) (hc : n ≤ c) (hn : n < 1000000000) :
    Ct Try.prog 76 [.slice A n c] nx gt fun v _ _ => v = .int .i64 (bl (lv l) : Nat) := by
  have hlen : l.length = n := by simpa using hr.len
  refine Ct.of hmx r_lanyardref07_Len (by simp [c_lanyardref07_Len]) fun b hb => ?_
  simp only [c_lanyardref07_Len, ↓gaW, ↓gaV, ↓gaC, ↓gaN, gaP, Nat.reduceEqDiff, Nat.reduceLeDiff, Nat.reduceAdd, Nat.reduceSub, Nat.reduceMul, Int.reduceLT, Int.reduceLE, Int.reduceEq, Int.reduceToNat, Int.reduceAdd, Int.reduceSub, Int.reduceMul, reduceCtorEq, ↓reduceIte]
  refine callK_of (ct_rBare hr hc hn) (fun v n1 g1 l1 k1 hC => ?_) (by omega)
  obtain ⟨A1, n', c1, rfl, hc1, hl1, hr1⟩ := hC
  have hn' : n' < 1000000000 := by
    have := lb_len_le.2 (lv_lt l)
    omega
  generalize lv l = X at *
  by_cases h0 : (n' : Int) = 0
  · have : X = 0 := by
      have h1 := lb_len_le.1 (show (lb X).length ≤ 0 by omega)
      simpa using h1
    subst this
    simp only [↓gaW, ↓gaV, ↓gaC, ↓gaN, gaP, Nat.reduceEqDiff, Nat.reduceLeDiff, Nat.reduceAdd, Nat.reduceSub, Nat.reduceMul, Int.reduceLT, Int.reduceLE, Int.reduceEq, Int.reduceToNat, Int.reduceAdd, Int.reduceSub, Int.reduceMul, reduceCtorEq, ↓reduceIte, gaE, implies_true, Nat.le_refl, Int.sub_zero, Nat.sub_zero, Int.le_refl, true_or, or_true, h0, decide_true]
    exact ⟨by omega, k1, rfl⟩
  · obtain ⟨k, rfl⟩ : ∃ k, n' = k + 1 := ⟨n' - 1, by omega⟩
    obtain ⟨t1, t2, t3⟩ := bl_top hl1
    have tb := bl_le.2 (show X / 4294967296 ^ k < 2 ^ 32 from t2)
    have e1 : (((k + 1 : Nat) : Int) - 1) = (k : Int) := by omega
    have e2 : (32 * ((k + 1 : Nat) : Int)) = ((32 * k + 32 : Nat) : Int) := by omega
    have e3 : ((32 * k + 32 : Nat) : Int) - 32 = ((32 * k : Nat) : Int) := by omega
    obtain ⟨a, ce, ro, rfl, a1, a2, a3, a4⟩ := w32_cell hr1 hl1 (i := k) (by omega)
    rw [lb_get, Nat.mod_eq_of_lt t2] at a4
    simp only [↓gaW, ↓gaV, ↓gaC, ↓gaN, gaP, Nat.reduceEqDiff, Nat.reduceLeDiff, Nat.reduceAdd, Nat.reduceSub, Nat.reduceMul, Int.reduceLT, Int.reduceLE, Int.reduceEq, Int.reduceToNat, Int.reduceAdd, Int.reduceSub, Int.reduceMul, reduceCtorEq, ↓reduceIte, h0, decide_false, e1, i64_w (k : Int) (by omega), e2, i64_w ((32 * k + 32 : Nat) : Int) (by omega), e3, i64_w ((32 * k : Nat) : Int) (by omega), a2, a4]
    repeat refine And.intro (by omega) ?_
    refine loop_of (fun j f m => ∃ (x s : Nat), j = x ∧ x < 4294967296 ∧ f 4 = .int .i64 (s : Nat) ∧ f 5 = .int .u32 (x : Nat) ∧ m = ⟨n1, b, g1⟩ ∧ s + bl x = bl X) (X / 4294967296 ^ k) ⟨_, 32 * k, rfl, t2, rfl, rfl, rfl, by omega⟩ ?_
    rintro j f m ⟨x, s, rfl, hx, h4, h5, rfl, he⟩
    by_cases hpos : (0 : Int) < (j : Int)
    · have hb1 := bl_half (x := j) (by omega)
      have q1 : ((j : Nat) : Int).tdiv 2 = ((j / 2 : Nat) : Int) := rfl
      have q2 : ((s : Int) + 1) = ((s + 1 : Nat) : Int) := by omega
      have hbX : bl X = 32 * k + bl (X / 4294967296 ^ k) := t1
      simp only [↓gaW, ↓gaV, ↓gaC, ↓gaN, gaP, Nat.reduceEqDiff, Nat.reduceLeDiff, Nat.reduceAdd, Nat.reduceSub, Nat.reduceMul, Int.reduceLT, Int.reduceLE, Int.reduceEq, Int.reduceToNat, Int.reduceAdd, Int.reduceSub, Int.reduceMul, reduceCtorEq, ↓reduceIte, h4, h5, hpos, decide_true, q1, q2, i64_w ((s + 1 : Nat) : Int) (by omega), u32_i ((j / 2 : Nat) : Int) (by omega), loopK_n]
      exact ⟨j / 2, by omega, j / 2, s + 1, rfl, by omega, rfl, rfl, by omega⟩
    · have hj : j = 0 := by omega
      subst hj
      rw [bl_zero] at he
      simp only [↓gaW, ↓gaV, ↓gaC, ↓gaN, gaP, Nat.reduceEqDiff, Nat.reduceLeDiff, Nat.reduceAdd, Nat.reduceSub, Nat.reduceMul, Int.reduceLT, Int.reduceLE, Int.reduceEq, Int.reduceToNat, Int.reduceAdd, Int.reduceSub, Int.reduceMul, reduceCtorEq, ↓reduceIte, gaE, implies_true, Nat.le_refl, Int.sub_zero, Nat.sub_zero, Int.le_refl, true_or, or_true, h4, h5, hpos, decide_false, loopK_e]
      exact ⟨by omega, k1, by congr 1; omega⟩

end
end Go.Ga

namespace Go.Ga
open Go Go.Proofs
set_option linter.unusedSimpArgs false
set_option linter.unusedVariables false
set_option maxRecDepth 100000
attribute [local irreducible] appendK

section
variable {nx : Nat} {gt : Nat → Option Blk}

theorem W32.of {x q n c : Nat} {g : Nat → Option Blk} {w : List UInt32} {ro : Bool} (hq : q < x) (hg : g q = some (.cells (w.map u32V) ro)) (hn : n ≤ c) (hw : w.length = n) : W32 x g (.slice (some ⟨q, 0, none⟩) n c) w :=
  ⟨_, n, c, rfl, hn, hw, fun a h => by injection h with h; subst h; exact .inl rfl, by simp [hw], fun h0 => ⟨_, _, ro, rfl, hq, hg, by simp [hw], fun i hi => by simp⟩⟩

end
end Go.Ga

namespace Go.Ga
open Go Go.Proofs
set_option linter.unusedSimpArgs false
set_option linter.unusedVariables false
set_option maxRecDepth 100000
attribute [local irreducible] appendK

section
variable {nx : Nat} {gt : Nat → Option Blk}

theorem ct_Mul {A B : Option Addr} {n m c d : Nat} {l k : List UInt32} (hr : Row nx gt 1 A n (l.map u32V)) (hn : n < 100000000) (hs : Row nx gt 1 B m (k.map u32V)) (hm : m < 100000000) :
    Ct Try.prog 93 [.slice A n c, .slice B m d] nx gt fun v nx' gt' => W32 nx' gt' v (lb (lv l * lv k)) := by
  have hl : l.length = n := by simpa using hr.len
  have hk : k.length = m := by simpa using hs.len
  refine Ct.of hmx r_limb_Mul (by simp [c_limb_Mul]) fun b hb => ?_
  have e1 : (n : Int) + (m : Int) = ((n + m : Nat) : Int) := by omega
  simp only [c_limb_Mul, ↓gaW, ↓gaV, ↓gaC, ↓gaN, gaP, Nat.reduceEqDiff, Nat.reduceLeDiff, Nat.reduceAdd, Nat.reduceSub, Nat.reduceMul, Int.reduceLT, Int.reduceLE, Int.reduceEq, Int.reduceToNat, Int.reduceAdd, Int.reduceSub, Int.reduceMul, reduceCtorEq, ↓reduceIte, e1, i64_w ((n + m : Nat) : Int) (by omega), zeros32]
  repeat refine And.intro (by first | omega | simp) ?_
  refine loop_of (fun j f mm => ∃ (i x : Nat) (g : Nat → Option Blk) (w : List UInt32), j = n - i ∧ i ≤ n ∧ f 1 = .slice B m d ∧ f 5 = .slice (some ⟨nx, 0, none⟩) (n + m) (n + m) ∧ f 17 = .slice A n c ∧ f 18 = .int .i64 (n : Nat) ∧ f 19 = .int .i64 (i : Nat) ∧ mm = ⟨x, b, g⟩ ∧ nx + 1 ≤ x ∧
      (∀ q, q < nx → g q = gt q) ∧ g nx = some (.cells (w.map u32V) false) ∧ w.length = n + m ∧ lv w = lv (l.take i) * lv k ∧ ∀ j, i + m ≤ j → w.getD j 0 = 0) n
    ⟨0, nx + 1, _, List.replicate (n + m) 0, by omega, by omega, rfl, rfl, rfl, rfl, rfl, rfl, by omega, fun q hq => by simp only [upd_e]; rw [if_neg (by omega)], by simp only [upd_e, if_true], by simp, by simp [lv, lv_replicate], fun j hj => by simp [List.getD_eq_getElem?_getD, List.getElem?_replicate]; split <;> rfl⟩ ?_
  rintro j f mm ⟨i, x, g, w, rfl, hi, h1, h5, h17, h18, h19, rfl, hx, hg, hgn, hw, he, hz⟩
  by_cases hlt : (i : Int) < (n : Int)
  · obtain ⟨a, ce, ro, rfl, a1, a2, a3, a4⟩ := w32_cell hr hl (i := i) (by omega)
    have a2' : g a.block = some (.cells ce ro) := by rw [hg _ a1, a2]
    have lx := lt32 (l.getD i 0)
    have e2 : (i : Int) + 1 = ((i + 1 : Nat) : Int) := by omega
    by_cases hx0 : ((l.getD i 0).toNat : Int) = 0
    · simp only [↓gaW, ↓gaV, ↓gaC, ↓gaN, gaP, Nat.reduceEqDiff, Nat.reduceLeDiff, Nat.reduceAdd, Nat.reduceSub, Nat.reduceMul, Int.reduceLT, Int.reduceLE, Int.reduceEq, Int.reduceToNat, Int.reduceAdd, Int.reduceSub, Int.reduceMul, reduceCtorEq, ↓reduceIte, h1, h5, h17, h18, h19, hlt, hx0, decide_true, a2', a4]
      repeat refine And.intro (by omega) ?_
      simp only [↓gaW, ↓gaV, ↓gaC, ↓gaN, gaP, Nat.reduceEqDiff, Nat.reduceLeDiff, Nat.reduceAdd, Nat.reduceSub, Nat.reduceMul, Int.reduceLT, Int.reduceLE, Int.reduceEq, Int.reduceToNat, Int.reduceAdd, Int.reduceSub, Int.reduceMul, reduceCtorEq, ↓reduceIte, h19, e2, i64_w ((i + 1 : Nat) : Int) (by omega), loopK_n]
      refine ⟨n - (i + 1), by omega, i + 1, x, g, w, ?_⟩
      (repeat' refine And.intro ?_ ?_) <;> first | rfl | assumption | omega | (intro q hq; simp (disch := omega) only [upd_e, if_neg, hg]; done) | (simp only [upd_e, if_true]; done) | skip
      · rw [lv_take', show (l.getD i 0).toNat = 0 by omega]; simpa using he
      · intro j hj; exact hz j (by omega)
    · simp only [↓gaW, ↓gaV, ↓gaC, ↓gaN, gaP, Nat.reduceEqDiff, Nat.reduceLeDiff, Nat.reduceAdd, Nat.reduceSub, Nat.reduceMul, Int.reduceLT, Int.reduceLE, Int.reduceEq, Int.reduceToNat, Int.reduceAdd, Int.reduceSub, Int.reduceMul, reduceCtorEq, ↓reduceIte, h1, h5, h17, h18, h19, hlt, hx0, decide_true, decide_false, a2', a4]
      repeat refine And.intro (by omega) ?_
      generalize hX : (l.getD i 0).toNat = X at *
      refine loop_of (fun j f mm => ∃ (y cy : Nat) (w' : List UInt32), j = m - y ∧ y ≤ m ∧ cy < 4294967296 ∧ f 1 = .slice B m d ∧ f 5 = .slice (some ⟨nx, 0, none⟩) (n + m) (n + m) ∧ f 17 = .slice (some a) n c ∧ f 18 = .int .i64 (n : Nat) ∧ f 19 = .int .i64 (i : Nat) ∧ f 6 = .int .i64 (i : Nat) ∧ f 7 = .int .u32 (X : Nat) ∧ f 8 = .int .u64 (cy : Nat) ∧ f 26 = .slice B m d ∧ f 27 = .int .i64 (m : Nat) ∧ f 28 = .int .i64 (y : Nat) ∧
          (∃ g', mm = ⟨x, b, g'⟩ ∧ (∀ q, q < nx → g' q = gt q) ∧ g' nx = some (.cells (w'.map u32V) false)) ∧ w'.length = n + m ∧ lv w' + 4294967296 ^ (i + y) * cy = lv w + 4294967296 ^ i * (X * lv (k.take y)) ∧ ∀ j, i + y ≤ j → w'.getD j 0 = w.getD j 0) m
        ⟨0, 0, w, by omega, by omega, by omega, h1, h5, h17, h18, h19, rfl, rfl, rfl, rfl, rfl, rfl, ⟨g, rfl, hg, hgn⟩, hw, by simp [lv], fun _ _ => rfl⟩ ?_
      rintro j f mm ⟨y, cy, w', rfl, hy, hcy, h1, h5, h17, h18, h19, h6, h7, h8, h26, h27, h28, ⟨g', rfl, hg', hgn'⟩, hw', he', hz'⟩
      by_cases hly : (y : Int) < (m : Int)
      · obtain ⟨a', ce', ro', rfl, b1, b2, b3, b4⟩ := w32_cell hs hk (i := y) (by omega)
        have b2' : g' a'.block = some (.cells ce' ro') := by rw [hg' _ b1, b2]
        have ly := lt32 (k.getD y 0)
        have lo := lt32 (w'.getD (i + y) 0)
        have hxy : X * (k.getD y 0).toNat ≤ 4294967295 * 4294967295 := Nat.mul_le_mul (by omega) (by omega)
        have hcell : (w'.map u32V).getD (i + y) undef = .int .u32 ((w'.getD (i + y) 0).toNat : Nat) := getD_u32 (by omega)
        have hset := lv_set (w := w') (i := i + y) (x := UInt32.ofNat (cy + ((w'.getD (i + y) 0).toNat + X * (k.getD y 0).toNat))) (by omega)
        have f1 : (X : Int) * ((k.getD y 0).toNat : Int) = ((X * (k.getD y 0).toNat : Nat) : Int) := by simp
        have htk : lv (k.take (y + 1)) = lv (k.take y) + 4294967296 ^ y * (k.getD y 0).toNat := lv_take' k y
        generalize hY : (k.getD y 0).toNat = Y at *
        generalize hO : (w'.getD (i + y) 0).toNat = O at *
        generalize hM : X * Y = M at *
        have f2 : (O : Int) + (M : Int) = ((O + M : Nat) : Int) := by omega
        have f3 : (cy : Int) + ((O + M : Nat) : Int) = ((cy + (O + M) : Nat) : Int) := by omega
        have f4 : (i : Int) + (y : Int) = ((i + y : Nat) : Int) := by omega
        have f5 : shrV .u64 ((cy + (O + M) : Nat) : Int) 32 = (((cy + (O + M)) / 4294967296 : Nat) : Int) := shr_nat _ 32 (by decide)
        have f6 : (y : Int) + 1 = ((y + 1 : Nat) : Int) := by omega
        simp only [↓gaW, ↓gaV, ↓gaC, ↓gaN, gaP, Nat.reduceEqDiff, Nat.reduceLeDiff, Nat.reduceAdd, Nat.reduceSub, Nat.reduceMul, Int.reduceLT, Int.reduceLE, Int.reduceEq, Int.reduceToNat, Int.reduceAdd, Int.reduceSub, Int.reduceMul, reduceCtorEq, ↓reduceIte, h1, h5, h17, h18, h19, h6, h7, h8, h26, h27, h28, hly, decide_true, b2', b4, hgn', f4, i64_w ((i + y : Nat) : Int) (by omega), Nat.mul_one, Nat.zero_add, hcell, u64_i (X : Int) (by omega), u64_i (Y : Int) (by omega), u64_i (O : Int) (by omega), f1, u64_i (M : Int) (by omega), f2, u64_i ((O + M : Nat) : Int) (by omega), f3, u64_i ((cy + (O + M) : Nat) : Int) (by omega), f5, f6, i64_w ((y + 1 : Nat) : Int) (by omega), u32_m, u32V_of, cv_u32, splice_set (show i + y < w'.length by omega), loopK_n]
        repeat refine And.intro (by first | omega | (simp; omega) | exact all1 (cl_u32 _)) ?_
        refine ⟨m - (y + 1), by omega, y + 1, (cy + (O + M)) / 4294967296, w'.set (i + y) (UInt32.ofNat (cy + (O + M))), ?_⟩
        (repeat' refine And.intro ?_ ?_) <;> first | rfl | assumption | omega | (intro q hq; simp (disch := omega) only [upd_e, if_neg, hg']; done) | (simp only [upd_e, if_true]; done) | skip
        · exact ⟨_, rfl, fun q hq => by simp only [upd_e]; rw [if_neg (by omega), hg' q hq], by simp only [upd_e, if_true]⟩
        · simp [hw']
        · rw [ofNat32] at hset
          have h9 := mul_step hset he'
          have h10 : 4294967296 ^ i * (X * (4294967296 ^ y * Y)) = 4294967296 ^ (i + y) * M := by rw [Nat.pow_add, ← hM]; ac_rfl
          rw [← Nat.add_assoc i y 1, Nat.pow_succ, h9, htk, Nat.mul_add X, Nat.mul_add (4294967296 ^ i), h10, Nat.add_assoc]
        · intro j hj
          rw [set_getD_ne (by omega)]
          exact hz' j (by omega)
      · have hym : y = m := by omega
        subst hym
        have f4 : (i : Int) + (y : Int) = ((i + y : Nat) : Int) := by omega
        have f7 : w'.getD (i + y) 0 = 0 := by rw [hz' _ (Nat.le_refl _)]; exact hz _ (Nat.le_refl _)
        have hset := lv_set (w := w') (i := i + y) (x := UInt32.ofNat cy) (by omega)
        rw [ofNat32, Nat.mod_eq_of_lt hcy, f7] at hset
        rw [List.take_of_length_le (show k.length ≤ y by omega)] at he'
        have f8 : lv (l.take (i + 1)) = lv (l.take i) + 4294967296 ^ i * X := by rw [lv_take', hX]
        simp only [↓gaW, ↓gaV, ↓gaC, ↓gaN, gaP, Nat.reduceEqDiff, Nat.reduceLeDiff, Nat.reduceAdd, Nat.reduceSub, Nat.reduceMul, Int.reduceLT, Int.reduceLE, Int.reduceEq, Int.reduceToNat, Int.reduceAdd, Int.reduceSub, Int.reduceMul, reduceCtorEq, ↓reduceIte, h1, h5, h17, h18, h19, h6, h7, h8, h26, h27, h28, hly, decide_false, f4, i64_w ((i + y : Nat) : Int) (by omega), hgn', Nat.mul_one, Nat.zero_add, u32_m, u32V_of, cv_u32, splice_set (show i + y < w'.length by omega), loopK_e, loopK_n, e2, i64_w ((i + 1 : Nat) : Int) (by omega)]
        repeat refine And.intro (by first | omega | (simp only [List.length_map, List.length_cons, List.length_nil]; omega) | exact all1 (cl_u32 _)) ?_

        refine ⟨n - (i + 1), by omega, i + 1, x, upd g' nx (some (.cells ((w'.set (i + y) (UInt32.ofNat cy)).map u32V) false)), w'.set (i + y) (UInt32.ofNat cy), ?_⟩
        (repeat' refine And.intro ?_ ?_) <;> first | rfl | assumption | omega | (intro q hq; simp (disch := omega) only [upd_e, if_neg, hg']; done) | (simp only [upd_e, if_true]; done) | skip
        · simp [hw']
        · rw [f8, Nat.add_mul, ← he, Nat.mul_assoc]
          have : (0 : UInt32).toNat = 0 := rfl
          rw [this] at hset
          omega
        · intro j hj
          rw [set_getD_ne (by omega), hz' j (by omega)]
          exact hz j (by omega)
  · have hin : i = n := by omega
    subst hin
    rw [List.take_of_length_le (show l.length ≤ i by omega)] at he
    simp only [↓gaW, ↓gaV, ↓gaC, ↓gaN, gaP, Nat.reduceEqDiff, Nat.reduceLeDiff, Nat.reduceAdd, Nat.reduceSub, Nat.reduceMul, Int.reduceLT, Int.reduceLE, Int.reduceEq, Int.reduceToNat, Int.reduceAdd, Int.reduceSub, Int.reduceMul, reduceCtorEq, ↓reduceIte, gaE, implies_true, Nat.le_refl, Int.sub_zero, Nat.sub_zero, Int.le_refl, true_or, or_true, h5, h18, h19, hlt, decide_false]
    have hrow : Row x g 1 (some ⟨nx, 0, none⟩) (i + m) (w.map u32V) := by
      obtain ⟨A', n', c', e, _, _, h⟩ := W32.of (c := i + m) (x := x) (q := nx) (g := g) (ro := false) (w := w) (n := i + m) (by omega) hgn (by omega) hw
      injection e with e1 e2 e3
      subst e1 e2 e3
      exact h
    refine callK_of (ct_bare hrow (by omega) (by omega)) (fun v n1 g1 l1 k1 hC => ?_) (by omega)
    rw [he] at hC
    simp only [↓gaW, ↓gaV, ↓gaC, ↓gaN, gaP, Nat.reduceEqDiff, Nat.reduceLeDiff, Nat.reduceAdd, Nat.reduceSub, Nat.reduceMul, Int.reduceLT, Int.reduceLE, Int.reduceEq, Int.reduceToNat, Int.reduceAdd, Int.reduceSub, Int.reduceMul, reduceCtorEq, ↓reduceIte, gaE, implies_true, Nat.le_refl, Int.sub_zero, Nat.sub_zero, Int.le_refl, true_or, or_true]
    exact ⟨by omega, fun q hq => by rw [k1 q (by omega), hg q hq], hC⟩
end
end Go.Ga

namespace Go.Ga
open Go Go.Proofs
set_option linter.unusedSimpArgs false
set_option linter.unusedVariables false
set_option maxRecDepth 100000
attribute [local irreducible] appendK

theorem lt_mul {a b p q : Nat} (ha : a < 4294967296 ^ p) (hb : b < 4294967296 ^ q) : a * b < 4294967296 ^ (p + q) := by
  rw [Nat.pow_add]
  exact Nat.mul_lt_mul'' ha hb
theorem lt_up {a p q : Nat} (ha : a < 4294967296 ^ p) (h : p ≤ q) : a < 4294967296 ^ q := Nat.lt_of_lt_of_le ha (Nat.pow_le_pow_right (by decide) h)
theorem lv_lt' {l : List UInt32} {p : Nat} (h : l.length ≤ p) : lv l < 4294967296 ^ p := lt_up (lv_lt l) h

section
variable {nx : Nat} {gt : Nat → Option Blk}

theorem Row.w32 {x q n : Nat} {g : Nat → Option Blk} {w : List UInt32} {ro : Bool} (hq : q < x) (hg : g q = some (.cells (w.map u32V) ro)) (hw : w.length = n) : Row x g 1 (some ⟨q, 0, none⟩) n (w.map u32V) := by
  obtain ⟨A', n', c', e, _, _, h⟩ := W32.of (c := n) hq hg (Nat.le_refl n) hw
  injection e with e1 e2 e3
  subst e1 e2 e3
  exact h

end
end Go.Ga

namespace Go.Ga
open Go Go.Proofs
set_option linter.unusedSimpArgs false
set_option linter.unusedVariables false
set_option maxRecDepth 100000
attribute [local irreducible] appendK

theorem cmpI_neg (a b : Int) : (cmpI a b < 0) ↔ a < b := by
  unfold cmpI; split <;> (try split) <;> omega
section
variable {nx : Nat} {gt : Nat → Option Blk}

/-- What 'Sub' answers. -/
def SubV (nx : Nat) (gt : Nat → Option Blk) (A B : Nat) (v : Value) : Prop := ∃ sl, v = .tuple #[sl, .bool (decide (B ≤ A))] ∧ W32 nx gt sl (lb (A - B)) 
theorem SubV.no {nx gt A B} (h : A < B) : SubV nx gt A B (.tuple #[.slice none 0 0, .bool false]) :=
  ⟨_, by rw [decide_eq_false (by omega)], by rw [Nat.sub_eq_zero_of_le (by omega), lb_zero]; exact W32.nil⟩

end
end Go.Ga

namespace Go.Ga
open Go Go.Proofs
set_option linter.unusedSimpArgs false
set_option linter.unusedVariables false
set_option maxRecDepth 100000
attribute [local irreducible] appendK

section
variable {nx : Nat} {gt : Nat → Option Blk}

theorem ct_rMul {A B : Option Addr} {n m c d : Nat} {l k : List UInt32} (hr : Row nx gt 1 A n (l.map u32V)) (hn : n < 100000000) (hs : Row nx gt 1 B m (k.map u32V)) (hm : m < 100000000) :
    Ct Try.prog 53 [.slice A n c, .slice B m d] nx gt fun v nx' gt' => W32 nx' gt' v (lb (lv l * lv k)) := by
  have hl : l.length = n := by simpa using hr.len
  have hk : k.length = m := by simpa using hs.len
  refine Ct.of hmx r_lanyardref07_Mul (by simp [c_lanyardref07_Mul]) fun b hb => ?_
  have e1 : (n : Int) + (m : Int) = ((n + m : Nat) : Int) := by omega
  have e1' : ((n + m : Nat) : Int) + 1 = ((n + m + 1 : Nat) : Int) := by omega
  simp only [c_lanyardref07_Mul, ↓gaW, ↓gaV, ↓gaC, ↓gaN, gaP, Nat.reduceEqDiff, Nat.reduceLeDiff, Nat.reduceAdd, Nat.reduceSub, Nat.reduceMul, Int.reduceLT, Int.reduceLE, Int.reduceEq, Int.reduceToNat, Int.reduceAdd, Int.reduceSub, Int.reduceMul, reduceCtorEq, ↓reduceIte, e1, i64_w ((n + m : Nat) : Int) (by omega), e1', i64_w ((n + m + 1 : Nat) : Int) (by omega), zeros32]
  repeat refine And.intro (by first | omega | simp) ?_
  refine loop_of (fun j f mm => ∃ (i x : Nat) (g : Nat → Option Blk) (w : List UInt32), j = n - i ∧ i ≤ n ∧ f 0 = .slice A n c ∧ f 1 = .slice B m d ∧ f 5 = .slice (some ⟨nx, 0, none⟩) (n + m + 1) (n + m + 1) ∧ f 6 = .int .i64 (i : Nat) ∧ mm = ⟨x, b, g⟩ ∧ nx + 1 ≤ x ∧
      (∀ q, q < nx → g q = gt q) ∧ g nx = some (.cells (w.map u32V) false) ∧ w.length = n + m + 1 ∧ lv w = lv (l.take i) * lv k ∧ ∀ j, i + m ≤ j → w.getD j 0 = 0) n
    ⟨0, nx + 1, _, List.replicate (n + m + 1) 0, by omega, by omega, rfl, rfl, rfl, rfl, rfl, by omega, fun q hq => by simp only [upd_e]; rw [if_neg (by omega)], by simp only [upd_e, if_true], by simp, by simp [lv, lv_replicate], fun j hj => by simp [List.getD_eq_getElem?_getD, List.getElem?_replicate]; split <;> rfl⟩ ?_
  rintro j f mm ⟨i, x0, g, w, rfl, hi, h0, h1, h5, h6, rfl, hx, hg, hgn, hw, he, hz⟩
  by_cases hlt : (i : Int) < (n : Int)
  · have e2 : (i : Int) + 1 = ((i + 1 : Nat) : Int) := by omega
    simp only [↓gaW, ↓gaV, ↓gaC, ↓gaN, gaP, Nat.reduceEqDiff, Nat.reduceLeDiff, Nat.reduceAdd, Nat.reduceSub, Nat.reduceMul, Int.reduceLT, Int.reduceLE, Int.reduceEq, Int.reduceToNat, Int.reduceAdd, Int.reduceSub, Int.reduceMul, reduceCtorEq, ↓reduceIte, h0, h1, h5, h6, hlt, decide_true]
    refine loop_of (fun j f mm => ∃ (y cy x : Nat) (g' : Nat → Option Blk) (w' : List UInt32), j = m + 2 - y ∧ y ≤ m + 1 ∧ (y = m + 1 → cy = 0) ∧ cy < 4294967296 ∧ f 0 = .slice A n c ∧ f 1 = .slice B m d ∧ f 5 = .slice (some ⟨nx, 0, none⟩) (n + m + 1) (n + m + 1) ∧ f 6 = .int .i64 (i : Nat) ∧ f 7 = .int .u64 (cy : Nat) ∧ f 8 = .int .i64 (y : Nat) ∧
        mm = ⟨x, b, g'⟩ ∧ nx + 1 ≤ x ∧ (∀ q, q < nx → g' q = gt q) ∧ g' nx = some (.cells (w'.map u32V) false) ∧ w'.length = n + m + 1 ∧ lv w' + 4294967296 ^ (i + y) * cy = lv w + 4294967296 ^ i * ((l.getD i 0).toNat * lv (k.take y)) ∧ ∀ j, i + y ≤ j → w'.getD j 0 = w.getD j 0) (m + 2)
      ⟨0, 0, x0, g, w, by omega, by omega, fun _ => rfl, by omega, h0, h1, h5, h6, rfl, rfl, rfl, hx, hg, hgn, hw, by simp [lv], fun _ _ => rfl⟩ ?_
    rintro j f mm ⟨y, cy, x, g', w', rfl, hy, hyz, hcy, h0, h1, h5, h6, h7, h8, rfl, hx, hg', hgn', hw', he', hz'⟩
    by_cases s1 : (y : Int) < (m : Int)
    · simp only [↓gaW, ↓gaV, ↓gaC, ↓gaN, gaP, Nat.reduceEqDiff, Nat.reduceLeDiff, Nat.reduceAdd, Nat.reduceSub, Nat.reduceMul, Int.reduceLT, Int.reduceLE, Int.reduceEq, Int.reduceToNat, Int.reduceAdd, Int.reduceSub, Int.reduceMul, reduceCtorEq, ↓reduceIte, h0, h1, h5, h6, h7, h8, s1, decide_true]
      have f4 : (i : Int) + (y : Int) = ((i + y : Nat) : Int) := by omega
      have lo := lt32 (w'.getD (i + y) 0)
      have hcell : (w'.map u32V).getD (i + y) undef = .int .u32 ((w'.getD (i + y) 0).toNat : Nat) := getD_u32 (by omega)
      have f2 : (cy : Int) + ((w'.getD (i + y) 0).toNat : Int) = ((cy + (w'.getD (i + y) 0).toNat : Nat) : Int) := by omega
      simp only [f4, i64_w ((i + y : Nat) : Int) (by omega), hgn', Nat.mul_one, Nat.zero_add, hcell, ↓gaW, ↓gaV, ↓gaC, ↓gaN, gaP, Nat.reduceEqDiff, Nat.reduceLeDiff, Nat.reduceAdd, Nat.reduceSub, Nat.reduceMul, Int.reduceLT, Int.reduceLE, Int.reduceEq, Int.reduceToNat, Int.reduceAdd, Int.reduceSub, Int.reduceMul, reduceCtorEq, ↓reduceIte, h0, h1, h5, h6, h7, h8, u64_i ((w'.getD (i + y) 0).toNat : Int) (by omega), f2, u64_i ((cy + (w'.getD (i + y) 0).toNat : Nat) : Int) (by omega)]
      repeat refine And.intro (by first | omega | (simp; omega)) ?_
      refine callQ_of (ct_rpart (hr.keep (by omega) hg') (by omega) (by omega)) (fun v n1 g1 l1 k1 hC => ?_)
      rw [← lv_get] at hC
      subst hC
      have hg1 : ∀ p, p < nx → g1 p = gt p := fun p hp => by rw [k1 p (by omega), hg' p hp]
      simp only [↓gaW, ↓gaV, ↓gaC, ↓gaN, gaP, Nat.reduceEqDiff, Nat.reduceLeDiff, Nat.reduceAdd, Nat.reduceSub, Nat.reduceMul, Int.reduceLT, Int.reduceLE, Int.reduceEq, Int.reduceToNat, Int.reduceAdd, Int.reduceSub, Int.reduceMul, reduceCtorEq, ↓reduceIte, h0, h1, h5, h6, h7, h8]
      refine callQ_of (ct_rpart (hs.keep (by omega) hg1) (by omega) (by omega)) (fun v n2 g2 l2 k2 hC => ?_)
      rw [← lv_get] at hC
      subst hC
      have hg2 : ∀ p, p < nx → g2 p = gt p := fun p hp => by rw [k2 p (by omega), hg1 p hp]
      have gn2 : g2 nx = some (.cells (w'.map u32V) false) := by rw [k2 nx (by omega), k1 nx (by omega), hgn']
      have lx := lt32 (l.getD i 0)
      have ly := lt32 (k.getD y 0)
      have hxy : (l.getD i 0).toNat * (k.getD y 0).toNat ≤ 4294967295 * 4294967295 := Nat.mul_le_mul (by omega) (by omega)
      have f1 : ((l.getD i 0).toNat : Int) * ((k.getD y 0).toNat : Int) = (((l.getD i 0).toNat * (k.getD y 0).toNat : Nat) : Int) := by simp
      have htk : lv (k.take (y + 1)) = lv (k.take y) + 4294967296 ^ y * (k.getD y 0).toNat := lv_take' k y
      have hset := lv_set (w := w') (i := i + y) (x := UInt32.ofNat (cy + ((w'.getD (i + y) 0).toNat + (l.getD i 0).toNat * (k.getD y 0).toNat))) (by omega)
      have hzy : y = m → (w'.getD (i + y) 0).toNat = 0 ∧ (k.getD y 0).toNat = 0 := fun h => ⟨by rw [hz' _ (Nat.le_refl _), hz _ (by omega)]; rfl, by rw [List.getD_eq_getElem?_getD, List.getElem?_eq_none (by omega)]; rfl⟩
      generalize hX : (l.getD i 0).toNat = X at *
      generalize hY : (k.getD y 0).toNat = Y at *
      generalize hO : (w'.getD (i + y) 0).toNat = O at *
      generalize hM : X * Y = M at *
      have f3 : ((cy + O : Nat) : Int) + (M : Int) = ((cy + (O + M) : Nat) : Int) := by omega
      have f5 : shrV .u64 ((cy + (O + M) : Nat) : Int) 32 = (((cy + (O + M)) / 4294967296 : Nat) : Int) := shr_nat _ 32 (by decide)
      have f6 : (y : Int) + 1 = ((y + 1 : Nat) : Int) := by omega
      have hlast : y + 1 = m + 1 → (cy + (O + M)) / 4294967296 = 0 := fun h => by
        have h2 := hzy (by omega)
        rw [h2.2, Nat.mul_zero] at hM
        omega
      simp only [↓gaW, ↓gaV, ↓gaC, ↓gaN, gaP, Nat.reduceEqDiff, Nat.reduceLeDiff, Nat.reduceAdd, Nat.reduceSub, Nat.reduceMul, Int.reduceLT, Int.reduceLE, Int.reduceEq, Int.reduceToNat, Int.reduceAdd, Int.reduceSub, Int.reduceMul, reduceCtorEq, ↓reduceIte, h0, h1, h5, h6, h7, h8, f1, u64_i (M : Int) (by omega), f3, u64_i ((cy + (O + M) : Nat) : Int) (by omega), f4, i64_w ((i + y : Nat) : Int) (by omega), gn2, Nat.mul_one, Nat.zero_add, f5, f6, i64_w ((y + 1 : Nat) : Int) (by omega), u32_m, u32V_of, cv_u32, splice_set (show i + y < w'.length by omega), loopK_n]
      repeat refine And.intro (by first | omega | (simp; omega) | exact all1 (cl_u32 _)) ?_
      refine ⟨m + 2 - (y + 1), by omega, y + 1, (cy + (O + M)) / 4294967296, n2, upd g2 nx (some (.cells ((w'.set (i + y) (UInt32.ofNat (cy + (O + M)))).map u32V) false)), w'.set (i + y) (UInt32.ofNat (cy + (O + M))), ?_⟩
      (repeat' refine And.intro ?_ ?_) <;> first | rfl | assumption | omega | (intro q hq; simp (disch := omega) only [upd_e, if_neg, hg2]; done) | (simp only [upd_e, if_true]; done) | skip
      · simp [hw']
      · rw [ofNat32] at hset
        have h9 := mul_step hset he'
        have h10 : 4294967296 ^ i * (X * (4294967296 ^ y * Y)) = 4294967296 ^ (i + y) * M := by rw [Nat.pow_add, ← hM]; ac_rfl
        rw [← Nat.add_assoc i y 1, Nat.pow_succ, h9, htk, Nat.mul_add X, Nat.mul_add (4294967296 ^ i), h10, Nat.add_assoc]
      · intro j hj
        rw [set_getD_ne (by omega)]
        exact hz' j (by omega)
    · by_cases s2 : (0 : Int) < (cy : Int)
      · have hym : y ≤ m := by
          rcases Nat.lt_or_ge m y with h | h
          · have := hyz (by omega); omega
          · exact h
        simp only [↓gaW, ↓gaV, ↓gaC, ↓gaN, gaP, Nat.reduceEqDiff, Nat.reduceLeDiff, Nat.reduceAdd, Nat.reduceSub, Nat.reduceMul, Int.reduceLT, Int.reduceLE, Int.reduceEq, Int.reduceToNat, Int.reduceAdd, Int.reduceSub, Int.reduceMul, reduceCtorEq, ↓reduceIte, h0, h1, h5, h6, h7, h8, s1, s2, decide_true, decide_false]
        have f4 : (i : Int) + (y : Int) = ((i + y : Nat) : Int) := by omega
        have lo := lt32 (w'.getD (i + y) 0)
        have hcell : (w'.map u32V).getD (i + y) undef = .int .u32 ((w'.getD (i + y) 0).toNat : Nat) := getD_u32 (by omega)
        have f2 : (cy : Int) + ((w'.getD (i + y) 0).toNat : Int) = ((cy + (w'.getD (i + y) 0).toNat : Nat) : Int) := by omega
        simp only [f4, i64_w ((i + y : Nat) : Int) (by omega), hgn', Nat.mul_one, Nat.zero_add, hcell, ↓gaW, ↓gaV, ↓gaC, ↓gaN, gaP, Nat.reduceEqDiff, Nat.reduceLeDiff, Nat.reduceAdd, Nat.reduceSub, Nat.reduceMul, Int.reduceLT, Int.reduceLE, Int.reduceEq, Int.reduceToNat, Int.reduceAdd, Int.reduceSub, Int.reduceMul, reduceCtorEq, ↓reduceIte, h0, h1, h5, h6, h7, h8, u64_i ((w'.getD (i + y) 0).toNat : Int) (by omega), f2, u64_i ((cy + (w'.getD (i + y) 0).toNat : Nat) : Int) (by omega)]
        repeat refine And.intro (by first | omega | (simp; omega)) ?_
        refine callQ_of (ct_rpart (hr.keep (by omega) hg') (by omega) (by omega)) (fun v n1 g1 l1 k1 hC => ?_)
        rw [← lv_get] at hC
        subst hC
        have hg1 : ∀ p, p < nx → g1 p = gt p := fun p hp => by rw [k1 p (by omega), hg' p hp]
        simp only [↓gaW, ↓gaV, ↓gaC, ↓gaN, gaP, Nat.reduceEqDiff, Nat.reduceLeDiff, Nat.reduceAdd, Nat.reduceSub, Nat.reduceMul, Int.reduceLT, Int.reduceLE, Int.reduceEq, Int.reduceToNat, Int.reduceAdd, Int.reduceSub, Int.reduceMul, reduceCtorEq, ↓reduceIte, h0, h1, h5, h6, h7, h8]
        refine callQ_of (ct_rpart (hs.keep (by omega) hg1) (by omega) (by omega)) (fun v n2 g2 l2 k2 hC => ?_)
        rw [← lv_get] at hC
        subst hC
        have hg2 : ∀ p, p < nx → g2 p = gt p := fun p hp => by rw [k2 p (by omega), hg1 p hp]
        have gn2 : g2 nx = some (.cells (w'.map u32V) false) := by rw [k2 nx (by omega), k1 nx (by omega), hgn']
        have lx := lt32 (l.getD i 0)
        have ly := lt32 (k.getD y 0)
        have hxy : (l.getD i 0).toNat * (k.getD y 0).toNat ≤ 4294967295 * 4294967295 := Nat.mul_le_mul (by omega) (by omega)
        have f1 : ((l.getD i 0).toNat : Int) * ((k.getD y 0).toNat : Int) = (((l.getD i 0).toNat * (k.getD y 0).toNat : Nat) : Int) := by simp
        have htk : lv (k.take (y + 1)) = lv (k.take y) + 4294967296 ^ y * (k.getD y 0).toNat := lv_take' k y
        have hset := lv_set (w := w') (i := i + y) (x := UInt32.ofNat (cy + ((w'.getD (i + y) 0).toNat + (l.getD i 0).toNat * (k.getD y 0).toNat))) (by omega)
        have hzy : y = m → (w'.getD (i + y) 0).toNat = 0 ∧ (k.getD y 0).toNat = 0 := fun h => ⟨by rw [hz' _ (Nat.le_refl _), hz _ (by omega)]; rfl, by rw [List.getD_eq_getElem?_getD, List.getElem?_eq_none (by omega)]; rfl⟩
        generalize hX : (l.getD i 0).toNat = X at *
        generalize hY : (k.getD y 0).toNat = Y at *
        generalize hO : (w'.getD (i + y) 0).toNat = O at *
        generalize hM : X * Y = M at *
        have f3 : ((cy + O : Nat) : Int) + (M : Int) = ((cy + (O + M) : Nat) : Int) := by omega
        have f5 : shrV .u64 ((cy + (O + M) : Nat) : Int) 32 = (((cy + (O + M)) / 4294967296 : Nat) : Int) := shr_nat _ 32 (by decide)
        have f6 : (y : Int) + 1 = ((y + 1 : Nat) : Int) := by omega
        have hlast : y + 1 = m + 1 → (cy + (O + M)) / 4294967296 = 0 := fun h => by
          have h2 := hzy (by omega)
          rw [h2.2, Nat.mul_zero] at hM
          omega
        simp only [↓gaW, ↓gaV, ↓gaC, ↓gaN, gaP, Nat.reduceEqDiff, Nat.reduceLeDiff, Nat.reduceAdd, Nat.reduceSub, Nat.reduceMul, Int.reduceLT, Int.reduceLE, Int.reduceEq, Int.reduceToNat, Int.reduceAdd, Int.reduceSub, Int.reduceMul, reduceCtorEq, ↓reduceIte, h0, h1, h5, h6, h7, h8, f1, u64_i (M : Int) (by omega), f3, u64_i ((cy + (O + M) : Nat) : Int) (by omega), f4, i64_w ((i + y : Nat) : Int) (by omega), gn2, Nat.mul_one, Nat.zero_add, f5, f6, i64_w ((y + 1 : Nat) : Int) (by omega), u32_m, u32V_of, cv_u32, splice_set (show i + y < w'.length by omega), loopK_n]
        repeat refine And.intro (by first | omega | (simp; omega) | exact all1 (cl_u32 _)) ?_
        refine ⟨m + 2 - (y + 1), by omega, y + 1, (cy + (O + M)) / 4294967296, n2, upd g2 nx (some (.cells ((w'.set (i + y) (UInt32.ofNat (cy + (O + M)))).map u32V) false)), w'.set (i + y) (UInt32.ofNat (cy + (O + M))), ?_⟩
        (repeat' refine And.intro ?_ ?_) <;> first | rfl | assumption | omega | (intro q hq; simp (disch := omega) only [upd_e, if_neg, hg2]; done) | (simp only [upd_e, if_true]; done) | skip
        · simp [hw']
        · rw [ofNat32] at hset
          have h9 := mul_step hset he'
          have h10 : 4294967296 ^ i * (X * (4294967296 ^ y * Y)) = 4294967296 ^ (i + y) * M := by rw [Nat.pow_add, ← hM]; ac_rfl
          rw [← Nat.add_assoc i y 1, Nat.pow_succ, h9, htk, Nat.mul_add X, Nat.mul_add (4294967296 ^ i), h10, Nat.add_assoc]
        · intro j hj
          rw [set_getD_ne (by omega)]
          exact hz' j (by omega)
      · have hc0 : cy = 0 := by omega
        subst hc0
        rw [List.take_of_length_le (show k.length ≤ y by omega), Nat.mul_zero, Nat.add_zero] at he'
        simp only [↓gaW, ↓gaV, ↓gaC, ↓gaN, gaP, Nat.reduceEqDiff, Nat.reduceLeDiff, Nat.reduceAdd, Nat.reduceSub, Nat.reduceMul, Int.reduceLT, Int.reduceLE, Int.reduceEq, Int.reduceToNat, Int.reduceAdd, Int.reduceSub, Int.reduceMul, reduceCtorEq, ↓reduceIte, h0, h1, h5, h6, h7, h8, s1, s2, decide_false, e2, i64_w ((i + 1 : Nat) : Int) (by omega), loopK_e, loopK_n]
        refine ⟨n - (i + 1), by omega, i + 1, x, g', w', ?_⟩
        (repeat' refine And.intro ?_ ?_) <;> first | rfl | assumption | omega | (intro q hq; simp (disch := omega) only [upd_e, if_neg, hg']; done) | (simp only [upd_e, if_true]; done) | skip
        · rw [lv_take', Nat.add_mul, ← he, Nat.mul_assoc]; exact he'
        · intro j hj
          rcases Nat.lt_or_ge j (i + y) with h | h
          · omega
          · rw [hz' j h]; exact hz j (by omega)
  · have hin : i = n := by omega
    subst hin
    rw [List.take_of_length_le (show l.length ≤ i by omega)] at he
    simp only [↓gaW, ↓gaV, ↓gaC, ↓gaN, gaP, Nat.reduceEqDiff, Nat.reduceLeDiff, Nat.reduceAdd, Nat.reduceSub, Nat.reduceMul, Int.reduceLT, Int.reduceLE, Int.reduceEq, Int.reduceToNat, Int.reduceAdd, Int.reduceSub, Int.reduceMul, reduceCtorEq, ↓reduceIte, gaE, implies_true, Nat.le_refl, Int.sub_zero, Nat.sub_zero, Int.le_refl, true_or, or_true, h0, h5, h6, hlt, decide_false, loopK_e]
    refine callK_of (ct_rBare (Row.w32 (by omega) hgn hw) (Nat.le_refl _) (by omega)) (fun v n1 g1 l1 k1 hC => ?_) (by omega)
    rw [he] at hC
    simp only [↓gaW, ↓gaV, ↓gaC, ↓gaN, gaP, Nat.reduceEqDiff, Nat.reduceLeDiff, Nat.reduceAdd, Nat.reduceSub, Nat.reduceMul, Int.reduceLT, Int.reduceLE, Int.reduceEq, Int.reduceToNat, Int.reduceAdd, Int.reduceSub, Int.reduceMul, reduceCtorEq, ↓reduceIte, gaE, implies_true, Nat.le_refl, Int.sub_zero, Nat.sub_zero, Int.le_refl, true_or, or_true]
    exact ⟨by omega, fun q hq => by rw [k1 q (by omega), hg q hq], hC⟩
end
end Go.Ga

namespace Go.Ga
open Go Go.Proofs
set_option linter.unusedSimpArgs false
set_option linter.unusedVariables false
set_option maxRecDepth 100000
attribute [local irreducible] appendK

section
variable {nx : Nat} {gt : Nat → Option Blk}

theorem shl_u64_32 (x : Nat) (h : x < 4294967296) : shlV .u64 (x : Int) 32 = ((4294967296 * x : Nat) : Int) := by
  simp only [shlV, IntKind.bits]
  show IntKind.u64.wrap ((x : Int) * 2 ^ 32) = _
  rw [show (2 : Int) ^ 32 = 4294967296 from rfl, u64_i _ (by omega)]
  omega

theorem ct_Div32 {h l y : Nat} (hy : h < y) (hY : y < 4294967296) (hl : l < 4294967296) :
    Ct Try.prog 96 [.int .u32 (h : Nat), .int .u32 (l : Nat), .int .u32 (y : Nat)] nx gt fun v _ _ => v = .tuple #[.int .u32 ((h * 4294967296 + l) / y : Nat), .int .u32 ((h * 4294967296 + l) % y : Nat)] := by
  refine Ct.of hmx r_math_bits_Div32 (by simp [c_math_bits_Div32]) fun b hb => ?_
  obtain ⟨z, hz⟩ : ∃ z, h * 4294967296 + l = z := ⟨_, rfl⟩
  have h1 : ¬ (y : Int) = 0 := by omega
  have h2 : ¬ (y : Int) ≤ (h : Int) := by omega
  have o1 : bitsV .or .u64 ((4294967296 * h : Nat) : Int) (l : Int) = (z : Int) := by
    rw [or_u64 (by omega) (by omega)]
    have := Nat.two_pow_add_eq_or_of_lt (i := 32) hl h
    rw [show (2 : Nat) ^ 32 = 4294967296 from rfl] at this
    rw [← this, ← hz, Nat.mul_comm]
  have q1 : (z : Int).tdiv (y : Int) = ((z / y : Nat) : Int) := rfl
  have q2 : (z : Int).tmod (y : Int) = ((z % y : Nat) : Int) := rfl
  have z1 : z / y < 4294967296 := by
    rw [Nat.div_lt_iff_lt_mul (by omega), ← hz]
    have : (h + 1) * 4294967296 ≤ y * 4294967296 := Nat.mul_le_mul_right _ hy
    omega
  have z2 : z % y < 4294967296 := Nat.lt_trans (Nat.mod_lt _ (by omega)) hY
  rw [hz]
  obtain ⟨D, hD⟩ : ∃ D, z / y = D := ⟨_, rfl⟩
  obtain ⟨R, hR⟩ : ∃ R, z % y = R := ⟨_, rfl⟩
  rw [hD] at q1 z1 ⊢
  rw [hR] at q2 z2 ⊢
  simp only [c_math_bits_Div32, ↓gaW, ↓gaV, ↓gaC, ↓gaN, gaP, Nat.reduceEqDiff, Nat.reduceLeDiff, Nat.reduceAdd, Nat.reduceSub, Nat.reduceMul, Int.reduceLT, Int.reduceLE, Int.reduceEq, Int.reduceToNat, Int.reduceAdd, Int.reduceSub, Int.reduceMul, reduceCtorEq, ↓reduceIte, gaE, implies_true, Nat.le_refl, Int.sub_zero, Nat.sub_zero, Int.le_refl, true_or, or_true, h1, h2, decide_true, decide_false, not_false_eq_true, u64_i (h : Int) (by omega), u64_i (l : Int) (by omega), u64_i (y : Int) (by omega), shl_u64_32 h (by omega), o1, q1, q2, u64_i (D : Int) (by omega), u32_i (D : Int) (by omega), u32_i (R : Int) (by omega), ne_eq]

theorem ct_Lead {x : Nat} (hx : x < 4294967296) : Ct Try.prog 86 [.int .u32 (x : Nat)] nx gt fun v _ _ => v = .int .i64 ((32 - bl x : Nat) : Int) := by
  refine Ct.of hmx r_math_bits_LeadingZeros32 (by simp [c_math_bits_LeadingZeros32]) fun b hb => ?_
  simp only [c_math_bits_LeadingZeros32, ↓gaW, ↓gaV, ↓gaC, ↓gaN, gaP, Nat.reduceEqDiff, Nat.reduceLeDiff, Nat.reduceAdd, Nat.reduceSub, Nat.reduceMul, Int.reduceLT, Int.reduceLE, Int.reduceEq, Int.reduceToNat, Int.reduceAdd, Int.reduceSub, Int.reduceMul, reduceCtorEq, ↓reduceIte]
  refine callK_of (ct_Len32 hx) (fun v n1 g1 l1 k1 hC => ?_) (by omega)
  subst hC
  have := bl_le.2 (show x < 2 ^ 32 from hx)
  simp only [↓gaW, ↓gaV, ↓gaC, ↓gaN, gaP, Nat.reduceEqDiff, Nat.reduceLeDiff, Nat.reduceAdd, Nat.reduceSub, Nat.reduceMul, Int.reduceLT, Int.reduceLE, Int.reduceEq, Int.reduceToNat, Int.reduceAdd, Int.reduceSub, Int.reduceMul, reduceCtorEq, ↓reduceIte, gaE, implies_true, Nat.le_refl, Int.sub_zero, Nat.sub_zero, Int.le_refl, true_or, or_true, i64_w (32 - ((bl x : Nat) : Int)) (by omega)]
  exact ⟨by omega, k1, by congr 1; omega⟩

theorem ct_small {A : Option Addr} {n c m : Nat} {l : List UInt32} (hr : Row nx gt 1 A n (l.map u32V)) (hn : n < 100000000) (hm : m < 4294967296) (h0 : 0 < m) :
    Ct Try.prog 85 [.slice A n c, .int .u32 (m : Nat)] nx gt fun v nx' gt' => ∃ v1 v2, v = .tuple #[v1, v2] ∧ W32 nx' gt' v1 (lb (lv l / m)) ∧ W32 nx' gt' v2 (lb (lv l % m)) := by
  have hl : l.length = n := by simpa using hr.len
  refine Ct.of hmx r_modulo_small (by simp [c_modulo_small]) fun b hb => ?_
  simp only [c_modulo_small, ↓gaW, ↓gaV, ↓gaC, ↓gaN, gaP, Nat.reduceEqDiff, Nat.reduceLeDiff, Nat.reduceAdd, Nat.reduceSub, Nat.reduceMul, Int.reduceLT, Int.reduceLE, Int.reduceEq, Int.reduceToNat, Int.reduceAdd, Int.reduceSub, Int.reduceMul, reduceCtorEq, ↓reduceIte, zeros32, i64_w ((n : Int) - 1) (by omega)]
  repeat refine And.intro (by first | omega | simp) ?_
  refine loop_of (fun j f mm => ∃ (y r x : Nat) (g : Nat → Option Blk) (w : List UInt32), j = y ∧ y ≤ n ∧ r < m ∧ f 0 = .slice A n c ∧ f 1 = .int .u32 (m : Nat) ∧ f 6 = .slice (some ⟨nx, 0, none⟩) n n ∧ f 7 = .int .u32 (r : Nat) ∧ f 8 = .int .i64 ((y : Int) - 1) ∧ mm = ⟨x, b, g⟩ ∧ nx + 1 ≤ x ∧
      (∀ q, q < nx → g q = gt q) ∧ g nx = some (.cells (w.map u32V) false) ∧ w.length = n ∧ lv (w.drop y) * m + r = lv (l.drop y)) n
    ⟨n, 0, nx + 1, _, List.replicate n 0, rfl, by omega, by omega, rfl, rfl, rfl, rfl, rfl, rfl, by omega, fun q hq => by simp only [upd_e]; rw [if_neg (by omega)], by simp only [upd_e, if_true], by simp, by simp [List.drop_of_length_le, hl, lv]⟩ ?_
  rintro j f mm ⟨y, r, x, g, w, rfl, hy, hrm, h0', h1, h6, h7, h8, rfl, hx, hg, hgn, hw, he⟩
  rcases Nat.eq_zero_or_pos j with rfl | hj
  · simp only [↓gaW, ↓gaV, ↓gaC, ↓gaN, gaP, Nat.reduceEqDiff, Nat.reduceLeDiff, Nat.reduceAdd, Nat.reduceSub, Nat.reduceMul, Int.reduceLT, Int.reduceLE, Int.reduceEq, Int.reduceToNat, Int.reduceAdd, Int.reduceSub, Int.reduceMul, reduceCtorEq, ↓reduceIte, h0', h1, h6, h7, h8, show ((0 : Nat) : Int) - 1 = -1 from rfl, show ¬ (0 : Int) ≤ -1 by omega, decide_false, loopK_e]
    rw [List.drop_zero, List.drop_zero] at he
    have hq : lv w = lv l / m := by
      rw [← he, Nat.add_comm, Nat.add_mul_div_right _ _ h0, Nat.div_eq_of_lt hrm, Nat.zero_add]
    have hr2 : r = lv l % m := by
      rw [← he, Nat.add_comm, Nat.add_mul_mod_self_right, Nat.mod_eq_of_lt hrm]
    refine callK_of (ct_Bare (Row.w32 (by omega) hgn hw) (Nat.le_refl _) (by omega)) (fun v n1 g1 l1 k1 hC => ?_) (by omega)
    rw [hq] at hC
    obtain ⟨A1, a1, c1, rfl, hc1, hl1, r1⟩ := hC
    simp only [↓gaW, ↓gaV, ↓gaC, ↓gaN, gaP, Nat.reduceEqDiff, Nat.reduceLeDiff, Nat.reduceAdd, Nat.reduceSub, Nat.reduceMul, Int.reduceLT, Int.reduceLE, Int.reduceEq, Int.reduceToNat, Int.reduceAdd, Int.reduceSub, Int.reduceMul, reduceCtorEq, ↓reduceIte, List.getD_cons_zero, List.getD_cons_succ, fillL, splice, List.take_zero, List.drop_zero, List.drop_succ_cons, List.take_succ_cons, List.drop_nil, List.take_nil, h7, u32V_lt (show r < 4294967296 by omega), cv_u32]
    have r2 : Row (n1 + 1) (upd g1 n1 (some (.cells [u32V (UInt32.ofNat r)] false))) 1 (some ⟨n1, 0, none⟩) 1 (([UInt32.ofNat r] : List UInt32).map u32V) := Row.w32 (ro := false) (by omega) (by simp [upd]) rfl
    refine callK_of (ct_Bare r2 (Nat.le_refl _) (by omega)) (fun v n2 g2 l2 k2 hC => ?_) (by omega)
    have hl2 : lv [UInt32.ofNat r] = lv l % m := by rw [← hr2]; simp only [lv, ofNat32]; omega
    rw [hl2] at hC
    simp only [↓gaW, ↓gaV, ↓gaC, ↓gaN, gaP, Nat.reduceEqDiff, Nat.reduceLeDiff, Nat.reduceAdd, Nat.reduceSub, Nat.reduceMul, Int.reduceLT, Int.reduceLE, Int.reduceEq, Int.reduceToNat, Int.reduceAdd, Int.reduceSub, Int.reduceMul, reduceCtorEq, ↓reduceIte, gaE, implies_true, Nat.le_refl, Int.sub_zero, Nat.sub_zero, Int.le_refl, true_or, or_true]
    have hk : ∀ p, p < n1 → g2 p = g1 p := fun p hp => by rw [k2 p (by omega)]; simp only [upd_e]; rw [if_neg (by omega)]
    refine ⟨by omega, fun p hp => by rw [hk p (by omega), k1 p (by omega), hg p hp], _, _, rfl, ⟨A1, a1, c1, rfl, hc1, hl1, r1.keep (by omega) hk⟩, hC⟩
  · obtain ⟨z, rfl⟩ : ∃ z, j = z + 1 := ⟨j - 1, by omega⟩
    rw [show ((z + 1 : Nat) : Int) - 1 = (z : Int) by omega] at h8
    obtain ⟨a, ce, ro, rfl, a1, a2, a3, a4⟩ := w32_cell hr hl (i := z) (by omega)
    have a2' : g a.block = some (.cells ce ro) := by rw [hg _ a1, a2]
    have lx := lt32 (l.getD z 0)
    have hd := lv_drop_cons (l := l) (i := z) (by omega)
    obtain ⟨X, hX⟩ : ∃ X, (l.getD z 0).toNat = X := ⟨_, rfl⟩
    rw [hX] at a4 lx hd
    simp only [↓gaW, ↓gaV, ↓gaC, ↓gaN, gaP, Nat.reduceEqDiff, Nat.reduceLeDiff, Nat.reduceAdd, Nat.reduceSub, Nat.reduceMul, Int.reduceLT, Int.reduceLE, Int.reduceEq, Int.reduceToNat, Int.reduceAdd, Int.reduceSub, Int.reduceMul, reduceCtorEq, ↓reduceIte, h0', h1, h6, h7, h8, show (0 : Int) ≤ (z : Int) by omega, decide_true, a2', a4]
    repeat refine And.intro (by omega) ?_
    refine callK_of (ct_Div32 hrm hm lx) (fun v n1 g1 l1 k1 hC => ?_) (by omega)
    obtain ⟨D, hD⟩ : ∃ D, (r * 4294967296 + X) / m = D := ⟨_, rfl⟩
    obtain ⟨R, hR⟩ : ∃ R, (r * 4294967296 + X) % m = R := ⟨_, rfl⟩
    have hDR := Nat.div_add_mod (r * 4294967296 + X) m
    have hRm : R < m := by rw [← hR]; exact Nat.mod_lt _ h0
    have hD2 : D < 4294967296 := by
      rw [← hD, Nat.div_lt_iff_lt_mul h0]
      have : (r + 1) * 4294967296 ≤ m * 4294967296 := Nat.mul_le_mul_right _ hrm
      omega
    rw [hD, hR] at hC hDR
    subst hC
    have gn := (k1 nx (by omega)).trans hgn
    simp only [↓gaW, ↓gaV, ↓gaC, ↓gaN, gaP, Nat.reduceEqDiff, Nat.reduceLeDiff, Nat.reduceAdd, Nat.reduceSub, Nat.reduceMul, Int.reduceLT, Int.reduceLE, Int.reduceEq, Int.reduceToNat, Int.reduceAdd, Int.reduceSub, Int.reduceMul, reduceCtorEq, ↓reduceIte, h8, gn, Nat.mul_one, Nat.zero_add, u32V_lt hD2, cv_u32, splice_set (show z < w.length by omega), i64_w ((z : Int) - 1) (by omega), loopK_n]
    repeat refine And.intro (by first | omega | (simp; omega) | exact all1 (cl_u32 _)) ?_
    refine ⟨z, by omega, z, R, n1, upd g1 nx (some (.cells ((w.set z (UInt32.ofNat D)).map u32V) false)), w.set z (UInt32.ofNat D), ?_⟩
    (repeat' refine And.intro ?_ ?_) <;> first | rfl | assumption | omega | (intro q hq; simp (disch := omega) only [upd_e, if_neg, k1, hg]; done) | (simp only [upd_e, if_true]; done) | skip
    · simp [hw]
    · have hwd := lv_drop_cons (l := w.set z (UInt32.ofNat D)) (i := z) (by simp; omega)
      have hg0 : (w.set z (UInt32.ofNat D)).getD z 0 = UInt32.ofNat D := by simp [List.getD_eq_getElem?_getD, List.getElem?_set, show z < w.length by omega]
      rw [hg0, ofNat32, Nat.mod_eq_of_lt hD2, List.drop_set_of_lt (show z < z + 1 by omega)] at hwd
      rw [hwd, hd, Nat.add_mul, Nat.mul_assoc, ← he, Nat.mul_add, Nat.mul_comm D m]
      omega
end
end Go.Ga

/- Numbers, moved by less than a word. -/
namespace Go.Ga
open Go

theorem shl32w {x s : Nat} (hs : s ≤ 32) : shlV .u32 (x : Int) (s : Int) = ((x * 2 ^ s % 4294967296 : Nat) : Int) := by
  simp only [shlV, IntKind.bits, Int.toNat_natCast]
  rw [Nat.min_eq_left hs, u32_w, show (x : Int) * 2 ^ s = ((x * 2 ^ s : Nat) : Int) by rw [Int.natCast_mul, Int.natCast_pow]; rfl]
  omega
theorem low_or {c x s : Nat} (hs : s ≤ 32) (hc : c < 2 ^ s) : (c ||| (x * 2 ^ s % 4294967296)) = c + x * 2 ^ s % 4294967296 ∧ c + x * 2 ^ s % 4294967296 < 4294967296 := by
  have e : (4294967296 : Nat) = 2 ^ (32 - s) * 2 ^ s := by rw [← Nat.pow_add, show 32 - s + s = 32 by omega]
  have h1 : x * 2 ^ s % 4294967296 = 2 ^ s * (x % 2 ^ (32 - s)) := by
    rw [e, Nat.mul_mod_mul_right, Nat.mul_comm]
  have h2 := Nat.two_pow_add_eq_or_of_lt hc (x % 2 ^ (32 - s))
  refine ⟨by rw [h1, Nat.or_comm, ← h2, Nat.add_comm], ?_⟩
  rw [h1]
  have h3 : x % 2 ^ (32 - s) < 2 ^ (32 - s) := Nat.mod_lt _ (Nat.pow_pos (by decide))
  have h4 : 2 ^ s * (x % 2 ^ (32 - s) + 1) ≤ 2 ^ s * 2 ^ (32 - s) := Nat.mul_le_mul_left _ h3
  rw [Nat.mul_comm (2 ^ s) (2 ^ (32 - s)), ← e, Nat.mul_add] at h4
  omega
theorem hi_part {x s : Nat} (hs : s ≤ 32) : x / 2 ^ (32 - s) = x * 2 ^ s / 4294967296 := by
  have e : (4294967296 : Nat) = 2 ^ (32 - s) * 2 ^ s := by rw [← Nat.pow_add, show 32 - s + s = 32 by omega]
  rw [e, Nat.mul_div_mul_right _ _ (Nat.pow_pos (by decide))]
theorem hi_lt {x s : Nat} (hx : x < 4294967296) : x * 2 ^ s / 4294967296 < 2 ^ s := by
  rw [Nat.div_lt_iff_lt_mul (by decide), Nat.mul_comm (2 ^ s)]
  exact Nat.mul_lt_mul_of_pos_right hx (Nat.pow_pos (by decide))

/-- What one turn of the loop upward does. -/
theorem up_step {w : List UInt32} {l : List UInt32} {i s n : Nat} (hw : w.length = n + 1) (hi : i < n) (hs : s ≤ 32) (h : lv w = lv (l.take i) * 2 ^ s) (hc : (w.getD i 0).toNat < 2 ^ s) (hz : ∀ j, i < j → w.getD j 0 = 0) :
    lv ((w.set i (UInt32.ofNat ((w.getD i 0).toNat + (l.getD i 0).toNat * 2 ^ s % 4294967296))).set (i + 1) (UInt32.ofNat ((l.getD i 0).toNat * 2 ^ s / 4294967296))) = lv (l.take (i + 1)) * 2 ^ s := by
  obtain ⟨x, hx⟩ : ∃ x, (l.getD i 0).toNat = x := ⟨_, rfl⟩
  obtain ⟨c, hc'⟩ : ∃ c, (w.getD i 0).toNat = c := ⟨_, rfl⟩
  have hx32 := lt32 (l.getD i 0)
  rw [hx] at hx32
  rw [lv_take', hx, hc']
  rw [hc'] at hc
  have h1 := lv_set (w := w) (i := i) (x := UInt32.ofNat (c + x * 2 ^ s % 4294967296)) (by omega)
  rw [hc', ofNat32, Nat.mod_eq_of_lt (low_or hs hc).2, Nat.mul_add] at h1
  obtain ⟨w1, hw1⟩ : ∃ w1, w.set i (UInt32.ofNat (c + x * 2 ^ s % 4294967296)) = w1 := ⟨_, rfl⟩
  rw [hw1] at h1 ⊢
  have hlen : w1.length = n + 1 := by rw [← hw1]; simp [hw]
  have h2 := lv_set (w := w1) (i := i + 1) (x := UInt32.ofNat (x * 2 ^ s / 4294967296)) (by omega)
  have hz1 : w1.getD (i + 1) 0 = 0 := by rw [← hw1, set_getD_ne (by omega)]; exact hz _ (by omega)
  have hhi : x * 2 ^ s / 4294967296 < 4294967296 := by
    have h3 := hi_lt (s := s) hx32
    have h4 : (2 : Nat) ^ s ≤ 2 ^ 32 := Nat.pow_le_pow_right (by decide) hs
    omega
  rw [hz1, ofNat32, Nat.mod_eq_of_lt hhi, show (0 : UInt32).toNat = 0 from rfl, Nat.mul_zero, Nat.add_zero, Nat.pow_succ] at h2
  have h5 := carry_step (4294967296 ^ i) (x * 2 ^ s)
  rw [h2, Nat.add_mul, Nat.mul_assoc (4294967296 ^ i) x, ← h, ← h5]
  omega

theorem R_low {l : List UInt32} {i : Nat} : lv (l.drop i) % 4294967296 = (l.getD i 0).toNat := by
  rcases Nat.lt_or_ge i l.length with h | h
  · rw [lv_drop_cons h, Nat.add_mul_mod_self_left, Nat.mod_eq_of_lt (lt32 _)]
  · rw [List.drop_of_length_le h, List.getD_eq_getElem?_getD, List.getElem?_eq_none h]; rfl
theorem down_num {x R s : Nat} (hs : s ≤ 32) : (x + 4294967296 * R) / 2 ^ s = (x / 2 ^ s + R % 4294967296 * 2 ^ (32 - s) % 4294967296) + 4294967296 * (R / 2 ^ s) := by
  have e : (4294967296 : Nat) = 2 ^ (32 - s) * 2 ^ s := by rw [← Nat.pow_add, show 32 - s + s = 32 by omega]
  have h1 : (x + 4294967296 * R) / 2 ^ s = x / 2 ^ s + R * 2 ^ (32 - s) := by
    rw [show x + 4294967296 * R = x + 2 ^ s * (R * 2 ^ (32 - s)) by rw [e]; ac_rfl, Nat.add_mul_div_left _ _ (Nat.pow_pos (by decide))]
  have h2 : R * 2 ^ (32 - s) / 4294967296 = R / 2 ^ s := by
    rw [e, Nat.mul_comm R, Nat.mul_div_mul_left _ _ (Nat.pow_pos (by decide))]
  have h3 : R % 4294967296 * 2 ^ (32 - s) % 4294967296 = R * 2 ^ (32 - s) % 4294967296 := by
    rw [Nat.mul_mod, Nat.mod_mod, ← Nat.mul_mod]
  have h4 := Nat.div_add_mod (R * 2 ^ (32 - s)) 4294967296
  rw [h1, h3]
  rw [h2] at h4
  omega
theorem down_step {w : List UInt32} {n i s T : Nat} (hn : n ≤ w.length) (hi : i < n) (hs : s ≤ 32) (h : lv (w.take i) + 4294967296 ^ i * (lv ((w.take n).drop i) / 2 ^ s) = T)
    (hN : (w.getD i 0).toNat / 2 ^ s + ((w.take n).getD (i + 1) 0).toNat * 2 ^ (32 - s) % 4294967296 < 4294967296) :
    lv ((w.set i (UInt32.ofNat ((w.getD i 0).toNat / 2 ^ s + ((w.take n).getD (i + 1) 0).toNat * 2 ^ (32 - s) % 4294967296))).take (i + 1)) +
      4294967296 ^ (i + 1) * (lv (((w.set i (UInt32.ofNat ((w.getD i 0).toNat / 2 ^ s + ((w.take n).getD (i + 1) 0).toNat * 2 ^ (32 - s) % 4294967296))).take n).drop (i + 1)) / 2 ^ s) = T := by
  rw [lv_set_take (by omega), ofNat32, Nat.mod_eq_of_lt hN]
  have e1 : ∀ x, ((w.set i x).take n).drop (i + 1) = (w.take n).drop (i + 1) := fun x => by
    rw [List.take_set, List.drop_set_of_lt (show i < i + 1 by omega)]
  rw [e1, ← h]
  have h2 := lv_drop_cons (l := w.take n) (i := i) (by simp; omega)
  have h3 : (w.take n).getD i 0 = w.getD i 0 := by simp [List.getD_eq_getElem?_getD, hi]
  rw [h3] at h2
  rw [h2, down_num hs, R_low, Nat.pow_succ, Nat.add_assoc, Nat.mul_assoc (4294967296 ^ i) 4294967296, ← Nat.mul_add]
end Go.Ga

namespace Go.Ga
open Go Go.Proofs
set_option linter.unusedSimpArgs false
set_option linter.unusedVariables false
set_option maxRecDepth 100000
attribute [local irreducible] appendK

section
variable {nx : Nat} {gt : Nat → Option Blk}

/-- Words in a block of one's own. -/
def Own32 (lo nx : Nat) (gt : Nat → Option Blk) (v : Value) (w : List UInt32) : Prop := ∃ q, v = .slice (some ⟨q, 0, none⟩) w.length w.length ∧ lo ≤ q ∧ q < nx ∧ gt q = some (.cells (w.map u32V) false)

theorem ct_shifted {A : Option Addr} {n c s : Nat} {l : List UInt32} (hr : Row nx gt 1 A n (l.map u32V)) (hn : n < 100000000) (hs : s < 32) :
    Ct Try.prog 87 [.slice A n c, .int .i64 (s : Nat)] nx gt fun v nx' gt' => ∃ w, Own32 nx nx' gt' v w ∧ w.length = n + 1 ∧ lv w = lv l * 2 ^ s := by
  have hl : l.length = n := by simpa using hr.len
  refine Ct.of hmx r_modulo_shifted (by simp [c_modulo_shifted]) fun b hb => ?_
  have e1 : (n : Int) + 1 = ((n + 1 : Nat) : Int) := by omega
  simp only [c_modulo_shifted, ↓gaW, ↓gaV, ↓gaC, ↓gaN, gaP, Nat.reduceEqDiff, Nat.reduceLeDiff, Nat.reduceAdd, Nat.reduceSub, Nat.reduceMul, Int.reduceLT, Int.reduceLE, Int.reduceEq, Int.reduceToNat, Int.reduceAdd, Int.reduceSub, Int.reduceMul, reduceCtorEq, ↓reduceIte, e1, i64_w ((n + 1 : Nat) : Int) (by omega), zeros32]
  repeat refine And.intro (by first | omega | simp) ?_
  refine loop_of (fun j f mm => ∃ (i : Nat) (g : Nat → Option Blk) (w : List UInt32), j = n - i ∧ i ≤ n ∧ f 1 = .int .i64 (s : Nat) ∧ f 5 = .slice (some ⟨nx, 0, none⟩) (n + 1) (n + 1) ∧ f 12 = .slice A n c ∧ f 13 = .int .i64 (n : Nat) ∧ f 14 = .int .i64 (i : Nat) ∧ mm = ⟨nx + 1, b, g⟩ ∧
      (∀ q, q < nx → g q = gt q) ∧ g nx = some (.cells (w.map u32V) false) ∧ w.length = n + 1 ∧ lv w = lv (l.take i) * 2 ^ s ∧ (w.getD i 0).toNat < 2 ^ s ∧ ∀ j, i < j → w.getD j 0 = 0) n
    ⟨0, _, List.replicate (n + 1) 0, by omega, by omega, rfl, rfl, rfl, rfl, rfl, rfl, fun q hq => by simp only [upd_e]; rw [if_neg (by omega)], by simp only [upd_e, if_true], by simp, by simp [lv_replicate, lv], by
      have : (0 : Nat) < 2 ^ s := Nat.pow_pos (by decide)
      simpa [List.getD_eq_getElem?_getD] using this, fun j hj => by simp [List.getD_eq_getElem?_getD, List.getElem?_replicate]; split <;> rfl⟩ ?_
  rintro j f mm ⟨i, g, w, rfl, hi, h1, h5, h12, h13, h14, rfl, hg, hgn, hw, he, hcb, hz⟩
  by_cases hlt : (i : Int) < (n : Int)
  · obtain ⟨a, ce, ro, rfl, a1, a2, a3, a4⟩ := w32_cell hr hl (i := i) (by omega)
    have a2' : g a.block = some (.cells ce ro) := by rw [hg _ a1, a2]
    have hup := up_step (l := l) (n := n) hw (by omega) (show s ≤ 32 by omega) he hcb hz
    have hx32 := lt32 (l.getD i 0)
    have ha5 : (w.map u32V).getD i undef = .int .u32 ((w.getD i 0).toNat : Nat) := getD_u32 (by omega)
    obtain ⟨x, hx⟩ : ∃ x, (l.getD i 0).toNat = x := ⟨_, rfl⟩
    obtain ⟨C, hC⟩ : ∃ C, (w.getD i 0).toNat = C := ⟨_, rfl⟩
    rw [hx] at hup hx32 a4
    rw [hC] at hup hcb ha5
    obtain ⟨o1, o2⟩ := low_or (x := x) (show s ≤ 32 by omega) hcb
    have o3 := or_u32 (x := C) (y := x * 2 ^ s % 4294967296) (by omega) (by omega)
    rw [o1] at o3
    have q1 : (i : Int) + 1 = ((i + 1 : Nat) : Int) := by omega
    have hhi := hi_lt (s := s) hx32
    have hhi2 : x * 2 ^ s / 4294967296 < 4294967296 := by
      have h4 : (2 : Nat) ^ s ≤ 2 ^ 32 := Nat.pow_le_pow_right (by decide) (by omega)
      omega
    by_cases hs0 : (0 : Int) < (s : Int)
    · have q2 : (32 : Int) - (s : Int) = ((32 - s : Nat) : Int) := by omega
      have q3 : shrV .u32 (x : Int) ((32 - s : Nat) : Int) = ((x * 2 ^ s / 4294967296 : Nat) : Int) := by rw [shr_nat (k := .u32) x (32 - s) (by show _ ≤ 32; omega), hi_part (by omega)]
      simp only [↓gaW, ↓gaV, ↓gaC, ↓gaN, gaP, Nat.reduceEqDiff, Nat.reduceLeDiff, Nat.reduceAdd, Nat.reduceSub, Nat.reduceMul, Int.reduceLT, Int.reduceLE, Int.reduceEq, Int.reduceToNat, Int.reduceAdd, Int.reduceSub, Int.reduceMul, reduceCtorEq, ↓reduceIte, h1, h5, h12, h13, h14, hlt, hs0, decide_true, a2', a4, hgn, ha5, shl32w (show s ≤ 32 by omega), o3, q1, q2, q3, i64_w ((i + 1 : Nat) : Int) (by omega), i64_w ((32 - s : Nat) : Int) (by omega), Nat.mul_one, Nat.zero_add, u32V_lt o2, u32V_lt hhi2, cv_u32, splice_set (show i < w.length by omega), splice_set (show i + 1 < (w.set i (UInt32.ofNat (C + x * 2 ^ s % 4294967296))).length by simp; omega), loopK_n]
      repeat refine And.intro (by first | omega | (simp; omega) | exact all1 (cl_u32 _)) ?_
      refine ⟨n - (i + 1), by omega, i + 1, upd (upd g nx (some (.cells ((w.set i (UInt32.ofNat (C + x * 2 ^ s % 4294967296))).map u32V) false))) nx (some (.cells (((w.set i (UInt32.ofNat (C + x * 2 ^ s % 4294967296))).set (i + 1) (UInt32.ofNat (x * 2 ^ s / 4294967296))).map u32V) false)), (w.set i (UInt32.ofNat (C + x * 2 ^ s % 4294967296))).set (i + 1) (UInt32.ofNat (x * 2 ^ s / 4294967296)), ?_⟩
      (repeat' refine And.intro ?_ ?_) <;> first | rfl | assumption | omega | (intro q hq; simp (disch := omega) only [upd_e, if_neg, hg]; done) | (simp only [upd_e, if_true]; done) | skip
      · simp [hw]
      · have : ((w.set i (UInt32.ofNat (C + x * 2 ^ s % 4294967296))).set (i + 1) (UInt32.ofNat (x * 2 ^ s / 4294967296))).getD (i + 1) 0 = UInt32.ofNat (x * 2 ^ s / 4294967296) := by
          simp [List.getD_eq_getElem?_getD, List.getElem?_set, show i + 1 < w.length by omega]
        rw [this, ofNat32, Nat.mod_eq_of_lt hhi2]
        exact hhi
      · intro j hj
        rw [set_getD_ne (by omega), set_getD_ne (by omega)]
        exact hz j (by omega)
    · have hs00 : s = 0 := by omega
      have hh0 : x * 2 ^ s / 4294967296 = 0 := by rw [hs00, Nat.pow_zero, Nat.mul_one]; exact Nat.div_eq_of_lt hx32
      have hlv : lv (w.set i (UInt32.ofNat (C + x * 2 ^ s % 4294967296))) = lv (l.take (i + 1)) * 2 ^ s := by
        rw [← hup, hh0]
        have h2 := lv_set (w := w.set i (UInt32.ofNat (C + x * 2 ^ s % 4294967296))) (i := i + 1) (x := UInt32.ofNat 0) (by simp; omega)
        have hz1 : (w.set i (UInt32.ofNat (C + x * 2 ^ s % 4294967296))).getD (i + 1) 0 = 0 := by rw [set_getD_ne (by omega)]; exact hz _ (by omega)
        rw [hz1] at h2
        exact (Nat.add_right_cancel h2).symm
      simp only [↓gaW, ↓gaV, ↓gaC, ↓gaN, gaP, Nat.reduceEqDiff, Nat.reduceLeDiff, Nat.reduceAdd, Nat.reduceSub, Nat.reduceMul, Int.reduceLT, Int.reduceLE, Int.reduceEq, Int.reduceToNat, Int.reduceAdd, Int.reduceSub, Int.reduceMul, reduceCtorEq, ↓reduceIte, h1, h5, h12, h13, h14, hlt, hs0, decide_true, decide_false, a2', a4, hgn, ha5, shl32w (show s ≤ 32 by omega), o3, q1, i64_w ((i + 1 : Nat) : Int) (by omega), Nat.mul_one, Nat.zero_add, u32V_lt o2, cv_u32, splice_set (show i < w.length by omega), loopK_n]
      repeat refine And.intro (by first | omega | (simp; omega) | exact all1 (cl_u32 _)) ?_
      refine ⟨n - (i + 1), by omega, i + 1, upd g nx (some (.cells ((w.set i (UInt32.ofNat (C + x * 2 ^ s % 4294967296))).map u32V) false)), w.set i (UInt32.ofNat (C + x * 2 ^ s % 4294967296)), ?_⟩
      (repeat' refine And.intro ?_ ?_) <;> first | rfl | assumption | omega | (intro q hq; simp (disch := omega) only [upd_e, if_neg, hg]; done) | (simp only [upd_e, if_true]; done) | skip
      · simp [hw]
      · rw [set_getD_ne (by omega), hz (i + 1) (by omega)]; exact Nat.pow_pos (by decide)
      · intro j hj
        rw [set_getD_ne (by omega)]
        exact hz j (by omega)
  · have hin : i = n := by omega
    subst hin
    rw [List.take_of_length_le (show l.length ≤ i by omega)] at he
    simp only [↓gaW, ↓gaV, ↓gaC, ↓gaN, gaP, Nat.reduceEqDiff, Nat.reduceLeDiff, Nat.reduceAdd, Nat.reduceSub, Nat.reduceMul, Int.reduceLT, Int.reduceLE, Int.reduceEq, Int.reduceToNat, Int.reduceAdd, Int.reduceSub, Int.reduceMul, reduceCtorEq, ↓reduceIte, gaE, implies_true, Nat.le_refl, Int.sub_zero, Nat.sub_zero, Int.le_refl, true_or, or_true, h5, h13, h14, hlt, decide_false, loopK_e]
    exact ⟨by omega, hg, w, ⟨nx, by rw [hw], by omega, by omega, hgn⟩, hw, he⟩
end
end Go.Ga

namespace Go.Ga
open Go Go.Proofs
set_option linter.unusedSimpArgs false
set_option linter.unusedVariables false
set_option maxRecDepth 100000
attribute [local irreducible] appendK

section
variable {nx : Nat} {gt : Nat → Option Blk}

theorem row_of_block {x q n : Nat} {g : Nat → Option Blk} {w : List UInt32} (hq : q < x) (hg : g q = some (.cells (w.map u32V) false)) (hn : n ≤ w.length) : Row x g 1 (some ⟨q, 0, none⟩) n ((w.take n).map u32V) :=
  ⟨fun a h => by injection h with h; subst h; exact .inl rfl, by simp; omega, fun h0 => ⟨_, _, false, rfl, hq, hg, by simp; omega, fun i hi => by
    rw [show (⟨q, 0, none⟩ : Addr).off + i = i from Nat.zero_add i, getD_u32 (by omega), getD_u32 (by simp; omega)]
    simp [List.getD_eq_getElem?_getD, hi]⟩⟩

theorem ct_back {q n c s : Nat} {w : List UInt32} (hq : q < nx) (hg0 : gt q = some (.cells (w.map u32V) false)) (hnw : n ≤ w.length) (hnc : n ≤ c) (hn : n < 100000000) (hs : s < 32) :
    Cw Try.prog 91 [.slice (some ⟨q, 0, none⟩) n c, .int .i64 (s : Nat)] q nx gt fun v nx' gt' => W32 nx' gt' v (lb (lv (w.take n) / 2 ^ s)) := by
  refine Cw.of hmx r_modulo_back (by simp [c_modulo_back]) fun b hb hbq => ?_
  simp only [c_modulo_back, ↓gaW, ↓gaV, ↓gaC, ↓gaN, gaP, Nat.reduceEqDiff, Nat.reduceLeDiff, Nat.reduceAdd, Nat.reduceSub, Nat.reduceMul, Int.reduceLT, Int.reduceLE, Int.reduceEq, Int.reduceToNat, Int.reduceAdd, Int.reduceSub, Int.reduceMul, reduceCtorEq, ↓reduceIte]
  refine loop_of (fun j f mm => ∃ (i : Nat) (g : Nat → Option Blk) (u : List UInt32), j = n - i ∧ i ≤ n ∧ f 0 = .slice (some ⟨q, 0, none⟩) n c ∧ f 1 = .int .i64 (s : Nat) ∧ f 7 = .int .i64 (n : Nat) ∧ f 8 = .int .i64 (i : Nat) ∧ mm = ⟨nx, b, g⟩ ∧
      (∀ p, p < nx → p ≠ q → g p = gt p) ∧ g q = some (.cells (u.map u32V) false) ∧ u.length = w.length ∧ lv (u.take i) + 4294967296 ^ i * (lv ((u.take n).drop i) / 2 ^ s) = lv (w.take n) / 2 ^ s) n
    ⟨0, gt, w, by omega, by omega, rfl, rfl, rfl, rfl, rfl, fun _ _ _ => rfl, hg0, rfl, by simp [lv]⟩ ?_
  rintro j f mm ⟨i, g, u, rfl, hi, h0, h1, h7, h8, rfl, hg, hgq, hu, he⟩
  by_cases hlt : (i : Int) < (n : Int)
  · have hx32 := lt32 (u.getD i 0)
    have ha : (u.map u32V).getD i undef = .int .u32 ((u.getD i 0).toNat : Nat) := getD_u32 (by omega)
    have hor := low_or (c := (u.getD i 0).toNat / 2 ^ s) (x := ((u.take n).getD (i + 1) 0).toNat) (s := 32 - s) (by omega) (by
      rw [Nat.div_lt_iff_lt_mul (Nat.pow_pos (by decide)), ← Nat.pow_add, show 32 - s + s = 32 by omega]; exact hx32)
    have hst := down_step (w := u) (n := n) (i := i) (s := s) (by omega) (by omega) (by omega) he hor.2
    obtain ⟨x, hx⟩ : ∃ x, (u.getD i 0).toNat = x := ⟨_, rfl⟩
    have q1 : (i : Int) + 1 = ((i + 1 : Nat) : Int) := by omega
    have q2 : (32 : Int) - (s : Int) = ((32 - s : Nat) : Int) := by omega
    have q3 : shrV .u32 (x : Int) (s : Int) = ((x / 2 ^ s : Nat) : Int) := shr_nat (k := .u32) x s (by show _ ≤ 32; omega)
    rw [hx] at hor hst ha hx32
    have hx2 : x / 2 ^ s < 4294967296 := Nat.lt_of_le_of_lt (Nat.div_le_self _ _) hx32
    have sp1 : splice (u.map u32V) i [.int .u32 ((x / 2 ^ s : Nat) : Int)] = (u.set i (UInt32.ofNat (x / 2 ^ s))).map u32V := by rw [u32V_lt hx2, splice_set (by omega)]
    by_cases hs0 : (0 : Int) < (s : Int)
    · by_cases hin : ((i + 1 : Nat) : Int) < (n : Int)
      · have hY : ((u.take n).getD (i + 1) 0) = u.getD (i + 1) 0 := by simp [List.getD_eq_getElem?_getD, show i + 1 < n by omega]
        rw [hY] at hor hst
        have ly := lt32 (u.getD (i + 1) 0)
        have hb1 : ((u.set i (UInt32.ofNat (x / 2 ^ s))).map u32V).getD (i + 1) undef = .int .u32 ((u.getD (i + 1) 0).toNat : Nat) := by
          rw [getD_u32 (by simp; omega), set_getD_ne (by omega)]
        have hb0 : ((u.set i (UInt32.ofNat (x / 2 ^ s))).map u32V).getD i undef = .int .u32 ((x / 2 ^ s : Nat) : Int) := by
          have e : (u.set i (UInt32.ofNat (x / 2 ^ s))).getD i 0 = UInt32.ofNat (x / 2 ^ s) := by simp [List.getD_eq_getElem?_getD, List.getElem?_set, show i < u.length by omega]
          rw [getD_u32 (by simp; omega), e, ofNat32, Nat.mod_eq_of_lt hx2]
        obtain ⟨y, hy⟩ : ∃ y, (u.getD (i + 1) 0).toNat = y := ⟨_, rfl⟩
        rw [hy] at hor hst ly hb1
        have o3 := or_u32 (x := x / 2 ^ s) (y := y * 2 ^ (32 - s) % 4294967296) (by omega) (by omega)
        rw [hor.1] at o3
        have sp2 : splice ((u.set i (UInt32.ofNat (x / 2 ^ s))).map u32V) i [.int .u32 ((x / 2 ^ s + y * 2 ^ (32 - s) % 4294967296 : Nat) : Int)] = (u.set i (UInt32.ofNat (x / 2 ^ s + y * 2 ^ (32 - s) % 4294967296))).map u32V := by
          rw [u32V_lt hor.2, splice_set (by simp; omega), List.set_set]
        simp only [↓gaW, ↓gaV, ↓gaC, ↓gaN, gaP, Nat.reduceEqDiff, Nat.reduceLeDiff, Nat.reduceAdd, Nat.reduceSub, Nat.reduceMul, Int.reduceLT, Int.reduceLE, Int.reduceEq, Int.reduceToNat, Int.reduceAdd, Int.reduceSub, Int.reduceMul, reduceCtorEq, ↓reduceIte, h0, h1, h7, h8, hlt, hs0, hin, decide_true, hgq, ha, q1, q2, q3, hb0, hb1, i64_w ((i + 1 : Nat) : Int) (by omega), i64_w ((32 - s : Nat) : Int) (by omega), shl32w (show 32 - s ≤ 32 by omega), o3, Nat.mul_one, Nat.zero_add, sp1, sp2, loopK_n]
        repeat refine And.intro (by first | omega | (simp; omega) | exact all1 rfl) ?_
        refine ⟨n - (i + 1), by omega, i + 1, upd (upd g q (some (.cells ((u.set i (UInt32.ofNat (x / 2 ^ s))).map u32V) false))) q (some (.cells ((u.set i (UInt32.ofNat (x / 2 ^ s + y * 2 ^ (32 - s) % 4294967296))).map u32V) false)), u.set i (UInt32.ofNat (x / 2 ^ s + y * 2 ^ (32 - s) % 4294967296)), ?_⟩
        refine ⟨rfl, by omega, rfl, rfl, fun p hp hpq => ?_, by simp only [upd_e, if_true], by simp [hu], hst⟩
        simp only [upd_e]
        simp only [if_neg hpq]
        exact hg p hp hpq
      · have hY : ((u.take n).getD (i + 1) 0).toNat * 2 ^ (32 - s) % 4294967296 = 0 := by
          have : (u.take n).getD (i + 1) 0 = 0 := by rw [List.getD_eq_getElem?_getD, List.getElem?_eq_none (by simp; omega)]; rfl
          rw [this]; simp
        rw [hY, Nat.add_zero] at hst
        simp only [↓gaW, ↓gaV, ↓gaC, ↓gaN, gaP, Nat.reduceEqDiff, Nat.reduceLeDiff, Nat.reduceAdd, Nat.reduceSub, Nat.reduceMul, Int.reduceLT, Int.reduceLE, Int.reduceEq, Int.reduceToNat, Int.reduceAdd, Int.reduceSub, Int.reduceMul, reduceCtorEq, ↓reduceIte, h0, h1, h7, h8, hlt, hs0, hin, decide_true, decide_false, hgq, ha, q1, q3, i64_w ((i + 1 : Nat) : Int) (by omega), Nat.mul_one, Nat.zero_add, sp1, loopK_n]
        repeat refine And.intro (by first | omega | (simp; omega) | exact all1 rfl) ?_
        refine ⟨n - (i + 1), by omega, i + 1, upd g q (some (.cells ((u.set i (UInt32.ofNat (x / 2 ^ s))).map u32V) false)), u.set i (UInt32.ofNat (x / 2 ^ s)), ?_⟩
        refine ⟨rfl, by omega, rfl, rfl, fun p hp hpq => ?_, by simp only [upd_e, if_true], by simp [hu], hst⟩
        simp only [upd_e]
        simp only [if_neg hpq]
        exact hg p hp hpq
    · have hY : ((u.take n).getD (i + 1) 0).toNat * 2 ^ (32 - s) % 4294967296 = 0 := by
        rw [show s = 0 by omega, Nat.sub_zero, show (2 : Nat) ^ 32 = 4294967296 from rfl, Nat.mul_mod_left]
      rw [hY, Nat.add_zero] at hst
      simp only [↓gaW, ↓gaV, ↓gaC, ↓gaN, gaP, Nat.reduceEqDiff, Nat.reduceLeDiff, Nat.reduceAdd, Nat.reduceSub, Nat.reduceMul, Int.reduceLT, Int.reduceLE, Int.reduceEq, Int.reduceToNat, Int.reduceAdd, Int.reduceSub, Int.reduceMul, reduceCtorEq, ↓reduceIte, h0, h1, h7, h8, hlt, hs0, decide_true, decide_false, hgq, ha, q1, q3, i64_w ((i + 1 : Nat) : Int) (by omega), Nat.mul_one, Nat.zero_add, sp1, loopK_n]
      repeat refine And.intro (by first | omega | (simp; omega) | exact all1 rfl) ?_
      refine ⟨n - (i + 1), by omega, i + 1, upd g q (some (.cells ((u.set i (UInt32.ofNat (x / 2 ^ s))).map u32V) false)), u.set i (UInt32.ofNat (x / 2 ^ s)), ?_⟩
      refine ⟨rfl, by omega, rfl, rfl, fun p hp hpq => ?_, by simp only [upd_e, if_true], by simp [hu], hst⟩
      simp only [upd_e]
      simp only [if_neg hpq]
      exact hg p hp hpq
  · have hin : i = n := by omega
    subst hin
    have hd : ((u.take i).drop i) = [] := by simp
    rw [hd, show lv [] / 2 ^ s = 0 by simp [lv], Nat.mul_zero, Nat.add_zero] at he
    simp only [↓gaW, ↓gaV, ↓gaC, ↓gaN, gaP, Nat.reduceEqDiff, Nat.reduceLeDiff, Nat.reduceAdd, Nat.reduceSub, Nat.reduceMul, Int.reduceLT, Int.reduceLE, Int.reduceEq, Int.reduceToNat, Int.reduceAdd, Int.reduceSub, Int.reduceMul, reduceCtorEq, ↓reduceIte, h0, h7, h8, hlt, decide_false, loopK_e]
    refine callK_of (ct_Bare (row_of_block hq hgq (by omega)) hnc (by omega)) (fun v n1 g1 l1 k1 hC => ?_) (by omega)
    rw [he] at hC
    simp only [↓gaW, ↓gaV, ↓gaC, ↓gaN, gaP, Nat.reduceEqDiff, Nat.reduceLeDiff, Nat.reduceAdd, Nat.reduceSub, Nat.reduceMul, Int.reduceLT, Int.reduceLE, Int.reduceEq, Int.reduceToNat, Int.reduceAdd, Int.reduceSub, Int.reduceMul, reduceCtorEq, ↓reduceIte, gaE, implies_true, Nat.le_refl, Int.sub_zero, Nat.sub_zero, Int.le_refl, true_or, or_true, endW_r, endW_n]
    exact ⟨by omega, fun p hp hpq => by rw [k1 p (by omega), hg p hp hpq], hC⟩
end
end Go.Ga

/- A number, taken off another one in place. -/
namespace Go.Ga
open Go

theorem less_step {U X W P cy o xm w S : Nat} (hw : w < 4294967296) (ho : o < 2) (hS : (if w < (cy + xm) % 4294967296 + o then 1 else 0) = S) (h : U + X = W + P * (cy + o)) :
    U + P * ((w + 4294967296 - (cy + xm) % 4294967296 - o) % 4294967296) + (X + P * xm) = (W + P * w) + P * 4294967296 * ((cy + xm) / 4294967296 + S) := by
  obtain ⟨D, hD⟩ : ∃ D, (w + 4294967296 - (cy + xm) % 4294967296 - o) % 4294967296 = D := ⟨_, rfl⟩
  obtain ⟨c, hc⟩ : ∃ c, (cy + xm) / 4294967296 = c := ⟨_, rfl⟩
  have key : D + cy + xm + o = w + 4294967296 * (c + S) := by
    split at hS <;> omega
  have h2 := congrArg (P * ·) key
  simp only [Nat.mul_add] at h2 h
  rw [hD, hc, Nat.mul_assoc, Nat.mul_add 4294967296, Nat.mul_add P (4294967296 * c)]
  omega
theorem more_step {U W M P cy w m : Nat} (h : U + P * cy = W + M) : U + P * ((w + m + cy) % 4294967296) + P * 4294967296 * ((w + m + cy) / 4294967296) = (W + P * w) + (M + P * m) := add_step h

theorem set_mid {lo win hi : List UInt32} {i k : Nat} {x : UInt32} (hk : lo.length = k) (hi' : i < win.length) : (lo ++ (win ++ hi)).set (k + i) x = lo ++ (win.set i x ++ hi) := by
  rw [List.set_append_right _ _ (by omega), hk, Nat.add_sub_cancel_left, List.set_append_left _ _ hi']
theorem getD_mid {lo win hi : List UInt32} {i k : Nat} (hk : lo.length = k) (hi' : i < win.length) : (lo ++ (win ++ hi)).getD (k + i) 0 = win.getD i 0 := by
  simp only [List.getD_eq_getElem?_getD]
  rw [List.getElem?_append_right (by omega), hk, Nat.add_sub_cancel_left, List.getElem?_append_left hi']
end Go.Ga

namespace Go.Ga
open Go Go.Proofs
set_option linter.unusedSimpArgs false
set_option linter.unusedVariables false
set_option maxRecDepth 100000
attribute [local irreducible] appendK

section
variable {nx : Nat} {gt : Nat → Option Blk}

theorem ct_less {q k n L C d X : Nat} {B : Option Addr} {lo win hi mm : List UInt32} (hq : q < nx) (hg0 : gt q = some (.cells ((lo ++ (win ++ hi)).map u32V) false)) (hk : lo.length = k) (hwin : win.length = n + 1) (hL : n + 1 ≤ L) (hLs : L < 1000000000)
    (hs : Row nx gt 1 B n (mm.map u32V)) (hne : ∀ a, B = some a → a.block ≠ q) (hX : X < 4294967296) :
    Cw Try.prog 89 [.slice (some ⟨q, k, none⟩) L C, .slice B n d, .int .u32 (X : Nat)] q nx gt fun v nx' gt' => ∃ win' owed, owed < 2 ∧ v = .bool (decide (((owed : Nat) : Int) = 0)) ∧ win'.length = n + 1 ∧ gt' q = some (.cells ((lo ++ (win' ++ hi)).map u32V) false) ∧
      lv win' + X * lv mm = lv win + 4294967296 ^ (n + 1) * owed := by
  have hmm : mm.length = n := by simpa using hs.len
  refine Cw.of hmx r_modulo_less (by simp [c_modulo_less]) fun b hb hbq => ?_
  simp only [c_modulo_less, ↓gaW, ↓gaV, ↓gaC, ↓gaN, gaP, Nat.reduceEqDiff, Nat.reduceLeDiff, Nat.reduceAdd, Nat.reduceSub, Nat.reduceMul, Int.reduceLT, Int.reduceLE, Int.reduceEq, Int.reduceToNat, Int.reduceAdd, Int.reduceSub, Int.reduceMul, reduceCtorEq, ↓reduceIte]
  refine loop_of (fun j f m => ∃ (i cy o x : Nat) (g : Nat → Option Blk) (u : List UInt32), j = n - i ∧ i ≤ n ∧ cy < 4294967296 ∧ o < 2 ∧ f 0 = .slice (some ⟨q, k, none⟩) L C ∧ f 1 = .slice B n d ∧ f 2 = .int .u32 (X : Nat) ∧ f 7 = .int .u64 (cy : Nat) ∧ f 8 = .int .u32 (o : Nat) ∧ f 11 = .int .i64 (n : Nat) ∧ f 12 = .int .i64 (i : Nat) ∧ m = ⟨x, b, g⟩ ∧ nx ≤ x ∧
      (∀ p, p < nx → p ≠ q → g p = gt p) ∧ g q = some (.cells ((lo ++ (u ++ hi)).map u32V) false) ∧ u.length = n + 1 ∧ (∀ j, i ≤ j → u.getD j 0 = win.getD j 0) ∧ lv (u.take i) + X * lv (mm.take i) = lv (win.take i) + 4294967296 ^ i * (cy + o)) n
    ⟨0, 0, 0, nx, gt, win, by omega, by omega, by omega, by omega, rfl, rfl, rfl, rfl, rfl, rfl, rfl, rfl, by omega, fun _ _ _ => rfl, hg0, hwin, fun _ _ => rfl, by simp [lv]⟩ ?_
  rintro j f m ⟨i, cy, o, x, g, u, rfl, hi', hcy, ho, h0, h1, h2, h7, h8, h11, h12, rfl, hx, hg, hgq, hu, hz, he⟩
  have hw32 := lt32 (u.getD i 0)
  have hlw : ((lo ++ (u ++ hi)).map u32V).getD (k + i) undef = .int .u32 ((u.getD i 0).toNat : Nat) := by
    rw [getD_u32 (by simp; omega), getD_mid hk (by omega)]
  have hzi := hz i (Nat.le_refl i)
  have hbound : k + i < (lo ++ (u ++ hi)).length := by simp; omega
  by_cases hlt : (i : Int) < (n : Int)
  · obtain ⟨a, ce, ro, rfl, a1, a2, a3, a4⟩ := w32_cell hs hmm (i := i) (by omega)
    have a2' : g a.block = some (.cells ce ro) := by rw [hg _ a1 (hne a rfl), a2]
    have ly := lt32 (mm.getD i 0)
    obtain ⟨W, hW⟩ : ∃ W, (u.getD i 0).toNat = W := ⟨_, rfl⟩
    obtain ⟨Y, hY⟩ : ∃ Y, (mm.getD i 0).toNat = Y := ⟨_, rfl⟩
    rw [hW] at hw32 hlw
    rw [hY] at a4 ly
    have hXY : X * Y ≤ 4294967295 * 4294967295 := Nat.mul_le_mul (by omega) (by omega)
    obtain ⟨Z, hZ⟩ : ∃ Z, X * Y = Z := ⟨_, rfl⟩
    have f1 : (X : Int) * (Y : Int) = (Z : Int) := by rw [← hZ]; exact (Int.natCast_mul X Y).symm
    have f4 : (cy : Int) + (Z : Int) = ((cy + Z : Nat) : Int) := by omega
    have f5 : shrV .u64 ((cy + Z : Nat) : Int) 32 = (((cy + Z) / 4294967296 : Nat) : Int) := shr_nat (k := .u64) _ 32 (by decide)
    obtain ⟨low, hlow⟩ : ∃ low, (cy + Z) % 4294967296 = low := ⟨_, rfl⟩
    have f6 : IntKind.u32.wrap ((cy + Z : Nat) : Int) = (low : Int) := by rw [u32_m, hlow]
    rw [hZ] at hXY
    have ly0 : low < 4294967296 := by rw [← hlow]; exact Nat.mod_lt _ (by decide)
    have hsub := ct_Sub32 (nx := x) (gt := g) hw32 ly0 ho
    obtain ⟨D, hD⟩ : ∃ D, (W + 4294967296 - low - o) % 4294967296 = D := ⟨_, rfl⟩
    obtain ⟨S, hS⟩ : ∃ S, (if W < low + o then 1 else 0) = S := ⟨_, rfl⟩
    have hD2 : D < 4294967296 := by rw [← hD]; exact Nat.mod_lt _ (by decide)
    have hS2 : S < 2 := by rw [← hS]; split <;> omega
    rw [hD, hS] at hsub
    simp only [↓gaW, ↓gaV, ↓gaC, ↓gaN, gaP, Nat.reduceEqDiff, Nat.reduceLeDiff, Nat.reduceAdd, Nat.reduceSub, Nat.reduceMul, Int.reduceLT, Int.reduceLE, Int.reduceEq, Int.reduceToNat, Int.reduceAdd, Int.reduceSub, Int.reduceMul, reduceCtorEq, ↓reduceIte, h0, h1, h2, h7, h8, h11, h12, hlt, decide_true, a2', a4, hgq, hlw, f1, f4, f6, u64_i (X : Int) (by omega), u64_i (Y : Int) (by omega), u64_i (Z : Int) (by omega), u64_i ((cy + Z : Nat) : Int) (by omega), Nat.mul_one]
    repeat refine And.intro (by first | omega | (simp; omega)) ?_
    refine callK_of hsub (fun v n1 g1 l1 k1 hC => ?_) (by omega)
    subst hC
    have gq1 := (k1 q (by omega)).trans hgq
    have q1 : (i : Int) + 1 = ((i + 1 : Nat) : Int) := by omega
    have sp : splice ((lo ++ (u ++ hi)).map u32V) (k + i) [.int .u32 (D : Nat)] = (lo ++ (u.set i (UInt32.ofNat D) ++ hi)).map u32V := by
      rw [u32V_lt hD2, splice_set hbound, set_mid hk (by omega)]
    simp only [↓gaW, ↓gaV, ↓gaC, ↓gaN, gaP, Nat.reduceEqDiff, Nat.reduceLeDiff, Nat.reduceAdd, Nat.reduceSub, Nat.reduceMul, Int.reduceLT, Int.reduceLE, Int.reduceEq, Int.reduceToNat, Int.reduceAdd, Int.reduceSub, Int.reduceMul, reduceCtorEq, ↓reduceIte, h0, h12, gq1, sp, f5, q1, i64_w ((i + 1 : Nat) : Int) (by omega), Nat.mul_one, loopK_n]
    repeat refine And.intro (by first | omega | (simp; omega) | exact all1 rfl) ?_
    refine ⟨n - (i + 1), by omega, i + 1, (cy + Z) / 4294967296, S, n1, upd g1 q (some (.cells ((lo ++ (u.set i (UInt32.ofNat D) ++ hi)).map u32V) false)), u.set i (UInt32.ofNat D), ?_⟩
    refine ⟨rfl, by omega, by omega, hS2, h1, h2, rfl, rfl, h11, rfl, rfl, by omega, fun p hp hpq => ?_, by simp only [upd_e, if_true], by simp [hu], fun j hj => ?_, ?_⟩
    · simp only [upd_e]
      rw [if_neg hpq, k1 p (by omega), hg p hp hpq]
    · rw [set_getD_ne (by omega)]; exact hz j (by omega)
    · have h9 := less_step (S := S) (xm := Z) hw32 ho (by rw [hlow]; exact hS) he
      rw [hlow, hD] at h9
      have h10 : X * (4294967296 ^ i * Y) = 4294967296 ^ i * Z := by rw [← hZ]; ac_rfl
      rw [lv_set_take (by omega), ofNat32, Nat.mod_eq_of_lt hD2, lv_take' mm, lv_take' win, ← hzi, hW, hY, Nat.mul_add X, h10, Nat.pow_succ]
      exact h9
  · have hin : i = n := by omega
    subst hin
    rw [List.take_of_length_le (show mm.length ≤ i by omega)] at he
    obtain ⟨W, hW⟩ : ∃ W, (u.getD i 0).toNat = W := ⟨_, rfl⟩
    rw [hW] at hw32 hlw
    obtain ⟨low, hlow⟩ : ∃ low, (cy + 0) % 4294967296 = low := ⟨_, rfl⟩
    have hlc : low = cy := by omega
    have f6 : IntKind.u32.wrap (cy : Int) = (low : Int) := by rw [hlc]; exact u32_i _ (by omega)
    have ly0 : low < 4294967296 := by rw [← hlow]; exact Nat.mod_lt _ (by decide)
    have hsub := ct_Sub32 (nx := x) (gt := g) hw32 ly0 ho
    obtain ⟨D, hD⟩ : ∃ D, (W + 4294967296 - low - o) % 4294967296 = D := ⟨_, rfl⟩
    obtain ⟨S, hS⟩ : ∃ S, (if W < low + o then 1 else 0) = S := ⟨_, rfl⟩
    have hD2 : D < 4294967296 := by rw [← hD]; exact Nat.mod_lt _ (by decide)
    have hS2 : S < 2 := by rw [← hS]; split <;> omega
    rw [hD, hS] at hsub
    simp only [↓gaW, ↓gaV, ↓gaC, ↓gaN, gaP, Nat.reduceEqDiff, Nat.reduceLeDiff, Nat.reduceAdd, Nat.reduceSub, Nat.reduceMul, Int.reduceLT, Int.reduceLE, Int.reduceEq, Int.reduceToNat, Int.reduceAdd, Int.reduceSub, Int.reduceMul, reduceCtorEq, ↓reduceIte, h0, h1, h7, h8, h11, h12, hlt, decide_false, loopK_e, hgq, hlw, f6, Nat.mul_one]
    repeat refine And.intro (by first | omega | (simp; omega)) ?_
    refine callK_of hsub (fun v n1 g1 l1 k1 hC => ?_) (by omega)
    subst hC
    have gq1 := (k1 q (by omega)).trans hgq
    have sp : splice ((lo ++ (u ++ hi)).map u32V) (k + i) [.int .u32 (D : Nat)] = (lo ++ (u.set i (UInt32.ofNat D) ++ hi)).map u32V := by
      rw [u32V_lt hD2, splice_set hbound, set_mid hk (by omega)]
    simp only [↓gaW, ↓gaV, ↓gaC, ↓gaN, gaP, Nat.reduceEqDiff, Nat.reduceLeDiff, Nat.reduceAdd, Nat.reduceSub, Nat.reduceMul, Int.reduceLT, Int.reduceLE, Int.reduceEq, Int.reduceToNat, Int.reduceAdd, Int.reduceSub, Int.reduceMul, reduceCtorEq, ↓reduceIte, gaE, implies_true, Nat.le_refl, Int.sub_zero, Nat.sub_zero, Int.le_refl, true_or, or_true, endW_r, endW_n, h0, gq1, sp, Nat.mul_one]
    repeat refine And.intro (by first | omega | (simp; omega) | exact all1 rfl) ?_
    refine ⟨fun p hp hpq => ?_, u.set i (UInt32.ofNat D), S, hS2, rfl, by simp [hu], by first | rfl | simp only [upd_e, if_true], ?_⟩
    · rw [if_neg hpq, k1 p (by omega), hg p hp hpq]
    · have h9 := less_step (S := S) (xm := 0) hw32 ho (by rw [hlow]; exact hS) he
      rw [hlow, hD, Nat.mul_zero, Nat.add_zero, show (cy + 0) / 4294967296 = 0 by omega, Nat.zero_add] at h9
      have e1 : lv (u.set i (UInt32.ofNat D)) = lv ((u.set i (UInt32.ofNat D)).take (i + 1)) := by rw [List.take_of_length_le (by simp; omega)]
      have e2 : lv win = lv (win.take (i + 1)) := by rw [List.take_of_length_le (by omega)]
      rw [e1, e2, lv_set_take (by omega), ofNat32, Nat.mod_eq_of_lt hD2, lv_take' win, ← hzi, hW, Nat.pow_succ]
      exact h9
end
end Go.Ga

namespace Go.Ga
open Go Go.Proofs
set_option linter.unusedSimpArgs false
set_option linter.unusedVariables false
set_option maxRecDepth 100000
attribute [local irreducible] appendK

section
variable {nx : Nat} {gt : Nat → Option Blk}

theorem ct_Add32s {nx : Nat} {gt : Nat → Option Blk} {x y c : Nat} (hx : x < 4294967296) (hy : y < 4294967296) (hc : c < 2) :
    Ct Try.prog 98 [.int .u32 (x : Nat), .int .u32 (y : Nat), .int .u32 (c : Nat)] nx gt fun v nx' gt' => v = .tuple #[.int .u32 ((x + y + c) % 4294967296 : Nat), .int .u32 ((x + y + c) / 4294967296 : Nat)] ∧ nx' = nx ∧ gt' = gt := by
  refine Ct.of hmx r_math_bits_Add32 (by simp [c_math_bits_Add32]) fun b hb => ?_
  have e1 : (x : Int) + (y : Int) = ((x + y : Nat) : Int) := by omega
  have e2 : ((x + y : Nat) : Int) + (c : Int) = ((x + y + c : Nat) : Int) := by omega
  have e3 : shrV .u64 ((x + y + c : Nat) : Int) 32 = (((x + y + c) / 4294967296 : Nat) : Int) := shr_nat _ 32 (by decide)
  have e4 : (x + y + c) / 4294967296 % 4294967296 = (x + y + c) / 4294967296 := by omega
  simp only [c_math_bits_Add32, ↓gaW, ↓gaV, ↓gaC, ↓gaN, gaP, Nat.reduceEqDiff, Nat.reduceLeDiff, Nat.reduceAdd, Nat.reduceSub, Nat.reduceMul, Int.reduceLT, Int.reduceLE, Int.reduceEq, Int.reduceToNat, Int.reduceAdd, Int.reduceSub, Int.reduceMul, reduceCtorEq, ↓reduceIte, gaE, implies_true, Nat.le_refl, Int.sub_zero, Nat.sub_zero, Int.le_refl, true_or, or_true, u64_i (x : Int) (by omega), u64_i (y : Int) (by omega), u64_i (c : Int) (by omega), e1, u64_i ((x + y : Nat) : Int) (by omega), e2, u64_i ((x + y + c : Nat) : Int) (by omega), e3, u32_m, e4]

theorem ct_more {q k n L C d : Nat} {B : Option Addr} {lo win hi mm : List UInt32} (hq : q < nx) (hg0 : gt q = some (.cells ((lo ++ (win ++ hi)).map u32V) false)) (hk : lo.length = k) (hwin : win.length = n + 1) (hL : n + 1 ≤ L) (hLs : L < 1000000000)
    (hs : Row nx gt 1 B n (mm.map u32V)) (hne : ∀ a, B = some a → a.block ≠ q) :
    Cw Try.prog 90 [.slice (some ⟨q, k, none⟩) L C, .slice B n d] q nx gt fun v nx' gt' => ∃ win' e, win'.length = n + 1 ∧ gt' q = some (.cells ((lo ++ (win' ++ hi)).map u32V) false) ∧
      lv win' + 4294967296 ^ (n + 1) * e = lv win + lv mm := by
  have hmm : mm.length = n := by simpa using hs.len
  refine Cw.of hmx r_modulo_more (by simp [c_modulo_more]) fun b hb hbq => ?_
  simp only [c_modulo_more, ↓gaW, ↓gaV, ↓gaC, ↓gaN, gaP, Nat.reduceEqDiff, Nat.reduceLeDiff, Nat.reduceAdd, Nat.reduceSub, Nat.reduceMul, Int.reduceLT, Int.reduceLE, Int.reduceEq, Int.reduceToNat, Int.reduceAdd, Int.reduceSub, Int.reduceMul, reduceCtorEq, ↓reduceIte]
  refine loop_of (fun j f m => ∃ (i cy x : Nat) (g : Nat → Option Blk) (u : List UInt32), j = n - i ∧ i ≤ n ∧ cy < 2 ∧ f 0 = .slice (some ⟨q, k, none⟩) L C ∧ f 1 = .slice B n d ∧ f 4 = .int .u32 (cy : Nat) ∧ f 7 = .int .i64 (n : Nat) ∧ f 8 = .int .i64 (i : Nat) ∧ m = ⟨x, b, g⟩ ∧ nx ≤ x ∧
      (∀ p, p < nx → p ≠ q → g p = gt p) ∧ g q = some (.cells ((lo ++ (u ++ hi)).map u32V) false) ∧ u.length = n + 1 ∧ (∀ j, i ≤ j → u.getD j 0 = win.getD j 0) ∧ lv (u.take i) + 4294967296 ^ i * cy = lv (win.take i) + lv (mm.take i)) n
    ⟨0, 0, nx, gt, win, by omega, by omega, by omega, rfl, rfl, rfl, rfl, rfl, rfl, by omega, fun _ _ _ => rfl, hg0, hwin, fun _ _ => rfl, by simp [lv]⟩ ?_
  rintro j f m ⟨i, cy, x, g, u, rfl, hi', hcy, h0, h1, h4, h7, h8, rfl, hx, hg, hgq, hu, hz, he⟩
  have hw32 := lt32 (u.getD i 0)
  have hlw : ((lo ++ (u ++ hi)).map u32V).getD (k + i) undef = .int .u32 ((u.getD i 0).toNat : Nat) := by
    rw [getD_u32 (by simp; omega), getD_mid hk (by omega)]
  have hzi := hz i (Nat.le_refl i)
  have hbound : k + i < (lo ++ (u ++ hi)).length := by simp; omega
  by_cases hlt : (i : Int) < (n : Int)
  · obtain ⟨a, ce, ro, rfl, a1, a2, a3, a4⟩ := w32_cell hs hmm (i := i) (by omega)
    have a2' : g a.block = some (.cells ce ro) := by rw [hg _ a1 (hne a rfl), a2]
    have ly := lt32 (mm.getD i 0)
    obtain ⟨W, hW⟩ : ∃ W, (u.getD i 0).toNat = W := ⟨_, rfl⟩
    obtain ⟨Y, hY⟩ : ∃ Y, (mm.getD i 0).toNat = Y := ⟨_, rfl⟩
    rw [hW] at hw32 hlw
    rw [hY] at a4 ly
    obtain ⟨D, hD⟩ : ∃ D, (W + Y + cy) % 4294967296 = D := ⟨_, rfl⟩
    obtain ⟨S, hS⟩ : ∃ S, (W + Y + cy) / 4294967296 = S := ⟨_, rfl⟩
    have hD2 : D < 4294967296 := by omega
    have hS2 : S < 2 := by omega
    have hadd := ct_Add32s (nx := x) (gt := g) hw32 ly hcy
    rw [hD, hS] at hadd
    have q1 : (i : Int) + 1 = ((i + 1 : Nat) : Int) := by omega
    have sp : splice ((lo ++ (u ++ hi)).map u32V) (k + i) [.int .u32 (D : Nat)] = (lo ++ (u.set i (UInt32.ofNat D) ++ hi)).map u32V := by
      rw [u32V_lt hD2, splice_set hbound, set_mid hk (by omega)]
    simp only [↓gaW, ↓gaV, ↓gaC, ↓gaN, gaP, Nat.reduceEqDiff, Nat.reduceLeDiff, Nat.reduceAdd, Nat.reduceSub, Nat.reduceMul, Int.reduceLT, Int.reduceLE, Int.reduceEq, Int.reduceToNat, Int.reduceAdd, Int.reduceSub, Int.reduceMul, reduceCtorEq, ↓reduceIte, h0, h1, h4, h7, h8, hlt, decide_true]
    refine vc_tree_same ?_
    refine ⟨fun t => if t = 0 then .slice (some ⟨q, k, none⟩) L C else if t = 1 then .slice (some a) n d else if t = 4 then .int .u32 (S : Nat) else if t = 7 then .int .i64 (n : Nat) else if t = 8 then .int .i64 (i : Nat) else botV, ⟨x, b, upd g q (some (.cells ((lo ++ (u.set i (UInt32.ofNat D) ++ hi)).map u32V) false))⟩, ?_, ?_, ?_⟩
    rotate_left 2
    · simp only [tree_s, allP_cons, allP_nil, List.getElem?_cons_zero, List.getElem?_cons_succ, Nat.reducePow, Nat.reduceOr, Option.map, t_modulo_more, ↓gaW, ↓gaV, ↓gaC, ↓gaN, gaP, Nat.reduceEqDiff, Nat.reduceLeDiff, Nat.reduceAdd, Nat.reduceSub, Nat.reduceMul, Int.reduceLT, Int.reduceLE, Int.reduceEq, Int.reduceToNat, Int.reduceAdd, Int.reduceSub, Int.reduceMul, reduceCtorEq, ↓reduceIte, h0, h1, h4, h7, h8, a2', a4, hgq, hlw, Nat.mul_one]
      repeat' refine And.intro ?_ ?_
      all_goals first
        | omega
        | (simp; omega)
        | (refine callK_of hadd (fun v n1 g1 l1 k1 hC => ?_) (by omega)
           obtain ⟨rfl, rfl, rfl⟩ := hC
           simp only [tree_s, allP_cons, allP_nil, List.getElem?_cons_zero, List.getElem?_cons_succ, Nat.reducePow, Nat.reduceOr, Option.map, t_modulo_more, ↓gaW, ↓gaV, ↓gaC, ↓gaN, gaP, Nat.reduceEqDiff, Nat.reduceLeDiff, Nat.reduceAdd, Nat.reduceSub, Nat.reduceMul, Int.reduceLT, Int.reduceLE, Int.reduceEq, Int.reduceToNat, Int.reduceAdd, Int.reduceSub, Int.reduceMul, reduceCtorEq, ↓reduceIte, hgq, sp, Nat.mul_one]
           repeat' refine And.intro ?_ ?_
           all_goals first
             | omega
             | (simp; omega)
             | rfl
             | exact all1 rfl
             | (intro t
                rcases (show t = 0 ∨ t = 1 ∨ t = 4 ∨ t = 7 ∨ t = 8 ∨ (t ≠ 0 ∧ t ≠ 1 ∧ t ≠ 4 ∧ t ≠ 7 ∧ t ≠ 8) by omega) with rfl | rfl | rfl | rfl | rfl | ⟨a1, a2, a3, a4, a5⟩
                · exact .inl (by simp [putR, h0])
                · exact .inl (by simp [putR, h1])
                · exact .inl (by simp [putR])
                · exact .inl (by simp [putR, h7])
                · exact .inl (by simp [putR, h8])
                · right; simp only [if_neg a1, if_neg a2, if_neg a3, if_neg a4, if_neg a5]))
    · simp only [↓gaW, ↓gaV, ↓gaC, ↓gaN, gaP, Nat.reduceEqDiff, Nat.reduceLeDiff, Nat.reduceAdd, Nat.reduceSub, Nat.reduceMul, Int.reduceLT, Int.reduceLE, Int.reduceEq, Int.reduceToNat, Int.reduceAdd, Int.reduceSub, Int.reduceMul, reduceCtorEq, ↓reduceIte, Nat.reduceEqDiff, q1, i64_w ((i + 1 : Nat) : Int) (by omega), loopK_n]
      refine ⟨n - (i + 1), by omega, i + 1, S, x, upd g q (some (.cells ((lo ++ (u.set i (UInt32.ofNat D) ++ hi)).map u32V) false)), u.set i (UInt32.ofNat D), rfl, by omega, hS2, rfl, rfl, rfl, by omega, fun p hp hpq => ?_, by simp only [upd_e, if_true], by simp [hu], fun j hj => ?_, ?_⟩
      · simp only [upd_e]
        rw [if_neg hpq, hg p hp hpq]
      · rw [set_getD_ne (by omega)]; exact hz j (by omega)
      · have h9 := more_step (w := W) (m := Y) he
        rw [hD, hS] at h9
        rw [lv_set_take (by omega), ofNat32, Nat.mod_eq_of_lt hD2, lv_take' mm, lv_take' win, ← hzi, hW, hY, Nat.pow_succ]
        exact h9
    · exact ⟨rfl, Nat.le_refl _, fun p hp => by
        have hp' : p < b := hp
        show upd _ _ _ p = g p
        simp only [upd_e]
        rw [if_neg (by omega)]⟩
  · have hin : i = n := by omega
    subst hin
    rw [List.take_of_length_le (show mm.length ≤ i by omega)] at he
    obtain ⟨W, hW⟩ : ∃ W, (u.getD i 0).toNat = W := ⟨_, rfl⟩
    rw [hW] at hw32 hlw
    obtain ⟨D, hD⟩ : ∃ D, (W + cy) % 4294967296 = D := ⟨_, rfl⟩
    have hD2 : D < 4294967296 := by omega
    have f6 : IntKind.u32.wrap ((W : Int) + (cy : Int)) = (D : Int) := by rw [← hD, show (W : Int) + (cy : Int) = ((W + cy : Nat) : Int) by omega, u32_m]
    have sp : splice ((lo ++ (u ++ hi)).map u32V) (k + i) [.int .u32 (D : Nat)] = (lo ++ (u.set i (UInt32.ofNat D) ++ hi)).map u32V := by
      rw [u32V_lt hD2, splice_set hbound, set_mid hk (by omega)]
    simp only [↓gaW, ↓gaV, ↓gaC, ↓gaN, gaP, Nat.reduceEqDiff, Nat.reduceLeDiff, Nat.reduceAdd, Nat.reduceSub, Nat.reduceMul, Int.reduceLT, Int.reduceLE, Int.reduceEq, Int.reduceToNat, Int.reduceAdd, Int.reduceSub, Int.reduceMul, reduceCtorEq, ↓reduceIte, gaE, implies_true, Nat.le_refl, Int.sub_zero, Nat.sub_zero, Int.le_refl, true_or, or_true, endW_r, endW_n, h0, h1, h4, h7, h8, hlt, decide_false, loopK_e, hgq, hlw, f6, sp, Nat.mul_one]
    repeat refine And.intro (by first | omega | (simp; omega) | exact all1 rfl) ?_
    refine ⟨fun p hp hpq => ?_, u.set i (UInt32.ofNat D), (W + cy) / 4294967296, by simp [hu], by first | rfl | simp only [upd_e, if_true], ?_⟩
    · rw [if_neg hpq, hg p hp hpq]
    · have e1 : lv (u.set i (UInt32.ofNat D)) = lv ((u.set i (UInt32.ofNat D)).take (i + 1)) := by rw [List.take_of_length_le (by simp; omega)]
      have e2 : lv win = lv (win.take (i + 1)) := by rw [List.take_of_length_le (by omega)]
      rw [e1, e2, lv_set_take (by omega), ofNat32, Nat.mod_eq_of_lt hD2, lv_take' win, ← hzi, hW, Nat.pow_succ, ← hD]
      have := more_step (w := W) (m := 0) he
      simpa using this
end
end Go.Ga

namespace Go.Ga
open Go Go.Proofs
set_option linter.unusedSimpArgs false
set_option linter.unusedVariables false
set_option maxRecDepth 100000
attribute [local irreducible] appendK

section
variable {nx : Nat} {gt : Nat → Option Blk}

def guessR : RC := match c_modulo_guess.code with | .seq _ (.scope _ _ r) => r | _ => .skip
def guessA : RC := match c_modulo_guess.code with | .seq a _ => a | _ => .skip
def guessB : RC := match c_modulo_guess.code with | .seq _ (.scope x _ _) => x | _ => .skip
theorem guess_code : c_modulo_guess.code = .seq guessA (.scope guessB 0 guessR) := rfl
def guessI (nx b : Nat) (gt : Nat → Option Blk) (h0 h1 h2 b0 b1 : Nat) (q : Nat) (f : Regs) (m : Mem) : Prop := ∃ (lf x : Nat) (g : Nat → Option Blk), f 2 = .pointer (some ⟨nx, 0, none⟩) ∧ f 3 = .pointer (some ⟨nx + 1, 0, none⟩) ∧ f 5 = .int .u32 (q : Nat) ∧ f 6 = .int .u64 (lf : Nat) ∧ m = ⟨x, b, g⟩ ∧ nx + 2 ≤ x ∧
  (∀ p, p < nx → g p = gt p) ∧ g nx = some (.cells [.int .u32 (h0 : Nat), .int .u32 (h1 : Nat), .int .u32 (h2 : Nat)] false) ∧ g (nx + 1) = some (.cells [.int .u32 (b0 : Nat), .int .u32 (b1 : Nat)] false) ∧
  q < 4294967296 ∧ lf < 8589934592 ∧ q * b0 + lf = h0 * 4294967296 + h1 ∧ ∀ t, t < 4294967296 → t * (b0 * 4294967296 + b1) ≤ (h0 * 4294967296 + h1) * 4294967296 + h2 → t ≤ q
def GuessC (h0 h1 h2 b0 b1 : Nat) (v : Value) (_ : Nat) (_ : Nat → Option Blk) : Prop := ∃ q, v = .int .u32 (q : Nat) ∧ q < 4294967296 ∧ q * (b0 * 4294967296 + b1) ≤ (h0 * 4294967296 + h1) * 4294967296 + h2 ∧ ∀ t, t < 4294967296 → t * (b0 * 4294967296 + b1) ≤ (h0 * 4294967296 + h1) * 4294967296 + h2 → t ≤ q

theorem guess_rounds {b h0 h1 h2 b0 b1 : Nat} (hb : b ≤ nx) (hh0 : h0 < 4294967296) (hh1 : h1 < 4294967296) (hh2 : h2 < 4294967296) (hb0 : b0 < 4294967296) (hb1 : b1 < 4294967296) {q : Nat} {f : Regs} {m : Mem} (hI : guessI nx b gt h0 h1 h2 b0 b1 q f m) :
    ∃ n, GRounds (fun f m Q => RC.vc Try.prog guessR f m Q) 0 (D Try.prog (.top (endK c_modulo_guess.results b nx gt (GuessC h0 h1 h2 b0 b1)))) n f m := by
  refine grounds_of (guessI nx b gt h0 h1 h2 b0 b1) q hI ?_
  rintro q f m ⟨lf, x, g, r2, r3, r5, r6, rfl, hx, hg, ghb, gbb, hq, hlf, he, hub⟩
  have hgo : ∀ f' m', 0 < q → guessI nx b gt h0 h1 h2 b0 b1 (q - 1) f' m' → ∃ k', k' < q ∧ guessI nx b gt h0 h1 h2 b0 b1 k' f' m' := fun f' m' h0 h => ⟨q - 1, by omega, h⟩
  simp only [guessR, c_modulo_guess, GuessC]
  have hqb : q * b1 ≤ 4294967295 * 4294967295 := Nat.mul_le_mul (by omega) (by omega)
  obtain ⟨C, hC⟩ : ∃ C, q * b1 = C := ⟨_, rfl⟩
  rw [hC] at hqb
  have f1 : (q : Int) * (b1 : Int) = (C : Int) := by rw [← hC]; exact (Int.natCast_mul q b1).symm
  have f2 : shrV .u64 (lf : Int) 32 = ((lf / 4294967296 : Nat) : Int) := shr_nat (k := .u64) _ 32 (by decide)
  have f7 : (lf : Int) + (b0 : Int) = ((lf + b0 : Nat) : Int) := by omega
  have hM2 : q * (b0 * 4294967296 + b1) = q * b0 * 4294967296 + C := by rw [Nat.mul_add, Nat.mul_assoc, hC]
  by_cases t1 : ((lf / 4294967296 : Nat) : Int) = 0
  · have f3 := shl_u64_32 lf (by omega)
    have o1 : bitsV .or .u64 ((4294967296 * lf : Nat) : Int) (h2 : Int) = ((4294967296 * lf + h2 : Nat) : Int) := by
      rw [or_u64 (by omega) (by omega)]
      have := Nat.two_pow_add_eq_or_of_lt (i := 32) hh2 lf
      rw [show (2 : Nat) ^ 32 = 4294967296 from rfl] at this
      rw [this]
    by_cases t2 : ((4294967296 * lf + h2 : Nat) : Int) < (C : Int)
    · have hq0 : 0 < q := by
        rcases Nat.eq_zero_or_pos q with h | h
        · rw [h, Nat.zero_mul] at hC; omega
        · exact h
      have f8 : (q : Int) - 1 = ((q - 1 : Nat) : Int) := by omega
      have hm : (q - 1) * b0 + (lf + b0) = h0 * 4294967296 + h1 := by
        have : (q - 1) * b0 + b0 = q * b0 := by
          obtain ⟨z, hz⟩ : ∃ z, q = z + 1 := ⟨q - 1, by omega⟩
          rw [hz, Nat.add_sub_cancel, Nat.add_mul, Nat.one_mul]
        omega
      simp only [↓gaW, ↓gaV, ↓gaC, ↓gaN, gaP, Nat.reduceEqDiff, Nat.reduceLeDiff, Nat.reduceAdd, Nat.reduceSub, Nat.reduceMul, Int.reduceLT, Int.reduceLE, Int.reduceEq, Int.reduceToNat, Int.reduceAdd, Int.reduceSub, Int.reduceMul, reduceCtorEq, ↓reduceIte, List.getD_cons_zero, List.getD_cons_succ, fillL, splice, List.take_zero, List.drop_zero, List.drop_succ_cons, List.take_succ_cons, List.drop_nil, List.take_nil, r2, r3, r5, r6, ghb, gbb, t1, t2, f1, f2, f3, f7, f8, o1, decide_true, u64_i (q : Int) (by omega), u64_i (b1 : Int) (by omega), u64_i (C : Int) (by omega), u64_i (h2 : Int) (by omega), u64_i (b0 : Int) (by omega), u64_i ((lf + b0 : Nat) : Int) (by omega), u32_i ((q - 1 : Nat) : Int) (by omega)]
      repeat refine And.intro (by omega) ?_
      refine hgo _ _ hq0 ⟨lf + b0, x, g, by first | rfl | exact r2, by first | rfl | exact r3, rfl, rfl, rfl, hx, hg, ghb, gbb, by omega, by omega, hm, fun t ht hte => ?_⟩
      have h9 := hub t ht hte
      rcases Nat.lt_or_ge t q with h | h
      · omega
      · have : t = q := by omega
        subst this
        rw [hM2] at hte
        omega
    · simp only [↓gaW, ↓gaV, ↓gaC, ↓gaN, gaP, Nat.reduceEqDiff, Nat.reduceLeDiff, Nat.reduceAdd, Nat.reduceSub, Nat.reduceMul, Int.reduceLT, Int.reduceLE, Int.reduceEq, Int.reduceToNat, Int.reduceAdd, Int.reduceSub, Int.reduceMul, reduceCtorEq, ↓reduceIte, gaE, implies_true, Nat.le_refl, Int.sub_zero, Nat.sub_zero, Int.le_refl, true_or, or_true, List.getD_cons_zero, List.getD_cons_succ, fillL, splice, List.take_zero, List.drop_zero, List.drop_succ_cons, List.take_succ_cons, List.drop_nil, List.take_nil, r2, r3, r5, r6, ghb, gbb, t1, t2, f1, f2, f3, o1, decide_true, decide_false, u64_i (q : Int) (by omega), u64_i (b1 : Int) (by omega), u64_i (C : Int) (by omega), u64_i (h2 : Int) (by omega)]
      repeat refine And.intro (by omega) ?_
      first | exact ⟨hg, q, rfl, hq, by rw [hM2]; omega, hub⟩ | exact ⟨q, rfl, hq, by rw [hM2]; omega, hub⟩
  · simp only [↓gaW, ↓gaV, ↓gaC, ↓gaN, gaP, Nat.reduceEqDiff, Nat.reduceLeDiff, Nat.reduceAdd, Nat.reduceSub, Nat.reduceMul, Int.reduceLT, Int.reduceLE, Int.reduceEq, Int.reduceToNat, Int.reduceAdd, Int.reduceSub, Int.reduceMul, reduceCtorEq, ↓reduceIte, gaE, implies_true, Nat.le_refl, Int.sub_zero, Nat.sub_zero, Int.le_refl, true_or, or_true, List.getD_cons_zero, List.getD_cons_succ, fillL, splice, List.take_zero, List.drop_zero, List.drop_succ_cons, List.take_succ_cons, List.drop_nil, List.take_nil, r2, r3, r5, r6, ghb, gbb, t1, f2, decide_true, decide_false]
    repeat refine And.intro (by omega) ?_
    first | exact ⟨hg, q, rfl, hq, by rw [hM2]; omega, hub⟩ | exact ⟨q, rfl, hq, by rw [hM2]; omega, hub⟩

theorem ct_guess {h0 h1 h2 b0 b1 : Nat} (hh1 : h1 < 4294967296) (hh2 : h2 < 4294967296) (hb0 : b0 < 4294967296) (hb1 : b1 < 4294967296) (hle : h0 ≤ b0) (hpos : 0 < b0) :
    Ct Try.prog 88 [.agg #[.int .u32 (h0 : Nat), .int .u32 (h1 : Nat), .int .u32 (h2 : Nat)], .agg #[.int .u32 (b0 : Nat), .int .u32 (b1 : Nat)]] nx gt (GuessC h0 h1 h2 b0 b1) := by
  refine Ct.of hmx r_modulo_guess (by simp [c_modulo_guess]) fun b hb => ?_
  have hh0 : h0 < 4294967296 := by omega
  have e1 : (h1 : Int) + (b0 : Int) = ((h1 + b0 : Nat) : Int) := by omega
  have hgo : ∀ q f' m', 0 < q → guessI nx b gt h0 h1 h2 b0 b1 (q - 1) f' m' → ∃ n, GRounds (fun f m Q => RC.vc Try.prog guessR f m Q) 0 (D Try.prog (.top (endK c_modulo_guess.results b nx gt (GuessC h0 h1 h2 b0 b1)))) n f' m' := fun q f' m' _ h => guess_rounds hb hh0 hh1 hh2 hb0 hb1 h
  have nne : ¬ nx = nx + 1 := by omega
  rw [guess_code]
  simp only [guessA, c_modulo_guess, ↓gaW, ↓gaV, ↓gaC, ↓gaN, gaP, Nat.reduceEqDiff, Nat.reduceLeDiff, Nat.reduceAdd, Nat.reduceSub, Nat.reduceMul, Int.reduceLT, Int.reduceLE, Int.reduceEq, Int.reduceToNat, Int.reduceAdd, Int.reduceSub, Int.reduceMul, reduceCtorEq, ↓reduceIte]
  by_cases c1 : (h0 : Int) < (b0 : Int)
  · simp only [guessB, c_modulo_guess, ↓gaW, ↓gaV, ↓gaC, ↓gaN, gaP, Nat.reduceEqDiff, Nat.reduceLeDiff, Nat.reduceAdd, Nat.reduceSub, Nat.reduceMul, Int.reduceLT, Int.reduceLE, Int.reduceEq, Int.reduceToNat, Int.reduceAdd, Int.reduceSub, Int.reduceMul, reduceCtorEq, ↓reduceIte, List.getD_cons_zero, List.getD_cons_succ, fillL, splice, List.take_zero, List.drop_zero, List.drop_succ_cons, List.take_succ_cons, List.drop_nil, List.take_nil, nne, e1, u64_i (h1 : Int) (by omega), u64_i (b0 : Int) (by omega), u64_i ((h1 + b0 : Nat) : Int) (by omega), c1, decide_true]
    repeat refine And.intro (by omega) ?_
    refine callK_of (ct_Div32 (by omega) hb0 hh1) (fun v x g hx' hg' hC => ?_) (by omega)
    have hdm := Nat.div_add_mod (h0 * 4294967296 + h1) b0
    have hrm : (h0 * 4294967296 + h1) % b0 < b0 := Nat.mod_lt _ hpos
    have hqlt : (h0 * 4294967296 + h1) / b0 < 4294967296 := by
      rw [Nat.div_lt_iff_lt_mul hpos]
      have : (h0 + 1) * 4294967296 ≤ b0 * 4294967296 := Nat.mul_le_mul_right _ (by omega)
      omega
    have hub : ∀ t, t < 4294967296 → t * (b0 * 4294967296 + b1) ≤ (h0 * 4294967296 + h1) * 4294967296 + h2 → t ≤ (h0 * 4294967296 + h1) / b0 := fun t ht hte => by
      rw [Nat.le_div_iff_mul_le hpos]
      rw [Nat.mul_add, ← Nat.mul_assoc] at hte
      omega
    obtain ⟨q, hqd⟩ : ∃ q, (h0 * 4294967296 + h1) / b0 = q := ⟨_, rfl⟩
    obtain ⟨lf, hlfd⟩ : ∃ q, (h0 * 4294967296 + h1) % b0 = q := ⟨_, rfl⟩
    rw [hqd, hlfd] at hC
    rw [hqd] at hqlt hub
    rw [hlfd] at hrm
    rw [hqd, hlfd] at hdm
    subst hC
    have hq := hqlt
    have hlf : lf < 8589934592 := by omega
    have he : q * b0 + lf = h0 * 4294967296 + h1 := by rw [Nat.mul_comm]; exact hdm
    have hx : nx + 2 ≤ x := by omega
    have hg : ∀ p, p < nx → g p = gt p := fun p hp => by rw [hg' p (by omega)]; simp only [upd_e]; rw [if_neg (by omega), if_neg (by omega)]
    have ghb : g nx = some (.cells [.int .u32 (h0 : Nat), .int .u32 (h1 : Nat), .int .u32 (h2 : Nat)] false) := by rw [hg' nx (by omega)]; simp [upd]
    have gbb : g (nx + 1) = some (.cells [.int .u32 (b0 : Nat), .int .u32 (b1 : Nat)] false) := by rw [hg' (nx + 1) (by omega)]; simp only [upd_e, if_true]
    have hgo := hgo q
    have r2 : True := trivial
    have r3 : True := trivial
    have r5 : IntKind.u64.wrap (lf : Int) = (lf : Int) := u64_i _ (by omega)
    have r6 : True := trivial
    have hqb : q * b1 ≤ 4294967295 * 4294967295 := Nat.mul_le_mul (by omega) (by omega)
    obtain ⟨C, hC⟩ : ∃ C, q * b1 = C := ⟨_, rfl⟩
    rw [hC] at hqb
    have f1 : (q : Int) * (b1 : Int) = (C : Int) := by rw [← hC]; exact (Int.natCast_mul q b1).symm
    have f2 : shrV .u64 (lf : Int) 32 = ((lf / 4294967296 : Nat) : Int) := shr_nat (k := .u64) _ 32 (by decide)
    have f7 : (lf : Int) + (b0 : Int) = ((lf + b0 : Nat) : Int) := by omega
    have hM2 : q * (b0 * 4294967296 + b1) = q * b0 * 4294967296 + C := by rw [Nat.mul_add, Nat.mul_assoc, hC]
    by_cases t1 : ((lf / 4294967296 : Nat) : Int) = 0
    · have f3 := shl_u64_32 lf (by omega)
      have o1 : bitsV .or .u64 ((4294967296 * lf : Nat) : Int) (h2 : Int) = ((4294967296 * lf + h2 : Nat) : Int) := by
        rw [or_u64 (by omega) (by omega)]
        have := Nat.two_pow_add_eq_or_of_lt (i := 32) hh2 lf
        rw [show (2 : Nat) ^ 32 = 4294967296 from rfl] at this
        rw [this]
      by_cases t2 : ((4294967296 * lf + h2 : Nat) : Int) < (C : Int)
      · have hq0 : 0 < q := by
          rcases Nat.eq_zero_or_pos q with h | h
          · rw [h, Nat.zero_mul] at hC; omega
          · exact h
        have f8 : (q : Int) - 1 = ((q - 1 : Nat) : Int) := by omega
        have hm : (q - 1) * b0 + (lf + b0) = h0 * 4294967296 + h1 := by
          have : (q - 1) * b0 + b0 = q * b0 := by
            obtain ⟨z, hz⟩ : ∃ z, q = z + 1 := ⟨q - 1, by omega⟩
            rw [hz, Nat.add_sub_cancel, Nat.add_mul, Nat.one_mul]
          omega
        simp only [↓gaW, ↓gaV, ↓gaC, ↓gaN, gaP, Nat.reduceEqDiff, Nat.reduceLeDiff, Nat.reduceAdd, Nat.reduceSub, Nat.reduceMul, Int.reduceLT, Int.reduceLE, Int.reduceEq, Int.reduceToNat, Int.reduceAdd, Int.reduceSub, Int.reduceMul, reduceCtorEq, ↓reduceIte, List.getD_cons_zero, List.getD_cons_succ, fillL, splice, List.take_zero, List.drop_zero, List.drop_succ_cons, List.take_succ_cons, List.drop_nil, List.take_nil, r2, r3, r5, r6, ghb, gbb, t1, t2, f1, f2, f3, f7, f8, o1, decide_true, u64_i (q : Int) (by omega), u64_i (b1 : Int) (by omega), u64_i (C : Int) (by omega), u64_i (h2 : Int) (by omega), u64_i (b0 : Int) (by omega), u64_i ((lf + b0 : Nat) : Int) (by omega), u32_i ((q - 1 : Nat) : Int) (by omega)]
        repeat refine And.intro (by omega) ?_
        refine hgo _ _ hq0 ⟨lf + b0, x, g, by first | rfl | exact r2, by first | rfl | exact r3, rfl, rfl, rfl, hx, hg, ghb, gbb, by omega, by omega, hm, fun t ht hte => ?_⟩
        have h9 := hub t ht hte
        rcases Nat.lt_or_ge t q with h | h
        · omega
        · have : t = q := by omega
          subst this
          rw [hM2] at hte
          omega
      · simp only [↓gaW, ↓gaV, ↓gaC, ↓gaN, gaP, Nat.reduceEqDiff, Nat.reduceLeDiff, Nat.reduceAdd, Nat.reduceSub, Nat.reduceMul, Int.reduceLT, Int.reduceLE, Int.reduceEq, Int.reduceToNat, Int.reduceAdd, Int.reduceSub, Int.reduceMul, reduceCtorEq, ↓reduceIte, gaE, implies_true, Nat.le_refl, Int.sub_zero, Nat.sub_zero, Int.le_refl, true_or, or_true, List.getD_cons_zero, List.getD_cons_succ, fillL, splice, List.take_zero, List.drop_zero, List.drop_succ_cons, List.take_succ_cons, List.drop_nil, List.take_nil, r2, r3, r5, r6, ghb, gbb, t1, t2, f1, f2, f3, o1, decide_true, decide_false, u64_i (q : Int) (by omega), u64_i (b1 : Int) (by omega), u64_i (C : Int) (by omega), u64_i (h2 : Int) (by omega)]
        repeat refine And.intro (by omega) ?_
        first | exact ⟨hg, q, rfl, hq, by rw [hM2]; omega, hub⟩ | exact ⟨q, rfl, hq, by rw [hM2]; omega, hub⟩
    · simp only [↓gaW, ↓gaV, ↓gaC, ↓gaN, gaP, Nat.reduceEqDiff, Nat.reduceLeDiff, Nat.reduceAdd, Nat.reduceSub, Nat.reduceMul, Int.reduceLT, Int.reduceLE, Int.reduceEq, Int.reduceToNat, Int.reduceAdd, Int.reduceSub, Int.reduceMul, reduceCtorEq, ↓reduceIte, gaE, implies_true, Nat.le_refl, Int.sub_zero, Nat.sub_zero, Int.le_refl, true_or, or_true, List.getD_cons_zero, List.getD_cons_succ, fillL, splice, List.take_zero, List.drop_zero, List.drop_succ_cons, List.take_succ_cons, List.drop_nil, List.take_nil, r2, r3, r5, r6, ghb, gbb, t1, f2, decide_true, decide_false]
      repeat refine And.intro (by omega) ?_
      first | exact ⟨hg, q, rfl, hq, by rw [hM2]; omega, hub⟩ | exact ⟨q, rfl, hq, by rw [hM2]; omega, hub⟩
  · have hh : h0 = b0 := by omega
    obtain ⟨lf, hlfd⟩ : ∃ z, h1 + b0 = z := ⟨_, rfl⟩
    obtain ⟨q, hqd⟩ : ∃ q, 4294967295 = q := ⟨_, rfl⟩
    rw [hlfd] at e1
    simp only [guessB, c_modulo_guess, ↓gaW, ↓gaV, ↓gaC, ↓gaN, gaP, Nat.reduceEqDiff, Nat.reduceLeDiff, Nat.reduceAdd, Nat.reduceSub, Nat.reduceMul, Int.reduceLT, Int.reduceLE, Int.reduceEq, Int.reduceToNat, Int.reduceAdd, Int.reduceSub, Int.reduceMul, reduceCtorEq, ↓reduceIte, List.getD_cons_zero, List.getD_cons_succ, fillL, splice, List.take_zero, List.drop_zero, List.drop_succ_cons, List.take_succ_cons, List.drop_nil, List.take_nil, nne, e1, u64_i (h1 : Int) (by omega), u64_i (b0 : Int) (by omega), u64_i (lf : Int) (by omega), c1, decide_false]
    repeat refine And.intro (by omega) ?_
    obtain ⟨x, hxd⟩ : ∃ x, nx + 1 + 1 = x := ⟨_, rfl⟩
    obtain ⟨g, hgd⟩ : ∃ g, upd (upd gt nx (some (.cells [.int .u32 (h0 : Nat), .int .u32 (h1 : Nat), .int .u32 (h2 : Nat)] false))) (nx + 1) (some (.cells [.int .u32 (b0 : Nat), .int .u32 (b1 : Nat)] false)) = g := ⟨_, rfl⟩
    rw [hxd, hgd]
    have hq : q < 4294967296 := by omega
    have hlf : lf < 8589934592 := by omega
    have he : q * b0 + lf = h0 * 4294967296 + h1 := by rw [← hqd, hh]; omega
    have hub : ∀ t, t < 4294967296 → t * (b0 * 4294967296 + b1) ≤ (h0 * 4294967296 + h1) * 4294967296 + h2 → t ≤ q := fun t ht _ => by omega
    have hx : nx + 2 ≤ x := by omega
    have hg : ∀ p, p < nx → g p = gt p := fun p hp => by rw [← hgd]; simp only [upd_e]; rw [if_neg (by omega), if_neg (by omega)]
    have ghb : g nx = some (.cells [.int .u32 (h0 : Nat), .int .u32 (h1 : Nat), .int .u32 (h2 : Nat)] false) := by rw [← hgd]; simp [upd]
    have gbb : g (nx + 1) = some (.cells [.int .u32 (b0 : Nat), .int .u32 (b1 : Nat)] false) := by rw [← hgd]; simp [upd]
    have hgo := hgo q
    have r2 : (4294967295 : Int) = (q : Int) := by omega
    have r3 : True := trivial
    have r5 : True := trivial
    have r6 : True := trivial
    have hqb : q * b1 ≤ 4294967295 * 4294967295 := Nat.mul_le_mul (by omega) (by omega)
    obtain ⟨C, hC⟩ : ∃ C, q * b1 = C := ⟨_, rfl⟩
    rw [hC] at hqb
    have f1 : (q : Int) * (b1 : Int) = (C : Int) := by rw [← hC]; exact (Int.natCast_mul q b1).symm
    have f2 : shrV .u64 (lf : Int) 32 = ((lf / 4294967296 : Nat) : Int) := shr_nat (k := .u64) _ 32 (by decide)
    have f7 : (lf : Int) + (b0 : Int) = ((lf + b0 : Nat) : Int) := by omega
    have hM2 : q * (b0 * 4294967296 + b1) = q * b0 * 4294967296 + C := by rw [Nat.mul_add, Nat.mul_assoc, hC]
    by_cases t1 : ((lf / 4294967296 : Nat) : Int) = 0
    · have f3 := shl_u64_32 lf (by omega)
      have o1 : bitsV .or .u64 ((4294967296 * lf : Nat) : Int) (h2 : Int) = ((4294967296 * lf + h2 : Nat) : Int) := by
        rw [or_u64 (by omega) (by omega)]
        have := Nat.two_pow_add_eq_or_of_lt (i := 32) hh2 lf
        rw [show (2 : Nat) ^ 32 = 4294967296 from rfl] at this
        rw [this]
      by_cases t2 : ((4294967296 * lf + h2 : Nat) : Int) < (C : Int)
      · have hq0 : 0 < q := by
          rcases Nat.eq_zero_or_pos q with h | h
          · rw [h, Nat.zero_mul] at hC; omega
          · exact h
        have f8 : (q : Int) - 1 = ((q - 1 : Nat) : Int) := by omega
        have hm : (q - 1) * b0 + (lf + b0) = h0 * 4294967296 + h1 := by
          have : (q - 1) * b0 + b0 = q * b0 := by
            obtain ⟨z, hz⟩ : ∃ z, q = z + 1 := ⟨q - 1, by omega⟩
            rw [hz, Nat.add_sub_cancel, Nat.add_mul, Nat.one_mul]
          omega
        simp only [↓gaW, ↓gaV, ↓gaC, ↓gaN, gaP, Nat.reduceEqDiff, Nat.reduceLeDiff, Nat.reduceAdd, Nat.reduceSub, Nat.reduceMul, Int.reduceLT, Int.reduceLE, Int.reduceEq, Int.reduceToNat, Int.reduceAdd, Int.reduceSub, Int.reduceMul, reduceCtorEq, ↓reduceIte, List.getD_cons_zero, List.getD_cons_succ, fillL, splice, List.take_zero, List.drop_zero, List.drop_succ_cons, List.take_succ_cons, List.drop_nil, List.take_nil, r2, r3, r5, r6, ghb, gbb, t1, t2, f1, f2, f3, f7, f8, o1, decide_true, u64_i (q : Int) (by omega), u64_i (b1 : Int) (by omega), u64_i (C : Int) (by omega), u64_i (h2 : Int) (by omega), u64_i (b0 : Int) (by omega), u64_i ((lf + b0 : Nat) : Int) (by omega), u32_i ((q - 1 : Nat) : Int) (by omega)]
        repeat refine And.intro (by omega) ?_
        refine hgo _ _ hq0 ⟨lf + b0, x, g, by first | rfl | exact r2, by first | rfl | exact r3, rfl, rfl, rfl, hx, hg, ghb, gbb, by omega, by omega, hm, fun t ht hte => ?_⟩
        have h9 := hub t ht hte
        rcases Nat.lt_or_ge t q with h | h
        · omega
        · have : t = q := by omega
          subst this
          rw [hM2] at hte
          omega
      · simp only [↓gaW, ↓gaV, ↓gaC, ↓gaN, gaP, Nat.reduceEqDiff, Nat.reduceLeDiff, Nat.reduceAdd, Nat.reduceSub, Nat.reduceMul, Int.reduceLT, Int.reduceLE, Int.reduceEq, Int.reduceToNat, Int.reduceAdd, Int.reduceSub, Int.reduceMul, reduceCtorEq, ↓reduceIte, gaE, implies_true, Nat.le_refl, Int.sub_zero, Nat.sub_zero, Int.le_refl, true_or, or_true, List.getD_cons_zero, List.getD_cons_succ, fillL, splice, List.take_zero, List.drop_zero, List.drop_succ_cons, List.take_succ_cons, List.drop_nil, List.take_nil, r2, r3, r5, r6, ghb, gbb, t1, t2, f1, f2, f3, o1, decide_true, decide_false, u64_i (q : Int) (by omega), u64_i (b1 : Int) (by omega), u64_i (C : Int) (by omega), u64_i (h2 : Int) (by omega)]
        repeat refine And.intro (by omega) ?_
        first | exact ⟨hg, q, rfl, hq, by rw [hM2]; omega, hub⟩ | exact ⟨q, rfl, hq, by rw [hM2]; omega, hub⟩
    · simp only [↓gaW, ↓gaV, ↓gaC, ↓gaN, gaP, Nat.reduceEqDiff, Nat.reduceLeDiff, Nat.reduceAdd, Nat.reduceSub, Nat.reduceMul, Int.reduceLT, Int.reduceLE, Int.reduceEq, Int.reduceToNat, Int.reduceAdd, Int.reduceSub, Int.reduceMul, reduceCtorEq, ↓reduceIte, gaE, implies_true, Nat.le_refl, Int.sub_zero, Nat.sub_zero, Int.le_refl, true_or, or_true, List.getD_cons_zero, List.getD_cons_succ, fillL, splice, List.take_zero, List.drop_zero, List.drop_succ_cons, List.take_succ_cons, List.drop_nil, List.take_nil, r2, r3, r5, r6, ghb, gbb, t1, f2, decide_true, decide_false]
      repeat refine And.intro (by omega) ?_
      first | exact ⟨hg, q, rfl, hq, by rw [hM2]; omega, hub⟩ | exact ⟨q, rfl, hq, by rw [hM2]; omega, hub⟩
end
end Go.Ga

namespace Go.Ga
open Go Go.Proofs
set_option linter.unusedSimpArgs false
set_option linter.unusedVariables false
set_option maxRecDepth 100000
attribute [local irreducible] appendK

section
variable {nx : Nat} {gt : Nat → Option Blk}

/-- Words in a new block. -/
def W32F (lo nx : Nat) (gt : Nat → Option Blk) (v : Value) (l : List UInt32) : Prop := ∃ A n c, v = .slice A n c ∧ n ≤ c ∧ l.length = n ∧ Row nx gt 1 A n (l.map u32V) ∧ (0 < n → ∀ a, A = some a → lo ≤ a.block)

theorem ct_CloneF {A : Option Addr} {n c : Nat} {l : List UInt32} (hr : Row nx gt 1 A n (l.map u32V)) (hc : n ≤ c) (hn : n < 1000000000) :
    Ct Try.prog 95 [.slice A n c] nx gt fun v nx' gt' => W32F nx nx' gt' v l := by
  have hlen : l.length = n := by simpa using hr.len
  rcases Nat.eq_zero_or_pos n with h0 | h0
  · exact fun b hb => (ct_Clone hr hc hn b hb).mono fun _ _ _ ⟨v, h1, h2, h3, h4, A', n', c', e1, e2, e3, e4⟩ => ⟨v, h1, h2, h3, h4, A', n', c', e1, e2, e3, e4, fun hh => by omega⟩
  refine Ct.of hmx r_slices_Clone___uint32_uint32_ (by simp [c_slices_Clone___uint32_uint32_]) fun b hb => ?_
  obtain ⟨a, _, _, rfl, _⟩ := hr.cells h0
  have e : isNilV .sl (.slice (some a) n c) = some false := rfl
  have hrow : rowOf ⟨nx + 1, b, upd gt nx (some (.cells [] false))⟩ (some a) n = some (l.map u32V) := (hr.keep (Nat.le_succ _) (fun k hk => by simp only [upd_e]; rw [if_neg (by omega)])).rowOf
  simp only [c_slices_Clone___uint32_uint32_, ↓gaW, ↓gaV, ↓gaC, ↓gaN, gaP, Nat.reduceEqDiff, Nat.reduceLeDiff, Nat.reduceAdd, Nat.reduceSub, Nat.reduceMul, Int.reduceLT, Int.reduceLE, Int.reduceEq, Int.reduceToNat, Int.reduceAdd, Int.reduceSub, Int.reduceMul, reduceCtorEq, ↓reduceIte, gaE, implies_true, Nat.le_refl, Int.sub_zero, Nat.sub_zero, Int.le_refl, true_or, or_true, List.getD_cons_zero, List.getD_cons_succ, fillL, splice, List.take_zero, List.drop_zero, List.drop_succ_cons, List.take_succ_cons, List.drop_nil, List.take_nil, e, hrow]
  refine grow_append (nx := nx) (l := []) (Grow.lit (q := nx) (l := []) (ro := false) (by omega) (by simp [upd]) rfl) (by omega) (by omega) (by omega) (by omega) (by simp [hlen]) (all_u32 l) (by omega) (by omega) fun g' h2 h3 => ?_
  simp only [↓gaW, ↓gaV, ↓gaC, ↓gaN, gaP, Nat.reduceEqDiff, Nat.reduceLeDiff, Nat.reduceAdd, Nat.reduceSub, Nat.reduceMul, Int.reduceLT, Int.reduceLE, Int.reduceEq, Int.reduceToNat, Int.reduceAdd, Int.reduceSub, Int.reduceMul, reduceCtorEq, ↓reduceIte, gaE, implies_true, Nat.le_refl, Int.sub_zero, Nat.sub_zero, Int.le_refl, true_or, or_true]
  refine ⟨by omega, fun i hi => by rw [h2 i hi]; simp only [upd_e]; rw [if_neg (by omega)], ?_⟩
  rw [List.nil_append, Nat.zero_add] at h3
  have h4 : W32 _ _ _ _ := Grow.w32 (.inl h3)
  obtain ⟨A', n', c', e1, e2, e3, e4⟩ := h4
  refine ⟨A', n', c', e1, e2, e3, e4, fun _ a ha => ?_⟩
  injection e1 with e1
  subst ha
  injection e1 with e1
  subst e1
  show nx ≤ nx + 1
  omega

theorem ct_BareF {A : Option Addr} {n c : Nat} {l : List UInt32} (hr : Row nx gt 1 A n (l.map u32V)) (hc : n ≤ c) (hn : n < 1000000000) :
    Ct Try.prog 84 [.slice A n c] nx gt fun v nx' gt' => W32F nx nx' gt' v (lb (lv l)) := by
  have hlen : l.length = n := by simpa using hr.len
  refine Ct.of hmx r_limb_Bare (by simp [c_limb_Bare]) fun b hb => ?_
  simp only [c_limb_Bare, ↓gaW, ↓gaV, ↓gaC, ↓gaN, gaP, Nat.reduceEqDiff, Nat.reduceLeDiff, Nat.reduceAdd, Nat.reduceSub, Nat.reduceMul, Int.reduceLT, Int.reduceLE, Int.reduceEq, Int.reduceToNat, Int.reduceAdd, Int.reduceSub, Int.reduceMul, reduceCtorEq, ↓reduceIte]
  refine callK_of (ct_bare hr hc hn) (fun v n1 g1 l1 k1 hC => ?_) (by omega)
  obtain ⟨A1, n', c1, rfl, hc1, hl1, hr1⟩ := hC
  have hn' : n' < 1000000000 := by
    have := lb_len_le.2 (lv_lt l)
    omega
  simp only [↓gaW, ↓gaV, ↓gaC, ↓gaN, gaP, Nat.reduceEqDiff, Nat.reduceLeDiff, Nat.reduceAdd, Nat.reduceSub, Nat.reduceMul, Int.reduceLT, Int.reduceLE, Int.reduceEq, Int.reduceToNat, Int.reduceAdd, Int.reduceSub, Int.reduceMul, reduceCtorEq, ↓reduceIte]
  refine callK_of (ct_CloneF hr1 hc1 hn') (fun v n2 g2 l2 k2 hC => ?_) (by omega)
  simp only [↓gaW, ↓gaV, ↓gaC, ↓gaN, gaP, Nat.reduceEqDiff, Nat.reduceLeDiff, Nat.reduceAdd, Nat.reduceSub, Nat.reduceMul, Int.reduceLT, Int.reduceLE, Int.reduceEq, Int.reduceToNat, Int.reduceAdd, Int.reduceSub, Int.reduceMul, reduceCtorEq, ↓reduceIte, gaE, implies_true, Nat.le_refl, Int.sub_zero, Nat.sub_zero, Int.le_refl, true_or, or_true]
  obtain ⟨A', n', c', e1, e2, e3, e4, e5⟩ := hC
  exact ⟨by omega, fun i hi => by rw [k2 i (by omega), k1 i hi], A', n', c', e1, e2, e3, e4, fun h a ha => Nat.le_trans l1 (e5 h a ha)⟩

end
end Go.Ga

/- A digit of a quotient. -/
namespace Go.Ga
open Go
set_option maxRecDepth 100000

theorem digit {P U M H3 M2 Ul Ml q : Nat} (hU : U = H3 * P + Ul) (hUl : Ul < P) (hM : M = M2 * P + Ml) (hMl : Ml < P) (hq : q < 4294967296) (hM2 : 4294967295 ≤ M2) (h1 : q * M2 ≤ H3)
    (h2 : ∀ t, t < 4294967296 → t * M2 ≤ H3 → t ≤ q) (hUM : U < M * 4294967296) : U / M ≤ q ∧ (q - 1) * M ≤ U := by
  have hP : 0 < P := by omega
  have hM0 : 0 < M := by
    have : 1 * P ≤ M2 * P := Nat.mul_le_mul_right _ (by omega)
    omega
  constructor
  · refine h2 _ ?_ ?_
    · rw [Nat.div_lt_iff_lt_mul hM0, Nat.mul_comm]; exact hUM
    · have h3 : U / M * M ≤ U := Nat.div_mul_le_self U M
      have h4 : U / M * M2 * P ≤ U := by
        refine Nat.le_trans ?_ h3
        rw [Nat.mul_assoc]
        exact Nat.mul_le_mul_left _ (by omega)
      have h5 : U / M * M2 * P < (H3 + 1) * P := by rw [Nat.add_mul, Nat.one_mul]; omega
      have := Nat.lt_of_mul_lt_mul_right h5
      omega
  · rcases Nat.eq_zero_or_pos q with h | h
    · subst h; simp
    · obtain ⟨z, rfl⟩ : ∃ z, q = z + 1 := ⟨q - 1, by omega⟩
      rw [Nat.add_sub_cancel]
      have h3 : z * (M2 + 1) ≤ H3 := by
        rw [Nat.add_mul, Nat.one_mul] at h1
        rw [Nat.mul_add, Nat.mul_one]
        omega
      have h4 : z * M ≤ z * ((M2 + 1) * P) := Nat.mul_le_mul_left _ (by rw [Nat.add_mul, Nat.one_mul]; omega)
      have h5 : z * (M2 + 1) * P ≤ H3 * P := Nat.mul_le_mul_right _ h3
      rw [Nat.mul_assoc] at h5
      omega

/-- What `less`, and `more` behind it, leave. -/
theorem less_end {X U M q w o : Nat} (hw : w < X) (ho : o < 2) (h : w + q * M = U + X * o) : (o = 0 → q * M ≤ U ∧ w = U - q * M) ∧ (o = 1 → U < q * M) := by
  have h2 : o = 0 ∨ o = 1 := by omega
  rcases h2 with rfl | rfl <;> constructor <;> intro h3 <;> first | omega | (simp at h3)
theorem more_end {X U M q w w2 e : Nat} (hq : 0 < q) (hw2 : w2 < X) (hM : M ≤ X) (h : w + q * M = U + X) (h2 : w2 + X * e = w + M) (h3 : (q - 1) * M ≤ U) (h4 : U < q * M) : w2 = U - (q - 1) * M := by
  obtain ⟨z, rfl⟩ : ∃ z, q = z + 1 := ⟨q - 1, by omega⟩
  rw [Nat.add_sub_cancel] at h3 ⊢
  rw [Nat.add_mul, Nat.one_mul] at h h4
  have h5 : w2 + X * e = X + (U - z * M) := by omega
  have : e = 1 := by
    rcases Nat.lt_or_ge e 1 with h | h
    · have : e = 0 := by omega
      subst this; omega
    · rcases Nat.lt_or_ge 1 e with h' | h'
      · have : X * 2 ≤ X * e := Nat.mul_le_mul_left _ h'
        omega
      · omega
  subst this
  omega

theorem top3 {u : List UInt32} {z c : Nat} (hu : z + (c + 2) < u.length) (h : lv (u.drop (z + 1)) < 4294967296 ^ (c + 2)) :
    lv (u.drop (z + c + 3)) = 0 ∧ lv (u.drop z) = (((u.getD (z + c + 2) 0).toNat * 4294967296 + (u.getD (z + c + 1) 0).toNat) * 4294967296 + (u.getD (z + c) 0).toNat) * 4294967296 ^ c + lv ((u.drop z).take c) := by
  have h0 : lv (u.drop (z + c + 3)) = 0 := by
    have sp := lv_split (u.drop (z + 1)) (c + 2) (by simp; omega)
    rw [List.drop_drop, show z + 1 + (c + 2) = z + c + 3 by omega] at sp
    rcases Nat.eq_zero_or_pos (lv (u.drop (z + c + 3))) with h1 | h1
    · exact h1
    · have := Nat.le_mul_of_pos_right (4294967296 ^ (c + 2)) h1
      omega
  refine ⟨h0, ?_⟩
  have sp := lv_split (u.drop z) c (by simp; omega)
  rw [List.drop_drop] at sp
  rw [sp, lv_drop_cons (l := u) (i := z + c) (by omega), lv_drop_cons (l := u) (i := z + c + 1) (by omega), lv_drop_cons (l := u) (i := z + c + 1 + 1) (by omega), show z + c + 1 + 1 + 1 = z + c + 3 by omega, h0, Nat.mul_zero, Nat.add_zero, show z + c + 1 + 1 = z + c + 2 by omega, Nat.add_comm, Nat.mul_comm (4294967296 ^ c)]
  congr 2
  omega
theorem top2 {l : List UInt32} {c : Nat} (hl : l.length = c + 2) : lv l = ((l.getD (c + 1) 0).toNat * 4294967296 + (l.getD c 0).toNat) * 4294967296 ^ c + lv (l.take c) := by
  have sp := lv_split l c (by omega)
  rw [sp, lv_drop_cons (l := l) (i := c) (by omega), lv_drop_cons (l := l) (i := c + 1) (by omega), List.drop_of_length_le (show l.length ≤ c + 1 + 1 by omega), show lv [] = 0 from rfl, Nat.mul_zero, Nat.add_zero, Nat.add_comm, Nat.mul_comm (4294967296 ^ c)]
  congr 2
  omega
theorem headsB {b P M H0 H1 H2 B0 B1 Ul Ml V x : Nat} (hM : M = (B0 * b + B1) * P + Ml) (hMl : Ml < P) (hB1 : B1 < b) (hV : x + b * V = ((H0 * b + H1) * b + H2) * P + Ul) (hx : x < b) (hVM : V < M) : H0 ≤ B0 := by
  have h1 : M < (B0 * b + B1 + 1) * P := by rw [Nat.add_mul, Nat.one_mul]; omega
  have a2 : B0 * b + B1 + 1 ≤ (B0 + 1) * b := by rw [Nat.add_mul, Nat.one_mul]; omega
  have h2 := Nat.lt_of_lt_of_le h1 (Nat.mul_le_mul_right P a2)
  have a3 : H0 * b * b ≤ (H0 * b + H1) * b + H2 := by rw [Nat.add_mul]; omega
  have h3 := Nat.mul_le_mul_right P a3
  have h4 : b * (V + 1) ≤ b * M := Nat.mul_le_mul_left b hVM
  rw [Nat.mul_add, Nat.mul_one] at h4
  have h5 : H0 * b * b * P < b * M := by omega
  have h6 : b * M ≤ b * ((B0 + 1) * b * P) := Nat.mul_le_mul_left b (Nat.le_of_lt h2)
  have h7 : H0 * (b * b * P) < (B0 + 1) * (b * b * P) := by
    have e1 : H0 * (b * b * P) = H0 * b * b * P := by ac_rfl
    have e2 : (B0 + 1) * (b * b * P) = b * ((B0 + 1) * b * P) := by ac_rfl
    rw [e1, e2]; omega
  have := Nat.lt_of_mul_lt_mul_right h7
  omega
theorem headsC {b P M B0 B1 Ml : Nat} (hM : M = (B0 * b + B1) * P + Ml) (hMl : Ml < P) (hn : b * b * P ≤ 2 * M) : b * b < 2 * (B0 * b + B1 + 1) := by
  have h1 : M < (B0 * b + B1 + 1) * P := by rw [Nat.add_mul, Nat.one_mul]; omega
  have h2 : b * b * P < 2 * (B0 * b + B1 + 1) * P := by rw [Nat.mul_assoc 2]; omega
  exact Nat.lt_of_mul_lt_mul_right h2
end Go.Ga

namespace Go.Ga
open Go Go.Proofs
set_option linter.unusedSimpArgs false
set_option linter.unusedVariables false
set_option maxRecDepth 100000
attribute [local irreducible] appendK

section
variable {nx : Nat} {gt : Nat → Option Blk}

theorem set_getD_is {w : List UInt32} {i : Nat} {x : UInt32} (h : i < w.length) : (w.set i x).getD i 0 = x := by
  simp [List.getD_eq_getElem?_getD, h]

theorem digit_laid {u qs win : List UInt32} {z n d M U : Nat} (hq : z < qs.length) (hu : z + n ≤ u.length) (h0 : lv (u.drop (z + n)) = 0) (hw : win.length = n) (hv : lv win + d * M = lv (u.drop z)) (hd : d < 4294967296) (hlt : lv win < M)
    (he : lv u + 4294967296 ^ (z + 1) * (lv (qs.drop (z + 1)) * M) = U) :
    lv (u.take z ++ (win ++ u.drop (z + n))) + 4294967296 ^ z * (lv ((qs.set z (UInt32.ofNat d)).drop z) * M) = U ∧ lv ((u.take z ++ (win ++ u.drop (z + n))).drop z) < M ∧ (u.take z ++ (win ++ u.drop (z + n))).length = u.length := by
  have e0 : lv (win ++ u.drop (z + n)) = lv win := by rw [lv_append, h0]; simp
  have hl : (u.take z).length = z := by simp; omega
  refine ⟨?_, ?_, by simp; omega⟩
  · have sp := lv_split u z (by omega)
    have e1 : lv ((qs.set z (UInt32.ofNat d)).drop z) = d + 4294967296 * lv (qs.drop (z + 1)) := by
      rw [lv_drop_cons (by simpa using hq), List.drop_set_of_lt (by omega), set_getD_is hq, ofNat32, Nat.mod_eq_of_lt hd]
    rw [lv_append, hl, e0, e1, ← he, sp, ← hv, Nat.pow_succ]
    simp only [Nat.mul_add, Nat.add_mul]
    ac_rfl
  · rw [List.drop_left' hl, e0]; exact hlt

def divL : RC :=
  (.seq
  (.seq
  (.ops [] [
  ⟨(some 108), (.op (.mv (.t 8))), none⟩,
  ⟨(some 109), (.op (.mv (.t 10))), none⟩,
  ⟨(some 110), (.op (.sl 1 (.t 108) (some (.t 109)) none none)), none⟩,
  ⟨(some 111), (.op (.mv (.t 1))), none⟩,
  ⟨(some 112), (.op (.mv (.t 12))), none⟩,
  ⟨(some 113), (.call (.k (.func (.func 89) #[] #[])) [(.t 110), (.t 111), (.t 112)]), none⟩,
  ⟨(some 114), (.op (.un .not (.t 113))), none⟩])
  (.cond (.t 114)
  (.seq
  (.ops [] [
  ⟨(some 115), (.op (.mv (.t 8))), none⟩,
  ⟨(some 116), (.op (.mv (.t 10))), none⟩,
  ⟨(some 117), (.op (.sl 1 (.t 115) (some (.t 116)) none none)), none⟩,
  ⟨(some 118), (.op (.mv (.t 1))), none⟩,
  ⟨(some 119), (.call (.k (.func (.func 90) #[] #[])) [(.t 117), (.t 118)]), none⟩])
  (.ops [] [
  ⟨(some 120), (.op (.mv (.t 12))), none⟩,
  ⟨(some 121), (.op (.bin .sub (.t 120) (.k (.int .u32 1)))), none⟩,
  ⟨(some 12), (.op (.mv (.t 121))), none⟩]))
  .skip))
  (.ops [] [
  ⟨(some 122), (.op (.mv (.t 4))), none⟩,
  ⟨(some 123), (.op (.mv (.t 10))), none⟩,
  ⟨(some 124), (.op (.mv (.t 12))), none⟩,
  ⟨(some 125), (.op (.ixAddr 1 (.t 122) (.t 123))), none⟩,
  ⟨none, (.op (.store 1 (.t 125) (.t 124))), none⟩]))

theorem div_tail {f : Regs} {x b q n7 z n N c3 T Q M U : Nat} {am : Addr} {g : Nat → Option Blk} {u qs : List UInt32} {s : Stk} (hbq : b ≤ q) (hqn : q < n7) (hn7 : n7 < x)
    (f1 : f 1 = .slice (some am) n c3) (f4 : f 4 = .slice (some ⟨n7, 0, none⟩) T T) (f8 : f 8 = .slice (some ⟨q, 0, none⟩) N N) (f10 : f 10 = .int .i64 (z : Nat)) (f12 : f 12 = .int .u32 (Q : Nat))
    (gq : g q = some (.cells (u.map u32V) false)) (gn : g n7 = some (.cells (qs.map u32V) false)) (hu : u.length = N) (hN : N < 1000000000) (hqs : qs.length = T) (hzT : z < T) (hTN : T ≤ N) (hzN : z + (n + 1) ≤ N)
    (rM : Row x g 1 (some am) n ((lb M).map u32V)) (hlM : (lb M).length = n) (ham : am.block ≠ q) (hQ : Q < 4294967296) (hM0 : 0 < M) (hdig : lv (u.drop z) / M ≤ Q ∧ (Q - 1) * M ≤ lv (u.drop z)) (tz : lv (u.drop (z + (n + 1))) = 0)
    (he : lv u + 4294967296 ^ (z + 1) * (lv (qs.drop (z + 1)) * M) = U)
    (K : ∀ (f' : Regs) (x' : Nat) (g' : Nat → Option Blk) (u' qs' : List UInt32), f' 1 = f 1 → f' 4 = f 4 → f' 7 = f 7 → f' 8 = f 8 → f' 9 = f 9 → f' 10 = f 10 → x ≤ x' → (∀ p, p < x → p ≠ q → p ≠ n7 → g' p = g p) → g' q = some (.cells (u'.map u32V) false) → g' n7 = some (.cells (qs'.map u32V) false) →
      u'.length = N → qs'.length = T → lv u' + 4294967296 ^ z * (lv (qs'.drop z) * M) = U → lv (u'.drop z) < M → (∀ j, j < z → qs'.getD j 0 = qs.getD j 0) → D Try.prog s .normal f' ⟨x', b, g'⟩) :
    RC.vc Try.prog divL f ⟨x, b, g⟩ (D Try.prog s) := by
  have hsplit : u = u.take z ++ ((u.drop z).take (n + 1) ++ u.drop (z + (n + 1))) := by
    rw [← List.drop_drop, List.take_append_drop, List.take_append_drop]
  obtain ⟨win, hwin⟩ : ∃ win, (u.drop z).take (n + 1) = win := ⟨_, rfl⟩
  have hwn : win.length = n + 1 := by rw [← hwin]; simp; omega
  have hwv : lv win = lv (u.drop z) := by
    have sp := lv_split (u.drop z) (n + 1) (by simp; omega)
    rw [List.drop_drop, tz, Nat.mul_zero, Nat.add_zero, hwin] at sp
    exact sp.symm
  rw [hwin] at hsplit
  have gq8 : g q = some (.cells ((u.take z ++ (win ++ u.drop (z + (n + 1)))).map u32V) false) := by rw [gq, ← hsplit]
  have hMn : M < 4294967296 ^ n := lb_len_le.1 (Nat.le_of_eq hlM)
  have hM1 : M ≤ 4294967296 ^ (n + 1) := by rw [Nat.pow_succ]; omega
  have n1 : ((N : Int) - (z : Int)).toNat = N - z := by omega
  simp only [divL, ↓gaW, ↓gaV, ↓gaC, ↓gaN, gaP, Nat.reduceEqDiff, Nat.reduceLeDiff, Nat.reduceAdd, Nat.reduceSub, Nat.reduceMul, Int.reduceLT, Int.reduceLE, Int.reduceEq, Int.reduceToNat, Int.reduceAdd, Int.reduceSub, Int.reduceMul, reduceCtorEq, ↓reduceIte, List.getD_cons_zero, List.getD_cons_succ, fillL, splice, List.take_zero, List.drop_zero, List.drop_succ_cons, List.take_succ_cons, List.drop_nil, List.take_nil, f1, f8, f10, f12, Nat.zero_add, Nat.mul_one, n1]
  repeat refine And.intro (by first | omega | (simp; done) | (simp; omega) | exact all1 rfl) ?_
  refine callW_of (ct_less (n := n) (hi := u.drop (z + (n + 1))) (by omega) gq8 (by simp; omega) hwn (by omega) (by omega) rM (fun a ha => by injection ha with ha; subst ha; exact ham) hQ) (fun v n9 g9 l9 k9 hC => ?_) (by omega) (by omega)
  obtain ⟨win', o, ho, rfl, hwl, gq9, hlv⟩ := hC
  rw [lv_lb, hwv] at hlv
  obtain ⟨le0, le1⟩ := less_end (lv_lt' (Nat.le_of_eq hwl)) ho hlv
  have gn9 : g9 n7 = some (.cells (qs.map u32V) false) := by rw [k9 n7 (by omega) (by omega), gn]
  by_cases ho0 : (o : Int) = 0
  · obtain ⟨q1', q2'⟩ := le0 (by omega)
    have hQd : lv (u.drop z) / M = Q := by
      refine Nat.le_antisymm hdig.1 ?_
      rw [Nat.le_div_iff_mul_le hM0]; exact q1'
    obtain ⟨dg, hdg⟩ : ∃ d, Q = d := ⟨_, rfl⟩
    subst hdg
    have hdv : lv win' + Q * M = lv (u.drop z) := by omega
    have hdl : lv win' < M := by
      have := Nat.mod_lt (lv (u.drop z)) hM0
      have h2 := Nat.div_add_mod (lv (u.drop z)) M
      rw [hQd, Nat.mul_comm] at h2
      omega
    have hdone := digit_laid (U := U) (qs := qs) (d := Q) (by omega) (by omega) tz hwl hdv (by omega) hdl he
    obtain ⟨hd1, hd2, hd3⟩ := hdone
    have spq : splice (qs.map u32V) z [.int .u32 (Q : Nat)] = (qs.set z (UInt32.ofNat Q)).map u32V := by
      rw [u32V_lt (by omega), splice_set (by omega)]
    simp only [↓gaW, ↓gaV, ↓gaC, ↓gaN, gaP, Nat.reduceEqDiff, Nat.reduceLeDiff, Nat.reduceAdd, Nat.reduceSub, Nat.reduceMul, Int.reduceLT, Int.reduceLE, Int.reduceEq, Int.reduceToNat, Int.reduceAdd, Int.reduceSub, Int.reduceMul, reduceCtorEq, ↓reduceIte, ho0, decide_true, Bool.not_true, f4, f10, f12, gn9, spq, Nat.zero_add, Nat.mul_one]
    repeat refine And.intro (by first | omega | (simp; done) | (simp; omega) | exact all1 rfl) ?_
    refine K _ _ _ _ _ (by simp only [↓gaW, ↓gaV, ↓gaC, ↓gaN, gaP, Nat.reduceEqDiff, Nat.reduceLeDiff, Nat.reduceAdd, Nat.reduceSub, Nat.reduceMul, Int.reduceLT, Int.reduceLE, Int.reduceEq, Int.reduceToNat, Int.reduceAdd, Int.reduceSub, Int.reduceMul, reduceCtorEq, ↓reduceIte]) (by simp only [↓gaW, ↓gaV, ↓gaC, ↓gaN, gaP, Nat.reduceEqDiff, Nat.reduceLeDiff, Nat.reduceAdd, Nat.reduceSub, Nat.reduceMul, Int.reduceLT, Int.reduceLE, Int.reduceEq, Int.reduceToNat, Int.reduceAdd, Int.reduceSub, Int.reduceMul, reduceCtorEq, ↓reduceIte, f4]) (by simp only [↓gaW, ↓gaV, ↓gaC, ↓gaN, gaP, Nat.reduceEqDiff, Nat.reduceLeDiff, Nat.reduceAdd, Nat.reduceSub, Nat.reduceMul, Int.reduceLT, Int.reduceLE, Int.reduceEq, Int.reduceToNat, Int.reduceAdd, Int.reduceSub, Int.reduceMul, reduceCtorEq, ↓reduceIte]) (by simp only [↓gaW, ↓gaV, ↓gaC, ↓gaN, gaP, Nat.reduceEqDiff, Nat.reduceLeDiff, Nat.reduceAdd, Nat.reduceSub, Nat.reduceMul, Int.reduceLT, Int.reduceLE, Int.reduceEq, Int.reduceToNat, Int.reduceAdd, Int.reduceSub, Int.reduceMul, reduceCtorEq, ↓reduceIte]) (by simp only [↓gaW, ↓gaV, ↓gaC, ↓gaN, gaP, Nat.reduceEqDiff, Nat.reduceLeDiff, Nat.reduceAdd, Nat.reduceSub, Nat.reduceMul, Int.reduceLT, Int.reduceLE, Int.reduceEq, Int.reduceToNat, Int.reduceAdd, Int.reduceSub, Int.reduceMul, reduceCtorEq, ↓reduceIte]) (by simp only [↓gaW, ↓gaV, ↓gaC, ↓gaN, gaP, Nat.reduceEqDiff, Nat.reduceLeDiff, Nat.reduceAdd, Nat.reduceSub, Nat.reduceMul, Int.reduceLT, Int.reduceLE, Int.reduceEq, Int.reduceToNat, Int.reduceAdd, Int.reduceSub, Int.reduceMul, reduceCtorEq, ↓reduceIte]) l9 (fun p hp hpq hpn => ?_) ?_ (by simp only [upd_e, if_true]) (hd3.trans hu) (by simpa using hqs) hd1 hd2 (fun j hj => set_getD_ne (by omega))
    · simp only [upd_e]; rw [if_neg hpn, k9 p hp hpq]
    · simp only [upd_e]; rw [if_neg (by omega), gq9]
  · have o1 : o = 1 := by omega
    subst o1
    have hlt := le1 rfl
    rw [Nat.mul_one] at hlv
    have hQ0 : 0 < Q := by
      rcases Nat.eq_zero_or_pos Q with h | h
      · subst h; omega
      · exact h
    have rM9 : Row n9 g9 1 (some am) n ((lb M).map u32V) := rM.keepA l9 fun hn a ha => by
      injection ha with ha
      subst ha
      obtain ⟨a', _, _, e1, e2, _⟩ := rM.cells hn
      injection e1 with e1
      subst e1
      exact k9 _ e2 ham
    simp only [↓gaW, ↓gaV, ↓gaC, ↓gaN, gaP, Nat.reduceEqDiff, Nat.reduceLeDiff, Nat.reduceAdd, Nat.reduceSub, Nat.reduceMul, Int.reduceLT, Int.reduceLE, Int.reduceEq, Int.reduceToNat, Int.reduceAdd, Int.reduceSub, Int.reduceMul, reduceCtorEq, ↓reduceIte, List.getD_cons_zero, List.getD_cons_succ, fillL, splice, List.take_zero, List.drop_zero, List.drop_succ_cons, List.take_succ_cons, List.drop_nil, List.take_nil, ho0, decide_false, Bool.not_false, f1, f8, f10, f12, Nat.zero_add, Nat.mul_one, n1]
    repeat refine And.intro (by first | omega | (simp; done) | (simp; omega) | exact all1 rfl) ?_
    refine callW_of (ct_more (n := n) (hi := u.drop (z + (n + 1))) (by omega) gq9 (by simp; omega) hwl (by omega) (by omega) rM9 (fun a ha => by injection ha with ha; subst ha; exact ham)) (fun v n10 g10 l10 k10 hC => ?_) (by omega) (by omega)
    obtain ⟨win2, e, hwl2, gq10, hlv2⟩ := hC
    rw [lv_lb] at hlv2
    have hw2 := more_end hQ0 (lv_lt' (Nat.le_of_eq hwl2)) hM1 hlv hlv2 hdig.2 hlt
    obtain ⟨dg, rfl⟩ : ∃ d, Q = d + 1 := ⟨Q - 1, by omega⟩
    rw [Nat.add_sub_cancel] at hw2 hdig
    have hdv : lv win2 + dg * M = lv (u.drop z) := by omega
    have hdl : lv win2 < M := by rw [Nat.add_mul, Nat.one_mul] at hlt; omega
    have hdone := digit_laid (U := U) (qs := qs) (d := dg) (by omega) (by omega) tz hwl2 hdv (by omega) hdl he
    obtain ⟨hd1, hd2, hd3⟩ := hdone
    have gn10 : g10 n7 = some (.cells (qs.map u32V) false) := by rw [k10 n7 (by omega) (by omega), gn9]
    have spq : splice (qs.map u32V) z [.int .u32 (dg : Nat)] = (qs.set z (UInt32.ofNat dg)).map u32V := by
      rw [u32V_lt (by omega), splice_set (by omega)]
    have e1 : ((dg + 1 : Nat) : Int) - 1 = (dg : Int) := by omega
    simp only [↓gaW, ↓gaV, ↓gaC, ↓gaN, gaP, Nat.reduceEqDiff, Nat.reduceLeDiff, Nat.reduceAdd, Nat.reduceSub, Nat.reduceMul, Int.reduceLT, Int.reduceLE, Int.reduceEq, Int.reduceToNat, Int.reduceAdd, Int.reduceSub, Int.reduceMul, reduceCtorEq, ↓reduceIte, f4, f10, f12, e1, u32_i (dg : Int) (by omega), gn10, spq, Nat.zero_add, Nat.mul_one]
    repeat refine And.intro (by first | omega | (simp; done) | (simp; omega) | exact all1 rfl) ?_
    refine K _ _ _ _ _ (by simp only [↓gaW, ↓gaV, ↓gaC, ↓gaN, gaP, Nat.reduceEqDiff, Nat.reduceLeDiff, Nat.reduceAdd, Nat.reduceSub, Nat.reduceMul, Int.reduceLT, Int.reduceLE, Int.reduceEq, Int.reduceToNat, Int.reduceAdd, Int.reduceSub, Int.reduceMul, reduceCtorEq, ↓reduceIte]) (by simp only [↓gaW, ↓gaV, ↓gaC, ↓gaN, gaP, Nat.reduceEqDiff, Nat.reduceLeDiff, Nat.reduceAdd, Nat.reduceSub, Nat.reduceMul, Int.reduceLT, Int.reduceLE, Int.reduceEq, Int.reduceToNat, Int.reduceAdd, Int.reduceSub, Int.reduceMul, reduceCtorEq, ↓reduceIte, f4]) (by simp only [↓gaW, ↓gaV, ↓gaC, ↓gaN, gaP, Nat.reduceEqDiff, Nat.reduceLeDiff, Nat.reduceAdd, Nat.reduceSub, Nat.reduceMul, Int.reduceLT, Int.reduceLE, Int.reduceEq, Int.reduceToNat, Int.reduceAdd, Int.reduceSub, Int.reduceMul, reduceCtorEq, ↓reduceIte]) (by simp only [↓gaW, ↓gaV, ↓gaC, ↓gaN, gaP, Nat.reduceEqDiff, Nat.reduceLeDiff, Nat.reduceAdd, Nat.reduceSub, Nat.reduceMul, Int.reduceLT, Int.reduceLE, Int.reduceEq, Int.reduceToNat, Int.reduceAdd, Int.reduceSub, Int.reduceMul, reduceCtorEq, ↓reduceIte]) (by simp only [↓gaW, ↓gaV, ↓gaC, ↓gaN, gaP, Nat.reduceEqDiff, Nat.reduceLeDiff, Nat.reduceAdd, Nat.reduceSub, Nat.reduceMul, Int.reduceLT, Int.reduceLE, Int.reduceEq, Int.reduceToNat, Int.reduceAdd, Int.reduceSub, Int.reduceMul, reduceCtorEq, ↓reduceIte]) (by simp only [↓gaW, ↓gaV, ↓gaC, ↓gaN, gaP, Nat.reduceEqDiff, Nat.reduceLeDiff, Nat.reduceAdd, Nat.reduceSub, Nat.reduceMul, Int.reduceLT, Int.reduceLE, Int.reduceEq, Int.reduceToNat, Int.reduceAdd, Int.reduceSub, Int.reduceMul, reduceCtorEq, ↓reduceIte]) (by omega) (fun p hp hpq hpn => ?_) ?_ (by simp only [upd_e, if_true]) (hd3.trans hu) (by simpa using hqs) hd1 hd2 (fun j hj => set_getD_ne (by omega))
    · simp only [upd_e]; rw [if_neg hpn, k10 p (by omega) hpq, k9 p hp hpq]
    · simp only [upd_e]; rw [if_neg (by omega), gq10]
end
end Go.Ga

namespace Go.Ga
open Go Go.Proofs
set_option linter.unusedSimpArgs false
set_option linter.unusedVariables false
set_option maxRecDepth 100000
attribute [local irreducible] appendK

theorem eq3 (a0 a1 a2 b0 b1 b2 : Int) (K : Bool → Prop) : eqK Try.prog .eql 109 #[.int .u32 a0, .int .u32 a1, .int .u32 a2] #[.int .u32 b0, .int .u32 b1, .int .u32 b2] K = K (decide (a0 = b0 ∧ a1 = b1 ∧ a2 = b2)) := by
  have := eqK_ints (P := Try.prog) (t := 109) (e := 35) (len := 3) (k := .u32) (k' := .u32) (i := ((Try.prog).info? 35).get (by kernel_rfl)) (by kernel_rfl) (by kernel_rfl) (Option.some_get _).symm (by kernel_rfl) (by kernel_rfl) [a0, a1, a2] [b0, b1, b2] rfl rfl K
  simp only [List.cons.injEq, and_true] at this
  exact this

section
def divB : RC :=
  (.block 2
  (.seq
  (.ops [
  ⟨(some 71), (.op (.mv (.t 8))), none⟩,
  ⟨(some 72), (.op (.mv (.t 10))), none⟩,
  ⟨(some 73), (.op (.mv (.t 9))), none⟩,
  ⟨(some 74), (.op (.bin .add (.t 72) (.t 73))), none⟩,
  ⟨(some 75), (.op (.ixAddr 1 (.t 71) (.t 74))), none⟩,
  ⟨(some 76), (.op (.load1 (.t 75))), none⟩,
  ⟨(some 77), (.op (.mv (.t 8))), none⟩,
  ⟨(some 78), (.op (.mv (.t 10))), none⟩,
  ⟨(some 79), (.op (.mv (.t 9))), none⟩,
  ⟨(some 80), (.op (.bin .add (.t 78) (.t 79))), none⟩,
  ⟨(some 81), (.op (.bin .sub (.t 80) (.k (.int .i64 1)))), none⟩,
  ⟨(some 82), (.op (.ixAddr 1 (.t 77) (.t 81))), none⟩,
  ⟨(some 83), (.op (.load1 (.t 82))), none⟩,
  ⟨(some 84), (.op (.mv (.t 8))), none⟩,
  ⟨(some 85), (.op (.mv (.t 10))), none⟩,
  ⟨(some 86), (.op (.mv (.t 9))), none⟩,
  ⟨(some 87), (.op (.bin .add (.t 85) (.t 86))), none⟩,
  ⟨(some 88), (.op (.bin .sub (.t 87) (.k (.int .i64 2)))), none⟩,
  ⟨(some 89), (.op (.ixAddr 1 (.t 84) (.t 88))), none⟩,
  ⟨(some 90), (.op (.load1 (.t 89))), none⟩,
  ⟨(some 91), (.op (.build [(.int .u32 0), (.int .u32 0), (.int .u32 0)] [(0, (1, (.t 76))), (1, (1, (.t 83))), (2, (1, (.t 90)))])), none⟩,
  ⟨(some 11), (.op (.new [(.int .u32 0), (.int .u32 0), (.int .u32 0)])), none⟩] [
  ⟨none, (.op (.store 3 (.t 11) (.t 91))), none⟩])
  (.seq
  (.seq
  (.ops [] [
  ⟨(some 92), (.op (.loadN 3 (.t 11))), none⟩,
  ⟨(some 93), (.op (.build [(.int .u32 0), (.int .u32 0), (.int .u32 0)] [])), none⟩,
  ⟨(some 94), (.op (.eqA .eql 109 (.t 92) (.t 93))), none⟩])
  (.cond (.t 94)
  (.exit 2)
  .skip))
  (.seq
  (.ops [
  ⟨(some 95), (.op (.loadN 3 (.t 11))), none⟩,
  ⟨(some 96), (.op (.mv (.t 1))), none⟩,
  ⟨(some 97), (.op (.mv (.t 9))), none⟩,
  ⟨(some 98), (.op (.bin .sub (.t 97) (.k (.int .i64 1)))), none⟩,
  ⟨(some 99), (.op (.ixAddr 1 (.t 96) (.t 98))), none⟩,
  ⟨(some 100), (.op (.load1 (.t 99))), none⟩,
  ⟨(some 101), (.op (.mv (.t 1))), none⟩,
  ⟨(some 102), (.op (.mv (.t 9))), none⟩,
  ⟨(some 103), (.op (.bin .sub (.t 102) (.k (.int .i64 2)))), none⟩,
  ⟨(some 104), (.op (.ixAddr 1 (.t 101) (.t 103))), none⟩,
  ⟨(some 105), (.op (.load1 (.t 104))), none⟩,
  ⟨(some 106), (.op (.build [(.int .u32 0), (.int .u32 0)] [(0, (1, (.t 100))), (1, (1, (.t 105)))])), none⟩] [
  ⟨(some 107), (.call (.k (.func (.func 88) #[] #[])) [(.t 95), (.t 106)]), none⟩,
  ⟨(some 12), (.op (.mv (.t 107))), none⟩])
  (.seq
  (.seq
  (.ops [] [
  ⟨(some 108), (.op (.mv (.t 8))), none⟩,
  ⟨(some 109), (.op (.mv (.t 10))), none⟩,
  ⟨(some 110), (.op (.sl 1 (.t 108) (some (.t 109)) none none)), none⟩,
  ⟨(some 111), (.op (.mv (.t 1))), none⟩,
  ⟨(some 112), (.op (.mv (.t 12))), none⟩,
  ⟨(some 113), (.call (.k (.func (.func 89) #[] #[])) [(.t 110), (.t 111), (.t 112)]), none⟩,
  ⟨(some 114), (.op (.un .not (.t 113))), none⟩])
  (.cond (.t 114)
  (.seq
  (.ops [] [
  ⟨(some 115), (.op (.mv (.t 8))), none⟩,
  ⟨(some 116), (.op (.mv (.t 10))), none⟩,
  ⟨(some 117), (.op (.sl 1 (.t 115) (some (.t 116)) none none)), none⟩,
  ⟨(some 118), (.op (.mv (.t 1))), none⟩,
  ⟨(some 119), (.call (.k (.func (.func 90) #[] #[])) [(.t 117), (.t 118)]), none⟩])
  (.ops [] [
  ⟨(some 120), (.op (.mv (.t 12))), none⟩,
  ⟨(some 121), (.op (.bin .sub (.t 120) (.k (.int .u32 1)))), none⟩,
  ⟨(some 12), (.op (.mv (.t 121))), none⟩]))
  .skip))
  (.ops [] [
  ⟨(some 122), (.op (.mv (.t 4))), none⟩,
  ⟨(some 123), (.op (.mv (.t 10))), none⟩,
  ⟨(some 124), (.op (.mv (.t 12))), none⟩,
  ⟨(some 125), (.op (.ixAddr 1 (.t 122) (.t 123))), none⟩,
  ⟨none, (.op (.store 1 (.t 125) (.t 124))), none⟩]))))))

theorem div_round {f : Regs} {x b q n7 z a3 N c3 T M U : Nat} {am : Addr} {g : Nat → Option Blk} {u qs : List UInt32} {s : Stk} (hbq : b ≤ q) (hqn : q < n7) (hx : n7 < x)
    (r1' : f 1 = .slice (some am) a3 c3) (r4' : f 4 = .slice (some ⟨n7, 0, none⟩) T T) (r8' : f 8 = .slice (some ⟨q, 0, none⟩) N N) (r9' : f 9 = .int .i64 (a3 : Nat)) (r10' : f 10 = .int .i64 (z : Nat))
    (hgq : g q = some (.cells (u.map u32V) false)) (hgn : g n7 = some (.cells (qs.map u32V) false)) (hu : u.length = N) (hNs : N < 1000000000) (hqs : qs.length = T) (hzT : z < T) (hTN : T ≤ N) (hzN : z + (a3 + 1) ≤ N) (h2 : 2 ≤ a3)
    (r3 : Row x g 1 (some am) a3 ((lb M).map u32V)) (hl3 : (lb M).length = a3) (ham : am.block ≠ q) (hM0 : 0 < M) (hs2 : M < 4294967296 ^ a3) (hs3 : 4294967296 ^ a3 ≤ 2 * M)
    (he : lv u + 4294967296 ^ (z + 1) * (lv (qs.drop (z + 1)) * M) = U) (hlt : lv (u.drop (z + 1)) < M) (hz : qs.getD z 0 = 0)
    (K : ∀ (f' : Regs) (x' : Nat) (g' : Nat → Option Blk) (u' qs' : List UInt32), f' 1 = f 1 → f' 4 = f 4 → f' 7 = f 7 → f' 8 = f 8 → f' 9 = f 9 → f' 10 = f 10 → x ≤ x' → (∀ p, p < x → p ≠ q → p ≠ n7 → g' p = g p) → g' q = some (.cells (u'.map u32V) false) → g' n7 = some (.cells (qs'.map u32V) false) →
      u'.length = N → qs'.length = T → lv u' + 4294967296 ^ z * (lv (qs'.drop z) * M) = U → lv (u'.drop z) < M → (∀ j, j < z → qs'.getD j 0 = qs.getD j 0) → D Try.prog s .normal f' ⟨x', b, g'⟩) :
    RC.vc Try.prog divB f ⟨x, b, g⟩ (D Try.prog s) := by
  have s1 : (z : Int) + (a3 : Int) = ((z + a3 : Nat) : Int) := by omega
  have s2 : ((z + a3 : Nat) : Int) - 1 = ((z + a3 - 1 : Nat) : Int) := by omega
  have s3 : ((z + a3 : Nat) : Int) - 2 = ((z + a3 - 2 : Nat) : Int) := by omega
  have w0 : (u.map u32V).getD (z + a3) undef = .int .u32 ((u.getD (z + a3) 0).toNat : Nat) := getD_u32 (by omega)
  have w1 : (u.map u32V).getD (z + a3 - 1) undef = .int .u32 ((u.getD (z + a3 - 1) 0).toNat : Nat) := getD_u32 (by omega)
  have w2 : (u.map u32V).getD (z + a3 - 2) undef = .int .u32 ((u.getD (z + a3 - 2) 0).toNat : Nat) := getD_u32 (by omega)
  have t0 := lt32 (u.getD (z + a3) 0)
  have t1 := lt32 (u.getD (z + a3 - 1) 0)
  have t2 := lt32 (u.getD (z + a3 - 2) 0)
  obtain ⟨H0, hH0⟩ : ∃ x, (u.getD (z + a3) 0).toNat = x := ⟨_, rfl⟩
  obtain ⟨H1, hH1⟩ : ∃ x, (u.getD (z + a3 - 1) 0).toNat = x := ⟨_, rfl⟩
  obtain ⟨H2, hH2⟩ : ∃ x, (u.getD (z + a3 - 2) 0).toNat = x := ⟨_, rfl⟩
  rw [hH0] at w0 t0
  rw [hH1] at w1 t1
  rw [hH2] at w2 t2
  simp only [divB, ↓gaW, ↓gaV, ↓gaC, ↓gaN, gaP, Nat.reduceEqDiff, Nat.reduceLeDiff, Nat.reduceAdd, Nat.reduceSub, Nat.reduceMul, Int.reduceLT, Int.reduceLE, Int.reduceEq, Int.reduceToNat, Int.reduceAdd, Int.reduceSub, Int.reduceMul, reduceCtorEq, ↓reduceIte, List.getD_cons_zero, List.getD_cons_succ, fillL, splice, List.take_zero, List.drop_zero, List.drop_succ_cons, List.take_succ_cons, List.drop_nil, List.take_nil, r1', r4', r8', r9', r10', hgq, s1, s2, s3, i64_w ((z + a3 : Nat) : Int) (by omega), i64_w ((z + a3 - 1 : Nat) : Int) (by omega), i64_w ((z + a3 - 2 : Nat) : Int) (by omega), Nat.zero_add, Nat.mul_one, w0, w1, w2, o_eqA, eq3]
  repeat refine And.intro (by first | omega | (simp; omega)) ?_
  refine And.intro (fun v hv => by simp only [List.mem_cons, List.not_mem_nil, or_false] at hv; rcases hv with rfl | rfl | rfl <;> rfl) ?_
  obtain ⟨c, hcz⟩ : ∃ c, a3 = c + 2 := ⟨a3 - 2, by omega⟩
  obtain ⟨tz, te⟩ := top3 (u := u) (z := z) (c := c) (by omega) (by rw [← hcz]; exact Nat.lt_trans hlt hs2)
  have hqz : lv (qs.drop z) = 4294967296 * lv (qs.drop (z + 1)) := by
    rw [lv_drop_cons (by omega), hz]; simp
  rw [show z + c + 2 = z + a3 by omega, show z + c + 1 = z + a3 - 1 by omega, show z + c = z + a3 - 2 by omega] at te
  rw [hH0, hH1, hH2] at te
  by_cases hzz : (H0 : Int) = 0 ∧ (H1 : Int) = 0 ∧ (H2 : Int) = 0
  · simp only [↓gaW, ↓gaV, ↓gaC, ↓gaN, gaP, Nat.reduceEqDiff, Nat.reduceLeDiff, Nat.reduceAdd, Nat.reduceSub, Nat.reduceMul, Int.reduceLT, Int.reduceLE, Int.reduceEq, Int.reduceToNat, Int.reduceAdd, Int.reduceSub, Int.reduceMul, reduceCtorEq, ↓reduceIte, hzz, decide_true]
    have hP := Nat.pow_pos (n := c) (by decide : 0 < 4294967296)
    have hPc : 4294967296 ^ a3 = 4294967296 * 4294967296 * 4294967296 ^ c := by rw [hcz, Nat.pow_succ, Nat.pow_succ]; ac_rfl
    have hlc := lv_lt ((u.drop z).take c)
    have hlc2 : ((u.drop z).take c).length = c := by simp; omega
    rw [hlc2] at hlc
    refine K _ _ _ u qs (by simp only [↓gaW, ↓gaV, ↓gaC, ↓gaN, gaP, Nat.reduceEqDiff, Nat.reduceLeDiff, Nat.reduceAdd, Nat.reduceSub, Nat.reduceMul, Int.reduceLT, Int.reduceLE, Int.reduceEq, Int.reduceToNat, Int.reduceAdd, Int.reduceSub, Int.reduceMul, reduceCtorEq, ↓reduceIte, r1']) (by simp only [↓gaW, ↓gaV, ↓gaC, ↓gaN, gaP, Nat.reduceEqDiff, Nat.reduceLeDiff, Nat.reduceAdd, Nat.reduceSub, Nat.reduceMul, Int.reduceLT, Int.reduceLE, Int.reduceEq, Int.reduceToNat, Int.reduceAdd, Int.reduceSub, Int.reduceMul, reduceCtorEq, ↓reduceIte, r4']) (by simp only [↓gaW, ↓gaV, ↓gaC, ↓gaN, gaP, Nat.reduceEqDiff, Nat.reduceLeDiff, Nat.reduceAdd, Nat.reduceSub, Nat.reduceMul, Int.reduceLT, Int.reduceLE, Int.reduceEq, Int.reduceToNat, Int.reduceAdd, Int.reduceSub, Int.reduceMul, reduceCtorEq, ↓reduceIte]) (by simp only [↓gaW, ↓gaV, ↓gaC, ↓gaN, gaP, Nat.reduceEqDiff, Nat.reduceLeDiff, Nat.reduceAdd, Nat.reduceSub, Nat.reduceMul, Int.reduceLT, Int.reduceLE, Int.reduceEq, Int.reduceToNat, Int.reduceAdd, Int.reduceSub, Int.reduceMul, reduceCtorEq, ↓reduceIte, r8']) (by simp only [↓gaW, ↓gaV, ↓gaC, ↓gaN, gaP, Nat.reduceEqDiff, Nat.reduceLeDiff, Nat.reduceAdd, Nat.reduceSub, Nat.reduceMul, Int.reduceLT, Int.reduceLE, Int.reduceEq, Int.reduceToNat, Int.reduceAdd, Int.reduceSub, Int.reduceMul, reduceCtorEq, ↓reduceIte, r9']) (by simp only [↓gaW, ↓gaV, ↓gaC, ↓gaN, gaP, Nat.reduceEqDiff, Nat.reduceLeDiff, Nat.reduceAdd, Nat.reduceSub, Nat.reduceMul, Int.reduceLT, Int.reduceLE, Int.reduceEq, Int.reduceToNat, Int.reduceAdd, Int.reduceSub, Int.reduceMul, reduceCtorEq, ↓reduceIte, r10']) (by omega) (fun p hp hpq hpn => ?_) ?_ ?_ hu hqs ?_ ?_ (fun j hj => rfl)
    · simp only [upd_e]; rw [if_neg (by omega), if_neg (by omega)]
    · simp only [upd_e]; rw [if_neg (by omega), if_neg (by omega), hgq]
    · simp only [upd_e]; rw [if_neg (by omega), if_neg (by omega), hgn]
    · rw [hqz, ← he, Nat.pow_succ, Nat.mul_assoc (4294967296 ^ z), Nat.mul_assoc 4294967296 (lv (qs.drop (z + 1)))]
    · rw [te, show H0 = 0 by omega, show H1 = 0 by omega, show H2 = 0 by omega]
      simp only [Nat.zero_mul, Nat.zero_add, Nat.add_zero]
      omega
  · obtain ⟨am', cem, rom, hae, m1, m2, m3, m4⟩ := w32_cell r3 hl3 (i := a3 - 1) (by omega)
    injection hae with hae
    subst hae
    obtain ⟨am', cem', rom', hae, m1', m2', m3', m4'⟩ := w32_cell r3 hl3 (i := a3 - 2) (by omega)
    injection hae with hae
    subst hae
    rw [m2] at m2'
    injection m2' with m2'
    injection m2' with m2' m2''
    subst m2'
    have gm : g am.block = some (.cells cem rom) := m2
    have nmx : ¬ am.block = x := by omega
    have v1 : (a3 : Int) - 1 = ((a3 - 1 : Nat) : Int) := by omega
    have v2 : (a3 : Int) - 2 = ((a3 - 2 : Nat) : Int) := by omega
    obtain ⟨B0, hB0⟩ : ∃ x, ((lb M).getD (a3 - 1) 0).toNat = x := ⟨_, rfl⟩
    obtain ⟨B1, hB1⟩ : ∃ x, ((lb M).getD (a3 - 2) 0).toNat = x := ⟨_, rfl⟩
    rw [hB0] at m4
    rw [hB1] at m4'
    simp only [↓gaW, ↓gaV, ↓gaC, ↓gaN, gaP, Nat.reduceEqDiff, Nat.reduceLeDiff, Nat.reduceAdd, Nat.reduceSub, Nat.reduceMul, Int.reduceLT, Int.reduceLE, Int.reduceEq, Int.reduceToNat, Int.reduceAdd, Int.reduceSub, Int.reduceMul, reduceCtorEq, ↓reduceIte, List.getD_cons_zero, List.getD_cons_succ, fillL, splice, List.take_zero, List.drop_zero, List.drop_succ_cons, List.take_succ_cons, List.drop_nil, List.take_nil, hzz, r1', r8', r9', r10', decide_false, nmx, gm, v1, v2, i64_w ((a3 - 1 : Nat) : Int) (by omega), i64_w ((a3 - 2 : Nat) : Int) (by omega), m4, m4']
    have hP := Nat.pow_pos (n := c) (by decide : 0 < 4294967296)
    have hlc := lv_lt ((u.drop z).take c)
    have hlc2 : ((u.drop z).take c).length = c := by simp; omega
    rw [hlc2] at hlc
    have hMe := top2 (l := lb M) (c := c) (by omega)
    rw [lv_lb, show c + 1 = a3 - 1 by omega, hB0, show (lb M).getD c 0 = (lb M).getD (a3 - 2) 0 by rw [show c = a3 - 2 by omega], hB1] at hMe
    have hmc := lv_lt ((lb M).take c)
    rw [show ((lb M).take c).length = c by simp; omega] at hmc
    have hB1l : B1 < 4294967296 := by rw [← hB1]; exact lt32 _
    have hB0l : B0 < 4294967296 := by rw [← hB0]; exact lt32 _
    have hV := te
    rw [lv_drop_cons (l := u) (i := z) (by omega)] at hV
    have hle := headsB (b := 4294967296) hMe hmc hB1l hV (lt32 _) hlt
    have hge := headsC (b := 4294967296) hMe hmc (by rw [← Nat.pow_two, ← Nat.pow_add, show 2 + c = a3 by omega]; exact hs3)
    repeat refine And.intro (by omega) ?_
    refine callK_of (ct_guess t1 t2 hB0l hB1l hle (by omega)) (fun v n8 g8 l8 k8 hC => ?_) (by omega)
    obtain ⟨Q, rfl, hQ, hQm, hQu⟩ := hC
    have hdig := digit (P := 4294967296 ^ c) (U := lv (u.drop z)) (M := M) te hlc hMe hmc hQ (by omega) hQm hQu (by
      rw [lv_drop_cons (l := u) (i := z) (by omega)]
      have := lt32 (u.getD z 0)
      omega)
    refine (show goOps Try.prog _ _ _ (D Try.prog (.thn divL _)) from ?_)
    simp only [↓gaW, ↓gaV, ↓gaC, ↓gaN, gaP, Nat.reduceEqDiff, Nat.reduceLeDiff, Nat.reduceAdd, Nat.reduceSub, Nat.reduceMul, Int.reduceLT, Int.reduceLE, Int.reduceEq, Int.reduceToNat, Int.reduceAdd, Int.reduceSub, Int.reduceMul, reduceCtorEq, ↓reduceIte]
    have r38 : Row n8 g8 1 (some am) a3 ((lb M).map u32V) := r3.keepA (by omega) fun _ a ha => by
      injection ha with ha
      subst ha
      rw [k8 _ (by omega), upd_e, if_neg (by omega), upd_e, if_neg (by omega)]
    have gq8 : g8 q = some (.cells (u.map u32V) false) := by
      rw [k8 q (by omega), upd_e, if_neg (by omega), upd_e, if_neg (by omega), hgq]
    have gn8 : g8 n7 = some (.cells (qs.map u32V) false) := by
      rw [k8 n7 (by omega), upd_e, if_neg (by omega), upd_e, if_neg (by omega), hgn]
    refine div_tail (N := N) (T := T) (n := a3) (U := U) (M := M) (Q := Q) (z := z) (u := u) (qs := qs) (q := q) (n7 := n7) (am := am) (c3 := c3) hbq hqn (by omega) (by simp only [↓gaW, ↓gaV, ↓gaC, ↓gaN, gaP, Nat.reduceEqDiff, Nat.reduceLeDiff, Nat.reduceAdd, Nat.reduceSub, Nat.reduceMul, Int.reduceLT, Int.reduceLE, Int.reduceEq, Int.reduceToNat, Int.reduceAdd, Int.reduceSub, Int.reduceMul, reduceCtorEq, ↓reduceIte, r1']) (by simp only [↓gaW, ↓gaV, ↓gaC, ↓gaN, gaP, Nat.reduceEqDiff, Nat.reduceLeDiff, Nat.reduceAdd, Nat.reduceSub, Nat.reduceMul, Int.reduceLT, Int.reduceLE, Int.reduceEq, Int.reduceToNat, Int.reduceAdd, Int.reduceSub, Int.reduceMul, reduceCtorEq, ↓reduceIte, r4']) (by simp only [↓gaW, ↓gaV, ↓gaC, ↓gaN, gaP, Nat.reduceEqDiff, Nat.reduceLeDiff, Nat.reduceAdd, Nat.reduceSub, Nat.reduceMul, Int.reduceLT, Int.reduceLE, Int.reduceEq, Int.reduceToNat, Int.reduceAdd, Int.reduceSub, Int.reduceMul, reduceCtorEq, ↓reduceIte, r8']) (by simp only [↓gaW, ↓gaV, ↓gaC, ↓gaN, gaP, Nat.reduceEqDiff, Nat.reduceLeDiff, Nat.reduceAdd, Nat.reduceSub, Nat.reduceMul, Int.reduceLT, Int.reduceLE, Int.reduceEq, Int.reduceToNat, Int.reduceAdd, Int.reduceSub, Int.reduceMul, reduceCtorEq, ↓reduceIte, r10']) (by simp only [↓gaW, ↓gaV, ↓gaC, ↓gaN, gaP, Nat.reduceEqDiff, Nat.reduceLeDiff, Nat.reduceAdd, Nat.reduceSub, Nat.reduceMul, Int.reduceLT, Int.reduceLE, Int.reduceEq, Int.reduceToNat, Int.reduceAdd, Int.reduceSub, Int.reduceMul, reduceCtorEq, ↓reduceIte]) gq8 gn8 hu hNs hqs hzT hTN hzN r38 hl3 ham hQ hM0 hdig (by rw [show z + (a3 + 1) = z + c + 3 by omega]; exact tz) he ?_
    intro f' x' g' u' qs' e1' e4' e7' e8' e9' e10' lx kx gq' gn' hu' hqs' he' hlt' hz'
    simp only [↓gaW, ↓gaV, ↓gaC, ↓gaN, gaP, Nat.reduceEqDiff, Nat.reduceLeDiff, Nat.reduceAdd, Nat.reduceSub, Nat.reduceMul, Int.reduceLT, Int.reduceLE, Int.reduceEq, Int.reduceToNat, Int.reduceAdd, Int.reduceSub, Int.reduceMul, reduceCtorEq, ↓reduceIte] at e1' e4' e7' e8' e9' e10'
    simp only [↓gaW, ↓gaV, ↓gaC, ↓gaN, gaP, Nat.reduceEqDiff, Nat.reduceLeDiff, Nat.reduceAdd, Nat.reduceSub, Nat.reduceMul, Int.reduceLT, Int.reduceLE, Int.reduceEq, Int.reduceToNat, Int.reduceAdd, Int.reduceSub, Int.reduceMul, reduceCtorEq, ↓reduceIte]
    refine K f' x' g' u' qs' e1' e4' e7' e8' e9' e10' (by omega) (fun p hp hpq hpn => ?_) gq' gn' hu' hqs' he' hlt' hz'
    rw [kx p (by omega) hpq hpn, k8 p (by omega), upd_e, if_neg (by omega), upd_e, if_neg (by omega)]
end
end Go.Ga

namespace Go.Ga
open Go Go.Proofs
set_option linter.unusedSimpArgs false
set_option linter.unusedVariables false
set_option maxRecDepth 100000
attribute [local irreducible] appendK

section
variable {nx : Nat} {gt : Nat → Option Blk}

/-- A quotient, and what is left. -/
def DivV (nx : Nat) (gt : Nat → Option Blk) (a m : Nat) (v : Value) : Prop :=
  (m = 0 ∧ v = .tuple #[.slice none 0 0, .slice none 0 0, .bool false]) ∨ (m ≠ 0 ∧ ∃ v1 v2, v = .tuple #[v1, v2, .bool true] ∧ W32 nx gt v1 (lb (a / m)) ∧ W32 nx gt v2 (lb (a % m)))

theorem lb_nil {n : Nat} (h : (lb n).length = 0) : n = 0 := by
  have := lb_len_le.1 (Nat.le_of_eq h)
  simp at this
  omega
theorem lb_one {n : Nat} (h : (lb n).length = 1) : n < 4294967296 ∧ ((lb n).getD 0 0).toNat = n := by
  have h1 := lb_len_le.1 (Nat.le_of_eq h)
  have h2 := lb_get n 0
  rw [Nat.pow_one] at h1
  rw [Nat.pow_zero, Nat.div_one, Nat.mod_eq_of_lt h1] at h2
  exact ⟨h1, h2⟩

theorem norm {n c : Nat} (hc : 0 < c) (h : (lb n).length = c) : 32 - bl ((lb n).getD (c - 1) 0).toNat < 32 ∧ n * 2 ^ (32 - bl ((lb n).getD (c - 1) 0).toNat) < 4294967296 ^ c ∧ 4294967296 ^ c ≤ 2 * (n * 2 ^ (32 - bl ((lb n).getD (c - 1) 0).toNat)) := by
  obtain ⟨z, rfl⟩ : ∃ z, c = z + 1 := ⟨c - 1, by omega⟩
  rw [Nat.add_sub_cancel]
  have h1 := lb_len_le.1 (Nat.le_of_eq h)
  have h0 : ¬ n < 4294967296 ^ z := fun h2 => by have := lb_len_le.2 h2; omega
  have hP : 0 < 4294967296 ^ z := Nat.pow_pos (by decide)
  have h2 := lb_get n z
  have h3 : n / 4294967296 ^ z < 4294967296 := by
    rw [Nat.div_lt_iff_lt_mul hP, Nat.mul_comm, ← Nat.pow_succ]; exact h1
  rw [Nat.mod_eq_of_lt h3] at h2
  rw [h2]
  obtain ⟨t, ht⟩ : ∃ t, n / 4294967296 ^ z = t := ⟨_, rfl⟩
  have hdm := Nat.div_add_mod n (4294967296 ^ z)
  have hml := Nat.mod_lt n hP
  rw [ht] at h3 hdm ⊢
  have ht0 : t ≠ 0 := fun e => by rw [e, Nat.mul_zero] at hdm; omega
  have b1 := bl_pos ht0
  have b2 := bl_lt t
  have b3 := bl_le.2 (show t < 2 ^ 32 from h3)
  have b4 : bl t ≠ 0 := fun e => by have := bl_le.1 (Nat.le_of_eq e); simp at this; exact ht0 this
  obtain ⟨s, hs⟩ : ∃ s, 32 - bl t = s := ⟨_, rfl⟩
  rw [hs]
  have e1 : 2 ^ bl t * 2 ^ s = 4294967296 := by rw [← Nat.pow_add, show bl t + s = 32 by omega]
  have e2 : 2 ^ bl t = 2 * 2 ^ (bl t - 1) := by rw [← Nat.pow_succ', show (bl t - 1).succ = bl t by omega]
  refine ⟨by omega, ?_, ?_⟩
  · have : n < 2 ^ bl t * 4294967296 ^ z := by
      have h5 : (t + 1) * 4294967296 ^ z ≤ 2 ^ bl t * 4294967296 ^ z := Nat.mul_le_mul_right _ b2
      rw [Nat.add_mul, Nat.one_mul, Nat.mul_comm t] at h5
      omega
    have h6 := Nat.mul_lt_mul_of_pos_right this (Nat.pow_pos (n := s) (by decide : 0 < 2))
    refine Nat.lt_of_lt_of_eq h6 ?_
    rw [Nat.mul_right_comm, e1, Nat.pow_succ, Nat.mul_comm]
  · have h5 : 2 ^ (bl t - 1) * 4294967296 ^ z ≤ n := by
      have := Nat.mul_le_mul_right (4294967296 ^ z) b1
      rw [Nat.mul_comm t] at this
      omega
    have h6 := Nat.mul_le_mul_right (2 ^ s) h5
    have h7 : 4294967296 ^ (z + 1) = 2 * (2 ^ (bl t - 1) * 4294967296 ^ z * 2 ^ s) := by
      rw [Nat.pow_succ, ← e1, e2]; ac_rfl
    rw [h7]
    exact Nat.mul_le_mul_left 2 h6

theorem ct_DivMod {A B : Option Addr} {n m c d : Nat} {l k : List UInt32} (hr : Row nx gt 1 A n (l.map u32V)) (hc : n ≤ c) (hn : n < 10000000) (hs : Row nx gt 1 B m (k.map u32V)) (hd : m ≤ d) (hm : m < 10000000) :
    Ct Try.prog 70 [.slice A n c, .slice B m d] nx gt fun v nx' gt' => DivV nx' gt' (lv l) (lv k) v := by
  have hl : l.length = n := by simpa using hr.len
  have hk : k.length = m := by simpa using hs.len
  refine Ct.of hmx r_modulo_DivMod (by simp [c_modulo_DivMod]) fun b hb => ?_
  have la := lb_len_le.2 (show lv l < 4294967296 ^ n by rw [← hl]; exact lv_lt l)
  have lm := lb_len_le.2 (show lv k < 4294967296 ^ m by rw [← hk]; exact lv_lt k)
  have hF : ∀ q, q < nx → gt q = gt q := fun _ _ => rfl
  simp only [c_modulo_DivMod, ↓gaW, ↓gaV, ↓gaC, ↓gaN, gaP, Nat.reduceEqDiff, Nat.reduceLeDiff, Nat.reduceAdd, Nat.reduceSub, Nat.reduceMul, Int.reduceLT, Int.reduceLE, Int.reduceEq, Int.reduceToNat, Int.reduceAdd, Int.reduceSub, Int.reduceMul, reduceCtorEq, ↓reduceIte]
  refine callK_of (ct_Bare hr hc (by omega)) (fun v n1 g1 l1 k1 hC => ?_) (by omega)
  obtain ⟨A1, a1, c1, rfl, hc1, hl1, r1⟩ := hC
  have hs := hs.keep l1 k1
  have hF : ∀ q, q < nx → g1 q = gt q := fun q hq => (k1 q (by omega)).trans (hF q hq)
  simp only [↓gaW, ↓gaV, ↓gaC, ↓gaN, gaP, Nat.reduceEqDiff, Nat.reduceLeDiff, Nat.reduceAdd, Nat.reduceSub, Nat.reduceMul, Int.reduceLT, Int.reduceLE, Int.reduceEq, Int.reduceToNat, Int.reduceAdd, Int.reduceSub, Int.reduceMul, reduceCtorEq, ↓reduceIte]
  refine callK_of (ct_Bare hs hd (by omega)) (fun v n2 g2 l2 k2 hC => ?_) (by omega)
  obtain ⟨A2, a2, c2, rfl, hc2, hl2, r2⟩ := hC
  have r1 := r1.keep l2 k2
  have hF : ∀ q, q < nx → g2 q = gt q := fun q hq => (k2 q (by omega)).trans (hF q hq)
  simp only [↓gaW, ↓gaV, ↓gaC, ↓gaN, gaP, Nat.reduceEqDiff, Nat.reduceLeDiff, Nat.reduceAdd, Nat.reduceSub, Nat.reduceMul, Int.reduceLT, Int.reduceLE, Int.reduceEq, Int.reduceToNat, Int.reduceAdd, Int.reduceSub, Int.reduceMul, reduceCtorEq, ↓reduceIte]
  by_cases g1 : (a2 : Int) = 0
  · have k0 := lb_nil (show (lb (lv k)).length = 0 by omega)
    simp only [↓gaW, ↓gaV, ↓gaC, ↓gaN, gaP, Nat.reduceEqDiff, Nat.reduceLeDiff, Nat.reduceAdd, Nat.reduceSub, Nat.reduceMul, Int.reduceLT, Int.reduceLE, Int.reduceEq, Int.reduceToNat, Int.reduceAdd, Int.reduceSub, Int.reduceMul, reduceCtorEq, ↓reduceIte, gaE, implies_true, Nat.le_refl, Int.sub_zero, Nat.sub_zero, Int.le_refl, true_or, or_true, g1, decide_true]
    exact ⟨by omega, hF, .inl ⟨k0, rfl⟩⟩
  have k0 : lv k ≠ 0 := fun h => g1 (by rw [h, lb_zero] at hl2; simp at hl2; omega)
  simp only [↓gaW, ↓gaV, ↓gaC, ↓gaN, gaP, Nat.reduceEqDiff, Nat.reduceLeDiff, Nat.reduceAdd, Nat.reduceSub, Nat.reduceMul, Int.reduceLT, Int.reduceLE, Int.reduceEq, Int.reduceToNat, Int.reduceAdd, Int.reduceSub, Int.reduceMul, reduceCtorEq, ↓reduceIte, g1, decide_false]
  refine callK_of (ct_Cmp r1 hc1 (by omega) r2 hc2 (by omega)) (fun v n3 g3 l3 k3 hC => ?_) (by omega)
  rw [lv_lb, lv_lb] at hC
  subst hC
  have r1 := r1.keep l3 k3
  have r2 := r2.keep l3 k3
  have hF : ∀ q, q < nx → g3 q = gt q := fun q hq => (k3 q (by omega)).trans (hF q hq)
  by_cases g2 : cmpI ((lv l : Nat) : Int) ((lv k : Nat) : Int) < 0
  · have hlt : lv l < lv k := by have := (cmpI_neg _ _).1 g2; omega
    simp only [↓gaW, ↓gaV, ↓gaC, ↓gaN, gaP, Nat.reduceEqDiff, Nat.reduceLeDiff, Nat.reduceAdd, Nat.reduceSub, Nat.reduceMul, Int.reduceLT, Int.reduceLE, Int.reduceEq, Int.reduceToNat, Int.reduceAdd, Int.reduceSub, Int.reduceMul, reduceCtorEq, ↓reduceIte, gaE, implies_true, Nat.le_refl, Int.sub_zero, Nat.sub_zero, Int.le_refl, true_or, or_true, g2, decide_true]
    refine ⟨by omega, hF, .inr ⟨k0, _, _, rfl, ?_, ?_⟩⟩
    · rw [Nat.div_eq_of_lt hlt, lb_zero]; exact W32.nil
    · rw [Nat.mod_eq_of_lt hlt]; exact ⟨A1, a1, c1, rfl, hc1, hl1, r1⟩
  simp only [↓gaW, ↓gaV, ↓gaC, ↓gaN, gaP, Nat.reduceEqDiff, Nat.reduceLeDiff, Nat.reduceAdd, Nat.reduceSub, Nat.reduceMul, Int.reduceLT, Int.reduceLE, Int.reduceEq, Int.reduceToNat, Int.reduceAdd, Int.reduceSub, Int.reduceMul, reduceCtorEq, ↓reduceIte, g2, decide_false]
  by_cases g3' : (a2 : Int) = 1
  · obtain ⟨o1, o2⟩ := lb_one (show (lb (lv k)).length = 1 by omega)
    obtain ⟨a, ce, ro, rfl, p1, p2, p3, p4⟩ := w32_cell r2 hl2 (i := 0) (by omega)
    have p4 : ce.getD a.off undef = .int .u32 ((lv k : Nat) : Int) := by rw [o2] at p4; exact p4
    simp only [↓gaW, ↓gaV, ↓gaC, ↓gaN, gaP, Nat.reduceEqDiff, Nat.reduceLeDiff, Nat.reduceAdd, Nat.reduceSub, Nat.reduceMul, Int.reduceLT, Int.reduceLE, Int.reduceEq, Int.reduceToNat, Int.reduceAdd, Int.reduceSub, Int.reduceMul, reduceCtorEq, ↓reduceIte, g3', decide_true, p2, p4]
    repeat refine And.intro (by first | omega | exact p3) ?_
    refine callK_of (ct_small r1 (by omega) o1 (by omega)) (fun v n4 g4 l4 k4 hC => ?_) (by omega)
    obtain ⟨v1, v2, rfl, h1, h2⟩ := hC
    rw [lv_lb] at h1 h2
    simp only [↓gaW, ↓gaV, ↓gaC, ↓gaN, gaP, Nat.reduceEqDiff, Nat.reduceLeDiff, Nat.reduceAdd, Nat.reduceSub, Nat.reduceMul, Int.reduceLT, Int.reduceLE, Int.reduceEq, Int.reduceToNat, Int.reduceAdd, Int.reduceSub, Int.reduceMul, reduceCtorEq, ↓reduceIte, gaE, implies_true, Nat.le_refl, Int.sub_zero, Nat.sub_zero, Int.le_refl, true_or, or_true]
    exact ⟨by omega, by omega, by omega, fun q hq => (k4 q (by omega)).trans (hF q hq), .inr ⟨k0, _, _, rfl, h1, h2⟩⟩
  simp only [↓gaW, ↓gaV, ↓gaC, ↓gaN, gaP, Nat.reduceEqDiff, Nat.reduceLeDiff, Nat.reduceAdd, Nat.reduceSub, Nat.reduceMul, Int.reduceLT, Int.reduceLE, Int.reduceEq, Int.reduceToNat, Int.reduceAdd, Int.reduceSub, Int.reduceMul, reduceCtorEq, ↓reduceIte, g3', decide_false]
  obtain ⟨at', ce, ro, rfl, p1, p2, p3, p4⟩ := w32_cell r2 hl2 (i := a2 - 1) (by omega)
  have q1 : (a2 : Int) - 1 = ((a2 - 1 : Nat) : Int) := by omega
  simp only [q1, i64_w ((a2 - 1 : Nat) : Int) (by omega), asO_e, p2, asC_e, Int.toNat_natCast, p4]
  repeat refine And.intro (by omega) ?_
  refine callK_of (ct_Lead (lt32 _)) (fun v n4 g4 l4 k4 hC => ?_) (by omega)
  subst hC
  have r1 := r1.keep l4 k4
  have r2 := r2.keep l4 k4
  have hF : ∀ q, q < nx → g4 q = gt q := fun q hq => (k4 q (by omega)).trans (hF q hq)
  obtain ⟨hs1, hs2, hs3⟩ := norm (n := lv k) (by omega) hl2
  obtain ⟨s, hsd⟩ : ∃ s, 32 - bl ((lb (lv k)).getD (a2 - 1) 0).toNat = s := ⟨_, rfl⟩
  rw [hsd] at hs1 hs2 hs3 ⊢
  simp only [↓gaW, ↓gaV, ↓gaC, ↓gaN, gaP, Nat.reduceEqDiff, Nat.reduceLeDiff, Nat.reduceAdd, Nat.reduceSub, Nat.reduceMul, Int.reduceLT, Int.reduceLE, Int.reduceEq, Int.reduceToNat, Int.reduceAdd, Int.reduceSub, Int.reduceMul, reduceCtorEq, ↓reduceIte]
  refine callK_of (ct_shifted r1 (by omega) hs1) (fun v n5 g5 l5 k5 hC => ?_) (by omega)
  obtain ⟨w, ⟨q, rfl, hq1, hq2, hq3⟩, hw1, hw2⟩ := hC
  rw [lv_lb] at hw2
  have r2 := r2.keep l5 k5
  have hF : ∀ q, q < nx → g5 q = gt q := fun q hq => (k5 q (by omega)).trans (hF q hq)
  simp only [↓gaW, ↓gaV, ↓gaC, ↓gaN, gaP, Nat.reduceEqDiff, Nat.reduceLeDiff, Nat.reduceAdd, Nat.reduceSub, Nat.reduceMul, Int.reduceLT, Int.reduceLE, Int.reduceEq, Int.reduceToNat, Int.reduceAdd, Int.reduceSub, Int.reduceMul, reduceCtorEq, ↓reduceIte]
  refine callK_of (ct_shifted r2 (by omega) hs1) (fun v n6 g6 l6 k6 hC => ?_) (by omega)
  obtain ⟨wm, ⟨qm, rfl, hm1, hm2, hm3⟩, hm4, hm5⟩ := hC
  rw [lv_lb] at hm5
  have hq3 := (k6 q (by omega)).trans hq3
  have hF : ∀ q, q < nx → g6 q = gt q := fun q hq => (k6 q (by omega)).trans (hF q hq)
  have rm := row_of_block (n := wm.length) hm2 hm3 (Nat.le_refl _)
  rw [List.take_length] at rm
  simp only [↓gaW, ↓gaV, ↓gaC, ↓gaN, gaP, Nat.reduceEqDiff, Nat.reduceLeDiff, Nat.reduceAdd, Nat.reduceSub, Nat.reduceMul, Int.reduceLT, Int.reduceLE, Int.reduceEq, Int.reduceToNat, Int.reduceAdd, Int.reduceSub, Int.reduceMul, reduceCtorEq, ↓reduceIte]
  refine callK_of (ct_BareF rm (Nat.le_refl _) (by omega)) (fun v n7 g7 l7 k7 hC => ?_) (by omega)
  rw [hm5] at hC
  obtain ⟨A3, a3, c3, rfl, hc3, hl3, r3, hfr⟩ := hC
  have hq3 := (k7 q (by omega)).trans hq3
  have hF : ∀ q, q < nx → g7 q = gt q := fun q hq => (k7 q (by omega)).trans (hF q hq)
  -- the numbers
  obtain ⟨M, hM⟩ : ∃ M, lv k * 2 ^ s = M := ⟨_, rfl⟩
  obtain ⟨U, hU⟩ : ∃ U, lv l * 2 ^ s = U := ⟨_, rfl⟩
  rw [hM] at hs2 hs3 r3 hl3
  rw [hU] at hw2
  have h3n : a3 = a2 := by
    have u1 := lb_len_le.2 hs2
    have u2 : ¬ (lb M).length ≤ a2 - 1 := fun hle => by
      have := lb_len_le.1 hle
      have e : 4294967296 ^ a2 = 4294967296 * 4294967296 ^ (a2 - 1) := by rw [← Nat.pow_succ', show (a2 - 1).succ = a2 by omega]
      omega
    omega
  subst h3n
  have hkl : ¬ lv l < lv k := fun h => g2 ((cmpI_neg _ _).2 (by omega))
  have hNn : a3 ≤ a1 := by
    have v1 := lb_len_le.1 (show (lb (lv l)).length ≤ a1 by omega)
    have v2 := lb_len_le.2 (show lv k < 4294967296 ^ a1 by omega)
    omega
  have hq7 : q < n7 := by omega
  have e1 : (w.length : Int) - (a3 : Int) = ((a1 + 1 - a3 : Nat) : Int) := by omega
  obtain ⟨T, hT⟩ : ∃ T, a1 + 1 - a3 = T := ⟨_, rfl⟩
  rw [hT] at e1
  simp only [↓gaW, ↓gaV, ↓gaC, ↓gaN, gaP, Nat.reduceEqDiff, Nat.reduceLeDiff, Nat.reduceAdd, Nat.reduceSub, Nat.reduceMul, Int.reduceLT, Int.reduceLE, Int.reduceEq, Int.reduceToNat, Int.reduceAdd, Int.reduceSub, Int.reduceMul, reduceCtorEq, ↓reduceIte, e1, i64_w (T : Int) (by omega), zeros32, i64_w ((T : Int) - 1) (by omega)]
  repeat refine And.intro (by first | omega | (simp; omega)) ?_
  have hM0 : 0 < M := by have := Nat.pow_pos (n := a3) (by decide : 0 < 4294967296); omega
  have hS0 : 0 < 2 ^ s := Nat.pow_pos (by decide)
  refine loop_of (fun j f mm => ∃ (y x : Nat) (g : Nat → Option Blk) (u qs : List UInt32), j = y ∧ y ≤ T ∧ f 1 = .slice A3 a3 c3 ∧ f 4 = .slice (some ⟨n7, 0, none⟩) T T ∧ f 7 = .int .i64 (s : Nat) ∧ f 8 = .slice (some ⟨q, 0, none⟩) w.length w.length ∧ f 9 = .int .i64 (a3 : Nat) ∧ f 10 = .int .i64 ((y : Int) - 1) ∧ mm = ⟨x, b, g⟩ ∧ n7 + 1 ≤ x ∧
      (∀ p, p < n7 → p ≠ q → g p = g7 p) ∧ g q = some (.cells (u.map u32V) false) ∧ g n7 = some (.cells (qs.map u32V) false) ∧ u.length = a1 + 1 ∧ qs.length = T ∧ lv u + 4294967296 ^ y * (lv (qs.drop y) * M) = U ∧ lv (u.drop y) < M ∧ ∀ j, j < y → qs.getD j 0 = 0) T
    ⟨T, n7 + 1, _, w, List.replicate T 0, rfl, Nat.le_refl _, rfl, rfl, rfl, rfl, rfl, rfl, rfl, Nat.le_refl _, fun p hp _ => by simp only [upd_e]; rw [if_neg (by omega)], by simp only [upd_e]; rw [if_neg (by omega), hq3], by simp only [upd_e, if_true], hw1, by simp, ?_, ?_, fun j hj => by simp [List.getD_eq_getElem?_getD, List.getElem?_replicate]; split <;> rfl⟩ ?_
  · rw [List.drop_of_length_le (by simp), hw2]; simp [lv]
  · have sp := lv_split w T (by omega)
    rw [hw2] at sp
    rcases Nat.lt_or_ge (lv (w.drop T)) M with h | h
    · exact h
    · exfalso
      have h1 : 4294967296 ^ T * M ≤ 4294967296 ^ T * lv (w.drop T) := Nat.mul_le_mul_left _ h
      have h2 : 4294967296 ^ T * 4294967296 ^ a3 ≤ 4294967296 ^ T * (2 * M) := Nat.mul_le_mul_left _ hs3
      have h3 : 4294967296 ^ T * 4294967296 ^ a3 = 4294967296 * 4294967296 ^ a1 := by rw [← Nat.pow_add, show T + a3 = a1 + 1 by omega, Nat.pow_succ']
      have h4 : lv l < 4294967296 ^ a1 := lb_len_le.1 (by omega)
      have h5 : U < 4294967296 ^ a1 * 2 ^ s := by rw [← hU]; exact Nat.mul_lt_mul_of_pos_right h4 hS0
      have h6 : 4294967296 ^ a1 * 2 ^ s ≤ 4294967296 ^ a1 * 2 ^ 31 := Nat.mul_le_mul_left _ (Nat.pow_le_pow_right (by decide) (by omega))
      rw [show 4294967296 ^ T * (2 * M) = 2 * (4294967296 ^ T * M) by ac_rfl] at h2
      omega
  rintro j f mm ⟨y, x, g, u, qs, rfl, hy, r1', r4', r7', r8', r9', r10', rfl, hx, hg, hgq, hgn, hu, hqs, he, hlt, hz⟩
  rcases Nat.eq_zero_or_pos j with rfl | hj
  · rw [List.drop_zero, Nat.pow_zero, Nat.one_mul] at he
    rw [List.drop_zero] at hlt
    have hqv : lv qs = lv l / lv k := by
      have h1 : lv qs = U / M := by rw [← he, Nat.add_mul_div_right _ _ hM0, Nat.div_eq_of_lt hlt, Nat.zero_add]
      rw [h1, ← hU, ← hM, Nat.mul_div_mul_right _ _ hS0]
    have huv : lv u = lv l % lv k * 2 ^ s := by
      have h1 : lv u = U % M := by rw [← he, Nat.add_mul_mod_self_right, Nat.mod_eq_of_lt hlt]
      rw [h1, ← hU, ← hM, Nat.mul_mod_mul_right]
    have hut : lv (u.take a3) = lv u := by
      have sp := lv_split u a3 (by omega)
      have : lv (u.drop a3) = 0 := by
        rcases Nat.eq_zero_or_pos (lv (u.drop a3)) with h | h
        · exact h
        · have := Nat.le_mul_of_pos_right (4294967296 ^ a3) h; omega
      rw [this, Nat.mul_zero, Nat.add_zero] at sp
      exact sp.symm
    simp only [↓gaW, ↓gaV, ↓gaC, ↓gaN, gaP, Nat.reduceEqDiff, Nat.reduceLeDiff, Nat.reduceAdd, Nat.reduceSub, Nat.reduceMul, Int.reduceLT, Int.reduceLE, Int.reduceEq, Int.reduceToNat, Int.reduceAdd, Int.reduceSub, Int.reduceMul, reduceCtorEq, ↓reduceIte, r1', r4', r7', r8', r9', r10', show ((0 : Nat) : Int) - 1 = -1 from rfl, show ¬ (0 : Int) ≤ -1 by omega, decide_false, loopK_e]
    refine callQ_of (ct_BareF (Row.w32 (by omega) hgn hqs) (Nat.le_refl _) (by omega)) (fun v n8 g8 l8 k8 hC => ?_)
    rw [hqv] at hC
    obtain ⟨A5, a5, c5, rfl, hc5, hl5, r5, hf5⟩ := hC
    have gq8 := (k8 q (by omega)).trans hgq
    simp only [↓gaW, ↓gaV, ↓gaC, ↓gaN, gaP, Nat.reduceEqDiff, Nat.reduceLeDiff, Nat.reduceAdd, Nat.reduceSub, Nat.reduceMul, Int.reduceLT, Int.reduceLE, Int.reduceEq, Int.reduceToNat, Int.reduceAdd, Int.reduceSub, Int.reduceMul, reduceCtorEq, ↓reduceIte, r7', r8', r9']
    repeat refine And.intro (by first | omega | (simp; done)) ?_
    refine callW_of (ct_back (n := a3) (by omega) gq8 (by omega) (by omega) (by omega) hs1) (fun v n9 g9 l9 k9 hC => ?_) (by omega) (by omega)
    rw [hut, huv, Nat.mul_div_cancel _ hS0] at hC
    simp only [↓gaW, ↓gaV, ↓gaC, ↓gaN, gaP, Nat.reduceEqDiff, Nat.reduceLeDiff, Nat.reduceAdd, Nat.reduceSub, Nat.reduceMul, Int.reduceLT, Int.reduceLE, Int.reduceEq, Int.reduceToNat, Int.reduceAdd, Int.reduceSub, Int.reduceMul, reduceCtorEq, ↓reduceIte, gaE, implies_true, Nat.le_refl, Int.sub_zero, Nat.sub_zero, Int.le_refl, true_or, or_true]
    refine ⟨by omega, fun p hp => ?_, .inr ⟨k0, _, _, rfl, ⟨A5, a5, c5, rfl, hc5, hl5, r5.keepA l9 fun h a ha => ?_⟩, hC⟩⟩
    · rw [k9 p (by omega) (by omega), k8 p (by omega), hg p (by omega) (by omega), hF p hp]
    · obtain ⟨a', _, _, e1, e2, _⟩ := r5.cells (by omega)
      rw [ha] at e1
      injection e1 with e1
      subst e1
      exact k9 _ e2 (by have := hf5 h a ha; omega)
  · obtain ⟨z, rfl⟩ : ∃ z, j = z + 1 := ⟨j - 1, by omega⟩
    rw [show ((z + 1 : Nat) : Int) - 1 = (z : Int) by omega] at r10'
    refine (show RC.vc Try.prog (.seq _ (.seq divB _)) _ _ (D Try.prog _) from ?_)
    simp only [↓gaW, ↓gaV, ↓gaC, ↓gaN, gaP, Nat.reduceEqDiff, Nat.reduceLeDiff, Nat.reduceAdd, Nat.reduceSub, Nat.reduceMul, Int.reduceLT, Int.reduceLE, Int.reduceEq, Int.reduceToNat, Int.reduceAdd, Int.reduceSub, Int.reduceMul, reduceCtorEq, ↓reduceIte, r10', show (0 : Int) ≤ (z : Int) by omega, decide_true]
    obtain ⟨am, _, _, rfl, m1, m2, _⟩ := r3.cells (by omega)
    have hamq : n6 ≤ am.block := hfr (by omega) am rfl
    have r3x : Row x g 1 (some am) a3 ((lb M).map u32V) := r3.keepA (by omega) fun _ a ha => by
      injection ha with ha
      subst ha
      exact hg _ m1 (by omega)
    refine div_round (N := w.length) (c3 := c3) (T := T) (M := M) (U := U) (u := u) (qs := qs) (q := q) (n7 := n7) (by omega) hq7 (by omega) (by simp only [↓gaW, ↓gaV, ↓gaC, ↓gaN, gaP, Nat.reduceEqDiff, Nat.reduceLeDiff, Nat.reduceAdd, Nat.reduceSub, Nat.reduceMul, Int.reduceLT, Int.reduceLE, Int.reduceEq, Int.reduceToNat, Int.reduceAdd, Int.reduceSub, Int.reduceMul, reduceCtorEq, ↓reduceIte, r1']) (by simp only [↓gaW, ↓gaV, ↓gaC, ↓gaN, gaP, Nat.reduceEqDiff, Nat.reduceLeDiff, Nat.reduceAdd, Nat.reduceSub, Nat.reduceMul, Int.reduceLT, Int.reduceLE, Int.reduceEq, Int.reduceToNat, Int.reduceAdd, Int.reduceSub, Int.reduceMul, reduceCtorEq, ↓reduceIte, r4']) (by simp only [↓gaW, ↓gaV, ↓gaC, ↓gaN, gaP, Nat.reduceEqDiff, Nat.reduceLeDiff, Nat.reduceAdd, Nat.reduceSub, Nat.reduceMul, Int.reduceLT, Int.reduceLE, Int.reduceEq, Int.reduceToNat, Int.reduceAdd, Int.reduceSub, Int.reduceMul, reduceCtorEq, ↓reduceIte, r8']) (by simp only [↓gaW, ↓gaV, ↓gaC, ↓gaN, gaP, Nat.reduceEqDiff, Nat.reduceLeDiff, Nat.reduceAdd, Nat.reduceSub, Nat.reduceMul, Int.reduceLT, Int.reduceLE, Int.reduceEq, Int.reduceToNat, Int.reduceAdd, Int.reduceSub, Int.reduceMul, reduceCtorEq, ↓reduceIte, r9']) (by simp only [↓gaW, ↓gaV, ↓gaC, ↓gaN, gaP, Nat.reduceEqDiff, Nat.reduceLeDiff, Nat.reduceAdd, Nat.reduceSub, Nat.reduceMul, Int.reduceLT, Int.reduceLE, Int.reduceEq, Int.reduceToNat, Int.reduceAdd, Int.reduceSub, Int.reduceMul, reduceCtorEq, ↓reduceIte, r10']) hgq hgn (by omega) (by omega) hqs (by omega) (by omega) (by omega) (by omega) r3x hl3 (by omega) hM0 hs2 hs3 he hlt (hz z (by omega)) ?_
    intro f' x' g' u' qs' e1' e4' e7' e8' e9' e10' lx kx gq' gn' hu' hqs' he' hlt' hz'
    simp only [↓gaW, ↓gaV, ↓gaC, ↓gaN, gaP, Nat.reduceEqDiff, Nat.reduceLeDiff, Nat.reduceAdd, Nat.reduceSub, Nat.reduceMul, Int.reduceLT, Int.reduceLE, Int.reduceEq, Int.reduceToNat, Int.reduceAdd, Int.reduceSub, Int.reduceMul, reduceCtorEq, ↓reduceIte] at e1' e4' e7' e8' e9' e10'
    rw [r1'] at e1'
    rw [r4'] at e4'
    rw [r7'] at e7'
    rw [r8'] at e8'
    rw [r9'] at e9'
    rw [r10'] at e10'
    simp only [↓gaW, ↓gaV, ↓gaC, ↓gaN, gaP, Nat.reduceEqDiff, Nat.reduceLeDiff, Nat.reduceAdd, Nat.reduceSub, Nat.reduceMul, Int.reduceLT, Int.reduceLE, Int.reduceEq, Int.reduceToNat, Int.reduceAdd, Int.reduceSub, Int.reduceMul, reduceCtorEq, ↓reduceIte, e10', i64_w ((z : Int) - 1) (by omega), loopK_n]
    refine ⟨z, by omega, z, x', g', u', qs', rfl, by omega, ?_⟩
    refine ⟨e1', e4', e7', e8', e9', rfl, rfl, by omega, fun p hp hpq => ?_, gq', gn', by omega, hqs', he', hlt', fun j hj => (hz' j hj).trans (hz j (by omega))⟩
    rw [kx p (by omega) hpq (by omega), hg p hp hpq]
end
end Go.Ga

namespace Go.Ga
open Go Go.Proofs
set_option linter.unusedSimpArgs false
set_option linter.unusedVariables false
set_option maxRecDepth 100000
attribute [local irreducible] appendK

theorem word_bit (l : List UInt32) (k : Nat) : (l.getD (k / 32) 0).toNat / 2 ^ (k % 32) % 2 = lv l / 2 ^ k % 2 := by
  have hr : k % 32 < 32 := Nat.mod_lt _ (by decide)
  have e1 : (2 : Nat) ^ k = 4294967296 ^ (k / 32) * 2 ^ (k % 32) := by
    have e : (4294967296 : Nat) = 2 ^ 32 := by decide
    rw [e, ← Nat.pow_mul, ← Nat.pow_add, Nat.div_add_mod]
  have e2 : (4294967296 : Nat) = 2 ^ (k % 32) * (2 * 2 ^ (31 - k % 32)) := by
    rw [← Nat.pow_succ', ← Nat.pow_add, show k % 32 + (31 - k % 32).succ = 32 by omega]
  rw [lv_get, e1, ← Nat.div_div_eq_div_mul]
  generalize lv l / 4294967296 ^ (k / 32) = Y
  rw [e2, Nat.mod_mul_right_div_self, Nat.mod_mul_right_mod]

theorem pow_bit (a e m j : Nat) : a ^ (e / 2 ^ j) % m = if e / 2 ^ j % 2 = 1 then (a ^ (e / 2 ^ (j + 1)) % m * (a ^ (e / 2 ^ (j + 1)) % m) % m) * (a % m) % m else a ^ (e / 2 ^ (j + 1)) % m * (a ^ (e / 2 ^ (j + 1)) % m) % m := by
  have h : e / 2 ^ j = 2 * (e / 2 ^ (j + 1)) + e / 2 ^ j % 2 := by
    rw [Nat.pow_succ, ← Nat.div_div_eq_div_mul]; omega
  generalize e / 2 ^ (j + 1) = q at *
  generalize e / 2 ^ j = p at *
  split
  · rename_i hb
    rw [h, hb, Nat.pow_succ, Nat.two_mul, Nat.pow_add]
    simp only [Nat.mul_mod, Nat.mod_mod]
  · rw [h, show p % 2 = 0 by omega, Nat.add_zero, Nat.two_mul, Nat.pow_add]
    simp only [Nat.mul_mod, Nat.mod_mod]

/-- What is left of a number, and whether it may be asked. -/
def ModV (nx : Nat) (gt : Nat → Option Blk) (r m : Nat) (v : Value) : Prop :=
  (m = 0 ∧ v = .tuple #[.slice none 0 0, .bool false]) ∨ (m ≠ 0 ∧ ∃ v1, v = .tuple #[v1, .bool true] ∧ W32 nx gt v1 (lb (r % m)))

theorem mod_len {x : Nat} {t : List UInt32} {h : Nat} (h0 : lv t ≠ 0) (ht : t.length ≤ h) : (lb (x % lv t)).length ≤ h := by
  refine lb_len_le.2 ?_
  have h1 := Nat.mod_lt x (Nat.pos_of_ne_zero h0)
  have h2 := lv_lt' ht
  omega

section
variable {nx : Nat} {gt : Nat → Option Blk}

theorem ct_mMul {A B E : Option Addr} {n m h c d e : Nat} {l k t : List UInt32} (hr : Row nx gt 1 A n (l.map u32V)) (hn : n < 4000000) (hs : Row nx gt 1 B m (k.map u32V)) (hm : m < 4000000) (ht : Row nx gt 1 E h (t.map u32V)) (he : h ≤ e) (hh : h < 4000000) :
    Ct Try.prog 72 [.slice A n c, .slice B m d, .slice E h e] nx gt fun v nx' gt' => ModV nx' gt' (lv l * lv k) (lv t) v := by
  have hl : l.length = n := by simpa using hr.len
  have hk : k.length = m := by simpa using hs.len
  refine Ct.of hmx r_modulo_Mul (by simp [c_modulo_Mul]) fun b hb => ?_
  have hF : ∀ q, q < nx → gt q = gt q := fun _ _ => rfl
  simp only [c_modulo_Mul, ↓gaW, ↓gaV, ↓gaC, ↓gaN, gaP, Nat.reduceEqDiff, Nat.reduceLeDiff, Nat.reduceAdd, Nat.reduceSub, Nat.reduceMul, Int.reduceLT, Int.reduceLE, Int.reduceEq, Int.reduceToNat, Int.reduceAdd, Int.reduceSub, Int.reduceMul, reduceCtorEq, ↓reduceIte]
  refine callK_of (ct_Mul hr (by omega) hs (by omega)) (fun v n1 g1 l1 k1 hC => ?_) (by omega)
  obtain ⟨A1, a1, c1, rfl, hc1, hl1, r1⟩ := hC
  have ht := ht.keep l1 k1
  have hF : ∀ q, q < nx → g1 q = gt q := fun q hq => (k1 q (by omega)).trans (hF q hq)
  simp only [↓gaW, ↓gaV, ↓gaC, ↓gaN, gaP, Nat.reduceEqDiff, Nat.reduceLeDiff, Nat.reduceAdd, Nat.reduceSub, Nat.reduceMul, Int.reduceLT, Int.reduceLE, Int.reduceEq, Int.reduceToNat, Int.reduceAdd, Int.reduceSub, Int.reduceMul, reduceCtorEq, ↓reduceIte]
  have hlen : (lb (lv l * lv k)).length ≤ n + m := lb_len_le.2 (lt_mul (lv_lt' (by omega)) (lv_lt' (by omega)))
  refine callK_of (ct_DivMod r1 hc1 (by omega) ht he (by omega)) (fun v n2 g2 l2 k2 hC => ?_) (by omega)
  rw [lv_lb] at hC
  rcases hC with ⟨h0, rfl⟩ | ⟨h0, v1, v2, rfl, hq, hw⟩
  · simp only [↓gaW, ↓gaV, ↓gaC, ↓gaN, gaP, Nat.reduceEqDiff, Nat.reduceLeDiff, Nat.reduceAdd, Nat.reduceSub, Nat.reduceMul, Int.reduceLT, Int.reduceLE, Int.reduceEq, Int.reduceToNat, Int.reduceAdd, Int.reduceSub, Int.reduceMul, reduceCtorEq, ↓reduceIte, gaE, implies_true, Nat.le_refl, Int.sub_zero, Nat.sub_zero, Int.le_refl, true_or, or_true]
    repeat refine And.intro (by first | omega | (simp; done) | (simp; omega) | exact all1 rfl) ?_
    exact ⟨fun q hq => (k2 q (by omega)).trans (hF q hq), .inl ⟨h0, rfl⟩⟩
  · simp only [↓gaW, ↓gaV, ↓gaC, ↓gaN, gaP, Nat.reduceEqDiff, Nat.reduceLeDiff, Nat.reduceAdd, Nat.reduceSub, Nat.reduceMul, Int.reduceLT, Int.reduceLE, Int.reduceEq, Int.reduceToNat, Int.reduceAdd, Int.reduceSub, Int.reduceMul, reduceCtorEq, ↓reduceIte, gaE, implies_true, Nat.le_refl, Int.sub_zero, Nat.sub_zero, Int.le_refl, true_or, or_true]
    repeat refine And.intro (by first | omega | (simp; done) | (simp; omega) | exact all1 rfl) ?_
    exact ⟨fun q hq => (k2 q (by omega)).trans (hF q hq), .inr ⟨h0, _, rfl, hw⟩⟩

theorem ct_mExp {A B E : Option Addr} {n m h c d e : Nat} {l k t : List UInt32} (hr : Row nx gt 1 A n (l.map u32V)) (hc : n ≤ c) (hn : n < 4000000) (hs : Row nx gt 1 B m (k.map u32V)) (hd : m ≤ d) (hm : m < 4000000) (ht : Row nx gt 1 E h (t.map u32V)) (he : h ≤ e) (hh : h < 4000000) :
    Ct Try.prog 45 [.slice A n c, .slice B m d, .slice E h e] nx gt fun v nx' gt' => ModV nx' gt' (lv l ^ lv k) (lv t) v := by
  have hl : l.length = n := by simpa using hr.len
  have hk : k.length = m := by simpa using hs.len
  have htl : t.length = h := by simpa using ht.len
  refine Ct.of hmx r_modulo_Exp (by simp [c_modulo_Exp]) fun b hb => ?_
  have hF : ∀ q, q < nx → gt q = gt q := fun _ _ => rfl
  have ebl : bl (lv k) ≤ 32 * m := by
    refine bl_le.2 ?_
    have := lv_lt' (Nat.le_of_eq hk)
    rwa [show (4294967296 : Nat) = 2 ^ 32 by decide, ← Nat.pow_mul] at this
  simp only [c_modulo_Exp, ↓gaW, ↓gaV, ↓gaC, ↓gaN, gaP, Nat.reduceEqDiff, Nat.reduceLeDiff, Nat.reduceAdd, Nat.reduceSub, Nat.reduceMul, Int.reduceLT, Int.reduceLE, Int.reduceEq, Int.reduceToNat, Int.reduceAdd, Int.reduceSub, Int.reduceMul, reduceCtorEq, ↓reduceIte, List.getD_cons_zero, List.getD_cons_succ, fillL, splice, List.take_zero, List.drop_zero, List.drop_succ_cons, List.take_succ_cons, List.drop_nil, List.take_nil]
  have r0 : Row (nx + 1) (upd gt nx (some (.cells [.int .u32 1] false))) 1 (some ⟨nx, 0, none⟩) 1 (([1] : List UInt32).map u32V) := Row.w32 (ro := false) (by omega) (by simp [upd]; rfl) rfl
  have kx : ∀ q, q < nx → upd gt nx (some (.cells [.int .u32 1] false)) q = gt q := fun q hq => by simp only [upd_e]; rw [if_neg (by omega)]
  have hr := hr.keep (nx' := nx + 1) (by omega) kx
  have hs := hs.keep (nx' := nx + 1) (by omega) kx
  have ht := ht.keep (nx' := nx + 1) (by omega) kx
  refine callK_of (ct_DivMod r0 (by omega) (by omega) ht he (by omega)) (fun v n1 g1 l1 k1 hC => ?_) (by omega)
  rw [show lv [1] = 1 by decide] at hC
  have hF : ∀ q, q < nx → g1 q = gt q := fun q hq => (k1 q (by omega)).trans (kx q hq)
  have hr := hr.keep l1 k1
  have hs := hs.keep l1 k1
  have ht := ht.keep l1 k1
  rcases hC with ⟨h0, rfl⟩ | ⟨h0, v1, v2, rfl, hq, hw⟩
  · simp only [↓gaW, ↓gaV, ↓gaC, ↓gaN, gaP, Nat.reduceEqDiff, Nat.reduceLeDiff, Nat.reduceAdd, Nat.reduceSub, Nat.reduceMul, Int.reduceLT, Int.reduceLE, Int.reduceEq, Int.reduceToNat, Int.reduceAdd, Int.reduceSub, Int.reduceMul, reduceCtorEq, ↓reduceIte, gaE, implies_true, Nat.le_refl, Int.sub_zero, Nat.sub_zero, Int.le_refl, true_or, or_true]
    repeat refine And.intro (by first | omega | (simp; done) | (simp; omega) | exact all1 rfl) ?_
    first | exact ⟨hF, .inl ⟨h0, rfl⟩⟩ | exact .inl ⟨h0, rfl⟩
  simp only [↓gaW, ↓gaV, ↓gaC, ↓gaN, gaP, Nat.reduceEqDiff, Nat.reduceLeDiff, Nat.reduceAdd, Nat.reduceSub, Nat.reduceMul, Int.reduceLT, Int.reduceLE, Int.reduceEq, Int.reduceToNat, Int.reduceAdd, Int.reduceSub, Int.reduceMul, reduceCtorEq, ↓reduceIte, Bool.not_true]
  repeat refine And.intro (by first | omega | (simp; done) | (simp; omega) | exact all1 rfl) ?_
  refine callK_of (ct_DivMod hr hc (by omega) ht he (by omega)) (fun v n3 g3 l3 k3 hC => ?_) (by omega)
  have hs := hs.keep l3 k3
  have ht := ht.keep l3 k3
  have hw := hw.keep l3 k3
  have hF : ∀ q, q < nx → g3 q = gt q := fun q hq => (k3 q (by omega)).trans (hF q hq)
  rcases hC with ⟨h0', rfl⟩ | ⟨_, v3, v4, rfl, hq3, hw3⟩
  · exact absurd h0' h0
  simp only [↓gaW, ↓gaV, ↓gaC, ↓gaN, gaP, Nat.reduceEqDiff, Nat.reduceLeDiff, Nat.reduceAdd, Nat.reduceSub, Nat.reduceMul, Int.reduceLT, Int.reduceLE, Int.reduceEq, Int.reduceToNat, Int.reduceAdd, Int.reduceSub, Int.reduceMul, reduceCtorEq, ↓reduceIte]
  repeat refine And.intro (by first | omega | (simp; done) | (simp; omega) | exact all1 rfl) ?_
  refine callK_of (ct_Len hs hd (by omega)) (fun v n4 g4 l4 k4 hC => ?_) (by omega)
  subst hC
  have hs := hs.keep l4 k4
  have ht := ht.keep l4 k4
  have hw := hw.keep l4 k4
  have hw3 := hw3.keep l4 k4
  have hF : ∀ q, q < nx → g4 q = gt q := fun q hq => (k4 q (by omega)).trans (hF q hq)
  simp only [↓gaW, ↓gaV, ↓gaC, ↓gaN, gaP, Nat.reduceEqDiff, Nat.reduceLeDiff, Nat.reduceAdd, Nat.reduceSub, Nat.reduceMul, Int.reduceLT, Int.reduceLE, Int.reduceEq, Int.reduceToNat, Int.reduceAdd, Int.reduceSub, Int.reduceMul, reduceCtorEq, ↓reduceIte, i64_w ((bl (lv k) : Int) - 1) (by omega)]
  refine loop_of (fun j f mm => ∃ (y x : Nat) (g : Nat → Option Blk), j = y ∧ y ≤ bl (lv k) ∧ W32 x g (f 0) (lb (lv l % lv t)) ∧ f 1 = .slice B m d ∧ f 2 = .slice E h e ∧ W32 x g (f 9) (lb (lv l ^ (lv k / 2 ^ y) % lv t)) ∧ f 11 = .int .i64 ((y : Int) - 1) ∧ mm = ⟨x, b, g⟩ ∧ nx ≤ x ∧
      (∀ p, p < nx → g p = gt p) ∧ Row x g 1 B m (k.map u32V) ∧ Row x g 1 E h (t.map u32V)) (bl (lv k))
    ⟨_, n4, g4, rfl, Nat.le_refl _, by simp only [↓gaW, ↓gaV, ↓gaC, ↓gaN, gaP, Nat.reduceEqDiff, Nat.reduceLeDiff, Nat.reduceAdd, Nat.reduceSub, Nat.reduceMul, Int.reduceLT, Int.reduceLE, Int.reduceEq, Int.reduceToNat, Int.reduceAdd, Int.reduceSub, Int.reduceMul, reduceCtorEq, ↓reduceIte]; exact hw3, by simp only [↓gaW, ↓gaV, ↓gaC, ↓gaN, gaP, Nat.reduceEqDiff, Nat.reduceLeDiff, Nat.reduceAdd, Nat.reduceSub, Nat.reduceMul, Int.reduceLT, Int.reduceLE, Int.reduceEq, Int.reduceToNat, Int.reduceAdd, Int.reduceSub, Int.reduceMul, reduceCtorEq, ↓reduceIte], by simp only [↓gaW, ↓gaV, ↓gaC, ↓gaN, gaP, Nat.reduceEqDiff, Nat.reduceLeDiff, Nat.reduceAdd, Nat.reduceSub, Nat.reduceMul, Int.reduceLT, Int.reduceLE, Int.reduceEq, Int.reduceToNat, Int.reduceAdd, Int.reduceSub, Int.reduceMul, reduceCtorEq, ↓reduceIte], by simp only [↓gaW, ↓gaV, ↓gaC, ↓gaN, gaP, Nat.reduceEqDiff, Nat.reduceLeDiff, Nat.reduceAdd, Nat.reduceSub, Nat.reduceMul, Int.reduceLT, Int.reduceLE, Int.reduceEq, Int.reduceToNat, Int.reduceAdd, Int.reduceSub, Int.reduceMul, reduceCtorEq, ↓reduceIte]; rw [Nat.div_eq_of_lt (bl_lt _), Nat.pow_zero]; exact hw, by simp only [↓gaW, ↓gaV, ↓gaC, ↓gaN, gaP, Nat.reduceEqDiff, Nat.reduceLeDiff, Nat.reduceAdd, Nat.reduceSub, Nat.reduceMul, Int.reduceLT, Int.reduceLE, Int.reduceEq, Int.reduceToNat, Int.reduceAdd, Int.reduceSub, Int.reduceMul, reduceCtorEq, ↓reduceIte], rfl, by omega, hF, hs, ht⟩ ?_
  rintro j f mm ⟨y, x, g, rfl, hy, w0, h1, h2, w9, h11, rfl, hx, hF, hs, ht⟩
  rcases Nat.eq_zero_or_pos j with rfl | hj
  · simp only [↓gaW, ↓gaV, ↓gaC, ↓gaN, gaP, Nat.reduceEqDiff, Nat.reduceLeDiff, Nat.reduceAdd, Nat.reduceSub, Nat.reduceMul, Int.reduceLT, Int.reduceLE, Int.reduceEq, Int.reduceToNat, Int.reduceAdd, Int.reduceSub, Int.reduceMul, reduceCtorEq, ↓reduceIte, gaE, implies_true, Nat.le_refl, Int.sub_zero, Nat.sub_zero, Int.le_refl, true_or, or_true, h11, show ((0 : Nat) : Int) - 1 = -1 from rfl, show ¬ (0 : Int) ≤ -1 by omega, decide_false, loopK_e]
    rw [Nat.pow_zero, Nat.div_one] at w9
    repeat refine And.intro (by first | omega | (simp; done) | (simp; omega) | exact all1 rfl) ?_
    first | exact ⟨hF, .inr ⟨h0, _, rfl, w9⟩⟩ | exact .inr ⟨h0, _, rfl, w9⟩
  · obtain ⟨z, rfl⟩ : ∃ z, j = z + 1 := ⟨j - 1, by omega⟩
    rw [show ((z + 1 : Nat) : Int) - 1 = (z : Int) by omega] at h11
    obtain ⟨a0, s0, c0, e0, hc0, hl0, r0⟩ := w0
    obtain ⟨a9, s9, c9, e9, hc9, hl9, r9⟩ := w9
    have z0 := mod_len (x := lv l) h0 (Nat.le_of_eq htl)
    have z9 := mod_len (x := lv l ^ (lv k / 2 ^ (z + 1))) h0 (Nat.le_of_eq htl)
    simp only [↓gaW, ↓gaV, ↓gaC, ↓gaN, gaP, Nat.reduceEqDiff, Nat.reduceLeDiff, Nat.reduceAdd, Nat.reduceSub, Nat.reduceMul, Int.reduceLT, Int.reduceLE, Int.reduceEq, Int.reduceToNat, Int.reduceAdd, Int.reduceSub, Int.reduceMul, reduceCtorEq, ↓reduceIte, h1, h2, h11, e9, show (0 : Int) ≤ (z : Int) by omega, decide_true]
    refine callK_of (ct_mMul r9 (by omega) r9 (by omega) ht he hh) (fun v n5 g5 l5 k5 hC => ?_) (by omega)
    rcases hC with ⟨h0', rfl⟩ | ⟨_, v5, rfl, hw5⟩
    · exact absurd h0' h0
    have hs := hs.keep l5 k5
    have ht := ht.keep l5 k5
    have r0 := r0.keep l5 k5
    have hF : ∀ q, q < nx → g5 q = gt q := fun q hq => (k5 q (by omega)).trans (hF q hq)
    rw [lv_lb] at hw5
    obtain ⟨a, ce, ro, rfl, p1, p2, p3, p4⟩ := w32_cell hs hk (i := z / 32) (by omega)
    have d1 : (z : Int).tdiv 32 = ((z / 32 : Nat) : Int) := by rw [Int.tdiv_eq_ediv_of_nonneg (by omega)]; omega
    have d2 : (z : Int).tmod 32 = ((z % 32 : Nat) : Int) := by rw [Int.tmod_eq_emod_of_nonneg (by omega)]; omega
    have d3 : shrV .u32 ((((k.getD (z / 32) 0).toNat : Nat)) : Int) ((z % 32 : Nat) : Int) = (((k.getD (z / 32) 0).toNat / 2 ^ (z % 32) : Nat) : Int) := shr_nat (k := .u32) _ _ (by show _ ≤ 32; omega)
    have d4 := lt32 (k.getD (z / 32) 0)
    have d5 : (k.getD (z / 32) 0).toNat / 2 ^ (z % 32) ≤ (k.getD (z / 32) 0).toNat := Nat.div_le_self _ _
    have d6 : bitsV .and .u32 (((k.getD (z / 32) 0).toNat / 2 ^ (z % 32) : Nat) : Int) 1 = ((lv k / 2 ^ z % 2 : Nat) : Int) := by
      rw [show (1 : Int) = ((1 : Nat) : Int) from rfl, and_u32 (by omega) (by omega), Nat.and_one_is_mod, word_bit]
    simp only [↓gaW, ↓gaV, ↓gaC, ↓gaN, gaP, Nat.reduceEqDiff, Nat.reduceLeDiff, Nat.reduceAdd, Nat.reduceSub, Nat.reduceMul, Int.reduceLT, Int.reduceLE, Int.reduceEq, Int.reduceToNat, Int.reduceAdd, Int.reduceSub, Int.reduceMul, reduceCtorEq, ↓reduceIte, h1, h11, p2, d1, d2, i64_w ((z / 32 : Nat) : Int) (by omega), Int.toNat_natCast, p4, d3, d6]
    repeat refine And.intro (by first | omega | (simp; done) | (simp; omega) | exact all1 rfl) ?_
    have hpb := pow_bit (lv l) (lv k) (lv t) z
    obtain ⟨a5, s5, c5, rfl, hc5, hl5, r5⟩ := hw5
    have z5 := mod_len (x := lv l ^ (lv k / 2 ^ (z + 1)) % lv t * (lv l ^ (lv k / 2 ^ (z + 1)) % lv t)) h0 (Nat.le_of_eq htl)
    by_cases hbt : lv k / 2 ^ z % 2 = 1
    · rw [if_pos hbt] at hpb
      simp only [↓gaW, ↓gaV, ↓gaC, ↓gaN, gaP, Nat.reduceEqDiff, Nat.reduceLeDiff, Nat.reduceAdd, Nat.reduceSub, Nat.reduceMul, Int.reduceLT, Int.reduceLE, Int.reduceEq, Int.reduceToNat, Int.reduceAdd, Int.reduceSub, Int.reduceMul, reduceCtorEq, ↓reduceIte, hbt, decide_true, e0, h2]
      repeat refine And.intro (by first | omega | (simp; done) | (simp; omega) | exact all1 rfl) ?_
      refine callK_of (ct_mMul r5 (by omega) r0 (by omega) ht he hh) (fun v n6 g6 l6 k6 hC => ?_) (by omega)
      rcases hC with ⟨h0', rfl⟩ | ⟨_, v6, rfl, hw6⟩
      · exact absurd h0' h0
      have hs := hs.keep l6 k6
      have ht := ht.keep l6 k6
      have r0 := r0.keep l6 k6
      have hF : ∀ q, q < nx → g6 q = gt q := fun q hq => (k6 q (by omega)).trans (hF q hq)
      rw [lv_lb, lv_lb, ← hpb] at hw6
      simp only [↓gaW, ↓gaV, ↓gaC, ↓gaN, gaP, Nat.reduceEqDiff, Nat.reduceLeDiff, Nat.reduceAdd, Nat.reduceSub, Nat.reduceMul, Int.reduceLT, Int.reduceLE, Int.reduceEq, Int.reduceToNat, Int.reduceAdd, Int.reduceSub, Int.reduceMul, reduceCtorEq, ↓reduceIte, h11, i64_w ((z : Int) - 1) (by omega), loopK_n]
      repeat refine And.intro (by first | omega | (simp; done) | (simp; omega) | exact all1 rfl) ?_
      exact ⟨z, by omega, z, n6, g6, rfl, by omega, e0 ▸ ⟨a0, s0, c0, rfl, hc0, hl0, r0⟩, h1, h2, hw6, rfl, rfl, by omega, hF, hs, ht⟩
    · rw [if_neg hbt] at hpb
      have hbi : ¬ ((lv k / 2 ^ z % 2 : Nat) : Int) = 1 := by omega
      simp only [↓gaW, ↓gaV, ↓gaC, ↓gaN, gaP, Nat.reduceEqDiff, Nat.reduceLeDiff, Nat.reduceAdd, Nat.reduceSub, Nat.reduceMul, Int.reduceLT, Int.reduceLE, Int.reduceEq, Int.reduceToNat, Int.reduceAdd, Int.reduceSub, Int.reduceMul, reduceCtorEq, ↓reduceIte, hbi, decide_false, h11, i64_w ((z : Int) - 1) (by omega), loopK_n]
      repeat refine And.intro (by first | omega | (simp; done) | (simp; omega) | exact all1 rfl) ?_
      rw [← hpb] at hl5 r5
      exact ⟨z, by omega, z, n5, g5, rfl, by omega, e0 ▸ ⟨a0, s0, c0, rfl, hc0, hl0, r0⟩, h1, h2, ⟨a5, s5, c5, rfl, hc5, hl5, r5⟩, rfl, rfl, by omega, hF, hs, ht⟩
end
end Go.Ga

namespace Go.Ga
open Go Go.Proofs
set_option linter.unusedSimpArgs false
set_option linter.unusedVariables false
set_option maxRecDepth 100000
attribute [local irreducible] appendK

/-- A slice that a call made, which may be appended to. -/
def GrowV (lo nx : Nat) (gt : Nat → Option Blk) (v : Value) (l : List UInt32) : Prop := ∃ A n, v = .slice A n n ∧ l.length = n ∧ Grow lo lo nx gt 1 A n (l.map u32V)
theorem Own.low {nx b x g e A n l nx' b'} (h : Own nx b x g e A n l) (h1 : nx' ≤ nx) (h2 : b' ≤ nx) : Own nx' b' x g e A n l := by
  refine ⟨h.1, ?_⟩
  rcases h.2 with h | ⟨q, e1, e2, e3, e4, e5⟩
  · exact .inl h
  · exact .inr ⟨q, e1, by omega, by omega, by omega, e5⟩
theorem Grow.low {nx b x g e A n l nx' b'} (h : Grow nx b x g e A n l) (h1 : nx' ≤ nx) (h2 : b' ≤ nx) : Grow nx' b' x g e A n l := by
  rcases h with h | h
  · exact .inl (h.low h1 h2)
  · exact .inr h
theorem GrowV.of {lo b nx : Nat} {gt : Nat → Option Blk} {A : Option Addr} {n : Nat} {l : List UInt32} (hb : b ≤ lo) (h : Grow lo b nx gt 1 A n (l.map u32V)) : GrowV lo nx gt (.slice A n n) l :=
  ⟨A, n, rfl, by simpa using h.len, h.low (Nat.le_refl _) (Nat.le_refl _)⟩

section
variable {nx : Nat} {gt : Nat → Option Blk}

theorem ct_rBareG {A : Option Addr} {n c : Nat} {l : List UInt32} (hr : Row nx gt 1 A n (l.map u32V)) (hc : n ≤ c) (hn : n < 1000000000) :
    Ct Try.prog 73 [.slice A n c] nx gt fun v nx' gt' => GrowV nx nx' gt' v (lb (lv l)) := by
  have hlen : l.length = n := by simpa using hr.len
  refine Ct.of hmx r_lanyardref07_Bare (by simp [c_lanyardref07_Bare]) fun b hb => ?_
  simp only [c_lanyardref07_Bare, ↓gaW, ↓gaV, ↓gaC, ↓gaN, gaP, Nat.reduceEqDiff, Nat.reduceLeDiff, Nat.reduceAdd, Nat.reduceSub, Nat.reduceMul, Int.reduceLT, Int.reduceLE, Int.reduceEq, Int.reduceToNat, Int.reduceAdd, Int.reduceSub, Int.reduceMul, reduceCtorEq, ↓reduceIte]
  have hcut : ∀ a k, A = some a → k ≤ n → rowOf ⟨nx + 1, b, upd gt nx (some (.cells [] false))⟩ (some ⟨a.block, a.off, a.spot⟩) k = some ((l.take k).map u32V) := by
    intro a k ha hk
    have h := ((hr.keep (nx' := nx + 1) (gt' := upd gt nx (some (.cells [] false))) (Nat.le_succ _) (fun k hk => by simp only [upd_e]; rw [if_neg (by omega)])).part (lo := 0) (hi := k) (Nat.zero_le _) hk ha).rowOf (b := b)
    simpa [List.map_take] using h
  have hnil : rowOf ⟨nx + 1, b, upd gt nx (some (.cells [] false))⟩ none 0 = some [] := by simp [rowOf]
  have app : ∀ (k : Nat) (K : Value → Mem → Prop), k ≤ n → (∀ A' x' g', nx + 1 ≤ x' → (∀ i, i < nx → g' i = gt i) → GrowV nx x' g' (.slice A' k k) (l.take k) → K (.slice A' k k) ⟨x', b, g'⟩) →
      appendK 1 4 ⟨nx + 1, b, upd gt nx (some (.cells [] false))⟩ (some ⟨nx, 0, none⟩) 0 0 k ((l.take k).map u32V) K := by
    intro k K hk hK
    refine grow_app (nx := nx) (l := []) (Grow.lit (q := nx) (l := []) (ro := false) (by omega) (by simp [upd]) rfl) (by omega) (by omega) (by omega) (by simp [hlen]; omega) (all_u32 _) (by omega) (by omega) fun A' x' g' h1 h2 h3 => ?_
    rw [List.nil_append, Nat.zero_add] at h3
    rw [Nat.zero_add]
    exact hK A' x' g' h1 (fun i hi => by rw [h2 i hi]; simp only [upd_e]; rw [if_neg (by omega)]) (GrowV.of hb h3)
  refine loop_of (fun j f m => ∃ k : Nat, j = k ∧ k ≤ n ∧ f 0 = .slice A n c ∧ f 3 = .int .i64 (k : Nat) ∧ m = ⟨nx, b, gt⟩ ∧ ∀ i, k ≤ i → i < l.length → l.getD i 0 = 0) n ⟨n, rfl, Nat.le_refl _, rfl, rfl, rfl, fun i h1 h2 => by omega⟩ ?_
  rintro j f m ⟨k, rfl, hk, h0, h3, rfl, hz⟩
  by_cases hpos : (0 : Int) < (j : Int)
  · have e1 : ((j : Int) - 1) = ((j - 1 : Nat) : Int) := by omega
    obtain ⟨a, ce, ro, ha, h5, h6, h7, h8⟩ := w32_cell hr hlen (i := j - 1) (by omega)
    by_cases hzero : (l.getD (j - 1) 0) = 0
    · have hv : ((l.getD (j - 1) 0).toNat : Int) = 0 := by rw [hzero]; rfl
      simp only [↓gaW, ↓gaV, ↓gaC, ↓gaN, gaP, Nat.reduceEqDiff, Nat.reduceLeDiff, Nat.reduceAdd, Nat.reduceSub, Nat.reduceMul, Int.reduceLT, Int.reduceLE, Int.reduceEq, Int.reduceToNat, Int.reduceAdd, Int.reduceSub, Int.reduceMul, reduceCtorEq, ↓reduceIte, h0, h3, hpos, decide_true, e1, i64_w ((j - 1 : Nat) : Int) (by omega), ha, h6, h8, hv]
      refine ⟨by omega, by omega, by omega, ?_⟩
      simp only [↓gaW, ↓gaV, ↓gaC, ↓gaN, gaP, Nat.reduceEqDiff, Nat.reduceLeDiff, Nat.reduceAdd, Nat.reduceSub, Nat.reduceMul, Int.reduceLT, Int.reduceLE, Int.reduceEq, Int.reduceToNat, Int.reduceAdd, Int.reduceSub, Int.reduceMul, reduceCtorEq, ↓reduceIte, h3, e1, i64_w ((j - 1 : Nat) : Int) (by omega), loopK_n]
      refine ⟨j - 1, by omega, j - 1, rfl, by omega, by rw [h0, ha], rfl, fun i h1 h2 => ?_⟩
      by_cases hi : i = j - 1
      · rw [hi]; exact hzero
      · exact hz i (by omega) h2
    · have hv : ¬ ((l.getD (j - 1) 0).toNat : Int) = 0 := fun h => hzero (by apply UInt32.toNat_inj.1; show _ = 0; omega)
      have hsp := hr.spot a ha
      simp only [↓gaW, ↓gaV, ↓gaC, ↓gaN, gaP, Nat.reduceEqDiff, Nat.reduceLeDiff, Nat.reduceAdd, Nat.reduceSub, Nat.reduceMul, Int.reduceLT, Int.reduceLE, Int.reduceEq, Int.reduceToNat, Int.reduceAdd, Int.reduceSub, Int.reduceMul, reduceCtorEq, ↓reduceIte, gaE, implies_true, Nat.le_refl, Int.sub_zero, Nat.sub_zero, Int.le_refl, true_or, or_true, List.getD_cons_zero, List.getD_cons_succ, fillL, splice, List.take_zero, List.drop_zero, List.drop_succ_cons, List.take_succ_cons, List.drop_nil, List.take_nil, h0, h3, hpos, decide_true, e1, i64_w ((j - 1 : Nat) : Int) (by omega), ha, h6, h8, hv, decide_false, hcut a j ha hk]
      repeat refine And.intro (by first | omega | (rcases hsp with h | h <;> simp [h])) ?_
      refine app j _ hk fun A' x' g' h1 h2 h3 => ?_
      simp only [↓gaW, ↓gaV, ↓gaC, ↓gaN, gaP, Nat.reduceEqDiff, Nat.reduceLeDiff, Nat.reduceAdd, Nat.reduceSub, Nat.reduceMul, Int.reduceLT, Int.reduceLE, Int.reduceEq, Int.reduceToNat, Int.reduceAdd, Int.reduceSub, Int.reduceMul, reduceCtorEq, ↓reduceIte, gaE, implies_true, Nat.le_refl, Int.sub_zero, Nat.sub_zero, Int.le_refl, true_or, or_true]
      rw [lb_lv_take l j (by omega) hz (.inr hzero)]
      exact ⟨by omega, h2, h3⟩
  · have hj : j = 0 := by omega
    subst hj
    have hneg : ¬ (0 : Int) < ((0 : Nat) : Int) := by omega
    rw [lb_lv_take l 0 (by omega) hz (.inl rfl)]
    cases A with
    | none =>
      simp only [↓gaW, ↓gaV, ↓gaC, ↓gaN, gaP, Nat.reduceEqDiff, Nat.reduceLeDiff, Nat.reduceAdd, Nat.reduceSub, Nat.reduceMul, Int.reduceLT, Int.reduceLE, Int.reduceEq, Int.reduceToNat, Int.reduceAdd, Int.reduceSub, Int.reduceMul, reduceCtorEq, ↓reduceIte, gaE, implies_true, Nat.le_refl, Int.sub_zero, Nat.sub_zero, Int.le_refl, true_or, or_true, List.getD_cons_zero, List.getD_cons_succ, fillL, splice, List.take_zero, List.drop_zero, List.drop_succ_cons, List.take_succ_cons, List.drop_nil, List.take_nil, h0, h3, hneg, decide_false, hnil]
      repeat refine And.intro (by omega) ?_
      refine app 0 _ hk fun A' x' g' h1 h2 h3 => ?_
      simp only [↓gaW, ↓gaV, ↓gaC, ↓gaN, gaP, Nat.reduceEqDiff, Nat.reduceLeDiff, Nat.reduceAdd, Nat.reduceSub, Nat.reduceMul, Int.reduceLT, Int.reduceLE, Int.reduceEq, Int.reduceToNat, Int.reduceAdd, Int.reduceSub, Int.reduceMul, reduceCtorEq, ↓reduceIte, gaE, implies_true, Nat.le_refl, Int.sub_zero, Nat.sub_zero, Int.le_refl, true_or, or_true]
      exact ⟨by omega, h2, h3⟩
    | some a =>
      have hsp := hr.spot a rfl
      simp only [↓gaW, ↓gaV, ↓gaC, ↓gaN, gaP, Nat.reduceEqDiff, Nat.reduceLeDiff, Nat.reduceAdd, Nat.reduceSub, Nat.reduceMul, Int.reduceLT, Int.reduceLE, Int.reduceEq, Int.reduceToNat, Int.reduceAdd, Int.reduceSub, Int.reduceMul, reduceCtorEq, ↓reduceIte, gaE, implies_true, Nat.le_refl, Int.sub_zero, Nat.sub_zero, Int.le_refl, true_or, or_true, List.getD_cons_zero, List.getD_cons_succ, fillL, splice, List.take_zero, List.drop_zero, List.drop_succ_cons, List.take_succ_cons, List.drop_nil, List.take_nil, h0, h3, hneg, decide_false, hcut a 0 rfl (Nat.zero_le _)]
      repeat refine And.intro (by first | omega | (rcases hsp with h | h <;> simp [h])) ?_
      refine app 0 _ hk fun A' x' g' h1 h2 h3 => ?_
      simp only [↓gaW, ↓gaV, ↓gaC, ↓gaN, gaP, Nat.reduceEqDiff, Nat.reduceLeDiff, Nat.reduceAdd, Nat.reduceSub, Nat.reduceMul, Int.reduceLT, Int.reduceLE, Int.reduceEq, Int.reduceToNat, Int.reduceAdd, Int.reduceSub, Int.reduceMul, reduceCtorEq, ↓reduceIte, gaE, implies_true, Nat.le_refl, Int.sub_zero, Nat.sub_zero, Int.le_refl, true_or, or_true]
      exact ⟨by omega, h2, h3⟩

theorem ct_rbit {A : Option Addr} {n c k : Nat} {l : List UInt32} (hr : Row nx gt 1 A n (l.map u32V)) (hn : n < 1000000000) (hk : k < 32 * n) :
    Ct Try.prog 78 [.slice A n c, .int .i64 (k : Nat)] nx gt fun v nx' gt' => v = .int .u32 ((lv l / 2 ^ k % 2 : Nat) : Int) ∧ nx' = nx ∧ gt' = gt := by
  have hl : l.length = n := by simpa using hr.len
  refine Ct.of hmx r_lanyardref08_bit (by simp [c_lanyardref08_bit]) fun b hb => ?_
  obtain ⟨a, ce, ro, rfl, p1, p2, p3, p4⟩ := w32_cell hr hl (i := k / 32) (by omega)
  have d1 : (k : Int).tdiv 32 = ((k / 32 : Nat) : Int) := by rw [Int.tdiv_eq_ediv_of_nonneg (by omega)]; omega
  have d2 : (k : Int).tmod 32 = ((k % 32 : Nat) : Int) := by rw [Int.tmod_eq_emod_of_nonneg (by omega)]; omega
  have d3 : shrV .u32 ((((l.getD (k / 32) 0).toNat : Nat)) : Int) ((k % 32 : Nat) : Int) = (((l.getD (k / 32) 0).toNat / 2 ^ (k % 32) : Nat) : Int) := shr_nat (k := .u32) _ _ (by show _ ≤ 32; omega)
  have d4 : ((((l.getD (k / 32) 0).toNat / 2 ^ (k % 32) : Nat)) : Int).tmod 2 = ((lv l / 2 ^ k % 2 : Nat) : Int) := by
    rw [Int.tmod_eq_emod_of_nonneg (Int.natCast_nonneg _), ← word_bit]
    generalize (l.getD (k / 32) 0).toNat / 2 ^ (k % 32) = Y
    omega
  simp only [c_lanyardref08_bit, ↓gaW, ↓gaV, ↓gaC, ↓gaN, gaP, Nat.reduceEqDiff, Nat.reduceLeDiff, Nat.reduceAdd, Nat.reduceSub, Nat.reduceMul, Int.reduceLT, Int.reduceLE, Int.reduceEq, Int.reduceToNat, Int.reduceAdd, Int.reduceSub, Int.reduceMul, reduceCtorEq, ↓reduceIte, gaE, implies_true, Nat.le_refl, Int.sub_zero, Nat.sub_zero, Int.le_refl, true_or, or_true, p2, d1, d2, i64_w ((k / 32 : Nat) : Int) (by omega), Int.toNat_natCast, p4, d3, d4]
  repeat refine And.intro (by first | omega | (simp; done) | (simp; omega) | exact all1 rfl) ?_
  omega

theorem ct_rless {A B : Option Addr} {n c d : Nat} {l k : List UInt32} (hr : Row nx gt 1 A n (l.map u32V)) (hn : n < 1000000000) (hs : Row nx gt 1 B n (k.map u32V)) :
    Ct Try.prog 94 [.slice A n c, .slice B n d] nx gt fun v nx' gt' => v = .bool (decide (lv l < lv k)) ∧ nx' = nx ∧ gt' = gt := by
  have hl : l.length = n := by simpa using hr.len
  have hk : k.length = n := by simpa using hs.len
  refine Ct.of hmx r_lanyardref08_less (by simp [c_lanyardref08_less]) fun b hb => ?_
  simp only [c_lanyardref08_less, ↓gaW, ↓gaV, ↓gaC, ↓gaN, gaP, Nat.reduceEqDiff, Nat.reduceLeDiff, Nat.reduceAdd, Nat.reduceSub, Nat.reduceMul, Int.reduceLT, Int.reduceLE, Int.reduceEq, Int.reduceToNat, Int.reduceAdd, Int.reduceSub, Int.reduceMul, reduceCtorEq, ↓reduceIte, i64_w ((n : Int) - 1) (by omega)]
  refine loop_of (fun j f mm => ∃ (i : Nat), j = i ∧ i ≤ n ∧ f 0 = .slice A n c ∧ f 1 = .slice B n d ∧ f 5 = .int .i64 ((i : Nat) - 1) ∧ mm = ⟨nx, b, gt⟩ ∧ lv l / 4294967296 ^ i = lv k / 4294967296 ^ i) n ⟨n, rfl, Nat.le_refl _, rfl, rfl, rfl, rfl, ?_⟩ ?_
  · have h1 : lv l < 4294967296 ^ n := lv_lt' (Nat.le_of_eq hl)
    have h2 : lv k < 4294967296 ^ n := lv_lt' (Nat.le_of_eq hk)
    rw [Nat.div_eq_of_lt h1, Nat.div_eq_of_lt h2]
  · rintro j f m ⟨i, rfl, hi, h0, h1, h5, rfl, he⟩
    by_cases hpos : (0 : Int) ≤ (j : Int) - 1
    · obtain ⟨i, rfl⟩ : ∃ i, j = i + 1 := ⟨j - 1, by omega⟩
      have e1 : (((i + 1 : Nat) : Int) - 1) = (i : Int) := by omega
      rw [e1] at h5 hpos
      obtain ⟨a, ce, ro, rfl, p1, p2, p3, p4⟩ := w32_cell hr hl (i := i) (by omega)
      obtain ⟨a', ce', ro', rfl, q1, q2, q3, q4⟩ := w32_cell hs hk (i := i) (by omega)
      rw [lv_get] at p4 q4
      simp only [↓gaW, ↓gaV, ↓gaC, ↓gaN, gaP, Nat.reduceEqDiff, Nat.reduceLeDiff, Nat.reduceAdd, Nat.reduceSub, Nat.reduceMul, Int.reduceLT, Int.reduceLE, Int.reduceEq, Int.reduceToNat, Int.reduceAdd, Int.reduceSub, Int.reduceMul, reduceCtorEq, ↓reduceIte, h0, h1, h5, hpos, decide_true, p2, p4, q2, q4]
      repeat refine And.intro (by first | omega | (simp; done) | (simp; omega) | exact all1 rfl) ?_
      by_cases hne : ((lv l / 4294967296 ^ i % 4294967296 : Nat) : Int) = ((lv k / 4294967296 ^ i % 4294967296 : Nat) : Int)
      · simp only [↓gaW, ↓gaV, ↓gaC, ↓gaN, gaP, Nat.reduceEqDiff, Nat.reduceLeDiff, Nat.reduceAdd, Nat.reduceSub, Nat.reduceMul, Int.reduceLT, Int.reduceLE, Int.reduceEq, Int.reduceToNat, Int.reduceAdd, Int.reduceSub, Int.reduceMul, reduceCtorEq, ↓reduceIte, hne, decide_true, decide_false, Bool.not_true, h5, i64_w ((i : Int) - 1) (by omega), loopK_n]
        exact ⟨i, by omega, i, rfl, by omega, h0, h1, rfl, (cmp_digit he).2 (by omega)⟩
      · simp only [↓gaW, ↓gaV, ↓gaC, ↓gaN, gaP, Nat.reduceEqDiff, Nat.reduceLeDiff, Nat.reduceAdd, Nat.reduceSub, Nat.reduceMul, Int.reduceLT, Int.reduceLE, Int.reduceEq, Int.reduceToNat, Int.reduceAdd, Int.reduceSub, Int.reduceMul, reduceCtorEq, ↓reduceIte, gaE, implies_true, Nat.le_refl, Int.sub_zero, Nat.sub_zero, Int.le_refl, true_or, or_true, hne, decide_true, decide_false, Bool.not_false, h0, h1, h5, p2, p4, q2, q4, loopK_r]
        repeat refine And.intro (by first | omega | (simp; done) | (simp; omega) | exact all1 rfl) ?_
        rcases Nat.lt_or_gt_of_ne (show lv l / 4294967296 ^ i % 4294967296 ≠ lv k / 4294967296 ^ i % 4294967296 by omega) with h | h
        · have h2 := (cmp_digit he).1 h
          rw [decide_eq_true h2, decide_eq_true (by omega)]
        · have h2 := (cmp_digit he.symm).1 h
          rw [decide_eq_false (by omega), decide_eq_false (by omega)]
    · have hj : j = 0 := by omega
      subst hj
      simp only [↓gaW, ↓gaV, ↓gaC, ↓gaN, gaP, Nat.reduceEqDiff, Nat.reduceLeDiff, Nat.reduceAdd, Nat.reduceSub, Nat.reduceMul, Int.reduceLT, Int.reduceLE, Int.reduceEq, Int.reduceToNat, Int.reduceAdd, Int.reduceSub, Int.reduceMul, reduceCtorEq, ↓reduceIte, gaE, implies_true, Nat.le_refl, Int.sub_zero, Nat.sub_zero, Int.le_refl, true_or, or_true, h5, hpos, decide_false, loopK_e]
      have he' : lv l = lv k := by simpa using he
      repeat refine And.intro (by first | omega | (simp; done) | (simp; omega) | exact all1 rfl) ?_
      simp [he']
end
end Go.Ga
