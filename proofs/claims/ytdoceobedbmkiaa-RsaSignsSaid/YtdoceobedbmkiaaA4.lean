/- Words and contracts of functions for the statement's proof. No condition. -/
import Derived.Test.YtdoceobedbmkiaaA3
import Derived.Test.YtdoceobedbmkiaaProg
import Derived.KernelRfl
set_option linter.all false

namespace Go.Ga
open Go Go.Proofs
set_option linter.unusedSimpArgs false
set_option linter.unusedVariables false
set_option maxRecDepth 100000
attribute [local irreducible] appendK endK endW sch comp rs

theorem padS_len (l : List UInt8) : (padS l).length = l.length + 9 + zs l.length := by simp [padS, be8]; omega
theorem padS_mod (l : List UInt8) : (padS l).length % 64 = 0 := by
  rw [padS_len, zs]; omega

section
variable {nx : Nat} {gt : Nat → Option Blk}

theorem ct_filled {A : Option Addr} {n c : Nat} {l : List UInt8} (hA : Row nx gt 1 A n (l.map u8V)) (hc : n ≤ c) (hn : n < 10000000000) :
    Ct Try.prog 37 [.slice A n c] nx gt fun v nx' gt' => ∃ A', v = .slice A' (padS l).length (padS l).length ∧ Row nx' gt' 1 A' (padS l).length ((padS l).map u8V) := by
  have hl : l.length = n := by simpa using hA.len
  refine Ct.of hmx r_lanyardref06_filled (by simp [c_lanyardref06_filled]) fun b hb => ?_
  have hA0 : Row (nx + 1) (upd gt nx (some (.cells [] false))) 1 A n (l.map u8V) := hA.keep (by omega) (fun p hp => by simp only [upd_e]; rw [if_neg (by omega)])
  have hrow : ∀ b, rowOf ⟨nx + 1, b, upd gt nx (some (.cells [] false))⟩ A n = some (l.map u8V) := fun b => hA0.rowOf
  have hnil : ∀ v ∈ ([] : List Value), cellVal v = true := by simp
  simp only [c_lanyardref06_filled, ↓gaW, ↓gaV, ↓gaC, ↓gaN, gaP, Nat.reduceEqDiff, Nat.reduceLeDiff, Nat.reduceAdd, Nat.reduceSub, Nat.reduceMul, Int.reduceLT, Int.reduceLE, Int.reduceEq, Int.reduceToNat, Int.reduceAdd, Int.reduceSub, Int.reduceMul, reduceCtorEq, ↓reduceIte, List.getD_cons_zero, List.getD_cons_succ, fillL, splice, List.take_zero, List.drop_zero, List.drop_succ_cons, List.take_succ_cons, List.drop_nil, List.take_nil, hrow]
  refine grow_app (nx := nx) (l := []) (Grow.lit (q := nx) (l := []) (ro := false) (by omega) (by simp only [upd_e, if_true]) rfl) (by omega) (by omega) (by omega) (by simp [hl]) (all_u8 _) (by omega) (by omega) fun A1 x1 g1 l1 k1 hgr1 => ?_
  have F1 : ∀ p, p < nx → g1 p = gt p := fun p hp => by rw [k1 p hp]; simp only [upd_e]; rw [if_neg (by omega)]
  rw [List.nil_append, Nat.zero_add] at hgr1
  simp only [↓gaW, ↓gaV, ↓gaC, ↓gaN, gaP, Nat.reduceEqDiff, Nat.reduceLeDiff, Nat.reduceAdd, Nat.reduceSub, Nat.reduceMul, Int.reduceLT, Int.reduceLE, Int.reduceEq, Int.reduceToNat, Int.reduceAdd, Int.reduceSub, Int.reduceMul, reduceCtorEq, ↓reduceIte, List.getD_cons_zero, List.getD_cons_succ, fillL, splice, List.take_zero, List.drop_zero, List.drop_succ_cons, List.take_succ_cons, List.drop_nil, List.take_nil, Nat.zero_add]
  have hrow1 : ∀ b, rowOf ⟨x1 + 1, b, upd g1 x1 (some (.cells [.int .u8 128] false))⟩ (some ⟨x1, 0, none⟩) 1 = some [u8V 128] := fun b => by simp [rowOf, upd]; rfl
  simp only [hrow1, asO_e]
  refine grow_append (nx := nx) (k := 1) (hgr1.keep (Nat.le_succ _) (fun p hp => by simp only [upd_e]; rw [if_neg (by omega)])) (by omega) (by omega) (by omega) (by omega) rfl (all1 rfl) (by omega) (by omega) fun g2 k2 ho2 => ?_
  have F2 : ∀ p, p < nx → g2 p = gt p := fun p hp => by rw [k2 p hp]; simp only [upd_e]; rw [if_neg (by omega), F1 p hp]
  have ho2 : Grow nx b (x1 + 1 + 1) g2 1 (some ⟨x1 + 1, 0, some 1⟩) (n + 1) ((l ++ 128 :: List.replicate 0 0).map u8V) := .inl (by simpa using ho2)
  have hz : zs l.length = (119 - l.length % 64) % 64 := rfl
  have hq8 : (n : Int) * 8 = ((n * 8 : Nat) : Int) := by omega
  refine bloop_of (fun f m => ∃ (x : Nat) (g : Nat → Option Blk) (A' : Option Addr), f 0 = .slice A n c ∧ f 3 = .slice A' (n + 1 + zs n) (n + 1 + zs n) ∧ m = ⟨x, b, g⟩ ∧ nx ≤ x ∧ (∀ p, p < nx → g p = gt p) ∧ Grow nx b x g 1 A' (n + 1 + zs n) ((l ++ 128 :: List.replicate (zs n) 0).map u8V)) (fun _ _ => False)
    (fun j f m => ∃ (t x : Nat) (g : Nat → Option Blk) (A' : Option Addr), j = zs n - t ∧ t ≤ zs n ∧ f 0 = .slice A n c ∧ f 3 = .slice A' (n + 1 + t) (n + 1 + t) ∧ m = ⟨x, b, g⟩ ∧ nx ≤ x ∧ (∀ p, p < nx → g p = gt p) ∧ Grow nx b x g 1 A' (n + 1 + t) ((l ++ 128 :: List.replicate t 0).map u8V)) (zs n)
    ⟨0, x1 + 1 + 1, g2, some ⟨x1 + 1, 0, some 1⟩, by omega, by omega, by simp only [↓gaW, ↓gaV, ↓gaC, ↓gaN, gaP, Nat.reduceEqDiff, Nat.reduceLeDiff, Nat.reduceAdd, Nat.reduceSub, Nat.reduceMul, Int.reduceLT, Int.reduceLE, Int.reduceEq, Int.reduceToNat, Int.reduceAdd, Int.reduceSub, Int.reduceMul, reduceCtorEq, ↓reduceIte], by simp only [↓gaW, ↓gaV, ↓gaC, ↓gaN, gaP, Nat.reduceEqDiff, Nat.reduceLeDiff, Nat.reduceAdd, Nat.reduceSub, Nat.reduceMul, Int.reduceLT, Int.reduceLE, Int.reduceEq, Int.reduceToNat, Int.reduceAdd, Int.reduceSub, Int.reduceMul, reduceCtorEq, ↓reduceIte], rfl, by omega, F2, ho2⟩ ?_ ?_ (fun _ _ h => h.elim)
  · intro SS hJ _ j f m
    rintro ⟨t, x, g, A', rfl, ht, f0, f3, rfl, hx, hF, hgr⟩
    rw [hl] at hz
    have e1 : (((n + 1 + t : Nat) : Int)).tmod 64 = (((n + 1 + t) % 64 : Nat) : Int) := by rw [Int.tmod_eq_emod_of_nonneg (by omega)]; omega
    by_cases h56 : (((n + 1 + t) % 64 : Nat) : Int) = 56
    · have : t = zs n := by omega
      subst this
      simp only [↓gaW, ↓gaV, ↓gaC, ↓gaN, gaP, Nat.reduceEqDiff, Nat.reduceLeDiff, Nat.reduceAdd, Nat.reduceSub, Nat.reduceMul, Int.reduceLT, Int.reduceLE, Int.reduceEq, Int.reduceToNat, Int.reduceAdd, Int.reduceSub, Int.reduceMul, reduceCtorEq, ↓reduceIte, f3, e1, h56, decide_true, Bool.not_true]
      repeat refine And.intro (by first | omega | (simp; done) | (simp; omega) | exact all1 rfl) ?_
      exact hJ _ _ ⟨x, g, A', by simp only [↓gaW, ↓gaV, ↓gaC, ↓gaN, gaP, Nat.reduceEqDiff, Nat.reduceLeDiff, Nat.reduceAdd, Nat.reduceSub, Nat.reduceMul, Int.reduceLT, Int.reduceLE, Int.reduceEq, Int.reduceToNat, Int.reduceAdd, Int.reduceSub, Int.reduceMul, reduceCtorEq, ↓reduceIte, f0], by simp only [↓gaW, ↓gaV, ↓gaC, ↓gaN, gaP, Nat.reduceEqDiff, Nat.reduceLeDiff, Nat.reduceAdd, Nat.reduceSub, Nat.reduceMul, Int.reduceLT, Int.reduceLE, Int.reduceEq, Int.reduceToNat, Int.reduceAdd, Int.reduceSub, Int.reduceMul, reduceCtorEq, ↓reduceIte, f3], rfl, hx, hF, hgr⟩
    · have hrow2 : ∀ b, rowOf ⟨x + 1, b, upd g x (some (.cells [.int .u8 0] false))⟩ (some ⟨x, 0, none⟩) 1 = some [u8V 0] := fun b => by simp [rowOf, upd]; rfl
      simp only [↓gaW, ↓gaV, ↓gaC, ↓gaN, gaP, Nat.reduceEqDiff, Nat.reduceLeDiff, Nat.reduceAdd, Nat.reduceSub, Nat.reduceMul, Int.reduceLT, Int.reduceLE, Int.reduceEq, Int.reduceToNat, Int.reduceAdd, Int.reduceSub, Int.reduceMul, reduceCtorEq, ↓reduceIte, List.getD_cons_zero, List.getD_cons_succ, fillL, splice, List.take_zero, List.drop_zero, List.drop_succ_cons, List.take_succ_cons, List.drop_nil, List.take_nil, f3, e1, h56, decide_false, Bool.not_false, Nat.zero_add]
      repeat refine And.intro (by first | omega | (simp; done) | (simp; omega) | exact all1 rfl) ?_
      simp only [hrow2, asO_e]
      refine grow_append (nx := nx) (k := 1) (hgr.keep (Nat.le_succ _) (fun p hp => by simp only [upd_e]; rw [if_neg (by omega)])) (by omega) (by omega) (by omega) (by omega) rfl (all1 rfl) (by omega) (by omega) fun g3 k3 ho3 => ?_
      simp only [↓gaW, ↓gaV, ↓gaC, ↓gaN, gaP, Nat.reduceEqDiff, Nat.reduceLeDiff, Nat.reduceAdd, Nat.reduceSub, Nat.reduceMul, Int.reduceLT, Int.reduceLE, Int.reduceEq, Int.reduceToNat, Int.reduceAdd, Int.reduceSub, Int.reduceMul, reduceCtorEq, ↓reduceIte, loopK_n]
      refine ⟨zs n - (t + 1), by omega, t + 1, x + 1 + 1, g3, some ⟨x + 1, 0, some 1⟩, rfl, by omega, f0, rfl, rfl, by omega, fun p hp => by rw [k3 p hp]; simp only [upd_e]; rw [if_neg (by omega), hF p hp], .inl ?_⟩
      have e2 : (l ++ 128 :: List.replicate (t + 1) (0 : UInt8)).map u8V = (l ++ 128 :: List.replicate t 0).map u8V ++ [u8V 0] := by
        rw [List.replicate_succ']; simp
      rw [e2]
      exact ho3
  · rintro f m ⟨x, g, A', f0, f3, rfl, hx, hF, hgr⟩
    have hzn : zs n < 64 := Nat.mod_lt _ (by decide)
    simp only [↓gaW, ↓gaV, ↓gaC, ↓gaN, gaP, Nat.reduceEqDiff, Nat.reduceLeDiff, Nat.reduceAdd, Nat.reduceSub, Nat.reduceMul, Int.reduceLT, Int.reduceLE, Int.reduceEq, Int.reduceToNat, Int.reduceAdd, Int.reduceSub, Int.reduceMul, reduceCtorEq, ↓reduceIte, f0, u64_i (n : Int) (by omega), hq8, u64_i ((n * 8 : Nat) : Int) (by omega)]
    refine callK_of (ct_rBytes (n := n * 8) (many := 8) (by omega) (by omega)) (fun v x3 g3 l3 k3 hC => ?_) (by omega)
    obtain ⟨sl, rfl, hby⟩ := hC
    have hok : byOk (n * 8) 8 = true := by
      simp only [byOk]
      have : n * 8 < 256 ^ (8 : Int).toNat := by show _ < 256 ^ 8; omega
      simp [this]
      omega
    rw [hok] at hby ⊢
    obtain ⟨A8, n8, c8, rfl, hc8, hl8, hr8⟩ := hby
    have hn8 : n8 = 8 := by rw [← hl8]; simp [be]
    subst hn8
    have hrow8 : ∀ b, rowOf ⟨x3, b, g3⟩ A8 8 = some _ := fun b => hr8.rowOf
    simp only [↓gaW, ↓gaV, ↓gaC, ↓gaN, gaP, Nat.reduceEqDiff, Nat.reduceLeDiff, Nat.reduceAdd, Nat.reduceSub, Nat.reduceMul, Int.reduceLT, Int.reduceLE, Int.reduceEq, Int.reduceToNat, Int.reduceAdd, Int.reduceSub, Int.reduceMul, reduceCtorEq, ↓reduceIte, f3, hrow8]
    repeat refine And.intro (by first | omega | (simp; done) | (simp; omega) | exact all1 rfl) ?_
    refine grow_append (nx := nx) (k := 8) (hgr.keep l3 k3) (by omega) (by omega) (by omega) (by omega) (by simp [be]) (all_u8 _) (by omega) (by omega) fun g4 k4 ho4 => ?_
    have hpad : (l ++ 128 :: List.replicate (zs n) (0 : UInt8)).map u8V ++ (be 8 (n * 8)).map u8V = (padS l).map u8V := by
      rw [padS, hl, Nat.mod_eq_of_lt (by omega)]
      simp
      rfl
    have hlen : n + 1 + zs n + 8 = (padS l).length := by rw [padS_len, hl]; omega
    rw [hpad, hlen] at ho4
    rw [hlen]
    simp only [↓gaW, ↓gaV, ↓gaC, ↓gaN, gaP, Nat.reduceEqDiff, Nat.reduceLeDiff, Nat.reduceAdd, Nat.reduceSub, Nat.reduceMul, Int.reduceLT, Int.reduceLE, Int.reduceEq, Int.reduceToNat, Int.reduceAdd, Int.reduceSub, Int.reduceMul, reduceCtorEq, ↓reduceIte, gaE, implies_true, Nat.le_refl, Int.sub_zero, Nat.sub_zero, Int.le_refl, true_or, or_true]
    exact ⟨by omega, fun q hq => by rw [k4 q hq, k3 q (by omega), hF q hq], _, rfl, by simpa using ho4.row⟩

theorem ct_rOf {A : Option Addr} {n c : Nat} {l : List UInt8} (hA : Row nx gt 1 A n (l.map u8V)) (hc : n ≤ c) (hn : n < 10000000000) :
    Ct Try.prog 17 [.slice A n c] nx gt fun v _ _ => v = .agg ((sha l).map u8V).toArray := by
  have hl : l.length = n := by simpa using hA.len
  refine Ct.of hmx r_lanyardref06_Of (by simp [c_lanyardref06_Of]) fun b hb => ?_
  have kA : ∀ {v1 v2 : Blk}, ∀ p, p < nx → upd (upd gt nx (some v1)) (nx + 1) (some v2) p = gt p := fun p hp => by simp only [upd_e]; rw [if_neg (by omega), if_neg (by omega)]
  simp only [c_lanyardref06_Of, ↓gaW, ↓gaV, ↓gaC, ↓gaN, gaP, Nat.reduceEqDiff, Nat.reduceLeDiff, Nat.reduceAdd, Nat.reduceSub, Nat.reduceMul, Int.reduceLT, Int.reduceLE, Int.reduceEq, Int.reduceToNat, Int.reduceAdd, Int.reduceSub, Int.reduceMul, reduceCtorEq, ↓reduceIte, List.getD_cons_zero, List.getD_cons_succ, fillL, splice, List.take_zero, List.drop_zero, List.drop_succ_cons, List.take_succ_cons, List.drop_nil, List.take_nil]
  refine callK_of (ct_filled (hA.keep (by omega) kA) hc hn) (fun v x1 g1 l1 k1 hC => ?_) (by omega)
  obtain ⟨A', rfl, hF1⟩ := hC
  have F1 : ∀ p, p < nx → g1 p = gt p := fun p hp => by rw [k1 p (by omega)]; exact kA p hp
  have O1 : g1 nx = some (.cells ((List.replicate 32 (0 : UInt8)).map u8V) false) := by rw [k1 nx (by omega)]; simp only [upd_e]; rw [if_neg (by omega), if_true]; rfl
  have S1 : g1 (nx + 1) = some (.cells (ivs.map u32V) false) := by rw [k1 (nx + 1) (by omega)]; simp only [upd_e, if_true]; rfl
  obtain ⟨pd, hpd⟩ : ∃ pd, padS l = pd := ⟨_, rfl⟩
  have hsha : sha l = outS (goB (pd.length / 64) ivs pd) := by rw [sha, hpd]
  have hmod := padS_mod l
  have hplen := padS_len l
  have hzn : zs l.length < 64 := Nat.mod_lt _ (by decide)
  rw [hpd] at hF1 hmod hplen ⊢
  rw [hsha]
  obtain ⟨T, hT⟩ : ∃ T, pd.length / 64 = T := ⟨_, rfl⟩
  have hpT : pd.length = 64 * T := by omega
  rw [hT]
  rw [hpT] at hF1
  simp only [↓gaW, ↓gaV, ↓gaC, ↓gaN, gaP, Nat.reduceEqDiff, Nat.reduceLeDiff, Nat.reduceAdd, Nat.reduceSub, Nat.reduceMul, Int.reduceLT, Int.reduceLE, Int.reduceEq, Int.reduceToNat, Int.reduceAdd, Int.reduceSub, Int.reduceMul, reduceCtorEq, ↓reduceIte, hpT]
  refine bloop_of (fun f m => ∃ (x p : Nat) (g : Nat → Option Blk), f 2 = .pointer (some ⟨nx, 0, none⟩) ∧ f 3 = .slice (some ⟨p, 0, none⟩) 8 8 ∧ m = ⟨x, b, g⟩ ∧ nx + 2 ≤ x ∧ (∀ p, p < nx → g p = gt p) ∧ g nx = some (.cells ((List.replicate 32 (0 : UInt8)).map u8V) false) ∧ nx < p ∧ p < x ∧ g p = some (.cells ((goB T ivs pd).map u32V) false)) (fun _ _ => False)
    (fun j f m => ∃ (t x p : Nat) (g : Nat → Option Blk), j = T - t ∧ t ≤ T ∧ f 2 = .pointer (some ⟨nx, 0, none⟩) ∧ f 3 = .slice (some ⟨p, 0, none⟩) 8 8 ∧ f 4 = .slice A' (64 * T) (64 * T) ∧ f 5 = .int .i64 ((64 * t : Nat) : Int) ∧ m = ⟨x, b, g⟩ ∧ nx + 2 ≤ x ∧ (∀ p, p < nx → g p = gt p) ∧ g nx = some (.cells ((List.replicate 32 (0 : UInt8)).map u8V) false) ∧ nx < p ∧ p < x ∧ g p = some (.cells ((goB t ivs pd).map u32V) false) ∧ Row x g 1 A' (64 * T) (pd.map u8V)) T
    ⟨0, x1, nx + 1, g1, by omega, by omega, by simp only [↓gaW, ↓gaV, ↓gaC, ↓gaN, gaP, Nat.reduceEqDiff, Nat.reduceLeDiff, Nat.reduceAdd, Nat.reduceSub, Nat.reduceMul, Int.reduceLT, Int.reduceLE, Int.reduceEq, Int.reduceToNat, Int.reduceAdd, Int.reduceSub, Int.reduceMul, reduceCtorEq, ↓reduceIte], by simp only [↓gaW, ↓gaV, ↓gaC, ↓gaN, gaP, Nat.reduceEqDiff, Nat.reduceLeDiff, Nat.reduceAdd, Nat.reduceSub, Nat.reduceMul, Int.reduceLT, Int.reduceLE, Int.reduceEq, Int.reduceToNat, Int.reduceAdd, Int.reduceSub, Int.reduceMul, reduceCtorEq, ↓reduceIte], by simp only [↓gaW, ↓gaV, ↓gaC, ↓gaN, gaP, Nat.reduceEqDiff, Nat.reduceLeDiff, Nat.reduceAdd, Nat.reduceSub, Nat.reduceMul, Int.reduceLT, Int.reduceLE, Int.reduceEq, Int.reduceToNat, Int.reduceAdd, Int.reduceSub, Int.reduceMul, reduceCtorEq, ↓reduceIte], by simp only [↓gaW, ↓gaV, ↓gaC, ↓gaN, gaP, Nat.reduceEqDiff, Nat.reduceLeDiff, Nat.reduceAdd, Nat.reduceSub, Nat.reduceMul, Int.reduceLT, Int.reduceLE, Int.reduceEq, Int.reduceToNat, Int.reduceAdd, Int.reduceSub, Int.reduceMul, reduceCtorEq, ↓reduceIte], rfl, l1, F1, O1, by omega, by omega, S1, hF1⟩ ?_ ?_ (fun _ _ h => h.elim)
  · intro SS hJ _ j f m
    rintro ⟨t, x, p, g, rfl, ht, f2, f3, f4, f5, rfl, hx, hF, hO, p0, p1, p2, hP⟩
    by_cases hlt : ((64 * t : Nat) : Int) < ((64 * T : Nat) : Int)
    · obtain ⟨a, ce, ro, rfl, a1, a2, a3, a4⟩ := hP.cells (by omega)
      have hsp := hP.spot a rfl
      have hpart := hP.part (lo := 64 * t) (hi := 64 * t + 64) (by omega) (by omega) rfl
      rw [show 64 * t + 64 - 64 * t = 64 by omega, ← List.map_drop, ← List.map_take] at hpart
      have e1 : ((64 * t : Nat) : Int) + 64 = ((64 * t + 64 : Nat) : Int) := by omega
      have e2 : (((64 * t + 64 : Nat) : Int) - ((64 * t : Nat) : Int)).toNat = 64 := by omega
      have e3 : ((64 * T : Nat) : Int) - ((64 * t : Nat) : Int) = ((64 * T - 64 * t : Nat) : Int) := by omega
      have hgl : (goB t ivs pd).length = 8 := goB_len rfl _ _
      have hS : Row x g 1 (some ⟨p, 0, none⟩) 8 ((goB t ivs pd).map u32V) := ⟨fun a ha => by injection ha with ha; subst ha; exact .inl rfl, by simp [hgl], fun _ => ⟨_, _, false, rfl, p1, p2, by simp [hgl], fun i hi => by simp⟩⟩
      simp only [↓gaW, ↓gaV, ↓gaC, ↓gaN, gaP, Nat.reduceEqDiff, Nat.reduceLeDiff, Nat.reduceAdd, Nat.reduceSub, Nat.reduceMul, Int.reduceLT, Int.reduceLE, Int.reduceEq, Int.reduceToNat, Int.reduceAdd, Int.reduceSub, Int.reduceMul, reduceCtorEq, ↓reduceIte, f3, f4, f5, hlt, decide_true, e1, i64_w ((64 * t + 64 : Nat) : Int) (by omega), e2, e3, Int.toNat_natCast, Nat.mul_one]
      repeat refine And.intro (by first | omega | (rcases hsp with h | h <;> simp [h]; done)) ?_
      refine callK_of (ct_through hS (by omega) hpart (by omega)) (fun v x2 g2 l2 k2 hC => ?_) (by omega)
      obtain ⟨p', rfl, h1, h2, h3⟩ := hC
      simp only [↓gaW, ↓gaV, ↓gaC, ↓gaN, gaP, Nat.reduceEqDiff, Nat.reduceLeDiff, Nat.reduceAdd, Nat.reduceSub, Nat.reduceMul, Int.reduceLT, Int.reduceLE, Int.reduceEq, Int.reduceToNat, Int.reduceAdd, Int.reduceSub, Int.reduceMul, reduceCtorEq, ↓reduceIte, f5, e1, i64_w ((64 * t + 64 : Nat) : Int) (by omega), loopK_n]
      refine ⟨T - (t + 1), by omega, t + 1, x2, p', g2, rfl, by omega, f2, rfl, f4, by rw [show 64 * (t + 1) = 64 * t + 64 by omega], rfl, by omega, fun q hq => by rw [k2 q (by omega), hF q hq], by rw [k2 nx (by omega), hO], by omega, h2, by rw [h3, goB_succ], hP.keep l2 k2⟩
    · have hT : t = T := by omega
      subst hT
      simp only [↓gaW, ↓gaV, ↓gaC, ↓gaN, gaP, Nat.reduceEqDiff, Nat.reduceLeDiff, Nat.reduceAdd, Nat.reduceSub, Nat.reduceMul, Int.reduceLT, Int.reduceLE, Int.reduceEq, Int.reduceToNat, Int.reduceAdd, Int.reduceSub, Int.reduceMul, reduceCtorEq, ↓reduceIte, f4, f5, hlt, decide_false, loopK_e]
      exact hJ _ _ ⟨x, p, g, by simp only [↓gaW, ↓gaV, ↓gaC, ↓gaN, gaP, Nat.reduceEqDiff, Nat.reduceLeDiff, Nat.reduceAdd, Nat.reduceSub, Nat.reduceMul, Int.reduceLT, Int.reduceLE, Int.reduceEq, Int.reduceToNat, Int.reduceAdd, Int.reduceSub, Int.reduceMul, reduceCtorEq, ↓reduceIte, f2], by simp only [↓gaW, ↓gaV, ↓gaC, ↓gaN, gaP, Nat.reduceEqDiff, Nat.reduceLeDiff, Nat.reduceAdd, Nat.reduceSub, Nat.reduceMul, Int.reduceLT, Int.reduceLE, Int.reduceEq, Int.reduceToNat, Int.reduceAdd, Int.reduceSub, Int.reduceMul, reduceCtorEq, ↓reduceIte, f3], rfl, hx, hF, hO, p0, p1, p2⟩
  · rintro f m ⟨x, p, g, f2, f3, rfl, hx, hF, hO, p0, p1, p2⟩
    obtain ⟨W2, hW2⟩ : ∃ W, goB T ivs pd = W := ⟨_, rfl⟩
    have hwl : W2.length = 8 := by rw [← hW2]; exact goB_len rfl _ _
    rw [hW2] at p2 ⊢
    simp only [↓gaW, ↓gaV, ↓gaC, ↓gaN, gaP, Nat.reduceEqDiff, Nat.reduceLeDiff, Nat.reduceAdd, Nat.reduceSub, Nat.reduceMul, Int.reduceLT, Int.reduceLE, Int.reduceEq, Int.reduceToNat, Int.reduceAdd, Int.reduceSub, Int.reduceMul, reduceCtorEq, ↓reduceIte]
    refine loop_of (fun j f m => ∃ (t : Nat) (g : Nat → Option Blk), j = 32 - t ∧ t ≤ 32 ∧ f 2 = .pointer (some ⟨nx, 0, none⟩) ∧ f 3 = .slice (some ⟨p, 0, none⟩) 8 8 ∧ f 6 = .pointer (some ⟨x, 0, none⟩) ∧ f 7 = .int .i64 (t : Nat) ∧ m = ⟨x + 1, b, g⟩ ∧ (∀ p, p < nx → g p = gt p) ∧ g nx = some (.cells ((List.replicate 32 (0 : UInt8)).map u8V) false) ∧ g p = some (.cells (W2.map u32V) false) ∧ g x = some (.cells (((outS W2).take t ++ List.replicate (32 - t) 0).map u8V) false)) 32
      ⟨0, _, by omega, by omega, by simp only [↓gaW, ↓gaV, ↓gaC, ↓gaN, gaP, Nat.reduceEqDiff, Nat.reduceLeDiff, Nat.reduceAdd, Nat.reduceSub, Nat.reduceMul, Int.reduceLT, Int.reduceLE, Int.reduceEq, Int.reduceToNat, Int.reduceAdd, Int.reduceSub, Int.reduceMul, reduceCtorEq, ↓reduceIte, f2], by simp only [↓gaW, ↓gaV, ↓gaC, ↓gaN, gaP, Nat.reduceEqDiff, Nat.reduceLeDiff, Nat.reduceAdd, Nat.reduceSub, Nat.reduceMul, Int.reduceLT, Int.reduceLE, Int.reduceEq, Int.reduceToNat, Int.reduceAdd, Int.reduceSub, Int.reduceMul, reduceCtorEq, ↓reduceIte, f3], by simp only [↓gaW, ↓gaV, ↓gaC, ↓gaN, gaP, Nat.reduceEqDiff, Nat.reduceLeDiff, Nat.reduceAdd, Nat.reduceSub, Nat.reduceMul, Int.reduceLT, Int.reduceLE, Int.reduceEq, Int.reduceToNat, Int.reduceAdd, Int.reduceSub, Int.reduceMul, reduceCtorEq, ↓reduceIte], by simp only [↓gaW, ↓gaV, ↓gaC, ↓gaN, gaP, Nat.reduceEqDiff, Nat.reduceLeDiff, Nat.reduceAdd, Nat.reduceSub, Nat.reduceMul, Int.reduceLT, Int.reduceLE, Int.reduceEq, Int.reduceToNat, Int.reduceAdd, Int.reduceSub, Int.reduceMul, reduceCtorEq, ↓reduceIte], rfl, fun q hq => by simp only [upd_e]; rw [if_neg (by omega), hF q hq], by simp only [upd_e]; rw [if_neg (by omega), hO], by simp only [upd_e]; rw [if_neg (by omega), p2], by simp only [upd_e, if_true]; rfl⟩ ?_
    rintro j f m ⟨t, g, rfl, ht, f2, f3, f6, f7, rfl, hF, hO, hgH, hgx⟩
    have hol := outS_len W2
    by_cases hlt : (t : Int) < 32
    · have ht32 : t < 32 := by omega
      have hst := fill8_step (l := outS W2) (n := 32) hol ht32
      rw [outS_get ht32] at hst
      have d1 : (t : Int).tdiv 4 = ((t / 4 : Nat) : Int) := by rw [Int.tdiv_eq_ediv_of_nonneg (by omega)]; omega
      have d2 : (t : Int).tmod 4 = ((t % 4 : Nat) : Int) := by rw [Int.tmod_eq_emod_of_nonneg (by omega)]; omega
      have d3 : (8 : Int) * ((t % 4 : Nat) : Int) = ((8 * (t % 4) : Nat) : Int) := by omega
      have d4 : (24 : Int) - ((8 * (t % 4) : Nat) : Int) = ((24 - 8 * (t % 4) : Nat) : Int) := by omega
      have d5 : shrV .u32 ((((W2.getD (t / 4) 0).toNat : Nat)) : Int) ((24 - 8 * (t % 4) : Nat) : Int) = (((W2.getD (t / 4) 0).toNat / 2 ^ (24 - 8 * (t % 4)) : Nat) : Int) := shr_nat (k := .u32) _ _ (by show _ ≤ 32; omega)
      have hcw := getD_u32 (l := W2) (i := t / 4) (by omega)
      have q1 : (t : Int) + 1 = ((t + 1 : Nat) : Int) := by omega
      have hu : ∀ n : Nat, Value.int .u8 (IntKind.u8.wrap (n : Int)) = u8V (UInt8.ofNat n) := fun n => by rw [u8_of]; rfl
      have hcl : ∀ v : UInt8, cellsV (u8V v) = some [u8V v] := fun _ => rfl
      simp only [↓gaW, ↓gaV, ↓gaC, ↓gaN, gaP, Nat.reduceEqDiff, Nat.reduceLeDiff, Nat.reduceAdd, Nat.reduceSub, Nat.reduceMul, Int.reduceLT, Int.reduceLE, Int.reduceEq, Int.reduceToNat, Int.reduceAdd, Int.reduceSub, Int.reduceMul, reduceCtorEq, ↓reduceIte, f3, f6, f7, hlt, decide_true, hgH, hgx, d1, d2, d3, d4, d5, i64_w ((t / 4 : Nat) : Int) (by omega), i64_w ((8 * (t % 4) : Nat) : Int) (by omega), i64_w ((24 - 8 * (t % 4) : Nat) : Int) (by omega), Int.toNat_natCast, Nat.mul_one, Nat.zero_add, hcw, hu, hcl, hst]
      repeat refine And.intro (by first | omega | (simp [hol]; omega) | (simp [hwl]; omega) | exact all1 rfl) ?_
      simp only [↓gaW, ↓gaV, ↓gaC, ↓gaN, gaP, Nat.reduceEqDiff, Nat.reduceLeDiff, Nat.reduceAdd, Nat.reduceSub, Nat.reduceMul, Int.reduceLT, Int.reduceLE, Int.reduceEq, Int.reduceToNat, Int.reduceAdd, Int.reduceSub, Int.reduceMul, reduceCtorEq, ↓reduceIte, f7, q1, i64_w ((t + 1 : Nat) : Int) (by omega), loopK_n]
      refine ⟨32 - (t + 1), by omega, t + 1, _, rfl, by omega, f2, f3, f6, rfl, rfl, fun p hp => ?_, ?_, ?_, by simp only [upd_e, if_true]⟩
      · simp only [upd_e]; rw [if_neg (by omega), hF p hp]
      · simp only [upd_e]; rw [if_neg (by omega), hO]
      · simp only [upd_e]; rw [if_neg (by omega), hgH]
    · have h32 : t = 32 := by omega
      subst h32
      rw [Nat.sub_self, List.replicate_zero, List.append_nil, List.take_of_length_le (by omega)] at hgx
      have hLl : ((outS W2).map u8V).length = 32 := by simp [hol]
      have hLa : ∀ v ∈ (outS W2).map u8V, cellVal v = true := all_u8 _
      generalize (outS W2).map u8V = L at *
      have htk2 : List.take 32 L = L := List.take_of_length_le (by omega)
      have hsp2 : splice ((List.replicate 32 (0 : UInt8)).map u8V) 0 L = L := by simp [splice, hLl]
      simp only [↓gaW, ↓gaV, ↓gaC, ↓gaN, gaP, Nat.reduceEqDiff, Nat.reduceLeDiff, Nat.reduceAdd, Nat.reduceSub, Nat.reduceMul, Int.reduceLT, Int.reduceLE, Int.reduceEq, Int.reduceToNat, Int.reduceAdd, Int.reduceSub, Int.reduceMul, reduceCtorEq, ↓reduceIte, gaU, f2, f6, f7, hlt, decide_false, loopK_e, hgx, hO, List.drop_zero, htk2, Nat.add_zero, hsp2]
      repeat refine And.intro (by first | omega | (simp [hLl]; done) | exact hLa) ?_
      refine end_cN (q := nx) (ro := false) L (by simp only [↓gaW, ↓gaV, ↓gaC, ↓gaN, gaP, Nat.reduceEqDiff, Nat.reduceLeDiff, Nat.reduceAdd, Nat.reduceSub, Nat.reduceMul, Int.reduceLT, Int.reduceLE, Int.reduceEq, Int.reduceToNat, Int.reduceAdd, Int.reduceSub, Int.reduceMul, reduceCtorEq, ↓reduceIte, f2]) (by simp only [upd_e, if_true]) hLl ⟨rfl, by omega, fun p hp => ?_, rfl⟩
      simp only [upd_e]; rw [if_neg (by omega), hF p hp]
end
end Go.Ga

/- Equality of arrays of whole numbers. -/
namespace Go.Ga
open Go

theorem pr_bind {P : Program} {α β : Type} (s : Sem α) (f : α → Sem β) : pureRun P (s >>= f) = (pureRun P s).bind fun a => pureRun P (f a) := by
  show pureRun P (Sem.bind s f) = _
  induction s with
  | pure a => rfl
  | program k ih => simp only [Sem.bind, pureRun]; exact ih P
  | mark m k ih => simp only [Sem.bind, pureRun]; exact ih
  | _ => rfl
theorem pr_pure {P : Program} {α : Type} (a : α) : pureRun P (pure a : Sem α) = some a := rfl
theorem pr_prog {P : Program} : pureRun P program = some P := rfl
theorem pr_under {P : Program} {t : TypeId} {d : TypeDesc} (h : P.underlying t = some d) : pureRun P (underlying t) = some d := by
  simp only [underlying, pr_bind, pr_prog, Option.bind_some, h]; rfl
theorem pr_size {P : Program} {t : TypeId} {i : TypeInfo} (h : P.info? t = some i) : pureRun P (sizeOf t) = some i.size := by
  simp only [sizeOf, typeInfo, pr_bind, pr_prog, Option.bind_some, h]; rfl

def eqK (P : Program) (op : BinOp) (t : TypeId) (xs ys : Array Value) (K : Bool → Prop) : Prop :=
  xs.toList.all plain = true ∧ ys.toList.all plain = true ∧
  match pureRun P (do eqGuard op t (.tmp 0) (.tmp 0) (.agg xs) (.agg ys); binOp op t (.agg xs) (.agg ys)) with
  | some (.bool b) => K b
  | _ => False
theorem o_eqA {P : Program} {f : Regs} {m : Mem} {K : Value → Mem → Prop} (op : BinOp) (t : TypeId) (x y : Rv) : ROp.vc P f m K (.eqA op t x y) = asA (x.ev f) fun xs => asA (y.ev f) fun ys => eqK P op t xs ys fun b => K (.bool b) m := by
  dsimp only [ROp.vc, asA, eqK]
  cases x.ev f <;> first | rfl | (cases y.ev f <;> rfl)

theorem eq_ints {P : Program} {t e : TypeId} {len : Nat} {k k' : IntKind} {i : TypeInfo} (ht : P.underlying t = some (.array len e)) (he : P.underlying e = some (.int k')) (hi : P.info? e = some i) (hs : i.size = 1)
    (xs ys : List Int) (hx : xs.length = len) (hy : ys.length = len) (d : Nat) :
    pureRun P (Op.equalIn (d + 2) t (.agg (xs.map (Value.int k)).toArray) (.agg (ys.map (Value.int k)).toArray)) = some (decide (xs = ys)) := by
  have hpart : ∀ (l : List Int) j, j < l.length → pureRun P (part e (l.map (Value.int k)).toArray (j * 1)) = some (.int k (l.getD j 0)) := by
    intro l j hj
    simp only [part, isAgg, pr_bind, pr_under he, Option.bind_some, pr_pure, Nat.mul_one]
    simp [hj, List.getD_eq_getElem?_getD, pr_pure]
  have hel : ∀ a b : Int, pureRun P (Op.equalIn (d + 1) e (.int k a) (.int k b)) = some (a == b) := by
    intro a b
    rw [Op.equalIn]
    simp only [pr_bind, pr_under he, Option.bind_some, if_true]
    rfl
  have hdrop : ∀ (l : List Int) j, j < l.length → l.drop j = l.getD j 0 :: l.drop (j + 1) := fun l j hj => by
    rw [List.drop_eq_getElem_cons hj, List.getD_eq_getElem?_getD, List.getElem?_eq_getElem hj]; rfl
  have key : ∀ n s, s + n = len → pureRun P (forIn (List.range' s n) ((none, ()) : Option Bool × Unit) fun i __s => do
      let __do_lift ← part e (List.map (Value.int k) xs).toArray (i * 1)
      let __do_lift_1 ← part e (List.map (Value.int k) ys).toArray (i * 1)
      let __do_lift ← Op.equalIn (d + 1) e __do_lift __do_lift_1
      if (!__do_lift) = true then pure (ForInStep.done (some false, ())) else pure (ForInStep.yield (none, ()))) = some (if xs.drop s = ys.drop s then (none, ()) else (some false, ())) := by
    intro n
    induction n with
    | zero =>
      intro s hs
      rw [List.drop_eq_nil_of_le (by omega), List.drop_eq_nil_of_le (by omega)]
      rfl
    | succ n ih =>
      intro s hs
      rw [List.range'_succ, List.forIn_cons]
      simp only [pr_bind, hpart xs s (by omega), hpart ys s (by omega), Option.bind_some, hel]
      rw [hdrop xs s (by omega), hdrop ys s (by omega)]
      by_cases hab : xs.getD s 0 = ys.getD s 0
      · rw [hab]
        simp only [beq_self_eq_true, Bool.not_true, Bool.false_eq_true, if_false, pr_pure, Option.bind_some, List.cons.injEq, true_and]
        exact ih (s + 1) (by omega)
      · have : (xs.getD s 0 == ys.getD s 0) = false := by simpa using hab
        rw [this, if_neg (fun h => hab (List.cons.inj h).1)]
        simp only [Bool.not_false, if_true, pr_pure, Option.bind_some]
  rw [Op.equalIn]
  simp only [pr_bind, pr_under ht, Option.bind_some, pr_size hi, hs]
  simp only [Std.Legacy.Range.forIn_eq_forIn_range', Std.Legacy.Range.size]
  rw [show (len - 0 + 1 - 1) / 1 = len by omega, key len 0 (by omega), Option.bind_some]
  simp only [List.drop_zero]
  by_cases h : xs = ys <;> simp [h, pr_pure]

theorem eqK_ints {P : Program} {t e : TypeId} {len : Nat} {k k' : IntKind} {i : TypeInfo} (ht : P.underlying t = some (.array len e)) (he : P.underlying e = some (.int k')) (hi : P.info? e = some i) (hs : i.size = 1) (hg : P.eqGuardType P.depth t = false)
    (xs ys : List Int) (hx : xs.length = len) (hy : ys.length = len) (K : Bool → Prop) :
    eqK P .eql t (xs.map (Value.int k)).toArray (ys.map (Value.int k)).toArray K = K (decide (xs = ys)) := by
  have h1 : pureRun P (do eqGuard .eql t (.tmp 0) (.tmp 0) (.agg (xs.map (Value.int k)).toArray) (.agg (ys.map (Value.int k)).toArray); binOp .eql t (.agg (xs.map (Value.int k)).toArray) (.agg (ys.map (Value.int k)).toArray)) = some (.bool (decide (xs = ys))) := by
    have e1 : pureRun P (eqGuard .eql t (.tmp 0) (.tmp 0) (.agg (xs.map (Value.int k)).toArray) (.agg (ys.map (Value.int k)).toArray)) = some () := by
      simp [eqGuard, pr_bind, pr_prog, hg, pr_pure]
    rw [pr_bind, e1, Option.bind_some]
    have := eq_ints (k := k) ht he hi hs xs ys hx hy 9998
    simp only [binOp, Op.equal, Op.maxDepth, pr_bind, this, Option.bind_some]
    rfl
  unfold eqK
  rw [h1]
  simp [plain]
end Go.Ga

namespace Go.Ga
open Go Go.Proofs
set_option linter.unusedSimpArgs false
set_option linter.unusedVariables false
set_option maxRecDepth 100000
attribute [local irreducible] appendK endK endW sch comp rs sha

theorem bytes_ints (l : List UInt8) : l.map u8V = (l.map fun b => ((b.toNat : Nat) : Int)).map (Value.int .u8) := by
  rw [List.map_map]; rfl
theorem bytes_ints_inj {l l' : List UInt8} : (l.map fun b => ((b.toNat : Nat) : Int)) = (l'.map fun b => ((b.toNat : Nat) : Int)) ↔ l = l' := by
  constructor
  · intro h
    have := congrArg (List.map fun z : Int => UInt8.ofNat z.toNat) h
    rw [List.map_map, List.map_map] at this
    have e : ((fun z : Int => UInt8.ofNat z.toNat) ∘ fun b : UInt8 => ((b.toNat : Nat) : Int)) = id := by funext b; simp [Function.comp]
    rw [e, List.map_id, List.map_id] at this
    exact this
  · rintro rfl; rfl
theorem eq32 {l l' : List UInt8} (hx : l.length = 32) (hy : l'.length = 32) (K : Bool → Prop) : eqK Try.prog .eql 28 (l.map u8V).toArray (l'.map u8V).toArray K = K (decide (l = l')) := by
  rw [bytes_ints, bytes_ints, eqK_ints (P := Try.prog) (t := 28) (e := 5) (len := 32) (k' := .u8) (i := ((Try.prog).info? 5).get (by kernel_rfl)) (by kernel_rfl) (by kernel_rfl) (Option.some_get _).symm (by kernel_rfl) (by kernel_rfl) _ _ (by simpa using hx) (by simpa using hy) K]
  congr 1
  exact decide_eq_decide.2 bytes_ints_inj
theorem sha_len (l : List UInt8) : (sha l).length = 32 := by unfold sha; exact outS_len _

def cvK (m : Mem) (a : Addr) (n c : Nat) (K : Value → Mem → Prop) : Blk → Prop
  | .cells _ ro => ro = false ∧ m.bar ≤ a.block ∧ 0 < c ∧ K (.slice (some a) n c) m
  | .map _ => False
end Go.Ga

namespace Go.Ga
open Go Go.Proofs
set_option maxRecDepth 100000

def d_bytes_Repeat : List (List Nat) := [[], [], [], [1, 2], [], [], [4, 5], [3, 6], [0, 7], [8, 7, 0, 1, 2, 3, 4, 5, 6, 7, 8]]
def q_bytes_Repeat : List (Option (List Nat)) := [(some []), (some []), (some []), none, (some []), (some []), none, none, none, (some [0, 2, 8])]
def c_bytes_Repeat : RFn :=
  ⟨77,
  (.seq
  (.ops [] [
  ⟨(some 4), (.op (.mv (.k (.slice none 0 0)))), none⟩])
  (.seq
  (.seq
  (.ops [] [
  ⟨(some 12), (.op (.mv (.t 1))), none⟩,
  ⟨(some 13), (.op (.bin .eql (.t 12) (.k (.int .i64 0)))), none⟩])
  (.cond (.t 13)
  (.seq
  (.ops [] [
  ⟨(some 14), (.op (.mkSl 0 [] [])), none⟩,
  ⟨(some 4), (.op (.mv (.t 14))), none⟩])
  .ret)
  .skip))
  (.seq
  (.seq
  (.ops [] [
  ⟨(some 15), (.op (.mv (.t 1))), none⟩,
  ⟨(some 16), (.op (.bin .lss (.t 15) (.k (.int .i64 0)))), none⟩])
  (.cond (.t 16)
  (.ops [] [
  ⟨(some 17), (.op (.iface 9 (.k (.string ⟨#[98, 121, 116, 101, 115, 58, 32, 110, 101, 103, 97, 116, 105, 118, 101, 32, 82, 101, 112, 101, 97, 116, 32, 99, 111, 117, 110, 116]⟩)))), none⟩,
  ⟨none, (.pan (.t 17)), none⟩])
  .skip))
  (.seq
  (.ops [] [
  ⟨(some 19), (.op (.mv (.t 0))), none⟩,
  ⟨(some 20), (.op (.lenSl (.t 19))), none⟩,
  ⟨(some 21), (.op (.toInt .u64 (.t 20))), none⟩,
  ⟨(some 22), (.op (.mv (.t 1))), none⟩,
  ⟨(some 23), (.op (.toInt .u64 (.t 22))), none⟩,
  ⟨(some 24), (.call (.k (.func (.func 68) #[] #[])) [(.t 21), (.t 23)]), none⟩,
  ⟨(some 18), (.op (.mv (.t 24))), none⟩,
  ⟨(some 25), (.op (.extract (.t 18) 0)), none⟩,
  ⟨(some 26), (.op (.extract (.t 18) 1)), none⟩,
  ⟨(some 5), (.op (.mv (.t 25))), none⟩,
  ⟨(some 6), (.op (.mv (.t 26))), none⟩])
  (.seq
  (.seq
  (.ops [] [
  ⟨(some 27), (.op (.mv (.t 5))), none⟩,
  ⟨(some 28), (.op (.bin .gtr (.t 27) (.k (.int .u64 0)))), none⟩,
  ⟨(some 29), (.op (.mv (.t 28))), none⟩,
  ⟨(some 30), (.op (.mv (.t 6))), (some (29, false))⟩,
  ⟨(some 31), (.op (.bin .gtr (.t 30) (.k (.int .u64 9223372036854775807)))), (some (29, false))⟩,
  ⟨(some 32), (.op (.pick (.t 29) (.k (.bool true)) (.t 31))), none⟩])
  (.cond (.t 32)
  (.ops [] [
  ⟨(some 33), (.op (.iface 9 (.k (.string ⟨#[98, 121, 116, 101, 115, 58, 32, 82, 101, 112, 101, 97, 116, 32, 111, 117, 116, 112, 117, 116, 32, 108, 101, 110, 103, 116, 104, 32, 111, 118, 101, 114, 102, 108, 111, 119]⟩)))), none⟩,
  ⟨none, (.pan (.t 33)), none⟩])
  .skip))
  (.seq
  (.ops [] [
  ⟨(some 34), (.op (.mv (.t 6))), none⟩,
  ⟨(some 35), (.op (.toInt .i64 (.t 34))), none⟩,
  ⟨(some 7), (.op (.mv (.t 35))), none⟩])
  (.seq
  (.seq
  (.ops [] [
  ⟨(some 36), (.op (.mv (.t 0))), none⟩,
  ⟨(some 37), (.op (.lenSl (.t 36))), none⟩,
  ⟨(some 38), (.op (.bin .eql (.t 37) (.k (.int .i64 0)))), none⟩])
  (.cond (.t 38)
  (.seq
  (.ops [] [
  ⟨(some 39), (.op (.mkSl 0 [] [])), none⟩,
  ⟨(some 4), (.op (.mv (.t 39))), none⟩])
  .ret)
  .skip))
  (.seq
  (.ops [] [
  ⟨(some 40), (.op (.mv (.t 7))), none⟩,
  ⟨(some 8), (.op (.mv (.t 40))), none⟩])
  (.seq
  (.seq
  (.ops [] [
  ⟨(some 41), (.op (.mv (.t 8))), none⟩,
  ⟨(some 42), (.op (.bin .gtr (.t 41) (.k (.int .i64 8192)))), none⟩])
  (.cond (.t 42)
  (.seq
  (.ops [] [
  ⟨(some 43), (.op (.mv (.t 0))), none⟩,
  ⟨(some 44), (.op (.lenSl (.t 43))), none⟩,
  ⟨(some 45), (.op (.bin .quo (.k (.int .i64 8192)) (.t 44))), none⟩,
  ⟨(some 46), (.op (.mv (.t 0))), none⟩,
  ⟨(some 47), (.op (.lenSl (.t 46))), none⟩,
  ⟨(some 48), (.op (.bin .mul (.t 45) (.t 47))), none⟩,
  ⟨(some 8), (.op (.mv (.t 48))), none⟩])
  (.seq
  (.ops [] [
  ⟨(some 49), (.op (.mv (.t 8))), none⟩,
  ⟨(some 50), (.op (.bin .eql (.t 49) (.k (.int .i64 0)))), none⟩])
  (.cond (.t 50)
  (.ops [] [
  ⟨(some 51), (.op (.mv (.t 0))), none⟩,
  ⟨(some 52), (.op (.lenSl (.t 51))), none⟩,
  ⟨(some 8), (.op (.mv (.t 52))), none⟩])
  .skip)))
  .skip))
  (.seq
  (.ops [] [
  ⟨(some 53), (.op (.mv (.t 7))), none⟩,
  ⟨(some 54), (.xop (.noZero (.t 53))), none⟩,
  ⟨(some 55), (.op (.mv (.t 7))), none⟩,
  ⟨(some 56), (.op (.mv (.t 7))), none⟩,
  ⟨(some 57), (.op (.sl 1 (.t 54) none (some (.t 55)) (some (.t 56)))), none⟩,
  ⟨(some 9), (.op (.mv (.t 57))), none⟩])
  (.seq
  (.ops [] [
  ⟨(some 58), (.op (.mv (.t 9))), none⟩,
  ⟨(some 59), (.op (.mv (.t 0))), none⟩,
  ⟨(some 60), (.op (.copy 1 (.t 58) (.t 59))), none⟩,
  ⟨(some 10), (.op (.mv (.t 60))), none⟩])
  (.seq
  (.block 0
  (.loop
  (.seq
  (.seq
  (.ops [] [
  ⟨(some 61), (.op (.mv (.t 10))), none⟩,
  ⟨(some 62), (.op (.mv (.t 7))), none⟩,
  ⟨(some 63), (.op (.bin .lss (.t 61) (.t 62))), none⟩])
  (.cond (.t 63)
  .skip
  (.exit 0)))
  (.block 1
  (.seq
  (.ops [] [
  ⟨(some 64), (.op (.mv (.t 10))), none⟩,
  ⟨(some 65), (.op (.mv (.t 8))), none⟩,
  ⟨(some 66), (.op (.mm false (.t 64) [(.t 65)])), none⟩,
  ⟨(some 11), (.op (.mv (.t 66))), none⟩])
  (.tree [
  ⟨(some 67), (.op (.mv (.t 10))), none⟩,
  ⟨(some 68), (.op (.mv (.t 9))), none⟩,
  ⟨(some 69), (.op (.mv (.t 10))), none⟩,
  ⟨(some 70), (.op (.sl 1 (.t 68) (some (.t 69)) none none)), none⟩,
  ⟨(some 71), (.op (.mv (.t 9))), none⟩,
  ⟨(some 72), (.op (.mv (.t 11))), none⟩,
  ⟨(some 73), (.op (.sl 1 (.t 71) none (some (.t 72)) none)), none⟩,
  ⟨(some 74), (.op (.copy 1 (.t 70) (.t 73))), none⟩,
  ⟨(some 75), (.op (.bin .add (.t 67) (.t 74))), none⟩,
  ⟨(some 10), (.op (.mv (.t 75))), none⟩] d_bytes_Repeat q_bytes_Repeat))))))
  (.seq
  (.ops [] [
  ⟨(some 76), (.op (.mv (.t 9))), none⟩,
  ⟨(some 4), (.op (.mv (.t 76))), none⟩])
  .ret))))))))))))),
  [(.t 4)]⟩
theorem r_bytes_Repeat : resolveFn Try.prog 41 [20] = some c_bytes_Repeat := by kernel_rfl

theorem t_bytes_Repeat : nextL d_bytes_Repeat q_bytes_Repeat 0 = [0] ∧ nextL d_bytes_Repeat q_bytes_Repeat 1 = [1] ∧ nextL d_bytes_Repeat q_bytes_Repeat 3 = [2] ∧ nextL d_bytes_Repeat q_bytes_Repeat 7 = [4] ∧ nextL d_bytes_Repeat q_bytes_Repeat 23 = [5] ∧ nextL d_bytes_Repeat q_bytes_Repeat 55 = [3, 6] ∧ nextL d_bytes_Repeat q_bytes_Repeat 63 = [6] ∧ nextL d_bytes_Repeat q_bytes_Repeat 119 = [3] ∧ nextL d_bytes_Repeat q_bytes_Repeat 127 = [7] ∧ nextL d_bytes_Repeat q_bytes_Repeat 255 = [8] ∧ nextL d_bytes_Repeat q_bytes_Repeat 511 = [9] ∧ nextL d_bytes_Repeat q_bytes_Repeat 1023 = [] := by decide +kernel

def c_rsa_Frame : RFn :=
  ⟨32,
  (.seq
  (.ops [] [
  ⟨(some 2), (.op (.box (.t 0))), none⟩,
  ⟨(some 4), (.op (.mv (.k (.slice none 0 0)))), none⟩,
  ⟨(some 5), (.op (.mv (.k (.int .i64 0)))), none⟩])
  (.seq
  (.seq
  (.ops [] [
  ⟨(some 10), (.op (.mv (.t 1))), none⟩,
  ⟨(some 11), (.op (.bin .lss (.t 10) (.k (.int .i64 62)))), none⟩,
  ⟨(some 12), (.op (.mv (.t 11))), none⟩,
  ⟨(some 13), (.op (.mv (.t 1))), (some (12, false))⟩,
  ⟨(some 14), (.op (.bin .gtr (.t 13) (.k (.int .i64 512)))), (some (12, false))⟩,
  ⟨(some 15), (.op (.pick (.t 12) (.k (.bool true)) (.t 14))), none⟩])
  (.cond (.t 15)
  (.seq
  (.ops [] [
  ⟨(some 4), (.op (.mv (.k (.slice none 0 0)))), none⟩,
  ⟨(some 5), (.op (.mv (.k (.int .i64 1)))), none⟩])
  .ret)
  .skip))
  (.seq
  (.ops [] [
  ⟨(some 16), (.op (.mkSl 1 [(.int .u8 0)] [(0, (1, (.k (.int .u8 255))))])), none⟩,
  ⟨(some 17), (.op (.mv (.t 1))), none⟩,
  ⟨(some 18), (.call (.k (.func (.func 41) #[] #[])) [(.t 16), (.t 17)]), none⟩,
  ⟨(some 6), (.op (.new [(.slice none 0 0)])), none⟩,
  ⟨none, (.op (.store 1 (.t 6) (.t 18))), none⟩])
  (.seq
  (.ops [] [
  ⟨(some 19), (.op (.mv (.t 1))), none⟩,
  ⟨(some 7), (.op (.new [(.int .i64 0)])), none⟩,
  ⟨none, (.op (.store 1 (.t 7) (.t 19))), none⟩])
  (.seq
  (.ops [] [
  ⟨(some 20), (.op (.func 42 [(.t 7), (.t 6)])), none⟩,
  ⟨(some 8), (.op (.mv (.t 20))), none⟩])
  (.seq
  (.ops [] [
  ⟨(some 21), (.op (.mv (.t 8))), none⟩,
  ⟨(some 22), (.op (.slArr 32 1 (.t 2) none none none)), none⟩,
  ⟨(some 23), (.call (.t 21) [(.t 22)]), none⟩])
  (.seq
  (.ops [] [
  ⟨(some 24), (.call (.k (.func (.func 43) #[] #[])) []), none⟩,
  ⟨(some 9), (.op (.new [(.int .u8 0), (.int .u8 0), (.int .u8 0), (.int .u8 0), (.int .u8 0), (.int .u8 0), (.int .u8 0), (.int .u8 0), (.int .u8 0), (.int .u8 0), (.int .u8 0), (.int .u8 0), (.int .u8 0), (.int .u8 0), (.int .u8 0), (.int .u8 0), (.int .u8 0), (.int .u8 0), (.int .u8 0), (.int .u8 0)])), none⟩,
  ⟨none, (.op (.store 20 (.t 9) (.t 24))), none⟩])
  (.seq
  (.ops [] [
  ⟨(some 25), (.op (.mv (.t 8))), none⟩,
  ⟨(some 26), (.op (.slArr 20 1 (.t 9) none none none)), none⟩,
  ⟨(some 27), (.call (.t 25) [(.t 26)]), none⟩])
  (.seq
  (.ops [] [
  ⟨(some 28), (.op (.load1 (.t 6))), none⟩,
  ⟨(some 29), (.op (.mkSl 2 [(.int .u8 0), (.int .u8 0)] [(0, (1, (.k (.int .u8 0)))), (1, (1, (.k (.int .u8 1))))])), none⟩,
  ⟨(some 30), (.op (.copy 1 (.t 28) (.t 29))), none⟩])
  (.seq
  (.ops [] [
  ⟨(some 31), (.op (.load1 (.t 6))), none⟩,
  ⟨(some 4), (.op (.mv (.t 31))), none⟩,
  ⟨(some 5), (.op (.mv (.k (.int .i64 0)))), none⟩])
  .ret)))))))))),
  [(.t 4), (.t 5)]⟩
theorem r_rsa_Frame : resolveFn Try.prog 22 = some c_rsa_Frame := by kernel_rfl

def c_rsa_Frame_1 : RFn :=
  ⟨13,
  (.seq
  (.ops [] [
  ⟨(some 4), (.op (.load1 (.t 1))), none⟩,
  ⟨(some 5), (.op (.mv (.t 0))), none⟩,
  ⟨(some 6), (.op (.lenSl (.t 5))), none⟩,
  ⟨(some 7), (.op (.bin .sub (.t 4) (.t 6))), none⟩,
  ⟨none, (.op (.store 1 (.t 1) (.t 7))), none⟩])
  (.ops [] [
  ⟨(some 8), (.op (.load1 (.t 2))), none⟩,
  ⟨(some 9), (.op (.load1 (.t 1))), none⟩,
  ⟨(some 10), (.op (.sl 1 (.t 8) (some (.t 9)) none none)), none⟩,
  ⟨(some 11), (.op (.mv (.t 0))), none⟩,
  ⟨(some 12), (.op (.copy 1 (.t 10) (.t 11))), none⟩])),
  []⟩
theorem r_rsa_Frame_1 : resolveFn Try.prog 42 = some c_rsa_Frame_1 := by kernel_rfl

def c_rsa_ahead : RFn :=
  ⟨2,
  (.seq
  (.ops [] [
  ⟨(some 0), (.op (.new [(.int .u8 0), (.int .u8 0), (.int .u8 0), (.int .u8 0), (.int .u8 0), (.int .u8 0), (.int .u8 0), (.int .u8 0), (.int .u8 0), (.int .u8 0), (.int .u8 0), (.int .u8 0), (.int .u8 0), (.int .u8 0), (.int .u8 0), (.int .u8 0), (.int .u8 0), (.int .u8 0), (.int .u8 0), (.int .u8 0)])), none⟩])
  (.seq
  (.ops [] [
  ⟨(some 1), (.op (.build [(.int .u8 0), (.int .u8 0), (.int .u8 0), (.int .u8 0), (.int .u8 0), (.int .u8 0), (.int .u8 0), (.int .u8 0), (.int .u8 0), (.int .u8 0), (.int .u8 0), (.int .u8 0), (.int .u8 0), (.int .u8 0), (.int .u8 0), (.int .u8 0), (.int .u8 0), (.int .u8 0), (.int .u8 0), (.int .u8 0)] [(0, (1, (.k (.int .u8 0)))), (1, (1, (.k (.int .u8 48)))), (2, (1, (.k (.int .u8 49)))), (3, (1, (.k (.int .u8 48)))), (4, (1, (.k (.int .u8 13)))), (5, (1, (.k (.int .u8 6)))), (6, (1, (.k (.int .u8 9)))), (7, (1, (.k (.int .u8 96)))), (8, (1, (.k (.int .u8 134)))), (9, (1, (.k (.int .u8 72)))), (10, (1, (.k (.int .u8 1)))), (11, (1, (.k (.int .u8 101)))), (12, (1, (.k (.int .u8 3)))), (13, (1, (.k (.int .u8 4)))), (14, (1, (.k (.int .u8 2)))), (15, (1, (.k (.int .u8 1)))), (16, (1, (.k (.int .u8 5)))), (17, (1, (.k (.int .u8 0)))), (18, (1, (.k (.int .u8 4)))), (19, (1, (.k (.int .u8 32))))])), none⟩,
  ⟨none, (.op (.store 20 (.t 0) (.t 1))), none⟩])
  .ret)),
  [(.cN 0 20)]⟩
theorem r_rsa_ahead : resolveFn Try.prog 43 = some c_rsa_ahead := by kernel_rfl

def c_rsa_Right : RFn :=
  ⟨41,
  (.seq
  (.ops [] [
  ⟨(some 1), (.op (.box (.t 0))), none⟩,
  ⟨(some 2), (.op (.mv (.k (.bool false)))), none⟩])
  (.seq
  (.ops [] [
  ⟨(some 4), (.op (.fieldAddr 0 (.t 1))), none⟩,
  ⟨(some 5), (.op (.load1 (.t 4))), none⟩,
  ⟨(some 6), (.op (.lenSl (.t 5))), none⟩,
  ⟨(some 3), (.op (.mv (.t 6))), none⟩])
  (.seq
  (.ops [] [
  ⟨(some 7), (.op (.mv (.t 3))), none⟩,
  ⟨(some 8), (.op (.bin .geq (.t 7) (.k (.int .i64 62)))), none⟩,
  ⟨(some 9), (.op (.mv (.t 8))), none⟩,
  ⟨(some 10), (.op (.mv (.t 3))), (some (9, true))⟩,
  ⟨(some 11), (.op (.bin .leq (.t 10) (.k (.int .i64 512)))), (some (9, true))⟩,
  ⟨(some 12), (.op (.pick (.t 9) (.t 11) (.k (.bool false)))), none⟩,
  ⟨(some 13), (.op (.mv (.t 12))), none⟩,
  ⟨(some 14), (.op (.fieldAddr 0 (.t 1))), (some (13, true))⟩,
  ⟨(some 15), (.op (.load1 (.t 14))), (some (13, true))⟩,
  ⟨(some 16), (.op (.ixAddr 1 (.t 15) (.k (.int .i64 0)))), (some (13, true))⟩,
  ⟨(some 17), (.op (.load1 (.t 16))), (some (13, true))⟩,
  ⟨(some 18), (.op (.bin .neq (.t 17) (.k (.int .u8 0)))), (some (13, true))⟩,
  ⟨(some 19), (.op (.pick (.t 13) (.t 18) (.k (.bool false)))), none⟩,
  ⟨(some 20), (.op (.mv (.t 19))), none⟩,
  ⟨(some 21), (.op (.fieldAddr 0 (.t 1))), (some (20, true))⟩,
  ⟨(some 22), (.op (.load1 (.t 21))), (some (20, true))⟩,
  ⟨(some 23), (.op (.mv (.t 3))), (some (20, true))⟩,
  ⟨(some 24), (.op (.bin .sub (.t 23) (.k (.int .i64 1)))), (some (20, true))⟩,
  ⟨(some 25), (.op (.ixAddr 1 (.t 22) (.t 24))), (some (20, true))⟩,
  ⟨(some 26), (.op (.load1 (.t 25))), (some (20, true))⟩,
  ⟨(some 27), (.op (.bin .and (.t 26) (.k (.int .u8 1)))), (some (20, true))⟩,
  ⟨(some 28), (.op (.bin .eql (.t 27) (.k (.int .u8 1)))), (some (20, true))⟩,
  ⟨(some 29), (.op (.pick (.t 20) (.t 28) (.k (.bool false)))), none⟩,
  ⟨(some 30), (.op (.mv (.t 29))), none⟩,
  ⟨(some 31), (.op (.fieldAddr 1 (.t 1))), (some (30, true))⟩,
  ⟨(some 32), (.op (.load1 (.t 31))), (some (30, true))⟩,
  ⟨(some 33), (.op (.bin .and (.t 32) (.k (.int .u32 1)))), (some (30, true))⟩,
  ⟨(some 34), (.op (.bin .eql (.t 33) (.k (.int .u32 1)))), (some (30, true))⟩,
  ⟨(some 35), (.op (.pick (.t 30) (.t 34) (.k (.bool false)))), none⟩,
  ⟨(some 36), (.op (.mv (.t 35))), none⟩,
  ⟨(some 37), (.op (.fieldAddr 1 (.t 1))), (some (36, true))⟩,
  ⟨(some 38), (.op (.load1 (.t 37))), (some (36, true))⟩,
  ⟨(some 39), (.op (.bin .geq (.t 38) (.k (.int .u32 3)))), (some (36, true))⟩,
  ⟨(some 40), (.op (.pick (.t 36) (.t 39) (.k (.bool false)))), none⟩,
  ⟨(some 2), (.op (.mv (.t 40))), none⟩])
  .ret))),
  [(.t 2)]⟩
theorem r_rsa_Right : resolveFn Try.prog 24 = some c_rsa_Right := by kernel_rfl

def c_rsa_Power : RFn :=
  ⟨50,
  (.seq
  (.ops [] [
  ⟨(some 2), (.op (.box (.t 0))), none⟩,
  ⟨(some 4), (.op (.mv (.k (.slice none 0 0)))), none⟩,
  ⟨(some 5), (.op (.mv (.k (.int .i64 0)))), none⟩])
  (.seq
  (.seq
  (.ops [] [
  ⟨(some 11), (.op (.loadN 2 (.t 2))), none⟩,
  ⟨(some 12), (.call (.k (.func (.func 24) #[] #[])) [(.t 11)]), none⟩,
  ⟨(some 13), (.op (.un .not (.t 12))), none⟩])
  (.cond (.t 13)
  (.seq
  (.ops [] [
  ⟨(some 4), (.op (.mv (.k (.slice none 0 0)))), none⟩,
  ⟨(some 5), (.op (.mv (.k (.int .i64 1)))), none⟩])
  .ret)
  .skip))
  (.seq
  (.ops [] [
  ⟨(some 14), (.op (.fieldAddr 0 (.t 2))), none⟩,
  ⟨(some 15), (.op (.load1 (.t 14))), none⟩,
  ⟨(some 16), (.call (.k (.func (.func 34) #[] #[])) [(.t 15)]), none⟩,
  ⟨(some 17), (.op (.mv (.t 1))), none⟩,
  ⟨(some 18), (.call (.k (.func (.func 34) #[] #[])) [(.t 17)]), none⟩,
  ⟨(some 6), (.op (.mv (.t 16))), none⟩,
  ⟨(some 7), (.op (.mv (.t 18))), none⟩])
  (.seq
  (.seq
  (.ops [] [
  ⟨(some 19), (.op (.mv (.t 1))), none⟩,
  ⟨(some 20), (.op (.lenSl (.t 19))), none⟩,
  ⟨(some 21), (.op (.fieldAddr 0 (.t 2))), none⟩,
  ⟨(some 22), (.op (.load1 (.t 21))), none⟩,
  ⟨(some 23), (.op (.lenSl (.t 22))), none⟩,
  ⟨(some 24), (.op (.bin .neq (.t 20) (.t 23))), none⟩,
  ⟨(some 25), (.op (.mv (.t 24))), none⟩,
  ⟨(some 26), (.op (.mv (.t 7))), (some (25, false))⟩,
  ⟨(some 27), (.op (.mv (.t 6))), (some (25, false))⟩,
  ⟨(some 28), (.call (.k (.func (.func 33) #[] #[])) [(.t 26), (.t 27)]), (some (25, false))⟩,
  ⟨(some 29), (.op (.bin .geq (.t 28) (.k (.int .i64 0)))), (some (25, false))⟩,
  ⟨(some 30), (.op (.pick (.t 25) (.k (.bool true)) (.t 29))), none⟩])
  (.cond (.t 30)
  (.seq
  (.ops [] [
  ⟨(some 4), (.op (.mv (.k (.slice none 0 0)))), none⟩,
  ⟨(some 5), (.op (.mv (.k (.int .i64 6)))), none⟩])
  .ret)
  .skip))
  (.seq
  (.ops [] [
  ⟨(some 32), (.op (.mv (.t 7))), none⟩,
  ⟨(some 33), (.op (.fieldAddr 1 (.t 2))), none⟩,
  ⟨(some 34), (.op (.load1 (.t 33))), none⟩,
  ⟨(some 35), (.op (.mkSl 1 [(.int .u32 0)] [(0, (1, (.t 34)))])), none⟩,
  ⟨(some 36), (.op (.mv (.t 6))), none⟩,
  ⟨(some 37), (.call (.k (.func (.func 45) #[] #[])) [(.t 32), (.t 35), (.t 36)]), none⟩,
  ⟨(some 31), (.op (.mv (.t 37))), none⟩,
  ⟨(some 38), (.op (.extract (.t 31) 0)), none⟩,
  ⟨(some 39), (.op (.extract (.t 31) 1)), none⟩,
  ⟨(some 8), (.op (.mv (.t 38))), none⟩,
  ⟨(some 9), (.op (.mv (.t 39))), none⟩])
  (.seq
  (.ops [] [
  ⟨(some 40), (.op (.mv (.t 8))), none⟩,
  ⟨(some 41), (.call (.k (.func (.func 46) #[] #[])) [(.t 40)]), none⟩,
  ⟨(some 10), (.op (.mv (.t 41))), none⟩])
  (.seq
  (.ops [] [
  ⟨(some 42), (.op (.mv (.t 1))), none⟩,
  ⟨(some 43), (.op (.lenSl (.t 42))), none⟩,
  ⟨(some 44), (.op (.mv (.t 10))), none⟩,
  ⟨(some 45), (.op (.lenSl (.t 44))), none⟩,
  ⟨(some 46), (.op (.bin .sub (.t 43) (.t 45))), none⟩,
  ⟨(some 47), (.op (.make 1 1 [(.int .u8 0)] (.t 46) (.t 46))), none⟩,
  ⟨(some 48), (.op (.mv (.t 10))), none⟩,
  ⟨(some 49), (.op (.append 1 1 (.t 47) (.t 48))), none⟩,
  ⟨(some 4), (.op (.mv (.t 49))), none⟩,
  ⟨(some 5), (.op (.mv (.k (.int .i64 0)))), none⟩])
  .ret))))))),
  [(.t 4), (.t 5)]⟩
theorem r_rsa_Power : resolveFn Try.prog 27 = some c_rsa_Power := by kernel_rfl

def c_rsa_Verify : RFn :=
  ⟨36,
  (.seq
  (.ops [] [
  ⟨(some 3), (.op (.box (.t 0))), none⟩,
  ⟨(some 6), (.op (.mv (.k (.int .i64 0)))), none⟩])
  (.seq
  (.ops [] [
  ⟨(some 11), (.op (.loadN 2 (.t 3))), none⟩,
  ⟨(some 12), (.op (.mv (.t 2))), none⟩,
  ⟨(some 13), (.call (.k (.func (.func 27) #[] #[])) [(.t 11), (.t 12)]), none⟩,
  ⟨(some 10), (.op (.mv (.t 13))), none⟩,
  ⟨(some 14), (.op (.extract (.t 10) 0)), none⟩,
  ⟨(some 15), (.op (.extract (.t 10) 1)), none⟩,
  ⟨(some 7), (.op (.mv (.t 14))), none⟩,
  ⟨(some 8), (.op (.mv (.t 15))), none⟩])
  (.seq
  (.seq
  (.ops [] [
  ⟨(some 16), (.op (.mv (.t 8))), none⟩,
  ⟨(some 17), (.op (.bin .neq (.t 16) (.k (.int .i64 0)))), none⟩])
  (.cond (.t 17)
  (.seq
  (.ops [] [
  ⟨(some 18), (.op (.mv (.t 8))), none⟩,
  ⟨(some 6), (.op (.mv (.t 18))), none⟩])
  .ret)
  .skip))
  (.seq
  (.ops [
  ⟨(some 20), (.op (.mv (.t 1))), none⟩,
  ⟨(some 21), (.call (.k (.func (.func 16) #[] #[])) [(.t 20)]), none⟩,
  ⟨(some 22), (.op (.fieldAddr 0 (.t 3))), none⟩,
  ⟨(some 23), (.op (.load1 (.t 22))), none⟩,
  ⟨(some 24), (.op (.lenSl (.t 23))), none⟩,
  ⟨(some 25), (.call (.k (.func (.func 22) #[] #[])) [(.t 21), (.t 24)]), none⟩,
  ⟨(some 19), (.op (.mv (.t 25))), none⟩,
  ⟨(some 26), (.op (.extract (.t 19) 0)), none⟩,
  ⟨(some 27), (.op (.extract (.t 19) 1)), none⟩,
  ⟨(some 9), (.op (.mv (.t 26))), none⟩] [
  ⟨(some 8), (.op (.mv (.t 27))), none⟩])
  (.seq
  (.seq
  (.ops [] [
  ⟨(some 28), (.op (.mv (.t 8))), none⟩,
  ⟨(some 29), (.op (.bin .neq (.t 28) (.k (.int .i64 0)))), none⟩,
  ⟨(some 30), (.op (.mv (.t 29))), none⟩,
  ⟨(some 31), (.op (.mv (.t 7))), (some (30, false))⟩,
  ⟨(some 32), (.op (.mv (.t 9))), (some (30, false))⟩,
  ⟨(some 33), (.call (.k (.func (.func 51) #[] #[])) [(.t 31), (.t 32)]), (some (30, false))⟩,
  ⟨(some 34), (.op (.un .not (.t 33))), (some (30, false))⟩,
  ⟨(some 35), (.op (.pick (.t 30) (.k (.bool true)) (.t 34))), none⟩])
  (.cond (.t 35)
  (.seq
  (.ops [] [
  ⟨(some 6), (.op (.mv (.k (.int .i64 6)))), none⟩])
  .ret)
  .skip))
  (.seq
  (.ops [] [
  ⟨(some 6), (.op (.mv (.k (.int .i64 0)))), none⟩])
  .ret)))))),
  [(.t 6)]⟩
theorem r_rsa_Verify : resolveFn Try.prog 29 = some c_rsa_Verify := by kernel_rfl

def c_bytes_Equal : RFn :=
  ⟨10,
  (.seq
  (.ops [] [
  ⟨(some 4), (.op (.mv (.k (.bool false)))), none⟩])
  (.seq
  (.ops [] [
  ⟨(some 5), (.op (.mv (.t 0))), none⟩,
  ⟨(some 6), (.op (.b2s (.t 5))), none⟩,
  ⟨(some 7), (.op (.mv (.t 1))), none⟩,
  ⟨(some 8), (.op (.b2s (.t 7))), none⟩,
  ⟨(some 9), (.op (.bin .eql (.t 6) (.t 8))), none⟩,
  ⟨(some 4), (.op (.mv (.t 9))), none⟩])
  .ret)),
  [(.t 4)]⟩
theorem r_bytes_Equal : resolveFn Try.prog 51 = some c_bytes_Equal := by kernel_rfl

def c_math_bits_Mul : RFn :=
  ⟨30,
  (.seq
  (.ops [] [
  ⟨(some 4), (.op (.mv (.k (.int .u64 0)))), none⟩,
  ⟨(some 5), (.op (.mv (.k (.int .u64 0)))), none⟩])
  (.seq
  (.cond (.k (.bool false))
  (.seq
  (.ops [] [
  ⟨(some 11), (.op (.mv (.t 0))), none⟩,
  ⟨(some 12), (.op (.toInt .u32 (.t 11))), none⟩,
  ⟨(some 13), (.op (.mv (.t 1))), none⟩,
  ⟨(some 14), (.op (.toInt .u32 (.t 13))), none⟩,
  ⟨(some 15), (.call (.k (.func (.func 82) #[] #[])) [(.t 12), (.t 14)]), none⟩,
  ⟨(some 10), (.op (.mv (.t 15))), none⟩,
  ⟨(some 16), (.op (.extract (.t 10) 0)), none⟩,
  ⟨(some 17), (.op (.extract (.t 10) 1)), none⟩,
  ⟨(some 6), (.op (.mv (.t 16))), none⟩,
  ⟨(some 7), (.op (.mv (.t 17))), none⟩])
  (.seq
  (.ops [] [
  ⟨(some 18), (.op (.mv (.t 6))), none⟩,
  ⟨(some 19), (.op (.toInt .u64 (.t 18))), none⟩,
  ⟨(some 20), (.op (.mv (.t 7))), none⟩,
  ⟨(some 21), (.op (.toInt .u64 (.t 20))), none⟩,
  ⟨(some 4), (.op (.mv (.t 19))), none⟩,
  ⟨(some 5), (.op (.mv (.t 21))), none⟩])
  .ret))
  .skip)
  (.seq
  (.ops [] [
  ⟨(some 23), (.op (.mv (.t 0))), none⟩,
  ⟨(some 24), (.op (.mv (.t 1))), none⟩,
  ⟨(some 25), (.call (.k (.func (.func 83) #[] #[])) [(.t 23), (.t 24)]), none⟩,
  ⟨(some 22), (.op (.mv (.t 25))), none⟩,
  ⟨(some 26), (.op (.extract (.t 22) 0)), none⟩,
  ⟨(some 27), (.op (.extract (.t 22) 1)), none⟩,
  ⟨(some 8), (.op (.mv (.t 26))), none⟩,
  ⟨(some 9), (.op (.mv (.t 27))), none⟩])
  (.seq
  (.ops [] [
  ⟨(some 28), (.op (.mv (.t 8))), none⟩,
  ⟨(some 29), (.op (.mv (.t 9))), none⟩,
  ⟨(some 4), (.op (.mv (.t 28))), none⟩,
  ⟨(some 5), (.op (.mv (.t 29))), none⟩])
  .ret)))),
  [(.t 4), (.t 5)]⟩
theorem r_math_bits_Mul : resolveFn Try.prog 68 = some c_math_bits_Mul := by kernel_rfl

def c_math_bits_Mul64 : RFn :=
  ⟨51,
  (.seq
  (.ops [] [
  ⟨(some 4), (.op (.mv (.k (.int .u64 0)))), none⟩,
  ⟨(some 5), (.op (.mv (.k (.int .u64 0)))), none⟩])
  (.seq
  (.ops [] [
  ⟨(some 14), (.op (.mv (.t 0))), none⟩,
  ⟨(some 15), (.op (.bin .and (.t 14) (.k (.int .u64 4294967295)))), none⟩,
  ⟨(some 6), (.op (.mv (.t 15))), none⟩])
  (.seq
  (.ops [] [
  ⟨(some 16), (.op (.mv (.t 0))), none⟩,
  ⟨(some 17), (.op (.bin .shr (.t 16) (.k (.int .u64 32)))), none⟩,
  ⟨(some 7), (.op (.mv (.t 17))), none⟩])
  (.seq
  (.ops [] [
  ⟨(some 18), (.op (.mv (.t 1))), none⟩,
  ⟨(some 19), (.op (.bin .and (.t 18) (.k (.int .u64 4294967295)))), none⟩,
  ⟨(some 8), (.op (.mv (.t 19))), none⟩])
  (.seq
  (.ops [] [
  ⟨(some 20), (.op (.mv (.t 1))), none⟩,
  ⟨(some 21), (.op (.bin .shr (.t 20) (.k (.int .u64 32)))), none⟩,
  ⟨(some 9), (.op (.mv (.t 21))), none⟩])
  (.seq
  (.ops [] [
  ⟨(some 22), (.op (.mv (.t 6))), none⟩,
  ⟨(some 23), (.op (.mv (.t 8))), none⟩,
  ⟨(some 24), (.op (.bin .mul (.t 22) (.t 23))), none⟩,
  ⟨(some 10), (.op (.mv (.t 24))), none⟩])
  (.seq
  (.ops [] [
  ⟨(some 25), (.op (.mv (.t 7))), none⟩,
  ⟨(some 26), (.op (.mv (.t 8))), none⟩,
  ⟨(some 27), (.op (.bin .mul (.t 25) (.t 26))), none⟩,
  ⟨(some 28), (.op (.mv (.t 10))), none⟩,
  ⟨(some 29), (.op (.bin .shr (.t 28) (.k (.int .u64 32)))), none⟩,
  ⟨(some 30), (.op (.bin .add (.t 27) (.t 29))), none⟩,
  ⟨(some 11), (.op (.mv (.t 30))), none⟩])
  (.seq
  (.ops [] [
  ⟨(some 31), (.op (.mv (.t 11))), none⟩,
  ⟨(some 32), (.op (.bin .and (.t 31) (.k (.int .u64 4294967295)))), none⟩,
  ⟨(some 12), (.op (.mv (.t 32))), none⟩])
  (.seq
  (.ops [] [
  ⟨(some 33), (.op (.mv (.t 11))), none⟩,
  ⟨(some 34), (.op (.bin .shr (.t 33) (.k (.int .u64 32)))), none⟩,
  ⟨(some 13), (.op (.mv (.t 34))), none⟩])
  (.seq
  (.ops [] [
  ⟨(some 35), (.op (.mv (.t 12))), none⟩,
  ⟨(some 36), (.op (.mv (.t 6))), none⟩,
  ⟨(some 37), (.op (.mv (.t 9))), none⟩,
  ⟨(some 38), (.op (.bin .mul (.t 36) (.t 37))), none⟩,
  ⟨(some 39), (.op (.bin .add (.t 35) (.t 38))), none⟩,
  ⟨(some 12), (.op (.mv (.t 39))), none⟩])
  (.seq
  (.ops [] [
  ⟨(some 40), (.op (.mv (.t 7))), none⟩,
  ⟨(some 41), (.op (.mv (.t 9))), none⟩,
  ⟨(some 42), (.op (.bin .mul (.t 40) (.t 41))), none⟩,
  ⟨(some 43), (.op (.mv (.t 13))), none⟩,
  ⟨(some 44), (.op (.bin .add (.t 42) (.t 43))), none⟩,
  ⟨(some 45), (.op (.mv (.t 12))), none⟩,
  ⟨(some 46), (.op (.bin .shr (.t 45) (.k (.int .u64 32)))), none⟩,
  ⟨(some 47), (.op (.bin .add (.t 44) (.t 46))), none⟩,
  ⟨(some 4), (.op (.mv (.t 47))), none⟩])
  (.seq
  (.ops [] [
  ⟨(some 48), (.op (.mv (.t 0))), none⟩,
  ⟨(some 49), (.op (.mv (.t 1))), none⟩,
  ⟨(some 50), (.op (.bin .mul (.t 48) (.t 49))), none⟩,
  ⟨(some 5), (.op (.mv (.t 50))), none⟩])
  .ret)))))))))))),
  [(.t 4), (.t 5)]⟩
theorem r_math_bits_Mul64 : resolveFn Try.prog 83 = some c_math_bits_Mul64 := by kernel_rfl

def c_lanyardref09_LightKey : RFn :=
  ⟨7,
  (.seq
  (.ops [] [
  ⟨(some 1), (.op (.box (.t 0))), none⟩,
  ⟨(some 2), (.op (.mv (.k (.bool false)))), none⟩])
  (.seq
  (.ops [] [
  ⟨(some 3), (.op (.fieldAddr 0 (.t 1))), none⟩,
  ⟨(some 4), (.op (.load1 (.t 3))), none⟩,
  ⟨(some 5), (.op (.lenSl (.t 4))), none⟩,
  ⟨(some 6), (.op (.bin .leq (.t 5) (.k (.int .i64 140)))), none⟩,
  ⟨(some 2), (.op (.mv (.t 6))), none⟩])
  .ret)),
  [(.t 2)]⟩
def c_lanyardref09_Frame : RFn :=
  ⟨28,
  (.seq
  (.ops [] [
  ⟨(some 2), (.op (.box (.t 0))), none⟩,
  ⟨(some 4), (.op (.mv (.k (.slice none 0 0)))), none⟩,
  ⟨(some 5), (.op (.mv (.k (.int .i64 0)))), none⟩])
  (.seq
  (.seq
  (.ops [] [
  ⟨(some 7), (.op (.mv (.t 1))), none⟩,
  ⟨(some 8), (.op (.bin .lss (.t 7) (.k (.int .i64 62)))), none⟩,
  ⟨(some 9), (.op (.mv (.t 8))), none⟩,
  ⟨(some 10), (.op (.mv (.t 1))), (some (9, false))⟩,
  ⟨(some 11), (.op (.bin .gtr (.t 10) (.k (.int .i64 512)))), (some (9, false))⟩,
  ⟨(some 12), (.op (.pick (.t 9) (.k (.bool true)) (.t 11))), none⟩])
  (.cond (.t 12)
  (.seq
  (.ops [] [
  ⟨(some 4), (.op (.mv (.k (.slice none 0 0)))), none⟩,
  ⟨(some 5), (.op (.mv (.k (.int .i64 1)))), none⟩])
  .ret)
  .skip))
  (.seq
  (.ops [] [
  ⟨(some 13), (.op (.mkSl 2 [(.int .u8 0), (.int .u8 0)] [(0, (1, (.k (.int .u8 0)))), (1, (1, (.k (.int .u8 1))))])), none⟩,
  ⟨(some 6), (.op (.mv (.t 13))), none⟩])
  (.seq
  (.block 0
  (.loop
  (.seq
  (.seq
  (.ops [] [
  ⟨(some 14), (.op (.mv (.t 6))), none⟩,
  ⟨(some 15), (.op (.lenSl (.t 14))), none⟩,
  ⟨(some 16), (.op (.mv (.t 1))), none⟩,
  ⟨(some 17), (.op (.bin .sub (.t 16) (.k (.int .i64 52)))), none⟩,
  ⟨(some 18), (.op (.bin .lss (.t 15) (.t 17))), none⟩])
  (.cond (.t 18)
  .skip
  (.exit 0)))
  (.block 1
  (.ops [] [
  ⟨(some 19), (.op (.mv (.t 6))), none⟩,
  ⟨(some 20), (.op (.mkSl 1 [(.int .u8 0)] [(0, (1, (.k (.int .u8 255))))])), none⟩,
  ⟨(some 21), (.op (.append 1 1 (.t 19) (.t 20))), none⟩,
  ⟨(some 6), (.op (.mv (.t 21))), none⟩])))))
  (.seq
  (.ops [] [
  ⟨(some 22), (.op (.mv (.t 6))), none⟩,
  ⟨(some 23), (.op (.mkSl 20 [(.int .u8 0), (.int .u8 0), (.int .u8 0), (.int .u8 0), (.int .u8 0), (.int .u8 0), (.int .u8 0), (.int .u8 0), (.int .u8 0), (.int .u8 0), (.int .u8 0), (.int .u8 0), (.int .u8 0), (.int .u8 0), (.int .u8 0), (.int .u8 0), (.int .u8 0), (.int .u8 0), (.int .u8 0), (.int .u8 0)] [(0, (1, (.k (.int .u8 0)))), (1, (1, (.k (.int .u8 48)))), (2, (1, (.k (.int .u8 49)))), (3, (1, (.k (.int .u8 48)))), (4, (1, (.k (.int .u8 13)))), (5, (1, (.k (.int .u8 6)))), (6, (1, (.k (.int .u8 9)))), (7, (1, (.k (.int .u8 96)))), (8, (1, (.k (.int .u8 134)))), (9, (1, (.k (.int .u8 72)))), (10, (1, (.k (.int .u8 1)))), (11, (1, (.k (.int .u8 101)))), (12, (1, (.k (.int .u8 3)))), (13, (1, (.k (.int .u8 4)))), (14, (1, (.k (.int .u8 2)))), (15, (1, (.k (.int .u8 1)))), (16, (1, (.k (.int .u8 5)))), (17, (1, (.k (.int .u8 0)))), (18, (1, (.k (.int .u8 4)))), (19, (1, (.k (.int .u8 32))))])), none⟩,
  ⟨(some 24), (.op (.append 1 1 (.t 22) (.t 23))), none⟩,
  ⟨(some 6), (.op (.mv (.t 24))), none⟩])
  (.seq
  (.ops [] [
  ⟨(some 25), (.op (.mv (.t 6))), none⟩,
  ⟨(some 26), (.op (.slArr 32 1 (.t 2) none none none)), none⟩,
  ⟨(some 27), (.op (.append 1 1 (.t 25) (.t 26))), none⟩,
  ⟨(some 4), (.op (.mv (.t 27))), none⟩,
  ⟨(some 5), (.op (.mv (.k (.int .i64 0)))), none⟩])
  .ret)))))),
  [(.t 4), (.t 5)]⟩
theorem r_lanyardref09_Frame : resolveFn Try.prog 23 = some c_lanyardref09_Frame := by kernel_rfl

def c_lanyardref09_Right : RFn :=
  ⟨41,
  (.seq
  (.ops [] [
  ⟨(some 1), (.op (.box (.t 0))), none⟩,
  ⟨(some 2), (.op (.mv (.k (.bool false)))), none⟩])
  (.seq
  (.ops [] [
  ⟨(some 4), (.op (.fieldAddr 0 (.t 1))), none⟩,
  ⟨(some 5), (.op (.load1 (.t 4))), none⟩,
  ⟨(some 6), (.op (.lenSl (.t 5))), none⟩,
  ⟨(some 3), (.op (.mv (.t 6))), none⟩])
  (.seq
  (.ops [] [
  ⟨(some 7), (.op (.mv (.t 3))), none⟩,
  ⟨(some 8), (.op (.bin .geq (.t 7) (.k (.int .i64 62)))), none⟩,
  ⟨(some 9), (.op (.mv (.t 8))), none⟩,
  ⟨(some 10), (.op (.mv (.t 3))), (some (9, true))⟩,
  ⟨(some 11), (.op (.bin .leq (.t 10) (.k (.int .i64 512)))), (some (9, true))⟩,
  ⟨(some 12), (.op (.pick (.t 9) (.t 11) (.k (.bool false)))), none⟩,
  ⟨(some 13), (.op (.mv (.t 12))), none⟩,
  ⟨(some 14), (.op (.fieldAddr 0 (.t 1))), (some (13, true))⟩,
  ⟨(some 15), (.op (.load1 (.t 14))), (some (13, true))⟩,
  ⟨(some 16), (.op (.ixAddr 1 (.t 15) (.k (.int .i64 0)))), (some (13, true))⟩,
  ⟨(some 17), (.op (.load1 (.t 16))), (some (13, true))⟩,
  ⟨(some 18), (.op (.bin .neq (.t 17) (.k (.int .u8 0)))), (some (13, true))⟩,
  ⟨(some 19), (.op (.pick (.t 13) (.t 18) (.k (.bool false)))), none⟩,
  ⟨(some 20), (.op (.mv (.t 19))), none⟩,
  ⟨(some 21), (.op (.fieldAddr 0 (.t 1))), (some (20, true))⟩,
  ⟨(some 22), (.op (.load1 (.t 21))), (some (20, true))⟩,
  ⟨(some 23), (.op (.mv (.t 3))), (some (20, true))⟩,
  ⟨(some 24), (.op (.bin .sub (.t 23) (.k (.int .i64 1)))), (some (20, true))⟩,
  ⟨(some 25), (.op (.ixAddr 1 (.t 22) (.t 24))), (some (20, true))⟩,
  ⟨(some 26), (.op (.load1 (.t 25))), (some (20, true))⟩,
  ⟨(some 27), (.op (.bin .rem (.t 26) (.k (.int .u8 2)))), (some (20, true))⟩,
  ⟨(some 28), (.op (.bin .eql (.t 27) (.k (.int .u8 1)))), (some (20, true))⟩,
  ⟨(some 29), (.op (.pick (.t 20) (.t 28) (.k (.bool false)))), none⟩,
  ⟨(some 30), (.op (.mv (.t 29))), none⟩,
  ⟨(some 31), (.op (.fieldAddr 1 (.t 1))), (some (30, true))⟩,
  ⟨(some 32), (.op (.load1 (.t 31))), (some (30, true))⟩,
  ⟨(some 33), (.op (.bin .rem (.t 32) (.k (.int .u32 2)))), (some (30, true))⟩,
  ⟨(some 34), (.op (.bin .eql (.t 33) (.k (.int .u32 1)))), (some (30, true))⟩,
  ⟨(some 35), (.op (.pick (.t 30) (.t 34) (.k (.bool false)))), none⟩,
  ⟨(some 36), (.op (.mv (.t 35))), none⟩,
  ⟨(some 37), (.op (.fieldAddr 1 (.t 1))), (some (36, true))⟩,
  ⟨(some 38), (.op (.load1 (.t 37))), (some (36, true))⟩,
  ⟨(some 39), (.op (.bin .geq (.t 38) (.k (.int .u32 3)))), (some (36, true))⟩,
  ⟨(some 40), (.op (.pick (.t 36) (.t 39) (.k (.bool false)))), none⟩,
  ⟨(some 2), (.op (.mv (.t 40))), none⟩])
  .ret))),
  [(.t 2)]⟩
def c_lanyardref09_Padded : RFn :=
  ⟨16,
  (.seq
  (.ops [] [
  ⟨(some 4), (.op (.mv (.k (.slice none 0 0)))), none⟩])
  (.seq
  (.ops [] [
  ⟨(some 6), (.op (.mv (.t 0))), none⟩,
  ⟨(some 7), (.call (.k (.func (.func 54) #[] #[])) [(.t 6)]), none⟩,
  ⟨(some 5), (.op (.mv (.t 7))), none⟩])
  (.seq
  (.ops [] [
  ⟨(some 8), (.op (.mv (.t 1))), none⟩,
  ⟨(some 9), (.op (.mv (.t 5))), none⟩,
  ⟨(some 10), (.op (.lenSl (.t 9))), none⟩,
  ⟨(some 11), (.op (.bin .sub (.t 8) (.t 10))), none⟩,
  ⟨(some 12), (.op (.mm true (.t 11) [(.k (.int .i64 0))])), none⟩,
  ⟨(some 13), (.op (.make 1 1 [(.int .u8 0)] (.t 12) (.t 12))), none⟩,
  ⟨(some 14), (.op (.mv (.t 5))), none⟩,
  ⟨(some 15), (.op (.append 1 1 (.t 13) (.t 14))), none⟩,
  ⟨(some 4), (.op (.mv (.t 15))), none⟩])
  .ret))),
  [(.t 4)]⟩
theorem r_lanyardref09_Padded : resolveFn Try.prog 50 = some c_lanyardref09_Padded := by kernel_rfl

def c_lanyardref09_Power : RFn :=
  ⟨44,
  (.seq
  (.ops [] [
  ⟨(some 2), (.op (.box (.t 0))), none⟩,
  ⟨(some 4), (.op (.mv (.k (.slice none 0 0)))), none⟩,
  ⟨(some 5), (.op (.mv (.k (.int .i64 0)))), none⟩])
  (.seq
  (.seq
  (.ops [] [
  ⟨(some 10), (.op (.loadN 2 (.t 2))), none⟩,
  ⟨(some 11), (.call (.k (.func (.func 25) #[] #[])) [(.t 10)]), none⟩,
  ⟨(some 12), (.op (.un .not (.t 11))), none⟩])
  (.cond (.t 12)
  (.seq
  (.ops [] [
  ⟨(some 4), (.op (.mv (.k (.slice none 0 0)))), none⟩,
  ⟨(some 5), (.op (.mv (.k (.int .i64 1)))), none⟩])
  .ret)
  .skip))
  (.seq
  (.ops [] [
  ⟨(some 13), (.op (.fieldAddr 0 (.t 2))), none⟩,
  ⟨(some 14), (.op (.load1 (.t 13))), none⟩,
  ⟨(some 15), (.call (.k (.func (.func 47) #[] #[])) [(.t 14)]), none⟩,
  ⟨(some 6), (.op (.mv (.t 15))), none⟩])
  (.seq
  (.ops [] [
  ⟨(some 16), (.op (.mv (.t 1))), none⟩,
  ⟨(some 17), (.call (.k (.func (.func 47) #[] #[])) [(.t 16)]), none⟩,
  ⟨(some 7), (.op (.mv (.t 17))), none⟩])
  (.seq
  (.seq
  (.ops [] [
  ⟨(some 18), (.op (.mv (.t 1))), none⟩,
  ⟨(some 19), (.op (.lenSl (.t 18))), none⟩,
  ⟨(some 20), (.op (.fieldAddr 0 (.t 2))), none⟩,
  ⟨(some 21), (.op (.load1 (.t 20))), none⟩,
  ⟨(some 22), (.op (.lenSl (.t 21))), none⟩,
  ⟨(some 23), (.op (.bin .neq (.t 19) (.t 22))), none⟩,
  ⟨(some 24), (.op (.mv (.t 23))), none⟩,
  ⟨(some 25), (.op (.mv (.t 7))), (some (24, false))⟩,
  ⟨(some 26), (.op (.mv (.t 6))), (some (24, false))⟩,
  ⟨(some 27), (.call (.k (.func (.func 48) #[] #[])) [(.t 25), (.t 26)]), (some (24, false))⟩,
  ⟨(some 28), (.op (.bin .geq (.t 27) (.k (.int .i64 0)))), (some (24, false))⟩,
  ⟨(some 29), (.op (.pick (.t 24) (.k (.bool true)) (.t 28))), none⟩])
  (.cond (.t 29)
  (.seq
  (.ops [] [
  ⟨(some 4), (.op (.mv (.k (.slice none 0 0)))), none⟩,
  ⟨(some 5), (.op (.mv (.k (.int .i64 6)))), none⟩])
  .ret)
  .skip))
  (.seq
  (.ops [] [
  ⟨(some 31), (.op (.mv (.t 7))), none⟩,
  ⟨(some 32), (.op (.fieldAddr 1 (.t 2))), none⟩,
  ⟨(some 33), (.op (.load1 (.t 32))), none⟩,
  ⟨(some 34), (.op (.mkSl 1 [(.int .u32 0)] [(0, (1, (.t 33)))])), none⟩,
  ⟨(some 35), (.op (.mv (.t 6))), none⟩,
  ⟨(some 36), (.call (.k (.func (.func 49) #[] #[])) [(.t 31), (.t 34), (.t 35)]), none⟩,
  ⟨(some 30), (.op (.mv (.t 36))), none⟩,
  ⟨(some 37), (.op (.extract (.t 30) 0)), none⟩,
  ⟨(some 38), (.op (.extract (.t 30) 1)), none⟩,
  ⟨(some 8), (.op (.mv (.t 37))), none⟩,
  ⟨(some 9), (.op (.mv (.t 38))), none⟩])
  (.seq
  (.ops [] [
  ⟨(some 39), (.op (.mv (.t 8))), none⟩,
  ⟨(some 40), (.op (.fieldAddr 0 (.t 2))), none⟩,
  ⟨(some 41), (.op (.load1 (.t 40))), none⟩,
  ⟨(some 42), (.op (.lenSl (.t 41))), none⟩,
  ⟨(some 43), (.call (.k (.func (.func 50) #[] #[])) [(.t 39), (.t 42)]), none⟩,
  ⟨(some 4), (.op (.mv (.t 43))), none⟩,
  ⟨(some 5), (.op (.mv (.k (.int .i64 0)))), none⟩])
  .ret))))))),
  [(.t 4), (.t 5)]⟩
def c_lanyardref09_Verify : RFn :=
  ⟨34,
  (.seq
  (.ops [] [
  ⟨(some 3), (.op (.box (.t 0))), none⟩,
  ⟨(some 6), (.op (.mv (.k (.int .i64 0)))), none⟩])
  (.seq
  (.ops [] [
  ⟨(some 12), (.op (.loadN 2 (.t 3))), none⟩,
  ⟨(some 13), (.op (.mv (.t 2))), none⟩,
  ⟨(some 14), (.call (.k (.func (.func 28) #[] #[])) [(.t 12), (.t 13)]), none⟩,
  ⟨(some 11), (.op (.mv (.t 14))), none⟩,
  ⟨(some 15), (.op (.extract (.t 11) 0)), none⟩,
  ⟨(some 16), (.op (.extract (.t 11) 1)), none⟩,
  ⟨(some 7), (.op (.mv (.t 15))), none⟩,
  ⟨(some 8), (.op (.mv (.t 16))), none⟩])
  (.seq
  (.seq
  (.ops [] [
  ⟨(some 17), (.op (.mv (.t 8))), none⟩,
  ⟨(some 18), (.op (.bin .neq (.t 17) (.k (.int .i64 0)))), none⟩])
  (.cond (.t 18)
  (.seq
  (.ops [] [
  ⟨(some 19), (.op (.mv (.t 8))), none⟩,
  ⟨(some 6), (.op (.mv (.t 19))), none⟩])
  .ret)
  .skip))
  (.seq
  (.ops [
  ⟨(some 21), (.op (.mv (.t 1))), none⟩,
  ⟨(some 22), (.call (.k (.func (.func 17) #[] #[])) [(.t 21)]), none⟩,
  ⟨(some 23), (.op (.fieldAddr 0 (.t 3))), none⟩,
  ⟨(some 24), (.op (.load1 (.t 23))), none⟩,
  ⟨(some 25), (.op (.lenSl (.t 24))), none⟩,
  ⟨(some 26), (.call (.k (.func (.func 23) #[] #[])) [(.t 22), (.t 25)]), none⟩,
  ⟨(some 20), (.op (.mv (.t 26))), none⟩,
  ⟨(some 27), (.op (.extract (.t 20) 0)), none⟩,
  ⟨(some 28), (.op (.extract (.t 20) 1)), none⟩,
  ⟨(some 9), (.op (.mv (.t 27))), none⟩] [
  ⟨(some 10), (.op (.mv (.t 28))), none⟩])
  (.seq
  (.seq
  (.ops [] [
  ⟨(some 29), (.op (.mv (.t 7))), none⟩,
  ⟨(some 30), (.op (.b2s (.t 29))), none⟩,
  ⟨(some 31), (.op (.mv (.t 9))), none⟩,
  ⟨(some 32), (.op (.b2s (.t 31))), none⟩,
  ⟨(some 33), (.op (.bin .neq (.t 30) (.t 32))), none⟩])
  (.cond (.t 33)
  (.seq
  (.ops [] [
  ⟨(some 6), (.op (.mv (.k (.int .i64 6)))), none⟩])
  .ret)
  .skip))
  (.seq
  (.ops [] [
  ⟨(some 6), (.op (.mv (.k (.int .i64 0)))), none⟩])
  .ret)))))),
  [(.t 6)]⟩
def c_lanyardref09_primes : RFn :=
  ⟨2,
  (.seq
  (.ops [] [
  ⟨(some 0), (.op (.mv (.k (.slice none 0 0)))), none⟩])
  (.seq
  (.ops [] [
  ⟨(some 1), (.op (.mkSl 69 [(.int .u32 0), (.int .u32 0), (.int .u32 0), (.int .u32 0), (.int .u32 0), (.int .u32 0), (.int .u32 0), (.int .u32 0), (.int .u32 0), (.int .u32 0), (.int .u32 0), (.int .u32 0), (.int .u32 0), (.int .u32 0), (.int .u32 0), (.int .u32 0), (.int .u32 0), (.int .u32 0), (.int .u32 0), (.int .u32 0), (.int .u32 0), (.int .u32 0), (.int .u32 0), (.int .u32 0), (.int .u32 0), (.int .u32 0), (.int .u32 0), (.int .u32 0), (.int .u32 0), (.int .u32 0), (.int .u32 0), (.int .u32 0), (.int .u32 0), (.int .u32 0), (.int .u32 0), (.int .u32 0), (.int .u32 0), (.int .u32 0), (.int .u32 0), (.int .u32 0), (.int .u32 0), (.int .u32 0), (.int .u32 0), (.int .u32 0), (.int .u32 0), (.int .u32 0), (.int .u32 0), (.int .u32 0), (.int .u32 0), (.int .u32 0), (.int .u32 0), (.int .u32 0), (.int .u32 0), (.int .u32 0), (.int .u32 0), (.int .u32 0), (.int .u32 0), (.int .u32 0), (.int .u32 0), (.int .u32 0), (.int .u32 0), (.int .u32 0), (.int .u32 0), (.int .u32 0), (.int .u32 0), (.int .u32 0), (.int .u32 0), (.int .u32 0), (.int .u32 0)] [(0, (1, (.k (.int .u32 3)))), (1, (1, (.k (.int .u32 5)))), (2, (1, (.k (.int .u32 7)))), (3, (1, (.k (.int .u32 11)))), (4, (1, (.k (.int .u32 13)))), (5, (1, (.k (.int .u32 17)))), (6, (1, (.k (.int .u32 19)))), (7, (1, (.k (.int .u32 23)))), (8, (1, (.k (.int .u32 29)))), (9, (1, (.k (.int .u32 31)))), (10, (1, (.k (.int .u32 37)))), (11, (1, (.k (.int .u32 41)))), (12, (1, (.k (.int .u32 43)))), (13, (1, (.k (.int .u32 53)))), (14, (1, (.k (.int .u32 61)))), (15, (1, (.k (.int .u32 67)))), (16, (1, (.k (.int .u32 71)))), (17, (1, (.k (.int .u32 73)))), (18, (1, (.k (.int .u32 79)))), (19, (1, (.k (.int .u32 89)))), (20, (1, (.k (.int .u32 113)))), (21, (1, (.k (.int .u32 127)))), (22, (1, (.k (.int .u32 131)))), (23, (1, (.k (.int .u32 157)))), (24, (1, (.k (.int .u32 181)))), (25, (1, (.k (.int .u32 199)))), (26, (1, (.k (.int .u32 211)))), (27, (1, (.k (.int .u32 241)))), (28, (1, (.k (.int .u32 281)))), (29, (1, (.k (.int .u32 313)))), (30, (1, (.k (.int .u32 331)))), (31, (1, (.k (.int .u32 337)))), (32, (1, (.k (.int .u32 397)))), (33, (1, (.k (.int .u32 421)))), (34, (1, (.k (.int .u32 463)))), (35, (1, (.k (.int .u32 521)))), (36, (1, (.k (.int .u32 547)))), (37, (1, (.k (.int .u32 617)))), (38, (1, (.k (.int .u32 631)))), (39, (1, (.k (.int .u32 661)))), (40, (1, (.k (.int .u32 859)))), (41, (1, (.k (.int .u32 881)))), (42, (1, (.k (.int .u32 911)))), (43, (1, (.k (.int .u32 937)))), (44, (1, (.k (.int .u32 991)))), (45, (1, (.k (.int .u32 1009)))), (46, (1, (.k (.int .u32 1093)))), (47, (1, (.k (.int .u32 1171)))), (48, (1, (.k (.int .u32 1321)))), (49, (1, (.k (.int .u32 1873)))), (50, (1, (.k (.int .u32 2003)))), (51, (1, (.k (.int .u32 2311)))), (52, (1, (.k (.int .u32 2341)))), (53, (1, (.k (.int .u32 2521)))), (54, (1, (.k (.int .u32 2731)))), (55, (1, (.k (.int .u32 2861)))), (56, (1, (.k (.int .u32 3121)))), (57, (1, (.k (.int .u32 3433)))), (58, (1, (.k (.int .u32 3697)))), (59, (1, (.k (.int .u32 4621)))), (60, (1, (.k (.int .u32 6007)))), (61, (1, (.k (.int .u32 6553)))), (62, (1, (.k (.int .u32 8009)))), (63, (1, (.k (.int .u32 8191)))), (64, (1, (.k (.int .u32 9241)))), (65, (1, (.k (.int .u32 16381)))), (66, (1, (.k (.int .u32 18481)))), (67, (1, (.k (.int .u32 20021)))), (68, (1, (.k (.int .u32 20593))))])), none⟩,
  ⟨(some 0), (.op (.mv (.t 1))), none⟩])
  .ret)),
  [(.t 0)]⟩
theorem r_lanyardref09_primes : resolveFn Try.prog 52 = some c_lanyardref09_primes := by kernel_rfl

def c_lanyardref09_Key : RFn :=
  ⟨29,
  (.seq
  (.ops [] [
  ⟨(some 2), (.op (.new [(.slice none 0 0), (.int .u32 0)])), none⟩])
  (.seq
  (.ops [] [
  ⟨(some 6), (.call (.k (.func (.func 52) #[] #[])) []), none⟩,
  ⟨(some 3), (.op (.mv (.t 6))), none⟩])
  (.seq
  (.ops [] [
  ⟨(some 7), (.op (.mkSl 1 [(.int .u32 0)] [(0, (1, (.k (.int .u32 1))))])), none⟩,
  ⟨(some 4), (.op (.mv (.t 7))), none⟩])
  (.seq
  (.seq
  (.ops [] [
  ⟨(some 5), (.op (.mv (.k (.int .i64 0)))), none⟩])
  (.block 0
  (.loop
  (.seq
  (.seq
  (.ops [] [
  ⟨(some 8), (.op (.mv (.t 5))), none⟩,
  ⟨(some 9), (.op (.mv (.t 3))), none⟩,
  ⟨(some 10), (.op (.lenSl (.t 9))), none⟩,
  ⟨(some 11), (.op (.bin .lss (.t 8) (.t 10))), none⟩])
  (.cond (.t 11)
  .skip
  (.exit 0)))
  (.seq
  (.block 1
  (.seq
  (.ops [] [
  ⟨(some 14), (.op (.mv (.t 5))), none⟩,
  ⟨(some 15), (.op (.bin .rem (.t 14) (.k (.int .i64 8)))), none⟩,
  ⟨(some 16), (.op (.mv (.t 0))), none⟩,
  ⟨(some 17), (.op (.bin .rem (.t 16) (.k (.int .i64 8)))), none⟩,
  ⟨(some 18), (.op (.bin .neq (.t 15) (.t 17))), none⟩])
  (.cond (.t 18)
  (.ops [] [
  ⟨(some 19), (.op (.mv (.t 4))), none⟩,
  ⟨(some 20), (.op (.mv (.t 3))), none⟩,
  ⟨(some 21), (.op (.mv (.t 5))), none⟩,
  ⟨(some 22), (.op (.ixAddr 1 (.t 20) (.t 21))), none⟩,
  ⟨(some 23), (.op (.load1 (.t 22))), none⟩,
  ⟨(some 24), (.op (.mkSl 1 [(.int .u32 0)] [(0, (1, (.t 23)))])), none⟩,
  ⟨(some 25), (.call (.k (.func (.func 53) #[] #[])) [(.t 19), (.t 24)]), none⟩,
  ⟨(some 4), (.op (.mv (.t 25))), none⟩])
  .skip)))
  (.ops [] [
  ⟨(some 12), (.op (.mv (.t 5))), none⟩,
  ⟨(some 13), (.op (.bin .add (.t 12) (.k (.int .i64 1)))), none⟩,
  ⟨(some 5), (.op (.mv (.t 13))), none⟩]))))))
  (.seq
  (.ops [] [
  ⟨(some 26), (.op (.mv (.t 4))), none⟩,
  ⟨(some 27), (.call (.k (.func (.func 54) #[] #[])) [(.t 26)]), none⟩,
  ⟨(some 28), (.op (.build [(.slice none 0 0), (.int .u32 0)] [(0, (1, (.t 27))), (1, (1, (.k (.int .u32 65537))))])), none⟩,
  ⟨none, (.op (.store 2 (.t 2) (.t 28))), none⟩])
  .ret))))),
  [(.cN 2 2)]⟩
theorem r_lanyardref09_Key : resolveFn Try.prog 31 = some c_lanyardref09_Key := by kernel_rfl

def c_lanyardref09_Sign : RFn :=
  ⟨37,
  (.seq
  (.ops [] [
  ⟨(some 4), (.op (.mv (.k (.slice none 0 0)))), none⟩])
  (.seq
  (.ops [] [
  ⟨(some 10), (.op (.mv (.t 0))), none⟩,
  ⟨(some 11), (.call (.k (.func (.func 31) #[] #[])) [(.t 10)]), none⟩,
  ⟨(some 5), (.op (.new [(.slice none 0 0), (.int .u32 0)])), none⟩,
  ⟨none, (.op (.store 2 (.t 5) (.t 11))), none⟩])
  (.seq
  (.ops [
  ⟨(some 13), (.op (.mv (.t 1))), none⟩,
  ⟨(some 14), (.call (.k (.func (.func 17) #[] #[])) [(.t 13)]), none⟩,
  ⟨(some 15), (.op (.fieldAddr 0 (.t 5))), none⟩,
  ⟨(some 16), (.op (.load1 (.t 15))), none⟩,
  ⟨(some 17), (.op (.lenSl (.t 16))), none⟩,
  ⟨(some 18), (.call (.k (.func (.func 23) #[] #[])) [(.t 14), (.t 17)]), none⟩,
  ⟨(some 12), (.op (.mv (.t 18))), none⟩,
  ⟨(some 19), (.op (.extract (.t 12) 0)), none⟩,
  ⟨(some 20), (.op (.extract (.t 12) 1)), none⟩,
  ⟨(some 6), (.op (.mv (.t 19))), none⟩] [
  ⟨(some 7), (.op (.mv (.t 20))), none⟩])
  (.seq
  (.ops [
  ⟨(some 22), (.op (.mv (.t 6))), none⟩,
  ⟨(some 23), (.call (.k (.func (.func 47) #[] #[])) [(.t 22)]), none⟩,
  ⟨(some 24), (.call (.k (.func (.func 55) #[] #[])) []), none⟩,
  ⟨(some 25), (.op (.mkSl 1 [(.int .u32 0)] [(0, (1, (.t 24)))])), none⟩,
  ⟨(some 26), (.op (.fieldAddr 0 (.t 5))), none⟩,
  ⟨(some 27), (.op (.load1 (.t 26))), none⟩,
  ⟨(some 28), (.call (.k (.func (.func 47) #[] #[])) [(.t 27)]), none⟩,
  ⟨(some 29), (.call (.k (.func (.func 49) #[] #[])) [(.t 23), (.t 25), (.t 28)]), none⟩,
  ⟨(some 21), (.op (.mv (.t 29))), none⟩,
  ⟨(some 30), (.op (.extract (.t 21) 0)), none⟩,
  ⟨(some 31), (.op (.extract (.t 21) 1)), none⟩,
  ⟨(some 8), (.op (.mv (.t 30))), none⟩] [
  ⟨(some 9), (.op (.mv (.t 31))), none⟩])
  (.seq
  (.ops [] [
  ⟨(some 32), (.op (.mv (.t 8))), none⟩,
  ⟨(some 33), (.op (.fieldAddr 0 (.t 5))), none⟩,
  ⟨(some 34), (.op (.load1 (.t 33))), none⟩,
  ⟨(some 35), (.op (.lenSl (.t 34))), none⟩,
  ⟨(some 36), (.call (.k (.func (.func 50) #[] #[])) [(.t 32), (.t 35)]), none⟩,
  ⟨(some 4), (.op (.mv (.t 36))), none⟩])
  .ret))))),
  [(.t 4)]⟩
theorem r_lanyardref09_Sign : resolveFn Try.prog 32 = some c_lanyardref09_Sign := by kernel_rfl

def c_lanyardref09_inverse : RFn :=
  ⟨10,
  (.seq
  (.ops [] [
  ⟨(some 0), (.op (.mv (.k (.int .u32 0)))), none⟩])
  (.seq
  (.ops [] [
  ⟨(some 1), (.op (.mv (.k (.int .u64 1)))), none⟩])
  (.seq
  (.block 0
  (.loop
  (.seq
  (.seq
  (.ops [] [
  ⟨(some 2), (.op (.mv (.t 1))), none⟩,
  ⟨(some 3), (.op (.bin .mul (.t 2) (.k (.int .u64 65537)))), none⟩,
  ⟨(some 4), (.op (.bin .rem (.t 3) (.k (.int .u64 720720)))), none⟩,
  ⟨(some 5), (.op (.bin .neq (.t 4) (.k (.int .u64 1)))), none⟩])
  (.cond (.t 5)
  .skip
  (.exit 0)))
  (.block 1
  (.ops [] [
  ⟨(some 6), (.op (.mv (.t 1))), none⟩,
  ⟨(some 7), (.op (.bin .add (.t 6) (.k (.int .u64 1)))), none⟩,
  ⟨(some 1), (.op (.mv (.t 7))), none⟩])))))
  (.seq
  (.ops [] [
  ⟨(some 8), (.op (.mv (.t 1))), none⟩,
  ⟨(some 9), (.op (.toInt .u32 (.t 8))), none⟩,
  ⟨(some 0), (.op (.mv (.t 9))), none⟩])
  .ret)))),
  [(.t 0)]⟩
theorem r_lanyardref09_inverse : resolveFn Try.prog 55 = some c_lanyardref09_inverse := by kernel_rfl

def c_lanyardlaw09_awake : RFn :=
  ⟨45,
  (.seq
  (.ops [] [
  ⟨(some 0), (.op (.mv (.k (.bool false)))), none⟩])
  (.seq
  (.ops [] [
  ⟨(some 4), (.op (.build [(.int .u8 0), (.int .u8 0), (.int .u8 0), (.int .u8 0), (.int .u8 0), (.int .u8 0), (.int .u8 0), (.int .u8 0), (.int .u8 0), (.int .u8 0), (.int .u8 0), (.int .u8 0), (.int .u8 0), (.int .u8 0), (.int .u8 0), (.int .u8 0), (.int .u8 0), (.int .u8 0), (.int .u8 0), (.int .u8 0), (.int .u8 0), (.int .u8 0), (.int .u8 0), (.int .u8 0), (.int .u8 0), (.int .u8 0), (.int .u8 0), (.int .u8 0), (.int .u8 0), (.int .u8 0), (.int .u8 0), (.int .u8 0)] [(0, (1, (.k (.int .u8 7))))])), none⟩,
  ⟨(some 5), (.call (.k (.func (.func 22) #[] #[])) [(.t 4), (.k (.int .i64 62))]), none⟩,
  ⟨(some 3), (.op (.mv (.t 5))), none⟩,
  ⟨(some 6), (.op (.extract (.t 3) 0)), none⟩,
  ⟨(some 7), (.op (.extract (.t 3) 1)), none⟩,
  ⟨(some 1), (.op (.mv (.t 6))), none⟩,
  ⟨(some 2), (.op (.mv (.t 7))), none⟩])
  (.seq
  (.ops [] [
  ⟨(some 8), (.op (.mv (.t 2))), none⟩,
  ⟨(some 9), (.op (.bin .eql (.t 8) (.k (.int .i64 0)))), none⟩,
  ⟨(some 10), (.op (.mv (.t 9))), none⟩,
  ⟨(some 11), (.op (.mv (.t 1))), (some (10, true))⟩,
  ⟨(some 12), (.op (.lenSl (.t 11))), (some (10, true))⟩,
  ⟨(some 13), (.op (.bin .eql (.t 12) (.k (.int .i64 62)))), (some (10, true))⟩,
  ⟨(some 14), (.op (.pick (.t 10) (.t 13) (.k (.bool false)))), none⟩,
  ⟨(some 15), (.op (.mv (.t 14))), none⟩,
  ⟨(some 16), (.op (.mv (.t 1))), (some (15, true))⟩,
  ⟨(some 17), (.op (.ixAddr 1 (.t 16) (.k (.int .i64 1)))), (some (15, true))⟩,
  ⟨(some 18), (.op (.load1 (.t 17))), (some (15, true))⟩,
  ⟨(some 19), (.op (.bin .eql (.t 18) (.k (.int .u8 1)))), (some (15, true))⟩,
  ⟨(some 20), (.op (.pick (.t 15) (.t 19) (.k (.bool false)))), none⟩,
  ⟨(some 21), (.op (.mv (.t 20))), none⟩,
  ⟨(some 22), (.op (.mv (.t 1))), (some (21, true))⟩,
  ⟨(some 23), (.op (.ixAddr 1 (.t 22) (.k (.int .i64 9)))), (some (21, true))⟩,
  ⟨(some 24), (.op (.load1 (.t 23))), (some (21, true))⟩,
  ⟨(some 25), (.op (.bin .eql (.t 24) (.k (.int .u8 255)))), (some (21, true))⟩,
  ⟨(some 26), (.op (.pick (.t 21) (.t 25) (.k (.bool false)))), none⟩,
  ⟨(some 27), (.op (.mv (.t 26))), none⟩,
  ⟨(some 28), (.op (.mv (.t 1))), (some (27, true))⟩,
  ⟨(some 29), (.op (.ixAddr 1 (.t 28) (.k (.int .i64 10)))), (some (27, true))⟩,
  ⟨(some 30), (.op (.load1 (.t 29))), (some (27, true))⟩,
  ⟨(some 31), (.op (.bin .eql (.t 30) (.k (.int .u8 0)))), (some (27, true))⟩,
  ⟨(some 32), (.op (.pick (.t 27) (.t 31) (.k (.bool false)))), none⟩,
  ⟨(some 33), (.op (.mv (.t 32))), none⟩,
  ⟨(some 34), (.op (.mv (.t 1))), (some (33, true))⟩,
  ⟨(some 35), (.op (.ixAddr 1 (.t 34) (.k (.int .i64 11)))), (some (33, true))⟩,
  ⟨(some 36), (.op (.load1 (.t 35))), (some (33, true))⟩,
  ⟨(some 37), (.op (.bin .eql (.t 36) (.k (.int .u8 48)))), (some (33, true))⟩,
  ⟨(some 38), (.op (.pick (.t 33) (.t 37) (.k (.bool false)))), none⟩,
  ⟨(some 39), (.op (.mv (.t 38))), none⟩,
  ⟨(some 40), (.op (.mv (.t 1))), (some (39, true))⟩,
  ⟨(some 41), (.op (.ixAddr 1 (.t 40) (.k (.int .i64 30)))), (some (39, true))⟩,
  ⟨(some 42), (.op (.load1 (.t 41))), (some (39, true))⟩,
  ⟨(some 43), (.op (.bin .eql (.t 42) (.k (.int .u8 7)))), (some (39, true))⟩,
  ⟨(some 44), (.op (.pick (.t 39) (.t 43) (.k (.bool false)))), none⟩,
  ⟨(some 0), (.op (.mv (.t 44))), none⟩])
  .ret))),
  [(.t 0)]⟩
theorem r_lanyardlaw09_awake : resolveFn Try.prog 20 = some c_lanyardlaw09_awake := by kernel_rfl

def c_lanyardlaw09_RsaFrames : RFn :=
  ⟨51,
  (.seq
  (.ops [] [
  ⟨(some 3), (.op (.box (.t 0))), none⟩,
  ⟨(some 5), (.op (.box (.t 2))), none⟩,
  ⟨(some 6), (.op (.mv (.k (.bool false)))), none⟩])
  (.seq
  (.ops [] [
  ⟨(some 13), (.call (.k (.func (.func 20) #[] #[])) []), none⟩,
  ⟨(some 7), (.op (.mv (.t 13))), none⟩])
  (.seq
  (.ops [] [
  ⟨(some 14), (.op (.loadN 2 (.t 5))), none⟩,
  ⟨(some 15), (.call (.k (.func (.func 21) #[] #[])) [(.t 14)]), none⟩,
  ⟨(some 8), (.op (.mv (.t 15))), none⟩])
  (.seq
  (.seq
  (.ops [] [
  ⟨(some 16), (.op (.mv (.t 8))), none⟩,
  ⟨(some 17), (.op (.un .not (.t 16))), none⟩])
  (.cond (.t 17)
  (.seq
  (.ops [] [
  ⟨(some 18), (.op (.mv (.t 7))), none⟩,
  ⟨(some 6), (.op (.mv (.t 18))), none⟩])
  .ret)
  .skip))
  (.seq
  (.ops [] [
  ⟨(some 20), (.op (.loadN 32 (.t 3))), none⟩,
  ⟨(some 21), (.op (.mv (.t 1))), none⟩,
  ⟨(some 22), (.call (.k (.func (.func 22) #[] #[])) [(.t 20), (.t 21)]), none⟩,
  ⟨(some 19), (.op (.mv (.t 22))), none⟩,
  ⟨(some 23), (.op (.extract (.t 19) 0)), none⟩,
  ⟨(some 24), (.op (.extract (.t 19) 1)), none⟩,
  ⟨(some 9), (.op (.mv (.t 23))), none⟩,
  ⟨(some 10), (.op (.mv (.t 24))), none⟩])
  (.seq
  (.ops [] [
  ⟨(some 26), (.op (.loadN 32 (.t 3))), none⟩,
  ⟨(some 27), (.op (.mv (.t 1))), none⟩,
  ⟨(some 28), (.call (.k (.func (.func 23) #[] #[])) [(.t 26), (.t 27)]), none⟩,
  ⟨(some 25), (.op (.mv (.t 28))), none⟩,
  ⟨(some 29), (.op (.extract (.t 25) 0)), none⟩,
  ⟨(some 30), (.op (.extract (.t 25) 1)), none⟩,
  ⟨(some 11), (.op (.mv (.t 29))), none⟩,
  ⟨(some 12), (.op (.mv (.t 30))), none⟩])
  (.seq
  (.ops [
  ⟨(some 31), (.op (.mv (.t 7))), none⟩,
  ⟨(some 32), (.op (.mv (.t 31))), none⟩,
  ⟨(some 33), (.op (.mv (.t 9))), (some (32, true))⟩,
  ⟨(some 34), (.op (.b2s (.t 33))), (some (32, true))⟩,
  ⟨(some 35), (.op (.mv (.t 11))), (some (32, true))⟩,
  ⟨(some 36), (.op (.b2s (.t 35))), (some (32, true))⟩,
  ⟨(some 37), (.op (.bin .eql (.t 34) (.t 36))), (some (32, true))⟩,
  ⟨(some 38), (.op (.pick (.t 32) (.t 37) (.k (.bool false)))), none⟩,
  ⟨(some 39), (.op (.mv (.t 38))), none⟩,
  ⟨(some 40), (.op (.mv (.t 10))), (some (39, true))⟩,
  ⟨(some 41), (.op (.mv (.t 12))), (some (39, true))⟩,
  ⟨(some 42), (.op (.bin .eql (.t 40) (.t 41))), (some (39, true))⟩,
  ⟨(some 43), (.op (.pick (.t 39) (.t 42) (.k (.bool false)))), none⟩,
  ⟨(some 44), (.op (.mv (.t 43))), none⟩,
  ⟨(some 45), (.op (.loadN 2 (.t 5))), (some (44, true))⟩,
  ⟨(some 46), (.call (.k (.func (.func 24) #[] #[])) [(.t 45)]), (some (44, true))⟩,
  ⟨(some 47), (.op (.loadN 2 (.t 5))), (some (44, true))⟩] [
  ⟨(some 48), (.call (.k (.func (.func 25) #[] #[])) [(.t 47)]), (some (44, true))⟩,
  ⟨(some 49), (.op (.eqB false (.t 46) (.t 48))), (some (44, true))⟩,
  ⟨(some 50), (.op (.pick (.t 44) (.t 49) (.k (.bool false)))), none⟩,
  ⟨(some 6), (.op (.mv (.t 50))), none⟩])
  .ret))))))),
  [(.t 6)]⟩
def c_lanyardlaw09_RsaSigns : RFn :=
  ⟨117,
  (.seq
  (.ops [] [
  ⟨(some 3), (.op (.box (.t 0))), none⟩,
  ⟨(some 6), (.op (.mv (.k (.bool false)))), none⟩])
  (.seq
  (.ops [] [
  ⟨(some 19), (.call (.k (.func (.func 20) #[] #[])) []), none⟩,
  ⟨(some 7), (.op (.mv (.t 19))), none⟩])
  (.seq
  (.ops [] [
  ⟨(some 20), (.op (.ixAddrA 2 1 (.t 3) (.k (.int .i64 0)))), none⟩,
  ⟨(some 21), (.op (.load1 (.t 20))), none⟩,
  ⟨(some 8), (.op (.mv (.t 21))), none⟩])
  (.seq
  (.ops [] [
  ⟨(some 22), (.op (.ixAddrA 2 1 (.t 3) (.k (.int .i64 1)))), none⟩,
  ⟨(some 23), (.op (.load1 (.t 22))), none⟩,
  ⟨(some 9), (.op (.mv (.t 23))), none⟩])
  (.seq
  (.seq
  (.ops [] [
  ⟨(some 24), (.op (.mv (.t 8))), none⟩,
  ⟨(some 25), (.op (.bin .lss (.t 24) (.k (.int .i64 0)))), none⟩,
  ⟨(some 26), (.op (.mv (.t 25))), none⟩,
  ⟨(some 27), (.op (.mv (.t 8))), (some (26, false))⟩,
  ⟨(some 28), (.op (.bin .gtr (.t 27) (.k (.int .i64 7)))), (some (26, false))⟩,
  ⟨(some 29), (.op (.pick (.t 26) (.k (.bool true)) (.t 28))), none⟩,
  ⟨(some 30), (.op (.mv (.t 29))), none⟩,
  ⟨(some 31), (.op (.mv (.t 1))), (some (30, false))⟩,
  ⟨(some 32), (.op (.lenSl (.t 31))), (some (30, false))⟩,
  ⟨(some 33), (.op (.bin .gtr (.t 32) (.k (.int .i64 500)))), (some (30, false))⟩,
  ⟨(some 34), (.op (.pick (.t 30) (.k (.bool true)) (.t 33))), none⟩,
  ⟨(some 35), (.op (.mv (.t 34))), none⟩,
  ⟨(some 36), (.op (.mv (.t 2))), (some (35, false))⟩,
  ⟨(some 37), (.op (.lenSl (.t 36))), (some (35, false))⟩,
  ⟨(some 38), (.op (.bin .gtr (.t 37) (.k (.int .i64 500)))), (some (35, false))⟩,
  ⟨(some 39), (.op (.pick (.t 35) (.k (.bool true)) (.t 38))), none⟩,
  ⟨(some 40), (.op (.mv (.t 39))), none⟩,
  ⟨(some 41), (.op (.mv (.t 9))), (some (40, false))⟩,
  ⟨(some 42), (.op (.bin .lss (.t 41) (.k (.int .i64 0)))), (some (40, false))⟩,
  ⟨(some 43), (.op (.pick (.t 40) (.k (.bool true)) (.t 42))), none⟩])
  (.cond (.t 43)
  (.seq
  (.ops [] [
  ⟨(some 44), (.op (.mv (.t 7))), none⟩,
  ⟨(some 6), (.op (.mv (.t 44))), none⟩])
  .ret)
  .skip))
  (.seq
  (.ops [] [
  ⟨(some 45), (.op (.mv (.t 8))), none⟩,
  ⟨(some 46), (.call (.k (.func (.func 31) #[] #[])) [(.t 45)]), none⟩,
  ⟨(some 10), (.op (.new [(.slice none 0 0), (.int .u32 0)])), none⟩,
  ⟨none, (.op (.store 2 (.t 10) (.t 46))), none⟩])
  (.seq
  (.ops [] [
  ⟨(some 47), (.op (.mv (.t 8))), none⟩,
  ⟨(some 48), (.op (.mv (.t 1))), none⟩,
  ⟨(some 49), (.call (.k (.func (.func 32) #[] #[])) [(.t 47), (.t 48)]), none⟩,
  ⟨(some 11), (.op (.mv (.t 49))), none⟩])
  (.seq
  (.ops [] [
  ⟨(some 50), (.op (.mv (.t 1))), none⟩,
  ⟨(some 51), (.call (.k (.func (.func 16) #[] #[])) [(.t 50)]), none⟩,
  ⟨(some 52), (.op (.mv (.t 2))), none⟩,
  ⟨(some 53), (.call (.k (.func (.func 16) #[] #[])) [(.t 52)]), none⟩,
  ⟨(some 54), (.op (.eqA .eql 28 (.t 51) (.t 53))), none⟩,
  ⟨(some 12), (.op (.mv (.t 54))), none⟩])
  (.seq
  (.ops [] [
  ⟨(some 55), (.op (.mkSl 0 [] [])), none⟩,
  ⟨(some 56), (.op (.mv (.t 11))), none⟩,
  ⟨(some 57), (.op (.append 1 1 (.t 55) (.t 56))), none⟩,
  ⟨(some 13), (.op (.mv (.t 57))), none⟩])
  (.seq
  (.ops [] [
  ⟨(some 58), (.op (.mv (.t 13))), none⟩,
  ⟨(some 59), (.op (.mv (.t 9))), none⟩,
  ⟨(some 60), (.op (.mv (.t 13))), none⟩,
  ⟨(some 61), (.op (.lenSl (.t 60))), none⟩,
  ⟨(some 62), (.op (.bin .rem (.t 59) (.t 61))), none⟩,
  ⟨(some 63), (.op (.ixAddr 1 (.t 58) (.t 62))), none⟩,
  ⟨(some 64), (.op (.load1 (.t 63))), none⟩,
  ⟨(some 65), (.op (.bin .xor (.t 64) (.k (.int .u8 1)))), none⟩,
  ⟨(some 66), (.op (.ixAddr 1 (.t 58) (.t 62))), none⟩,
  ⟨none, (.op (.store 1 (.t 66) (.t 65))), none⟩])
  (.seq
  (.ops [] [
  ⟨(some 68), (.op (.loadN 2 (.t 10))), none⟩,
  ⟨(some 69), (.op (.mv (.t 13))), none⟩,
  ⟨(some 70), (.call (.k (.func (.func 27) #[] #[])) [(.t 68), (.t 69)]), none⟩,
  ⟨(some 67), (.op (.mv (.t 70))), none⟩,
  ⟨(some 71), (.op (.extract (.t 67) 0)), none⟩,
  ⟨(some 72), (.op (.extract (.t 67) 1)), none⟩,
  ⟨(some 14), (.op (.mv (.t 71))), none⟩,
  ⟨(some 15), (.op (.mv (.t 72))), none⟩])
  (.seq
  (.ops [
  ⟨(some 74), (.op (.mv (.t 1))), none⟩,
  ⟨(some 75), (.call (.k (.func (.func 16) #[] #[])) [(.t 74)]), none⟩,
  ⟨(some 76), (.op (.fieldAddr 0 (.t 10))), none⟩,
  ⟨(some 77), (.op (.load1 (.t 76))), none⟩,
  ⟨(some 78), (.op (.lenSl (.t 77))), none⟩,
  ⟨(some 79), (.call (.k (.func (.func 22) #[] #[])) [(.t 75), (.t 78)]), none⟩,
  ⟨(some 73), (.op (.mv (.t 79))), none⟩,
  ⟨(some 80), (.op (.extract (.t 73) 0)), none⟩,
  ⟨(some 81), (.op (.extract (.t 73) 1)), none⟩,
  ⟨(some 16), (.op (.mv (.t 80))), none⟩] [
  ⟨(some 17), (.op (.mv (.t 81))), none⟩])
  (.seq
  (.ops [] [
  ⟨(some 82), (.op (.mv (.t 15))), none⟩,
  ⟨(some 83), (.op (.bin .eql (.t 82) (.k (.int .i64 0)))), none⟩,
  ⟨(some 84), (.op (.mv (.t 83))), none⟩,
  ⟨(some 85), (.op (.mv (.t 14))), (some (84, true))⟩,
  ⟨(some 86), (.op (.b2s (.t 85))), (some (84, true))⟩,
  ⟨(some 87), (.op (.mv (.t 16))), (some (84, true))⟩,
  ⟨(some 88), (.op (.b2s (.t 87))), (some (84, true))⟩,
  ⟨(some 89), (.op (.bin .eql (.t 86) (.t 88))), (some (84, true))⟩,
  ⟨(some 90), (.op (.pick (.t 84) (.t 89) (.k (.bool false)))), none⟩,
  ⟨(some 18), (.op (.mv (.t 90))), none⟩])
  (.seq
  (.ops [] [
  ⟨(some 91), (.op (.mv (.t 7))), none⟩,
  ⟨(some 92), (.op (.mv (.t 91))), none⟩,
  ⟨(some 93), (.op (.loadN 2 (.t 10))), (some (92, true))⟩,
  ⟨(some 94), (.op (.mv (.t 1))), (some (92, true))⟩,
  ⟨(some 95), (.op (.mv (.t 11))), (some (92, true))⟩,
  ⟨(some 96), (.call (.k (.func (.func 29) #[] #[])) [(.t 93), (.t 94), (.t 95)]), (some (92, true))⟩,
  ⟨(some 97), (.op (.bin .eql (.t 96) (.k (.int .i64 0)))), (some (92, true))⟩,
  ⟨(some 98), (.op (.pick (.t 92) (.t 97) (.k (.bool false)))), none⟩,
  ⟨(some 99), (.op (.mv (.t 98))), none⟩,
  ⟨(some 100), (.op (.loadN 2 (.t 10))), (some (99, true))⟩,
  ⟨(some 101), (.op (.mv (.t 2))), (some (99, true))⟩,
  ⟨(some 102), (.op (.mv (.t 11))), (some (99, true))⟩,
  ⟨(some 103), (.call (.k (.func (.func 29) #[] #[])) [(.t 100), (.t 101), (.t 102)]), (some (99, true))⟩,
  ⟨(some 104), (.op (.bin .eql (.t 103) (.k (.int .i64 0)))), (some (99, true))⟩,
  ⟨(some 105), (.op (.mv (.t 12))), (some (99, true))⟩,
  ⟨(some 106), (.op (.eqB false (.t 104) (.t 105))), (some (99, true))⟩,
  ⟨(some 107), (.op (.pick (.t 99) (.t 106) (.k (.bool false)))), none⟩,
  ⟨(some 108), (.op (.mv (.t 107))), none⟩,
  ⟨(some 109), (.op (.loadN 2 (.t 10))), (some (108, true))⟩,
  ⟨(some 110), (.op (.mv (.t 1))), (some (108, true))⟩,
  ⟨(some 111), (.op (.mv (.t 13))), (some (108, true))⟩,
  ⟨(some 112), (.call (.k (.func (.func 29) #[] #[])) [(.t 109), (.t 110), (.t 111)]), (some (108, true))⟩,
  ⟨(some 113), (.op (.bin .eql (.t 112) (.k (.int .i64 0)))), (some (108, true))⟩,
  ⟨(some 114), (.op (.mv (.t 18))), (some (108, true))⟩,
  ⟨(some 115), (.op (.eqB false (.t 113) (.t 114))), (some (108, true))⟩,
  ⟨(some 116), (.op (.pick (.t 108) (.t 115) (.k (.bool false)))), none⟩,
  ⟨(some 6), (.op (.mv (.t 116))), none⟩])
  .ret)))))))))))))),
  [(.t 6)]⟩
theorem r_lanyardlaw09_RsaSigns : resolveFn Try.prog 9 = some c_lanyardlaw09_RsaSigns := by kernel_rfl

end Go.Ga

namespace Go.Ga
open Go Go.Proofs
set_option maxRecDepth 100000

def c_math_bits_Add32 : RFn :=
  ⟨22,
  (.seq
  (.ops [] [
  ⟨(some 6), (.op (.mv (.k (.int .u32 0)))), none⟩,
  ⟨(some 7), (.op (.mv (.k (.int .u32 0)))), none⟩])
  (.seq
  (.ops [] [
  ⟨(some 9), (.op (.mv (.t 0))), none⟩,
  ⟨(some 10), (.op (.toInt .u64 (.t 9))), none⟩,
  ⟨(some 11), (.op (.mv (.t 1))), none⟩,
  ⟨(some 12), (.op (.toInt .u64 (.t 11))), none⟩,
  ⟨(some 13), (.op (.bin .add (.t 10) (.t 12))), none⟩,
  ⟨(some 14), (.op (.mv (.t 2))), none⟩,
  ⟨(some 15), (.op (.toInt .u64 (.t 14))), none⟩,
  ⟨(some 16), (.op (.bin .add (.t 13) (.t 15))), none⟩,
  ⟨(some 8), (.op (.mv (.t 16))), none⟩])
  (.seq
  (.ops [] [
  ⟨(some 17), (.op (.mv (.t 8))), none⟩,
  ⟨(some 18), (.op (.toInt .u32 (.t 17))), none⟩,
  ⟨(some 6), (.op (.mv (.t 18))), none⟩])
  (.seq
  (.ops [] [
  ⟨(some 19), (.op (.mv (.t 8))), none⟩,
  ⟨(some 20), (.op (.bin .shr (.t 19) (.k (.int .u64 32)))), none⟩,
  ⟨(some 21), (.op (.toInt .u32 (.t 20))), none⟩,
  ⟨(some 7), (.op (.mv (.t 21))), none⟩])
  .ret)))),
  [(.t 6), (.t 7)]⟩
theorem r_math_bits_Add32 : resolveFn Try.prog 98 = some c_math_bits_Add32 := by kernel_rfl

def c_math_bits_Sub32 : RFn :=
  ⟨25,
  (.seq
  (.ops [] [
  ⟨(some 6), (.op (.mv (.k (.int .u32 0)))), none⟩,
  ⟨(some 7), (.op (.mv (.k (.int .u32 0)))), none⟩])
  (.seq
  (.ops [] [
  ⟨(some 8), (.op (.mv (.t 0))), none⟩,
  ⟨(some 9), (.op (.mv (.t 1))), none⟩,
  ⟨(some 10), (.op (.bin .sub (.t 8) (.t 9))), none⟩,
  ⟨(some 11), (.op (.mv (.t 2))), none⟩,
  ⟨(some 12), (.op (.bin .sub (.t 10) (.t 11))), none⟩,
  ⟨(some 6), (.op (.mv (.t 12))), none⟩])
  (.seq
  (.ops [] [
  ⟨(some 13), (.op (.mv (.t 0))), none⟩,
  ⟨(some 14), (.op (.un .xor (.t 13))), none⟩,
  ⟨(some 15), (.op (.mv (.t 1))), none⟩,
  ⟨(some 16), (.op (.bin .and (.t 14) (.t 15))), none⟩,
  ⟨(some 17), (.op (.mv (.t 0))), none⟩,
  ⟨(some 18), (.op (.mv (.t 1))), none⟩,
  ⟨(some 19), (.op (.bin .xor (.t 17) (.t 18))), none⟩,
  ⟨(some 20), (.op (.un .xor (.t 19))), none⟩,
  ⟨(some 21), (.op (.mv (.t 6))), none⟩,
  ⟨(some 22), (.op (.bin .and (.t 20) (.t 21))), none⟩,
  ⟨(some 23), (.op (.bin .or (.t 16) (.t 22))), none⟩,
  ⟨(some 24), (.op (.bin .shr (.t 23) (.k (.int .u64 31)))), none⟩,
  ⟨(some 7), (.op (.mv (.t 24))), none⟩])
  .ret))),
  [(.t 6), (.t 7)]⟩
theorem r_math_bits_Sub32 : resolveFn Try.prog 97 = some c_math_bits_Sub32 := by kernel_rfl

def c_math_bits_Len32 : RFn :=
  ⟨19,
  (.seq
  (.ops [] [
  ⟨(some 2), (.op (.mv (.k (.int .i64 0)))), none⟩])
  (.seq
  (.seq
  (.ops [] [
  ⟨(some 3), (.op (.mv (.t 0))), none⟩,
  ⟨(some 4), (.op (.bin .geq (.t 3) (.k (.int .u32 65536)))), none⟩])
  (.cond (.t 4)
  (.seq
  (.ops [] [
  ⟨(some 5), (.op (.mv (.t 0))), none⟩,
  ⟨(some 6), (.op (.bin .shr (.t 5) (.k (.int .u64 16)))), none⟩,
  ⟨(some 0), (.op (.mv (.t 6))), none⟩])
  (.ops [] [
  ⟨(some 2), (.op (.mv (.k (.int .i64 16)))), none⟩]))
  .skip))
  (.seq
  (.seq
  (.ops [] [
  ⟨(some 7), (.op (.mv (.t 0))), none⟩,
  ⟨(some 8), (.op (.bin .geq (.t 7) (.k (.int .u32 256)))), none⟩])
  (.cond (.t 8)
  (.seq
  (.ops [] [
  ⟨(some 9), (.op (.mv (.t 0))), none⟩,
  ⟨(some 10), (.op (.bin .shr (.t 9) (.k (.int .u64 8)))), none⟩,
  ⟨(some 0), (.op (.mv (.t 10))), none⟩])
  (.ops [] [
  ⟨(some 11), (.op (.mv (.t 2))), none⟩,
  ⟨(some 12), (.op (.bin .add (.t 11) (.k (.int .i64 8)))), none⟩,
  ⟨(some 2), (.op (.mv (.t 12))), none⟩]))
  .skip))
  (.seq
  (.ops [] [
  ⟨(some 13), (.op (.mv (.t 2))), none⟩,
  ⟨(some 14), (.op (.mv (.t 0))), none⟩,
  ⟨(some 15), (.op (.toInt .u8 (.t 14))), none⟩,
  ⟨(some 16), (.op (.ixStr (.k (.string ⟨#[0, 1, 2, 2, 3, 3, 3, 3, 4, 4, 4, 4, 4, 4, 4, 4, 5, 5, 5, 5, 5, 5, 5, 5, 5, 5, 5, 5, 5, 5, 5, 5, 6, 6, 6, 6, 6, 6, 6, 6, 6, 6, 6, 6, 6, 6, 6, 6, 6, 6, 6, 6, 6, 6, 6, 6, 6, 6, 6, 6, 6, 6, 6, 6, 7, 7, 7, 7, 7, 7, 7, 7, 7, 7, 7, 7, 7, 7, 7, 7, 7, 7, 7, 7, 7, 7, 7, 7, 7, 7, 7, 7, 7, 7, 7, 7, 7, 7, 7, 7, 7, 7, 7, 7, 7, 7, 7, 7, 7, 7, 7, 7, 7, 7, 7, 7, 7, 7, 7, 7, 7, 7, 7, 7, 7, 7, 7, 7, 8, 8, 8, 8, 8, 8, 8, 8, 8, 8, 8, 8, 8, 8, 8, 8, 8, 8, 8, 8, 8, 8, 8, 8, 8, 8, 8, 8, 8, 8, 8, 8, 8, 8, 8, 8, 8, 8, 8, 8, 8, 8, 8, 8, 8, 8, 8, 8, 8, 8, 8, 8, 8, 8, 8, 8, 8, 8, 8, 8, 8, 8, 8, 8, 8, 8, 8, 8, 8, 8, 8, 8, 8, 8, 8, 8, 8, 8, 8, 8, 8, 8, 8, 8, 8, 8, 8, 8, 8, 8, 8, 8, 8, 8, 8, 8, 8, 8, 8, 8, 8, 8, 8, 8, 8, 8, 8, 8, 8, 8, 8, 8, 8, 8, 8, 8, 8, 8, 8, 8, 8, 8, 8, 8, 8, 8, 8, 8]⟩)) (.t 15))), none⟩,
  ⟨(some 17), (.op (.toInt .i64 (.t 16))), none⟩,
  ⟨(some 18), (.op (.bin .add (.t 13) (.t 17))), none⟩,
  ⟨(some 2), (.op (.mv (.t 18))), none⟩])
  .ret)))),
  [(.t 2)]⟩
theorem r_math_bits_Len32 : resolveFn Try.prog 92 = some c_math_bits_Len32 := by kernel_rfl

def c_limb_bare : RFn :=
  ⟨22,
  (.seq
  (.ops [] [
  ⟨(some 2), (.op (.mv (.k (.slice none 0 0)))), none⟩])
  (.seq
  (.ops [] [
  ⟨(some 4), (.op (.mv (.t 0))), none⟩,
  ⟨(some 5), (.op (.lenSl (.t 4))), none⟩,
  ⟨(some 3), (.op (.mv (.t 5))), none⟩])
  (.seq
  (.block 0
  (.loop
  (.seq
  (.seq
  (.ops [] [
  ⟨(some 6), (.op (.mv (.t 3))), none⟩,
  ⟨(some 7), (.op (.bin .gtr (.t 6) (.k (.int .i64 0)))), none⟩,
  ⟨(some 8), (.op (.mv (.t 7))), none⟩,
  ⟨(some 9), (.op (.mv (.t 0))), (some (8, true))⟩,
  ⟨(some 10), (.op (.mv (.t 3))), (some (8, true))⟩,
  ⟨(some 11), (.op (.bin .sub (.t 10) (.k (.int .i64 1)))), (some (8, true))⟩,
  ⟨(some 12), (.op (.ixAddr 1 (.t 9) (.t 11))), (some (8, true))⟩,
  ⟨(some 13), (.op (.load1 (.t 12))), (some (8, true))⟩,
  ⟨(some 14), (.op (.bin .eql (.t 13) (.k (.int .u32 0)))), (some (8, true))⟩,
  ⟨(some 15), (.op (.pick (.t 8) (.t 14) (.k (.bool false)))), none⟩])
  (.cond (.t 15)
  .skip
  (.exit 0)))
  (.block 1
  (.ops [] [
  ⟨(some 16), (.op (.mv (.t 3))), none⟩,
  ⟨(some 17), (.op (.bin .sub (.t 16) (.k (.int .i64 1)))), none⟩,
  ⟨(some 3), (.op (.mv (.t 17))), none⟩])))))
  (.seq
  (.ops [] [
  ⟨(some 18), (.op (.mv (.t 0))), none⟩,
  ⟨(some 19), (.op (.mv (.t 3))), none⟩,
  ⟨(some 20), (.op (.mv (.t 3))), none⟩,
  ⟨(some 21), (.op (.sl 1 (.t 18) none (some (.t 19)) (some (.t 20)))), none⟩,
  ⟨(some 2), (.op (.mv (.t 21))), none⟩])
  .ret)))),
  [(.t 2)]⟩
theorem r_limb_bare : resolveFn Try.prog 56 = some c_limb_bare := by kernel_rfl

def c_cmp_Compare_int_ : RFn :=
  ⟨20,
  (.seq
  (.ops [] [
  ⟨(some 4), (.op (.mv (.k (.int .i64 0)))), none⟩])
  (.seq
  (.ops [] [
  ⟨(some 7), (.op (.mv (.t 0))), none⟩,
  ⟨(some 8), (.call (.k (.func (.func 79) #[] #[])) [(.t 7)]), none⟩,
  ⟨(some 5), (.op (.mv (.t 8))), none⟩])
  (.seq
  (.ops [] [
  ⟨(some 9), (.op (.mv (.t 1))), none⟩,
  ⟨(some 10), (.call (.k (.func (.func 79) #[] #[])) [(.t 9)]), none⟩,
  ⟨(some 6), (.op (.mv (.t 10))), none⟩])
  (.seq
  (.seq
  (.ops [] [
  ⟨(some 11), (.op (.mv (.t 5))), none⟩])
  (.cond (.t 11)
  (.seq
  (.seq
  (.ops [] [
  ⟨(some 12), (.op (.mv (.t 6))), none⟩])
  (.cond (.t 12)
  (.seq
  (.ops [] [
  ⟨(some 4), (.op (.mv (.k (.int .i64 0)))), none⟩])
  .ret)
  .skip))
  (.seq
  (.ops [] [
  ⟨(some 4), (.op (.mv (.k (.int .i64 (-1))))), none⟩])
  .ret))
  .skip))
  (.seq
  (.seq
  (.ops [] [
  ⟨(some 13), (.op (.mv (.t 6))), none⟩])
  (.cond (.t 13)
  (.seq
  (.ops [] [
  ⟨(some 4), (.op (.mv (.k (.int .i64 1)))), none⟩])
  .ret)
  .skip))
  (.seq
  (.seq
  (.ops [] [
  ⟨(some 14), (.op (.mv (.t 0))), none⟩,
  ⟨(some 15), (.op (.mv (.t 1))), none⟩,
  ⟨(some 16), (.op (.bin .lss (.t 14) (.t 15))), none⟩])
  (.cond (.t 16)
  (.seq
  (.ops [] [
  ⟨(some 4), (.op (.mv (.k (.int .i64 (-1))))), none⟩])
  .ret)
  .skip))
  (.seq
  (.seq
  (.ops [] [
  ⟨(some 17), (.op (.mv (.t 0))), none⟩,
  ⟨(some 18), (.op (.mv (.t 1))), none⟩,
  ⟨(some 19), (.op (.bin .gtr (.t 17) (.t 18))), none⟩])
  (.cond (.t 19)
  (.seq
  (.ops [] [
  ⟨(some 4), (.op (.mv (.k (.int .i64 1)))), none⟩])
  .ret)
  .skip))
  (.seq
  (.ops [] [
  ⟨(some 4), (.op (.mv (.k (.int .i64 0)))), none⟩])
  .ret)))))))),
  [(.t 4)]⟩
theorem r_cmp_Compare_int_ : resolveFn Try.prog 57 = some c_cmp_Compare_int_ := by kernel_rfl

def c_cmp_Compare_uint32_ : RFn :=
  ⟨20,
  (.seq
  (.ops [] [
  ⟨(some 4), (.op (.mv (.k (.int .i64 0)))), none⟩])
  (.seq
  (.ops [] [
  ⟨(some 7), (.op (.mv (.t 0))), none⟩,
  ⟨(some 8), (.call (.k (.func (.func 80) #[] #[])) [(.t 7)]), none⟩,
  ⟨(some 5), (.op (.mv (.t 8))), none⟩])
  (.seq
  (.ops [] [
  ⟨(some 9), (.op (.mv (.t 1))), none⟩,
  ⟨(some 10), (.call (.k (.func (.func 80) #[] #[])) [(.t 9)]), none⟩,
  ⟨(some 6), (.op (.mv (.t 10))), none⟩])
  (.seq
  (.seq
  (.ops [] [
  ⟨(some 11), (.op (.mv (.t 5))), none⟩])
  (.cond (.t 11)
  (.seq
  (.seq
  (.ops [] [
  ⟨(some 12), (.op (.mv (.t 6))), none⟩])
  (.cond (.t 12)
  (.seq
  (.ops [] [
  ⟨(some 4), (.op (.mv (.k (.int .i64 0)))), none⟩])
  .ret)
  .skip))
  (.seq
  (.ops [] [
  ⟨(some 4), (.op (.mv (.k (.int .i64 (-1))))), none⟩])
  .ret))
  .skip))
  (.seq
  (.seq
  (.ops [] [
  ⟨(some 13), (.op (.mv (.t 6))), none⟩])
  (.cond (.t 13)
  (.seq
  (.ops [] [
  ⟨(some 4), (.op (.mv (.k (.int .i64 1)))), none⟩])
  .ret)
  .skip))
  (.seq
  (.seq
  (.ops [] [
  ⟨(some 14), (.op (.mv (.t 0))), none⟩,
  ⟨(some 15), (.op (.mv (.t 1))), none⟩,
  ⟨(some 16), (.op (.bin .lss (.t 14) (.t 15))), none⟩])
  (.cond (.t 16)
  (.seq
  (.ops [] [
  ⟨(some 4), (.op (.mv (.k (.int .i64 (-1))))), none⟩])
  .ret)
  .skip))
  (.seq
  (.seq
  (.ops [] [
  ⟨(some 17), (.op (.mv (.t 0))), none⟩,
  ⟨(some 18), (.op (.mv (.t 1))), none⟩,
  ⟨(some 19), (.op (.bin .gtr (.t 17) (.t 18))), none⟩])
  (.cond (.t 19)
  (.seq
  (.ops [] [
  ⟨(some 4), (.op (.mv (.k (.int .i64 1)))), none⟩])
  .ret)
  .skip))
  (.seq
  (.ops [] [
  ⟨(some 4), (.op (.mv (.k (.int .i64 0)))), none⟩])
  .ret)))))))),
  [(.t 4)]⟩
theorem r_cmp_Compare_uint32_ : resolveFn Try.prog 58 = some c_cmp_Compare_uint32_ := by kernel_rfl

def c_cmp_isNaN_int_ : RFn :=
  ⟨6,
  (.seq
  (.ops [] [
  ⟨(some 2), (.op (.mv (.k (.bool false)))), none⟩])
  (.seq
  (.ops [] [
  ⟨(some 3), (.op (.mv (.t 0))), none⟩,
  ⟨(some 4), (.op (.mv (.t 0))), none⟩,
  ⟨(some 5), (.op (.bin .neq (.t 3) (.t 4))), none⟩,
  ⟨(some 2), (.op (.mv (.t 5))), none⟩])
  .ret)),
  [(.t 2)]⟩
theorem r_cmp_isNaN_int_ : resolveFn Try.prog 79 = some c_cmp_isNaN_int_ := by kernel_rfl

def c_cmp_isNaN_uint32_ : RFn :=
  ⟨6,
  (.seq
  (.ops [] [
  ⟨(some 2), (.op (.mv (.k (.bool false)))), none⟩])
  (.seq
  (.ops [] [
  ⟨(some 3), (.op (.mv (.t 0))), none⟩,
  ⟨(some 4), (.op (.mv (.t 0))), none⟩,
  ⟨(some 5), (.op (.bin .neq (.t 3) (.t 4))), none⟩,
  ⟨(some 2), (.op (.mv (.t 5))), none⟩])
  .ret)),
  [(.t 2)]⟩
theorem r_cmp_isNaN_uint32_ : resolveFn Try.prog 80 = some c_cmp_isNaN_uint32_ := by kernel_rfl

def c_limb_Cmp : RFn :=
  ⟨45,
  (.seq
  (.ops [] [
  ⟨(some 4), (.op (.mv (.k (.int .i64 0)))), none⟩])
  (.seq
  (.ops [] [
  ⟨(some 6), (.op (.mv (.t 0))), none⟩,
  ⟨(some 7), (.call (.k (.func (.func 56) #[] #[])) [(.t 6)]), none⟩,
  ⟨(some 8), (.op (.mv (.t 1))), none⟩,
  ⟨(some 9), (.call (.k (.func (.func 56) #[] #[])) [(.t 8)]), none⟩,
  ⟨(some 0), (.op (.mv (.t 7))), none⟩,
  ⟨(some 1), (.op (.mv (.t 9))), none⟩])
  (.seq
  (.seq
  (.ops [] [
  ⟨(some 10), (.op (.mv (.t 0))), none⟩,
  ⟨(some 11), (.op (.lenSl (.t 10))), none⟩,
  ⟨(some 12), (.op (.mv (.t 1))), none⟩,
  ⟨(some 13), (.op (.lenSl (.t 12))), none⟩,
  ⟨(some 14), (.op (.bin .neq (.t 11) (.t 13))), none⟩])
  (.cond (.t 14)
  (.seq
  (.ops [] [
  ⟨(some 15), (.op (.mv (.t 0))), none⟩,
  ⟨(some 16), (.op (.lenSl (.t 15))), none⟩,
  ⟨(some 17), (.op (.mv (.t 1))), none⟩,
  ⟨(some 18), (.op (.lenSl (.t 17))), none⟩,
  ⟨(some 19), (.call (.k (.func (.func 57) #[] #[])) [(.t 16), (.t 18)]), none⟩,
  ⟨(some 4), (.op (.mv (.t 19))), none⟩])
  .ret)
  .skip))
  (.seq
  (.seq
  (.ops [] [
  ⟨(some 20), (.op (.mv (.t 0))), none⟩,
  ⟨(some 21), (.op (.lenSl (.t 20))), none⟩,
  ⟨(some 22), (.op (.bin .sub (.t 21) (.k (.int .i64 1)))), none⟩,
  ⟨(some 5), (.op (.mv (.t 22))), none⟩])
  (.block 0
  (.loop
  (.seq
  (.seq
  (.ops [] [
  ⟨(some 23), (.op (.mv (.t 5))), none⟩,
  ⟨(some 24), (.op (.bin .geq (.t 23) (.k (.int .i64 0)))), none⟩])
  (.cond (.t 24)
  .skip
  (.exit 0)))
  (.seq
  (.block 1
  (.seq
  (.ops [
  ⟨(some 27), (.op (.mv (.t 0))), none⟩,
  ⟨(some 28), (.op (.mv (.t 5))), none⟩,
  ⟨(some 29), (.op (.ixAddr 1 (.t 27) (.t 28))), none⟩,
  ⟨(some 30), (.op (.load1 (.t 29))), none⟩,
  ⟨(some 31), (.op (.mv (.t 1))), none⟩,
  ⟨(some 32), (.op (.mv (.t 5))), none⟩,
  ⟨(some 33), (.op (.ixAddr 1 (.t 31) (.t 32))), none⟩,
  ⟨(some 34), (.op (.load1 (.t 33))), none⟩] [
  ⟨(some 35), (.op (.bin .neq (.t 30) (.t 34))), none⟩])
  (.cond (.t 35)
  (.seq
  (.ops [
  ⟨(some 36), (.op (.mv (.t 0))), none⟩,
  ⟨(some 37), (.op (.mv (.t 5))), none⟩,
  ⟨(some 38), (.op (.ixAddr 1 (.t 36) (.t 37))), none⟩,
  ⟨(some 39), (.op (.load1 (.t 38))), none⟩,
  ⟨(some 40), (.op (.mv (.t 1))), none⟩,
  ⟨(some 41), (.op (.mv (.t 5))), none⟩,
  ⟨(some 42), (.op (.ixAddr 1 (.t 40) (.t 41))), none⟩,
  ⟨(some 43), (.op (.load1 (.t 42))), none⟩] [
  ⟨(some 44), (.call (.k (.func (.func 58) #[] #[])) [(.t 39), (.t 43)]), none⟩,
  ⟨(some 4), (.op (.mv (.t 44))), none⟩])
  .ret)
  .skip)))
  (.ops [] [
  ⟨(some 25), (.op (.mv (.t 5))), none⟩,
  ⟨(some 26), (.op (.bin .sub (.t 25) (.k (.int .i64 1)))), none⟩,
  ⟨(some 5), (.op (.mv (.t 26))), none⟩]))))))
  (.seq
  (.ops [] [
  ⟨(some 4), (.op (.mv (.k (.int .i64 0)))), none⟩])
  .ret))))),
  [(.t 4)]⟩
theorem r_limb_Cmp : resolveFn Try.prog 33 = some c_limb_Cmp := by kernel_rfl

def c_lanyardref07_Bare : RFn :=
  ⟨23,
  (.seq
  (.ops [] [
  ⟨(some 2), (.op (.mv (.k (.slice none 0 0)))), none⟩])
  (.seq
  (.ops [] [
  ⟨(some 4), (.op (.mv (.t 0))), none⟩,
  ⟨(some 5), (.op (.lenSl (.t 4))), none⟩,
  ⟨(some 3), (.op (.mv (.t 5))), none⟩])
  (.seq
  (.block 0
  (.loop
  (.seq
  (.seq
  (.ops [] [
  ⟨(some 6), (.op (.mv (.t 3))), none⟩,
  ⟨(some 7), (.op (.bin .gtr (.t 6) (.k (.int .i64 0)))), none⟩,
  ⟨(some 8), (.op (.mv (.t 7))), none⟩,
  ⟨(some 9), (.op (.mv (.t 0))), (some (8, true))⟩,
  ⟨(some 10), (.op (.mv (.t 3))), (some (8, true))⟩,
  ⟨(some 11), (.op (.bin .sub (.t 10) (.k (.int .i64 1)))), (some (8, true))⟩,
  ⟨(some 12), (.op (.ixAddr 1 (.t 9) (.t 11))), (some (8, true))⟩,
  ⟨(some 13), (.op (.load1 (.t 12))), (some (8, true))⟩,
  ⟨(some 14), (.op (.bin .eql (.t 13) (.k (.int .u32 0)))), (some (8, true))⟩,
  ⟨(some 15), (.op (.pick (.t 8) (.t 14) (.k (.bool false)))), none⟩])
  (.cond (.t 15)
  .skip
  (.exit 0)))
  (.block 1
  (.ops [] [
  ⟨(some 16), (.op (.mv (.t 3))), none⟩,
  ⟨(some 17), (.op (.bin .sub (.t 16) (.k (.int .i64 1)))), none⟩,
  ⟨(some 3), (.op (.mv (.t 17))), none⟩])))))
  (.seq
  (.ops [] [
  ⟨(some 18), (.op (.mkSl 0 [] [])), none⟩,
  ⟨(some 19), (.op (.mv (.t 0))), none⟩,
  ⟨(some 20), (.op (.mv (.t 3))), none⟩,
  ⟨(some 21), (.op (.sl 1 (.t 19) none (some (.t 20)) none)), none⟩,
  ⟨(some 22), (.op (.append 1 4 (.t 18) (.t 21))), none⟩,
  ⟨(some 2), (.op (.mv (.t 22))), none⟩])
  .ret)))),
  [(.t 2)]⟩
theorem r_lanyardref07_Bare : resolveFn Try.prog 73 = some c_lanyardref07_Bare := by kernel_rfl

def c_limb_Bare : RFn :=
  ⟨6,
  (.seq
  (.ops [] [
  ⟨(some 2), (.op (.mv (.k (.slice none 0 0)))), none⟩])
  (.seq
  (.ops [] [
  ⟨(some 3), (.op (.mv (.t 0))), none⟩,
  ⟨(some 4), (.call (.k (.func (.func 56) #[] #[])) [(.t 3)]), none⟩,
  ⟨(some 5), (.call (.k (.func (.func 95) #[] #[])) [(.t 4)]), none⟩,
  ⟨(some 2), (.op (.mv (.t 5))), none⟩])
  .ret)),
  [(.t 2)]⟩
theorem r_limb_Bare : resolveFn Try.prog 84 = some c_limb_Bare := by kernel_rfl

def c_slices_Clone___uint32_uint32_ : RFn :=
  ⟨8,
  (.seq
  (.ops [] [
  ⟨(some 2), (.op (.mv (.k (.slice none 0 0)))), none⟩])
  (.seq
  (.seq
  (.ops [] [
  ⟨(some 3), (.op (.mv (.t 0))), none⟩,
  ⟨(some 4), (.op (.eqN .sl false (.t 3))), none⟩])
  (.cond (.t 4)
  (.seq
  (.ops [] [
  ⟨(some 2), (.op (.mv (.k (.slice none 0 0)))), none⟩])
  .ret)
  .skip))
  (.seq
  (.ops [] [
  ⟨(some 5), (.op (.mkSl 0 [] [])), none⟩,
  ⟨(some 6), (.op (.mv (.t 0))), none⟩,
  ⟨(some 7), (.op (.append 1 4 (.t 5) (.t 6))), none⟩,
  ⟨(some 2), (.op (.mv (.t 7))), none⟩])
  .ret))),
  [(.t 2)]⟩
theorem r_slices_Clone___uint32_uint32_ : resolveFn Try.prog 95 = some c_slices_Clone___uint32_uint32_ := by kernel_rfl

def c_lanyardref07_Cmp : RFn :=
  ⟨30,
  (.seq
  (.ops [] [
  ⟨(some 4), (.op (.mv (.k (.int .i64 0)))), none⟩])
  (.seq
  (.seq
  (.ops [] [
  ⟨(some 8), (.op (.mv (.t 0))), none⟩,
  ⟨(some 9), (.op (.lenSl (.t 8))), none⟩,
  ⟨(some 10), (.op (.mv (.t 1))), none⟩,
  ⟨(some 11), (.op (.lenSl (.t 10))), none⟩,
  ⟨(some 12), (.op (.mm true (.t 9) [(.t 11)])), none⟩,
  ⟨(some 13), (.op (.bin .sub (.t 12) (.k (.int .i64 1)))), none⟩,
  ⟨(some 5), (.op (.mv (.t 13))), none⟩])
  (.block 0
  (.loop
  (.seq
  (.seq
  (.ops [] [
  ⟨(some 14), (.op (.mv (.t 5))), none⟩,
  ⟨(some 15), (.op (.bin .geq (.t 14) (.k (.int .i64 0)))), none⟩])
  (.cond (.t 15)
  .skip
  (.exit 0)))
  (.seq
  (.block 1
  (.seq
  (.ops [] [
  ⟨(some 18), (.op (.mv (.t 0))), none⟩,
  ⟨(some 19), (.op (.mv (.t 5))), none⟩,
  ⟨(some 20), (.call (.k (.func (.func 74) #[] #[])) [(.t 18), (.t 19)]), none⟩,
  ⟨(some 6), (.op (.mv (.t 20))), none⟩])
  (.seq
  (.ops [] [
  ⟨(some 21), (.op (.mv (.t 1))), none⟩,
  ⟨(some 22), (.op (.mv (.t 5))), none⟩,
  ⟨(some 23), (.call (.k (.func (.func 74) #[] #[])) [(.t 21), (.t 22)]), none⟩,
  ⟨(some 7), (.op (.mv (.t 23))), none⟩])
  (.seq
  (.seq
  (.ops [] [
  ⟨(some 24), (.op (.mv (.t 6))), none⟩,
  ⟨(some 25), (.op (.mv (.t 7))), none⟩,
  ⟨(some 26), (.op (.bin .lss (.t 24) (.t 25))), none⟩])
  (.cond (.t 26)
  (.seq
  (.ops [] [
  ⟨(some 4), (.op (.mv (.k (.int .i64 (-1))))), none⟩])
  .ret)
  .skip))
  (.seq
  (.ops [] [
  ⟨(some 27), (.op (.mv (.t 6))), none⟩,
  ⟨(some 28), (.op (.mv (.t 7))), none⟩,
  ⟨(some 29), (.op (.bin .gtr (.t 27) (.t 28))), none⟩])
  (.cond (.t 29)
  (.seq
  (.ops [] [
  ⟨(some 4), (.op (.mv (.k (.int .i64 1)))), none⟩])
  .ret)
  .skip))))))
  (.ops [] [
  ⟨(some 16), (.op (.mv (.t 5))), none⟩,
  ⟨(some 17), (.op (.bin .sub (.t 16) (.k (.int .i64 1)))), none⟩,
  ⟨(some 5), (.op (.mv (.t 17))), none⟩]))))))
  (.seq
  (.ops [] [
  ⟨(some 4), (.op (.mv (.k (.int .i64 0)))), none⟩])
  .ret))),
  [(.t 4)]⟩
def c_lanyardref07_Len : RFn :=
  ⟨28,
  (.seq
  (.ops [] [
  ⟨(some 2), (.op (.mv (.k (.int .i64 0)))), none⟩])
  (.seq
  (.ops [] [
  ⟨(some 6), (.op (.mv (.t 0))), none⟩,
  ⟨(some 7), (.call (.k (.func (.func 73) #[] #[])) [(.t 6)]), none⟩,
  ⟨(some 3), (.op (.mv (.t 7))), none⟩])
  (.seq
  (.seq
  (.ops [] [
  ⟨(some 8), (.op (.mv (.t 3))), none⟩,
  ⟨(some 9), (.op (.lenSl (.t 8))), none⟩,
  ⟨(some 10), (.op (.bin .eql (.t 9) (.k (.int .i64 0)))), none⟩])
  (.cond (.t 10)
  (.seq
  (.ops [] [
  ⟨(some 2), (.op (.mv (.k (.int .i64 0)))), none⟩])
  .ret)
  .skip))
  (.seq
  (.ops [] [
  ⟨(some 11), (.op (.mv (.t 3))), none⟩,
  ⟨(some 12), (.op (.lenSl (.t 11))), none⟩,
  ⟨(some 13), (.op (.bin .mul (.k (.int .i64 32)) (.t 12))), none⟩,
  ⟨(some 14), (.op (.bin .sub (.t 13) (.k (.int .i64 32)))), none⟩,
  ⟨(some 4), (.op (.mv (.t 14))), none⟩])
  (.seq
  (.seq
  (.ops [] [
  ⟨(some 15), (.op (.mv (.t 3))), none⟩,
  ⟨(some 16), (.op (.mv (.t 3))), none⟩,
  ⟨(some 17), (.op (.lenSl (.t 16))), none⟩,
  ⟨(some 18), (.op (.bin .sub (.t 17) (.k (.int .i64 1)))), none⟩,
  ⟨(some 19), (.op (.ixAddr 1 (.t 15) (.t 18))), none⟩,
  ⟨(some 20), (.op (.load1 (.t 19))), none⟩,
  ⟨(some 5), (.op (.mv (.t 20))), none⟩])
  (.block 0
  (.loop
  (.seq
  (.seq
  (.ops [] [
  ⟨(some 21), (.op (.mv (.t 5))), none⟩,
  ⟨(some 22), (.op (.bin .gtr (.t 21) (.k (.int .u32 0)))), none⟩])
  (.cond (.t 22)
  .skip
  (.exit 0)))
  (.seq
  (.block 1
  (.ops [] [
  ⟨(some 25), (.op (.mv (.t 4))), none⟩,
  ⟨(some 26), (.op (.bin .add (.t 25) (.k (.int .i64 1)))), none⟩,
  ⟨(some 4), (.op (.mv (.t 26))), none⟩]))
  (.ops [] [
  ⟨(some 23), (.op (.mv (.t 5))), none⟩,
  ⟨(some 24), (.op (.bin .quo (.t 23) (.k (.int .u32 2)))), none⟩,
  ⟨(some 5), (.op (.mv (.t 24))), none⟩]))))))
  (.seq
  (.ops [] [
  ⟨(some 27), (.op (.mv (.t 4))), none⟩,
  ⟨(some 2), (.op (.mv (.t 27))), none⟩])
  .ret)))))),
  [(.t 2)]⟩
theorem r_lanyardref07_Len : resolveFn Try.prog 76 = some c_lanyardref07_Len := by kernel_rfl

def c_lanyardref07_part : RFn :=
  ⟨14,
  (.seq
  (.ops [] [
  ⟨(some 4), (.op (.mv (.k (.int .u64 0)))), none⟩])
  (.seq
  (.seq
  (.ops [] [
  ⟨(some 5), (.op (.mv (.t 1))), none⟩,
  ⟨(some 6), (.op (.mv (.t 0))), none⟩,
  ⟨(some 7), (.op (.lenSl (.t 6))), none⟩,
  ⟨(some 8), (.op (.bin .geq (.t 5) (.t 7))), none⟩])
  (.cond (.t 8)
  (.seq
  (.ops [] [
  ⟨(some 4), (.op (.mv (.k (.int .u64 0)))), none⟩])
  .ret)
  .skip))
  (.seq
  (.ops [] [
  ⟨(some 9), (.op (.mv (.t 0))), none⟩,
  ⟨(some 10), (.op (.mv (.t 1))), none⟩,
  ⟨(some 11), (.op (.ixAddr 1 (.t 9) (.t 10))), none⟩,
  ⟨(some 12), (.op (.load1 (.t 11))), none⟩,
  ⟨(some 13), (.op (.toInt .u64 (.t 12))), none⟩,
  ⟨(some 4), (.op (.mv (.t 13))), none⟩])
  .ret))),
  [(.t 4)]⟩
theorem r_lanyardref07_part : resolveFn Try.prog 74 = some c_lanyardref07_part := by kernel_rfl

def c_limb_Len : RFn :=
  ⟨20,
  (.seq
  (.ops [] [
  ⟨(some 2), (.op (.mv (.k (.int .i64 0)))), none⟩])
  (.seq
  (.ops [] [
  ⟨(some 3), (.op (.mv (.t 0))), none⟩,
  ⟨(some 4), (.call (.k (.func (.func 56) #[] #[])) [(.t 3)]), none⟩,
  ⟨(some 0), (.op (.mv (.t 4))), none⟩])
  (.seq
  (.seq
  (.ops [] [
  ⟨(some 5), (.op (.mv (.t 0))), none⟩,
  ⟨(some 6), (.op (.lenSl (.t 5))), none⟩,
  ⟨(some 7), (.op (.bin .eql (.t 6) (.k (.int .i64 0)))), none⟩])
  (.cond (.t 7)
  (.seq
  (.ops [] [
  ⟨(some 2), (.op (.mv (.k (.int .i64 0)))), none⟩])
  .ret)
  .skip))
  (.seq
  (.ops [] [
  ⟨(some 8), (.op (.mv (.t 0))), none⟩,
  ⟨(some 9), (.op (.lenSl (.t 8))), none⟩,
  ⟨(some 10), (.op (.bin .sub (.t 9) (.k (.int .i64 1)))), none⟩,
  ⟨(some 11), (.op (.bin .mul (.k (.int .i64 32)) (.t 10))), none⟩,
  ⟨(some 12), (.op (.mv (.t 0))), none⟩,
  ⟨(some 13), (.op (.mv (.t 0))), none⟩,
  ⟨(some 14), (.op (.lenSl (.t 13))), none⟩,
  ⟨(some 15), (.op (.bin .sub (.t 14) (.k (.int .i64 1)))), none⟩,
  ⟨(some 16), (.op (.ixAddr 1 (.t 12) (.t 15))), none⟩,
  ⟨(some 17), (.op (.load1 (.t 16))), none⟩,
  ⟨(some 18), (.call (.k (.func (.func 92) #[] #[])) [(.t 17)]), none⟩,
  ⟨(some 19), (.op (.bin .add (.t 11) (.t 18))), none⟩,
  ⟨(some 2), (.op (.mv (.t 19))), none⟩])
  .ret)))),
  [(.t 2)]⟩
theorem r_limb_Len : resolveFn Try.prog 71 = some c_limb_Len := by kernel_rfl

def c_limb_Mul : RFn :=
  ⟨69,
  (.seq
  (.ops [] [
  ⟨(some 4), (.op (.mv (.k (.slice none 0 0)))), none⟩])
  (.scope (.seq
  (.ops [] [
  ⟨(some 11), (.op (.mv (.t 0))), none⟩,
  ⟨(some 12), (.op (.lenSl (.t 11))), none⟩,
  ⟨(some 13), (.op (.mv (.t 1))), none⟩,
  ⟨(some 14), (.op (.lenSl (.t 13))), none⟩,
  ⟨(some 15), (.op (.bin .add (.t 12) (.t 14))), none⟩,
  ⟨(some 16), (.op (.make 1 4 [(.int .u32 0)] (.t 15) (.t 15))), none⟩,
  ⟨(some 5), (.op (.mv (.t 16))), none⟩])
  (.seq
  (.label 0)
  (.seq
  (.seq
  (.ops [] [
  ⟨(some 17), (.op (.mv (.t 0))), none⟩,
  ⟨(some 18), (.op (.lenSl (.t 17))), none⟩,
  ⟨(some 19), (.op (.mv (.k (.int .i64 0)))), none⟩])
  (.block 0
  (.loop
  (.seq
  (.ops [] [
  ⟨(some 20), (.op (.bin .lss (.t 19) (.t 18))), none⟩])
  (.seq
  (.cond (.t 20)
  .skip
  (.exit 0))
  (.seq
  (.block 1
  (.seq
  (.ops [] [
  ⟨(some 21), (.op (.mv (.t 19))), none⟩,
  ⟨(some 22), (.op (.ixAddr 1 (.t 17) (.t 19))), none⟩,
  ⟨(some 23), (.op (.load1 (.t 22))), none⟩,
  ⟨(some 6), (.op (.mv (.t 21))), none⟩,
  ⟨(some 7), (.op (.mv (.t 23))), none⟩])
  (.seq
  (.seq
  (.ops [] [
  ⟨(some 24), (.op (.mv (.t 7))), none⟩,
  ⟨(some 25), (.op (.bin .eql (.t 24) (.k (.int .u32 0)))), none⟩])
  (.cond (.t 25)
  (.exit 1)
  .skip))
  (.seq
  (.ops [] [
  ⟨(some 8), (.op (.mv (.k (.int .u64 0)))), none⟩])
  (.seq
  (.seq
  (.ops [] [
  ⟨(some 26), (.op (.mv (.t 1))), none⟩,
  ⟨(some 27), (.op (.lenSl (.t 26))), none⟩,
  ⟨(some 28), (.op (.mv (.k (.int .i64 0)))), none⟩])
  (.block 2
  (.loop
  (.seq
  (.ops [] [
  ⟨(some 29), (.op (.bin .lss (.t 28) (.t 27))), none⟩])
  (.seq
  (.cond (.t 29)
  .skip
  (.exit 2))
  (.seq
  (.block 3
  (.seq
  (.ops [] [
  ⟨(some 30), (.op (.mv (.t 28))), none⟩,
  ⟨(some 31), (.op (.ixAddr 1 (.t 26) (.t 28))), none⟩,
  ⟨(some 32), (.op (.load1 (.t 31))), none⟩,
  ⟨(some 9), (.op (.mv (.t 30))), none⟩,
  ⟨(some 10), (.op (.mv (.t 32))), none⟩])
  (.seq
  (.ops [] [
  ⟨(some 33), (.op (.mv (.t 8))), none⟩,
  ⟨(some 34), (.op (.mv (.t 5))), none⟩,
  ⟨(some 35), (.op (.mv (.t 6))), none⟩,
  ⟨(some 36), (.op (.mv (.t 9))), none⟩,
  ⟨(some 37), (.op (.bin .add (.t 35) (.t 36))), none⟩,
  ⟨(some 38), (.op (.ixAddr 1 (.t 34) (.t 37))), none⟩,
  ⟨(some 39), (.op (.load1 (.t 38))), none⟩,
  ⟨(some 40), (.op (.toInt .u64 (.t 39))), none⟩,
  ⟨(some 41), (.op (.mv (.t 7))), none⟩,
  ⟨(some 42), (.op (.toInt .u64 (.t 41))), none⟩,
  ⟨(some 43), (.op (.mv (.t 10))), none⟩,
  ⟨(some 44), (.op (.toInt .u64 (.t 43))), none⟩,
  ⟨(some 45), (.op (.bin .mul (.t 42) (.t 44))), none⟩,
  ⟨(some 46), (.op (.bin .add (.t 40) (.t 45))), none⟩,
  ⟨(some 47), (.op (.bin .add (.t 33) (.t 46))), none⟩,
  ⟨(some 8), (.op (.mv (.t 47))), none⟩])
  (.seq
  (.ops [] [
  ⟨(some 48), (.op (.mv (.t 5))), none⟩,
  ⟨(some 49), (.op (.mv (.t 6))), none⟩,
  ⟨(some 50), (.op (.mv (.t 9))), none⟩,
  ⟨(some 51), (.op (.bin .add (.t 49) (.t 50))), none⟩,
  ⟨(some 52), (.op (.mv (.t 8))), none⟩,
  ⟨(some 53), (.op (.toInt .u32 (.t 52))), none⟩,
  ⟨(some 54), (.op (.ixAddr 1 (.t 48) (.t 51))), none⟩,
  ⟨none, (.op (.store 1 (.t 54) (.t 53))), none⟩])
  (.ops [] [
  ⟨(some 55), (.op (.mv (.t 8))), none⟩,
  ⟨(some 56), (.op (.bin .shr (.t 55) (.k (.int .u64 32)))), none⟩,
  ⟨(some 8), (.op (.mv (.t 56))), none⟩])))))
  (.ops [] [
  ⟨(some 57), (.op (.bin .add (.t 28) (.k (.int .i64 1)))), none⟩,
  ⟨(some 28), (.op (.mv (.t 57))), none⟩])))))))
  (.ops [] [
  ⟨(some 58), (.op (.mv (.t 5))), none⟩,
  ⟨(some 59), (.op (.mv (.t 6))), none⟩,
  ⟨(some 60), (.op (.mv (.t 1))), none⟩,
  ⟨(some 61), (.op (.lenSl (.t 60))), none⟩,
  ⟨(some 62), (.op (.bin .add (.t 59) (.t 61))), none⟩,
  ⟨(some 63), (.op (.mv (.t 8))), none⟩,
  ⟨(some 64), (.op (.toInt .u32 (.t 63))), none⟩,
  ⟨(some 65), (.op (.ixAddr 1 (.t 58) (.t 62))), none⟩,
  ⟨none, (.op (.store 1 (.t 65) (.t 64))), none⟩]))))))
  (.ops [] [
  ⟨(some 66), (.op (.bin .add (.t 19) (.k (.int .i64 1)))), none⟩,
  ⟨(some 19), (.op (.mv (.t 66))), none⟩])))))))
  (.seq
  (.ops [] [
  ⟨(some 67), (.op (.mv (.t 5))), none⟩,
  ⟨(some 68), (.call (.k (.func (.func 56) #[] #[])) [(.t 67)]), none⟩,
  ⟨(some 4), (.op (.mv (.t 68))), none⟩])
  .ret)))) 0 (.seq
  .skip
  (.seq
  (.seq
  (.ops [] [
  ⟨(some 17), (.op (.mv (.t 0))), none⟩,
  ⟨(some 18), (.op (.lenSl (.t 17))), none⟩,
  ⟨(some 19), (.op (.mv (.k (.int .i64 0)))), none⟩])
  (.block 0
  (.loop
  (.seq
  (.ops [] [
  ⟨(some 20), (.op (.bin .lss (.t 19) (.t 18))), none⟩])
  (.seq
  (.cond (.t 20)
  .skip
  (.exit 0))
  (.seq
  (.block 1
  (.seq
  (.ops [] [
  ⟨(some 21), (.op (.mv (.t 19))), none⟩,
  ⟨(some 22), (.op (.ixAddr 1 (.t 17) (.t 19))), none⟩,
  ⟨(some 23), (.op (.load1 (.t 22))), none⟩,
  ⟨(some 6), (.op (.mv (.t 21))), none⟩,
  ⟨(some 7), (.op (.mv (.t 23))), none⟩])
  (.seq
  (.seq
  (.ops [] [
  ⟨(some 24), (.op (.mv (.t 7))), none⟩,
  ⟨(some 25), (.op (.bin .eql (.t 24) (.k (.int .u32 0)))), none⟩])
  (.cond (.t 25)
  (.exit 1)
  .skip))
  (.seq
  (.ops [] [
  ⟨(some 8), (.op (.mv (.k (.int .u64 0)))), none⟩])
  (.seq
  (.seq
  (.ops [] [
  ⟨(some 26), (.op (.mv (.t 1))), none⟩,
  ⟨(some 27), (.op (.lenSl (.t 26))), none⟩,
  ⟨(some 28), (.op (.mv (.k (.int .i64 0)))), none⟩])
  (.block 2
  (.loop
  (.seq
  (.ops [] [
  ⟨(some 29), (.op (.bin .lss (.t 28) (.t 27))), none⟩])
  (.seq
  (.cond (.t 29)
  .skip
  (.exit 2))
  (.seq
  (.block 3
  (.seq
  (.ops [] [
  ⟨(some 30), (.op (.mv (.t 28))), none⟩,
  ⟨(some 31), (.op (.ixAddr 1 (.t 26) (.t 28))), none⟩,
  ⟨(some 32), (.op (.load1 (.t 31))), none⟩,
  ⟨(some 9), (.op (.mv (.t 30))), none⟩,
  ⟨(some 10), (.op (.mv (.t 32))), none⟩])
  (.seq
  (.ops [] [
  ⟨(some 33), (.op (.mv (.t 8))), none⟩,
  ⟨(some 34), (.op (.mv (.t 5))), none⟩,
  ⟨(some 35), (.op (.mv (.t 6))), none⟩,
  ⟨(some 36), (.op (.mv (.t 9))), none⟩,
  ⟨(some 37), (.op (.bin .add (.t 35) (.t 36))), none⟩,
  ⟨(some 38), (.op (.ixAddr 1 (.t 34) (.t 37))), none⟩,
  ⟨(some 39), (.op (.load1 (.t 38))), none⟩,
  ⟨(some 40), (.op (.toInt .u64 (.t 39))), none⟩,
  ⟨(some 41), (.op (.mv (.t 7))), none⟩,
  ⟨(some 42), (.op (.toInt .u64 (.t 41))), none⟩,
  ⟨(some 43), (.op (.mv (.t 10))), none⟩,
  ⟨(some 44), (.op (.toInt .u64 (.t 43))), none⟩,
  ⟨(some 45), (.op (.bin .mul (.t 42) (.t 44))), none⟩,
  ⟨(some 46), (.op (.bin .add (.t 40) (.t 45))), none⟩,
  ⟨(some 47), (.op (.bin .add (.t 33) (.t 46))), none⟩,
  ⟨(some 8), (.op (.mv (.t 47))), none⟩])
  (.seq
  (.ops [] [
  ⟨(some 48), (.op (.mv (.t 5))), none⟩,
  ⟨(some 49), (.op (.mv (.t 6))), none⟩,
  ⟨(some 50), (.op (.mv (.t 9))), none⟩,
  ⟨(some 51), (.op (.bin .add (.t 49) (.t 50))), none⟩,
  ⟨(some 52), (.op (.mv (.t 8))), none⟩,
  ⟨(some 53), (.op (.toInt .u32 (.t 52))), none⟩,
  ⟨(some 54), (.op (.ixAddr 1 (.t 48) (.t 51))), none⟩,
  ⟨none, (.op (.store 1 (.t 54) (.t 53))), none⟩])
  (.ops [] [
  ⟨(some 55), (.op (.mv (.t 8))), none⟩,
  ⟨(some 56), (.op (.bin .shr (.t 55) (.k (.int .u64 32)))), none⟩,
  ⟨(some 8), (.op (.mv (.t 56))), none⟩])))))
  (.ops [] [
  ⟨(some 57), (.op (.bin .add (.t 28) (.k (.int .i64 1)))), none⟩,
  ⟨(some 28), (.op (.mv (.t 57))), none⟩])))))))
  (.ops [] [
  ⟨(some 58), (.op (.mv (.t 5))), none⟩,
  ⟨(some 59), (.op (.mv (.t 6))), none⟩,
  ⟨(some 60), (.op (.mv (.t 1))), none⟩,
  ⟨(some 61), (.op (.lenSl (.t 60))), none⟩,
  ⟨(some 62), (.op (.bin .add (.t 59) (.t 61))), none⟩,
  ⟨(some 63), (.op (.mv (.t 8))), none⟩,
  ⟨(some 64), (.op (.toInt .u32 (.t 63))), none⟩,
  ⟨(some 65), (.op (.ixAddr 1 (.t 58) (.t 62))), none⟩,
  ⟨none, (.op (.store 1 (.t 65) (.t 64))), none⟩]))))))
  (.ops [] [
  ⟨(some 66), (.op (.bin .add (.t 19) (.k (.int .i64 1)))), none⟩,
  ⟨(some 19), (.op (.mv (.t 66))), none⟩])))))))
  (.seq
  (.ops [] [
  ⟨(some 67), (.op (.mv (.t 5))), none⟩,
  ⟨(some 68), (.call (.k (.func (.func 56) #[] #[])) [(.t 67)]), none⟩,
  ⟨(some 4), (.op (.mv (.t 68))), none⟩])
  .ret))))),
  [(.t 4)]⟩
theorem r_limb_Mul : resolveFn Try.prog 93 = some c_limb_Mul := by kernel_rfl

def c_lanyardref07_Mul : RFn :=
  ⟨60,
  (.seq
  (.ops [] [
  ⟨(some 4), (.op (.mv (.k (.slice none 0 0)))), none⟩])
  (.seq
  (.ops [] [
  ⟨(some 9), (.op (.mv (.t 0))), none⟩,
  ⟨(some 10), (.op (.lenSl (.t 9))), none⟩,
  ⟨(some 11), (.op (.mv (.t 1))), none⟩,
  ⟨(some 12), (.op (.lenSl (.t 11))), none⟩,
  ⟨(some 13), (.op (.bin .add (.t 10) (.t 12))), none⟩,
  ⟨(some 14), (.op (.bin .add (.t 13) (.k (.int .i64 1)))), none⟩,
  ⟨(some 15), (.op (.make 1 4 [(.int .u32 0)] (.t 14) (.t 14))), none⟩,
  ⟨(some 5), (.op (.mv (.t 15))), none⟩])
  (.seq
  (.seq
  (.ops [] [
  ⟨(some 6), (.op (.mv (.k (.int .i64 0)))), none⟩])
  (.block 0
  (.loop
  (.seq
  (.seq
  (.ops [] [
  ⟨(some 16), (.op (.mv (.t 6))), none⟩,
  ⟨(some 17), (.op (.mv (.t 0))), none⟩,
  ⟨(some 18), (.op (.lenSl (.t 17))), none⟩,
  ⟨(some 19), (.op (.bin .lss (.t 16) (.t 18))), none⟩])
  (.cond (.t 19)
  .skip
  (.exit 0)))
  (.seq
  (.block 1
  (.seq
  (.ops [] [
  ⟨(some 7), (.op (.mv (.k (.int .u64 0)))), none⟩])
  (.seq
  (.ops [] [
  ⟨(some 8), (.op (.mv (.k (.int .i64 0)))), none⟩])
  (.block 2
  (.loop
  (.seq
  (.seq
  (.ops [] [
  ⟨(some 22), (.op (.mv (.t 8))), none⟩,
  ⟨(some 23), (.op (.mv (.t 1))), none⟩,
  ⟨(some 24), (.op (.lenSl (.t 23))), none⟩,
  ⟨(some 25), (.op (.bin .lss (.t 22) (.t 24))), none⟩,
  ⟨(some 26), (.op (.mv (.t 25))), none⟩,
  ⟨(some 27), (.op (.mv (.t 7))), (some (26, false))⟩,
  ⟨(some 28), (.op (.bin .gtr (.t 27) (.k (.int .u64 0)))), (some (26, false))⟩,
  ⟨(some 29), (.op (.pick (.t 26) (.k (.bool true)) (.t 28))), none⟩])
  (.cond (.t 29)
  .skip
  (.exit 2)))
  (.seq
  (.block 3
  (.seq
  (.ops [
  ⟨(some 32), (.op (.mv (.t 7))), none⟩,
  ⟨(some 33), (.op (.mv (.t 5))), none⟩,
  ⟨(some 34), (.op (.mv (.t 6))), none⟩,
  ⟨(some 35), (.op (.mv (.t 8))), none⟩,
  ⟨(some 36), (.op (.bin .add (.t 34) (.t 35))), none⟩,
  ⟨(some 37), (.op (.ixAddr 1 (.t 33) (.t 36))), none⟩,
  ⟨(some 38), (.op (.load1 (.t 37))), none⟩,
  ⟨(some 39), (.op (.toInt .u64 (.t 38))), none⟩,
  ⟨(some 40), (.op (.bin .add (.t 32) (.t 39))), none⟩,
  ⟨(some 41), (.op (.mv (.t 0))), none⟩,
  ⟨(some 42), (.op (.mv (.t 6))), none⟩,
  ⟨(some 43), (.call (.k (.func (.func 74) #[] #[])) [(.t 41), (.t 42)]), none⟩,
  ⟨(some 44), (.op (.mv (.t 1))), none⟩,
  ⟨(some 45), (.op (.mv (.t 8))), none⟩,
  ⟨(some 46), (.call (.k (.func (.func 74) #[] #[])) [(.t 44), (.t 45)]), none⟩,
  ⟨(some 47), (.op (.bin .mul (.t 43) (.t 46))), none⟩] [
  ⟨(some 48), (.op (.bin .add (.t 40) (.t 47))), none⟩,
  ⟨(some 7), (.op (.mv (.t 48))), none⟩])
  (.seq
  (.ops [] [
  ⟨(some 49), (.op (.mv (.t 5))), none⟩,
  ⟨(some 50), (.op (.mv (.t 6))), none⟩,
  ⟨(some 51), (.op (.mv (.t 8))), none⟩,
  ⟨(some 52), (.op (.bin .add (.t 50) (.t 51))), none⟩,
  ⟨(some 53), (.op (.mv (.t 7))), none⟩,
  ⟨(some 54), (.op (.toInt .u32 (.t 53))), none⟩,
  ⟨(some 55), (.op (.ixAddr 1 (.t 49) (.t 52))), none⟩,
  ⟨none, (.op (.store 1 (.t 55) (.t 54))), none⟩])
  (.ops [] [
  ⟨(some 56), (.op (.mv (.t 7))), none⟩,
  ⟨(some 57), (.op (.bin .shr (.t 56) (.k (.int .u64 32)))), none⟩,
  ⟨(some 7), (.op (.mv (.t 57))), none⟩]))))
  (.ops [] [
  ⟨(some 30), (.op (.mv (.t 8))), none⟩,
  ⟨(some 31), (.op (.bin .add (.t 30) (.k (.int .i64 1)))), none⟩,
  ⟨(some 8), (.op (.mv (.t 31))), none⟩]))))))))
  (.ops [] [
  ⟨(some 20), (.op (.mv (.t 6))), none⟩,
  ⟨(some 21), (.op (.bin .add (.t 20) (.k (.int .i64 1)))), none⟩,
  ⟨(some 6), (.op (.mv (.t 21))), none⟩]))))))
  (.seq
  (.ops [] [
  ⟨(some 58), (.op (.mv (.t 5))), none⟩,
  ⟨(some 59), (.call (.k (.func (.func 73) #[] #[])) [(.t 58)]), none⟩,
  ⟨(some 4), (.op (.mv (.t 59))), none⟩])
  .ret)))),
  [(.t 4)]⟩
theorem r_lanyardref07_Mul : resolveFn Try.prog 53 = some c_lanyardref07_Mul := by kernel_rfl

def c_lanyardref07_From : RFn :=
  ⟨43,
  (.seq
  (.ops [] [
  ⟨(some 2), (.op (.mv (.k (.slice none 0 0)))), none⟩])
  (.seq
  (.ops [] [
  ⟨(some 6), (.op (.mv (.t 0))), none⟩,
  ⟨(some 7), (.op (.lenSl (.t 6))), none⟩,
  ⟨(some 8), (.op (.bin .quo (.t 7) (.k (.int .i64 4)))), none⟩,
  ⟨(some 9), (.op (.bin .add (.t 8) (.k (.int .i64 1)))), none⟩,
  ⟨(some 10), (.op (.make 1 4 [(.int .u32 0)] (.t 9) (.t 9))), none⟩,
  ⟨(some 3), (.op (.mv (.t 10))), none⟩])
  (.seq
  (.seq
  (.ops [] [
  ⟨(some 4), (.op (.mv (.k (.int .i64 0)))), none⟩])
  (.block 0
  (.loop
  (.seq
  (.seq
  (.ops [] [
  ⟨(some 11), (.op (.mv (.t 4))), none⟩,
  ⟨(some 12), (.op (.mv (.t 0))), none⟩,
  ⟨(some 13), (.op (.lenSl (.t 12))), none⟩,
  ⟨(some 14), (.op (.bin .lss (.t 11) (.t 13))), none⟩])
  (.cond (.t 14)
  .skip
  (.exit 0)))
  (.seq
  (.block 1
  (.seq
  (.ops [] [
  ⟨(some 17), (.op (.mv (.t 0))), none⟩,
  ⟨(some 18), (.op (.lenSl (.t 17))), none⟩,
  ⟨(some 19), (.op (.bin .sub (.t 18) (.k (.int .i64 1)))), none⟩,
  ⟨(some 20), (.op (.mv (.t 4))), none⟩,
  ⟨(some 21), (.op (.bin .sub (.t 19) (.t 20))), none⟩,
  ⟨(some 5), (.op (.mv (.t 21))), none⟩])
  (.ops [
  ⟨(some 22), (.op (.mv (.t 3))), none⟩,
  ⟨(some 23), (.op (.mv (.t 5))), none⟩,
  ⟨(some 24), (.op (.bin .quo (.t 23) (.k (.int .i64 4)))), none⟩,
  ⟨(some 25), (.op (.mv (.t 3))), none⟩,
  ⟨(some 26), (.op (.mv (.t 5))), none⟩,
  ⟨(some 27), (.op (.bin .quo (.t 26) (.k (.int .i64 4)))), none⟩,
  ⟨(some 28), (.op (.ixAddr 1 (.t 25) (.t 27))), none⟩,
  ⟨(some 29), (.op (.load1 (.t 28))), none⟩,
  ⟨(some 30), (.op (.mv (.t 0))), none⟩,
  ⟨(some 31), (.op (.mv (.t 4))), none⟩,
  ⟨(some 32), (.op (.ixAddr 1 (.t 30) (.t 31))), none⟩,
  ⟨(some 33), (.op (.load1 (.t 32))), none⟩,
  ⟨(some 34), (.op (.toInt .u32 (.t 33))), none⟩,
  ⟨(some 35), (.op (.mv (.t 5))), none⟩,
  ⟨(some 36), (.op (.bin .rem (.t 35) (.k (.int .i64 4)))), none⟩,
  ⟨(some 37), (.op (.bin .mul (.k (.int .i64 8)) (.t 36))), none⟩,
  ⟨(some 38), (.op (.bin .shl (.t 34) (.t 37))), none⟩,
  ⟨(some 39), (.op (.bin .add (.t 29) (.t 38))), none⟩] [
  ⟨(some 40), (.op (.ixAddr 1 (.t 22) (.t 24))), none⟩,
  ⟨none, (.op (.store 1 (.t 40) (.t 39))), none⟩])))
  (.ops [] [
  ⟨(some 15), (.op (.mv (.t 4))), none⟩,
  ⟨(some 16), (.op (.bin .add (.t 15) (.k (.int .i64 1)))), none⟩,
  ⟨(some 4), (.op (.mv (.t 16))), none⟩]))))))
  (.seq
  (.ops [] [
  ⟨(some 41), (.op (.mv (.t 3))), none⟩,
  ⟨(some 42), (.call (.k (.func (.func 73) #[] #[])) [(.t 41)]), none⟩,
  ⟨(some 2), (.op (.mv (.t 42))), none⟩])
  .ret)))),
  [(.t 2)]⟩
theorem r_lanyardref07_From : resolveFn Try.prog 47 = some c_lanyardref07_From := by kernel_rfl

def c_limb_From : RFn :=
  ⟨41,
  (.seq
  (.ops [] [
  ⟨(some 2), (.op (.mv (.k (.slice none 0 0)))), none⟩])
  (.seq
  (.ops [] [
  ⟨(some 7), (.op (.mv (.t 0))), none⟩,
  ⟨(some 8), (.op (.lenSl (.t 7))), none⟩,
  ⟨(some 9), (.op (.bin .add (.t 8) (.k (.int .i64 4)))), none⟩,
  ⟨(some 10), (.op (.bin .sub (.t 9) (.k (.int .i64 1)))), none⟩,
  ⟨(some 11), (.op (.bin .quo (.t 10) (.k (.int .i64 4)))), none⟩,
  ⟨(some 12), (.op (.make 1 4 [(.int .u32 0)] (.t 11) (.t 11))), none⟩,
  ⟨(some 3), (.op (.mv (.t 12))), none⟩])
  (.seq
  (.seq
  (.ops [] [
  ⟨(some 13), (.op (.mv (.t 0))), none⟩,
  ⟨(some 14), (.op (.lenSl (.t 13))), none⟩,
  ⟨(some 15), (.op (.mv (.k (.int .i64 0)))), none⟩])
  (.block 0
  (.loop
  (.seq
  (.ops [] [
  ⟨(some 16), (.op (.bin .lss (.t 15) (.t 14))), none⟩])
  (.seq
  (.cond (.t 16)
  .skip
  (.exit 0))
  (.seq
  (.block 1
  (.seq
  (.ops [] [
  ⟨(some 17), (.op (.mv (.t 15))), none⟩,
  ⟨(some 18), (.op (.ixAddr 1 (.t 13) (.t 15))), none⟩,
  ⟨(some 19), (.op (.load1 (.t 18))), none⟩,
  ⟨(some 4), (.op (.mv (.t 17))), none⟩,
  ⟨(some 5), (.op (.mv (.t 19))), none⟩])
  (.seq
  (.ops [] [
  ⟨(some 20), (.op (.mv (.t 0))), none⟩,
  ⟨(some 21), (.op (.lenSl (.t 20))), none⟩,
  ⟨(some 22), (.op (.bin .sub (.t 21) (.k (.int .i64 1)))), none⟩,
  ⟨(some 23), (.op (.mv (.t 4))), none⟩,
  ⟨(some 24), (.op (.bin .sub (.t 22) (.t 23))), none⟩,
  ⟨(some 6), (.op (.mv (.t 24))), none⟩])
  (.ops [
  ⟨(some 25), (.op (.mv (.t 3))), none⟩,
  ⟨(some 26), (.op (.mv (.t 6))), none⟩,
  ⟨(some 27), (.op (.bin .quo (.t 26) (.k (.int .i64 4)))), none⟩,
  ⟨(some 28), (.op (.ixAddr 1 (.t 25) (.t 27))), none⟩,
  ⟨(some 29), (.op (.load1 (.t 28))), none⟩,
  ⟨(some 30), (.op (.mv (.t 5))), none⟩,
  ⟨(some 31), (.op (.toInt .u32 (.t 30))), none⟩,
  ⟨(some 32), (.op (.mv (.t 6))), none⟩,
  ⟨(some 33), (.op (.bin .rem (.t 32) (.k (.int .i64 4)))), none⟩,
  ⟨(some 34), (.op (.bin .mul (.t 33) (.k (.int .i64 8)))), none⟩,
  ⟨(some 35), (.op (.bin .shl (.t 31) (.t 34))), none⟩] [
  ⟨(some 36), (.op (.bin .or (.t 29) (.t 35))), none⟩,
  ⟨(some 37), (.op (.ixAddr 1 (.t 25) (.t 27))), none⟩,
  ⟨none, (.op (.store 1 (.t 37) (.t 36))), none⟩]))))
  (.ops [] [
  ⟨(some 38), (.op (.bin .add (.t 15) (.k (.int .i64 1)))), none⟩,
  ⟨(some 15), (.op (.mv (.t 38))), none⟩])))))))
  (.seq
  (.ops [] [
  ⟨(some 39), (.op (.mv (.t 3))), none⟩,
  ⟨(some 40), (.call (.k (.func (.func 56) #[] #[])) [(.t 39)]), none⟩,
  ⟨(some 2), (.op (.mv (.t 40))), none⟩])
  .ret)))),
  [(.t 2)]⟩
theorem r_limb_From : resolveFn Try.prog 34 = some c_limb_From := by kernel_rfl

def c_lanyardref07_To : RFn :=
  ⟨38,
  (.seq
  (.ops [] [
  ⟨(some 2), (.op (.mv (.k (.slice none 0 0)))), none⟩])
  (.seq
  (.ops [] [
  ⟨(some 3), (.op (.mv (.k (.slice none 0 0)))), none⟩])
  (.seq
  (.seq
  (.ops [] [
  ⟨(some 7), (.op (.mv (.t 0))), none⟩,
  ⟨(some 8), (.op (.lenSl (.t 7))), none⟩,
  ⟨(some 9), (.op (.bin .sub (.t 8) (.k (.int .i64 1)))), none⟩,
  ⟨(some 4), (.op (.mv (.t 9))), none⟩])
  (.block 0
  (.loop
  (.seq
  (.seq
  (.ops [] [
  ⟨(some 10), (.op (.mv (.t 4))), none⟩,
  ⟨(some 11), (.op (.bin .geq (.t 10) (.k (.int .i64 0)))), none⟩])
  (.cond (.t 11)
  .skip
  (.exit 0)))
  (.seq
  (.block 1
  (.seq
  (.ops [] [
  ⟨(some 5), (.op (.mv (.k (.int .i64 3)))), none⟩])
  (.block 2
  (.loop
  (.seq
  (.seq
  (.ops [] [
  ⟨(some 14), (.op (.mv (.t 5))), none⟩,
  ⟨(some 15), (.op (.bin .geq (.t 14) (.k (.int .i64 0)))), none⟩])
  (.cond (.t 15)
  .skip
  (.exit 2)))
  (.seq
  (.block 3
  (.seq
  (.ops [] [
  ⟨(some 18), (.op (.mv (.t 0))), none⟩,
  ⟨(some 19), (.op (.mv (.t 4))), none⟩,
  ⟨(some 20), (.op (.ixAddr 1 (.t 18) (.t 19))), none⟩,
  ⟨(some 21), (.op (.load1 (.t 20))), none⟩,
  ⟨(some 22), (.op (.mv (.t 5))), none⟩,
  ⟨(some 23), (.op (.bin .mul (.k (.int .i64 8)) (.t 22))), none⟩,
  ⟨(some 24), (.op (.bin .shr (.t 21) (.t 23))), none⟩,
  ⟨(some 25), (.op (.toInt .u8 (.t 24))), none⟩,
  ⟨(some 6), (.op (.mv (.t 25))), none⟩])
  (.seq
  (.ops [] [
  ⟨(some 26), (.op (.mv (.t 3))), none⟩,
  ⟨(some 27), (.op (.lenSl (.t 26))), none⟩,
  ⟨(some 28), (.op (.bin .gtr (.t 27) (.k (.int .i64 0)))), none⟩,
  ⟨(some 29), (.op (.mv (.t 28))), none⟩,
  ⟨(some 30), (.op (.mv (.t 6))), (some (29, false))⟩,
  ⟨(some 31), (.op (.bin .gtr (.t 30) (.k (.int .u8 0)))), (some (29, false))⟩,
  ⟨(some 32), (.op (.pick (.t 29) (.k (.bool true)) (.t 31))), none⟩])
  (.cond (.t 32)
  (.ops [] [
  ⟨(some 33), (.op (.mv (.t 3))), none⟩,
  ⟨(some 34), (.op (.mv (.t 6))), none⟩,
  ⟨(some 35), (.op (.mkSl 1 [(.int .u8 0)] [(0, (1, (.t 34)))])), none⟩,
  ⟨(some 36), (.op (.append 1 1 (.t 33) (.t 35))), none⟩,
  ⟨(some 3), (.op (.mv (.t 36))), none⟩])
  .skip))))
  (.ops [] [
  ⟨(some 16), (.op (.mv (.t 5))), none⟩,
  ⟨(some 17), (.op (.bin .sub (.t 16) (.k (.int .i64 1)))), none⟩,
  ⟨(some 5), (.op (.mv (.t 17))), none⟩])))))))
  (.ops [] [
  ⟨(some 12), (.op (.mv (.t 4))), none⟩,
  ⟨(some 13), (.op (.bin .sub (.t 12) (.k (.int .i64 1)))), none⟩,
  ⟨(some 4), (.op (.mv (.t 13))), none⟩]))))))
  (.seq
  (.ops [] [
  ⟨(some 37), (.op (.mv (.t 3))), none⟩,
  ⟨(some 2), (.op (.mv (.t 37))), none⟩])
  .ret)))),
  [(.t 2)]⟩
theorem r_lanyardref07_To : resolveFn Try.prog 54 = some c_lanyardref07_To := by kernel_rfl

def c_limb_To : RFn :=
  ⟨34,
  (.seq
  (.ops [] [
  ⟨(some 2), (.op (.mv (.k (.slice none 0 0)))), none⟩])
  (.seq
  (.ops [] [
  ⟨(some 6), (.op (.mv (.t 0))), none⟩,
  ⟨(some 7), (.call (.k (.func (.func 71) #[] #[])) [(.t 6)]), none⟩,
  ⟨(some 8), (.op (.bin .add (.t 7) (.k (.int .i64 7)))), none⟩,
  ⟨(some 9), (.op (.bin .quo (.t 8) (.k (.int .i64 8)))), none⟩,
  ⟨(some 3), (.op (.mv (.t 9))), none⟩])
  (.seq
  (.ops [] [
  ⟨(some 10), (.op (.mv (.t 3))), none⟩,
  ⟨(some 11), (.op (.make 1 1 [(.int .u8 0)] (.t 10) (.t 10))), none⟩,
  ⟨(some 4), (.op (.mv (.t 11))), none⟩])
  (.seq
  (.seq
  (.ops [] [
  ⟨(some 12), (.op (.mv (.t 3))), none⟩,
  ⟨(some 13), (.op (.mv (.k (.int .i64 0)))), none⟩])
  (.block 0
  (.loop
  (.seq
  (.ops [] [
  ⟨(some 14), (.op (.bin .lss (.t 13) (.t 12))), none⟩])
  (.seq
  (.cond (.t 14)
  .skip
  (.exit 0))
  (.seq
  (.block 1
  (.seq
  (.ops [] [
  ⟨(some 15), (.op (.mv (.t 13))), none⟩,
  ⟨(some 5), (.op (.mv (.t 15))), none⟩])
  (.ops [] [
  ⟨(some 16), (.op (.mv (.t 4))), none⟩,
  ⟨(some 17), (.op (.mv (.t 3))), none⟩,
  ⟨(some 18), (.op (.bin .sub (.t 17) (.k (.int .i64 1)))), none⟩,
  ⟨(some 19), (.op (.mv (.t 5))), none⟩,
  ⟨(some 20), (.op (.bin .sub (.t 18) (.t 19))), none⟩,
  ⟨(some 21), (.op (.mv (.t 0))), none⟩,
  ⟨(some 22), (.op (.mv (.t 5))), none⟩,
  ⟨(some 23), (.op (.bin .quo (.t 22) (.k (.int .i64 4)))), none⟩,
  ⟨(some 24), (.op (.ixAddr 1 (.t 21) (.t 23))), none⟩,
  ⟨(some 25), (.op (.load1 (.t 24))), none⟩,
  ⟨(some 26), (.op (.mv (.t 5))), none⟩,
  ⟨(some 27), (.op (.bin .rem (.t 26) (.k (.int .i64 4)))), none⟩,
  ⟨(some 28), (.op (.bin .mul (.t 27) (.k (.int .i64 8)))), none⟩,
  ⟨(some 29), (.op (.bin .shr (.t 25) (.t 28))), none⟩,
  ⟨(some 30), (.op (.toInt .u8 (.t 29))), none⟩,
  ⟨(some 31), (.op (.ixAddr 1 (.t 16) (.t 20))), none⟩,
  ⟨none, (.op (.store 1 (.t 31) (.t 30))), none⟩])))
  (.ops [] [
  ⟨(some 32), (.op (.bin .add (.t 13) (.k (.int .i64 1)))), none⟩,
  ⟨(some 13), (.op (.mv (.t 32))), none⟩])))))))
  (.seq
  (.ops [] [
  ⟨(some 33), (.op (.mv (.t 4))), none⟩,
  ⟨(some 2), (.op (.mv (.t 33))), none⟩])
  .ret))))),
  [(.t 2)]⟩
theorem r_limb_To : resolveFn Try.prog 46 = some c_limb_To := by kernel_rfl

def c_math_bits_Div32 : RFn :=
  ⟨33,
  (.seq
  (.ops [] [
  ⟨(some 6), (.op (.mv (.k (.int .u32 0)))), none⟩,
  ⟨(some 7), (.op (.mv (.k (.int .u32 0)))), none⟩])
  (.seq
  (.seq
  (.ops [] [
  ⟨(some 9), (.op (.mv (.t 2))), none⟩,
  ⟨(some 10), (.op (.bin .neq (.t 9) (.k (.int .u32 0)))), none⟩,
  ⟨(some 11), (.op (.mv (.t 10))), none⟩,
  ⟨(some 12), (.op (.mv (.t 2))), (some (11, true))⟩,
  ⟨(some 13), (.op (.mv (.t 0))), (some (11, true))⟩,
  ⟨(some 14), (.op (.bin .leq (.t 12) (.t 13))), (some (11, true))⟩,
  ⟨(some 15), (.op (.pick (.t 11) (.t 14) (.k (.bool false)))), none⟩])
  (.cond (.t 15)
  (.ops [] [
  ⟨(some 16), (.xop .bad), none⟩,
  ⟨none, (.pan (.t 16)), none⟩])
  .skip))
  (.seq
  (.ops [] [
  ⟨(some 17), (.op (.mv (.t 0))), none⟩,
  ⟨(some 18), (.op (.toInt .u64 (.t 17))), none⟩,
  ⟨(some 19), (.op (.bin .shl (.t 18) (.k (.int .u64 32)))), none⟩,
  ⟨(some 20), (.op (.mv (.t 1))), none⟩,
  ⟨(some 21), (.op (.toInt .u64 (.t 20))), none⟩,
  ⟨(some 22), (.op (.bin .or (.t 19) (.t 21))), none⟩,
  ⟨(some 8), (.op (.mv (.t 22))), none⟩])
  (.seq
  (.ops [
  ⟨(some 23), (.op (.mv (.t 8))), none⟩,
  ⟨(some 24), (.op (.mv (.t 2))), none⟩,
  ⟨(some 25), (.op (.toInt .u64 (.t 24))), none⟩,
  ⟨(some 26), (.op (.bin .quo (.t 23) (.t 25))), none⟩,
  ⟨(some 27), (.op (.toInt .u32 (.t 26))), none⟩,
  ⟨(some 28), (.op (.mv (.t 8))), none⟩,
  ⟨(some 29), (.op (.mv (.t 2))), none⟩,
  ⟨(some 30), (.op (.toInt .u64 (.t 29))), none⟩,
  ⟨(some 31), (.op (.bin .rem (.t 28) (.t 30))), none⟩,
  ⟨(some 32), (.op (.toInt .u32 (.t 31))), none⟩,
  ⟨(some 6), (.op (.mv (.t 27))), none⟩] [
  ⟨(some 7), (.op (.mv (.t 32))), none⟩])
  .ret)))),
  [(.t 6), (.t 7)]⟩
theorem r_math_bits_Div32 : resolveFn Try.prog 96 = some c_math_bits_Div32 := by kernel_rfl

def c_math_bits_LeadingZeros32 : RFn :=
  ⟨6,
  (.seq
  (.ops [] [
  ⟨(some 2), (.op (.mv (.k (.int .i64 0)))), none⟩])
  (.seq
  (.ops [] [
  ⟨(some 3), (.op (.mv (.t 0))), none⟩,
  ⟨(some 4), (.call (.k (.func (.func 92) #[] #[])) [(.t 3)]), none⟩,
  ⟨(some 5), (.op (.bin .sub (.k (.int .i64 32)) (.t 4))), none⟩,
  ⟨(some 2), (.op (.mv (.t 5))), none⟩])
  .ret)),
  [(.t 2)]⟩
theorem r_math_bits_LeadingZeros32 : resolveFn Try.prog 86 = some c_math_bits_LeadingZeros32 := by kernel_rfl

def c_modulo_small : RFn :=
  ⟨37,
  (.seq
  (.ops [] [
  ⟨(some 4), (.op (.mv (.k (.slice none 0 0)))), none⟩,
  ⟨(some 5), (.op (.mv (.k (.slice none 0 0)))), none⟩])
  (.seq
  (.ops [] [
  ⟨(some 9), (.op (.mv (.t 0))), none⟩,
  ⟨(some 10), (.op (.lenSl (.t 9))), none⟩,
  ⟨(some 11), (.op (.make 1 4 [(.int .u32 0)] (.t 10) (.t 10))), none⟩,
  ⟨(some 6), (.op (.mv (.t 11))), none⟩])
  (.seq
  (.ops [] [
  ⟨(some 7), (.op (.mv (.k (.int .u32 0)))), none⟩])
  (.seq
  (.seq
  (.ops [] [
  ⟨(some 12), (.op (.mv (.t 0))), none⟩,
  ⟨(some 13), (.op (.lenSl (.t 12))), none⟩,
  ⟨(some 14), (.op (.bin .sub (.t 13) (.k (.int .i64 1)))), none⟩,
  ⟨(some 8), (.op (.mv (.t 14))), none⟩])
  (.block 0
  (.loop
  (.seq
  (.seq
  (.ops [] [
  ⟨(some 15), (.op (.mv (.t 8))), none⟩,
  ⟨(some 16), (.op (.bin .geq (.t 15) (.k (.int .i64 0)))), none⟩])
  (.cond (.t 16)
  .skip
  (.exit 0)))
  (.seq
  (.block 1
  (.ops [] [
  ⟨(some 20), (.op (.mv (.t 6))), none⟩,
  ⟨(some 21), (.op (.mv (.t 8))), none⟩,
  ⟨(some 22), (.op (.mv (.t 7))), none⟩,
  ⟨(some 23), (.op (.mv (.t 0))), none⟩,
  ⟨(some 24), (.op (.mv (.t 8))), none⟩,
  ⟨(some 25), (.op (.ixAddr 1 (.t 23) (.t 24))), none⟩,
  ⟨(some 26), (.op (.load1 (.t 25))), none⟩,
  ⟨(some 27), (.op (.mv (.t 1))), none⟩,
  ⟨(some 28), (.call (.k (.func (.func 96) #[] #[])) [(.t 22), (.t 26), (.t 27)]), none⟩,
  ⟨(some 19), (.op (.mv (.t 28))), none⟩,
  ⟨(some 29), (.op (.extract (.t 19) 0)), none⟩,
  ⟨(some 30), (.op (.extract (.t 19) 1)), none⟩,
  ⟨(some 31), (.op (.ixAddr 1 (.t 20) (.t 21))), none⟩,
  ⟨none, (.op (.store 1 (.t 31) (.t 29))), none⟩,
  ⟨(some 7), (.op (.mv (.t 30))), none⟩]))
  (.ops [] [
  ⟨(some 17), (.op (.mv (.t 8))), none⟩,
  ⟨(some 18), (.op (.bin .sub (.t 17) (.k (.int .i64 1)))), none⟩,
  ⟨(some 8), (.op (.mv (.t 18))), none⟩]))))))
  (.seq
  (.ops [] [
  ⟨(some 32), (.op (.mv (.t 6))), none⟩,
  ⟨(some 33), (.call (.k (.func (.func 84) #[] #[])) [(.t 32)]), none⟩,
  ⟨(some 34), (.op (.mv (.t 7))), none⟩,
  ⟨(some 35), (.op (.mkSl 1 [(.int .u32 0)] [(0, (1, (.t 34)))])), none⟩,
  ⟨(some 36), (.call (.k (.func (.func 84) #[] #[])) [(.t 35)]), none⟩,
  ⟨(some 4), (.op (.mv (.t 33))), none⟩,
  ⟨(some 5), (.op (.mv (.t 36))), none⟩])
  .ret))))),
  [(.t 4), (.t 5)]⟩
theorem r_modulo_small : resolveFn Try.prog 85 = some c_modulo_small := by kernel_rfl

def c_modulo_shifted : RFn :=
  ⟨40,
  (.seq
  (.ops [] [
  ⟨(some 4), (.op (.mv (.k (.slice none 0 0)))), none⟩])
  (.seq
  (.ops [] [
  ⟨(some 8), (.op (.mv (.t 0))), none⟩,
  ⟨(some 9), (.op (.lenSl (.t 8))), none⟩,
  ⟨(some 10), (.op (.bin .add (.t 9) (.k (.int .i64 1)))), none⟩,
  ⟨(some 11), (.op (.make 1 4 [(.int .u32 0)] (.t 10) (.t 10))), none⟩,
  ⟨(some 5), (.op (.mv (.t 11))), none⟩])
  (.seq
  (.seq
  (.ops [] [
  ⟨(some 12), (.op (.mv (.t 0))), none⟩,
  ⟨(some 13), (.op (.lenSl (.t 12))), none⟩,
  ⟨(some 14), (.op (.mv (.k (.int .i64 0)))), none⟩])
  (.block 0
  (.loop
  (.seq
  (.ops [] [
  ⟨(some 15), (.op (.bin .lss (.t 14) (.t 13))), none⟩])
  (.seq
  (.cond (.t 15)
  .skip
  (.exit 0))
  (.seq
  (.block 1
  (.seq
  (.ops [] [
  ⟨(some 16), (.op (.mv (.t 14))), none⟩,
  ⟨(some 17), (.op (.ixAddr 1 (.t 12) (.t 14))), none⟩,
  ⟨(some 18), (.op (.load1 (.t 17))), none⟩,
  ⟨(some 6), (.op (.mv (.t 16))), none⟩,
  ⟨(some 7), (.op (.mv (.t 18))), none⟩])
  (.seq
  (.ops [
  ⟨(some 19), (.op (.mv (.t 5))), none⟩,
  ⟨(some 20), (.op (.mv (.t 6))), none⟩,
  ⟨(some 21), (.op (.ixAddr 1 (.t 19) (.t 20))), none⟩,
  ⟨(some 22), (.op (.load1 (.t 21))), none⟩,
  ⟨(some 23), (.op (.mv (.t 7))), none⟩,
  ⟨(some 24), (.op (.mv (.t 1))), none⟩,
  ⟨(some 25), (.op (.bin .shl (.t 23) (.t 24))), none⟩] [
  ⟨(some 26), (.op (.bin .or (.t 22) (.t 25))), none⟩,
  ⟨(some 27), (.op (.ixAddr 1 (.t 19) (.t 20))), none⟩,
  ⟨none, (.op (.store 1 (.t 27) (.t 26))), none⟩])
  (.seq
  (.ops [] [
  ⟨(some 28), (.op (.mv (.t 1))), none⟩,
  ⟨(some 29), (.op (.bin .gtr (.t 28) (.k (.int .i64 0)))), none⟩])
  (.cond (.t 29)
  (.ops [] [
  ⟨(some 30), (.op (.mv (.t 5))), none⟩,
  ⟨(some 31), (.op (.mv (.t 6))), none⟩,
  ⟨(some 32), (.op (.bin .add (.t 31) (.k (.int .i64 1)))), none⟩,
  ⟨(some 33), (.op (.mv (.t 7))), none⟩,
  ⟨(some 34), (.op (.mv (.t 1))), none⟩,
  ⟨(some 35), (.op (.bin .sub (.k (.int .i64 32)) (.t 34))), none⟩,
  ⟨(some 36), (.op (.bin .shr (.t 33) (.t 35))), none⟩,
  ⟨(some 37), (.op (.ixAddr 1 (.t 30) (.t 32))), none⟩,
  ⟨none, (.op (.store 1 (.t 37) (.t 36))), none⟩])
  .skip)))))
  (.ops [] [
  ⟨(some 38), (.op (.bin .add (.t 14) (.k (.int .i64 1)))), none⟩,
  ⟨(some 14), (.op (.mv (.t 38))), none⟩])))))))
  (.seq
  (.ops [] [
  ⟨(some 39), (.op (.mv (.t 5))), none⟩,
  ⟨(some 4), (.op (.mv (.t 39))), none⟩])
  .ret)))),
  [(.t 4)]⟩
theorem r_modulo_shifted : resolveFn Try.prog 87 = some c_modulo_shifted := by kernel_rfl

def c_modulo_back : RFn :=
  ⟨44,
  (.seq
  (.ops [] [
  ⟨(some 4), (.op (.mv (.k (.slice none 0 0)))), none⟩])
  (.seq
  (.seq
  (.ops [] [
  ⟨(some 6), (.op (.mv (.t 0))), none⟩,
  ⟨(some 7), (.op (.lenSl (.t 6))), none⟩,
  ⟨(some 8), (.op (.mv (.k (.int .i64 0)))), none⟩])
  (.block 0
  (.loop
  (.seq
  (.ops [] [
  ⟨(some 9), (.op (.bin .lss (.t 8) (.t 7))), none⟩])
  (.seq
  (.cond (.t 9)
  .skip
  (.exit 0))
  (.seq
  (.block 1
  (.seq
  (.ops [] [
  ⟨(some 10), (.op (.mv (.t 8))), none⟩,
  ⟨(some 5), (.op (.mv (.t 10))), none⟩])
  (.seq
  (.ops [] [
  ⟨(some 11), (.op (.mv (.t 0))), none⟩,
  ⟨(some 12), (.op (.mv (.t 5))), none⟩,
  ⟨(some 13), (.op (.ixAddr 1 (.t 11) (.t 12))), none⟩,
  ⟨(some 14), (.op (.load1 (.t 13))), none⟩,
  ⟨(some 15), (.op (.mv (.t 1))), none⟩,
  ⟨(some 16), (.op (.bin .shr (.t 14) (.t 15))), none⟩,
  ⟨(some 17), (.op (.ixAddr 1 (.t 11) (.t 12))), none⟩,
  ⟨none, (.op (.store 1 (.t 17) (.t 16))), none⟩])
  (.seq
  (.ops [] [
  ⟨(some 18), (.op (.mv (.t 1))), none⟩,
  ⟨(some 19), (.op (.bin .gtr (.t 18) (.k (.int .i64 0)))), none⟩,
  ⟨(some 20), (.op (.mv (.t 19))), none⟩,
  ⟨(some 21), (.op (.mv (.t 5))), (some (20, true))⟩,
  ⟨(some 22), (.op (.bin .add (.t 21) (.k (.int .i64 1)))), (some (20, true))⟩,
  ⟨(some 23), (.op (.mv (.t 0))), (some (20, true))⟩,
  ⟨(some 24), (.op (.lenSl (.t 23))), (some (20, true))⟩,
  ⟨(some 25), (.op (.bin .lss (.t 22) (.t 24))), (some (20, true))⟩,
  ⟨(some 26), (.op (.pick (.t 20) (.t 25) (.k (.bool false)))), none⟩])
  (.cond (.t 26)
  (.ops [
  ⟨(some 27), (.op (.mv (.t 0))), none⟩,
  ⟨(some 28), (.op (.mv (.t 5))), none⟩,
  ⟨(some 29), (.op (.ixAddr 1 (.t 27) (.t 28))), none⟩,
  ⟨(some 30), (.op (.load1 (.t 29))), none⟩,
  ⟨(some 31), (.op (.mv (.t 0))), none⟩,
  ⟨(some 32), (.op (.mv (.t 5))), none⟩,
  ⟨(some 33), (.op (.bin .add (.t 32) (.k (.int .i64 1)))), none⟩,
  ⟨(some 34), (.op (.ixAddr 1 (.t 31) (.t 33))), none⟩,
  ⟨(some 35), (.op (.load1 (.t 34))), none⟩,
  ⟨(some 36), (.op (.mv (.t 1))), none⟩,
  ⟨(some 37), (.op (.bin .sub (.k (.int .i64 32)) (.t 36))), none⟩,
  ⟨(some 38), (.op (.bin .shl (.t 35) (.t 37))), none⟩] [
  ⟨(some 39), (.op (.bin .or (.t 30) (.t 38))), none⟩,
  ⟨(some 40), (.op (.ixAddr 1 (.t 27) (.t 28))), none⟩,
  ⟨none, (.op (.store 1 (.t 40) (.t 39))), none⟩])
  .skip)))))
  (.ops [] [
  ⟨(some 41), (.op (.bin .add (.t 8) (.k (.int .i64 1)))), none⟩,
  ⟨(some 8), (.op (.mv (.t 41))), none⟩])))))))
  (.seq
  (.ops [] [
  ⟨(some 42), (.op (.mv (.t 0))), none⟩,
  ⟨(some 43), (.call (.k (.func (.func 84) #[] #[])) [(.t 42)]), none⟩,
  ⟨(some 4), (.op (.mv (.t 43))), none⟩])
  .ret))),
  [(.t 4)]⟩
theorem r_modulo_back : resolveFn Try.prog 91 = some c_modulo_back := by kernel_rfl

def c_modulo_less : RFn :=
  ⟨60,
  (.seq
  (.ops [] [
  ⟨(some 6), (.op (.mv (.k (.bool false)))), none⟩])
  (.seq
  (.ops [] [
  ⟨(some 7), (.op (.mv (.k (.int .u64 0)))), none⟩,
  ⟨(some 8), (.op (.mv (.k (.int .u32 0)))), none⟩])
  (.seq
  (.seq
  (.ops [] [
  ⟨(some 10), (.op (.mv (.t 1))), none⟩,
  ⟨(some 11), (.op (.lenSl (.t 10))), none⟩,
  ⟨(some 12), (.op (.mv (.k (.int .i64 0)))), none⟩])
  (.block 0
  (.loop
  (.seq
  (.ops [] [
  ⟨(some 13), (.op (.bin .lss (.t 12) (.t 11))), none⟩])
  (.seq
  (.cond (.t 13)
  .skip
  (.exit 0))
  (.seq
  (.block 1
  (.seq
  (.ops [] [
  ⟨(some 14), (.op (.mv (.t 12))), none⟩,
  ⟨(some 9), (.op (.mv (.t 14))), none⟩])
  (.seq
  (.ops [] [
  ⟨(some 15), (.op (.mv (.t 7))), none⟩,
  ⟨(some 16), (.op (.mv (.t 2))), none⟩,
  ⟨(some 17), (.op (.toInt .u64 (.t 16))), none⟩,
  ⟨(some 18), (.op (.mv (.t 1))), none⟩,
  ⟨(some 19), (.op (.mv (.t 9))), none⟩,
  ⟨(some 20), (.op (.ixAddr 1 (.t 18) (.t 19))), none⟩,
  ⟨(some 21), (.op (.load1 (.t 20))), none⟩,
  ⟨(some 22), (.op (.toInt .u64 (.t 21))), none⟩,
  ⟨(some 23), (.op (.bin .mul (.t 17) (.t 22))), none⟩,
  ⟨(some 24), (.op (.bin .add (.t 15) (.t 23))), none⟩,
  ⟨(some 7), (.op (.mv (.t 24))), none⟩])
  (.seq
  (.ops [] [
  ⟨(some 26), (.op (.mv (.t 0))), none⟩,
  ⟨(some 27), (.op (.mv (.t 9))), none⟩,
  ⟨(some 28), (.op (.mv (.t 0))), none⟩,
  ⟨(some 29), (.op (.mv (.t 9))), none⟩,
  ⟨(some 30), (.op (.ixAddr 1 (.t 28) (.t 29))), none⟩,
  ⟨(some 31), (.op (.load1 (.t 30))), none⟩,
  ⟨(some 32), (.op (.mv (.t 7))), none⟩,
  ⟨(some 33), (.op (.toInt .u32 (.t 32))), none⟩,
  ⟨(some 34), (.op (.mv (.t 8))), none⟩,
  ⟨(some 35), (.call (.k (.func (.func 97) #[] #[])) [(.t 31), (.t 33), (.t 34)]), none⟩,
  ⟨(some 25), (.op (.mv (.t 35))), none⟩,
  ⟨(some 36), (.op (.extract (.t 25) 0)), none⟩,
  ⟨(some 37), (.op (.extract (.t 25) 1)), none⟩,
  ⟨(some 38), (.op (.ixAddr 1 (.t 26) (.t 27))), none⟩,
  ⟨none, (.op (.store 1 (.t 38) (.t 36))), none⟩,
  ⟨(some 8), (.op (.mv (.t 37))), none⟩])
  (.ops [] [
  ⟨(some 39), (.op (.mv (.t 7))), none⟩,
  ⟨(some 40), (.op (.bin .shr (.t 39) (.k (.int .u64 32)))), none⟩,
  ⟨(some 7), (.op (.mv (.t 40))), none⟩])))))
  (.ops [] [
  ⟨(some 41), (.op (.bin .add (.t 12) (.k (.int .i64 1)))), none⟩,
  ⟨(some 12), (.op (.mv (.t 41))), none⟩])))))))
  (.seq
  (.ops [] [
  ⟨(some 43), (.op (.mv (.t 0))), none⟩,
  ⟨(some 44), (.op (.mv (.t 1))), none⟩,
  ⟨(some 45), (.op (.lenSl (.t 44))), none⟩,
  ⟨(some 46), (.op (.mv (.t 0))), none⟩,
  ⟨(some 47), (.op (.mv (.t 1))), none⟩,
  ⟨(some 48), (.op (.lenSl (.t 47))), none⟩,
  ⟨(some 49), (.op (.ixAddr 1 (.t 46) (.t 48))), none⟩,
  ⟨(some 50), (.op (.load1 (.t 49))), none⟩,
  ⟨(some 51), (.op (.mv (.t 7))), none⟩,
  ⟨(some 52), (.op (.toInt .u32 (.t 51))), none⟩,
  ⟨(some 53), (.op (.mv (.t 8))), none⟩,
  ⟨(some 54), (.call (.k (.func (.func 97) #[] #[])) [(.t 50), (.t 52), (.t 53)]), none⟩,
  ⟨(some 42), (.op (.mv (.t 54))), none⟩,
  ⟨(some 55), (.op (.extract (.t 42) 0)), none⟩,
  ⟨(some 56), (.op (.extract (.t 42) 1)), none⟩,
  ⟨(some 57), (.op (.ixAddr 1 (.t 43) (.t 45))), none⟩,
  ⟨none, (.op (.store 1 (.t 57) (.t 55))), none⟩,
  ⟨(some 8), (.op (.mv (.t 56))), none⟩])
  (.seq
  (.ops [] [
  ⟨(some 58), (.op (.mv (.t 8))), none⟩,
  ⟨(some 59), (.op (.bin .eql (.t 58) (.k (.int .u32 0)))), none⟩,
  ⟨(some 6), (.op (.mv (.t 59))), none⟩])
  .ret))))),
  [(.t 6)]⟩
theorem r_modulo_less : resolveFn Try.prog 89 = some c_modulo_less := by kernel_rfl

def d_modulo_more : List (List Nat) := [[], [], [], [], [2, 3], [4], [], [], [6, 7], [8], [], [5, 9, 10], [11], [12], [12], [0, 1, 0, 1, 2, 3, 4, 5, 6, 7, 8, 9, 10, 11, 12, 13], [15, 13, 11, 0, 1, 2, 3, 4, 5, 6, 7, 8, 9, 10, 11, 12, 13], [14, 16, 0, 1, 2, 3, 4, 5, 6, 7, 8, 9, 10, 11, 12, 13, 14, 15, 16]]
def q_modulo_more : List (Option (List Nat)) := [(some []), (some []), (some []), (some []), none, none, (some []), (some []), none, none, (some []), none, (some [11]), (some [12]), (some [12]), none, none, (some [10, 14])]
def c_modulo_more : RFn :=
  ⟨36,
  (.seq
  (.ops [] [
  ⟨(some 4), (.op (.mv (.k (.int .u32 0)))), none⟩])
  (.seq
  (.seq
  (.ops [] [
  ⟨(some 6), (.op (.mv (.t 1))), none⟩,
  ⟨(some 7), (.op (.lenSl (.t 6))), none⟩,
  ⟨(some 8), (.op (.mv (.k (.int .i64 0)))), none⟩])
  (.block 0
  (.loop
  (.seq
  (.ops [] [
  ⟨(some 9), (.op (.bin .lss (.t 8) (.t 7))), none⟩])
  (.seq
  (.cond (.t 9)
  .skip
  (.exit 0))
  (.seq
  (.block 1
  (.seq
  (.ops [] [
  ⟨(some 10), (.op (.mv (.t 8))), none⟩,
  ⟨(some 5), (.op (.mv (.t 10))), none⟩])
  (.tree [
  ⟨(some 12), (.op (.mv (.t 0))), none⟩,
  ⟨(some 13), (.op (.mv (.t 5))), none⟩,
  ⟨(some 14), (.op (.mv (.t 0))), none⟩,
  ⟨(some 15), (.op (.mv (.t 5))), none⟩,
  ⟨(some 16), (.op (.ixAddr 1 (.t 14) (.t 15))), none⟩,
  ⟨(some 17), (.op (.load1 (.t 16))), none⟩,
  ⟨(some 18), (.op (.mv (.t 1))), none⟩,
  ⟨(some 19), (.op (.mv (.t 5))), none⟩,
  ⟨(some 20), (.op (.ixAddr 1 (.t 18) (.t 19))), none⟩,
  ⟨(some 21), (.op (.load1 (.t 20))), none⟩,
  ⟨(some 22), (.op (.mv (.t 4))), none⟩,
  ⟨(some 23), (.call (.k (.func (.func 98) #[] #[])) [(.t 17), (.t 21), (.t 22)]), none⟩,
  ⟨(some 11), (.op (.mv (.t 23))), none⟩,
  ⟨(some 24), (.op (.extract (.t 11) 0)), none⟩,
  ⟨(some 25), (.op (.extract (.t 11) 1)), none⟩,
  ⟨(some 26), (.op (.ixAddr 1 (.t 12) (.t 13))), none⟩,
  ⟨none, (.op (.store 1 (.t 26) (.t 24))), none⟩,
  ⟨(some 4), (.op (.mv (.t 25))), none⟩] d_modulo_more q_modulo_more)))
  (.ops [] [
  ⟨(some 27), (.op (.bin .add (.t 8) (.k (.int .i64 1)))), none⟩,
  ⟨(some 8), (.op (.mv (.t 27))), none⟩])))))))
  (.ops [] [
  ⟨(some 28), (.op (.mv (.t 0))), none⟩,
  ⟨(some 29), (.op (.mv (.t 1))), none⟩,
  ⟨(some 30), (.op (.lenSl (.t 29))), none⟩,
  ⟨(some 31), (.op (.ixAddr 1 (.t 28) (.t 30))), none⟩,
  ⟨(some 32), (.op (.load1 (.t 31))), none⟩,
  ⟨(some 33), (.op (.mv (.t 4))), none⟩,
  ⟨(some 34), (.op (.bin .add (.t 32) (.t 33))), none⟩,
  ⟨(some 35), (.op (.ixAddr 1 (.t 28) (.t 30))), none⟩,
  ⟨none, (.op (.store 1 (.t 35) (.t 34))), none⟩]))),
  []⟩
theorem r_modulo_more : resolveFn Try.prog 90 [4] = some c_modulo_more := by kernel_rfl

theorem t_modulo_more : nextL d_modulo_more q_modulo_more 0 = [0] ∧ nextL d_modulo_more q_modulo_more 1 = [1] ∧ nextL d_modulo_more q_modulo_more 3 = [2] ∧ nextL d_modulo_more q_modulo_more 7 = [3] ∧ nextL d_modulo_more q_modulo_more 15 = [6] ∧ nextL d_modulo_more q_modulo_more 79 = [7] ∧ nextL d_modulo_more q_modulo_more 207 = [10] ∧ nextL d_modulo_more q_modulo_more 1231 = [4, 8] ∧ nextL d_modulo_more q_modulo_more 1247 = [5, 8] ∧ nextL d_modulo_more q_modulo_more 1279 = [8] ∧ nextL d_modulo_more q_modulo_more 1487 = [4, 9] ∧ nextL d_modulo_more q_modulo_more 1503 = [5, 9] ∧ nextL d_modulo_more q_modulo_more 1535 = [9] ∧ nextL d_modulo_more q_modulo_more 1999 = [4] ∧ nextL d_modulo_more q_modulo_more 2015 = [5] ∧ nextL d_modulo_more q_modulo_more 2047 = [11] ∧ nextL d_modulo_more q_modulo_more 4095 = [12] ∧ nextL d_modulo_more q_modulo_more 8191 = [13] ∧ nextL d_modulo_more q_modulo_more 16383 = [14] ∧ nextL d_modulo_more q_modulo_more 32767 = [15] ∧ nextL d_modulo_more q_modulo_more 65535 = [16] ∧ nextL d_modulo_more q_modulo_more 131071 = [17] ∧ nextL d_modulo_more q_modulo_more 262143 = [] := by decide +kernel

def c_modulo_guess : RFn :=
  ⟨60,
  (.seq
  (.ops [] [
  ⟨(some 2), (.op (.box (.t 0))), none⟩,
  ⟨(some 3), (.op (.box (.t 1))), none⟩,
  ⟨(some 4), (.op (.mv (.k (.int .u32 0)))), none⟩])
  (.scope (.seq
  (.ops [
  ⟨(some 9), (.op (.ixAddrA 3 1 (.t 2) (.k (.int .i64 1)))), none⟩,
  ⟨(some 10), (.op (.load1 (.t 9))), none⟩,
  ⟨(some 11), (.op (.toInt .u64 (.t 10))), none⟩,
  ⟨(some 12), (.op (.ixAddrA 2 1 (.t 3) (.k (.int .i64 0)))), none⟩,
  ⟨(some 13), (.op (.load1 (.t 12))), none⟩,
  ⟨(some 14), (.op (.toInt .u64 (.t 13))), none⟩,
  ⟨(some 15), (.op (.bin .add (.t 11) (.t 14))), none⟩,
  ⟨(some 5), (.op (.mv (.k (.int .u32 4294967295)))), none⟩] [
  ⟨(some 6), (.op (.mv (.t 15))), none⟩])
  (.seq
  (.seq
  (.ops [] [
  ⟨(some 16), (.op (.ixAddrA 3 1 (.t 2) (.k (.int .i64 0)))), none⟩,
  ⟨(some 17), (.op (.load1 (.t 16))), none⟩,
  ⟨(some 18), (.op (.ixAddrA 2 1 (.t 3) (.k (.int .i64 0)))), none⟩,
  ⟨(some 19), (.op (.load1 (.t 18))), none⟩,
  ⟨(some 20), (.op (.bin .lss (.t 17) (.t 19))), none⟩])
  (.cond (.t 20)
  (.seq
  (.ops [] [
  ⟨(some 22), (.op (.ixAddrA 3 1 (.t 2) (.k (.int .i64 0)))), none⟩,
  ⟨(some 23), (.op (.load1 (.t 22))), none⟩,
  ⟨(some 24), (.op (.ixAddrA 3 1 (.t 2) (.k (.int .i64 1)))), none⟩,
  ⟨(some 25), (.op (.load1 (.t 24))), none⟩,
  ⟨(some 26), (.op (.ixAddrA 2 1 (.t 3) (.k (.int .i64 0)))), none⟩,
  ⟨(some 27), (.op (.load1 (.t 26))), none⟩,
  ⟨(some 28), (.call (.k (.func (.func 96) #[] #[])) [(.t 23), (.t 25), (.t 27)]), none⟩,
  ⟨(some 21), (.op (.mv (.t 28))), none⟩,
  ⟨(some 29), (.op (.extract (.t 21) 0)), none⟩,
  ⟨(some 30), (.op (.extract (.t 21) 1)), none⟩,
  ⟨(some 7), (.op (.mv (.t 29))), none⟩,
  ⟨(some 8), (.op (.mv (.t 30))), none⟩])
  (.ops [] [
  ⟨(some 31), (.op (.mv (.t 7))), none⟩,
  ⟨(some 32), (.op (.mv (.t 8))), none⟩,
  ⟨(some 33), (.op (.toInt .u64 (.t 32))), none⟩,
  ⟨(some 5), (.op (.mv (.t 31))), none⟩,
  ⟨(some 6), (.op (.mv (.t 33))), none⟩]))
  .skip))
  (.seq
  (.label 0)
  (.seq
  (.seq
  (.ops [] [
  ⟨(some 34), (.op (.mv (.t 6))), none⟩,
  ⟨(some 35), (.op (.bin .shr (.t 34) (.k (.int .u64 32)))), none⟩,
  ⟨(some 36), (.op (.bin .eql (.t 35) (.k (.int .u64 0)))), none⟩,
  ⟨(some 37), (.op (.mv (.t 36))), none⟩,
  ⟨(some 38), (.op (.mv (.t 5))), (some (37, true))⟩,
  ⟨(some 39), (.op (.toInt .u64 (.t 38))), (some (37, true))⟩,
  ⟨(some 40), (.op (.ixAddrA 2 1 (.t 3) (.k (.int .i64 1)))), (some (37, true))⟩,
  ⟨(some 41), (.op (.load1 (.t 40))), (some (37, true))⟩,
  ⟨(some 42), (.op (.toInt .u64 (.t 41))), (some (37, true))⟩,
  ⟨(some 43), (.op (.bin .mul (.t 39) (.t 42))), (some (37, true))⟩,
  ⟨(some 44), (.op (.mv (.t 6))), (some (37, true))⟩,
  ⟨(some 45), (.op (.bin .shl (.t 44) (.k (.int .u64 32)))), (some (37, true))⟩,
  ⟨(some 46), (.op (.ixAddrA 3 1 (.t 2) (.k (.int .i64 2)))), (some (37, true))⟩,
  ⟨(some 47), (.op (.load1 (.t 46))), (some (37, true))⟩,
  ⟨(some 48), (.op (.toInt .u64 (.t 47))), (some (37, true))⟩,
  ⟨(some 49), (.op (.bin .or (.t 45) (.t 48))), (some (37, true))⟩,
  ⟨(some 50), (.op (.bin .gtr (.t 43) (.t 49))), (some (37, true))⟩,
  ⟨(some 51), (.op (.pick (.t 37) (.t 50) (.k (.bool false)))), none⟩])
  (.cond (.t 51)
  (.seq
  (.ops [] [
  ⟨(some 52), (.op (.mv (.t 5))), none⟩,
  ⟨(some 53), (.op (.bin .sub (.t 52) (.k (.int .u32 1)))), none⟩,
  ⟨(some 5), (.op (.mv (.t 53))), none⟩])
  (.seq
  (.ops [] [
  ⟨(some 54), (.op (.mv (.t 6))), none⟩,
  ⟨(some 55), (.op (.ixAddrA 2 1 (.t 3) (.k (.int .i64 0)))), none⟩,
  ⟨(some 56), (.op (.load1 (.t 55))), none⟩,
  ⟨(some 57), (.op (.toInt .u64 (.t 56))), none⟩,
  ⟨(some 58), (.op (.bin .add (.t 54) (.t 57))), none⟩,
  ⟨(some 6), (.op (.mv (.t 58))), none⟩])
  (.goto 0)))
  .skip))
  (.seq
  (.ops [] [
  ⟨(some 59), (.op (.mv (.t 5))), none⟩,
  ⟨(some 4), (.op (.mv (.t 59))), none⟩])
  .ret))))) 0 (.seq
  .skip
  (.seq
  (.seq
  (.ops [] [
  ⟨(some 34), (.op (.mv (.t 6))), none⟩,
  ⟨(some 35), (.op (.bin .shr (.t 34) (.k (.int .u64 32)))), none⟩,
  ⟨(some 36), (.op (.bin .eql (.t 35) (.k (.int .u64 0)))), none⟩,
  ⟨(some 37), (.op (.mv (.t 36))), none⟩,
  ⟨(some 38), (.op (.mv (.t 5))), (some (37, true))⟩,
  ⟨(some 39), (.op (.toInt .u64 (.t 38))), (some (37, true))⟩,
  ⟨(some 40), (.op (.ixAddrA 2 1 (.t 3) (.k (.int .i64 1)))), (some (37, true))⟩,
  ⟨(some 41), (.op (.load1 (.t 40))), (some (37, true))⟩,
  ⟨(some 42), (.op (.toInt .u64 (.t 41))), (some (37, true))⟩,
  ⟨(some 43), (.op (.bin .mul (.t 39) (.t 42))), (some (37, true))⟩,
  ⟨(some 44), (.op (.mv (.t 6))), (some (37, true))⟩,
  ⟨(some 45), (.op (.bin .shl (.t 44) (.k (.int .u64 32)))), (some (37, true))⟩,
  ⟨(some 46), (.op (.ixAddrA 3 1 (.t 2) (.k (.int .i64 2)))), (some (37, true))⟩,
  ⟨(some 47), (.op (.load1 (.t 46))), (some (37, true))⟩,
  ⟨(some 48), (.op (.toInt .u64 (.t 47))), (some (37, true))⟩,
  ⟨(some 49), (.op (.bin .or (.t 45) (.t 48))), (some (37, true))⟩,
  ⟨(some 50), (.op (.bin .gtr (.t 43) (.t 49))), (some (37, true))⟩,
  ⟨(some 51), (.op (.pick (.t 37) (.t 50) (.k (.bool false)))), none⟩])
  (.cond (.t 51)
  (.seq
  (.ops [] [
  ⟨(some 52), (.op (.mv (.t 5))), none⟩,
  ⟨(some 53), (.op (.bin .sub (.t 52) (.k (.int .u32 1)))), none⟩,
  ⟨(some 5), (.op (.mv (.t 53))), none⟩])
  (.seq
  (.ops [] [
  ⟨(some 54), (.op (.mv (.t 6))), none⟩,
  ⟨(some 55), (.op (.ixAddrA 2 1 (.t 3) (.k (.int .i64 0)))), none⟩,
  ⟨(some 56), (.op (.load1 (.t 55))), none⟩,
  ⟨(some 57), (.op (.toInt .u64 (.t 56))), none⟩,
  ⟨(some 58), (.op (.bin .add (.t 54) (.t 57))), none⟩,
  ⟨(some 6), (.op (.mv (.t 58))), none⟩])
  (.goto 0)))
  .skip))
  (.seq
  (.ops [] [
  ⟨(some 59), (.op (.mv (.t 5))), none⟩,
  ⟨(some 4), (.op (.mv (.t 59))), none⟩])
  .ret))))),
  [(.t 4)]⟩
theorem r_modulo_guess : resolveFn Try.prog 88 = some c_modulo_guess := by kernel_rfl

def c_modulo_DivMod : RFn :=
  ⟨133,
  (.seq
  (.ops [] [
  ⟨(some 4), (.op (.mv (.k (.slice none 0 0)))), none⟩,
  ⟨(some 5), (.op (.mv (.k (.slice none 0 0)))), none⟩,
  ⟨(some 6), (.op (.mv (.k (.bool false)))), none⟩])
  (.seq
  (.ops [] [
  ⟨(some 13), (.op (.mv (.t 0))), none⟩,
  ⟨(some 14), (.call (.k (.func (.func 84) #[] #[])) [(.t 13)]), none⟩,
  ⟨(some 15), (.op (.mv (.t 1))), none⟩,
  ⟨(some 16), (.call (.k (.func (.func 84) #[] #[])) [(.t 15)]), none⟩,
  ⟨(some 0), (.op (.mv (.t 14))), none⟩,
  ⟨(some 1), (.op (.mv (.t 16))), none⟩])
  (.seq
  (.block 0
  (.seq
  (.ops [] [
  ⟨(some 18), (.op (.mv (.t 1))), none⟩,
  ⟨(some 19), (.op (.lenSl (.t 18))), none⟩,
  ⟨(some 20), (.op (.bin .eql (.t 19) (.k (.int .i64 0)))), none⟩,
  ⟨(some 17), (.op (.mv (.t 20))), none⟩])
  (.cond (.t 17)
  (.seq
  (.ops [] [
  ⟨(some 4), (.op (.mv (.k (.slice none 0 0)))), none⟩,
  ⟨(some 5), (.op (.mv (.k (.slice none 0 0)))), none⟩,
  ⟨(some 6), (.op (.mv (.k (.bool false)))), none⟩])
  .ret)
  (.seq
  (.ops [] [
  ⟨(some 22), (.op (.mv (.t 0))), none⟩,
  ⟨(some 23), (.op (.mv (.t 1))), none⟩,
  ⟨(some 24), (.call (.k (.func (.func 33) #[] #[])) [(.t 22), (.t 23)]), none⟩,
  ⟨(some 25), (.op (.bin .lss (.t 24) (.k (.int .i64 0)))), none⟩,
  ⟨(some 21), (.op (.mv (.t 25))), none⟩])
  (.cond (.t 21)
  (.seq
  (.ops [] [
  ⟨(some 26), (.op (.mv (.t 0))), none⟩,
  ⟨(some 4), (.op (.mv (.k (.slice none 0 0)))), none⟩,
  ⟨(some 5), (.op (.mv (.t 26))), none⟩,
  ⟨(some 6), (.op (.mv (.k (.bool true)))), none⟩])
  .ret)
  (.seq
  (.ops [] [
  ⟨(some 28), (.op (.mv (.t 1))), none⟩,
  ⟨(some 29), (.op (.lenSl (.t 28))), none⟩,
  ⟨(some 30), (.op (.bin .eql (.t 29) (.k (.int .i64 1)))), none⟩,
  ⟨(some 27), (.op (.mv (.t 30))), none⟩])
  (.cond (.t 27)
  (.seq
  (.ops [] [
  ⟨(some 32), (.op (.mv (.t 0))), none⟩,
  ⟨(some 33), (.op (.mv (.t 1))), none⟩,
  ⟨(some 34), (.op (.ixAddr 1 (.t 33) (.k (.int .i64 0)))), none⟩,
  ⟨(some 35), (.op (.load1 (.t 34))), none⟩,
  ⟨(some 36), (.call (.k (.func (.func 85) #[] #[])) [(.t 32), (.t 35)]), none⟩,
  ⟨(some 31), (.op (.mv (.t 36))), none⟩,
  ⟨(some 37), (.op (.extract (.t 31) 0)), none⟩,
  ⟨(some 38), (.op (.extract (.t 31) 1)), none⟩,
  ⟨(some 4), (.op (.mv (.t 37))), none⟩,
  ⟨(some 5), (.op (.mv (.t 38))), none⟩])
  (.seq
  (.ops [] [
  ⟨(some 39), (.op (.mv (.t 4))), none⟩,
  ⟨(some 40), (.op (.mv (.t 5))), none⟩,
  ⟨(some 4), (.op (.mv (.t 39))), none⟩,
  ⟨(some 5), (.op (.mv (.t 40))), none⟩,
  ⟨(some 6), (.op (.mv (.k (.bool true)))), none⟩])
  .ret))
  .skip)))))))
  (.seq
  (.ops [] [
  ⟨(some 41), (.op (.mv (.t 1))), none⟩,
  ⟨(some 42), (.op (.mv (.t 1))), none⟩,
  ⟨(some 43), (.op (.lenSl (.t 42))), none⟩,
  ⟨(some 44), (.op (.bin .sub (.t 43) (.k (.int .i64 1)))), none⟩,
  ⟨(some 45), (.op (.ixAddr 1 (.t 41) (.t 44))), none⟩,
  ⟨(some 46), (.op (.load1 (.t 45))), none⟩,
  ⟨(some 47), (.call (.k (.func (.func 86) #[] #[])) [(.t 46)]), none⟩,
  ⟨(some 7), (.op (.mv (.t 47))), none⟩])
  (.seq
  (.ops [] [
  ⟨(some 48), (.op (.mv (.t 0))), none⟩,
  ⟨(some 49), (.op (.mv (.t 7))), none⟩,
  ⟨(some 50), (.call (.k (.func (.func 87) #[] #[])) [(.t 48), (.t 49)]), none⟩,
  ⟨(some 8), (.op (.mv (.t 50))), none⟩])
  (.seq
  (.ops [] [
  ⟨(some 51), (.op (.mv (.t 1))), none⟩,
  ⟨(some 52), (.op (.mv (.t 7))), none⟩,
  ⟨(some 53), (.call (.k (.func (.func 87) #[] #[])) [(.t 51), (.t 52)]), none⟩,
  ⟨(some 54), (.call (.k (.func (.func 84) #[] #[])) [(.t 53)]), none⟩,
  ⟨(some 1), (.op (.mv (.t 54))), none⟩])
  (.seq
  (.ops [] [
  ⟨(some 55), (.op (.mv (.t 1))), none⟩,
  ⟨(some 56), (.op (.lenSl (.t 55))), none⟩,
  ⟨(some 9), (.op (.mv (.t 56))), none⟩])
  (.seq
  (.ops [] [
  ⟨(some 57), (.op (.mv (.t 8))), none⟩,
  ⟨(some 58), (.op (.lenSl (.t 57))), none⟩,
  ⟨(some 59), (.op (.mv (.t 9))), none⟩,
  ⟨(some 60), (.op (.bin .sub (.t 58) (.t 59))), none⟩,
  ⟨(some 61), (.op (.make 1 4 [(.int .u32 0)] (.t 60) (.t 60))), none⟩,
  ⟨(some 4), (.op (.mv (.t 61))), none⟩])
  (.seq
  (.seq
  (.ops [] [
  ⟨(some 62), (.op (.mv (.t 8))), none⟩,
  ⟨(some 63), (.op (.lenSl (.t 62))), none⟩,
  ⟨(some 64), (.op (.mv (.t 9))), none⟩,
  ⟨(some 65), (.op (.bin .sub (.t 63) (.t 64))), none⟩,
  ⟨(some 66), (.op (.bin .sub (.t 65) (.k (.int .i64 1)))), none⟩,
  ⟨(some 10), (.op (.mv (.t 66))), none⟩])
  (.block 1
  (.loop
  (.seq
  (.seq
  (.ops [] [
  ⟨(some 67), (.op (.mv (.t 10))), none⟩,
  ⟨(some 68), (.op (.bin .geq (.t 67) (.k (.int .i64 0)))), none⟩])
  (.cond (.t 68)
  .skip
  (.exit 1)))
  (.seq
  (.block 2
  (.seq
  (.ops [
  ⟨(some 71), (.op (.mv (.t 8))), none⟩,
  ⟨(some 72), (.op (.mv (.t 10))), none⟩,
  ⟨(some 73), (.op (.mv (.t 9))), none⟩,
  ⟨(some 74), (.op (.bin .add (.t 72) (.t 73))), none⟩,
  ⟨(some 75), (.op (.ixAddr 1 (.t 71) (.t 74))), none⟩,
  ⟨(some 76), (.op (.load1 (.t 75))), none⟩,
  ⟨(some 77), (.op (.mv (.t 8))), none⟩,
  ⟨(some 78), (.op (.mv (.t 10))), none⟩,
  ⟨(some 79), (.op (.mv (.t 9))), none⟩,
  ⟨(some 80), (.op (.bin .add (.t 78) (.t 79))), none⟩,
  ⟨(some 81), (.op (.bin .sub (.t 80) (.k (.int .i64 1)))), none⟩,
  ⟨(some 82), (.op (.ixAddr 1 (.t 77) (.t 81))), none⟩,
  ⟨(some 83), (.op (.load1 (.t 82))), none⟩,
  ⟨(some 84), (.op (.mv (.t 8))), none⟩,
  ⟨(some 85), (.op (.mv (.t 10))), none⟩,
  ⟨(some 86), (.op (.mv (.t 9))), none⟩,
  ⟨(some 87), (.op (.bin .add (.t 85) (.t 86))), none⟩,
  ⟨(some 88), (.op (.bin .sub (.t 87) (.k (.int .i64 2)))), none⟩,
  ⟨(some 89), (.op (.ixAddr 1 (.t 84) (.t 88))), none⟩,
  ⟨(some 90), (.op (.load1 (.t 89))), none⟩,
  ⟨(some 91), (.op (.build [(.int .u32 0), (.int .u32 0), (.int .u32 0)] [(0, (1, (.t 76))), (1, (1, (.t 83))), (2, (1, (.t 90)))])), none⟩,
  ⟨(some 11), (.op (.new [(.int .u32 0), (.int .u32 0), (.int .u32 0)])), none⟩] [
  ⟨none, (.op (.store 3 (.t 11) (.t 91))), none⟩])
  (.seq
  (.seq
  (.ops [] [
  ⟨(some 92), (.op (.loadN 3 (.t 11))), none⟩,
  ⟨(some 93), (.op (.build [(.int .u32 0), (.int .u32 0), (.int .u32 0)] [])), none⟩,
  ⟨(some 94), (.op (.eqA .eql 109 (.t 92) (.t 93))), none⟩])
  (.cond (.t 94)
  (.exit 2)
  .skip))
  (.seq
  (.ops [
  ⟨(some 95), (.op (.loadN 3 (.t 11))), none⟩,
  ⟨(some 96), (.op (.mv (.t 1))), none⟩,
  ⟨(some 97), (.op (.mv (.t 9))), none⟩,
  ⟨(some 98), (.op (.bin .sub (.t 97) (.k (.int .i64 1)))), none⟩,
  ⟨(some 99), (.op (.ixAddr 1 (.t 96) (.t 98))), none⟩,
  ⟨(some 100), (.op (.load1 (.t 99))), none⟩,
  ⟨(some 101), (.op (.mv (.t 1))), none⟩,
  ⟨(some 102), (.op (.mv (.t 9))), none⟩,
  ⟨(some 103), (.op (.bin .sub (.t 102) (.k (.int .i64 2)))), none⟩,
  ⟨(some 104), (.op (.ixAddr 1 (.t 101) (.t 103))), none⟩,
  ⟨(some 105), (.op (.load1 (.t 104))), none⟩,
  ⟨(some 106), (.op (.build [(.int .u32 0), (.int .u32 0)] [(0, (1, (.t 100))), (1, (1, (.t 105)))])), none⟩] [
  ⟨(some 107), (.call (.k (.func (.func 88) #[] #[])) [(.t 95), (.t 106)]), none⟩,
  ⟨(some 12), (.op (.mv (.t 107))), none⟩])
  (.seq
  (.seq
  (.ops [] [
  ⟨(some 108), (.op (.mv (.t 8))), none⟩,
  ⟨(some 109), (.op (.mv (.t 10))), none⟩,
  ⟨(some 110), (.op (.sl 1 (.t 108) (some (.t 109)) none none)), none⟩,
  ⟨(some 111), (.op (.mv (.t 1))), none⟩,
  ⟨(some 112), (.op (.mv (.t 12))), none⟩,
  ⟨(some 113), (.call (.k (.func (.func 89) #[] #[])) [(.t 110), (.t 111), (.t 112)]), none⟩,
  ⟨(some 114), (.op (.un .not (.t 113))), none⟩])
  (.cond (.t 114)
  (.seq
  (.ops [] [
  ⟨(some 115), (.op (.mv (.t 8))), none⟩,
  ⟨(some 116), (.op (.mv (.t 10))), none⟩,
  ⟨(some 117), (.op (.sl 1 (.t 115) (some (.t 116)) none none)), none⟩,
  ⟨(some 118), (.op (.mv (.t 1))), none⟩,
  ⟨(some 119), (.call (.k (.func (.func 90) #[] #[])) [(.t 117), (.t 118)]), none⟩])
  (.ops [] [
  ⟨(some 120), (.op (.mv (.t 12))), none⟩,
  ⟨(some 121), (.op (.bin .sub (.t 120) (.k (.int .u32 1)))), none⟩,
  ⟨(some 12), (.op (.mv (.t 121))), none⟩]))
  .skip))
  (.ops [] [
  ⟨(some 122), (.op (.mv (.t 4))), none⟩,
  ⟨(some 123), (.op (.mv (.t 10))), none⟩,
  ⟨(some 124), (.op (.mv (.t 12))), none⟩,
  ⟨(some 125), (.op (.ixAddr 1 (.t 122) (.t 123))), none⟩,
  ⟨none, (.op (.store 1 (.t 125) (.t 124))), none⟩]))))))
  (.ops [] [
  ⟨(some 69), (.op (.mv (.t 10))), none⟩,
  ⟨(some 70), (.op (.bin .sub (.t 69) (.k (.int .i64 1)))), none⟩,
  ⟨(some 10), (.op (.mv (.t 70))), none⟩]))))))
  (.seq
  (.ops [
  ⟨(some 126), (.op (.mv (.t 4))), none⟩,
  ⟨(some 127), (.call (.k (.func (.func 84) #[] #[])) [(.t 126)]), none⟩,
  ⟨(some 128), (.op (.mv (.t 8))), none⟩,
  ⟨(some 129), (.op (.mv (.t 9))), none⟩,
  ⟨(some 130), (.op (.sl 1 (.t 128) none (some (.t 129)) none)), none⟩,
  ⟨(some 131), (.op (.mv (.t 7))), none⟩] [
  ⟨(some 132), (.call (.k (.func (.func 91) #[] #[])) [(.t 130), (.t 131)]), none⟩,
  ⟨(some 4), (.op (.mv (.t 127))), none⟩,
  ⟨(some 5), (.op (.mv (.t 132))), none⟩,
  ⟨(some 6), (.op (.mv (.k (.bool true)))), none⟩])
  .ret)))))))))),
  [(.t 4), (.t 5), (.t 6)]⟩
theorem r_modulo_DivMod : resolveFn Try.prog 70 = some c_modulo_DivMod := by kernel_rfl

def c_modulo_Exp : RFn :=
  ⟨60,
  (.seq
  (.ops [] [
  ⟨(some 6), (.op (.mv (.k (.slice none 0 0)))), none⟩,
  ⟨(some 7), (.op (.mv (.k (.bool false)))), none⟩])
  (.seq
  (.ops [] [
  ⟨(some 13), (.op (.mkSl 1 [(.int .u32 0)] [(0, (1, (.k (.int .u32 1))))])), none⟩,
  ⟨(some 14), (.op (.mv (.t 2))), none⟩,
  ⟨(some 15), (.call (.k (.func (.func 70) #[] #[])) [(.t 13), (.t 14)]), none⟩,
  ⟨(some 12), (.op (.mv (.t 15))), none⟩,
  ⟨(some 16), (.op (.extract (.t 12) 0)), none⟩,
  ⟨(some 17), (.op (.extract (.t 12) 1)), none⟩,
  ⟨(some 18), (.op (.extract (.t 12) 2)), none⟩,
  ⟨(some 8), (.op (.mv (.t 16))), none⟩,
  ⟨(some 9), (.op (.mv (.t 17))), none⟩,
  ⟨(some 10), (.op (.mv (.t 18))), none⟩])
  (.seq
  (.seq
  (.ops [] [
  ⟨(some 19), (.op (.mv (.t 10))), none⟩,
  ⟨(some 20), (.op (.un .not (.t 19))), none⟩])
  (.cond (.t 20)
  (.seq
  (.ops [] [
  ⟨(some 6), (.op (.mv (.k (.slice none 0 0)))), none⟩,
  ⟨(some 7), (.op (.mv (.k (.bool false)))), none⟩])
  .ret)
  .skip))
  (.seq
  (.ops [] [
  ⟨(some 22), (.op (.mv (.t 0))), none⟩,
  ⟨(some 23), (.op (.mv (.t 2))), none⟩,
  ⟨(some 24), (.call (.k (.func (.func 70) #[] #[])) [(.t 22), (.t 23)]), none⟩,
  ⟨(some 21), (.op (.mv (.t 24))), none⟩,
  ⟨(some 25), (.op (.extract (.t 21) 0)), none⟩,
  ⟨(some 26), (.op (.extract (.t 21) 1)), none⟩,
  ⟨(some 27), (.op (.extract (.t 21) 2)), none⟩,
  ⟨(some 0), (.op (.mv (.t 26))), none⟩])
  (.seq
  (.seq
  (.ops [] [
  ⟨(some 28), (.op (.mv (.t 1))), none⟩,
  ⟨(some 29), (.call (.k (.func (.func 71) #[] #[])) [(.t 28)]), none⟩,
  ⟨(some 30), (.op (.bin .sub (.t 29) (.k (.int .i64 1)))), none⟩,
  ⟨(some 11), (.op (.mv (.t 30))), none⟩])
  (.block 0
  (.loop
  (.seq
  (.seq
  (.ops [] [
  ⟨(some 31), (.op (.mv (.t 11))), none⟩,
  ⟨(some 32), (.op (.bin .geq (.t 31) (.k (.int .i64 0)))), none⟩])
  (.cond (.t 32)
  .skip
  (.exit 0)))
  (.seq
  (.block 1
  (.seq
  (.ops [] [
  ⟨(some 36), (.op (.mv (.t 9))), none⟩,
  ⟨(some 37), (.op (.mv (.t 9))), none⟩,
  ⟨(some 38), (.op (.mv (.t 2))), none⟩,
  ⟨(some 39), (.call (.k (.func (.func 72) #[] #[])) [(.t 36), (.t 37), (.t 38)]), none⟩,
  ⟨(some 35), (.op (.mv (.t 39))), none⟩,
  ⟨(some 40), (.op (.extract (.t 35) 0)), none⟩,
  ⟨(some 41), (.op (.extract (.t 35) 1)), none⟩,
  ⟨(some 9), (.op (.mv (.t 40))), none⟩])
  (.seq
  (.ops [] [
  ⟨(some 42), (.op (.mv (.t 1))), none⟩,
  ⟨(some 43), (.op (.mv (.t 11))), none⟩,
  ⟨(some 44), (.op (.bin .quo (.t 43) (.k (.int .i64 32)))), none⟩,
  ⟨(some 45), (.op (.ixAddr 1 (.t 42) (.t 44))), none⟩,
  ⟨(some 46), (.op (.load1 (.t 45))), none⟩,
  ⟨(some 47), (.op (.mv (.t 11))), none⟩,
  ⟨(some 48), (.op (.bin .rem (.t 47) (.k (.int .i64 32)))), none⟩,
  ⟨(some 49), (.op (.bin .shr (.t 46) (.t 48))), none⟩,
  ⟨(some 50), (.op (.bin .and (.t 49) (.k (.int .u32 1)))), none⟩,
  ⟨(some 51), (.op (.bin .eql (.t 50) (.k (.int .u32 1)))), none⟩])
  (.cond (.t 51)
  (.ops [] [
  ⟨(some 53), (.op (.mv (.t 9))), none⟩,
  ⟨(some 54), (.op (.mv (.t 0))), none⟩,
  ⟨(some 55), (.op (.mv (.t 2))), none⟩,
  ⟨(some 56), (.call (.k (.func (.func 72) #[] #[])) [(.t 53), (.t 54), (.t 55)]), none⟩,
  ⟨(some 52), (.op (.mv (.t 56))), none⟩,
  ⟨(some 57), (.op (.extract (.t 52) 0)), none⟩,
  ⟨(some 58), (.op (.extract (.t 52) 1)), none⟩,
  ⟨(some 9), (.op (.mv (.t 57))), none⟩])
  .skip))))
  (.ops [] [
  ⟨(some 33), (.op (.mv (.t 11))), none⟩,
  ⟨(some 34), (.op (.bin .sub (.t 33) (.k (.int .i64 1)))), none⟩,
  ⟨(some 11), (.op (.mv (.t 34))), none⟩]))))))
  (.seq
  (.ops [] [
  ⟨(some 59), (.op (.mv (.t 9))), none⟩,
  ⟨(some 6), (.op (.mv (.t 59))), none⟩,
  ⟨(some 7), (.op (.mv (.k (.bool true)))), none⟩])
  .ret)))))),
  [(.t 6), (.t 7)]⟩
theorem r_modulo_Exp : resolveFn Try.prog 45 = some c_modulo_Exp := by kernel_rfl

def c_modulo_Mul : RFn :=
  ⟨22,
  (.seq
  (.ops [] [
  ⟨(some 6), (.op (.mv (.k (.slice none 0 0)))), none⟩,
  ⟨(some 7), (.op (.mv (.k (.bool false)))), none⟩])
  (.seq
  (.ops [] [
  ⟨(some 12), (.op (.mv (.t 0))), none⟩,
  ⟨(some 13), (.op (.mv (.t 1))), none⟩,
  ⟨(some 14), (.call (.k (.func (.func 93) #[] #[])) [(.t 12), (.t 13)]), none⟩,
  ⟨(some 15), (.op (.mv (.t 2))), none⟩,
  ⟨(some 16), (.call (.k (.func (.func 70) #[] #[])) [(.t 14), (.t 15)]), none⟩,
  ⟨(some 11), (.op (.mv (.t 16))), none⟩,
  ⟨(some 17), (.op (.extract (.t 11) 0)), none⟩,
  ⟨(some 18), (.op (.extract (.t 11) 1)), none⟩,
  ⟨(some 19), (.op (.extract (.t 11) 2)), none⟩,
  ⟨(some 8), (.op (.mv (.t 17))), none⟩,
  ⟨(some 9), (.op (.mv (.t 18))), none⟩,
  ⟨(some 10), (.op (.mv (.t 19))), none⟩])
  (.seq
  (.ops [] [
  ⟨(some 20), (.op (.mv (.t 9))), none⟩,
  ⟨(some 21), (.op (.mv (.t 10))), none⟩,
  ⟨(some 6), (.op (.mv (.t 20))), none⟩,
  ⟨(some 7), (.op (.mv (.t 21))), none⟩])
  .ret))),
  [(.t 6), (.t 7)]⟩
theorem r_modulo_Mul : resolveFn Try.prog 72 = some c_modulo_Mul := by kernel_rfl

def c_lanyardref08_bit : RFn :=
  ⟨14,
  (.seq
  (.ops [] [
  ⟨(some 4), (.op (.mv (.k (.int .u32 0)))), none⟩])
  (.seq
  (.ops [] [
  ⟨(some 5), (.op (.mv (.t 0))), none⟩,
  ⟨(some 6), (.op (.mv (.t 1))), none⟩,
  ⟨(some 7), (.op (.bin .quo (.t 6) (.k (.int .i64 32)))), none⟩,
  ⟨(some 8), (.op (.ixAddr 1 (.t 5) (.t 7))), none⟩,
  ⟨(some 9), (.op (.load1 (.t 8))), none⟩,
  ⟨(some 10), (.op (.mv (.t 1))), none⟩,
  ⟨(some 11), (.op (.bin .rem (.t 10) (.k (.int .i64 32)))), none⟩,
  ⟨(some 12), (.op (.bin .shr (.t 9) (.t 11))), none⟩,
  ⟨(some 13), (.op (.bin .rem (.t 12) (.k (.int .u32 2)))), none⟩,
  ⟨(some 4), (.op (.mv (.t 13))), none⟩])
  .ret)),
  [(.t 4)]⟩
theorem r_lanyardref08_bit : resolveFn Try.prog 78 = some c_lanyardref08_bit := by kernel_rfl

def c_lanyardref08_less : RFn :=
  ⟨31,
  (.seq
  (.ops [] [
  ⟨(some 4), (.op (.mv (.k (.bool false)))), none⟩])
  (.seq
  (.seq
  (.ops [] [
  ⟨(some 6), (.op (.mv (.t 0))), none⟩,
  ⟨(some 7), (.op (.lenSl (.t 6))), none⟩,
  ⟨(some 8), (.op (.bin .sub (.t 7) (.k (.int .i64 1)))), none⟩,
  ⟨(some 5), (.op (.mv (.t 8))), none⟩])
  (.block 0
  (.loop
  (.seq
  (.seq
  (.ops [] [
  ⟨(some 9), (.op (.mv (.t 5))), none⟩,
  ⟨(some 10), (.op (.bin .geq (.t 9) (.k (.int .i64 0)))), none⟩])
  (.cond (.t 10)
  .skip
  (.exit 0)))
  (.seq
  (.block 1
  (.seq
  (.ops [
  ⟨(some 13), (.op (.mv (.t 0))), none⟩,
  ⟨(some 14), (.op (.mv (.t 5))), none⟩,
  ⟨(some 15), (.op (.ixAddr 1 (.t 13) (.t 14))), none⟩,
  ⟨(some 16), (.op (.load1 (.t 15))), none⟩,
  ⟨(some 17), (.op (.mv (.t 1))), none⟩,
  ⟨(some 18), (.op (.mv (.t 5))), none⟩,
  ⟨(some 19), (.op (.ixAddr 1 (.t 17) (.t 18))), none⟩,
  ⟨(some 20), (.op (.load1 (.t 19))), none⟩] [
  ⟨(some 21), (.op (.bin .neq (.t 16) (.t 20))), none⟩])
  (.cond (.t 21)
  (.seq
  (.ops [
  ⟨(some 22), (.op (.mv (.t 0))), none⟩,
  ⟨(some 23), (.op (.mv (.t 5))), none⟩,
  ⟨(some 24), (.op (.ixAddr 1 (.t 22) (.t 23))), none⟩,
  ⟨(some 25), (.op (.load1 (.t 24))), none⟩,
  ⟨(some 26), (.op (.mv (.t 1))), none⟩,
  ⟨(some 27), (.op (.mv (.t 5))), none⟩,
  ⟨(some 28), (.op (.ixAddr 1 (.t 26) (.t 27))), none⟩,
  ⟨(some 29), (.op (.load1 (.t 28))), none⟩] [
  ⟨(some 30), (.op (.bin .lss (.t 25) (.t 29))), none⟩,
  ⟨(some 4), (.op (.mv (.t 30))), none⟩])
  .ret)
  .skip)))
  (.ops [] [
  ⟨(some 11), (.op (.mv (.t 5))), none⟩,
  ⟨(some 12), (.op (.bin .sub (.t 11) (.k (.int .i64 1)))), none⟩,
  ⟨(some 5), (.op (.mv (.t 12))), none⟩]))))))
  (.seq
  (.ops [] [
  ⟨(some 4), (.op (.mv (.k (.bool false)))), none⟩])
  .ret))),
  [(.t 4)]⟩
theorem r_lanyardref08_less : resolveFn Try.prog 94 = some c_lanyardref08_less := by kernel_rfl

def c_lanyardref08_DivMod : RFn :=
  ⟨115,
  (.seq
  (.ops [] [
  ⟨(some 4), (.op (.mv (.k (.slice none 0 0)))), none⟩,
  ⟨(some 5), (.op (.mv (.k (.slice none 0 0)))), none⟩,
  ⟨(some 6), (.op (.mv (.k (.bool false)))), none⟩])
  (.seq
  (.ops [] [
  ⟨(some 17), (.op (.mv (.t 1))), none⟩,
  ⟨(some 18), (.call (.k (.func (.func 73) #[] #[])) [(.t 17)]), none⟩,
  ⟨(some 7), (.op (.mv (.t 18))), none⟩])
  (.seq
  (.seq
  (.ops [] [
  ⟨(some 19), (.op (.mv (.t 7))), none⟩,
  ⟨(some 20), (.op (.lenSl (.t 19))), none⟩,
  ⟨(some 21), (.op (.bin .eql (.t 20) (.k (.int .i64 0)))), none⟩])
  (.cond (.t 21)
  (.seq
  (.ops [] [
  ⟨(some 4), (.op (.mv (.k (.slice none 0 0)))), none⟩,
  ⟨(some 5), (.op (.mv (.k (.slice none 0 0)))), none⟩,
  ⟨(some 6), (.op (.mv (.k (.bool false)))), none⟩])
  .ret)
  .skip))
  (.seq
  (.ops [] [
  ⟨(some 22), (.op (.mv (.t 7))), none⟩,
  ⟨(some 23), (.op (.mkSl 1 [(.int .u32 0)] [(0, (1, (.k (.int .u32 0))))])), none⟩,
  ⟨(some 24), (.op (.append 1 4 (.t 22) (.t 23))), none⟩,
  ⟨(some 7), (.op (.mv (.t 24))), none⟩])
  (.seq
  (.ops [] [
  ⟨(some 25), (.op (.mv (.t 7))), none⟩,
  ⟨(some 26), (.op (.lenSl (.t 25))), none⟩,
  ⟨(some 27), (.op (.make 1 4 [(.int .u32 0)] (.t 26) (.t 26))), none⟩,
  ⟨(some 8), (.op (.mv (.t 27))), none⟩])
  (.seq
  (.ops [] [
  ⟨(some 28), (.op (.mv (.t 0))), none⟩,
  ⟨(some 29), (.op (.lenSl (.t 28))), none⟩,
  ⟨(some 30), (.op (.make 1 4 [(.int .u32 0)] (.t 29) (.t 29))), none⟩,
  ⟨(some 9), (.op (.mv (.t 30))), none⟩])
  (.seq
  (.seq
  (.ops [] [
  ⟨(some 31), (.op (.mv (.t 0))), none⟩,
  ⟨(some 32), (.op (.lenSl (.t 31))), none⟩,
  ⟨(some 33), (.op (.bin .mul (.k (.int .i64 32)) (.t 32))), none⟩,
  ⟨(some 34), (.op (.bin .sub (.t 33) (.k (.int .i64 1)))), none⟩,
  ⟨(some 10), (.op (.mv (.t 34))), none⟩])
  (.block 0
  (.loop
  (.seq
  (.seq
  (.ops [] [
  ⟨(some 35), (.op (.mv (.t 10))), none⟩,
  ⟨(some 36), (.op (.bin .geq (.t 35) (.k (.int .i64 0)))), none⟩])
  (.cond (.t 36)
  .skip
  (.exit 0)))
  (.seq
  (.block 1
  (.seq
  (.ops [] [
  ⟨(some 39), (.op (.mv (.t 0))), none⟩,
  ⟨(some 40), (.op (.mv (.t 10))), none⟩,
  ⟨(some 41), (.call (.k (.func (.func 78) #[] #[])) [(.t 39), (.t 40)]), none⟩,
  ⟨(some 11), (.op (.mv (.t 41))), none⟩])
  (.seq
  (.seq
  (.ops [] [
  ⟨(some 12), (.op (.mv (.k (.int .i64 0)))), none⟩])
  (.block 2
  (.loop
  (.seq
  (.seq
  (.ops [] [
  ⟨(some 42), (.op (.mv (.t 12))), none⟩,
  ⟨(some 43), (.op (.mv (.t 8))), none⟩,
  ⟨(some 44), (.op (.lenSl (.t 43))), none⟩,
  ⟨(some 45), (.op (.bin .lss (.t 42) (.t 44))), none⟩])
  (.cond (.t 45)
  .skip
  (.exit 2)))
  (.seq
  (.block 3
  (.seq
  (.ops [] [
  ⟨(some 48), (.op (.mv (.t 8))), none⟩,
  ⟨(some 49), (.op (.mv (.t 12))), none⟩,
  ⟨(some 50), (.op (.ixAddr 1 (.t 48) (.t 49))), none⟩,
  ⟨(some 51), (.op (.load1 (.t 50))), none⟩,
  ⟨(some 52), (.op (.bin .shr (.t 51) (.k (.int .u64 31)))), none⟩,
  ⟨(some 13), (.op (.mv (.t 52))), none⟩])
  (.seq
  (.ops [] [
  ⟨(some 53), (.op (.mv (.t 8))), none⟩,
  ⟨(some 54), (.op (.mv (.t 12))), none⟩,
  ⟨(some 55), (.op (.mv (.t 8))), none⟩,
  ⟨(some 56), (.op (.mv (.t 12))), none⟩,
  ⟨(some 57), (.op (.ixAddr 1 (.t 55) (.t 56))), none⟩,
  ⟨(some 58), (.op (.load1 (.t 57))), none⟩,
  ⟨(some 59), (.op (.bin .shl (.t 58) (.k (.int .u64 1)))), none⟩,
  ⟨(some 60), (.op (.mv (.t 11))), none⟩,
  ⟨(some 61), (.op (.bin .or (.t 59) (.t 60))), none⟩,
  ⟨(some 62), (.op (.ixAddr 1 (.t 53) (.t 54))), none⟩,
  ⟨none, (.op (.store 1 (.t 62) (.t 61))), none⟩])
  (.ops [] [
  ⟨(some 63), (.op (.mv (.t 13))), none⟩,
  ⟨(some 11), (.op (.mv (.t 63))), none⟩]))))
  (.ops [] [
  ⟨(some 46), (.op (.mv (.t 12))), none⟩,
  ⟨(some 47), (.op (.bin .add (.t 46) (.k (.int .i64 1)))), none⟩,
  ⟨(some 12), (.op (.mv (.t 47))), none⟩]))))))
  (.seq
  (.seq
  (.ops [] [
  ⟨(some 64), (.op (.mv (.t 8))), none⟩,
  ⟨(some 65), (.op (.mv (.t 7))), none⟩,
  ⟨(some 66), (.call (.k (.func (.func 94) #[] #[])) [(.t 64), (.t 65)]), none⟩])
  (.cond (.t 66)
  (.exit 1)
  .skip))
  (.seq
  (.ops [] [
  ⟨(some 14), (.op (.mv (.k (.int .u64 0)))), none⟩])
  (.seq
  (.seq
  (.ops [] [
  ⟨(some 15), (.op (.mv (.k (.int .i64 0)))), none⟩])
  (.block 4
  (.loop
  (.seq
  (.seq
  (.ops [] [
  ⟨(some 67), (.op (.mv (.t 15))), none⟩,
  ⟨(some 68), (.op (.mv (.t 8))), none⟩,
  ⟨(some 69), (.op (.lenSl (.t 68))), none⟩,
  ⟨(some 70), (.op (.bin .lss (.t 67) (.t 69))), none⟩])
  (.cond (.t 70)
  .skip
  (.exit 4)))
  (.seq
  (.block 5
  (.seq
  (.ops [] [
  ⟨(some 73), (.op (.mv (.t 7))), none⟩,
  ⟨(some 74), (.op (.mv (.t 15))), none⟩,
  ⟨(some 75), (.op (.ixAddr 1 (.t 73) (.t 74))), none⟩,
  ⟨(some 76), (.op (.load1 (.t 75))), none⟩,
  ⟨(some 77), (.op (.toInt .u64 (.t 76))), none⟩,
  ⟨(some 78), (.op (.mv (.t 14))), none⟩,
  ⟨(some 79), (.op (.bin .add (.t 77) (.t 78))), none⟩,
  ⟨(some 16), (.op (.mv (.t 79))), none⟩])
  (.seq
  (.ops [] [
  ⟨(some 14), (.op (.mv (.k (.int .u64 0)))), none⟩])
  (.seq
  (.seq
  (.ops [] [
  ⟨(some 80), (.op (.mv (.t 8))), none⟩,
  ⟨(some 81), (.op (.mv (.t 15))), none⟩,
  ⟨(some 82), (.op (.ixAddr 1 (.t 80) (.t 81))), none⟩,
  ⟨(some 83), (.op (.load1 (.t 82))), none⟩,
  ⟨(some 84), (.op (.toInt .u64 (.t 83))), none⟩,
  ⟨(some 85), (.op (.mv (.t 16))), none⟩,
  ⟨(some 86), (.op (.bin .lss (.t 84) (.t 85))), none⟩])
  (.cond (.t 86)
  (.ops [] [
  ⟨(some 14), (.op (.mv (.k (.int .u64 1)))), none⟩])
  .skip))
  (.ops [] [
  ⟨(some 87), (.op (.mv (.t 8))), none⟩,
  ⟨(some 88), (.op (.mv (.t 15))), none⟩,
  ⟨(some 89), (.op (.mv (.t 8))), none⟩,
  ⟨(some 90), (.op (.mv (.t 15))), none⟩,
  ⟨(some 91), (.op (.ixAddr 1 (.t 89) (.t 90))), none⟩,
  ⟨(some 92), (.op (.load1 (.t 91))), none⟩,
  ⟨(some 93), (.op (.toInt .u64 (.t 92))), none⟩,
  ⟨(some 94), (.op (.mv (.t 16))), none⟩,
  ⟨(some 95), (.op (.bin .sub (.t 93) (.t 94))), none⟩,
  ⟨(some 96), (.op (.toInt .u32 (.t 95))), none⟩,
  ⟨(some 97), (.op (.ixAddr 1 (.t 87) (.t 88))), none⟩,
  ⟨none, (.op (.store 1 (.t 97) (.t 96))), none⟩])))))
  (.ops [] [
  ⟨(some 71), (.op (.mv (.t 15))), none⟩,
  ⟨(some 72), (.op (.bin .add (.t 71) (.k (.int .i64 1)))), none⟩,
  ⟨(some 15), (.op (.mv (.t 72))), none⟩]))))))
  (.ops [
  ⟨(some 98), (.op (.mv (.t 9))), none⟩,
  ⟨(some 99), (.op (.mv (.t 10))), none⟩,
  ⟨(some 100), (.op (.bin .quo (.t 99) (.k (.int .i64 32)))), none⟩,
  ⟨(some 101), (.op (.mv (.t 9))), none⟩,
  ⟨(some 102), (.op (.mv (.t 10))), none⟩,
  ⟨(some 103), (.op (.bin .quo (.t 102) (.k (.int .i64 32)))), none⟩,
  ⟨(some 104), (.op (.ixAddr 1 (.t 101) (.t 103))), none⟩,
  ⟨(some 105), (.op (.load1 (.t 104))), none⟩,
  ⟨(some 106), (.op (.mv (.t 10))), none⟩,
  ⟨(some 107), (.op (.bin .rem (.t 106) (.k (.int .i64 32)))), none⟩,
  ⟨(some 108), (.op (.bin .shl (.k (.int .u32 1)) (.t 107))), none⟩,
  ⟨(some 109), (.op (.bin .or (.t 105) (.t 108))), none⟩] [
  ⟨(some 110), (.op (.ixAddr 1 (.t 98) (.t 100))), none⟩,
  ⟨none, (.op (.store 1 (.t 110) (.t 109))), none⟩])))))))
  (.ops [] [
  ⟨(some 37), (.op (.mv (.t 10))), none⟩,
  ⟨(some 38), (.op (.bin .sub (.t 37) (.k (.int .i64 1)))), none⟩,
  ⟨(some 10), (.op (.mv (.t 38))), none⟩]))))))
  (.seq
  (.ops [] [
  ⟨(some 111), (.op (.mv (.t 9))), none⟩,
  ⟨(some 112), (.call (.k (.func (.func 73) #[] #[])) [(.t 111)]), none⟩,
  ⟨(some 113), (.op (.mv (.t 8))), none⟩,
  ⟨(some 114), (.call (.k (.func (.func 73) #[] #[])) [(.t 113)]), none⟩,
  ⟨(some 4), (.op (.mv (.t 112))), none⟩,
  ⟨(some 5), (.op (.mv (.t 114))), none⟩,
  ⟨(some 6), (.op (.mv (.k (.bool true)))), none⟩])
  .ret)))))))),
  [(.t 4), (.t 5), (.t 6)]⟩
theorem r_lanyardref08_DivMod : resolveFn Try.prog 75 = some c_lanyardref08_DivMod := by kernel_rfl

def c_lanyardref08_Exp : RFn :=
  ⟨63,
  (.seq
  (.ops [] [
  ⟨(some 6), (.op (.mv (.k (.slice none 0 0)))), none⟩,
  ⟨(some 7), (.op (.mv (.k (.bool false)))), none⟩])
  (.seq
  (.ops [] [
  ⟨(some 20), (.op (.mkSl 1 [(.int .u32 0)] [(0, (1, (.k (.int .u32 1))))])), none⟩,
  ⟨(some 21), (.op (.mv (.t 2))), none⟩,
  ⟨(some 22), (.call (.k (.func (.func 75) #[] #[])) [(.t 20), (.t 21)]), none⟩,
  ⟨(some 19), (.op (.mv (.t 22))), none⟩,
  ⟨(some 23), (.op (.extract (.t 19) 0)), none⟩,
  ⟨(some 24), (.op (.extract (.t 19) 1)), none⟩,
  ⟨(some 25), (.op (.extract (.t 19) 2)), none⟩,
  ⟨(some 8), (.op (.mv (.t 23))), none⟩,
  ⟨(some 9), (.op (.mv (.t 24))), none⟩,
  ⟨(some 10), (.op (.mv (.t 25))), none⟩])
  (.seq
  (.seq
  (.ops [] [
  ⟨(some 26), (.op (.mv (.t 10))), none⟩,
  ⟨(some 27), (.op (.un .not (.t 26))), none⟩])
  (.cond (.t 27)
  (.seq
  (.ops [] [
  ⟨(some 6), (.op (.mv (.k (.slice none 0 0)))), none⟩,
  ⟨(some 7), (.op (.mv (.k (.bool false)))), none⟩])
  .ret)
  .skip))
  (.seq
  (.ops [] [
  ⟨(some 29), (.op (.mv (.t 0))), none⟩,
  ⟨(some 30), (.op (.mv (.t 2))), none⟩,
  ⟨(some 31), (.call (.k (.func (.func 75) #[] #[])) [(.t 29), (.t 30)]), none⟩,
  ⟨(some 28), (.op (.mv (.t 31))), none⟩,
  ⟨(some 32), (.op (.extract (.t 28) 0)), none⟩,
  ⟨(some 33), (.op (.extract (.t 28) 1)), none⟩,
  ⟨(some 34), (.op (.extract (.t 28) 2)), none⟩,
  ⟨(some 11), (.op (.mv (.t 32))), none⟩,
  ⟨(some 12), (.op (.mv (.t 33))), none⟩,
  ⟨(some 13), (.op (.mv (.t 34))), none⟩])
  (.seq
  (.seq
  (.ops [] [
  ⟨(some 35), (.op (.mv (.t 1))), none⟩,
  ⟨(some 36), (.call (.k (.func (.func 76) #[] #[])) [(.t 35)]), none⟩,
  ⟨(some 37), (.op (.bin .sub (.t 36) (.k (.int .i64 1)))), none⟩,
  ⟨(some 14), (.op (.mv (.t 37))), none⟩])
  (.block 0
  (.loop
  (.seq
  (.seq
  (.ops [] [
  ⟨(some 38), (.op (.mv (.t 14))), none⟩,
  ⟨(some 39), (.op (.bin .geq (.t 38) (.k (.int .i64 0)))), none⟩])
  (.cond (.t 39)
  .skip
  (.exit 0)))
  (.seq
  (.block 1
  (.seq
  (.ops [] [
  ⟨(some 43), (.op (.mv (.t 9))), none⟩,
  ⟨(some 44), (.op (.mv (.t 9))), none⟩,
  ⟨(some 45), (.op (.mv (.t 2))), none⟩,
  ⟨(some 46), (.call (.k (.func (.func 77) #[] #[])) [(.t 43), (.t 44), (.t 45)]), none⟩,
  ⟨(some 42), (.op (.mv (.t 46))), none⟩,
  ⟨(some 47), (.op (.extract (.t 42) 0)), none⟩,
  ⟨(some 48), (.op (.extract (.t 42) 1)), none⟩,
  ⟨(some 15), (.op (.mv (.t 47))), none⟩,
  ⟨(some 16), (.op (.mv (.t 48))), none⟩])
  (.seq
  (.ops [] [
  ⟨(some 49), (.op (.mv (.t 15))), none⟩,
  ⟨(some 9), (.op (.mv (.t 49))), none⟩])
  (.seq
  (.ops [] [
  ⟨(some 50), (.op (.mv (.t 1))), none⟩,
  ⟨(some 51), (.op (.mv (.t 14))), none⟩,
  ⟨(some 52), (.call (.k (.func (.func 78) #[] #[])) [(.t 50), (.t 51)]), none⟩,
  ⟨(some 53), (.op (.bin .eql (.t 52) (.k (.int .u32 1)))), none⟩])
  (.cond (.t 53)
  (.seq
  (.ops [] [
  ⟨(some 55), (.op (.mv (.t 9))), none⟩,
  ⟨(some 56), (.op (.mv (.t 12))), none⟩,
  ⟨(some 57), (.op (.mv (.t 2))), none⟩,
  ⟨(some 58), (.call (.k (.func (.func 77) #[] #[])) [(.t 55), (.t 56), (.t 57)]), none⟩,
  ⟨(some 54), (.op (.mv (.t 58))), none⟩,
  ⟨(some 59), (.op (.extract (.t 54) 0)), none⟩,
  ⟨(some 60), (.op (.extract (.t 54) 1)), none⟩,
  ⟨(some 17), (.op (.mv (.t 59))), none⟩,
  ⟨(some 18), (.op (.mv (.t 60))), none⟩])
  (.ops [] [
  ⟨(some 61), (.op (.mv (.t 17))), none⟩,
  ⟨(some 9), (.op (.mv (.t 61))), none⟩]))
  .skip)))))
  (.ops [] [
  ⟨(some 40), (.op (.mv (.t 14))), none⟩,
  ⟨(some 41), (.op (.bin .sub (.t 40) (.k (.int .i64 1)))), none⟩,
  ⟨(some 14), (.op (.mv (.t 41))), none⟩]))))))
  (.seq
  (.ops [] [
  ⟨(some 62), (.op (.mv (.t 9))), none⟩,
  ⟨(some 6), (.op (.mv (.t 62))), none⟩,
  ⟨(some 7), (.op (.mv (.k (.bool true)))), none⟩])
  .ret)))))),
  [(.t 6), (.t 7)]⟩
theorem r_lanyardref08_Exp : resolveFn Try.prog 49 = some c_lanyardref08_Exp := by kernel_rfl

def c_lanyardref08_Mul : RFn :=
  ⟨22,
  (.seq
  (.ops [] [
  ⟨(some 6), (.op (.mv (.k (.slice none 0 0)))), none⟩,
  ⟨(some 7), (.op (.mv (.k (.bool false)))), none⟩])
  (.seq
  (.ops [] [
  ⟨(some 12), (.op (.mv (.t 0))), none⟩,
  ⟨(some 13), (.op (.mv (.t 1))), none⟩,
  ⟨(some 14), (.call (.k (.func (.func 53) #[] #[])) [(.t 12), (.t 13)]), none⟩,
  ⟨(some 15), (.op (.mv (.t 2))), none⟩,
  ⟨(some 16), (.call (.k (.func (.func 75) #[] #[])) [(.t 14), (.t 15)]), none⟩,
  ⟨(some 11), (.op (.mv (.t 16))), none⟩,
  ⟨(some 17), (.op (.extract (.t 11) 0)), none⟩,
  ⟨(some 18), (.op (.extract (.t 11) 1)), none⟩,
  ⟨(some 19), (.op (.extract (.t 11) 2)), none⟩,
  ⟨(some 8), (.op (.mv (.t 17))), none⟩,
  ⟨(some 9), (.op (.mv (.t 18))), none⟩,
  ⟨(some 10), (.op (.mv (.t 19))), none⟩])
  (.seq
  (.ops [] [
  ⟨(some 20), (.op (.mv (.t 9))), none⟩,
  ⟨(some 21), (.op (.mv (.t 10))), none⟩,
  ⟨(some 6), (.op (.mv (.t 20))), none⟩,
  ⟨(some 7), (.op (.mv (.t 21))), none⟩])
  .ret))),
  [(.t 6), (.t 7)]⟩
theorem r_lanyardref08_Mul : resolveFn Try.prog 77 = some c_lanyardref08_Mul := by kernel_rfl

end Go.Ga

namespace Go.Ga
open Go Go.Proofs
set_option linter.unusedSimpArgs false
set_option linter.unusedVariables false
set_option maxRecDepth 100000

theorem ct_Sub32 {nx : Nat} {gt : Nat → Option Blk} {x y c : Nat} (hx : x < 4294967296) (hy : y < 4294967296) (hc : c < 2) :
    Ct Try.prog 97 [.int .u32 (x : Nat), .int .u32 (y : Nat), .int .u32 (c : Nat)] nx gt fun v _ _ => v = .tuple #[.int .u32 ((x + 4294967296 - y - c) % 4294967296 : Nat), .int .u32 (if x < y + c then 1 else 0 : Nat)] := by
  refine Ct.of hmx r_math_bits_Sub32 (by simp [c_math_bits_Sub32]) fun b hb => ?_
  have hd : IntKind.u32.wrap (IntKind.u32.wrap ((x : Int) - (y : Int)) - (c : Int)) = (((x + 4294967296 - y - c) % 4294967296 : Nat) : Int) := by rw [u32_w, u32_w]; omega
  have h1 : (4294967295 ^^^ x) < 2 ^ 32 := Nat.xor_lt_two_pow (by decide) hx
  have h2 : x ^^^ y < 2 ^ 32 := Nat.xor_lt_two_pow hx hy
  have h3 : (4294967295 ^^^ (x ^^^ y)) < 2 ^ 32 := Nat.xor_lt_two_pow (by decide) h2
  have h4 : (4294967295 ^^^ x) &&& y < 2 ^ 32 := Nat.and_lt_two_pow _ hy
  have h5 : (x + 4294967296 - y - c) % 4294967296 < 4294967296 := Nat.mod_lt _ (by decide)
  have h6 : (4294967295 ^^^ (x ^^^ y)) &&& ((x + 4294967296 - y - c) % 4294967296) < 2 ^ 32 := Nat.and_lt_two_pow _ h5
  have h7 : shrV .u32 (((4294967295 ^^^ x) &&& y ||| (4294967295 ^^^ (x ^^^ y)) &&& ((x + 4294967296 - y - c) % 4294967296) : Nat) : Int) 31 = ((if x < y + c then 1 else 0 : Nat) : Int) := by
    rw [show (31 : Int) = ((31 : Nat) : Int) from rfl, shr_nat _ 31 (by decide), ← borrow32 hx hy hc]
  simp only [c_math_bits_Sub32, ↓gaW, ↓gaV, ↓gaC, ↓gaN, gaP, Nat.reduceEqDiff, Nat.reduceLeDiff, Nat.reduceAdd, Nat.reduceSub, Nat.reduceMul, Int.reduceLT, Int.reduceLE, Int.reduceEq, Int.reduceToNat, Int.reduceAdd, Int.reduceSub, Int.reduceMul, reduceCtorEq, ↓reduceIte, gaE, implies_true, Nat.le_refl, Int.sub_zero, Nat.sub_zero, Int.le_refl, true_or, or_true, hd, xor_u32 hx hy, not_u32 hx, not_u32 h2, and_u32 h1 hy, and_u32 h3 h5, or_u32 h4 h6, h7]
  trace_state

def len8 : List UInt8 := [0, 1, 2, 2, 3, 3, 3, 3, 4, 4, 4, 4, 4, 4, 4, 4, 5, 5, 5, 5, 5, 5, 5, 5, 5, 5, 5, 5, 5, 5, 5, 5, 6, 6, 6, 6, 6, 6, 6, 6, 6, 6, 6, 6, 6, 6, 6, 6, 6, 6, 6, 6, 6, 6, 6, 6, 6, 6, 6, 6, 6, 6, 6, 6, 7, 7, 7, 7, 7, 7, 7, 7, 7, 7, 7, 7, 7, 7, 7, 7, 7, 7, 7, 7, 7, 7, 7, 7, 7, 7, 7, 7, 7, 7, 7, 7, 7, 7, 7, 7, 7, 7, 7, 7, 7, 7, 7, 7, 7, 7, 7, 7, 7, 7, 7, 7, 7, 7, 7, 7, 7, 7, 7, 7, 7, 7, 7, 7, 8, 8, 8, 8, 8, 8, 8, 8, 8, 8, 8, 8, 8, 8, 8, 8, 8, 8, 8, 8, 8, 8, 8, 8, 8, 8, 8, 8, 8, 8, 8, 8, 8, 8, 8, 8, 8, 8, 8, 8, 8, 8, 8, 8, 8, 8, 8, 8, 8, 8, 8, 8, 8, 8, 8, 8, 8, 8, 8, 8, 8, 8, 8, 8, 8, 8, 8, 8, 8, 8, 8, 8, 8, 8, 8, 8, 8, 8, 8, 8, 8, 8, 8, 8, 8, 8, 8, 8, 8, 8, 8, 8, 8, 8, 8, 8, 8, 8, 8, 8, 8, 8, 8, 8, 8, 8, 8, 8, 8, 8, 8, 8, 8, 8, 8, 8, 8, 8, 8, 8, 8, 8, 8, 8, 8, 8, 8, 8]
theorem len8_bl : ∀ x, x < 256 → u8V (len8.getD x 0) = .int .u8 (bl x : Nat) := by
  have h : ∀ x, x < 256 → (len8.getD x 0).toNat = bl x := by decide +kernel
  intro x hx
  rw [u8V, h x hx]

theorem ct_Len32 {nx : Nat} {gt : Nat → Option Blk} {x : Nat} (hx : x < 4294967296) :
    Ct Try.prog 92 [.int .u32 (x : Nat)] nx gt fun v _ _ => v = .int .i64 (bl x : Nat) := by
  refine Ct.of hmx r_math_bits_Len32 (by simp [c_math_bits_Len32]) fun b hb => ?_
  have hT : ∀ y, y < 256 → _ := len8_bl
  unfold len8 at hT
  have hL : ∀ y, y < 256 → bl y ≤ 8 := fun y hy => bl_le.2 hy
  have s16 : shrV .u32 (x : Int) 16 = ((x / 65536 : Nat) : Int) := shr_nat _ 16 (by decide)
  have s8 : shrV .u32 (x : Int) 8 = ((x / 256 : Nat) : Int) := shr_nat _ 8 (by decide)
  have s24 : shrV .u32 ((x / 65536 : Nat) : Int) 8 = ((x / 65536 / 256 : Nat) : Int) := shr_nat _ 8 (by decide)
  by_cases h1 : (65536 : Int) ≤ x
  · by_cases h2 : (256 : Int) ≤ ((x / 65536 : Nat) : Int)
    · have e : bl x = bl (x / 65536 / 256) + 24 := by
        rw [Nat.div_div_eq_div_mul]; exact bl_div (s := 24) (by omega)
      have hy : x / 65536 / 256 < 256 := by omega
      have := hL _ hy
      simp only [c_math_bits_Len32, ↓gaW, ↓gaV, ↓gaC, ↓gaN, gaP, Nat.reduceEqDiff, Nat.reduceLeDiff, Nat.reduceAdd, Nat.reduceSub, Nat.reduceMul, Int.reduceLT, Int.reduceLE, Int.reduceEq, Int.reduceToNat, Int.reduceAdd, Int.reduceSub, Int.reduceMul, reduceCtorEq, ↓reduceIte, gaE, implies_true, Nat.le_refl, Int.sub_zero, Nat.sub_zero, Int.le_refl, true_or, or_true, h1, h2, s16, s24, decide_true, decide_false, u8_i ((x / 65536 / 256 : Nat) : Int) (by omega), i64_w 24 (by omega), hT _ hy]
      refine ⟨by omega, ?_, ?_⟩
      · show _ < ((256 : Nat) : Int); omega
      · rw [i64_w ((bl _ : Nat) : Int) (by omega), i64_w _ (by omega), e]; congr 1; omega
    · have e : bl x = bl (x / 65536) + 16 := bl_div (s := 16) (by omega)
      have hy : x / 65536 < 256 := by omega
      have := hL _ hy
      simp only [c_math_bits_Len32, ↓gaW, ↓gaV, ↓gaC, ↓gaN, gaP, Nat.reduceEqDiff, Nat.reduceLeDiff, Nat.reduceAdd, Nat.reduceSub, Nat.reduceMul, Int.reduceLT, Int.reduceLE, Int.reduceEq, Int.reduceToNat, Int.reduceAdd, Int.reduceSub, Int.reduceMul, reduceCtorEq, ↓reduceIte, gaE, implies_true, Nat.le_refl, Int.sub_zero, Nat.sub_zero, Int.le_refl, true_or, or_true, h1, h2, s16, s24, decide_true, decide_false, u8_i ((x / 65536 : Nat) : Int) (by omega), hT _ hy]
      refine ⟨by omega, ?_, ?_⟩
      · show _ < ((256 : Nat) : Int); omega
      · rw [i64_w ((bl _ : Nat) : Int) (by omega), i64_w _ (by omega), e]; congr 1; omega
  · by_cases h2 : (256 : Int) ≤ (x : Int)
    · have e : bl x = bl (x / 256) + 8 := bl_div (s := 8) (by omega)
      have hy : x / 256 < 256 := by omega
      have := hL _ hy
      simp only [c_math_bits_Len32, ↓gaW, ↓gaV, ↓gaC, ↓gaN, gaP, Nat.reduceEqDiff, Nat.reduceLeDiff, Nat.reduceAdd, Nat.reduceSub, Nat.reduceMul, Int.reduceLT, Int.reduceLE, Int.reduceEq, Int.reduceToNat, Int.reduceAdd, Int.reduceSub, Int.reduceMul, reduceCtorEq, ↓reduceIte, gaE, implies_true, Nat.le_refl, Int.sub_zero, Nat.sub_zero, Int.le_refl, true_or, or_true, h1, h2, s8, decide_true, decide_false, u8_i ((x / 256 : Nat) : Int) (by omega), i64_w 8 (by omega), hT _ hy]
      refine ⟨by omega, ?_, ?_⟩
      · show _ < ((256 : Nat) : Int); omega
      · rw [i64_w ((bl _ : Nat) : Int) (by omega), i64_w _ (by omega), e]; congr 1; omega
    · have hy : x < 256 := by omega
      have := hL _ hy
      simp only [c_math_bits_Len32, ↓gaW, ↓gaV, ↓gaC, ↓gaN, gaP, Nat.reduceEqDiff, Nat.reduceLeDiff, Nat.reduceAdd, Nat.reduceSub, Nat.reduceMul, Int.reduceLT, Int.reduceLE, Int.reduceEq, Int.reduceToNat, Int.reduceAdd, Int.reduceSub, Int.reduceMul, reduceCtorEq, ↓reduceIte, gaE, implies_true, Nat.le_refl, Int.sub_zero, Nat.sub_zero, Int.le_refl, true_or, or_true, h1, h2, decide_true, decide_false, u8_i (x : Int) (by omega), hT _ hy]
      refine ⟨by omega, ?_, ?_⟩
      · show _ < ((256 : Nat) : Int); omega
      · rw [i64_w ((bl _ : Nat) : Int) (by omega), i64_w _ (by omega)]; congr 1; omega
end Go.Ga

namespace Go.Ga
open Go Go.Proofs
set_option linter.unusedSimpArgs false
set_option linter.unusedVariables false
set_option maxRecDepth 100000

section
variable {nx : Nat} {gt : Nat → Option Blk}

/-- A cell of a row of words. -/
theorem w32_cell {A : Option Addr} {n : Nat} {l : List UInt32} (hr : Row nx gt 1 A n (l.map u32V)) (hl : l.length = n) {i : Nat} (hi : i < n) : ∃ a ce ro, A = some a ∧ a.block < nx ∧ gt a.block = some (.cells ce ro) ∧ a.off + i < ce.length ∧ ce.getD (a.off + i) undef = .int .u32 ((l.getD i 0).toNat : Nat) := by
  obtain ⟨a, ce, ro, h1, h2, h3, h4, h5⟩ := hr.cells (by omega)
  exact ⟨a, ce, ro, h1, h2, h3, by omega, by rw [h5 i hi, getD_u32 (by omega)]⟩

theorem w32_cut {A : Option Addr} {n : Nat} {l : List UInt32} (hr : Row nx gt 1 A n (l.map u32V)) (hl : l.length = n) {k : Nat} (hk : k ≤ n) {a : Addr} (ha : A = some a) : W32 nx gt (.slice (some ⟨a.block, a.off, none⟩) k k) (l.take k) := by
  have h := ((hr.part (lo := 0) (hi := k) (Nat.zero_le _) hk ha).shut (e' := 1) rfl)
  refine ⟨_, k, k, rfl, Nat.le_refl _, by simp [hl]; omega, ?_⟩
  simpa using h

theorem ct_bare {A : Option Addr} {n c : Nat} {l : List UInt32} (hr : Row nx gt 1 A n (l.map u32V)) (hc : n ≤ c) (hn : n < 1000000000) :
    Ct Try.prog 56 [.slice A n c] nx gt fun v nx' gt' => W32 nx' gt' v (lb (lv l)) := by
  have hlen : l.length = n := by simpa using hr.len
  refine Ct.of hmx r_limb_bare (by simp [c_limb_bare]) fun b hb => ?_
  simp only [c_limb_bare, ↓gaW, ↓gaV, ↓gaC, ↓gaN, gaP, Nat.reduceEqDiff, Nat.reduceLeDiff, Nat.reduceAdd, Nat.reduceSub, Nat.reduceMul, Int.reduceLT, Int.reduceLE, Int.reduceEq, Int.reduceToNat, Int.reduceAdd, Int.reduceSub, Int.reduceMul, reduceCtorEq, ↓reduceIte]
  refine loop_of (fun j f m => ∃ k : Nat, j = k ∧ k ≤ n ∧ f 0 = .slice A n c ∧ f 3 = .int .i64 (k : Nat) ∧ m = ⟨nx, b, gt⟩ ∧ ∀ i, k ≤ i → i < l.length → l.getD i 0 = 0) n ⟨n, rfl, Nat.le_refl _, rfl, rfl, rfl, fun i h1 h2 => by omega⟩ ?_
  rintro j f m ⟨k, rfl, hk, h0, h3, rfl, hz⟩
  by_cases hpos : (0 : Int) < (j : Int)
  · have e1 : ((j : Int) - 1) = ((j - 1 : Nat) : Int) := by omega
    obtain ⟨a, ce, ro, rfl, h5, h6, h7, h8⟩ := w32_cell hr hlen (i := j - 1) (by omega)
    by_cases hzero : (l.getD (j - 1) 0) = 0
    · have hv : ((l.getD (j - 1) 0).toNat : Int) = 0 := by rw [hzero]; rfl
      simp only [↓gaW, ↓gaV, ↓gaC, ↓gaN, gaP, Nat.reduceEqDiff, Nat.reduceLeDiff, Nat.reduceAdd, Nat.reduceSub, Nat.reduceMul, Int.reduceLT, Int.reduceLE, Int.reduceEq, Int.reduceToNat, Int.reduceAdd, Int.reduceSub, Int.reduceMul, reduceCtorEq, ↓reduceIte, h0, h3, hpos, decide_true, e1, i64_w ((j - 1 : Nat) : Int) (by omega), h6, h8, hv]
      refine ⟨by omega, by omega, by omega, ?_⟩
      simp only [↓gaW, ↓gaV, ↓gaC, ↓gaN, gaP, Nat.reduceEqDiff, Nat.reduceLeDiff, Nat.reduceAdd, Nat.reduceSub, Nat.reduceMul, Int.reduceLT, Int.reduceLE, Int.reduceEq, Int.reduceToNat, Int.reduceAdd, Int.reduceSub, Int.reduceMul, reduceCtorEq, ↓reduceIte, h3, e1, i64_w ((j - 1 : Nat) : Int) (by omega), loopK_n]
      refine ⟨j - 1, by omega, j - 1, rfl, by omega, h0, rfl, fun i h1 h2 => ?_⟩
      by_cases hi : i = j - 1
      · rw [hi]; exact hzero
      · exact hz i (by omega) h2
    · have hv : ¬ ((l.getD (j - 1) 0).toNat : Int) = 0 := fun h => hzero (by apply UInt32.toNat_inj.1; show _ = 0; omega)
      simp only [↓gaW, ↓gaV, ↓gaC, ↓gaN, gaP, Nat.reduceEqDiff, Nat.reduceLeDiff, Nat.reduceAdd, Nat.reduceSub, Nat.reduceMul, Int.reduceLT, Int.reduceLE, Int.reduceEq, Int.reduceToNat, Int.reduceAdd, Int.reduceSub, Int.reduceMul, reduceCtorEq, ↓reduceIte, gaE, implies_true, Nat.le_refl, Int.sub_zero, Nat.sub_zero, Int.le_refl, true_or, or_true, h0, h3, hpos, decide_true, e1, i64_w ((j - 1 : Nat) : Int) (by omega), h6, h8, hv, decide_false]
      refine ⟨by omega, by omega, by omega, by omega, by omega, ?_⟩
      rw [lb_lv_take l j (by omega) hz (.inr hzero)]
      exact w32_cut hr hlen hk rfl
  · have hj : j = 0 := by omega
    subst hj
    have hl0 : lb (lv l) = [] := by
      rw [lv_zero (fun i h => hz i (Nat.zero_le _) h), lb_zero]
    rw [hl0]
    have hneg : ¬ (0 : Int) < ((0 : Nat) : Int) := by omega
    cases A with
    | none =>
      simp only [↓gaW, ↓gaV, ↓gaC, ↓gaN, gaP, Nat.reduceEqDiff, Nat.reduceLeDiff, Nat.reduceAdd, Nat.reduceSub, Nat.reduceMul, Int.reduceLT, Int.reduceLE, Int.reduceEq, Int.reduceToNat, Int.reduceAdd, Int.reduceSub, Int.reduceMul, reduceCtorEq, ↓reduceIte, gaE, implies_true, Nat.le_refl, Int.sub_zero, Nat.sub_zero, Int.le_refl, true_or, or_true, h0, h3, hneg, decide_false]
      repeat refine And.intro (by omega) ?_
      exact W32.nil
    | some a =>
      simp only [↓gaW, ↓gaV, ↓gaC, ↓gaN, gaP, Nat.reduceEqDiff, Nat.reduceLeDiff, Nat.reduceAdd, Nat.reduceSub, Nat.reduceMul, Int.reduceLT, Int.reduceLE, Int.reduceEq, Int.reduceToNat, Int.reduceAdd, Int.reduceSub, Int.reduceMul, reduceCtorEq, ↓reduceIte, gaE, implies_true, Nat.le_refl, Int.sub_zero, Nat.sub_zero, Int.le_refl, true_or, or_true, h0, h3, hneg, decide_false]
      repeat refine And.intro (by omega) ?_
      exact w32_cut hr hlen (Nat.zero_le _) rfl
end
end Go.Ga

namespace Go.Ga
open Go Go.Proofs
set_option linter.unusedSimpArgs false
set_option linter.unusedVariables false
set_option maxRecDepth 100000

def cmpI (a b : Int) : Int := if a < b then -1 else if b < a then 1 else 0

section
variable {nx : Nat} {gt : Nat → Option Blk}

theorem ct_isNaNi {a : Int} : Ct Try.prog 79 [.int .i64 a] nx gt fun v _ _ => v = .bool false := by
  refine Ct.of hmx r_cmp_isNaN_int_ (by simp [c_cmp_isNaN_int_]) fun b hb => ?_
  simp only [c_cmp_isNaN_int_, ↓gaW, ↓gaV, ↓gaC, ↓gaN, gaP, Nat.reduceEqDiff, Nat.reduceLeDiff, Nat.reduceAdd, Nat.reduceSub, Nat.reduceMul, Int.reduceLT, Int.reduceLE, Int.reduceEq, Int.reduceToNat, Int.reduceAdd, Int.reduceSub, Int.reduceMul, reduceCtorEq, ↓reduceIte, gaE, implies_true, Nat.le_refl, Int.sub_zero, Nat.sub_zero, Int.le_refl, true_or, or_true]
theorem ct_isNaNu {a : Int} : Ct Try.prog 80 [.int .u32 a] nx gt fun v _ _ => v = .bool false := by
  refine Ct.of hmx r_cmp_isNaN_uint32_ (by simp [c_cmp_isNaN_uint32_]) fun b hb => ?_
  simp only [c_cmp_isNaN_uint32_, ↓gaW, ↓gaV, ↓gaC, ↓gaN, gaP, Nat.reduceEqDiff, Nat.reduceLeDiff, Nat.reduceAdd, Nat.reduceSub, Nat.reduceMul, Int.reduceLT, Int.reduceLE, Int.reduceEq, Int.reduceToNat, Int.reduceAdd, Int.reduceSub, Int.reduceMul, reduceCtorEq, ↓reduceIte, gaE, implies_true, Nat.le_refl, Int.sub_zero, Nat.sub_zero, Int.le_refl, true_or, or_true]

theorem ct_Cmpi {x y : Int} : Ct Try.prog 57 [.int .i64 x, .int .i64 y] nx gt fun v _ _ => v = .int .i64 (cmpI x y) := by
  refine Ct.of hmx r_cmp_Compare_int_ (by simp [c_cmp_Compare_int_]) fun b hb => ?_
  simp only [c_cmp_Compare_int_, ↓gaW, ↓gaV, ↓gaC, ↓gaN, gaP, Nat.reduceEqDiff, Nat.reduceLeDiff, Nat.reduceAdd, Nat.reduceSub, Nat.reduceMul, Int.reduceLT, Int.reduceLE, Int.reduceEq, Int.reduceToNat, Int.reduceAdd, Int.reduceSub, Int.reduceMul, reduceCtorEq, ↓reduceIte]
  refine callK_of ct_isNaNi (fun v n1 g1 l1 k1 hC => ?_) (by omega)
  subst hC
  simp only [↓gaW, ↓gaV, ↓gaC, ↓gaN, gaP, Nat.reduceEqDiff, Nat.reduceLeDiff, Nat.reduceAdd, Nat.reduceSub, Nat.reduceMul, Int.reduceLT, Int.reduceLE, Int.reduceEq, Int.reduceToNat, Int.reduceAdd, Int.reduceSub, Int.reduceMul, reduceCtorEq, ↓reduceIte]
  refine callK_of ct_isNaNi (fun v n2 g2 l2 k2 hC => ?_) (by omega)
  subst hC
  have hk : ∀ i, i < nx → g2 i = gt i := fun i hi => by rw [k2 i (by omega), k1 i hi]
  by_cases h1 : x < y
  · simp only [↓gaW, ↓gaV, ↓gaC, ↓gaN, gaP, Nat.reduceEqDiff, Nat.reduceLeDiff, Nat.reduceAdd, Nat.reduceSub, Nat.reduceMul, Int.reduceLT, Int.reduceLE, Int.reduceEq, Int.reduceToNat, Int.reduceAdd, Int.reduceSub, Int.reduceMul, reduceCtorEq, ↓reduceIte, gaE, implies_true, Nat.le_refl, Int.sub_zero, Nat.sub_zero, Int.le_refl, true_or, or_true, h1, decide_true, cmpI]
    exact ⟨by omega, hk⟩
  · by_cases h2 : y < x
    · simp only [↓gaW, ↓gaV, ↓gaC, ↓gaN, gaP, Nat.reduceEqDiff, Nat.reduceLeDiff, Nat.reduceAdd, Nat.reduceSub, Nat.reduceMul, Int.reduceLT, Int.reduceLE, Int.reduceEq, Int.reduceToNat, Int.reduceAdd, Int.reduceSub, Int.reduceMul, reduceCtorEq, ↓reduceIte, gaE, implies_true, Nat.le_refl, Int.sub_zero, Nat.sub_zero, Int.le_refl, true_or, or_true, h1, h2, decide_true, decide_false, cmpI]
      exact ⟨by omega, hk⟩
    · simp only [↓gaW, ↓gaV, ↓gaC, ↓gaN, gaP, Nat.reduceEqDiff, Nat.reduceLeDiff, Nat.reduceAdd, Nat.reduceSub, Nat.reduceMul, Int.reduceLT, Int.reduceLE, Int.reduceEq, Int.reduceToNat, Int.reduceAdd, Int.reduceSub, Int.reduceMul, reduceCtorEq, ↓reduceIte, gaE, implies_true, Nat.le_refl, Int.sub_zero, Nat.sub_zero, Int.le_refl, true_or, or_true, h1, h2, decide_false, cmpI]
      exact ⟨by omega, hk⟩
theorem ct_Cmpu {x y : Int} : Ct Try.prog 58 [.int .u32 x, .int .u32 y] nx gt fun v _ _ => v = .int .i64 (cmpI x y) := by
  refine Ct.of hmx r_cmp_Compare_uint32_ (by simp [c_cmp_Compare_uint32_]) fun b hb => ?_
  simp only [c_cmp_Compare_uint32_, ↓gaW, ↓gaV, ↓gaC, ↓gaN, gaP, Nat.reduceEqDiff, Nat.reduceLeDiff, Nat.reduceAdd, Nat.reduceSub, Nat.reduceMul, Int.reduceLT, Int.reduceLE, Int.reduceEq, Int.reduceToNat, Int.reduceAdd, Int.reduceSub, Int.reduceMul, reduceCtorEq, ↓reduceIte]
  refine callK_of ct_isNaNu (fun v n1 g1 l1 k1 hC => ?_) (by omega)
  subst hC
  simp only [↓gaW, ↓gaV, ↓gaC, ↓gaN, gaP, Nat.reduceEqDiff, Nat.reduceLeDiff, Nat.reduceAdd, Nat.reduceSub, Nat.reduceMul, Int.reduceLT, Int.reduceLE, Int.reduceEq, Int.reduceToNat, Int.reduceAdd, Int.reduceSub, Int.reduceMul, reduceCtorEq, ↓reduceIte]
  refine callK_of ct_isNaNu (fun v n2 g2 l2 k2 hC => ?_) (by omega)
  subst hC
  have hk : ∀ i, i < nx → g2 i = gt i := fun i hi => by rw [k2 i (by omega), k1 i hi]
  by_cases h1 : x < y
  · simp only [↓gaW, ↓gaV, ↓gaC, ↓gaN, gaP, Nat.reduceEqDiff, Nat.reduceLeDiff, Nat.reduceAdd, Nat.reduceSub, Nat.reduceMul, Int.reduceLT, Int.reduceLE, Int.reduceEq, Int.reduceToNat, Int.reduceAdd, Int.reduceSub, Int.reduceMul, reduceCtorEq, ↓reduceIte, gaE, implies_true, Nat.le_refl, Int.sub_zero, Nat.sub_zero, Int.le_refl, true_or, or_true, h1, decide_true, cmpI]
    exact ⟨by omega, hk⟩
  · by_cases h2 : y < x
    · simp only [↓gaW, ↓gaV, ↓gaC, ↓gaN, gaP, Nat.reduceEqDiff, Nat.reduceLeDiff, Nat.reduceAdd, Nat.reduceSub, Nat.reduceMul, Int.reduceLT, Int.reduceLE, Int.reduceEq, Int.reduceToNat, Int.reduceAdd, Int.reduceSub, Int.reduceMul, reduceCtorEq, ↓reduceIte, gaE, implies_true, Nat.le_refl, Int.sub_zero, Nat.sub_zero, Int.le_refl, true_or, or_true, h1, h2, decide_true, decide_false, cmpI]
      exact ⟨by omega, hk⟩
    · simp only [↓gaW, ↓gaV, ↓gaC, ↓gaN, gaP, Nat.reduceEqDiff, Nat.reduceLeDiff, Nat.reduceAdd, Nat.reduceSub, Nat.reduceMul, Int.reduceLT, Int.reduceLE, Int.reduceEq, Int.reduceToNat, Int.reduceAdd, Int.reduceSub, Int.reduceMul, reduceCtorEq, ↓reduceIte, gaE, implies_true, Nat.le_refl, Int.sub_zero, Nat.sub_zero, Int.le_refl, true_or, or_true, h1, h2, decide_false, cmpI]
      exact ⟨by omega, hk⟩

theorem Grow.w32 {nx b x : Nat} {g : Nat → Option Blk} {A : Option Addr} {n : Nat} {l : List UInt32} (h : Grow nx b x g 1 A n (l.map u32V)) : W32 x g (.slice A n n) l :=
  ⟨A, n, n, rfl, Nat.le_refl _, by simpa using h.len, by simpa using h.row⟩

/-! ### Orders -/
theorem cmp_digit {a b i : Nat} (h : a / 4294967296 ^ (i + 1) = b / 4294967296 ^ (i + 1)) :
    (a / 4294967296 ^ i % 4294967296 < b / 4294967296 ^ i % 4294967296 → a < b) ∧ (a / 4294967296 ^ i % 4294967296 = b / 4294967296 ^ i % 4294967296 → a / 4294967296 ^ i = b / 4294967296 ^ i) := by
  rw [Nat.pow_succ, ← Nat.div_div_eq_div_mul, ← Nat.div_div_eq_div_mul] at h
  have e1 := Nat.div_add_mod (a / 4294967296 ^ i) 4294967296
  have e2 := Nat.div_add_mod (b / 4294967296 ^ i) 4294967296
  refine ⟨fun hlt => ?_, fun he => by omega⟩
  have h2 : a / 4294967296 ^ i < b / 4294967296 ^ i := by omega
  rcases Nat.lt_or_ge a b with h3 | h3
  · exact h3
  · have := Nat.div_le_div_right (c := 4294967296 ^ i) h3; omega
theorem cmpI_lt {a b : Int} (h : a < b) : cmpI a b = -1 := by rw [cmpI, if_pos h]
theorem cmpI_gt {a b : Int} (h : b < a) : cmpI a b = 1 := by rw [cmpI, if_neg (by omega), if_pos h]
theorem cmpI_eq {a b : Int} (h : a = b) : cmpI a b = 0 := by rw [cmpI, if_neg (by omega), if_neg (by omega)]
theorem cmp_digitI {a b i : Nat} (h : a / 4294967296 ^ (i + 1) = b / 4294967296 ^ (i + 1)) (hne : a / 4294967296 ^ i % 4294967296 ≠ b / 4294967296 ^ i % 4294967296) :
    cmpI ((a / 4294967296 ^ i % 4294967296 : Nat) : Int) ((b / 4294967296 ^ i % 4294967296 : Nat) : Int) = cmpI (a : Nat) (b : Nat) := by
  rcases Nat.lt_or_gt_of_ne hne with h1 | h1
  · have := (cmp_digit h).1 h1
    rw [cmpI_lt (by omega), cmpI_lt (by omega)]
  · have := (cmp_digit h.symm).1 h1
    rw [cmpI_gt (by omega), cmpI_gt (by omega)]
theorem cmp_len {a b : Nat} (h : (lb a).length < (lb b).length) : a < b := by
  have h1 := lb_len_le.1 (Nat.le_refl (lb a).length)
  rcases Nat.lt_or_ge a b with h2 | h2
  · exact h2
  · have := lb_len_le.2 (Nat.lt_of_le_of_lt h2 h1); omega

theorem ct_Cmp {A B : Option Addr} {n m c d : Nat} {l k : List UInt32} (hr : Row nx gt 1 A n (l.map u32V)) (hc : n ≤ c) (hn : n < 1000000000) (hs : Row nx gt 1 B m (k.map u32V)) (hd : m ≤ d) (hm : m < 1000000000) :
    Ct Try.prog 33 [.slice A n c, .slice B m d] nx gt fun v _ _ => v = .int .i64 (cmpI (lv l : Nat) (lv k : Nat)) := by
  refine Ct.of hmx r_limb_Cmp (by simp [c_limb_Cmp]) fun b hb => ?_
  simp only [c_limb_Cmp, ↓gaW, ↓gaV, ↓gaC, ↓gaN, gaP, Nat.reduceEqDiff, Nat.reduceLeDiff, Nat.reduceAdd, Nat.reduceSub, Nat.reduceMul, Int.reduceLT, Int.reduceLE, Int.reduceEq, Int.reduceToNat, Int.reduceAdd, Int.reduceSub, Int.reduceMul, reduceCtorEq, ↓reduceIte]
  refine callK_of (ct_bare hr hc hn) (fun v n1 g1 l1 k1 hC => ?_) (by omega)
  obtain ⟨A1, n', c1, rfl, hc1, hl1, hr1⟩ := hC
  simp only [↓gaW, ↓gaV, ↓gaC, ↓gaN, gaP, Nat.reduceEqDiff, Nat.reduceLeDiff, Nat.reduceAdd, Nat.reduceSub, Nat.reduceMul, Int.reduceLT, Int.reduceLE, Int.reduceEq, Int.reduceToNat, Int.reduceAdd, Int.reduceSub, Int.reduceMul, reduceCtorEq, ↓reduceIte]
  refine callK_of (ct_bare (hs.keep l1 k1) hd hm) (fun v n2 g2 l2 k2 hC => ?_) (by omega)
  obtain ⟨B1, m', d1, rfl, hd1, hl2, hr2⟩ := hC
  have hr1 := hr1.keep l2 k2
  have hk : ∀ i, i < nx → g2 i = gt i := fun i hi => by rw [k2 i (by omega), k1 i hi]
  have hlen0 : l.length = n := by simpa using hr.len
  have hn' : n' < 1000000000 := by
    have := lb_len_le.2 (lv_lt l)
    omega
  generalize hX : lv l = X at *
  generalize hY : lv k = Y at *
  by_cases hlen : (n' : Int) = (m' : Int)
  · have hmn : n' = m' := by omega
    subst hmn
    simp only [↓gaW, ↓gaV, ↓gaC, ↓gaN, gaP, Nat.reduceEqDiff, Nat.reduceLeDiff, Nat.reduceAdd, Nat.reduceSub, Nat.reduceMul, Int.reduceLT, Int.reduceLE, Int.reduceEq, Int.reduceToNat, Int.reduceAdd, Int.reduceSub, Int.reduceMul, reduceCtorEq, ↓reduceIte, hlen, ne_eq, not_true_eq_false, decide_false]
    have w1 : IntKind.i64.wrap ((n' : Int) - 1) = (n' : Int) - 1 := i64_w _ (by omega)
    refine loop_of (fun j f m => ∃ i : Nat, j = i ∧ i ≤ n' ∧ f 0 = .slice A1 n' c1 ∧ f 1 = .slice B1 n' d1 ∧ f 5 = .int .i64 ((i : Nat) - 1) ∧ m = ⟨n2, b, g2⟩ ∧ X / 4294967296 ^ i = Y / 4294967296 ^ i) n' ⟨n', rfl, Nat.le_refl _, rfl, rfl, by simp only [put_e, w1]; rfl, rfl, ?_⟩ ?_
    · have h1 := lb_len_le.1 (show (lb X).length ≤ n' by omega)
      have h2 := lb_len_le.1 (show (lb Y).length ≤ n' by omega)
      rw [Nat.div_eq_of_lt h1, Nat.div_eq_of_lt h2]
    · rintro j f m ⟨i, rfl, hi, h0, h1, h5, rfl, he⟩
      by_cases hpos : (0 : Int) ≤ (j : Int) - 1
      · obtain ⟨i, rfl⟩ : ∃ i, j = i + 1 := ⟨j - 1, by omega⟩
        have e1 : (((i + 1 : Nat) : Int) - 1) = (i : Int) := by omega
        rw [e1] at h5 hpos
        obtain ⟨a, ce, ro, rfl, a1, a2, a3, a4⟩ := w32_cell hr1 hl1 (i := i) (by omega)
        obtain ⟨a', ce', ro', rfl, b1, b2, b3, b4⟩ := w32_cell hr2 hl2 (i := i) (by omega)
        rw [lb_get] at a4 b4
        by_cases hne : X / 4294967296 ^ i % 4294967296 = Y / 4294967296 ^ i % 4294967296
        · simp only [↓gaW, ↓gaV, ↓gaC, ↓gaN, gaP, Nat.reduceEqDiff, Nat.reduceLeDiff, Nat.reduceAdd, Nat.reduceSub, Nat.reduceMul, Int.reduceLT, Int.reduceLE, Int.reduceEq, Int.reduceToNat, Int.reduceAdd, Int.reduceSub, Int.reduceMul, reduceCtorEq, ↓reduceIte, h0, h1, h5, hpos, decide_true, a2, a4, b2, b4, hne, decide_false]
          repeat refine And.intro (by omega) ?_
          simp only [↓gaW, ↓gaV, ↓gaC, ↓gaN, gaP, Nat.reduceEqDiff, Nat.reduceLeDiff, Nat.reduceAdd, Nat.reduceSub, Nat.reduceMul, Int.reduceLT, Int.reduceLE, Int.reduceEq, Int.reduceToNat, Int.reduceAdd, Int.reduceSub, Int.reduceMul, reduceCtorEq, ↓reduceIte, h5, i64_w ((i : Int) - 1) (by omega), loopK_n]
          exact ⟨i, by omega, i, rfl, by omega, h0, h1, rfl, (cmp_digit he).2 hne⟩
        · have hne' : ((X / 4294967296 ^ i % 4294967296 : Nat) : Int) ≠ ((Y / 4294967296 ^ i % 4294967296 : Nat) : Int) := by omega
          simp only [↓gaW, ↓gaV, ↓gaC, ↓gaN, gaP, Nat.reduceEqDiff, Nat.reduceLeDiff, Nat.reduceAdd, Nat.reduceSub, Nat.reduceMul, Int.reduceLT, Int.reduceLE, Int.reduceEq, Int.reduceToNat, Int.reduceAdd, Int.reduceSub, Int.reduceMul, reduceCtorEq, ↓reduceIte, h0, h1, h5, hpos, decide_true, a2, a4, b2, b4, hne']
          repeat refine And.intro (by omega) ?_
          refine callK_of ct_Cmpu (fun v n3 g3 l3 k3 hC => ?_) (by omega)
          subst hC
          simp only [↓gaW, ↓gaV, ↓gaC, ↓gaN, gaP, Nat.reduceEqDiff, Nat.reduceLeDiff, Nat.reduceAdd, Nat.reduceSub, Nat.reduceMul, Int.reduceLT, Int.reduceLE, Int.reduceEq, Int.reduceToNat, Int.reduceAdd, Int.reduceSub, Int.reduceMul, reduceCtorEq, ↓reduceIte, gaE, implies_true, Nat.le_refl, Int.sub_zero, Nat.sub_zero, Int.le_refl, true_or, or_true, loopK_r]
          exact ⟨by omega, fun i hi => by rw [k3 i (by omega), hk i hi], by rw [cmp_digitI he hne]⟩
      · have hj : j = 0 := by omega
        subst hj
        simp only [↓gaW, ↓gaV, ↓gaC, ↓gaN, gaP, Nat.reduceEqDiff, Nat.reduceLeDiff, Nat.reduceAdd, Nat.reduceSub, Nat.reduceMul, Int.reduceLT, Int.reduceLE, Int.reduceEq, Int.reduceToNat, Int.reduceAdd, Int.reduceSub, Int.reduceMul, reduceCtorEq, ↓reduceIte, gaE, implies_true, Nat.le_refl, Int.sub_zero, Nat.sub_zero, Int.le_refl, true_or, or_true, h5, hpos, decide_false, loopK_e]
        simp only [Nat.pow_zero, Nat.div_one] at he
        exact ⟨by omega, hk, by rw [cmpI_eq (by omega)]⟩
  · have hlen' : ((n' : Int) ≠ (m' : Int)) := hlen
    simp only [↓gaW, ↓gaV, ↓gaC, ↓gaN, gaP, Nat.reduceEqDiff, Nat.reduceLeDiff, Nat.reduceAdd, Nat.reduceSub, Nat.reduceMul, Int.reduceLT, Int.reduceLE, Int.reduceEq, Int.reduceToNat, Int.reduceAdd, Int.reduceSub, Int.reduceMul, reduceCtorEq, ↓reduceIte, hlen', decide_true]
    refine callK_of ct_Cmpi (fun v n3 g3 l3 k3 hC => ?_) (by omega)
    subst hC
    simp only [↓gaW, ↓gaV, ↓gaC, ↓gaN, gaP, Nat.reduceEqDiff, Nat.reduceLeDiff, Nat.reduceAdd, Nat.reduceSub, Nat.reduceMul, Int.reduceLT, Int.reduceLE, Int.reduceEq, Int.reduceToNat, Int.reduceAdd, Int.reduceSub, Int.reduceMul, reduceCtorEq, ↓reduceIte, gaE, implies_true, Nat.le_refl, Int.sub_zero, Nat.sub_zero, Int.le_refl, true_or, or_true]
    refine ⟨by omega, fun i hi => by rw [k3 i (by omega), hk i hi], ?_⟩
    congr 1
    rcases Nat.lt_or_gt_of_ne (show n' ≠ m' by omega) with h | h
    · have := cmp_len (a := X) (b := Y) (by omega)
      rw [cmpI_lt (by omega), cmpI_lt (by omega)]
    · have := cmp_len (a := Y) (b := X) (by omega)
      rw [cmpI_gt (by omega), cmpI_gt (by omega)]
end
end Go.Ga

namespace Go.Ga
open Go Go.Proofs
set_option linter.unusedSimpArgs false
set_option linter.unusedVariables false
set_option maxRecDepth 100000

section
variable {nx : Nat} {gt : Nat → Option Blk}

attribute [local irreducible] appendK
theorem ct_Clone {A : Option Addr} {n c : Nat} {l : List UInt32} (hr : Row nx gt 1 A n (l.map u32V)) (hc : n ≤ c) (hn : n < 1000000000) :
    Ct Try.prog 95 [.slice A n c] nx gt fun v nx' gt' => W32 nx' gt' v l := by
  have hlen : l.length = n := by simpa using hr.len
  refine Ct.of hmx r_slices_Clone___uint32_uint32_ (by simp [c_slices_Clone___uint32_uint32_]) fun b hb => ?_
  cases A with
  | none =>
    have hn0 : n = 0 := by
      rcases Nat.eq_zero_or_pos n with h | h
      · exact h
      · obtain ⟨a, _, _, h1, _⟩ := hr.cells h; cases h1
    subst hn0
    have : l = [] := List.eq_nil_of_length_eq_zero hlen
    subst this
    have e : isNilV .sl (.slice none 0 c) = some true := rfl
    simp only [c_slices_Clone___uint32_uint32_, ↓gaW, ↓gaV, ↓gaC, ↓gaN, gaP, Nat.reduceEqDiff, Nat.reduceLeDiff, Nat.reduceAdd, Nat.reduceSub, Nat.reduceMul, Int.reduceLT, Int.reduceLE, Int.reduceEq, Int.reduceToNat, Int.reduceAdd, Int.reduceSub, Int.reduceMul, reduceCtorEq, ↓reduceIte, gaE, implies_true, Nat.le_refl, Int.sub_zero, Nat.sub_zero, Int.le_refl, true_or, or_true, e]
    exact W32.nil
  | some a =>
    have e : isNilV .sl (.slice (some a) n c) = some false := rfl
    have hrow : rowOf ⟨nx + 1, b, upd gt nx (some (.cells [] false))⟩ (some a) n = some (l.map u32V) := (hr.keep (Nat.le_succ _) (fun k hk => by simp only [upd_e]; rw [if_neg (by omega)])).rowOf
    simp only [c_slices_Clone___uint32_uint32_, ↓gaW, ↓gaV, ↓gaC, ↓gaN, gaP, Nat.reduceEqDiff, Nat.reduceLeDiff, Nat.reduceAdd, Nat.reduceSub, Nat.reduceMul, Int.reduceLT, Int.reduceLE, Int.reduceEq, Int.reduceToNat, Int.reduceAdd, Int.reduceSub, Int.reduceMul, reduceCtorEq, ↓reduceIte, gaE, implies_true, Nat.le_refl, Int.sub_zero, Nat.sub_zero, Int.le_refl, true_or, or_true, List.getD_cons_zero, List.getD_cons_succ, fillL, splice, List.take_zero, List.drop_zero, List.drop_succ_cons, List.take_succ_cons, List.drop_nil, List.take_nil, e, hrow]
    refine grow_app (nx := nx) (l := []) (Grow.lit (q := nx) (l := []) (ro := false) (by omega) (by simp [upd]) rfl) (by omega) (by omega) (by omega) (by simp [hlen]) (all_u32 l) (by omega) (by omega) fun A' x' g' h1 h2 h3 => ?_
    simp only [↓gaW, ↓gaV, ↓gaC, ↓gaN, gaP, Nat.reduceEqDiff, Nat.reduceLeDiff, Nat.reduceAdd, Nat.reduceSub, Nat.reduceMul, Int.reduceLT, Int.reduceLE, Int.reduceEq, Int.reduceToNat, Int.reduceAdd, Int.reduceSub, Int.reduceMul, reduceCtorEq, ↓reduceIte, gaE, implies_true, Nat.le_refl, Int.sub_zero, Nat.sub_zero, Int.le_refl, true_or, or_true]
    refine ⟨by omega, fun i hi => by rw [h2 i hi]; simp only [upd_e]; rw [if_neg (by omega)], ?_⟩
    rw [List.nil_append, Nat.zero_add] at h3
    exact h3.w32

theorem ct_Bare {A : Option Addr} {n c : Nat} {l : List UInt32} (hr : Row nx gt 1 A n (l.map u32V)) (hc : n ≤ c) (hn : n < 1000000000) :
    Ct Try.prog 84 [.slice A n c] nx gt fun v nx' gt' => W32 nx' gt' v (lb (lv l)) := by
  have hlen : l.length = n := by simpa using hr.len
  refine Ct.of hmx r_limb_Bare (by simp [c_limb_Bare]) fun b hb => ?_
  simp only [c_limb_Bare, ↓gaW, ↓gaV, ↓gaC, ↓gaN, gaP, Nat.reduceEqDiff, Nat.reduceLeDiff, Nat.reduceAdd, Nat.reduceSub, Nat.reduceMul, Int.reduceLT, Int.reduceLE, Int.reduceEq, Int.reduceToNat, Int.reduceAdd, Int.reduceSub, Int.reduceMul, reduceCtorEq, ↓reduceIte]
  refine callK_of (ct_bare hr hc hn) (fun v n1 g1 l1 k1 hC => ?_) (by omega)
  obtain ⟨A1, n', c1, rfl, hc1, hl1, hr1⟩ := hC
  have hn' : n' < 1000000000 := by
    have := lb_len_le.2 (lv_lt l)
    omega
  simp only [↓gaW, ↓gaV, ↓gaC, ↓gaN, gaP, Nat.reduceEqDiff, Nat.reduceLeDiff, Nat.reduceAdd, Nat.reduceSub, Nat.reduceMul, Int.reduceLT, Int.reduceLE, Int.reduceEq, Int.reduceToNat, Int.reduceAdd, Int.reduceSub, Int.reduceMul, reduceCtorEq, ↓reduceIte]
  refine callK_of (ct_Clone hr1 hc1 hn') (fun v n2 g2 l2 k2 hC => ?_) (by omega)
  simp only [↓gaW, ↓gaV, ↓gaC, ↓gaN, gaP, Nat.reduceEqDiff, Nat.reduceLeDiff, Nat.reduceAdd, Nat.reduceSub, Nat.reduceMul, Int.reduceLT, Int.reduceLE, Int.reduceEq, Int.reduceToNat, Int.reduceAdd, Int.reduceSub, Int.reduceMul, reduceCtorEq, ↓reduceIte, gaE, implies_true, Nat.le_refl, Int.sub_zero, Nat.sub_zero, Int.le_refl, true_or, or_true]
  exact ⟨by omega, fun i hi => by rw [k2 i (by omega), k1 i hi], hC⟩

theorem ct_rBare {A : Option Addr} {n c : Nat} {l : List UInt32} (hr : Row nx gt 1 A n (l.map u32V)) (hc : n ≤ c) (hn : n < 1000000000) :
    Ct Try.prog 73 [.slice A n c] nx gt fun v nx' gt' => W32 nx' gt' v (lb (lv l)) := by
  have hlen : l.length = n := by simpa using hr.len
  refine Ct.of hmx r_lanyardref07_Bare (by simp [c_lanyardref07_Bare]) fun b hb => ?_
  simp only [c_lanyardref07_Bare, ↓gaW, ↓gaV, ↓gaC, ↓gaN, gaP, Nat.reduceEqDiff, Nat.reduceLeDiff, Nat.reduceAdd, Nat.reduceSub, Nat.reduceMul, Int.reduceLT, Int.reduceLE, Int.reduceEq, Int.reduceToNat, Int.reduceAdd, Int.reduceSub, Int.reduceMul, reduceCtorEq, ↓reduceIte]
  have hcut : ∀ a k, A = some a → k ≤ n → rowOf ⟨nx + 1, b, upd gt nx (some (.cells [] false))⟩ (some ⟨a.block, a.off, a.spot⟩) k = some ((l.take k).map u32V) := by
    intro a k ha hk
    have h := ((hr.keep (nx' := nx + 1) (gt' := upd gt nx (some (.cells [] false))) (Nat.le_succ _) (fun k hk => by simp only [upd_e]; rw [if_neg (by omega)])).part (lo := 0) (hi := k) (Nat.zero_le _) hk ha).rowOf (b := b)
    simpa [List.map_take] using h
  have hnil : rowOf ⟨nx + 1, b, upd gt nx (some (.cells [] false))⟩ none 0 = some [] := by simp [rowOf]
  have app : ∀ (k : Nat) (K : Value → Mem → Prop), k ≤ n → (∀ A' x' g', nx + 1 ≤ x' → (∀ i, i < nx → g' i = gt i) → W32 x' g' (.slice A' k k) (l.take k) → K (.slice A' k k) ⟨x', b, g'⟩) →
      appendK 1 4 ⟨nx + 1, b, upd gt nx (some (.cells [] false))⟩ (some ⟨nx, 0, none⟩) 0 0 k ((l.take k).map u32V) K := by
    intro k K hk hK
    refine grow_app (nx := nx) (l := []) (Grow.lit (q := nx) (l := []) (ro := false) (by omega) (by simp [upd]) rfl) (by omega) (by omega) (by omega) (by simp [hlen]; omega) (all_u32 _) (by omega) (by omega) fun A' x' g' h1 h2 h3 => ?_
    rw [List.nil_append, Nat.zero_add] at h3
    rw [Nat.zero_add]
    exact hK A' x' g' h1 (fun i hi => by rw [h2 i hi]; simp only [upd_e]; rw [if_neg (by omega)]) h3.w32
  refine loop_of (fun j f m => ∃ k : Nat, j = k ∧ k ≤ n ∧ f 0 = .slice A n c ∧ f 3 = .int .i64 (k : Nat) ∧ m = ⟨nx, b, gt⟩ ∧ ∀ i, k ≤ i → i < l.length → l.getD i 0 = 0) n ⟨n, rfl, Nat.le_refl _, rfl, rfl, rfl, fun i h1 h2 => by omega⟩ ?_
  rintro j f m ⟨k, rfl, hk, h0, h3, rfl, hz⟩
  by_cases hpos : (0 : Int) < (j : Int)
  · have e1 : ((j : Int) - 1) = ((j - 1 : Nat) : Int) := by omega
    obtain ⟨a, ce, ro, ha, h5, h6, h7, h8⟩ := w32_cell hr hlen (i := j - 1) (by omega)
    by_cases hzero : (l.getD (j - 1) 0) = 0
    · have hv : ((l.getD (j - 1) 0).toNat : Int) = 0 := by rw [hzero]; rfl
      simp only [↓gaW, ↓gaV, ↓gaC, ↓gaN, gaP, Nat.reduceEqDiff, Nat.reduceLeDiff, Nat.reduceAdd, Nat.reduceSub, Nat.reduceMul, Int.reduceLT, Int.reduceLE, Int.reduceEq, Int.reduceToNat, Int.reduceAdd, Int.reduceSub, Int.reduceMul, reduceCtorEq, ↓reduceIte, h0, h3, hpos, decide_true, e1, i64_w ((j - 1 : Nat) : Int) (by omega), ha, h6, h8, hv]
      refine ⟨by omega, by omega, by omega, ?_⟩
      simp only [↓gaW, ↓gaV, ↓gaC, ↓gaN, gaP, Nat.reduceEqDiff, Nat.reduceLeDiff, Nat.reduceAdd, Nat.reduceSub, Nat.reduceMul, Int.reduceLT, Int.reduceLE, Int.reduceEq, Int.reduceToNat, Int.reduceAdd, Int.reduceSub, Int.reduceMul, reduceCtorEq, ↓reduceIte, h3, e1, i64_w ((j - 1 : Nat) : Int) (by omega), loopK_n]
      refine ⟨j - 1, by omega, j - 1, rfl, by omega, by rw [h0, ha], rfl, fun i h1 h2 => ?_⟩
      by_cases hi : i = j - 1
      · rw [hi]; exact hzero
      · exact hz i (by omega) h2
    · have hv : ¬ ((l.getD (j - 1) 0).toNat : Int) = 0 := fun h => hzero (by apply UInt32.toNat_inj.1; show _ = 0; omega)
      have hsp := hr.spot a ha
      simp only [↓gaW, ↓gaV, ↓gaC, ↓gaN, gaP, Nat.reduceEqDiff, Nat.reduceLeDiff, Nat.reduceAdd, Nat.reduceSub, Nat.reduceMul, Int.reduceLT, Int.reduceLE, Int.reduceEq, Int.reduceToNat, Int.reduceAdd, Int.reduceSub, Int.reduceMul, reduceCtorEq, ↓reduceIte, gaE, implies_true, Nat.le_refl, Int.sub_zero, Nat.sub_zero, Int.le_refl, true_or, or_true, List.getD_cons_zero, List.getD_cons_succ, fillL, splice, List.take_zero, List.drop_zero, List.drop_succ_cons, List.take_succ_cons, List.drop_nil, List.take_nil, h0, h3, hpos, decide_true, e1, i64_w ((j - 1 : Nat) : Int) (by omega), ha, h6, h8, hv, decide_false, hcut a j ha hk]
      repeat refine And.intro (by first | omega | (rcases hsp with h | h <;> simp [h])) ?_
      refine app j _ hk fun A' x' g' h1 h2 h3 => ?_
      simp only [↓gaW, ↓gaV, ↓gaC, ↓gaN, gaP, Nat.reduceEqDiff, Nat.reduceLeDiff, Nat.reduceAdd, Nat.reduceSub, Nat.reduceMul, Int.reduceLT, Int.reduceLE, Int.reduceEq, Int.reduceToNat, Int.reduceAdd, Int.reduceSub, Int.reduceMul, reduceCtorEq, ↓reduceIte, gaE, implies_true, Nat.le_refl, Int.sub_zero, Nat.sub_zero, Int.le_refl, true_or, or_true]
      rw [lb_lv_take l j (by omega) hz (.inr hzero)]
      exact ⟨by omega, h2, h3⟩
  · have hj : j = 0 := by omega
    subst hj
    have hneg : ¬ (0 : Int) < ((0 : Nat) : Int) := by omega
    rw [lb_lv_take l 0 (by omega) hz (.inl rfl)]
    cases A with
    | none =>
      simp only [↓gaW, ↓gaV, ↓gaC, ↓gaN, gaP, Nat.reduceEqDiff, Nat.reduceLeDiff, Nat.reduceAdd, Nat.reduceSub, Nat.reduceMul, Int.reduceLT, Int.reduceLE, Int.reduceEq, Int.reduceToNat, Int.reduceAdd, Int.reduceSub, Int.reduceMul, reduceCtorEq, ↓reduceIte, gaE, implies_true, Nat.le_refl, Int.sub_zero, Nat.sub_zero, Int.le_refl, true_or, or_true, List.getD_cons_zero, List.getD_cons_succ, fillL, splice, List.take_zero, List.drop_zero, List.drop_succ_cons, List.take_succ_cons, List.drop_nil, List.take_nil, h0, h3, hneg, decide_false, hnil]
      repeat refine And.intro (by omega) ?_
      refine app 0 _ hk fun A' x' g' h1 h2 h3 => ?_
      simp only [↓gaW, ↓gaV, ↓gaC, ↓gaN, gaP, Nat.reduceEqDiff, Nat.reduceLeDiff, Nat.reduceAdd, Nat.reduceSub, Nat.reduceMul, Int.reduceLT, Int.reduceLE, Int.reduceEq, Int.reduceToNat, Int.reduceAdd, Int.reduceSub, Int.reduceMul, reduceCtorEq, ↓reduceIte, gaE, implies_true, Nat.le_refl, Int.sub_zero, Nat.sub_zero, Int.le_refl, true_or, or_true]
      exact ⟨by omega, h2, h3⟩
    | some a =>
      have hsp := hr.spot a rfl
      simp only [↓gaW, ↓gaV, ↓gaC, ↓gaN, gaP, Nat.reduceEqDiff, Nat.reduceLeDiff, Nat.reduceAdd, Nat.reduceSub, Nat.reduceMul, Int.reduceLT, Int.reduceLE, Int.reduceEq, Int.reduceToNat, Int.reduceAdd, Int.reduceSub, Int.reduceMul, reduceCtorEq, ↓reduceIte, gaE, implies_true, Nat.le_refl, Int.sub_zero, Nat.sub_zero, Int.le_refl, true_or, or_true, List.getD_cons_zero, List.getD_cons_succ, fillL, splice, List.take_zero, List.drop_zero, List.drop_succ_cons, List.take_succ_cons, List.drop_nil, List.take_nil, h0, h3, hneg, decide_false, hcut a 0 rfl (Nat.zero_le _)]
      repeat refine And.intro (by first | omega | (rcases hsp with h | h <;> simp [h])) ?_
      refine app 0 _ hk fun A' x' g' h1 h2 h3 => ?_
      simp only [↓gaW, ↓gaV, ↓gaC, ↓gaN, gaP, Nat.reduceEqDiff, Nat.reduceLeDiff, Nat.reduceAdd, Nat.reduceSub, Nat.reduceMul, Int.reduceLT, Int.reduceLE, Int.reduceEq, Int.reduceToNat, Int.reduceAdd, Int.reduceSub, Int.reduceMul, reduceCtorEq, ↓reduceIte, gaE, implies_true, Nat.le_refl, Int.sub_zero, Nat.sub_zero, Int.le_refl, true_or, or_true]
      exact ⟨by omega, h2, h3⟩
end
end Go.Ga
