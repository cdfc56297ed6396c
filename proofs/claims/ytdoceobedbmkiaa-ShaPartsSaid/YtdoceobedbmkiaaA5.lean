/- Words and contracts of functions for the statement's proof. No condition. -/
import Derived.Test.YtdoceobedbmkiaaA4
set_option linter.all false

namespace Go.Ga
open Go Go.Proofs
set_option linter.unusedSimpArgs false
set_option linter.unusedVariables false
set_option maxRecDepth 100000
attribute [local irreducible] appendK endK endW sch comp rs sha

theorem bytesOf_take (l : List UInt8) (n : Nat) : bytesOf ((l.take n).map u8V) = some (l.take n) := bytesOf_map _

section
variable {nx : Nat} {gt : Nat → Option Blk}

theorem wr_dig : ∀ d, d < 16 → wr (dig d).toNat = d := by decide +kernel
theorem unh_hexL (l : List UInt8) : unh (hexL l) = some l := by
  induction l with
  | nil => rfl
  | cons b l ih =>
    have hb := b.toNat_lt
    have h1 : wr (dig (b.toNat / 16)).toNat = b.toNat / 16 := wr_dig _ (by omega)
    have h2 : wr (dig (b.toNat % 16)).toNat = b.toNat % 16 := wr_dig _ (by omega)
    rw [hexL, unh, h1, h2, if_neg (by omega), ih]
    have : b.toNat / 16 * 16 + b.toNat % 16 = b.toNat := by omega
    rw [this]
    simp

theorem fn_Names {A : Option Addr} {n c : Nat} {l : List UInt8} (hA : Row nx gt 1 A n (l.map u8V)) (hc : n ≤ c) :
    Ct Try.prog 7 [.slice A n c] nx gt fun v _ _ => v = .bool true := by
  refine Ct.of hmx r_lanyardlaw06_ShaNames (by simp [c_lanyardlaw06_ShaNames]) fun b hb => ?_
  have hF : ∀ q, q < nx → gt q = gt q := fun _ _ => rfl
  simp only [c_lanyardlaw06_ShaNames, ↓gaW, ↓gaV, ↓gaC, ↓gaN, gaP, Nat.reduceEqDiff, Nat.reduceLeDiff, Nat.reduceAdd, Nat.reduceSub, Nat.reduceMul, Int.reduceLT, Int.reduceLE, Int.reduceEq, Int.reduceToNat, Int.reduceAdd, Int.reduceSub, Int.reduceMul, reduceCtorEq, ↓reduceIte]
  refine callK_of ct_awake06 (fun v n1 g1 l1 k1 hC => ?_) (by omega)
  subst hC
  have hA := hA.keep l1 k1
  have hF : ∀ q, q < nx → g1 q = gt q := fun q hq => (k1 q (by omega)).trans (hF q hq)
  simp only [↓gaW, ↓gaV, ↓gaC, ↓gaN, gaP, Nat.reduceEqDiff, Nat.reduceLeDiff, Nat.reduceAdd, Nat.reduceSub, Nat.reduceMul, Int.reduceLT, Int.reduceLE, Int.reduceEq, Int.reduceToNat, Int.reduceAdd, Int.reduceSub, Int.reduceMul, reduceCtorEq, ↓reduceIte]
  by_cases g1 : (2000 : Int) < (n : Int)
  · simp only [↓gaW, ↓gaV, ↓gaC, ↓gaN, gaP, Nat.reduceEqDiff, Nat.reduceLeDiff, Nat.reduceAdd, Nat.reduceSub, Nat.reduceMul, Int.reduceLT, Int.reduceLE, Int.reduceEq, Int.reduceToNat, Int.reduceAdd, Int.reduceSub, Int.reduceMul, reduceCtorEq, ↓reduceIte, gaE, implies_true, Nat.le_refl, Int.sub_zero, Nat.sub_zero, Int.le_refl, true_or, or_true, g1, decide_true]
    exact ⟨by omega, hF⟩
  have hsl := sha_len l
  have hLa : ∀ v ∈ (sha l).map u8V, cellVal v = true := all_u8 _
  have hsp2 : splice ((List.replicate 32 (0 : UInt8)).map u8V) 0 ((sha l).map u8V) = (sha l).map u8V := by simp [splice, hsl]
  simp only [↓gaW, ↓gaV, ↓gaC, ↓gaN, gaP, Nat.reduceEqDiff, Nat.reduceLeDiff, Nat.reduceAdd, Nat.reduceSub, Nat.reduceMul, Int.reduceLT, Int.reduceLE, Int.reduceEq, Int.reduceToNat, Int.reduceAdd, Int.reduceSub, Int.reduceMul, reduceCtorEq, ↓reduceIte, g1, decide_false]
  refine callK_of (ct_Of hA hc (by omega)) (fun v n2 g2 l2 k2 hC => ?_) (by omega)
  subst hC
  have hA := hA.keep l2 k2
  have hF : ∀ q, q < nx → g2 q = gt q := fun q hq => (k2 q (by omega)).trans (hF q hq)
  simp only [↓gaW, ↓gaV, ↓gaC, ↓gaN, gaP, Nat.reduceEqDiff, Nat.reduceLeDiff, Nat.reduceAdd, Nat.reduceSub, Nat.reduceMul, Int.reduceLT, Int.reduceLE, Int.reduceEq, Int.reduceToNat, Int.reduceAdd, Int.reduceSub, Int.reduceMul, reduceCtorEq, ↓reduceIte, gaU, Nat.add_zero]
  refine And.intro (by simp [hsl]) (And.intro (by omega) (And.intro (by simp [hsl]) (And.intro hLa ?_)))
  refine callK_of (ct_Name (hA.keep (by omega) (fun p hp => by simp only [upd_e]; rw [if_neg (by omega), if_neg (by omega)])) hc (by omega)) (fun v x3 g3 l3 k3 hC => ?_) (by omega)
  subst hC
  simp only [↓gaW, ↓gaV, ↓gaC, ↓gaN, gaP, Nat.reduceEqDiff, Nat.reduceLeDiff, Nat.reduceAdd, Nat.reduceSub, Nat.reduceMul, Int.reduceLT, Int.reduceLE, Int.reduceEq, Int.reduceToNat, Int.reduceAdd, Int.reduceSub, Int.reduceMul, reduceCtorEq, ↓reduceIte]
  have h40 : (hexL ((sha l).take 20)).length = 40 := by rw [hexL_length]; simp [hsl]
  refine callK_of (ct_Unhex (by show (hexL ((sha l).take 20)).toArray.size < 1000000; simp [h40])) (fun v x4 g4 l4 k4 hC => ?_) (by omega)
  obtain ⟨sl, rfl, hby⟩ := hC
  simp only [unh_hexL, Option.isSome_some, Option.getD_some] at hby ⊢
  obtain ⟨A4, n4, c4, rfl, hc4, hl4, hr4⟩ := hby
  have hrow : ∀ b, rowOf ⟨x4, b, g4⟩ A4 n4 = some _ := fun b => hr4.rowOf
  have hD : g4 n2 = some (.cells ((sha l).map u8V) false) := by
    rw [k4 n2 (by omega), k3 n2 (by omega)]; simp only [upd_e, if_true]; exact congrArg (fun l => some (Blk.cells l false)) hsp2
  have hrow2 : ∀ b, rowOf ⟨x4, b, g4⟩ (some ⟨n2, 0, none⟩) 20 = some (((sha l).take 20).map u8V) := fun b => by
    have hr1 := (row8 (x := x4) (q := n2) (g := g4) (ro := false) (by omega) hD hsl).part (lo := 0) (hi := 20) (by omega) (by omega) rfl
    rw [List.drop_zero, Nat.sub_zero, ← List.map_take] at hr1
    exact hr1.rowOf
  have hsz : (⟨(hexL ((sha l).take 20)).toArray⟩ : ByteArray).size = 40 := by show (hexL ((sha l).take 20)).toArray.size = 40; simp [h40]
  simp only [↓gaW, ↓gaV, ↓gaC, ↓gaN, gaP, Nat.reduceEqDiff, Nat.reduceLeDiff, Nat.reduceAdd, Nat.reduceSub, Nat.reduceMul, Int.reduceLT, Int.reduceLE, Int.reduceEq, Int.reduceToNat, Int.reduceAdd, Int.reduceSub, Int.reduceMul, reduceCtorEq, ↓reduceIte, hsz, hrow, hrow2, bytesOf_map, decide_true, Nat.reduceLT]
  simp only [↓gaW, ↓gaV, ↓gaC, ↓gaN, gaP, Nat.reduceEqDiff, Nat.reduceLeDiff, Nat.reduceAdd, Nat.reduceSub, Nat.reduceMul, Int.reduceLT, Int.reduceLE, Int.reduceEq, Int.reduceToNat, Int.reduceAdd, Int.reduceSub, Int.reduceMul, reduceCtorEq, ↓reduceIte, gaE, implies_true, Nat.le_refl, Int.sub_zero, Nat.sub_zero, Int.le_refl, true_or, or_true, beq_self_eq_true]
  refine ⟨by omega, fun q hq => ?_⟩
  rw [k4 q (by omega), k3 q (by omega)]
  simp only [upd_e]
  rw [if_neg (by omega), if_neg (by omega), hF q hq]

theorem fn_Own {A : Option Addr} {n c : Nat} {at' : Int} {l : List UInt8} (hA : Row nx gt 1 A n (l.map u8V)) (hc : n ≤ c) (hat : -9223372036854775808 ≤ at' ∧ at' ≤ 9223372036854775807) :
    Ct Try.prog 4 [.slice A n c, .int .i64 at'] nx gt fun v _ _ => v = .bool true := by
  have hl : l.length = n := by simpa using hA.len
  refine Ct.of hmx r_lanyardlaw06_ShaOwn (by simp [c_lanyardlaw06_ShaOwn]) fun b hb => ?_
  have hF : ∀ q, q < nx → gt q = gt q := fun _ _ => rfl
  simp only [c_lanyardlaw06_ShaOwn, ↓gaW, ↓gaV, ↓gaC, ↓gaN, gaP, Nat.reduceEqDiff, Nat.reduceLeDiff, Nat.reduceAdd, Nat.reduceSub, Nat.reduceMul, Int.reduceLT, Int.reduceLE, Int.reduceEq, Int.reduceToNat, Int.reduceAdd, Int.reduceSub, Int.reduceMul, reduceCtorEq, ↓reduceIte]
  refine callK_of ct_awake06 (fun v n1 g1 l1 k1 hC => ?_) (by omega)
  subst hC
  have hA := hA.keep l1 k1
  have hF : ∀ q, q < nx → g1 q = gt q := fun q hq => (k1 q (by omega)).trans (hF q hq)
  simp only [↓gaW, ↓gaV, ↓gaC, ↓gaN, gaP, Nat.reduceEqDiff, Nat.reduceLeDiff, Nat.reduceAdd, Nat.reduceSub, Nat.reduceMul, Int.reduceLT, Int.reduceLE, Int.reduceEq, Int.reduceToNat, Int.reduceAdd, Int.reduceSub, Int.reduceMul, reduceCtorEq, ↓reduceIte]
  refine callK_of ct_New (fun v x1 g2 l2 k2 hC => ?_) (by omega)
  obtain ⟨rfl, rfl, hg1⟩ := hC
  have hA2 := hA.keep l2 k2
  have hF2 : ∀ q, q < nx → g2 q = gt q := fun q hq => (k2 q (by omega)).trans (hF q hq)
  by_cases z1 : (n : Int) = 0
  · simp only [↓gaW, ↓gaV, ↓gaC, ↓gaN, gaP, Nat.reduceEqDiff, Nat.reduceLeDiff, Nat.reduceAdd, Nat.reduceSub, Nat.reduceMul, Int.reduceLT, Int.reduceLE, Int.reduceEq, Int.reduceToNat, Int.reduceAdd, Int.reduceSub, Int.reduceMul, reduceCtorEq, ↓reduceIte, gaE, implies_true, Nat.le_refl, Int.sub_zero, Nat.sub_zero, Int.le_refl, true_or, or_true, isNilV, Option.isNone_some, z1, decide_true]
    exact ⟨by omega, hF2⟩
  by_cases z2 : (1000 : Int) < (n : Int)
  · simp only [↓gaW, ↓gaV, ↓gaC, ↓gaN, gaP, Nat.reduceEqDiff, Nat.reduceLeDiff, Nat.reduceAdd, Nat.reduceSub, Nat.reduceMul, Int.reduceLT, Int.reduceLE, Int.reduceEq, Int.reduceToNat, Int.reduceAdd, Int.reduceSub, Int.reduceMul, reduceCtorEq, ↓reduceIte, gaE, implies_true, Nat.le_refl, Int.sub_zero, Nat.sub_zero, Int.le_refl, true_or, or_true, isNilV, Option.isNone_some, z1, z2, decide_true, decide_false]
    exact ⟨by omega, hF2⟩
  by_cases z3 : at' < 0
  · simp only [↓gaW, ↓gaV, ↓gaC, ↓gaN, gaP, Nat.reduceEqDiff, Nat.reduceLeDiff, Nat.reduceAdd, Nat.reduceSub, Nat.reduceMul, Int.reduceLT, Int.reduceLE, Int.reduceEq, Int.reduceToNat, Int.reduceAdd, Int.reduceSub, Int.reduceMul, reduceCtorEq, ↓reduceIte, gaE, implies_true, Nat.le_refl, Int.sub_zero, Nat.sub_zero, Int.le_refl, true_or, or_true, isNilV, Option.isNone_some, z1, z2, z3, decide_true, decide_false]
    exact ⟨by omega, hF2⟩
  have hsl := sha_len l
  simp only [↓gaW, ↓gaV, ↓gaC, ↓gaN, gaP, Nat.reduceEqDiff, Nat.reduceLeDiff, Nat.reduceAdd, Nat.reduceSub, Nat.reduceMul, Int.reduceLT, Int.reduceLE, Int.reduceEq, Int.reduceToNat, Int.reduceAdd, Int.reduceSub, Int.reduceMul, reduceCtorEq, ↓reduceIte, List.getD_cons_zero, List.getD_cons_succ, fillL, splice, List.take_zero, List.drop_zero, List.drop_succ_cons, List.take_succ_cons, List.drop_nil, List.take_nil, isNilV, Option.isNone_some, z1, z2, z3, decide_false]
  have hrow : ∀ b, rowOf ⟨n1 + 1 + 1, b, upd g2 (n1 + 1) (some (.cells [] false))⟩ A n = some (l.map u8V) := fun b => (hA2.keep (Nat.le_succ _) (fun p hp => by simp only [upd_e]; rw [if_neg (by omega)])).rowOf
  rw [hrow]
  show appendK _ _ _ _ _ _ _ _ _
  refine grow_append (nx := n1 + 1 + 1) (k := n) (l := []) (Grow.lit (q := n1 + 1) (l := []) (ro := false) (by omega) (by simp only [upd_e, if_true]) rfl) (by omega) (by omega) (by omega) (by omega) (by simp [hl]) (all_u8 _) (by omega) (by omega) fun g3 k3 ho3 => ?_
  rw [List.nil_append, Nat.zero_add] at ho3
  rw [Nat.zero_add]
  obtain ⟨_, ⟨hno, _⟩ | ⟨q, e1, e2, e3, e4, e5⟩⟩ := ho3
  · cases hno
  have e1' : q = n1 + 1 + 1 := by injection e1 with e1; injection e1 with e1 _ _; exact e1.symm
  subst e1'
  have hG3 : g3 n1 = some (.cells (hcells ivs (List.replicate 64 0) 0) false) := by rw [k3 n1 (by omega)]; simp only [upd_e]; rw [if_neg (by omega), hg1]
  have hb1 : HashB [] (g3 n1) := ⟨ivs, List.replicate 64 0, hG3, .new⟩
  have hF3 : ∀ q, q < nx → g3 q = gt q := fun q hq => by rw [k3 q (by omega)]; simp only [upd_e]; rw [if_neg (by omega), hF2 q hq]
  have hrC : Row (n1 + 1 + 1 + 1) g3 1 (some ⟨n1 + 1 + 1, 0, some 1⟩) n (l.map u8V) := ⟨fun a ha => by injection ha with ha; subst ha; exact .inr rfl, by simp [hl], fun _ => ⟨_, _, false, rfl, by show n1 + 1 + 1 < _; omega, e5, by simp [hl], fun i hi => by simp⟩⟩
  refine callW_of (ct_Write (q := n1) (by omega) hb1 hrC (by omega) (fun _ a ha => by injection ha with ha; subst ha; show n1 + 1 + 1 ≠ n1; omega) (by simp; omega)) (fun v x4 g4 l4 k4 hC => ?_) (by omega) (by omega)
  rw [List.nil_append] at hC
  have e6 : g4 (n1 + 1 + 1) = some (.cells (l.map u8V) false) := by rw [k4 _ (by omega) (by omega), e5]
  obtain ⟨kk, hk1, hk2⟩ : ∃ kk : Nat, at'.tmod (n : Int) = (kk : Int) ∧ kk < n := by
    have h1 := Int.tmod_nonneg (n : Int) (show 0 ≤ at' by omega)
    have h2 := Int.tmod_lt_of_pos at' (show (0 : Int) < (n : Int) by omega)
    exact ⟨(at'.tmod (n : Int)).toNat, by omega, by omega⟩
  have hcell : (l.map u8V).getD kk undef = .int .u8 ((l.getD kk 0).toNat : Nat) := getD_u8 (by omega)
  simp only [↓gaW, ↓gaV, ↓gaC, ↓gaN, gaP, Nat.reduceEqDiff, Nat.reduceLeDiff, Nat.reduceAdd, Nat.reduceSub, Nat.reduceMul, Int.reduceLT, Int.reduceLE, Int.reduceEq, Int.reduceToNat, Int.reduceAdd, Int.reduceSub, Int.reduceMul, reduceCtorEq, ↓reduceIte, gaU, z1, hk1, e6, Int.toNat_natCast, Nat.mul_one, Nat.zero_add, hcell]
  repeat refine And.intro (by first | omega | (simp; done) | (simp; omega) | exact all1 rfl) ?_
  have hF4 : ∀ q, q < nx → g4 q = gt q := fun q hq => by rw [k4 q (by omega) (by omega), hF3 q hq]
  refine callK_of (ct_Sum (q := n1) (l := l) (by omega) (by simp only [upd_e]; rw [if_neg (by omega)]; exact hC) (by omega)) (fun v x5 g5 l5 k5 hC => ?_) (by omega)
  subst hC
  have hF5 : ∀ q, q < nx → g5 q = gt q := fun q hq => by rw [k5 q (by omega)]; simp only [upd_e]; rw [if_neg (by omega), hF4 q hq]
  simp only [↓gaW, ↓gaV, ↓gaC, ↓gaN, gaP, Nat.reduceEqDiff, Nat.reduceLeDiff, Nat.reduceAdd, Nat.reduceSub, Nat.reduceMul, Int.reduceLT, Int.reduceLE, Int.reduceEq, Int.reduceToNat, Int.reduceAdd, Int.reduceSub, Int.reduceMul, reduceCtorEq, ↓reduceIte]
  refine callK_of (ct_Of (hA.keep (nx' := x5) (by omega) (fun p hp => by rw [k5 p (by omega)]; simp only [upd_e]; rw [if_neg (by omega), k4 p (by omega) (by omega), k3 p (by omega)]; simp only [upd_e]; rw [if_neg (by omega), k2 p (by omega)])) hc (by omega)) (fun v x6 g6 l6 k6 hC => ?_) (by omega)
  subst hC
  simp only [↓gaW, ↓gaV, ↓gaC, ↓gaN, gaP, Nat.reduceEqDiff, Nat.reduceLeDiff, Nat.reduceAdd, Nat.reduceSub, Nat.reduceMul, Int.reduceLT, Int.reduceLE, Int.reduceEq, Int.reduceToNat, Int.reduceAdd, Int.reduceSub, Int.reduceMul, reduceCtorEq, ↓reduceIte, gaE, implies_true, Nat.le_refl, Int.sub_zero, Nat.sub_zero, Int.le_refl, true_or, or_true, o_eqA, eq32 hsl hsl, decide_true]
  exact ⟨by omega, fun q hq => by rw [k6 q (by omega), hF5 q hq]⟩

theorem Own.keepH {nx b x g e A n l x' g'} (h : Own nx b x g e A n l) (h1 : x ≤ x') (h2 : ∀ i, nx ≤ i → i < x → g' i = g i) : Own nx b x' g' e A n l := by
  refine ⟨h.1, ?_⟩
  rcases h.2 with h | ⟨q, e1, e2, e3, e4, e5⟩
  · exact .inl h
  · exact .inr ⟨q, e1, e2, by omega, e4, by rw [h2 q e2 e3, e5]⟩
theorem own_app {nx b x n k e bytes : Nat} {g : Nat → Option Blk} {A : Option Addr} {l news : List Value} {K : Value → Mem → Prop} (h : Own nx b x g e A n l) (he : 0 < e) (hx : nx ≤ x) (hb : b ≤ x) (hl : news.length = k * e)
    (hv : ∀ v ∈ news, cellVal v = true) (hs : (n + k) * bytes ≤ 140737488355328) (hs' : n + k ≤ 9223372036854775807)
    (hK : ∀ A' x' g', x ≤ x' → (∀ i, i < nx → g' i = g i) → Own nx b x' g' e A' (n + k) (l ++ news) → K (.slice A' (n + k) (n + k)) ⟨x', b, g'⟩) :
    appendK e bytes ⟨x, b, g⟩ A n n k news K := by
  by_cases hk : k = 0
  · subst hk
    have hn : news = [] := List.eq_nil_of_length_eq_zero (by simpa using hl)
    subst hn
    have := hK A x g (Nat.le_refl _) (fun _ _ => rfl) (by simpa using h)
    unfold appendK
    refine ⟨by simp, he, by simp, ?_⟩
    rw [if_pos (by omega)]
    cases A with
    | none => exact this
    | some a => simpa using this
  · exact own_append h he hx hb (by omega) hl hv hs hs' fun g' h1 h2 => hK _ _ _ (Nat.le_succ _) h1 h2

theorem fn_PartsS {A : Option Addr} {n c : Nat} {ls : List (List UInt8)} (hA : RowB nx gt A n ls) (hc : n ≤ c) :
    Ct Try.prog 3 [.slice A n c] nx gt fun v _ _ => v = .bool true := by
  refine Ct.of hmx r_lanyardlaw06_ShaParts (by simp [c_lanyardlaw06_ShaParts]) fun b hb => ?_
  have hF : ∀ q, q < nx → gt q = gt q := fun _ _ => rfl
  simp only [c_lanyardlaw06_ShaParts, ↓gaW, ↓gaV, ↓gaC, ↓gaN, gaP, Nat.reduceEqDiff, Nat.reduceLeDiff, Nat.reduceAdd, Nat.reduceSub, Nat.reduceMul, Int.reduceLT, Int.reduceLE, Int.reduceEq, Int.reduceToNat, Int.reduceAdd, Int.reduceSub, Int.reduceMul, reduceCtorEq, ↓reduceIte]
  refine callK_of ct_awake06 (fun v n1 g1 l1 k1 hC => ?_) (by omega)
  subst hC
  have hF : ∀ q, q < nx → g1 q = gt q := fun q hq => (k1 q (by omega)).trans (hF q hq)
  simp only [↓gaW, ↓gaV, ↓gaC, ↓gaN, gaP, Nat.reduceEqDiff, Nat.reduceLeDiff, Nat.reduceAdd, Nat.reduceSub, Nat.reduceMul, Int.reduceLT, Int.reduceLE, Int.reduceEq, Int.reduceToNat, Int.reduceAdd, Int.reduceSub, Int.reduceMul, reduceCtorEq, ↓reduceIte]
  refine callK_of ct_New (fun v x1 g2 l2 k2 hC => ?_) (by omega)
  obtain ⟨rfl, rfl, hg1⟩ := hC
  have hF2 : ∀ q, q < nx → g2 q = gt q := fun q hq => (k2 q (by omega)).trans (hF q hq)
  by_cases z1 : (40 : Int) < (n : Int)
  · simp only [↓gaW, ↓gaV, ↓gaC, ↓gaN, gaP, Nat.reduceEqDiff, Nat.reduceLeDiff, Nat.reduceAdd, Nat.reduceSub, Nat.reduceMul, Int.reduceLT, Int.reduceLE, Int.reduceEq, Int.reduceToNat, Int.reduceAdd, Int.reduceSub, Int.reduceMul, reduceCtorEq, ↓reduceIte, gaE, implies_true, Nat.le_refl, Int.sub_zero, Nat.sub_zero, Int.le_refl, true_or, or_true, isNilV, Option.isNone_some, z1, decide_true]
    repeat refine And.intro (by first | omega | (simp; done) | (simp; omega) | exact all1 rfl) ?_
    first | exact hF2 | exact ⟨hF2, trivial⟩ | trivial
  simp only [↓gaW, ↓gaV, ↓gaC, ↓gaN, gaP, Nat.reduceEqDiff, Nat.reduceLeDiff, Nat.reduceAdd, Nat.reduceSub, Nat.reduceMul, Int.reduceLT, Int.reduceLE, Int.reduceEq, Int.reduceToNat, Int.reduceAdd, Int.reduceSub, Int.reduceMul, reduceCtorEq, ↓reduceIte, List.getD_cons_zero, List.getD_cons_succ, fillL, splice, List.take_zero, List.drop_zero, List.drop_succ_cons, List.take_succ_cons, List.drop_nil, List.take_nil, isNilV, Option.isNone_some, z1, decide_false]
  have hlow : ∀ {B : Option Addr} {m : Nat} {l : List Value}, Row nx gt 1 B m l → 0 < m → ∀ a, B = some a → a.block < nx := fun h h0 a ha => by
    obtain ⟨a', _, _, e1, e2, _⟩ := h.cells h0
    rw [ha] at e1
    injection e1 with e1
    subst e1
    exact e2
  -- what is left: the hash has gone through what all holds
  refine loop_of (fun j f m => ∃ (i x : Nat) (g : Nat → Option Blk) (Q : Option Addr) (all : List UInt8), j = n - i ∧ i ≤ n ∧ f 0 = .slice A n c ∧ f 3 = .bool true ∧ f 4 = .pointer (some ⟨n1, 0, none⟩) ∧ f 5 = .slice Q all.length all.length ∧ f 6 = .int .i64 (i : Nat) ∧ m = ⟨x, b, g⟩ ∧ n1 + 1 ≤ x ∧ (∀ p, p < nx → g p = gt p) ∧
      all.length ≤ 300 * i ∧ HashB all (g n1) ∧ Own (n1 + 1) b x g 1 Q all.length (all.map u8V)) n
    ⟨0, n1 + 1, g2, none, [], by omega, by omega, by simp only [↓gaW, ↓gaV, ↓gaC, ↓gaN, gaP, Nat.reduceEqDiff, Nat.reduceLeDiff, Nat.reduceAdd, Nat.reduceSub, Nat.reduceMul, Int.reduceLT, Int.reduceLE, Int.reduceEq, Int.reduceToNat, Int.reduceAdd, Int.reduceSub, Int.reduceMul, reduceCtorEq, ↓reduceIte], by simp only [↓gaW, ↓gaV, ↓gaC, ↓gaN, gaP, Nat.reduceEqDiff, Nat.reduceLeDiff, Nat.reduceAdd, Nat.reduceSub, Nat.reduceMul, Int.reduceLT, Int.reduceLE, Int.reduceEq, Int.reduceToNat, Int.reduceAdd, Int.reduceSub, Int.reduceMul, reduceCtorEq, ↓reduceIte], by simp only [↓gaW, ↓gaV, ↓gaC, ↓gaN, gaP, Nat.reduceEqDiff, Nat.reduceLeDiff, Nat.reduceAdd, Nat.reduceSub, Nat.reduceMul, Int.reduceLT, Int.reduceLE, Int.reduceEq, Int.reduceToNat, Int.reduceAdd, Int.reduceSub, Int.reduceMul, reduceCtorEq, ↓reduceIte], by simp only [↓gaW, ↓gaV, ↓gaC, ↓gaN, gaP, Nat.reduceEqDiff, Nat.reduceLeDiff, Nat.reduceAdd, Nat.reduceSub, Nat.reduceMul, Int.reduceLT, Int.reduceLE, Int.reduceEq, Int.reduceToNat, Int.reduceAdd, Int.reduceSub, Int.reduceMul, reduceCtorEq, ↓reduceIte], by simp only [↓gaW, ↓gaV, ↓gaC, ↓gaN, gaP, Nat.reduceEqDiff, Nat.reduceLeDiff, Nat.reduceAdd, Nat.reduceSub, Nat.reduceMul, Int.reduceLT, Int.reduceLE, Int.reduceEq, Int.reduceToNat, Int.reduceAdd, Int.reduceSub, Int.reduceMul, reduceCtorEq, ↓reduceIte], rfl, by omega, hF2, by simp, ⟨ivs, List.replicate 64 0, hg1, .new⟩, Own.nil⟩ ?_
  rintro j f m ⟨i, x, g, Q, all, rfl, hi, f0, f3, f4, f5, f6, rfl, hx, hF, hall, hgh, hgr⟩
  by_cases hlt : (i : Int) < (n : Int)
  · obtain ⟨a, ce, ro, rfl, a1, a2, a3, a4⟩ := hA.2.2 (by omega)
    obtain ⟨B, m', d, b1, b2, b3⟩ := a4 i (by omega)
    have ga := (hF _ a1).trans a2
    obtain ⟨p, hp⟩ : ∃ p, ls.getD i [] = p := ⟨_, rfl⟩
    rw [hp] at b3
    have hpl : p.length = m' := by simpa using b3.len
    by_cases z2 : (300 : Int) < (m' : Int)
    · simp only [↓gaW, ↓gaV, ↓gaC, ↓gaN, gaP, Nat.reduceEqDiff, Nat.reduceLeDiff, Nat.reduceAdd, Nat.reduceSub, Nat.reduceMul, Int.reduceLT, Int.reduceLE, Int.reduceEq, Int.reduceToNat, Int.reduceAdd, Int.reduceSub, Int.reduceMul, reduceCtorEq, ↓reduceIte, gaE, implies_true, Nat.le_refl, Int.sub_zero, Nat.sub_zero, Int.le_refl, true_or, or_true, f0, f3, f6, hlt, decide_true, ga, b1, Int.toNat_natCast, Nat.mul_one, z2, loopK_r]
      repeat refine And.intro (by first | omega | (simp; done) | (simp; omega) | exact all1 rfl) ?_
      first | exact hF | exact ⟨hF, trivial⟩ | trivial
    have hne : 0 < m' → ∀ a, B = some a → a.block ≠ n1 := fun h0 a ha => by have := hlow b3 h0 a ha; omega
    simp only [↓gaW, ↓gaV, ↓gaC, ↓gaN, gaP, Nat.reduceEqDiff, Nat.reduceLeDiff, Nat.reduceAdd, Nat.reduceSub, Nat.reduceMul, Int.reduceLT, Int.reduceLE, Int.reduceEq, Int.reduceToNat, Int.reduceAdd, Int.reduceSub, Int.reduceMul, reduceCtorEq, ↓reduceIte, f0, f3, f4, f6, hlt, decide_true, ga, b1, Int.toNat_natCast, Nat.mul_one, z2, decide_false]
    repeat refine And.intro (by first | omega | (simp; done) | (simp; omega) | exact all1 rfl) ?_
    have hn40 : n ≤ 40 := by omega
    refine callW_of (ct_Write (q := n1) (by omega) hgh (b3.keep (by omega) hF) b2 hne (by omega)) (fun v x4 g4 l4 k4 hC => ?_) (by omega) (by omega)
    have hF4 : ∀ q, q < nx → g4 q = gt q := fun q hq => by rw [k4 q (by omega) (by omega), hF q hq]
    have ga4 := (hF4 _ a1).trans a2
    have hgr4 := hgr.keepH l4 (fun q h1 h2 => k4 q h2 (by omega))
    have hrow : ∀ b, rowOf ⟨x4, b, g4⟩ B m' = some (p.map u8V) := fun b => (b3.keep (by omega) hF4).rowOf
    simp only [↓gaW, ↓gaV, ↓gaC, ↓gaN, gaP, Nat.reduceEqDiff, Nat.reduceLeDiff, Nat.reduceAdd, Nat.reduceSub, Nat.reduceMul, Int.reduceLT, Int.reduceLE, Int.reduceEq, Int.reduceToNat, Int.reduceAdd, Int.reduceSub, Int.reduceMul, reduceCtorEq, ↓reduceIte, f0, f5, f6, ga4, b1, Int.toNat_natCast, Nat.mul_one, hrow]
    repeat refine And.intro (by first | omega | (simp; done) | (simp; omega) | exact all1 rfl) ?_
    refine own_app (k := m') hgr4 (by omega) (by omega) (by omega) (by simp [hpl]) (all_u8 _) (by omega) (by omega) fun Q5 x5 g5 l5 k5 ho5 => ?_
    have hF5 : ∀ q, q < nx → g5 q = gt q := fun q hq => by rw [k5 q (by omega), hF4 q hq]
    have hC5 : HashB (all ++ p) (g5 n1) := by rw [k5 n1 (by omega)]; exact hC
    rw [← List.map_append] at ho5
    have hal : (all ++ p).length = all.length + m' := by simp [hpl]
    obtain ⟨all', hall'⟩ : ∃ l, all ++ p = l := ⟨_, rfl⟩
    rw [hall'] at ho5 hC5 hal
    rw [← hal] at ho5 ⊢
    have hsl := sha_len all'
    have hl5 : all'.length < 20000 := by omega
    simp only [↓gaW, ↓gaV, ↓gaC, ↓gaN, gaP, Nat.reduceEqDiff, Nat.reduceLeDiff, Nat.reduceAdd, Nat.reduceSub, Nat.reduceMul, Int.reduceLT, Int.reduceLE, Int.reduceEq, Int.reduceToNat, Int.reduceAdd, Int.reduceSub, Int.reduceMul, reduceCtorEq, ↓reduceIte, f4]
    refine callK_of (ct_Sum (q := n1) (by omega) hC5 (by omega)) (fun v x6 g6 l6 k6 hC => ?_) (by omega)
    subst hC
    have ho6 := ho5.keep l6 k6
    have hr6 := ho6.row
    rw [Nat.mul_one] at hr6
    simp only [↓gaW, ↓gaV, ↓gaC, ↓gaN, gaP, Nat.reduceEqDiff, Nat.reduceLeDiff, Nat.reduceAdd, Nat.reduceSub, Nat.reduceMul, Int.reduceLT, Int.reduceLE, Int.reduceEq, Int.reduceToNat, Int.reduceAdd, Int.reduceSub, Int.reduceMul, reduceCtorEq, ↓reduceIte]
    refine callK_of (ct_Of hr6 (Nat.le_refl _) (by omega)) (fun v x7 g7 l7 k7 hC => ?_) (by omega)
    subst hC
    have ho7 := ho6.keep l7 k7
    have hC7 : HashB all' (g7 n1) := by rw [k7 n1 (by omega), k6 n1 (by omega)]; exact hC5
    simp only [↓gaW, ↓gaV, ↓gaC, ↓gaN, gaP, Nat.reduceEqDiff, Nat.reduceLeDiff, Nat.reduceAdd, Nat.reduceSub, Nat.reduceMul, Int.reduceLT, Int.reduceLE, Int.reduceEq, Int.reduceToNat, Int.reduceAdd, Int.reduceSub, Int.reduceMul, reduceCtorEq, ↓reduceIte, f4, o_eqA, ne32 hsl hsl, decide_true, Bool.not_true]
    refine callK_of (ct_Sum (q := n1) (by omega) hC7 (by omega)) (fun v x8 g8 l8 k8 hC => ?_) (by omega)
    subst hC
    have ho8 := ho7.keep l8 k8
    have hC8 : HashB all' (g8 n1) := by rw [k8 n1 (by omega)]; exact hC7
    simp only [↓gaW, ↓gaV, ↓gaC, ↓gaN, gaP, Nat.reduceEqDiff, Nat.reduceLeDiff, Nat.reduceAdd, Nat.reduceSub, Nat.reduceMul, Int.reduceLT, Int.reduceLE, Int.reduceEq, Int.reduceToNat, Int.reduceAdd, Int.reduceSub, Int.reduceMul, reduceCtorEq, ↓reduceIte, f4]
    refine callK_of (ct_Sum (q := n1) (by omega) hC8 (by omega)) (fun v x9 g9 l9 k9 hC => ?_) (by omega)
    subst hC
    have ho9 := ho8.keep l9 k9
    have hC9 : HashB all' (g9 n1) := by rw [k9 n1 (by omega)]; exact hC8
    have q1 : (i : Int) + 1 = ((i + 1 : Nat) : Int) := by omega
    simp only [↓gaW, ↓gaV, ↓gaC, ↓gaN, gaP, Nat.reduceEqDiff, Nat.reduceLeDiff, Nat.reduceAdd, Nat.reduceSub, Nat.reduceMul, Int.reduceLT, Int.reduceLE, Int.reduceEq, Int.reduceToNat, Int.reduceAdd, Int.reduceSub, Int.reduceMul, reduceCtorEq, ↓reduceIte, f6, q1, i64_w ((i + 1 : Nat) : Int) (by omega), o_eqA, ne32 hsl hsl, decide_true, Bool.not_true, loopK_n]
    exact ⟨n - (i + 1), by omega, i + 1, x9, g9, Q5, all', rfl, by omega, f0, f3, f4, rfl, rfl, rfl, by omega, fun q hq => by rw [k9 q (by omega), k8 q (by omega), k7 q (by omega), k6 q (by omega), hF5 q hq], by omega, hC9, ho9⟩
  · have hl5 : all.length < 20000 := by omega
    have hsl := sha_len all
    simp only [↓gaW, ↓gaV, ↓gaC, ↓gaN, gaP, Nat.reduceEqDiff, Nat.reduceLeDiff, Nat.reduceAdd, Nat.reduceSub, Nat.reduceMul, Int.reduceLT, Int.reduceLE, Int.reduceEq, Int.reduceToNat, Int.reduceAdd, Int.reduceSub, Int.reduceMul, reduceCtorEq, ↓reduceIte, f0, f3, f4, f6, hlt, decide_false, loopK_e]
    refine callK_of (ct_Sum (q := n1) (by omega) hgh (by omega)) (fun v x6 g6 l6 k6 hC => ?_) (by omega)
    subst hC
    have hr6 := (hgr.keep l6 k6).row
    rw [Nat.mul_one] at hr6
    simp only [↓gaW, ↓gaV, ↓gaC, ↓gaN, gaP, Nat.reduceEqDiff, Nat.reduceLeDiff, Nat.reduceAdd, Nat.reduceSub, Nat.reduceMul, Int.reduceLT, Int.reduceLE, Int.reduceEq, Int.reduceToNat, Int.reduceAdd, Int.reduceSub, Int.reduceMul, reduceCtorEq, ↓reduceIte, f5]
    refine callK_of (ct_Of hr6 (Nat.le_refl _) (by omega)) (fun v x7 g7 l7 k7 hC => ?_) (by omega)
    subst hC
    simp only [↓gaW, ↓gaV, ↓gaC, ↓gaN, gaP, Nat.reduceEqDiff, Nat.reduceLeDiff, Nat.reduceAdd, Nat.reduceSub, Nat.reduceMul, Int.reduceLT, Int.reduceLE, Int.reduceEq, Int.reduceToNat, Int.reduceAdd, Int.reduceSub, Int.reduceMul, reduceCtorEq, ↓reduceIte, gaE, implies_true, Nat.le_refl, Int.sub_zero, Nat.sub_zero, Int.le_refl, true_or, or_true, o_eqA, eq32 hsl hsl, decide_true]
    exact ⟨by omega, fun q hq => by rw [k7 q (by omega), k6 q (by omega), hF q hq]⟩
end
end Go.Ga
