/- Words and contracts of functions for the statement's proof. No condition. -/
import Derived.Test.YtgkineipmhhacaaDoorA5
set_option linter.all false

/- The numbers of an element. -/
namespace Go.Ga
open Go Go.Proofs
set_option linter.unusedSimpArgs false
set_option linter.unusedVariables false
set_option maxRecDepth 100000
attribute [local irreducible] appendK

theorem u32M (n : Nat) : Value.int .u32 (IntKind.u32.wrap (n : Int)) = u32V (UInt32.ofNat n) :=
  congrArg (Value.int .u32) (by rw [u32_w, UInt32.toNat_ofNat']; omega)
theorem Own.off {nx b x : Nat} {g g' : Nat → Option Blk} {e : Nat} {A : Option Addr} {n : Nat} {l : List Value} (h : Own nx b x g e A n l) (h2 : ∀ i, nx ≤ i → g' i = g i) : Own nx b x g' e A n l := by
  refine ⟨h.1, ?_⟩
  rcases h.2 with h | ⟨q, e1, e2, e3, e4, e5⟩
  · exact .inl h
  · exact .inr ⟨q, e1, e2, e3, e4, by rw [h2 q e2, e5]⟩

section
variable {nx : Nat} {gt : Nat → Option Blk}

set_option maxHeartbeats 1000000 in
theorem ct_Arcs {x : Fo.El} {B : Option Addr} {m d : Nat} {A : Option Addr} {n c : Nat} {ks : List Value} (h : NdR nx gt x B m d A n c ks) (hxw : x.f.ws < 900000) :
    Ct Tryd.prog 30 [nodeV x.t B m d A n c] nx gt fun v x' g => UErr x' g v (arcsR x) := by
  refine Ct.of hmx r_scalar_Arcs (by simp [c_scalar_Arcs]) fun b hb => ?_
  have hF : ∀ q, q < nx → upd gt nx (some (.cells (nodeL x.t B m d A n c) false)) q = gt q := fun q hq => by simp only [upd_e]; rw [if_neg (by omega)]
  have hb0 : upd gt nx (some (.cells (nodeL x.t B m d A n c) false)) nx = some (.cells (nodeL x.t B m d A n c) false) := by simp only [upd_e, if_true]
  have xw : x.f.ws = 1 + x.b.length + x.k.ws := by simp only [Fo.El.f, Fo.ws]; omega
  have lw := Fo.len_ws x.k
  have hl := h.blen
  have hkl := h.len
  simp only [c_scalar_Arcs, ↓gaW, ↓gaV, ↓gaC, ↓gaN, gaP, Nat.reduceEqDiff, Nat.reduceLeDiff, Nat.reduceAdd, Nat.reduceSub, Nat.reduceMul, Int.reduceLT, Int.reduceLE, Int.reduceEq, Int.reduceToNat, Int.reduceAdd, Int.reduceSub, Int.reduceMul, reduceCtorEq, ↓reduceIte, List.getD_cons_zero, List.getD_cons_succ, fillL, splice, List.take_zero, List.drop_zero, List.drop_succ_cons, List.take_succ_cons, List.drop_nil, List.take_nil, gaU]
  generalize upd gt nx (some (.cells (nodeL x.t B m d A n c) false)) = g0 at *
  repeat refine And.intro (by omega) ?_
  have h0 := h.keep (x' := nx + 1) (by omega) hF
  refine callK_of (ct_numbers h0.body h.md (by omega)) (fun v x1 g1 l1 k1 hC => ?_) (by omega)
  obtain ⟨u, rfl, A1, n1, rfl, hn1, r1⟩ := hC
  have F1 : ∀ p, p < nx → g1 p = gt p := fun p hp => by rw [k1 p (by omega), hF p hp]
  have hb1 : g1 nx = some (.cells (nodeL x.t B m d A n c) false) := by rw [k1 nx (by omega), hb0]
  have hlt1 := numsR_lt (b := x.b)
  have hle1 := numsR_len (b := x.b)
  generalize hR : numsR x.b = R at *
  obtain ⟨L, is0⟩ := R
  simp only at *
  have hZ : ∀ p, p < x1 → upd g1 x1 (some (.cells [Value.slice none 0 0] false)) p = g1 p := fun p hp => by rw [upd_e, if_neg (by omega)]
  have hz : upd g1 x1 (some (.cells [Value.slice none 0 0] false)) x1 = some (.cells [Value.slice none 0 0] false) := by rw [upd_e, if_pos rfl]
  simp only [↓gaW, ↓gaV, ↓gaC, ↓gaN, gaP, Nat.reduceEqDiff, Nat.reduceLeDiff, Nat.reduceAdd, Nat.reduceSub, Nat.reduceMul, Int.reduceLT, Int.reduceLE, Int.reduceEq, Int.reduceToNat, Int.reduceAdd, Int.reduceSub, Int.reduceMul, reduceCtorEq, ↓reduceIte, List.getD_cons_zero, List.getD_cons_succ, fillL, splice, List.take_zero, List.drop_zero, List.drop_succ_cons, List.take_succ_cons, List.drop_nil, List.take_nil]
  generalize upd g1 x1 (some (.cells [Value.slice none 0 0] false)) = g2 at *
  repeat refine And.intro (by omega) ?_
  refine loop_of (fun j f mm => ∃ (i x2 : Nat) (g : Nat → Option Blk) (A' : Option Addr) (o : List UInt32), j = n1 - i ∧ i ≤ n1 ∧ o = ao (L.take i) ∧ f 1 = .pointer (some ⟨nx, 0, none⟩) ∧ f 5 = .bool (is0 && okA (L.take i)) ∧ f 6 = .pointer (some ⟨x1, 0, none⟩) ∧ f 16 = .slice A1 n1 n1 ∧ f 17 = .int .i64 (n1 : Nat) ∧ f 18 = .int .i64 (i : Nat) ∧
    mm = ⟨x2, b, g⟩ ∧ x1 + 1 ≤ x2 ∧ (∀ p, p < x1 → g p = g1 p) ∧ g x1 = some (.cells [.slice A' o.length o.length] false) ∧ Own (x1 + 1) b x2 g 1 A' o.length (o.map u32V)) n1
    ⟨0, x1 + 1, g2, none, [], by omega, by omega, rfl, (by first | (simp only [↓gaW, ↓gaV, ↓gaC, ↓gaN, gaP, Nat.reduceEqDiff, Nat.reduceLeDiff, Nat.reduceAdd, Nat.reduceSub, Nat.reduceMul, Int.reduceLT, Int.reduceLE, Int.reduceEq, Int.reduceToNat, Int.reduceAdd, Int.reduceSub, Int.reduceMul, reduceCtorEq, ↓reduceIte]; done) | (simp only [↓gaW, ↓gaV, ↓gaC, ↓gaN, gaP, Nat.reduceEqDiff, Nat.reduceLeDiff, Nat.reduceAdd, Nat.reduceSub, Nat.reduceMul, Int.reduceLT, Int.reduceLE, Int.reduceEq, Int.reduceToNat, Int.reduceAdd, Int.reduceSub, Int.reduceMul, reduceCtorEq, ↓reduceIte]; rfl)), (by simp only [↓gaW, ↓gaV, ↓gaC, ↓gaN, gaP, Nat.reduceEqDiff, Nat.reduceLeDiff, Nat.reduceAdd, Nat.reduceSub, Nat.reduceMul, Int.reduceLT, Int.reduceLE, Int.reduceEq, Int.reduceToNat, Int.reduceAdd, Int.reduceSub, Int.reduceMul, reduceCtorEq, ↓reduceIte, okA, List.take_zero, Bool.and_true]), (by first | (simp only [↓gaW, ↓gaV, ↓gaC, ↓gaN, gaP, Nat.reduceEqDiff, Nat.reduceLeDiff, Nat.reduceAdd, Nat.reduceSub, Nat.reduceMul, Int.reduceLT, Int.reduceLE, Int.reduceEq, Int.reduceToNat, Int.reduceAdd, Int.reduceSub, Int.reduceMul, reduceCtorEq, ↓reduceIte]; done) | (simp only [↓gaW, ↓gaV, ↓gaC, ↓gaN, gaP, Nat.reduceEqDiff, Nat.reduceLeDiff, Nat.reduceAdd, Nat.reduceSub, Nat.reduceMul, Int.reduceLT, Int.reduceLE, Int.reduceEq, Int.reduceToNat, Int.reduceAdd, Int.reduceSub, Int.reduceMul, reduceCtorEq, ↓reduceIte]; rfl)), (by first | (simp only [↓gaW, ↓gaV, ↓gaC, ↓gaN, gaP, Nat.reduceEqDiff, Nat.reduceLeDiff, Nat.reduceAdd, Nat.reduceSub, Nat.reduceMul, Int.reduceLT, Int.reduceLE, Int.reduceEq, Int.reduceToNat, Int.reduceAdd, Int.reduceSub, Int.reduceMul, reduceCtorEq, ↓reduceIte]; done) | (simp only [↓gaW, ↓gaV, ↓gaC, ↓gaN, gaP, Nat.reduceEqDiff, Nat.reduceLeDiff, Nat.reduceAdd, Nat.reduceSub, Nat.reduceMul, Int.reduceLT, Int.reduceLE, Int.reduceEq, Int.reduceToNat, Int.reduceAdd, Int.reduceSub, Int.reduceMul, reduceCtorEq, ↓reduceIte]; rfl)), (by first | (simp only [↓gaW, ↓gaV, ↓gaC, ↓gaN, gaP, Nat.reduceEqDiff, Nat.reduceLeDiff, Nat.reduceAdd, Nat.reduceSub, Nat.reduceMul, Int.reduceLT, Int.reduceLE, Int.reduceEq, Int.reduceToNat, Int.reduceAdd, Int.reduceSub, Int.reduceMul, reduceCtorEq, ↓reduceIte]; done) | (simp only [↓gaW, ↓gaV, ↓gaC, ↓gaN, gaP, Nat.reduceEqDiff, Nat.reduceLeDiff, Nat.reduceAdd, Nat.reduceSub, Nat.reduceMul, Int.reduceLT, Int.reduceLE, Int.reduceEq, Int.reduceToNat, Int.reduceAdd, Int.reduceSub, Int.reduceMul, reduceCtorEq, ↓reduceIte]; rfl)), (by first | (simp only [↓gaW, ↓gaV, ↓gaC, ↓gaN, gaP, Nat.reduceEqDiff, Nat.reduceLeDiff, Nat.reduceAdd, Nat.reduceSub, Nat.reduceMul, Int.reduceLT, Int.reduceLE, Int.reduceEq, Int.reduceToNat, Int.reduceAdd, Int.reduceSub, Int.reduceMul, reduceCtorEq, ↓reduceIte]; done) | (simp only [↓gaW, ↓gaV, ↓gaC, ↓gaN, gaP, Nat.reduceEqDiff, Nat.reduceLeDiff, Nat.reduceAdd, Nat.reduceSub, Nat.reduceMul, Int.reduceLT, Int.reduceLE, Int.reduceEq, Int.reduceToNat, Int.reduceAdd, Int.reduceSub, Int.reduceMul, reduceCtorEq, ↓reduceIte]; rfl)), rfl, by omega, hZ, hz, Own.nil⟩ ?_
  rintro j f mm ⟨i, x2, g3, A3, o, hj, hi, ho, f1, f5, f6, f16, f17, f18, rfl, hx2, F3, hbx, hO⟩
  by_cases hlt : (i : Int) < (n1 : Int)
  · obtain ⟨a, cl, ro, rfl, r2, r3, r4, r5⟩ := r1.cells (by omega)
    obtain ⟨y, hy⟩ : ∃ y, y = L.getD i 0 := ⟨_, rfl⟩
    have hyl : L[i]? = some y := by rw [hy, List.getD_eq_getElem?_getD, List.getElem?_eq_getElem (by omega)]; rfl
    have hy40 : y < 1099511627776 := hlt1 y (List.mem_of_getElem? hyl)
    have c0 : cl.getD (a.off + i) undef = .int .u64 (y : Nat) := by
      rw [r5 i (by omega), List.getD_eq_getElem?_getD, List.getElem?_map, hyl]; rfl
    have h3q : g3 a.block = some (.cells cl ro) := by rw [F3 _ r2, r3]
    have htk : L.take (i + 1) = L.take i ++ [y] := by rw [List.take_add_one, hyl]; rfl
    have hol : o.length ≤ i + 1 := by
      rw [ho]; have := ao_len (L := L.take i); rw [List.length_take] at this; omega
    have i2 : IntKind.i64.wrap ((i : Int) + 1) = ((i + 1 : Nat) : Int) := by rw [i64_w _ (by omega)]; omega
    obtain ⟨e, he⟩ : ∃ e, e = (is0 && okA (L.take i)) := ⟨_, rfl⟩
    rw [← he] at f5
    by_cases hi0 : (i : Int) = 0
    · have hi00 : i = 0 := by omega
      have hi1 : ((i : Int) = 0) = True := eq_true hi0
      have ho0 : o = [] := by rw [ho, hi00]; rfl
      obtain ⟨q, hq⟩ : ∃ q, q = min (y / 40) 2 := ⟨_, rfl⟩
      have j1 : (if (2 : Int) < IntKind.u64.wrap ((y : Int).tdiv 40) then (2 : Int) else IntKind.u64.wrap ((y : Int).tdiv 40)) = (q : Nat) := by
        rw [Int.tdiv_eq_ediv_of_nonneg (by omega), u64_w, hq]
        split <;> omega
      have j2 : Value.int .u32 (IntKind.u32.wrap (q : Int)) = u32V (UInt32.ofNat q) := u32_of q (by omega)
      have j3 : IntKind.u64.wrap ((y : Int) - IntKind.u64.wrap ((q : Int) * 40)) = ((y - 40 * q : Nat) : Int) := by simp only [u64_w]; omega
      obtain ⟨z, hzz⟩ : ∃ z, z = y - 40 * q := ⟨_, rfl⟩
      rw [← hzz] at j3
      have j4 : Value.int .u32 (IntKind.u32.wrap (z : Int)) = u32V (UInt32.ofNat z) := u32M z
      obtain ⟨w, hw⟩ : ∃ w, w = UInt32.ofNat q := ⟨_, rfl⟩
      obtain ⟨w2, hw2⟩ : ∃ w2, w2 = UInt32.ofNat z := ⟨_, rfl⟩
      rw [← hw] at j2
      rw [← hw2] at j4
      have hao : ao (L.take (i + 1)) = o ++ [w] ++ [w2] := by rw [htk, hi00, ho0, hw, hw2, hzz, hq]; rfl
      have hokA : okA (L.take (i + 1)) = decide (z < 4294967296) := by rw [htk, hi00, hzz, hq]; simp [okA]
      have he2 : e = is0 := by rw [he, hi00]; simp [okA]
      simp only [↓gaW, ↓gaV, ↓gaC, ↓gaN, gaP, Nat.reduceEqDiff, Nat.reduceLeDiff, Nat.reduceAdd, Nat.reduceSub, Nat.reduceMul, Int.reduceLT, Int.reduceLE, Int.reduceEq, Int.reduceToNat, Int.reduceAdd, Int.reduceSub, Int.reduceMul, reduceCtorEq, ↓reduceIte, List.getD_cons_zero, List.getD_cons_succ, fillL, splice, List.take_zero, List.drop_zero, List.drop_succ_cons, List.take_succ_cons, List.drop_nil, List.take_nil, f1, f5, f6, f16, f17, f18, hlt, decide_true, h3q, c0, hi1, j1, j2, hbx, Bool.false_eq_true, if_false, gaU]
      repeat refine And.intro (by omega) ?_
      have hZw : ∀ p, p < x2 → upd g3 x2 (some (.cells [u32V w] false)) p = g3 p := fun p hp => by rw [upd_e, if_neg (by omega)]
      have erw : rowOf ⟨x2 + 1, b, upd g3 x2 (some (.cells [u32V w] false))⟩ (some ⟨x2, 0, none⟩) 1 = some [u32V w] := row_new (l := [u32V w]) (by simp)
      rw [erw]
      simp only [asO_e]
      refine own_append (nx := x1 + 1) (k := 1) (hO.keep (Nat.le_succ _) hZw) (by omega) (by omega) (by omega) (by omega) rfl (all1 rfl) (by omega) (by omega) fun gw hgw how => ?_
      have hbgw : gw x1 = some (.cells [.slice A3 o.length o.length] false) := by rw [hgw x1 (by omega), hZw x1 (by omega), hbx]
      simp only [↓gaW, ↓gaV, ↓gaC, ↓gaN, gaP, Nat.reduceEqDiff, Nat.reduceLeDiff, Nat.reduceAdd, Nat.reduceSub, Nat.reduceMul, Int.reduceLT, Int.reduceLE, Int.reduceEq, Int.reduceToNat, Int.reduceAdd, Int.reduceSub, Int.reduceMul, reduceCtorEq, ↓reduceIte, List.getD_cons_zero, List.getD_cons_succ, fillL, splice, List.take_zero, List.drop_zero, List.drop_succ_cons, List.take_succ_cons, List.drop_nil, List.take_nil, gaU, hbgw, f5, f6, j3]
      repeat refine And.intro (by omega) ?_
      refine And.intro (all1 rfl) ?_
      repeat refine And.intro (by omega) ?_
      have ho2w : Own (x1 + 1) b (x2 + 1 + 1) gw 1 (some ⟨x2 + 1, 0, some 1⟩) (o ++ [w]).length ((o ++ [w]).map u32V) := by
        rw [List.length_append, List.map_append]; exact how
      have elnw : o.length + 1 = (o ++ [w]).length := by simp
      rw [elnw]
      obtain ⟨g4, egw⟩ : ∃ g', g' = upd gw x1 (some (.cells [Value.slice (some ⟨x2 + 1, 0, some 1⟩) (o ++ [w]).length (o ++ [w]).length] false)) := ⟨_, rfl⟩
      have hbx4 : g4 x1 = some (.cells [Value.slice (some ⟨x2 + 1, 0, some 1⟩) (o ++ [w]).length (o ++ [w]).length] false) := by rw [egw, upd_e, if_pos rfl]
      have F4 : ∀ p, p < x1 → g4 p = g1 p := fun p hp => by rw [egw, upd_e, if_neg (by omega), hgw p (by omega), hZw p (by omega), F3 p hp]
      have hO4 : Own (x1 + 1) b (x2 + 1 + 1) g4 1 (some ⟨x2 + 1, 0, some 1⟩) (o ++ [w]).length ((o ++ [w]).map u32V) := ho2w.off fun p hp => by rw [egw, upd_e, if_neg (by omega)]
      obtain ⟨x4, exw⟩ : ∃ y, y = x2 + 1 + 1 := ⟨_, rfl⟩
      rw [← exw] at hO4 ⊢
      try rw [← egw]
      clear egw
      cases e with
      | true =>
        simp only [↓gaW, ↓gaV, ↓gaC, ↓gaN, gaP, Nat.reduceEqDiff, Nat.reduceLeDiff, Nat.reduceAdd, Nat.reduceSub, Nat.reduceMul, Int.reduceLT, Int.reduceLE, Int.reduceEq, Int.reduceToNat, Int.reduceAdd, Int.reduceSub, Int.reduceMul, reduceCtorEq, ↓reduceIte, List.getD_cons_zero, List.getD_cons_succ, fillL, splice, List.take_zero, List.drop_zero, List.drop_succ_cons, List.take_succ_cons, List.drop_nil, List.take_nil, hbx4, j4, f6, shr32, gaU]
        repeat refine And.intro (by omega) ?_
        have hZw2 : ∀ p, p < x4 → upd g4 x4 (some (.cells [u32V w2] false)) p = g4 p := fun p hp => by rw [upd_e, if_neg (by omega)]
        have erw2 : rowOf ⟨x4 + 1, b, upd g4 x4 (some (.cells [u32V w2] false))⟩ (some ⟨x4, 0, none⟩) 1 = some [u32V w2] := row_new (l := [u32V w2]) (by simp)
        rw [erw2]
        simp only [asO_e]
        refine own_append (nx := x1 + 1) (k := 1) (hO4.keep (Nat.le_succ _) hZw2) (by omega) (by omega) (by omega) (by omega) rfl (all1 rfl) (by omega) (by omega) fun gw2 hgw2 how2 => ?_
        have hbgw2 : gw2 x1 = some (.cells [.slice (some ⟨x2 + 1, 0, some 1⟩) (o ++ [w]).length (o ++ [w]).length] false) := by rw [hgw2 x1 (by omega), hZw2 x1 (by omega), hbx4]
        simp only [↓gaW, ↓gaV, ↓gaC, ↓gaN, gaP, Nat.reduceEqDiff, Nat.reduceLeDiff, Nat.reduceAdd, Nat.reduceSub, Nat.reduceMul, Int.reduceLT, Int.reduceLE, Int.reduceEq, Int.reduceToNat, Int.reduceAdd, Int.reduceSub, Int.reduceMul, reduceCtorEq, ↓reduceIte, List.getD_cons_zero, List.getD_cons_succ, fillL, splice, List.take_zero, List.drop_zero, List.drop_succ_cons, List.take_succ_cons, List.drop_nil, List.take_nil, gaU, hbgw2, f18, i2, loopK_n]
        repeat refine And.intro (by omega) ?_
        refine And.intro (all1 rfl) ?_
        repeat refine And.intro (by omega) ?_
        have ho2w2 : Own (x1 + 1) b (x4 + 1 + 1) gw2 1 (some ⟨x4 + 1, 0, some 1⟩) ((o ++ [w]) ++ [w2]).length (((o ++ [w]) ++ [w2]).map u32V) := by
          rw [List.length_append, List.map_append]; exact how2
        have elnw2 : (o ++ [w]).length + 1 = ((o ++ [w]) ++ [w2]).length := by simp
        rw [elnw2]
        obtain ⟨g6, egw2⟩ : ∃ g', g' = upd gw2 x1 (some (.cells [Value.slice (some ⟨x4 + 1, 0, some 1⟩) ((o ++ [w]) ++ [w2]).length ((o ++ [w]) ++ [w2]).length] false)) := ⟨_, rfl⟩
        have hbx6 : g6 x1 = some (.cells [Value.slice (some ⟨x4 + 1, 0, some 1⟩) ((o ++ [w]) ++ [w2]).length ((o ++ [w]) ++ [w2]).length] false) := by rw [egw2, upd_e, if_pos rfl]
        have F6 : ∀ p, p < x1 → g6 p = g1 p := fun p hp => by rw [egw2, upd_e, if_neg (by omega), hgw2 p (by omega), hZw2 p (by omega), F4 p hp]
        have hO6 : Own (x1 + 1) b (x4 + 1 + 1) g6 1 (some ⟨x4 + 1, 0, some 1⟩) ((o ++ [w]) ++ [w2]).length (((o ++ [w]) ++ [w2]).map u32V) := ho2w2.off fun p hp => by rw [egw2, upd_e, if_neg (by omega)]
        obtain ⟨x6, exw2⟩ : ∃ y, y = x4 + 1 + 1 := ⟨_, rfl⟩
        rw [← exw2] at hO6 ⊢
        try rw [← egw2]
        clear egw2
        refine ⟨n1 - (i + 1), by omega, i + 1, x6, g6, some ⟨x4 + 1, 0, some 1⟩, o ++ [w] ++ [w2], rfl, by omega, hao.symm, f1, by rw [hokA, ← he2, Bool.true_and]; exact congrArg Value.bool (decide_eq_decide.2 (by omega)), f6, f16, f17, rfl, rfl, by omega, F6, hbx6, hO6⟩
      | false =>
        simp only [↓gaW, ↓gaV, ↓gaC, ↓gaN, gaP, Nat.reduceEqDiff, Nat.reduceLeDiff, Nat.reduceAdd, Nat.reduceSub, Nat.reduceMul, Int.reduceLT, Int.reduceLE, Int.reduceEq, Int.reduceToNat, Int.reduceAdd, Int.reduceSub, Int.reduceMul, reduceCtorEq, ↓reduceIte, List.getD_cons_zero, List.getD_cons_succ, fillL, splice, List.take_zero, List.drop_zero, List.drop_succ_cons, List.take_succ_cons, List.drop_nil, List.take_nil, hbx4, j4, f6, gaU]
        repeat refine And.intro (by omega) ?_
        have hZw2 : ∀ p, p < x4 → upd g4 x4 (some (.cells [u32V w2] false)) p = g4 p := fun p hp => by rw [upd_e, if_neg (by omega)]
        have erw2 : rowOf ⟨x4 + 1, b, upd g4 x4 (some (.cells [u32V w2] false))⟩ (some ⟨x4, 0, none⟩) 1 = some [u32V w2] := row_new (l := [u32V w2]) (by simp)
        rw [erw2]
        simp only [asO_e]
        refine own_append (nx := x1 + 1) (k := 1) (hO4.keep (Nat.le_succ _) hZw2) (by omega) (by omega) (by omega) (by omega) rfl (all1 rfl) (by omega) (by omega) fun gw2 hgw2 how2 => ?_
        have hbgw2 : gw2 x1 = some (.cells [.slice (some ⟨x2 + 1, 0, some 1⟩) (o ++ [w]).length (o ++ [w]).length] false) := by rw [hgw2 x1 (by omega), hZw2 x1 (by omega), hbx4]
        simp only [↓gaW, ↓gaV, ↓gaC, ↓gaN, gaP, Nat.reduceEqDiff, Nat.reduceLeDiff, Nat.reduceAdd, Nat.reduceSub, Nat.reduceMul, Int.reduceLT, Int.reduceLE, Int.reduceEq, Int.reduceToNat, Int.reduceAdd, Int.reduceSub, Int.reduceMul, reduceCtorEq, ↓reduceIte, List.getD_cons_zero, List.getD_cons_succ, fillL, splice, List.take_zero, List.drop_zero, List.drop_succ_cons, List.take_succ_cons, List.drop_nil, List.take_nil, gaU, hbgw2, f18, i2, loopK_n]
        repeat refine And.intro (by omega) ?_
        refine And.intro (all1 rfl) ?_
        repeat refine And.intro (by omega) ?_
        have ho2w2 : Own (x1 + 1) b (x4 + 1 + 1) gw2 1 (some ⟨x4 + 1, 0, some 1⟩) ((o ++ [w]) ++ [w2]).length (((o ++ [w]) ++ [w2]).map u32V) := by
          rw [List.length_append, List.map_append]; exact how2
        have elnw2 : (o ++ [w]).length + 1 = ((o ++ [w]) ++ [w2]).length := by simp
        rw [elnw2]
        obtain ⟨g6, egw2⟩ : ∃ g', g' = upd gw2 x1 (some (.cells [Value.slice (some ⟨x4 + 1, 0, some 1⟩) ((o ++ [w]) ++ [w2]).length ((o ++ [w]) ++ [w2]).length] false)) := ⟨_, rfl⟩
        have hbx6 : g6 x1 = some (.cells [Value.slice (some ⟨x4 + 1, 0, some 1⟩) ((o ++ [w]) ++ [w2]).length ((o ++ [w]) ++ [w2]).length] false) := by rw [egw2, upd_e, if_pos rfl]
        have F6 : ∀ p, p < x1 → g6 p = g1 p := fun p hp => by rw [egw2, upd_e, if_neg (by omega), hgw2 p (by omega), hZw2 p (by omega), F4 p hp]
        have hO6 : Own (x1 + 1) b (x4 + 1 + 1) g6 1 (some ⟨x4 + 1, 0, some 1⟩) ((o ++ [w]) ++ [w2]).length (((o ++ [w]) ++ [w2]).map u32V) := ho2w2.off fun p hp => by rw [egw2, upd_e, if_neg (by omega)]
        obtain ⟨x6, exw2⟩ : ∃ y, y = x4 + 1 + 1 := ⟨_, rfl⟩
        rw [← exw2] at hO6 ⊢
        try rw [← egw2]
        clear egw2
        refine ⟨n1 - (i + 1), by omega, i + 1, x6, g6, some ⟨x4 + 1, 0, some 1⟩, o ++ [w] ++ [w2], rfl, by omega, hao.symm, f1, by rw [hokA, ← he2, Bool.false_and], f6, f16, f17, rfl, rfl, by omega, F6, hbx6, hO6⟩
    · have hi1 : ((i : Int) = 0) = False := eq_false hi0
      have hne : L.take i ≠ [] := fun h => by
        have := congrArg List.length h
        rw [List.length_take, List.length_nil] at this; omega
      obtain ⟨w, hw⟩ : ∃ w, w = UInt32.ofNat y := ⟨_, rfl⟩
      have j4 : Value.int .u32 (IntKind.u32.wrap (y : Int)) = u32V w := by rw [hw]; exact u32M y
      have hao : ao (L.take (i + 1)) = o ++ [w] := by rw [htk, ao_snoc hne, ← ho, hw]
      have hokA : okA (L.take (i + 1)) = (okA (L.take i) && decide (y < 4294967296)) := by rw [htk, okA_snoc hne]
      cases e with
      | true =>
        simp only [↓gaW, ↓gaV, ↓gaC, ↓gaN, gaP, Nat.reduceEqDiff, Nat.reduceLeDiff, Nat.reduceAdd, Nat.reduceSub, Nat.reduceMul, Int.reduceLT, Int.reduceLE, Int.reduceEq, Int.reduceToNat, Int.reduceAdd, Int.reduceSub, Int.reduceMul, reduceCtorEq, ↓reduceIte, List.getD_cons_zero, List.getD_cons_succ, fillL, splice, List.take_zero, List.drop_zero, List.drop_succ_cons, List.take_succ_cons, List.drop_nil, List.take_nil, f1, f5, f6, f16, f17, f18, hlt, decide_true, decide_false, h3q, c0, hi1, hbx, j4, shr32, gaU]
        repeat refine And.intro (by omega) ?_
        have hZw : ∀ p, p < x2 → upd g3 x2 (some (.cells [u32V w] false)) p = g3 p := fun p hp => by rw [upd_e, if_neg (by omega)]
        have erw : rowOf ⟨x2 + 1, b, upd g3 x2 (some (.cells [u32V w] false))⟩ (some ⟨x2, 0, none⟩) 1 = some [u32V w] := row_new (l := [u32V w]) (by simp)
        rw [erw]
        simp only [asO_e]
        refine own_append (nx := x1 + 1) (k := 1) (hO.keep (Nat.le_succ _) hZw) (by omega) (by omega) (by omega) (by omega) rfl (all1 rfl) (by omega) (by omega) fun gw hgw how => ?_
        have hbgw : gw x1 = some (.cells [.slice A3 o.length o.length] false) := by rw [hgw x1 (by omega), hZw x1 (by omega), hbx]
        simp only [↓gaW, ↓gaV, ↓gaC, ↓gaN, gaP, Nat.reduceEqDiff, Nat.reduceLeDiff, Nat.reduceAdd, Nat.reduceSub, Nat.reduceMul, Int.reduceLT, Int.reduceLE, Int.reduceEq, Int.reduceToNat, Int.reduceAdd, Int.reduceSub, Int.reduceMul, reduceCtorEq, ↓reduceIte, List.getD_cons_zero, List.getD_cons_succ, fillL, splice, List.take_zero, List.drop_zero, List.drop_succ_cons, List.take_succ_cons, List.drop_nil, List.take_nil, gaU, hbgw, f18, i2, loopK_n]
        repeat refine And.intro (by omega) ?_
        refine And.intro (all1 rfl) ?_
        repeat refine And.intro (by omega) ?_
        have ho2w : Own (x1 + 1) b (x2 + 1 + 1) gw 1 (some ⟨x2 + 1, 0, some 1⟩) (o ++ [w]).length ((o ++ [w]).map u32V) := by
          rw [List.length_append, List.map_append]; exact how
        have elnw : o.length + 1 = (o ++ [w]).length := by simp
        rw [elnw]
        obtain ⟨g4, egw⟩ : ∃ g', g' = upd gw x1 (some (.cells [Value.slice (some ⟨x2 + 1, 0, some 1⟩) (o ++ [w]).length (o ++ [w]).length] false)) := ⟨_, rfl⟩
        have hbx4 : g4 x1 = some (.cells [Value.slice (some ⟨x2 + 1, 0, some 1⟩) (o ++ [w]).length (o ++ [w]).length] false) := by rw [egw, upd_e, if_pos rfl]
        have F4 : ∀ p, p < x1 → g4 p = g1 p := fun p hp => by rw [egw, upd_e, if_neg (by omega), hgw p (by omega), hZw p (by omega), F3 p hp]
        have hO4 : Own (x1 + 1) b (x2 + 1 + 1) g4 1 (some ⟨x2 + 1, 0, some 1⟩) (o ++ [w]).length ((o ++ [w]).map u32V) := ho2w.off fun p hp => by rw [egw, upd_e, if_neg (by omega)]
        obtain ⟨x4, exw⟩ : ∃ y, y = x2 + 1 + 1 := ⟨_, rfl⟩
        rw [← exw] at hO4 ⊢
        try rw [← egw]
        clear egw
        refine ⟨n1 - (i + 1), by omega, i + 1, x4, g4, some ⟨x2 + 1, 0, some 1⟩, o ++ [w], rfl, by omega, hao.symm, f1, by rw [hokA, ← Bool.and_assoc, ← he, Bool.true_and]; exact congrArg Value.bool (decide_eq_decide.2 (by omega)), f6, f16, f17, rfl, rfl, by omega, F4, hbx4, hO4⟩
      | false =>
        simp only [↓gaW, ↓gaV, ↓gaC, ↓gaN, gaP, Nat.reduceEqDiff, Nat.reduceLeDiff, Nat.reduceAdd, Nat.reduceSub, Nat.reduceMul, Int.reduceLT, Int.reduceLE, Int.reduceEq, Int.reduceToNat, Int.reduceAdd, Int.reduceSub, Int.reduceMul, reduceCtorEq, ↓reduceIte, List.getD_cons_zero, List.getD_cons_succ, fillL, splice, List.take_zero, List.drop_zero, List.drop_succ_cons, List.take_succ_cons, List.drop_nil, List.take_nil, f1, f5, f6, f16, f17, f18, hlt, decide_true, decide_false, h3q, c0, hi1, hbx, j4, gaU]
        repeat refine And.intro (by omega) ?_
        have hZw : ∀ p, p < x2 → upd g3 x2 (some (.cells [u32V w] false)) p = g3 p := fun p hp => by rw [upd_e, if_neg (by omega)]
        have erw : rowOf ⟨x2 + 1, b, upd g3 x2 (some (.cells [u32V w] false))⟩ (some ⟨x2, 0, none⟩) 1 = some [u32V w] := row_new (l := [u32V w]) (by simp)
        rw [erw]
        simp only [asO_e]
        refine own_append (nx := x1 + 1) (k := 1) (hO.keep (Nat.le_succ _) hZw) (by omega) (by omega) (by omega) (by omega) rfl (all1 rfl) (by omega) (by omega) fun gw hgw how => ?_
        have hbgw : gw x1 = some (.cells [.slice A3 o.length o.length] false) := by rw [hgw x1 (by omega), hZw x1 (by omega), hbx]
        simp only [↓gaW, ↓gaV, ↓gaC, ↓gaN, gaP, Nat.reduceEqDiff, Nat.reduceLeDiff, Nat.reduceAdd, Nat.reduceSub, Nat.reduceMul, Int.reduceLT, Int.reduceLE, Int.reduceEq, Int.reduceToNat, Int.reduceAdd, Int.reduceSub, Int.reduceMul, reduceCtorEq, ↓reduceIte, List.getD_cons_zero, List.getD_cons_succ, fillL, splice, List.take_zero, List.drop_zero, List.drop_succ_cons, List.take_succ_cons, List.drop_nil, List.take_nil, gaU, hbgw, f18, i2, loopK_n]
        repeat refine And.intro (by omega) ?_
        refine And.intro (all1 rfl) ?_
        repeat refine And.intro (by omega) ?_
        have ho2w : Own (x1 + 1) b (x2 + 1 + 1) gw 1 (some ⟨x2 + 1, 0, some 1⟩) (o ++ [w]).length ((o ++ [w]).map u32V) := by
          rw [List.length_append, List.map_append]; exact how
        have elnw : o.length + 1 = (o ++ [w]).length := by simp
        rw [elnw]
        obtain ⟨g4, egw⟩ : ∃ g', g' = upd gw x1 (some (.cells [Value.slice (some ⟨x2 + 1, 0, some 1⟩) (o ++ [w]).length (o ++ [w]).length] false)) := ⟨_, rfl⟩
        have hbx4 : g4 x1 = some (.cells [Value.slice (some ⟨x2 + 1, 0, some 1⟩) (o ++ [w]).length (o ++ [w]).length] false) := by rw [egw, upd_e, if_pos rfl]
        have F4 : ∀ p, p < x1 → g4 p = g1 p := fun p hp => by rw [egw, upd_e, if_neg (by omega), hgw p (by omega), hZw p (by omega), F3 p hp]
        have hO4 : Own (x1 + 1) b (x2 + 1 + 1) g4 1 (some ⟨x2 + 1, 0, some 1⟩) (o ++ [w]).length ((o ++ [w]).map u32V) := ho2w.off fun p hp => by rw [egw, upd_e, if_neg (by omega)]
        obtain ⟨x4, exw⟩ : ∃ y, y = x2 + 1 + 1 := ⟨_, rfl⟩
        rw [← exw] at hO4 ⊢
        try rw [← egw]
        clear egw
        refine ⟨n1 - (i + 1), by omega, i + 1, x4, g4, some ⟨x2 + 1, 0, some 1⟩, o ++ [w], rfl, by omega, hao.symm, f1, by rw [hokA, ← Bool.and_assoc, ← he, Bool.false_and], f6, f16, f17, rfl, rfl, by omega, F4, hbx4, hO4⟩
  · have hin : i = n1 := by omega
    have hb3 : g3 nx = some (.cells (nodeL x.t B m d A n c) false) := by rw [F3 nx (by omega), hb1]
    have htl : L.take i = L := by rw [hin, hn1, List.take_length]
    rw [htl] at ho f5
    have hol : o.length ≤ n1 + 1 := by rw [ho]; have := ao_len (L := L); omega
    obtain ⟨e, he⟩ : ∃ e, e = (is0 && okA L) := ⟨_, rfl⟩
    rw [← he] at f5
    have hrw := hO.row
    rw [Nat.mul_one] at hrw
    have F3' : ∀ p, p < nx → g3 p = gt p := fun p hp => by rw [F3 p (by omega), F1 p hp]
    simp only [↓gaW, ↓gaV, ↓gaC, ↓gaN, gaP, Nat.reduceEqDiff, Nat.reduceLeDiff, Nat.reduceAdd, Nat.reduceSub, Nat.reduceMul, Int.reduceLT, Int.reduceLE, Int.reduceEq, Int.reduceToNat, Int.reduceAdd, Int.reduceSub, Int.reduceMul, reduceCtorEq, ↓reduceIte, List.getD_cons_zero, List.getD_cons_succ, fillL, splice, List.take_zero, List.drop_zero, List.drop_succ_cons, List.take_succ_cons, List.drop_nil, List.take_nil, f1, f5, f6, f16, f17, f18, hlt, decide_false, hbx, hb3]
    repeat refine And.intro (by omega) ?_
    refine callK_of (ct_justU (r := oidR o) (h.keep (x' := x2) (by omega) F3') (by omega) (fun y' hy' => by have := oidR_ws hy'; omega) (fun nx' g h1 h2 => ct_Arcs1 (q := x1) (by omega) (by rw [h2 x1 (by omega), hbx]) (hrw.keep h1 h2) (Nat.le_refl _) (by omega))) (fun v x4 g4 l4 k4 hC => ?_) (by omega)
    obtain ⟨bb, hbb, rfl⟩ := hC
    have F4 : ∀ p, p < nx → g4 p = gt p := fun p hp => by rw [k4 p (by omega), F3' p hp]
    have hj : justP e x (oidR o) ↔ (e = true ∧ oidR o = .ok x) := by
      unfold justP
      constructor
      · rintro ⟨h1, z, h2, h3⟩
        exact ⟨h1, by rw [h2, (alike_eq (oidR_k h2)).1 h3]⟩
      · rintro ⟨h1, h2⟩
        exact ⟨h1, x, h2, (alike_eq (oidR_k h2)).2 rfl⟩
    cases bb with
    | true =>
      have hc := hj.1 (hbb.1 rfl)
      simp only [↓gaW, ↓gaV, ↓gaC, ↓gaN, gaP, Nat.reduceEqDiff, Nat.reduceLeDiff, Nat.reduceAdd, Nat.reduceSub, Nat.reduceMul, Int.reduceLT, Int.reduceLE, Int.reduceEq, Int.reduceToNat, Int.reduceAdd, Int.reduceSub, Int.reduceMul, reduceCtorEq, ↓reduceIte, gaE, implies_true, Nat.le_refl, Int.sub_zero, Nat.sub_zero, Int.le_refl, true_or, or_true, List.getD_cons_zero, List.getD_cons_succ, fillL, splice, List.take_zero, List.drop_zero, List.drop_succ_cons, List.take_succ_cons, List.drop_nil, List.take_nil, if_true, arcsR_ok hc.2]
      repeat refine And.intro (by omega) ?_
      have hfin : UErr x4 g4 (.tuple #[.slice A3 o.length o.length, .int .i64 0]) (o, 0) := ⟨_, rfl, A3, _, rfl, rfl, hrw.keep l4 k4⟩
      first | exact ⟨F4, hfin⟩ | exact hfin
    | false =>
      have er : arcsR x = ([], 2) := arcsR_no fun l hl => by
        obtain ⟨q1, q2⟩ := oidR_ok hl
        obtain ⟨L', p1, p2, p3, p4⟩ := nums_oid q1
        have hxb : x.b = oidB l := by rw [q2]
        have hLp : 0 < L'.length := List.length_pos_iff.2 p2
        have e2 : numsR x.b = (L', true) := by unfold numsR; rw [hxb, p1]; simp [hLp]
        rw [hR] at e2
        injection e2 with e3 e4
        have : false = true := hbb.2 (hj.2 ⟨by rw [he, e4, e3, p4]; rfl, by rw [ho, e3, p3]; exact hl⟩)
        cases this
      simp only [↓gaW, ↓gaV, ↓gaC, ↓gaN, gaP, Nat.reduceEqDiff, Nat.reduceLeDiff, Nat.reduceAdd, Nat.reduceSub, Nat.reduceMul, Int.reduceLT, Int.reduceLE, Int.reduceEq, Int.reduceToNat, Int.reduceAdd, Int.reduceSub, Int.reduceMul, reduceCtorEq, ↓reduceIte, gaE, implies_true, Nat.le_refl, Int.sub_zero, Nat.sub_zero, Int.le_refl, true_or, or_true, List.getD_cons_zero, List.getD_cons_succ, fillL, splice, List.take_zero, List.drop_zero, List.drop_succ_cons, List.take_succ_cons, List.drop_nil, List.take_nil, Bool.false_eq_true, if_false, er]
      repeat refine And.intro (by omega) ?_
      have hfin : UErr x4 g4 (.tuple #[.slice none 0 0, .int .i64 2]) ([], 2) := ⟨_, rfl, none, 0, rfl, rfl, .nil⟩
      first | exact ⟨F4, hfin⟩ | exact hfin
end
end Go.Ga

/- The document's numbers of an element. -/
namespace Go.Ga
open Go Go.Proofs
set_option linter.unusedSimpArgs false
set_option linter.unusedVariables false
set_option maxRecDepth 100000
attribute [local irreducible] appendK

section
variable {nx : Nat} {gt : Nat → Option Blk}

end
end Go.Ga

/- The law ScalarNames. -/
namespace Go.Ga
open Go Go.Proofs
set_option linter.unusedSimpArgs false
set_option linter.unusedVariables false
set_option maxRecDepth 100000
attribute [local irreducible] appendK

theorem arcs_len (x : Fo.El) : (arcsR x).1.length ≤ 20 := by
  by_cases h : ∃ l, oidR l = .ok x
  · obtain ⟨l, hl⟩ := h
    rw [arcsR_ok hl]
    obtain ⟨a, b, t, rfl, h1, _⟩ := oid_parts (oidR_ok hl).1
    simp only [List.length_cons]; omega
  · rw [arcsR_no fun l hl => h ⟨l, hl⟩]; simp
theorem oid_nws {l : List UInt32} : (nodeOf (oidR l)).f.ws ≤ 201 := by
  cases h : oidR l with
  | error e => show 1 + 0 + 0 + 0 ≤ _; omega
  | ok y => exact oidR_ws h

section
variable {nx : Nat} {gt : Nat → Option Blk}


end
end Go.Ga

/- The law ScalarJust. -/
namespace Go.Ga
open Go Go.Proofs
set_option linter.unusedSimpArgs false
set_option linter.unusedVariables false
set_option maxRecDepth 100000
attribute [local irreducible] appendK

/-- Two ways that meet again. -/
theorem fork {P : Program} {a T : RC} {S : Stk} {f : Regs} {m : Mem} (I : Regs → Prop) (h1 : (∀ f', I f' → D P (.thn T S) .normal f' m) → RC.vc P a f m (D P (.thn T S))) (h2 : ∀ f', I f' → D P (.thn T S) .normal f' m) : RC.vc P a f m (D P (.thn T S)) := h1 h2

theorem uint_just {x : Fo.El} : (uintR x).1 < 18446744073709551616 ∧ ((uintR x).2 = 0 → intE (uintR x).1 x) := by
  by_cases h : val x.b < 18446744073709551616 ∧ intE (val x.b) x
  · rw [show uintR x = (val x.b, 0) from if_pos h]; exact ⟨h.1, fun _ => h.2⟩
  · rw [show uintR x = (0, 2) from if_neg h]; exact ⟨by show 0 < _; omega, fun h => by cases h⟩
theorem arcs_just {x : Fo.El} : (arcsR x).2 = 0 → oidR (arcsR x).1 = .ok x := by
  by_cases h : ∃ l, oidR l = .ok x
  · obtain ⟨l, hl⟩ := h
    rw [arcsR_ok hl]; exact fun _ => hl
  · rw [arcsR_no fun l hl => h ⟨l, hl⟩]; exact fun h => by cases h
theorem of_just {x : Fo.El} (hw : x.f.ws < 900000) : (ofR x).1.length ≤ x.b.length ∧ (-9223372036854775808 ≤ (ofR x).2.1 ∧ (ofR x).2.1 ≤ 9223372036854775807) ∧ ((ofR x).2.2 = 0 → bitsR (ofR x).1 (ofR x).2.1 = .ok x) := by
  by_cases h : x.b ≠ [] ∧ bitsR x.b.tail (8 * (x.b.tail.length : Int) - (x.b.headD 0).toNat) = .ok x
  · rw [show ofR x = (x.b.tail, 8 * (x.b.tail.length : Int) - (x.b.headD 0).toNat, 0) from if_pos h]
    have h1 : x.b.length < 900000 := by
      have : x.f.ws = 1 + x.b.length + x.k.ws := by simp only [Fo.El.f, Fo.ws]; omega
      omega
    have h2 := (x.b.headD 0).toNat_lt
    have h3 : x.b.tail.length = x.b.length - 1 := List.length_tail
    exact ⟨by show x.b.tail.length ≤ _; omega, ⟨by show _ ≤ 8 * (x.b.tail.length : Int) - _; omega, by show 8 * (x.b.tail.length : Int) - _ ≤ _; omega⟩, fun _ => h.2⟩
  · rw [show ofR x = ([], 0, 2) from if_neg h]
    exact ⟨by simp, ⟨by show _ ≤ (0 : Int); omega, by show (0 : Int) ≤ _; omega⟩, fun h => by cases h⟩
theorem words_just {x : Fo.El} : (wordsR x).1.length ≤ x.b.length ∧ ((wordsR x).2 = 0 → textR (wordsR x).1 = .ok x) := by
  by_cases h : textR x.b = .ok x
  · rw [show wordsR x = (x.b, 0) from if_pos h]; exact ⟨Nat.le_refl _, fun _ => h⟩
  · rw [show wordsR x = ([], 2) from if_neg h]; exact ⟨by simp, fun h => by cases h⟩
theorem when_just {a : Int} {is : Bool} {oa : Option D6} {x : Fo.El} (ha : -9223372036854775808 ≤ a ∧ a ≤ 9223372036854775807) (ho : DateO a oa) : (-9223372036854775808 ≤ (whenR a is oa x).1 ∧ (whenR a is oa x).1 ≤ 9223372036854775807) ∧ ∃ ow, DateO (whenR a is oa x).1 ow ∧ ((whenR a is oa x).2 = 0 → timeR ow = .ok x) := by
  by_cases h : is = true ∧ timeR oa = .ok x
  · rw [show whenR a is oa x = (a, 0) from if_pos h]; exact ⟨ha, oa, ho, fun _ => h.2⟩
  · rw [show whenR a is oa x = (0, 2) from if_neg h]
    obtain ⟨o, h1⟩ := date_ex (s := 0) (by omega)
    exact ⟨by show _ ≤ (0 : Int) ∧ (0 : Int) ≤ _; omega, o, h1, fun h => by cases h⟩

section
variable {nx : Nat} {gt : Nat → Option Blk}


theorem fn_Just {x : Fo.El} {B : Option Addr} {m d : Nat} {A : Option Addr} {n c : Nat} {ks : List Value} (h : NdR nx gt x B m d A n c ks) :
    Ct Tryd.prog 8 [nodeV x.t B m d A n c] nx gt fun v _ _ => v = .bool true := by
  refine Ct.of hmx r_lanyardlaw05_ScalarJust (by simp [c_lanyardlaw05_ScalarJust]) fun b hb => ?_
  have hF : ∀ q, q < nx → upd gt nx (some (.cells (nodeL x.t B m d A n c) false)) q = gt q := fun q hq => by simp only [upd_e]; rw [if_neg (by omega)]
  have hb0 : upd gt nx (some (.cells (nodeL x.t B m d A n c) false)) nx = some (.cells (nodeL x.t B m d A n c) false) := by simp only [upd_e, if_true]
  obtain ⟨a, is, hrd, hab⟩ := rdV_is x
  obtain ⟨oa, hoa⟩ := date_ex hab
  simp only [c_lanyardlaw05_ScalarJust, ↓gaW, ↓gaV, ↓gaC, ↓gaN, gaP, Nat.reduceEqDiff, Nat.reduceLeDiff, Nat.reduceAdd, Nat.reduceSub, Nat.reduceMul, Int.reduceLT, Int.reduceLE, Int.reduceEq, Int.reduceToNat, Int.reduceAdd, Int.reduceSub, Int.reduceMul, reduceCtorEq, ↓reduceIte, List.getD_cons_zero, List.getD_cons_succ, fillL, splice, List.take_zero, List.drop_zero, List.drop_succ_cons, List.take_succ_cons, List.drop_nil, List.take_nil, gaU]
  generalize upd gt nx (some (.cells (nodeL x.t B m d A n c) false)) = g0 at *
  refine callK_of ct_awake05 (fun v x1 g1 l1 k1 hC => ?_) (by omega)
  subst hC
  have F1 : ∀ p, p < nx → g1 p = gt p := fun p hp => by rw [k1 p (by omega), hF p hp]
  have hb1 : g1 nx = some (.cells (nodeL x.t B m d A n c) false) := by rw [k1 nx (by omega), hb0]
  simp only [↓gaW, ↓gaV, ↓gaC, ↓gaN, gaP, Nat.reduceEqDiff, Nat.reduceLeDiff, Nat.reduceAdd, Nat.reduceSub, Nat.reduceMul, Int.reduceLT, Int.reduceLE, Int.reduceEq, Int.reduceToNat, Int.reduceAdd, Int.reduceSub, Int.reduceMul, reduceCtorEq, ↓reduceIte, List.getD_cons_zero, List.getD_cons_succ, fillL, splice, List.take_zero, List.drop_zero, List.drop_succ_cons, List.take_succ_cons, List.drop_nil, List.take_nil, hb1]
  repeat refine And.intro (by omega) ?_
  refine callK_of (ct_Light (h.keep (x' := x1) (by omega) F1)) (fun v x2 g2 l2 k2 hC => ?_) (by omega)
  obtain ⟨ok, rfl, hok⟩ := hC
  have F2 : ∀ p, p < nx → g2 p = gt p := fun p hp => by rw [k2 p (by omega), F1 p hp]
  have hb2 : g2 nx = some (.cells (nodeL x.t B m d A n c) false) := by rw [k2 nx (by omega), hb1]
  cases ok with
  | false =>
    simp only [↓gaW, ↓gaV, ↓gaC, ↓gaN, gaP, Nat.reduceEqDiff, Nat.reduceLeDiff, Nat.reduceAdd, Nat.reduceSub, Nat.reduceMul, Int.reduceLT, Int.reduceLE, Int.reduceEq, Int.reduceToNat, Int.reduceAdd, Int.reduceSub, Int.reduceMul, reduceCtorEq, ↓reduceIte, gaE, implies_true, Nat.le_refl, Int.sub_zero, Nat.sub_zero, Int.le_refl, true_or, or_true, List.getD_cons_zero, List.getD_cons_succ, fillL, splice, List.take_zero, List.drop_zero, List.drop_succ_cons, List.take_succ_cons, List.drop_nil, List.take_nil, Bool.not_false]
    exact ⟨by omega, F2⟩
  | true =>
    have hxw := hok rfl
    obtain ⟨ulim, ujust⟩ := uint_just (x := x)
    have ajust := arcs_just (x := x)
    have alen := arcs_len x
    obtain ⟨olen, olim, ojust⟩ := of_just (x := x) (by omega)
    obtain ⟨wlen, wjust⟩ := words_just (x := x)
    obtain ⟨tlim, ow, how, tjust⟩ := when_just (is := is) (x := x) hab hoa
    have xw : x.f.ws = 1 + x.b.length + x.k.ws := by simp only [Fo.El.f, Fo.ws]; omega
    simp only [↓gaW, ↓gaV, ↓gaC, ↓gaN, gaP, Nat.reduceEqDiff, Nat.reduceLeDiff, Nat.reduceAdd, Nat.reduceSub, Nat.reduceMul, Int.reduceLT, Int.reduceLE, Int.reduceEq, Int.reduceToNat, Int.reduceAdd, Int.reduceSub, Int.reduceMul, reduceCtorEq, ↓reduceIte, List.getD_cons_zero, List.getD_cons_succ, fillL, splice, List.take_zero, List.drop_zero, List.drop_succ_cons, List.take_succ_cons, List.drop_nil, List.take_nil, Bool.not_true, hb2]
    repeat refine And.intro (by omega) ?_
    refine callK_of (ct_Uint (h.keep (x' := x2) (by omega) F2) (by omega)) (fun v x3 g3 l3 k3 hC => ?_) (by omega)
    subst hC
    have F3 : ∀ p, p < nx → g3 p = gt p := fun p hp => by rw [k3 p (by omega), F2 p hp]
    have hb3 : g3 nx = some (.cells (nodeL x.t B m d A n c) false) := by rw [k3 nx (by omega), hb2]
    simp only [↓gaW, ↓gaV, ↓gaC, ↓gaN, gaP, Nat.reduceEqDiff, Nat.reduceLeDiff, Nat.reduceAdd, Nat.reduceSub, Nat.reduceMul, Int.reduceLT, Int.reduceLE, Int.reduceEq, Int.reduceToNat, Int.reduceAdd, Int.reduceSub, Int.reduceMul, reduceCtorEq, ↓reduceIte, List.getD_cons_zero, List.getD_cons_succ, fillL, splice, List.take_zero, List.drop_zero, List.drop_succ_cons, List.take_succ_cons, List.drop_nil, List.take_nil, hb3]
    repeat refine And.intro (by omega) ?_
    refine callQ_of (ct_Int ulim) fun v x4 g4 l4 k4 hC => ?_
    obtain ⟨y4, hy4, B4, m4, d4, A4, n4, c4, ks4, rfl, N4⟩ := hC
    have yw4 := intE_ws hy4
    have F4 : ∀ p, p < nx → g4 p = gt p := fun p hp => by rw [k4 p (by omega), F3 p hp]
    have hb4 : g4 nx = some (.cells (nodeL x.t B m d A n c) false) := by rw [k4 nx (by omega), hb3]
    simp only [↓gaW, ↓gaV, ↓gaC, ↓gaN, gaP, Nat.reduceEqDiff, Nat.reduceLeDiff, Nat.reduceAdd, Nat.reduceSub, Nat.reduceMul, Int.reduceLT, Int.reduceLE, Int.reduceEq, Int.reduceToNat, Int.reduceAdd, Int.reduceSub, Int.reduceMul, reduceCtorEq, ↓reduceIte, List.getD_cons_zero, List.getD_cons_succ, fillL, splice, List.take_zero, List.drop_zero, List.drop_succ_cons, List.take_succ_cons, List.drop_nil, List.take_nil, hb4]
    repeat refine And.intro (by omega) ?_
    refine callK_of (ct_Same y4 (by omega) x _ _ _ _ _ _ _ _ _ _ _ _ _ _ _ _ N4.r (h.keep (x' := x4) (by omega) F4)) (fun v x5 g5 l5 k5 hC => ?_) (by omega)
    obtain ⟨s5, rfl, hs5⟩ := hC
    have F5 : ∀ p, p < nx → g5 p = gt p := fun p hp => by rw [k5 p (by omega), F4 p hp]
    have hb5 : g5 nx = some (.cells (nodeL x.t B m d A n c) false) := by rw [k5 nx (by omega), hb4]
    simp only [↓gaW, ↓gaV, ↓gaC, gaP, Nat.reduceEqDiff, Nat.reduceLeDiff, Nat.reduceAdd, Nat.reduceSub, Nat.reduceMul, Int.reduceLT, Int.reduceLE, Int.reduceEq, Int.reduceToNat, Int.reduceAdd, Int.reduceSub, Int.reduceMul, reduceCtorEq, ↓reduceIte]
    rw [D_thn_n, vc_seq]
    refine fork (fun f' => f' 1 = .pointer (some ⟨nx, 0, none⟩) ∧ f' 3 = .bool true) (fun tail => ?_) ?_
    · by_cases he5 : (uintR x).2 = 0
      · have : s5 = true := hs5.2 (intE_one hy4 (ujust he5))
        subst this
        have hec : (((uintR x).2 : Nat) : Int) = 0 := by omega
        rw [vc_seq]
        simp only [↓gaW, ↓gaV, ↓gaC, gaP, Nat.reduceEqDiff, Nat.reduceLeDiff, Nat.reduceAdd, Nat.reduceSub, Nat.reduceMul, Int.reduceLT, Int.reduceLE, Int.reduceEq, Int.reduceToNat, Int.reduceAdd, Int.reduceSub, Int.reduceMul, reduceCtorEq, ↓reduceIte, hec, not_true, decide_true, decide_false, Bool.not_true]
        rw [D_thn_n]
        simp only [↓gaW, ↓gaV, ↓gaC, gaP, Nat.reduceEqDiff, Nat.reduceLeDiff, Nat.reduceAdd, Nat.reduceSub, Nat.reduceMul, Int.reduceLT, Int.reduceLE, Int.reduceEq, Int.reduceToNat, Int.reduceAdd, Int.reduceSub, Int.reduceMul, reduceCtorEq, ↓reduceIte]
        exact tail _ ⟨(by first | (simp only [↓gaW, ↓gaV, ↓gaC, ↓gaN, gaP, Nat.reduceEqDiff, Nat.reduceLeDiff, Nat.reduceAdd, Nat.reduceSub, Nat.reduceMul, Int.reduceLT, Int.reduceLE, Int.reduceEq, Int.reduceToNat, Int.reduceAdd, Int.reduceSub, Int.reduceMul, reduceCtorEq, ↓reduceIte]; done) | (simp only [↓gaW, ↓gaV, ↓gaC, ↓gaN, gaP, Nat.reduceEqDiff, Nat.reduceLeDiff, Nat.reduceAdd, Nat.reduceSub, Nat.reduceMul, Int.reduceLT, Int.reduceLE, Int.reduceEq, Int.reduceToNat, Int.reduceAdd, Int.reduceSub, Int.reduceMul, reduceCtorEq, ↓reduceIte]; rfl)), (by first | (simp only [↓gaW, ↓gaV, ↓gaC, ↓gaN, gaP, Nat.reduceEqDiff, Nat.reduceLeDiff, Nat.reduceAdd, Nat.reduceSub, Nat.reduceMul, Int.reduceLT, Int.reduceLE, Int.reduceEq, Int.reduceToNat, Int.reduceAdd, Int.reduceSub, Int.reduceMul, reduceCtorEq, ↓reduceIte]; done) | (simp only [↓gaW, ↓gaV, ↓gaC, ↓gaN, gaP, Nat.reduceEqDiff, Nat.reduceLeDiff, Nat.reduceAdd, Nat.reduceSub, Nat.reduceMul, Int.reduceLT, Int.reduceLE, Int.reduceEq, Int.reduceToNat, Int.reduceAdd, Int.reduceSub, Int.reduceMul, reduceCtorEq, ↓reduceIte]; rfl))⟩
      · have hec : ¬ (((uintR x).2 : Nat) : Int) = 0 := by omega
        rw [vc_seq]
        simp only [↓gaW, ↓gaV, ↓gaC, gaP, Nat.reduceEqDiff, Nat.reduceLeDiff, Nat.reduceAdd, Nat.reduceSub, Nat.reduceMul, Int.reduceLT, Int.reduceLE, Int.reduceEq, Int.reduceToNat, Int.reduceAdd, Int.reduceSub, Int.reduceMul, reduceCtorEq, ↓reduceIte, hec, decide_true, decide_false]
        rw [D_thn_n]
        simp only [↓gaW, ↓gaV, ↓gaC, gaP, Nat.reduceEqDiff, Nat.reduceLeDiff, Nat.reduceAdd, Nat.reduceSub, Nat.reduceMul, Int.reduceLT, Int.reduceLE, Int.reduceEq, Int.reduceToNat, Int.reduceAdd, Int.reduceSub, Int.reduceMul, reduceCtorEq, ↓reduceIte]
        exact tail _ ⟨(by first | (simp only [↓gaW, ↓gaV, ↓gaC, ↓gaN, gaP, Nat.reduceEqDiff, Nat.reduceLeDiff, Nat.reduceAdd, Nat.reduceSub, Nat.reduceMul, Int.reduceLT, Int.reduceLE, Int.reduceEq, Int.reduceToNat, Int.reduceAdd, Int.reduceSub, Int.reduceMul, reduceCtorEq, ↓reduceIte]; done) | (simp only [↓gaW, ↓gaV, ↓gaC, ↓gaN, gaP, Nat.reduceEqDiff, Nat.reduceLeDiff, Nat.reduceAdd, Nat.reduceSub, Nat.reduceMul, Int.reduceLT, Int.reduceLE, Int.reduceEq, Int.reduceToNat, Int.reduceAdd, Int.reduceSub, Int.reduceMul, reduceCtorEq, ↓reduceIte]; rfl)), (by first | (simp only [↓gaW, ↓gaV, ↓gaC, ↓gaN, gaP, Nat.reduceEqDiff, Nat.reduceLeDiff, Nat.reduceAdd, Nat.reduceSub, Nat.reduceMul, Int.reduceLT, Int.reduceLE, Int.reduceEq, Int.reduceToNat, Int.reduceAdd, Int.reduceSub, Int.reduceMul, reduceCtorEq, ↓reduceIte]; done) | (simp only [↓gaW, ↓gaV, ↓gaC, ↓gaN, gaP, Nat.reduceEqDiff, Nat.reduceLeDiff, Nat.reduceAdd, Nat.reduceSub, Nat.reduceMul, Int.reduceLT, Int.reduceLE, Int.reduceEq, Int.reduceToNat, Int.reduceAdd, Int.reduceSub, Int.reduceMul, reduceCtorEq, ↓reduceIte]; rfl))⟩
    rintro f5 ⟨f1, f3⟩
    simp only [↓gaW, ↓gaV, ↓gaC, ↓gaN, gaP, Nat.reduceEqDiff, Nat.reduceLeDiff, Nat.reduceAdd, Nat.reduceSub, Nat.reduceMul, Int.reduceLT, Int.reduceLE, Int.reduceEq, Int.reduceToNat, Int.reduceAdd, Int.reduceSub, Int.reduceMul, reduceCtorEq, ↓reduceIte, f1, hb5]
    repeat refine And.intro (by omega) ?_
    refine callK_of (ct_Arcs (h.keep (x' := x5) (by omega) F5) (by omega)) (fun v x6 g6 l6 k6 hC => ?_) (by omega)
    obtain ⟨u6, rfl, A6, n6, rfl, hl6, r6⟩ := hC
    have F6 : ∀ p, p < nx → g6 p = gt p := fun p hp => by rw [k6 p (by omega), F5 p hp]
    have hb6 : g6 nx = some (.cells (nodeL x.t B m d A n c) false) := by rw [k6 nx (by omega), hb5]
    simp only [↓gaW, ↓gaV, ↓gaC, ↓gaN, gaP, Nat.reduceEqDiff, Nat.reduceLeDiff, Nat.reduceAdd, Nat.reduceSub, Nat.reduceMul, Int.reduceLT, Int.reduceLE, Int.reduceEq, Int.reduceToNat, Int.reduceAdd, Int.reduceSub, Int.reduceMul, reduceCtorEq, ↓reduceIte]
    repeat refine And.intro (by omega) ?_
    have hws7 : (nodeOf (oidR (arcsR x).1)).f.ws < 900000 := by have := oid_nws (l := (arcsR x).1); omega
    refine callK_of (ct_Oid r6 (Nat.le_refl _) (by omega)) (fun v x7 g7 l7 k7 hC => ?_) (by omega)
    obtain ⟨B7, m7, d7, A7, n7, c7, ks7, rfl, N7⟩ := hC.any
    have F7 : ∀ p, p < nx → g7 p = gt p := fun p hp => by rw [k7 p (by omega), F6 p hp]
    have hb7 : g7 nx = some (.cells (nodeL x.t B m d A n c) false) := by rw [k7 nx (by omega), hb6]
    have nxne7 : (nx = x7) = False := by simp; omega
    simp only [↓gaW, ↓gaV, ↓gaC, ↓gaN, gaP, Nat.reduceEqDiff, Nat.reduceLeDiff, Nat.reduceAdd, Nat.reduceSub, Nat.reduceMul, Int.reduceLT, Int.reduceLE, Int.reduceEq, Int.reduceToNat, Int.reduceAdd, Int.reduceSub, Int.reduceMul, reduceCtorEq, ↓reduceIte, List.getD_cons_zero, List.getD_cons_succ, fillL, splice, List.take_zero, List.drop_zero, List.drop_succ_cons, List.take_succ_cons, List.drop_nil, List.take_nil, gaU, f1, f3, nxne7, hb7]
    repeat refine And.intro (by omega) ?_
    refine And.intro (node_cells _ _ _ _ _ _ _) ?_
    repeat refine And.intro (by omega) ?_
    obtain ⟨g8, e8, G8, hq8⟩ := boxed (g := g7) (x := x7) (cs := [Value.int .i64 0, .slice none 0 0, .slice none 0 0]) (ds := nodeL (nodeOf (oidR (arcsR x).1)).t B7 m7 d7 A7 n7 c7)
    rw [← e8]; clear e8
    obtain ⟨x8, ex8⟩ : ∃ y, y = x7 + 1 := ⟨_, rfl⟩
    rw [← ex8]
    have F8 : ∀ p, p < nx → g8 p = gt p := fun p hp => by rw [G8 p (by omega), F7 p hp]
    have hb8 : g8 nx = some (.cells (nodeL x.t B m d A n c) false) := by rw [G8 nx (by omega), hb7]
    refine callK_of (ct_Same (nodeOf (oidR (arcsR x).1)) (by omega) x _ _ _ _ _ _ _ _ _ _ _ _ _ _ _ _ (N7.r.keep (x' := x8) (by omega) G8) (h.keep (x' := x8) (by omega) F8)) (fun v x9 g9 l9 k9 hC => ?_) (by omega)
    obtain ⟨s9, rfl, hs9⟩ := hC
    have F9 : ∀ p, p < nx → g9 p = gt p := fun p hp => by rw [k9 p (by omega), F8 p hp]
    have hb9 : g9 nx = some (.cells (nodeL x.t B m d A n c) false) := by rw [k9 nx (by omega), hb8]
    simp only [↓gaW, ↓gaV, ↓gaC, gaP, Nat.reduceEqDiff, Nat.reduceLeDiff, Nat.reduceAdd, Nat.reduceSub, Nat.reduceMul, Int.reduceLT, Int.reduceLE, Int.reduceEq, Int.reduceToNat, Int.reduceAdd, Int.reduceSub, Int.reduceMul, reduceCtorEq, ↓reduceIte]
    rw [D_thn_n, vc_seq]
    refine fork (fun f' => f' 1 = .pointer (some ⟨nx, 0, none⟩) ∧ f' 3 = .bool true) (fun tail => ?_) ?_
    · by_cases he9 : (arcsR x).2 = 0
      · have ho := ajust he9
        have : s9 = true := hs9.2 (by rw [ho]; rfl)
        subst this
        have hz9 : ((errOf (oidR (arcsR x).1) : Nat) : Int) = 0 := by rw [ho]; rfl
        have hec : (((arcsR x).2 : Nat) : Int) = 0 := by omega
        rw [vc_seq]
        simp only [↓gaW, ↓gaV, ↓gaC, gaP, Nat.reduceEqDiff, Nat.reduceLeDiff, Nat.reduceAdd, Nat.reduceSub, Nat.reduceMul, Int.reduceLT, Int.reduceLE, Int.reduceEq, Int.reduceToNat, Int.reduceAdd, Int.reduceSub, Int.reduceMul, reduceCtorEq, ↓reduceIte, hec, not_true, decide_true, decide_false, Bool.not_true, hz9]
        rw [D_thn_n]
        simp only [↓gaW, ↓gaV, ↓gaC, gaP, Nat.reduceEqDiff, Nat.reduceLeDiff, Nat.reduceAdd, Nat.reduceSub, Nat.reduceMul, Int.reduceLT, Int.reduceLE, Int.reduceEq, Int.reduceToNat, Int.reduceAdd, Int.reduceSub, Int.reduceMul, reduceCtorEq, ↓reduceIte]
        exact tail _ ⟨by simp only [↓gaW, ↓gaV, ↓gaC, ↓gaN, gaP, Nat.reduceEqDiff, Nat.reduceLeDiff, Nat.reduceAdd, Nat.reduceSub, Nat.reduceMul, Int.reduceLT, Int.reduceLE, Int.reduceEq, Int.reduceToNat, Int.reduceAdd, Int.reduceSub, Int.reduceMul, reduceCtorEq, ↓reduceIte, f1], by simp only [↓gaW, ↓gaV, ↓gaC, ↓gaN, gaP, Nat.reduceEqDiff, Nat.reduceLeDiff, Nat.reduceAdd, Nat.reduceSub, Nat.reduceMul, Int.reduceLT, Int.reduceLE, Int.reduceEq, Int.reduceToNat, Int.reduceAdd, Int.reduceSub, Int.reduceMul, reduceCtorEq, ↓reduceIte, f3]⟩
      · have hec : ¬ (((arcsR x).2 : Nat) : Int) = 0 := by omega
        rw [vc_seq]
        simp only [↓gaW, ↓gaV, ↓gaC, gaP, Nat.reduceEqDiff, Nat.reduceLeDiff, Nat.reduceAdd, Nat.reduceSub, Nat.reduceMul, Int.reduceLT, Int.reduceLE, Int.reduceEq, Int.reduceToNat, Int.reduceAdd, Int.reduceSub, Int.reduceMul, reduceCtorEq, ↓reduceIte, hec, decide_true, decide_false]
        rw [D_thn_n]
        simp only [↓gaW, ↓gaV, ↓gaC, gaP, Nat.reduceEqDiff, Nat.reduceLeDiff, Nat.reduceAdd, Nat.reduceSub, Nat.reduceMul, Int.reduceLT, Int.reduceLE, Int.reduceEq, Int.reduceToNat, Int.reduceAdd, Int.reduceSub, Int.reduceMul, reduceCtorEq, ↓reduceIte]
        exact tail _ ⟨by simp only [↓gaW, ↓gaV, ↓gaC, ↓gaN, gaP, Nat.reduceEqDiff, Nat.reduceLeDiff, Nat.reduceAdd, Nat.reduceSub, Nat.reduceMul, Int.reduceLT, Int.reduceLE, Int.reduceEq, Int.reduceToNat, Int.reduceAdd, Int.reduceSub, Int.reduceMul, reduceCtorEq, ↓reduceIte, f1], by simp only [↓gaW, ↓gaV, ↓gaC, ↓gaN, gaP, Nat.reduceEqDiff, Nat.reduceLeDiff, Nat.reduceAdd, Nat.reduceSub, Nat.reduceMul, Int.reduceLT, Int.reduceLE, Int.reduceEq, Int.reduceToNat, Int.reduceAdd, Int.reduceSub, Int.reduceMul, reduceCtorEq, ↓reduceIte, f3]⟩
    rintro f9 ⟨f1, f3⟩
    simp only [↓gaW, ↓gaV, ↓gaC, ↓gaN, gaP, Nat.reduceEqDiff, Nat.reduceLeDiff, Nat.reduceAdd, Nat.reduceSub, Nat.reduceMul, Int.reduceLT, Int.reduceLE, Int.reduceEq, Int.reduceToNat, Int.reduceAdd, Int.reduceSub, Int.reduceMul, reduceCtorEq, ↓reduceIte, f1, hb9]
    repeat refine And.intro (by omega) ?_
    refine callK_of (ct_Of (h.keep (x' := x9) (by omega) F9) (by omega)) (fun v xa ga la ka hC => ?_) (by omega)
    obtain ⟨ua, rfl, Aa, na, ca, rfl, hca, hla, ra⟩ := hC
    have Fa : ∀ p, p < nx → ga p = gt p := fun p hp => by rw [ka p (by omega), F9 p hp]
    have hba : ga nx = some (.cells (nodeL x.t B m d A n c) false) := by rw [ka nx (by omega), hb9]
    simp only [↓gaW, ↓gaV, ↓gaC, ↓gaN, gaP, Nat.reduceEqDiff, Nat.reduceLeDiff, Nat.reduceAdd, Nat.reduceSub, Nat.reduceMul, Int.reduceLT, Int.reduceLE, Int.reduceEq, Int.reduceToNat, Int.reduceAdd, Int.reduceSub, Int.reduceMul, reduceCtorEq, ↓reduceIte]
    repeat refine And.intro (by omega) ?_
    have hwsb : (nodeOf (bitsR (ofR x).1 (ofR x).2.1)).f.ws < 900000 := by have := bits_nws (l := (ofR x).1) (many := (ofR x).2.1); omega
    refine callK_of (ct_Bits ra hca (by omega) olim) (fun v xb gb lb kb hC => ?_) (by omega)
    obtain ⟨Bb, mb, db, Ab, nb, cb, ksb, rfl, Nb⟩ := hC.any
    have Fb : ∀ p, p < nx → gb p = gt p := fun p hp => by rw [kb p (by omega), Fa p hp]
    have hbb : gb nx = some (.cells (nodeL x.t B m d A n c) false) := by rw [kb nx (by omega), hba]
    have nxneb : (nx = xb) = False := by simp; omega
    simp only [↓gaW, ↓gaV, ↓gaC, ↓gaN, gaP, Nat.reduceEqDiff, Nat.reduceLeDiff, Nat.reduceAdd, Nat.reduceSub, Nat.reduceMul, Int.reduceLT, Int.reduceLE, Int.reduceEq, Int.reduceToNat, Int.reduceAdd, Int.reduceSub, Int.reduceMul, reduceCtorEq, ↓reduceIte, List.getD_cons_zero, List.getD_cons_succ, fillL, splice, List.take_zero, List.drop_zero, List.drop_succ_cons, List.take_succ_cons, List.drop_nil, List.take_nil, gaU, f1, f3, nxneb, hbb]
    repeat refine And.intro (by omega) ?_
    refine And.intro (node_cells _ _ _ _ _ _ _) ?_
    repeat refine And.intro (by omega) ?_
    obtain ⟨gc, ec, Gc, hqc⟩ := boxed (g := gb) (x := xb) (cs := [Value.int .i64 0, .slice none 0 0, .slice none 0 0]) (ds := nodeL (nodeOf (bitsR (ofR x).1 (ofR x).2.1)).t Bb mb db Ab nb cb)
    rw [← ec]; clear ec
    obtain ⟨xc, exc⟩ : ∃ y, y = xb + 1 := ⟨_, rfl⟩
    rw [← exc]
    have Fc : ∀ p, p < nx → gc p = gt p := fun p hp => by rw [Gc p (by omega), Fb p hp]
    have hbc : gc nx = some (.cells (nodeL x.t B m d A n c) false) := by rw [Gc nx (by omega), hbb]
    refine callK_of (ct_Same (nodeOf (bitsR (ofR x).1 (ofR x).2.1)) (by omega) x _ _ _ _ _ _ _ _ _ _ _ _ _ _ _ _ (Nb.r.keep (x' := xc) (by omega) Gc) (h.keep (x' := xc) (by omega) Fc)) (fun v xd gd ld kd hC => ?_) (by omega)
    obtain ⟨sd, rfl, hsd⟩ := hC
    have Fd : ∀ p, p < nx → gd p = gt p := fun p hp => by rw [kd p (by omega), Fc p hp]
    have hbd : gd nx = some (.cells (nodeL x.t B m d A n c) false) := by rw [kd nx (by omega), hbc]
    simp only [↓gaW, ↓gaV, ↓gaC, gaP, Nat.reduceEqDiff, Nat.reduceLeDiff, Nat.reduceAdd, Nat.reduceSub, Nat.reduceMul, Int.reduceLT, Int.reduceLE, Int.reduceEq, Int.reduceToNat, Int.reduceAdd, Int.reduceSub, Int.reduceMul, reduceCtorEq, ↓reduceIte]
    rw [D_thn_n, vc_seq]
    refine fork (fun f' => f' 1 = .pointer (some ⟨nx, 0, none⟩) ∧ f' 3 = .bool true) (fun tail => ?_) ?_
    · by_cases hed : (ofR x).2.2 = 0
      · have ho := ojust hed
        have : sd = true := hsd.2 (by rw [ho]; rfl)
        subst this
        have hzd : ((errOf (bitsR (ofR x).1 (ofR x).2.1) : Nat) : Int) = 0 := by rw [ho]; rfl
        have hec : (((ofR x).2.2 : Nat) : Int) = 0 := by omega
        rw [vc_seq]
        simp only [↓gaW, ↓gaV, ↓gaC, gaP, Nat.reduceEqDiff, Nat.reduceLeDiff, Nat.reduceAdd, Nat.reduceSub, Nat.reduceMul, Int.reduceLT, Int.reduceLE, Int.reduceEq, Int.reduceToNat, Int.reduceAdd, Int.reduceSub, Int.reduceMul, reduceCtorEq, ↓reduceIte, hec, not_true, decide_true, decide_false, Bool.not_true, hzd]
        rw [D_thn_n]
        simp only [↓gaW, ↓gaV, ↓gaC, gaP, Nat.reduceEqDiff, Nat.reduceLeDiff, Nat.reduceAdd, Nat.reduceSub, Nat.reduceMul, Int.reduceLT, Int.reduceLE, Int.reduceEq, Int.reduceToNat, Int.reduceAdd, Int.reduceSub, Int.reduceMul, reduceCtorEq, ↓reduceIte]
        exact tail _ ⟨by simp only [↓gaW, ↓gaV, ↓gaC, ↓gaN, gaP, Nat.reduceEqDiff, Nat.reduceLeDiff, Nat.reduceAdd, Nat.reduceSub, Nat.reduceMul, Int.reduceLT, Int.reduceLE, Int.reduceEq, Int.reduceToNat, Int.reduceAdd, Int.reduceSub, Int.reduceMul, reduceCtorEq, ↓reduceIte, f1], by simp only [↓gaW, ↓gaV, ↓gaC, ↓gaN, gaP, Nat.reduceEqDiff, Nat.reduceLeDiff, Nat.reduceAdd, Nat.reduceSub, Nat.reduceMul, Int.reduceLT, Int.reduceLE, Int.reduceEq, Int.reduceToNat, Int.reduceAdd, Int.reduceSub, Int.reduceMul, reduceCtorEq, ↓reduceIte, f3]⟩
      · have hec : ¬ (((ofR x).2.2 : Nat) : Int) = 0 := by omega
        rw [vc_seq]
        simp only [↓gaW, ↓gaV, ↓gaC, gaP, Nat.reduceEqDiff, Nat.reduceLeDiff, Nat.reduceAdd, Nat.reduceSub, Nat.reduceMul, Int.reduceLT, Int.reduceLE, Int.reduceEq, Int.reduceToNat, Int.reduceAdd, Int.reduceSub, Int.reduceMul, reduceCtorEq, ↓reduceIte, hec, decide_true, decide_false]
        rw [D_thn_n]
        simp only [↓gaW, ↓gaV, ↓gaC, gaP, Nat.reduceEqDiff, Nat.reduceLeDiff, Nat.reduceAdd, Nat.reduceSub, Nat.reduceMul, Int.reduceLT, Int.reduceLE, Int.reduceEq, Int.reduceToNat, Int.reduceAdd, Int.reduceSub, Int.reduceMul, reduceCtorEq, ↓reduceIte]
        exact tail _ ⟨by simp only [↓gaW, ↓gaV, ↓gaC, ↓gaN, gaP, Nat.reduceEqDiff, Nat.reduceLeDiff, Nat.reduceAdd, Nat.reduceSub, Nat.reduceMul, Int.reduceLT, Int.reduceLE, Int.reduceEq, Int.reduceToNat, Int.reduceAdd, Int.reduceSub, Int.reduceMul, reduceCtorEq, ↓reduceIte, f1], by simp only [↓gaW, ↓gaV, ↓gaC, ↓gaN, gaP, Nat.reduceEqDiff, Nat.reduceLeDiff, Nat.reduceAdd, Nat.reduceSub, Nat.reduceMul, Int.reduceLT, Int.reduceLE, Int.reduceEq, Int.reduceToNat, Int.reduceAdd, Int.reduceSub, Int.reduceMul, reduceCtorEq, ↓reduceIte, f3]⟩
    rintro fd ⟨f1, f3⟩
    simp only [↓gaW, ↓gaV, ↓gaC, ↓gaN, gaP, Nat.reduceEqDiff, Nat.reduceLeDiff, Nat.reduceAdd, Nat.reduceSub, Nat.reduceMul, Int.reduceLT, Int.reduceLE, Int.reduceEq, Int.reduceToNat, Int.reduceAdd, Int.reduceSub, Int.reduceMul, reduceCtorEq, ↓reduceIte, f1, hbd]
    repeat refine And.intro (by omega) ?_
    refine callK_of (ct_Words (h.keep (x' := xd) (by omega) Fd) (by omega)) (fun v xe ge le ke hC => ?_) (by omega)
    subst hC
    have Fe : ∀ p, p < nx → ge p = gt p := fun p hp => by rw [ke p (by omega), Fd p hp]
    have hbe : ge nx = some (.cells (nodeL x.t B m d A n c) false) := by rw [ke nx (by omega), hbd]
    simp only [↓gaW, ↓gaV, ↓gaC, ↓gaN, gaP, Nat.reduceEqDiff, Nat.reduceLeDiff, Nat.reduceAdd, Nat.reduceSub, Nat.reduceMul, Int.reduceLT, Int.reduceLE, Int.reduceEq, Int.reduceToNat, Int.reduceAdd, Int.reduceSub, Int.reduceMul, reduceCtorEq, ↓reduceIte, strV]
    repeat refine And.intro (by omega) ?_
    have hwsf : (nodeOf (textR (wordsR x).1)).f.ws < 900000 := by have := text_nws (l := (wordsR x).1); omega
    refine callK_of (ct_TextE (s := ⟨(wordsR x).1.toArray⟩) (by show (wordsR x).1.length ≤ _; omega)) (fun v xf gf lf kf hC => ?_) (by omega)
    obtain ⟨Bf, mf, df, Af, nf, cf, ksf, rfl, Nf⟩ := hC.any
    have Ff : ∀ p, p < nx → gf p = gt p := fun p hp => by rw [kf p (by omega), Fe p hp]
    have hbf : gf nx = some (.cells (nodeL x.t B m d A n c) false) := by rw [kf nx (by omega), hbe]
    have nxnef : (nx = xf) = False := by simp; omega
    simp only [↓gaW, ↓gaV, ↓gaC, ↓gaN, gaP, Nat.reduceEqDiff, Nat.reduceLeDiff, Nat.reduceAdd, Nat.reduceSub, Nat.reduceMul, Int.reduceLT, Int.reduceLE, Int.reduceEq, Int.reduceToNat, Int.reduceAdd, Int.reduceSub, Int.reduceMul, reduceCtorEq, ↓reduceIte, List.getD_cons_zero, List.getD_cons_succ, fillL, splice, List.take_zero, List.drop_zero, List.drop_succ_cons, List.take_succ_cons, List.drop_nil, List.take_nil, gaU, f1, f3, nxnef, hbf]
    repeat refine And.intro (by omega) ?_
    refine And.intro (node_cells _ _ _ _ _ _ _) ?_
    repeat refine And.intro (by omega) ?_
    obtain ⟨gg, eg, Gg, hqg⟩ := boxed (g := gf) (x := xf) (cs := [Value.int .i64 0, .slice none 0 0, .slice none 0 0]) (ds := nodeL (nodeOf (textR (wordsR x).1)).t Bf mf df Af nf cf)
    rw [← eg]; clear eg
    obtain ⟨xg, exg⟩ : ∃ y, y = xf + 1 := ⟨_, rfl⟩
    rw [← exg]
    have Fg : ∀ p, p < nx → gg p = gt p := fun p hp => by rw [Gg p (by omega), Ff p hp]
    have hbg : gg nx = some (.cells (nodeL x.t B m d A n c) false) := by rw [Gg nx (by omega), hbf]
    refine callK_of (ct_Same (nodeOf (textR (wordsR x).1)) (by omega) x _ _ _ _ _ _ _ _ _ _ _ _ _ _ _ _ (Nf.r.keep (x' := xg) (by omega) Gg) (h.keep (x' := xg) (by omega) Fg)) (fun v xh gh lh kh hC => ?_) (by omega)
    obtain ⟨sh, rfl, hsh⟩ := hC
    have Fh : ∀ p, p < nx → gh p = gt p := fun p hp => by rw [kh p (by omega), Fg p hp]
    have hbh : gh nx = some (.cells (nodeL x.t B m d A n c) false) := by rw [kh nx (by omega), hbg]
    simp only [↓gaW, ↓gaV, ↓gaC, gaP, Nat.reduceEqDiff, Nat.reduceLeDiff, Nat.reduceAdd, Nat.reduceSub, Nat.reduceMul, Int.reduceLT, Int.reduceLE, Int.reduceEq, Int.reduceToNat, Int.reduceAdd, Int.reduceSub, Int.reduceMul, reduceCtorEq, ↓reduceIte]
    rw [D_thn_n, vc_seq]
    refine fork (fun f' => f' 1 = .pointer (some ⟨nx, 0, none⟩) ∧ f' 3 = .bool true) (fun tail => ?_) ?_
    · by_cases heh : (wordsR x).2 = 0
      · have ho := wjust heh
        have : sh = true := hsh.2 (by rw [ho]; rfl)
        subst this
        have hzh : ((errOf (textR (wordsR x).1) : Nat) : Int) = 0 := by rw [ho]; rfl
        have hec : (((wordsR x).2 : Nat) : Int) = 0 := by omega
        rw [vc_seq]
        simp only [↓gaW, ↓gaV, ↓gaC, gaP, Nat.reduceEqDiff, Nat.reduceLeDiff, Nat.reduceAdd, Nat.reduceSub, Nat.reduceMul, Int.reduceLT, Int.reduceLE, Int.reduceEq, Int.reduceToNat, Int.reduceAdd, Int.reduceSub, Int.reduceMul, reduceCtorEq, ↓reduceIte, hec, not_true, decide_true, decide_false, Bool.not_true, hzh]
        rw [D_thn_n]
        simp only [↓gaW, ↓gaV, ↓gaC, gaP, Nat.reduceEqDiff, Nat.reduceLeDiff, Nat.reduceAdd, Nat.reduceSub, Nat.reduceMul, Int.reduceLT, Int.reduceLE, Int.reduceEq, Int.reduceToNat, Int.reduceAdd, Int.reduceSub, Int.reduceMul, reduceCtorEq, ↓reduceIte]
        exact tail _ ⟨by simp only [↓gaW, ↓gaV, ↓gaC, ↓gaN, gaP, Nat.reduceEqDiff, Nat.reduceLeDiff, Nat.reduceAdd, Nat.reduceSub, Nat.reduceMul, Int.reduceLT, Int.reduceLE, Int.reduceEq, Int.reduceToNat, Int.reduceAdd, Int.reduceSub, Int.reduceMul, reduceCtorEq, ↓reduceIte, f1], by simp only [↓gaW, ↓gaV, ↓gaC, ↓gaN, gaP, Nat.reduceEqDiff, Nat.reduceLeDiff, Nat.reduceAdd, Nat.reduceSub, Nat.reduceMul, Int.reduceLT, Int.reduceLE, Int.reduceEq, Int.reduceToNat, Int.reduceAdd, Int.reduceSub, Int.reduceMul, reduceCtorEq, ↓reduceIte, f3]⟩
      · have hec : ¬ (((wordsR x).2 : Nat) : Int) = 0 := by omega
        rw [vc_seq]
        simp only [↓gaW, ↓gaV, ↓gaC, gaP, Nat.reduceEqDiff, Nat.reduceLeDiff, Nat.reduceAdd, Nat.reduceSub, Nat.reduceMul, Int.reduceLT, Int.reduceLE, Int.reduceEq, Int.reduceToNat, Int.reduceAdd, Int.reduceSub, Int.reduceMul, reduceCtorEq, ↓reduceIte, hec, decide_true, decide_false]
        rw [D_thn_n]
        simp only [↓gaW, ↓gaV, ↓gaC, gaP, Nat.reduceEqDiff, Nat.reduceLeDiff, Nat.reduceAdd, Nat.reduceSub, Nat.reduceMul, Int.reduceLT, Int.reduceLE, Int.reduceEq, Int.reduceToNat, Int.reduceAdd, Int.reduceSub, Int.reduceMul, reduceCtorEq, ↓reduceIte]
        exact tail _ ⟨by simp only [↓gaW, ↓gaV, ↓gaC, ↓gaN, gaP, Nat.reduceEqDiff, Nat.reduceLeDiff, Nat.reduceAdd, Nat.reduceSub, Nat.reduceMul, Int.reduceLT, Int.reduceLE, Int.reduceEq, Int.reduceToNat, Int.reduceAdd, Int.reduceSub, Int.reduceMul, reduceCtorEq, ↓reduceIte, f1], by simp only [↓gaW, ↓gaV, ↓gaC, ↓gaN, gaP, Nat.reduceEqDiff, Nat.reduceLeDiff, Nat.reduceAdd, Nat.reduceSub, Nat.reduceMul, Int.reduceLT, Int.reduceLE, Int.reduceEq, Int.reduceToNat, Int.reduceAdd, Int.reduceSub, Int.reduceMul, reduceCtorEq, ↓reduceIte, f3]⟩
    rintro fh ⟨f1, f3⟩
    simp only [↓gaW, ↓gaV, ↓gaC, ↓gaN, gaP, Nat.reduceEqDiff, Nat.reduceLeDiff, Nat.reduceAdd, Nat.reduceSub, Nat.reduceMul, Int.reduceLT, Int.reduceLE, Int.reduceEq, Int.reduceToNat, Int.reduceAdd, Int.reduceSub, Int.reduceMul, reduceCtorEq, ↓reduceIte, f1, hbh]
    repeat refine And.intro (by omega) ?_
    refine callK_of (ct_When hab hoa hrd (h.keep (x' := xh) (by omega) Fh) (by omega)) (fun v xi gi li ki hC => ?_) (by omega)
    subst hC
    have Fi : ∀ p, p < nx → gi p = gt p := fun p hp => by rw [ki p (by omega), Fh p hp]
    have hbi : gi nx = some (.cells (nodeL x.t B m d A n c) false) := by rw [ki nx (by omega), hbh]
    simp only [↓gaW, ↓gaV, ↓gaC, ↓gaN, gaP, Nat.reduceEqDiff, Nat.reduceLeDiff, Nat.reduceAdd, Nat.reduceSub, Nat.reduceMul, Int.reduceLT, Int.reduceLE, Int.reduceEq, Int.reduceToNat, Int.reduceAdd, Int.reduceSub, Int.reduceMul, reduceCtorEq, ↓reduceIte]
    repeat refine And.intro (by omega) ?_
    have hwsj : (nodeOf (timeR ow)).f.ws < 900000 := by have := time_nws (o := ow); omega
    refine callK_of (ct_TimeE tlim how) (fun v xj gj lj kj hC => ?_) (by omega)
    obtain ⟨Bj, mj, dj, Aj, nj, cj, ksj, rfl, Nj⟩ := hC.any
    have Fj : ∀ p, p < nx → gj p = gt p := fun p hp => by rw [kj p (by omega), Fi p hp]
    have hbj : gj nx = some (.cells (nodeL x.t B m d A n c) false) := by rw [kj nx (by omega), hbi]
    have nxnej : (nx = xj) = False := by simp; omega
    simp only [↓gaW, ↓gaV, ↓gaC, ↓gaN, gaP, Nat.reduceEqDiff, Nat.reduceLeDiff, Nat.reduceAdd, Nat.reduceSub, Nat.reduceMul, Int.reduceLT, Int.reduceLE, Int.reduceEq, Int.reduceToNat, Int.reduceAdd, Int.reduceSub, Int.reduceMul, reduceCtorEq, ↓reduceIte, List.getD_cons_zero, List.getD_cons_succ, fillL, splice, List.take_zero, List.drop_zero, List.drop_succ_cons, List.take_succ_cons, List.drop_nil, List.take_nil, gaU, f1, f3, nxnej, hbj]
    repeat refine And.intro (by omega) ?_
    refine And.intro (node_cells _ _ _ _ _ _ _) ?_
    repeat refine And.intro (by omega) ?_
    obtain ⟨gk, ek, Gk, hqk⟩ := boxed (g := gj) (x := xj) (cs := [Value.int .i64 0, .slice none 0 0, .slice none 0 0]) (ds := nodeL (nodeOf (timeR ow)).t Bj mj dj Aj nj cj)
    rw [← ek]; clear ek
    obtain ⟨xk, exk⟩ : ∃ y, y = xj + 1 := ⟨_, rfl⟩
    rw [← exk]
    have Fk : ∀ p, p < nx → gk p = gt p := fun p hp => by rw [Gk p (by omega), Fj p hp]
    have hbk : gk nx = some (.cells (nodeL x.t B m d A n c) false) := by rw [Gk nx (by omega), hbj]
    refine callK_of (ct_Same (nodeOf (timeR ow)) (by omega) x _ _ _ _ _ _ _ _ _ _ _ _ _ _ _ _ (Nj.r.keep (x' := xk) (by omega) Gk) (h.keep (x' := xk) (by omega) Fk)) (fun v xl gl ll kl hC => ?_) (by omega)
    obtain ⟨sl, rfl, hsl⟩ := hC
    have Fl : ∀ p, p < nx → gl p = gt p := fun p hp => by rw [kl p (by omega), Fk p hp]
    have hbl : gl nx = some (.cells (nodeL x.t B m d A n c) false) := by rw [kl nx (by omega), hbk]
    by_cases hel : (whenR a is oa x).2 = 0
    · have ho := tjust hel
      have : sl = true := hsl.2 (by rw [ho]; rfl)
      subst this
      have hzl : ((errOf (timeR ow) : Nat) : Int) = 0 := by rw [ho]; rfl
      have hec : (((whenR a is oa x).2 : Nat) : Int) = 0 := by omega
      simp only [↓gaW, ↓gaV, ↓gaC, ↓gaN, gaP, Nat.reduceEqDiff, Nat.reduceLeDiff, Nat.reduceAdd, Nat.reduceSub, Nat.reduceMul, Int.reduceLT, Int.reduceLE, Int.reduceEq, Int.reduceToNat, Int.reduceAdd, Int.reduceSub, Int.reduceMul, reduceCtorEq, ↓reduceIte, gaE, implies_true, Nat.le_refl, Int.sub_zero, Nat.sub_zero, Int.le_refl, true_or, or_true, List.getD_cons_zero, List.getD_cons_succ, fillL, splice, List.take_zero, List.drop_zero, List.drop_succ_cons, List.take_succ_cons, List.drop_nil, List.take_nil, f3, hzl, hec, not_true, decide_true, decide_false]
      repeat refine And.intro (by omega) ?_
      exact Fl
    · have hec : ¬ (((whenR a is oa x).2 : Nat) : Int) = 0 := by omega
      simp only [↓gaW, ↓gaV, ↓gaC, ↓gaN, gaP, Nat.reduceEqDiff, Nat.reduceLeDiff, Nat.reduceAdd, Nat.reduceSub, Nat.reduceMul, Int.reduceLT, Int.reduceLE, Int.reduceEq, Int.reduceToNat, Int.reduceAdd, Int.reduceSub, Int.reduceMul, reduceCtorEq, ↓reduceIte, gaE, implies_true, Nat.le_refl, Int.sub_zero, Nat.sub_zero, Int.le_refl, true_or, or_true, List.getD_cons_zero, List.getD_cons_succ, fillL, splice, List.take_zero, List.drop_zero, List.drop_succ_cons, List.take_succ_cons, List.drop_nil, List.take_nil, f3, hec, not_false_eq_true, decide_true, decide_false]
      repeat refine And.intro (by omega) ?_
      exact Fl
end
end Go.Ga
