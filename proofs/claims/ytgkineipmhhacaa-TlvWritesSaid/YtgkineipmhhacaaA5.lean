/- Words and contracts of functions for the statement's proof. No condition. -/
import Derived.Test.YtgkineipmhhacaaA4
import Derived.ChangeArms
import Derived.OpenShut
import Derived.DataReads
set_option linter.all false

/- The laws TlvReads and TlvWrites. -/
namespace Go.Ga
open Go Go.Proofs
set_option linter.unusedSimpArgs false
set_option linter.unusedVariables false
set_option maxRecDepth 100000

theorem rd_one : Fo.rd [48, 3, 2, 1, 5] = .ok ⟨48, [], .cons 2 [5] .nil .nil⟩ := by kernel_rfl
theorem rd_two : Fo.rd [48, 3, 2, 2, 5] = .error 2 := by kernel_rfl

/-- A node in a block of its own. -/
theorem boxed {g : Nat → Option Blk} {x : Nat} {cs ds : List Value} : ∃ g', g' = upd (upd g x (some (.cells cs false))) x (some (.cells ds false)) ∧ (∀ p, p < x → g' p = g p) ∧ g' x = some (.cells ds false) :=
  ⟨_, rfl, fun p hp => by simp only [upd_e]; rw [if_neg (by omega), if_neg (by omega)], by simp only [upd_e, if_true]⟩

section
variable {nx : Nat} {gt : Nat → Option Blk}

theorem ct_awake04 : Ct Try.prog 9 [] nx gt fun v _ _ => v = .bool true := by
  refine Ct.of hmx r_lanyardlaw04_awake (by simp [c_lanyardlaw04_awake]) fun b hb => ?_
  have h1 : ∀ (x : Nat) (g : Nat → Option Blk), Row (x + 1) (upd g x (some (.cells [.int .u8 48, .int .u8 3, .int .u8 2, .int .u8 1, .int .u8 5] false))) 1 (some ⟨x, 0, none⟩) 5 (([48, 3, 2, 1, 5] : List UInt8).map u8V) := fun x g => Row.lit (by omega) (by simp only [upd_e, if_true]; rfl) rfl
  have h2 : ∀ (x : Nat) (g : Nat → Option Blk), Row (x + 1) (upd g x (some (.cells [.int .u8 48, .int .u8 3, .int .u8 2, .int .u8 2, .int .u8 5] false))) 1 (some ⟨x, 0, none⟩) 5 (([48, 3, 2, 2, 5] : List UInt8).map u8V) := fun x g => Row.lit (by omega) (by simp only [upd_e, if_true]; rfl) rfl
  have hF : ∀ (x : Nat) (g : Nat → Option Blk) (cs : List Value) p, p < x → upd g x (some (.cells cs false)) p = g p := fun x g cs p hp => by simp only [upd_e]; rw [if_neg (by omega)]
  simp only [c_lanyardlaw04_awake, ↓gaW, ↓gaV, ↓gaC, ↓gaN, gaP, Nat.reduceEqDiff, Nat.reduceLeDiff, Nat.reduceAdd, Nat.reduceSub, Nat.reduceMul, Int.reduceLT, Int.reduceLE, Int.reduceEq, Int.reduceToNat, Int.reduceAdd, Int.reduceSub, Int.reduceMul, reduceCtorEq, ↓reduceIte, List.getD_cons_zero, List.getD_cons_succ, fillL, splice, List.take_zero, List.drop_zero, List.drop_succ_cons, List.take_succ_cons, List.drop_nil, List.take_nil, gaU]
  refine callK_of (ct_Read (h1 _ _) (Nat.le_refl _) (by omega)) (fun v x1 g1 l1 k1 hC => ?_) (by omega)
  rw [rd_one] at hC
  obtain ⟨B, m, d, A, n, c, ks, rfl, hN⟩ := hC
  have F1 : ∀ p, p < nx → g1 p = gt p := fun p hp => by rw [k1 p (by omega), hF _ _ _ p (by omega)]
  have hn1 : n = 1 := hN.len
  simp only [↓gaW, ↓gaV, ↓gaC, ↓gaN, gaP, Nat.reduceEqDiff, Nat.reduceLeDiff, Nat.reduceAdd, Nat.reduceSub, Nat.reduceMul, Int.reduceLT, Int.reduceLE, Int.reduceEq, Int.reduceToNat, Int.reduceAdd, Int.reduceSub, Int.reduceMul, reduceCtorEq, ↓reduceIte, List.getD_cons_zero, List.getD_cons_succ, fillL, splice, List.take_zero, List.drop_zero, List.drop_succ_cons, List.take_succ_cons, List.drop_nil, List.take_nil, gaU]
  refine And.intro (by omega) (And.intro (by omega) (And.intro (by omega) (And.intro (node_cells _ _ _ _ _ _ _) ?_)))
  obtain ⟨g2, e2, G2, hb2⟩ := boxed (g := g1) (x := x1) (cs := [Value.int .i64 0, .slice none 0 0, .slice none 0 0]) (ds := nodeL 48 B m d A n c)
  rw [← e2]; clear e2
  have hN2 := hN.keep (x' := x1 + 1) (by omega) G2
  refine callK_of (ct_Write (x := ⟨48, [], .cons 2 [5] .nil .nil⟩) (by decide) hN2) (fun v x3 g3 l3 k3 hC => ?_) (by omega)
  rw [Fo.wr_rd rd_one] at hC
  obtain ⟨A3, N3, rfl, hN3, r3⟩ := hC
  have F3 : ∀ p, p < nx → g3 p = gt p := fun p hp => by rw [k3 p (by omega), G2 p (by omega), F1 p hp]
  have hb3 : g3 x1 = some (.cells (nodeL 48 B m d A n c) false) := by rw [k3 x1 (by omega), hb2]
  simp only [↓gaW, ↓gaV, ↓gaC, ↓gaN, gaP, Nat.reduceEqDiff, Nat.reduceLeDiff, Nat.reduceAdd, Nat.reduceSub, Nat.reduceMul, Int.reduceLT, Int.reduceLE, Int.reduceEq, Int.reduceToNat, Int.reduceAdd, Int.reduceSub, Int.reduceMul, reduceCtorEq, ↓reduceIte, List.getD_cons_zero, List.getD_cons_succ, fillL, splice, List.take_zero, List.drop_zero, List.drop_succ_cons, List.take_succ_cons, List.drop_nil, List.take_nil, gaU]
  have r4 := r3.keep (nx' := x3 + 1) (by omega) (hF x3 g3 [.int .u8 48, .int .u8 3, .int .u8 2, .int .u8 2, .int .u8 5])
  repeat refine And.intro (by omega) ?_
  refine callK_of (ct_Read (h2 _ _) (Nat.le_refl _) (by omega)) (fun v x5 g5 l5 k5 hC => ?_) (by omega)
  rw [rd_two] at hC
  have hC : v = _ := hC
  subst hC
  have F5 : ∀ p, p < nx → g5 p = gt p := fun p hp => by rw [k5 p (by omega), hF _ _ _ p (by omega), F3 p hp]
  have hb5 : g5 x1 = some (.cells (nodeL 48 B m d A n c) false) := by rw [k5 x1 (by omega), hF _ _ _ x1 (by omega), hb3]
  have r5 := r4.keep l5 k5
  obtain ⟨g6, e6, G6, hb6⟩ := boxed (g := g5) (x := x5) (cs := [Value.int .i64 0, .slice none 0 0, .slice none 0 0]) (ds := nodeL 0 none 0 0 none 0 0)
  have hx15 : (x1 = x5) = False := by simp; omega
  have r6 := r5.keep (nx' := x5 + 1) (gt' := g6) (by omega) G6
  have e7 : rowOf ⟨x5 + 1, b, g6⟩ A3 N3 = some _ := r6.rowOf
  have hb7 : g6 x1 = some (.cells (nodeL 48 B m d A n c) false) := by rw [G6 x1 (by omega), hb5]
  have hs : (([48, 3, 2, 1, 5] : List UInt8) == [48, 3, 2, 1, 5]) = true := by decide
  subst hn1
  have hbs : bytesOf [u8V 48, u8V 3, u8V 2, u8V 1, u8V 5] = some [48, 3, 2, 1, 5] := bytesOf_map [48, 3, 2, 1, 5]
  simp only [↓gaW, ↓gaV, ↓gaC, ↓gaN, gaP, Nat.reduceEqDiff, Nat.reduceLeDiff, Nat.reduceAdd, Nat.reduceSub, Nat.reduceMul, Int.reduceLT, Int.reduceLE, Int.reduceEq, Int.reduceToNat, Int.reduceAdd, Int.reduceSub, Int.reduceMul, reduceCtorEq, ↓reduceIte, List.getD_cons_zero, List.getD_cons_succ, fillL, splice, List.take_zero, List.drop_zero, List.drop_succ_cons, List.take_succ_cons, List.drop_nil, List.take_nil, gaU]
  refine And.intro (by omega) (And.intro (by omega) (And.intro (by omega) (And.intro (node_cells _ _ _ _ _ _ _) ?_)))
  rw [← e6]
  simp only [↓gaW, ↓gaV, ↓gaC, ↓gaN, gaP, Nat.reduceEqDiff, Nat.reduceLeDiff, Nat.reduceAdd, Nat.reduceSub, Nat.reduceMul, Int.reduceLT, Int.reduceLE, Int.reduceEq, Int.reduceToNat, Int.reduceAdd, Int.reduceSub, Int.reduceMul, reduceCtorEq, ↓reduceIte, List.getD_cons_zero, List.getD_cons_succ, fillL, splice, List.take_zero, List.drop_zero, List.drop_succ_cons, List.take_succ_cons, List.drop_nil, List.take_nil, gaE, implies_true, Nat.le_refl, Int.sub_zero, Nat.sub_zero, Int.le_refl, true_or, or_true, gaU, hx15, hb5, nodeL, e7, hbs, str_eq, hs]
  repeat refine And.intro (by omega) ?_
  exact fun p hp => by rw [G6 p (by omega), F5 p hp]

theorem fo_ws {x : Fo.El} (h : x.f.rs) : x.f.ws ≤ x.f.ly.length := by
  have key : ∀ F : Fo, F.rs → F.ws ≤ F.ly.length := by
    intro F
    induction F with
    | nil => intro _; exact Nat.le_refl _
    | cons t b k r ih1 ih2 =>
      intro h
      simp only [Fo.rs] at h
      have h1 := ih1 h.2.1
      have h2 := ih2 h.2.2
      simp only [Fo.ws, Fo.ly, List.length_append, Fo.hb_len]
      have := Fo.hn_le (b.length + k.ly.length)
      omega
  exact key _ h
theorem rd_ws {l : List UInt8} {x : Fo.El} (h : Fo.rd l = .ok x) : x.f.ws ≤ l.length ∧ x.f.rs := by
  obtain ⟨h1, h2, h3, rfl⟩ := Fo.wr_ok (Fo.wr_rd h)
  exact ⟨fo_ws h1, h1⟩

/-- A node, of which nothing more is known. -/
theorem ReadV.some {x : Nat} {g : Nat → Option Blk} {v : Value} {r : Except Nat Fo.El} (h : ReadV x g v r) : ∃ (y : Fo.El) (e : Nat) (B : Option Addr) (m d : Nat) (A : Option Addr) (k c : Nat) (ks : List Value), v = .tuple #[nodeV y.t B m d A k c, .int .i64 (e : Nat)] ∧ NdR x g y B m d A k c ks ∧
    ((r = .ok y ∧ e = 0) ∨ (r = .error e ∧ y = ⟨0, [], .nil⟩)) := by
  cases r with
  | error e => exact ⟨⟨0, [], .nil⟩, e, none, 0, 0, none, 0, 0, [], h, .zero, .inr ⟨rfl, rfl⟩⟩
  | ok y =>
    obtain ⟨B, m, d, A, k, c, ks, h1, h2⟩ := h
    exact ⟨y, 0, B, m, d, A, k, c, ks, h1, h2, .inl ⟨rfl, rfl⟩⟩

theorem fn_Reads {A : Option Addr} {n c : Nat} {l : List UInt8} (hA : Row nx gt 1 A n (l.map u8V)) (hc : n ≤ c) :
    Ct Try.prog 3 [.slice A n c] nx gt fun v _ _ => v = .bool true := by
  have hl : l.length = n := by simpa using hA.len
  refine Ct.of hmx r_lanyardlaw04_TlvReads (by simp [c_lanyardlaw04_TlvReads]) fun b hb => ?_
  simp only [c_lanyardlaw04_TlvReads, ↓gaW, ↓gaV, ↓gaC, ↓gaN, gaP, Nat.reduceEqDiff, Nat.reduceLeDiff, Nat.reduceAdd, Nat.reduceSub, Nat.reduceMul, Int.reduceLT, Int.reduceLE, Int.reduceEq, Int.reduceToNat, Int.reduceAdd, Int.reduceSub, Int.reduceMul, reduceCtorEq, ↓reduceIte, List.getD_cons_zero, List.getD_cons_succ, fillL, splice, List.take_zero, List.drop_zero, List.drop_succ_cons, List.take_succ_cons, List.drop_nil, List.take_nil, gaU]
  refine callK_of ct_awake04 (fun v x1 g1 l1 k1 hC => ?_) (by omega)
  subst hC
  have hA1 := hA.keep l1 k1
  by_cases hn : (21000 : Int) < (n : Int)
  · simp only [↓gaW, ↓gaV, ↓gaC, ↓gaN, gaP, Nat.reduceEqDiff, Nat.reduceLeDiff, Nat.reduceAdd, Nat.reduceSub, Nat.reduceMul, Int.reduceLT, Int.reduceLE, Int.reduceEq, Int.reduceToNat, Int.reduceAdd, Int.reduceSub, Int.reduceMul, reduceCtorEq, ↓reduceIte, gaE, implies_true, Nat.le_refl, Int.sub_zero, Nat.sub_zero, Int.le_refl, true_or, or_true, List.getD_cons_zero, List.getD_cons_succ, fillL, splice, List.take_zero, List.drop_zero, List.drop_succ_cons, List.take_succ_cons, List.drop_nil, List.take_nil, hn, decide_true]
    exact ⟨by omega, k1⟩
  simp only [↓gaW, ↓gaV, ↓gaC, ↓gaN, gaP, Nat.reduceEqDiff, Nat.reduceLeDiff, Nat.reduceAdd, Nat.reduceSub, Nat.reduceMul, Int.reduceLT, Int.reduceLE, Int.reduceEq, Int.reduceToNat, Int.reduceAdd, Int.reduceSub, Int.reduceMul, reduceCtorEq, ↓reduceIte, List.getD_cons_zero, List.getD_cons_succ, fillL, splice, List.take_zero, List.drop_zero, List.drop_succ_cons, List.take_succ_cons, List.drop_nil, List.take_nil, gaU, hn, decide_false]
  refine callK_of (ct_Read hA1 hc (by omega)) (fun v x2 g2 l2 k2 hC => ?_) (by omega)
  obtain ⟨y, e, B, m, d, A2, k, c2, ks, rfl, hN, hy⟩ := hC.some
  have F2 : ∀ p, p < nx → g2 p = gt p := fun p hp => by rw [k2 p (by omega), k1 p hp]
  have hA2 := hA1.keep l2 k2
  obtain ⟨g3, e3, G3, hb3⟩ := boxed (g := g2) (x := x2) (cs := [Value.int .i64 0, .slice none 0 0, .slice none 0 0]) (ds := nodeL y.t B m d A2 k c2)
  have hA3 := hA2.keep (nx' := x2 + 1) (gt' := g3) (by omega) G3
  have hN3 := hN.keep (x' := x2 + 1) (by omega) G3
  simp only [↓gaW, ↓gaV, ↓gaC, ↓gaN, gaP, Nat.reduceEqDiff, Nat.reduceLeDiff, Nat.reduceAdd, Nat.reduceSub, Nat.reduceMul, Int.reduceLT, Int.reduceLE, Int.reduceEq, Int.reduceToNat, Int.reduceAdd, Int.reduceSub, Int.reduceMul, reduceCtorEq, ↓reduceIte, List.getD_cons_zero, List.getD_cons_succ, fillL, splice, List.take_zero, List.drop_zero, List.drop_succ_cons, List.take_succ_cons, List.drop_nil, List.take_nil, gaU]
  repeat refine And.intro (by omega) ?_
  refine And.intro (node_cells _ _ _ _ _ _ _) ?_
  rw [← e3]; clear e3
  refine callK_of (ct_rRead hA3 hc (by omega)) (fun v x4 g4 l4 k4 hC => ?_) (by omega)
  obtain ⟨z, e', B', m', d', A', k', c', ks', rfl, hM, hz⟩ := hC.some
  have F4 : ∀ p, p < nx → g4 p = gt p := fun p hp => by rw [k4 p (by omega), G3 p (by omega), F2 p hp]
  have hb4 : g4 x2 = some (.cells (nodeL y.t B m d A2 k c2) false) := by rw [k4 x2 (by omega), hb3]
  obtain ⟨g5, e5, G5, hb5⟩ := boxed (g := g4) (x := x4) (cs := [Value.int .i64 0, .slice none 0 0, .slice none 0 0]) (ds := nodeL z.t B' m' d' A' k' c')
  have hN5 := (hN3.keep l4 k4).keep (x' := x4 + 1) (by omega) G5
  have hM5 := hM.keep (x' := x4 + 1) (by omega) G5
  have hb6 : g5 x2 = some (.cells (nodeL y.t B m d A2 k c2) false) := by rw [G5 x2 (by omega), hb4]
  have hx24 : (x2 = x4) = False := by simp; omega
  have hyz : y = z ∧ e = e' := by
    rcases hy with ⟨h1, h2⟩ | ⟨h1, h2⟩ <;> rcases hz with ⟨h3, h4⟩ | ⟨h3, h4⟩ <;> rw [h1] at h3
    · injection h3 with h3; exact ⟨h3, by omega⟩
    · cases h3
    · cases h3
    · injection h3 with h3; exact ⟨by rw [h2, h4], h3⟩
  obtain ⟨rfl, rfl⟩ := hyz
  have hws : y.f.ws < 1000000000000 := by
    rcases hy with ⟨h1, h2⟩ | ⟨h1, h2⟩
    · have := (rd_ws h1).1; omega
    · rw [h2]; decide
  simp only [↓gaW, ↓gaV, ↓gaC, ↓gaN, gaP, Nat.reduceEqDiff, Nat.reduceLeDiff, Nat.reduceAdd, Nat.reduceSub, Nat.reduceMul, Int.reduceLT, Int.reduceLE, Int.reduceEq, Int.reduceToNat, Int.reduceAdd, Int.reduceSub, Int.reduceMul, reduceCtorEq, ↓reduceIte, List.getD_cons_zero, List.getD_cons_succ, fillL, splice, List.take_zero, List.drop_zero, List.drop_succ_cons, List.take_succ_cons, List.drop_nil, List.take_nil, gaU, hx24, hb4, nodeL]
  repeat refine And.intro (by omega) ?_
  refine And.intro (node_cells _ _ _ _ _ _ _) ?_
  repeat refine And.intro (by omega) ?_
  rw [← e5]
  refine callK_of (ct_Same y hws y _ _ _ _ _ _ _ _ _ _ _ _ _ _ _ _ hN5 hM5) (fun v x6 g6 l6 k6 hC => ?_) (by omega)
  obtain ⟨r, rfl, hr⟩ := hC
  have hr : r = true := hr.2 rfl
  subst hr
  simp only [↓gaW, ↓gaV, ↓gaC, ↓gaN, gaP, Nat.reduceEqDiff, Nat.reduceLeDiff, Nat.reduceAdd, Nat.reduceSub, Nat.reduceMul, Int.reduceLT, Int.reduceLE, Int.reduceEq, Int.reduceToNat, Int.reduceAdd, Int.reduceSub, Int.reduceMul, reduceCtorEq, ↓reduceIte, gaE, implies_true, Nat.le_refl, Int.sub_zero, Nat.sub_zero, Int.le_refl, true_or, or_true, List.getD_cons_zero, List.getD_cons_succ, fillL, splice, List.take_zero, List.drop_zero, List.drop_succ_cons, List.take_succ_cons, List.drop_nil, List.take_nil, gaU, decide_true]
  exact ⟨by omega, fun p hp => by rw [k6 p (by omega), G5 p (by omega), F4 p hp]⟩
end
end Go.Ga

/- An array of whole numbers that a law is given. -/
namespace Go.Ga
open Go

section
variable {P : Program} {H : Type} {enc : TypeId × Value → H} {w : World} {base : Nat} {sp : Nat → Bool} {held : Bool} {t e : TypeId} {n : Nat} {k : IntKind}

def intOf : Option Value → Int
  | some (.int _ z) => z
  | _ => 0
theorem mapM_all {α β : Type} (f : α → Option β) (g : α → β) : ∀ (L : List α), (∀ i ∈ L, f i = some (g i)) → L.mapM f = some (L.map g)
  | [], _ => rfl
  | a :: L, h => by
    rw [List.mapM_cons, h a (by simp), mapM_all f g L fun i hi => h i (by simp [hi])]
    rfl
theorem mapM_inv {α β : Type} (f : α → Option β) : ∀ (L : List α) (xs : List β), L.mapM f = some xs → ∃ g : α → Option β, (∀ i ∈ L, f i = g i ∧ (g i).isSome) ∧ xs.map some = L.map g
  | [], xs, h => by
    simp at h
    subst h
    exact ⟨fun _ => none, by simp, rfl⟩
  | a :: L, xs, h => by
    rw [List.mapM_cons] at h
    simp only [bind, Option.bind_eq_some_iff, pure, Option.some.injEq] at h
    obtain ⟨y, hy, ys, hys, rfl⟩ := h
    obtain ⟨g, h1, h2⟩ := mapM_inv f L ys hys
    refine ⟨f, fun i hi => ⟨rfl, ?_⟩, ?_⟩
    · rcases List.mem_cons.1 hi with rfl | hi
      · simp [hy]
      · rw [(h1 i hi).1]; exact (h1 i hi).2
    · simp only [List.map_cons, hy, h2, List.cons.injEq, true_and]
      exact List.map_congr_left fun i hi => (h1 i hi).1.symm

def arrD (k : IntKind) (zs : List Int) : DataW H := .agg (zs.map fun z => .lit (.int k z))

theorem shut_arrI (ht : P.underlying t = some (.array n e)) (he : P.underlying e = some (.int k)) (hc : P.cellsOf e = 1) (hct : P.cellsOf t = n) {zs : List Int} (hl : zs.length = n) (hw : ∀ z ∈ zs, (Lit.int k z).wf = true) :
    DataW.Trod enc P w base sp held t (.agg (zs.map (Value.int k)).toArray) (arrD k zs) [] := by
  refine ⟨2, ?_⟩
  have h1 : ∀ i ∈ List.range n, DataW.trod enc P w base sp held 1 e (((zs.map (Value.int k)).drop (i * 1)).take 1) = some ((.lit (.int k (zs.getD i 0)) : DataW H), []) := by
    intro i hi
    have hi : i < zs.length := by rw [hl]; exact List.mem_range.1 hi
    have e1 : ((zs.map (Value.int k)).drop (i * 1)).take 1 = [.int k (zs.getD i 0)] := by
      rw [Nat.mul_one, List.drop_eq_getElem_cons (by simpa using hi)]
      simp [List.getD_eq_getElem?_getD, hi]
    rw [e1]
    have hwi : (Lit.int k (zs.getD i 0)).wf = true := hw _ (by rw [List.getD_eq_getElem?_getD, List.getElem?_eq_getElem hi]; exact List.getElem_mem hi)
    have hwi' := hwi
    simp only [List.getD_eq_getElem?_getD] at hwi' ⊢
    simp [DataW.trod, he, hwi']
  rw [DataW.trod_step]
  unfold DataW.trodStep
  simp only [ht, Value.cells, hct, hc, List.length_map, hl, if_true]
  rw [mapM_all _ _ _ h1]
  simp only [Option.map_some, List.map_map, arrD, Option.some.injEq, Prod.mk.injEq, DataW.agg.injEq]
  refine ⟨?_, by simp⟩
  refine List.ext_getElem (by simp [hl]) fun i h1 h2 => ?_
  have hi : i < zs.length := by simpa using h2
  simp [hi]

theorem open_arrI (ht : P.underlying t = some (.array n e)) (he : P.underlying e = some (.int k)) (hc : P.cellsOf e = 1) (hct : P.cellsOf t = n) {r : Reach} {b0 : Nat} {v : Value} {d : DataW H} {ps : List MemPlace} (hval : Value.okWide P w r b0 t v) (hd : DataW.Trod enc P w base sp held t v d ps) :
    ∃ zs : List Int, v = .agg (zs.map (Value.int k)).toArray ∧ zs.length = n ∧ (∀ z ∈ zs, (Lit.int k z).wf = true) ∧ d = arrD k zs ∧ ps = [] := by
  simp only [Value.okWide, ht] at hval
  obtain ⟨cs, rfl, hcs, _⟩ := hval
  obtain ⟨fuel, hf⟩ := hd
  cases fuel with
  | zero => simp [DataW.trod] at hf
  | succ fuel =>
    rw [DataW.trod_step] at hf
    unfold DataW.trodStep at hf
    simp only [ht, Value.cells] at hf
    rw [if_pos (by simpa using hcs)] at hf
    simp only [Option.map_eq_some_iff] at hf
    obtain ⟨xs, hx, e1⟩ := hf
    obtain ⟨g, hg, hgx⟩ := mapM_inv _ _ _ hx
    have hlen : cs.toList.length = n := by simp [hcs, hct]
    have cell : ∀ i, i < n → ∃ z, cs.toList[i]? = some (.int k z) ∧ (Lit.int k z).wf = true ∧ g i = some ((.lit (.int k z) : DataW H), []) := by
      intro i hi
      obtain ⟨h1, h2⟩ := hg i (List.mem_range.2 hi)
      obtain ⟨y, hy⟩ := Option.isSome_iff_exists.1 h2
      rw [hy] at h1
      obtain ⟨z, h3, rfl, h4⟩ := DataW.trod_int he h1
      refine ⟨z, ?_, h4, hy⟩
      rw [hc, Nat.mul_one, List.drop_eq_getElem_cons (by omega)] at h3
      simp at h3
      rw [List.getElem?_eq_getElem (by omega)]
      simp [h3]
    have hzs : ∃ zs : List Int, zs.length = n ∧ ∀ i, i < n → cs.toList[i]? = some (.int k (zs.getD i 0)) ∧ (Lit.int k (zs.getD i 0)).wf = true ∧ g i = some ((.lit (.int k (zs.getD i 0)) : DataW H), []) := by
      refine ⟨(List.range n).map fun i => intOf cs.toList[i]?, by simp, fun i hi => ?_⟩
      obtain ⟨z, h1, h2, h3⟩ := cell i hi
      have : ((List.range n).map fun i => intOf cs.toList[i]?).getD i 0 = z := by
        rw [List.getD_eq_getElem?_getD, List.getElem?_map, List.getElem?_range hi]
        simp only [Option.map_some, h1, Option.getD_some, intOf]
      rw [this]
      exact ⟨h1, h2, h3⟩
    obtain ⟨zs, hl, hz⟩ := hzs
    refine ⟨zs, ?_, hl, fun z hmem => ?_, ?_, ?_⟩
    · congr 1
      apply Array.ext'
      refine List.ext_getElem? fun i => ?_
      rcases Nat.lt_or_ge i n with h | h
      · rw [(hz i h).1]
        simp [List.getElem?_map, List.getD_eq_getElem?_getD, List.getElem?_eq_getElem (show i < zs.length by omega)]
      · rw [List.getElem?_eq_none (by omega), List.getElem?_eq_none (by simp; omega)]
    · obtain ⟨i, hi, rfl⟩ := List.getElem_of_mem hmem
      have := (hz i (by omega)).2.1
      simpa [List.getD_eq_getElem?_getD, List.getElem?_eq_getElem hi] using this
    · simp only [Prod.mk.injEq] at e1
      rw [← e1.1, arrD]
      congr 1
      refine List.ext_getElem? fun i => ?_
      have hxi : (xs.map some)[i]? = ((List.range n).map g)[i]? := by rw [hgx]
      rcases Nat.lt_or_ge i n with h | h
      · rw [List.getElem?_map, List.getElem?_map, List.getElem?_range h, Option.map_some, (hz i h).2.2] at hxi
        cases hx1 : xs[i]? with
        | none => simp [hx1] at hxi
        | some y =>
          simp only [hx1, Option.map_some, Option.some.injEq] at hxi
          simp [hx1, hxi, List.getD_eq_getElem?_getD, List.getElem?_eq_getElem (show i < zs.length by omega)]
      · have : xs.length = n := by
          have := congrArg List.length hgx
          simpa using this
        rw [List.getElem?_eq_none (by simp; omega), List.getElem?_eq_none (by simp; omega)]
    · simp only [Prod.mk.injEq] at e1
      rw [← e1.2, List.flatMap_eq_nil_iff]
      intro y hy
      obtain ⟨i, hi, rfl⟩ := List.getElem_of_mem hy
      have hn : xs.length = n := by
        have := congrArg List.length hgx
        simpa using this
      have hxi : (xs.map some)[i]? = ((List.range n).map g)[i]? := by rw [hgx]
      rw [List.getElem?_map, List.getElem?_eq_getElem hi, List.getElem?_map, List.getElem?_range (by omega), Option.map_some, Option.map_some, (hz i (by omega)).2.2] at hxi
      simp only [Option.some.injEq] at hxi
      rw [hxi]
end

theorem absV_arr {w : World} {k : IntKind} {zs : List Int} : absV w (.agg (zs.map (Value.int k)).toArray) = .agg (zs.map (Value.int k)).toArray := by
  simp only [absV]
  congr 1
  apply Array.ext'
  simp [Function.comp_def, absC, goodV]
theorem list6 {zs : List Int} (h : zs.length = 6) : ∃ a b c d e f, zs = [a, b, c, d, e, f] := by
  match zs, h with
  | [a, b, c, d, e, f], _ => exact ⟨a, b, c, d, e, f, rfl⟩
end Go.Ga

/- A slice of words that a law is given. -/
namespace Go.Ga
open Go

theorem wf_u32 {n : Int} (h : (Lit.int .u32 n).wf = true) : 0 ≤ n ∧ n ≤ 4294967295 := by
  have := (Lit.wf_int_iff _ _).1 h
  simpa [IntKind.min, IntKind.max, IntKind.signed, IntKind.bits] using this
theorem wf_u32N {n : Int} (h : (Lit.int .u32 n).wf = true) : ∃ x : Nat, n = x ∧ x < 4294967296 := by
  have := wf_u32 h
  exact ⟨n.toNat, by omega, by omega⟩

/-- A row's slice of words. -/
theorem absV_words {w : World} {a : Option Addr} {len cap : Nat} {zs : List Int} (h : IsRow .u32 w a len cap zs) :
    ∃ A, absV w (.slice a len cap) = .slice A len cap ∧ len ≤ cap ∧ ∃ l : List UInt32, Row w.heap.size (m0 w).get 1 A len (l.map u32V) := by
  rcases h with ⟨rfl, rfl, rfl, rfl⟩ | ⟨x, rfl, h1, h2, h3, h4, h5⟩
  · exact ⟨none, rfl, Nat.le_refl _, [], .nil⟩
  by_cases hc : cap = 0
  · subst hc
    have : len = 0 := by omega
    subst this
    exact ⟨some ⟨x.block, x.off, none⟩, by simp [absV, absC], Nat.le_refl _, [], ⟨fun a ha => by injection ha with ha; subst ha; exact .inl rfl, rfl, fun h => absurd h (Nat.lt_irrefl 0)⟩⟩
  have c0 := h4 0 (by omega)
  have hx : x.add 0 = x := by simp [Addr.add]
  rw [hx] at c0
  unfold World.cell? at c0
  split at c0
  · rename_i ce el fr hb
    have hsp : x.spot = none := by
      by_cases h : x.spot.isSome
      · rw [if_pos h] at c0; cases c0
      · simpa using h
    have hlt : x.block < w.heap.size := by
      rcases Nat.lt_or_ge x.block w.heap.size with h | h
      · exact h
      · rw [Array.getElem?_eq_none h] at hb; cases hb
    have hcell : ∀ i, i < cap → ce[x.off + i]? = some (.int .u32 (zs.getD i 0)) := by
      intro i hi
      have := h4 i (by omega)
      unfold World.cell? Addr.add at this
      by_cases h0 : i = 0
      · subst h0
        simp only [if_true, hb, hsp] at this
        simpa using this
      · simp only [if_neg h0, hb] at this
        simpa using this
    have hsz : x.off + cap ≤ ce.size := by
      have := hcell (cap - 1) (by omega)
      rcases Nat.lt_or_ge (x.off + (cap - 1)) ce.size with h | h
      · omega
      · rw [Array.getElem?_eq_none h] at this; cases this
    refine ⟨some x, ?_, h1, (zs.take len).map fun n => UInt32.ofNat n.toNat, ⟨fun a ha => by injection ha with ha; subst ha; exact .inl hsp, ?_, fun hN => ⟨x, ce.toList.map (absC w), true, rfl, hlt, ?_, ?_, fun i hi => ?_⟩⟩⟩
    · have : isCells w x.block = true := by simp [isCells, hb]
      simp [absV, absC, hc, hsp, h1, this]
    · simp; omega
    · simp [m0, hb]
    · simp; omega
    · have e1 := hcell i (by omega)
      have hz : i < zs.length := by omega
      have hw := wf_u32 (h5 (zs.getD i 0) (by rw [List.getD_eq_getElem?_getD, List.getElem?_eq_getElem hz]; exact List.getElem_mem hz))
      have e2 : ce.toList[x.off + i]? = some (.int .u32 (zs.getD i 0)) := by simpa using e1
      have e3 : (ce.toList.map (absC w)).getD (x.off + i) undef = .int .u32 (zs.getD i 0) := by
        rw [List.getD_eq_getElem?_getD, List.getElem?_map, e2]
        rfl
      rw [e3, getD_u32 (by simp; omega)]
      congr 1
      have e4 : ((zs.take len).map fun n => UInt32.ofNat n.toNat).getD i 0 = UInt32.ofNat (zs.getD i 0).toNat := by
        simp [List.getD_eq_getElem?_getD, List.getElem?_map, hi, List.getElem?_eq_getElem hz]
      rw [e4, UInt32.toNat_ofNat']
      omega
  · cases c0

end Go.Ga

/- What a law is given: what its values are made of, in the abstract memory. -/
namespace Go.Ga
open Go

section
variable {H : Type} {enc : TypeId × Value → H} {P : Program} {w : World} {held : Bool} {f : Nat} {t : TypeId} {cs : List Value}

/-- These cells are a value of this type. -/
def Shp (enc : TypeId × Value → H) (P : Program) (w : World) (held : Bool) (f : Nat) (t : TypeId) (cs : List Value) : Prop := ∃ x, DataW.trod enc P w 0 (fun _ => true) held f t cs = some x

theorem Shp.int {k : IntKind} (ht : P.underlying t = some (.int k)) (h : Shp enc P w held f t cs) : ∃ n, cs = [.int k n] ∧ (Lit.int k n).wf = true := by
  obtain ⟨x, hx⟩ := h
  obtain ⟨n, h1, _, h2⟩ := DataW.trod_int ht hx
  exact ⟨n, h1, h2⟩
theorem Shp.bool (ht : P.underlying t = some .bool) (h : Shp enc P w held f t cs) : ∃ b, cs = [.bool b] := by
  obtain ⟨x, hx⟩ := h
  obtain ⟨n, h1, _⟩ := DataW.trod_bool ht hx
  exact ⟨n, h1⟩
theorem Shp.string (ht : P.underlying t = some .string) (h : Shp enc P w held f t cs) : ∃ s : ByteArray, cs = [.string s] ∧ s.size ≤ maxLen := by
  obtain ⟨x, hx⟩ := h
  obtain ⟨n, h1, _, h2⟩ := DataW.trod_string ht hx
  exact ⟨n, h1, h2⟩
theorem Shp.struct {fs : Array Field} (ht : P.underlying t = some (.struct fs)) (h : Shp enc P w held f t cs) :
    ∃ n, f = n + 1 ∧ cs.length = P.cellsOf t ∧ ∀ (i : Nat) (fl : Field), fs[i]? = some fl → Shp enc P w held n fl.type ((cs.drop fl.offset).take (P.cellsOf fl.type)) := by
  obtain ⟨x, hx⟩ := h
  obtain ⟨xs, n, h1, _, h2, h3, h4⟩ := DataW.trod_struct ht hx
  refine ⟨n, h1, h2, fun i fl hi => ?_⟩
  have hlt : i < xs.length := by
    rw [h3]
    exact (Array.getElem?_eq_some_iff.1 hi).1
  exact ⟨xs[i], by rw [h4 i fl hi, List.getElem?_eq_getElem hlt]⟩
theorem Shp.array {m : Nat} {e : TypeId} (ht : P.underlying t = some (.array m e)) (h : Shp enc P w held f t cs) :
    ∃ n, f = n + 1 ∧ cs.length = P.cellsOf t ∧ ∀ i, i < m → Shp enc P w held n e ((cs.drop (i * P.cellsOf e)).take (P.cellsOf e)) := by
  obtain ⟨x, hx⟩ := h
  obtain ⟨xs, n, h1, _, h2, h3, h4⟩ := DataW.trod_array ht hx
  exact ⟨n, h1, h2, fun i hi => ⟨xs[i]'(by omega), by rw [h4 i hi, List.getElem?_eq_getElem (by omega)]⟩⟩

theorem cells_all {w : World} {a : Addr} {N : Nat} {g : Nat → Value} (hN : 0 < N) (h : ∀ i, i < N → w.cell? (a.add i) = some (g i)) :
    a.spot = none ∧ isCells w a.block = true ∧ a.block < w.heap.size ∧ ∃ ce : List Value, (m0 w).get a.block = some (.cells (ce.map (absC w)) true) ∧ a.off + N ≤ ce.length ∧ ∀ i, i < N → ce[a.off + i]? = some (g i) := by
  have c0 := h 0 hN
  have hx : a.add 0 = a := by simp [Addr.add]
  rw [hx] at c0
  unfold World.cell? at c0
  split at c0
  · rename_i ce el fr hb
    have hsp : a.spot = none := by
      by_cases h : a.spot.isSome
      · rw [if_pos h] at c0; cases c0
      · simpa using h
    have hlt : a.block < w.heap.size := by
      rcases Nat.lt_or_ge a.block w.heap.size with h | h
      · exact h
      · rw [Array.getElem?_eq_none h] at hb; cases hb
    have hcell : ∀ i, i < N → ce.toList[a.off + i]? = some (g i) := by
      intro i hi
      have := h i hi
      unfold World.cell? Addr.add at this
      by_cases h0 : i = 0
      · subst h0
        simp only [if_true, hb, hsp] at this
        simpa using this
      · simp only [if_neg h0, hb] at this
        simpa using this
    refine ⟨hsp, by simp [isCells, hb], hlt, ce.toList, by simp [m0, hb], ?_, hcell⟩
    have := hcell (N - 1) (by omega)
    rcases Nat.lt_or_ge (a.off + (N - 1)) ce.toList.length with h | h
    · omega
    · rw [List.getElem?_eq_none h] at this; cases this
  · cases c0

theorem add_addr {a : Addr} {i j : Nat} (_ : a.spot = none) : (a.add i).add j = a.add (i + j) := by
  unfold Addr.add
  by_cases h1 : i = 0 <;> by_cases h2 : j = 0 <;> simp [h1, h2, Nat.add_assoc]

theorem Shp.slice {e : TypeId} (ht : P.underlying t = some (.slice e)) (hc : 0 < P.cellsOf e) (h : Shp enc P w held f t cs) :
    ∃ n v A len cap, ∃ l : List Value, f = n + 1 ∧ cs = [v] ∧ absC w v = .slice A len cap ∧ len ≤ cap ∧ Row w.heap.size (m0 w).get (P.cellsOf e) A (len * P.cellsOf e) (l.map (absC w)) ∧ l.length = len * P.cellsOf e ∧
      ∀ i, i < len → Shp enc P w held n e ((l.drop (i * P.cellsOf e)).take (P.cellsOf e)) := by
  obtain ⟨x, hx⟩ := h
  rcases DataW.trod_slice ht hx with ⟨rfl, _⟩ | ⟨a, len, cap, elems, rest, n, rfl, rfl, _, _, hl, hm, he, hel, hsp, _⟩
  · cases f with
    | zero => simp [DataW.trod] at hx
    | succ n => exact ⟨n, _, none, 0, 0, [], rfl, rfl, rfl, Nat.le_refl _, by rw [Nat.zero_mul]; exact .nil, by simp, fun i hi => absurd hi (Nat.not_lt_zero i)⟩
  · obtain ⟨hr, hrest⟩ := hsp rfl
    have one : ∀ i, i < cap → ∃ cs', w.cells? 0 (a.add (i * P.cellsOf e)) (P.cellsOf e) = some cs' ∧ Shp enc P w held n e cs' := by
      intro i hi
      rcases Nat.lt_or_ge i len with h | h
      · have h1 := hel i h
        rw [List.getElem?_eq_getElem (by omega), Option.bind_eq_some_iff] at h1
        obtain ⟨cs', h1, h2⟩ := h1
        exact ⟨cs', h1, _, h2⟩
      · have h1 := hrest (i - len) (by omega)
        rw [List.getElem?_eq_getElem (by omega), Option.bind_eq_some_iff, show len + (i - len) = i by omega] at h1
        obtain ⟨cs', h1, h2⟩ := h1
        exact ⟨cs', h1, _, h2⟩
    rcases Nat.eq_zero_or_pos cap with h0 | h0
    · subst h0
      have : len = 0 := by omega
      subst this
      exact ⟨n, _, some ⟨a.block, a.off, none⟩, 0, 0, [], rfl, rfl, by simp [absC], Nat.le_refl _, ⟨fun a ha => by injection ha with ha; subst ha; exact .inl rfl, by simp, fun h => by rw [Nat.zero_mul] at h; exact absurd h (Nat.lt_irrefl 0)⟩, by simp, fun i hi => absurd hi (Nat.not_lt_zero i)⟩
    · obtain ⟨cs0, hc0, ht0⟩ := one 0 h0
      obtain ⟨_, hl0, hg0⟩ := World.cells?_some hc0
      have hx0 : a.add (0 * P.cellsOf e) = a := by simp [Addr.add]
      rw [hx0] at hg0
      have hspot : a.spot = none := by
        refine (cells_all (w := w) (a := a) (N := 1) (g := fun i => cs0.getD 0 undef) (by omega) fun i hi => ?_).1
        have : i = 0 := by omega
        subst this
        rw [hg0 0 hc, List.getD_eq_getElem?_getD, List.getElem?_eq_getElem (by omega)]
        rfl
      have hpos : 0 < cap * P.cellsOf e := Nat.mul_pos h0 hc
      have hall : ∀ j, j < cap * P.cellsOf e → ∃ v, w.cell? (a.add j) = some v := by
        intro j hj
        have hd := Nat.div_add_mod j (P.cellsOf e)
        have hm := Nat.mod_lt j hc
        obtain ⟨cs', h1, _⟩ := one (j / P.cellsOf e) ((Nat.div_lt_iff_lt_mul hc).2 hj)
        obtain ⟨_, h2, h3⟩ := World.cells?_some h1
        have h4 := h3 (j % P.cellsOf e) hm
        rw [add_addr hspot, show j / P.cellsOf e * P.cellsOf e + j % P.cellsOf e = j by rw [Nat.mul_comm]; exact hd, List.getElem?_eq_getElem (by omega)] at h4
        exact ⟨_, h4⟩
      obtain ⟨g, hg⟩ : ∃ g : Nat → Value, ∀ j, j < cap * P.cellsOf e → w.cell? (a.add j) = some (g j) := by
        refine ⟨fun j => (w.cell? (a.add j)).getD undef, fun j hj => ?_⟩
        obtain ⟨v, hv⟩ := hall j hj
        simp only [hv, Option.getD_some]
      obtain ⟨h1, h2, h3, ce, h4, h5, h6⟩ := cells_all hpos hg
      have hle : len * P.cellsOf e ≤ cap * P.cellsOf e := Nat.mul_le_mul_right _ hl
      refine ⟨n, _, some a, len, cap, (ce.drop a.off).take (len * P.cellsOf e), rfl, rfl, ?_, hl, ⟨fun a' ha => by injection ha with ha; subst ha; exact .inl h1, by simp; omega, fun _ => ⟨a, _, true, rfl, h3, h4, by simp; omega, fun i hi => ?_⟩⟩, by simp; omega, fun i hi => ?_⟩
      · obtain ⟨ab, ao, asp⟩ := a
        simp only at h1
        subst h1
        simp [absC, show cap ≠ 0 by omega, hl, h2]
      · rw [List.getD_eq_getElem?_getD, List.getD_eq_getElem?_getD, List.getElem?_map, List.getElem?_map, List.getElem?_take_of_lt hi, List.getElem?_drop]
      · obtain ⟨cs', e1, e2⟩ := one i (by omega)
        obtain ⟨_, e3, e4⟩ := World.cells?_some e1
        have hik : i * P.cellsOf e + P.cellsOf e ≤ len * P.cellsOf e := by
          have := Nat.mul_le_mul_right (P.cellsOf e) (show i + 1 ≤ len by omega)
          rw [Nat.add_mul, Nat.one_mul] at this
          exact this
        have : ((((ce.drop a.off).take (len * P.cellsOf e)).drop (i * P.cellsOf e)).take (P.cellsOf e)) = cs' := by
          refine List.ext_getElem? fun k => ?_
          rcases Nat.lt_or_ge k (P.cellsOf e) with hk | hk
          · rw [List.getElem?_take_of_lt hk, List.getElem?_drop, List.getElem?_take_of_lt (by omega), List.getElem?_drop, h6 _ (by omega), ← hg _ (by omega), ← add_addr h1, e4 k hk]
          · rw [List.getElem?_eq_none (by simp; omega), List.getElem?_eq_none (by omega)]
        rw [this]
        exact e2

theorem Shp.bytes {e : TypeId} (ht : P.underlying t = some (.slice e)) (he : P.underlying e = some (.int .u8)) (hc : P.cellsOf e = 1) (h : Shp enc P w held f t cs) :
    ∃ v A len cap, ∃ l : List UInt8, cs = [v] ∧ absC w v = .slice A len cap ∧ len ≤ cap ∧ Row w.heap.size (m0 w).get 1 A len (l.map u8V) := by
  obtain ⟨n, v, A, len, cap, l, rfl, h1, h2, h3, h4, h5, h6⟩ := h.slice ht (by omega)
  rw [hc, Nat.mul_one] at h4 h5
  refine ⟨v, A, len, cap, l.map fun v => UInt8.ofNat (intOf (some v)).toNat, h1, h2, h3, ?_⟩
  have : (l.map fun v => UInt8.ofNat (intOf (some v)).toNat).map u8V = l.map (absC w) := by
    rw [List.map_map]
    refine List.map_congr_left fun v hv => ?_
    obtain ⟨i, hi, rfl⟩ := List.getElem_of_mem hv
    obtain ⟨z, e1, e2⟩ := (h6 i (by omega)).int he
    have e1' : l[i] = .int .u8 z := by
      rw [hc, Nat.mul_one, List.drop_eq_getElem_cons hi] at e1
      simp only [List.take_succ_cons, List.take_zero, List.cons.injEq, and_true] at e1
      exact e1
    rw [e1']
    obtain ⟨b1, b2⟩ := wf_u8 e2
    simp only [Function.comp, intOf, u8V, absC, goodV, if_true]
    rw [UInt8.toNat_ofNat']
    congr 1
    omega
  rw [this]
  exact h4
theorem Shp.words {e : TypeId} (ht : P.underlying t = some (.slice e)) (he : P.underlying e = some (.int .u32)) (hc : P.cellsOf e = 1) (h : Shp enc P w held f t cs) :
    ∃ v A len cap, ∃ l : List UInt32, cs = [v] ∧ absC w v = .slice A len cap ∧ len ≤ cap ∧ Row w.heap.size (m0 w).get 1 A len (l.map u32V) := by
  obtain ⟨n, v, A, len, cap, l, rfl, h1, h2, h3, h4, h5, h6⟩ := h.slice ht (by omega)
  rw [hc, Nat.mul_one] at h4 h5
  refine ⟨v, A, len, cap, l.map fun v => UInt32.ofNat (intOf (some v)).toNat, h1, h2, h3, ?_⟩
  have : (l.map fun v => UInt32.ofNat (intOf (some v)).toNat).map u32V = l.map (absC w) := by
    rw [List.map_map]
    refine List.map_congr_left fun v hv => ?_
    obtain ⟨i, hi, rfl⟩ := List.getElem_of_mem hv
    obtain ⟨z, e1, e2⟩ := (h6 i (by omega)).int he
    have e1' : l[i] = .int .u32 z := by
      rw [hc, Nat.mul_one, List.drop_eq_getElem_cons hi] at e1
      simp only [List.take_succ_cons, List.take_zero, List.cons.injEq, and_true] at e1
      exact e1
    rw [e1']
    obtain ⟨b1, b2⟩ := wf_u32 e2
    simp only [Function.comp, intOf, u32V, absC, goodV, if_true]
    rw [UInt32.toNat_ofNat']
    congr 1
    omega
  rw [this]
  exact h4

theorem list_two {cs : List Value} {a b : Value} (hl : cs.length = 2) (h0 : (cs.drop 0).take 1 = [a]) (h1 : (cs.drop 1).take 1 = [b]) : cs = [a, b] := by
  match cs, hl with
  | [x, y], _ =>
    simp at h0 h1
    rw [h0, h1]
theorem take_one {cs : List Value} {i : Nat} (h : i < cs.length) : (cs.drop i).take 1 = [cs[i]] := by
  rw [List.drop_eq_getElem_cons h]; rfl

/-- An array of two. -/
theorem open_two {e : TypeId} (ht : P.underlying t = some (.array 2 e)) (hc : P.cellsOf e = 1) (hct : P.cellsOf t = 2) {r : Reach} {b0 : Nat} {v : Value} {d : DataW H} {ps : List MemPlace} (hval : Value.okWide P w r b0 t v) (hd : DataW.Trod enc P w 0 (fun _ => true) held t v d ps) :
    ∃ a b n, v = .agg #[a, b] ∧ Shp enc P w held n e [a] ∧ Shp enc P w held n e [b] := by
  simp only [Value.okWide, ht] at hval
  obtain ⟨cs, rfl, hcs, _⟩ := hval
  obtain ⟨fuel, hf⟩ := hd
  obtain ⟨n, rfl, hl, h⟩ := Shp.array ht ⟨_, hf⟩
  have h0 := h 0 (by omega)
  have h1 := h 1 (by omega)
  simp only [Value.cells] at hl h0 h1
  rw [hct] at hl
  rw [hc, take_one (by omega)] at h0 h1
  refine ⟨_, _, n, ?_, h0, h1⟩
  congr 1
  apply Array.ext'
  exact list_two hl (take_one (by omega)) (take_one (by omega))
theorem open_words2 {e e' : TypeId} (ht : P.underlying t = some (.array 2 e)) (he : P.underlying e = some (.slice e')) (he' : P.underlying e' = some (.int .u32)) (hc : P.cellsOf e = 1) (hct : P.cellsOf t = 2) (hc' : P.cellsOf e' = 1) {r : Reach} {b0 : Nat} {v : Value} {d : DataW H} {ps : List MemPlace} (hval : Value.okWide P w r b0 t v) (hd : DataW.Trod enc P w 0 (fun _ => true) held t v d ps) :
    ∃ (A : Option Addr) (n c : Nat) (l : List UInt32) (B : Option Addr) (m d : Nat) (k : List UInt32), absV w v = .agg #[.slice A n c, .slice B m d] ∧ Row w.heap.size (m0 w).get 1 A n (l.map u32V) ∧ n ≤ c ∧ Row w.heap.size (m0 w).get 1 B m (k.map u32V) ∧ m ≤ d := by
  obtain ⟨a, b, n, rfl, h0, h1⟩ := open_two ht hc hct hval hd
  obtain ⟨_, A, n, c, l, e0, e1, e2, e3⟩ := h0.words he he' hc'
  obtain ⟨_, B, m, d, k, f0, f1, f2, f3⟩ := h1.words he he' hc'
  injection e0 with e0
  injection f0 with f0
  subst e0 f0
  exact ⟨A, n, c, l, B, m, d, k, by simp [absV, e1, f1], e3, e2, f3, f2⟩
theorem open_bytes2 {e e' : TypeId} (ht : P.underlying t = some (.array 2 e)) (he : P.underlying e = some (.slice e')) (he' : P.underlying e' = some (.int .u8)) (hc : P.cellsOf e = 1) (hct : P.cellsOf t = 2) (hc' : P.cellsOf e' = 1) {r : Reach} {b0 : Nat} {v : Value} {d : DataW H} {ps : List MemPlace} (hval : Value.okWide P w r b0 t v) (hd : DataW.Trod enc P w 0 (fun _ => true) held t v d ps) :
    ∃ (A : Option Addr) (n c : Nat) (l : List UInt8) (B : Option Addr) (m d : Nat) (k : List UInt8), absV w v = .agg #[.slice A n c, .slice B m d] ∧ Row w.heap.size (m0 w).get 1 A n (l.map u8V) ∧ n ≤ c ∧ Row w.heap.size (m0 w).get 1 B m (k.map u8V) ∧ m ≤ d := by
  obtain ⟨a, b, n, rfl, h0, h1⟩ := open_two ht hc hct hval hd
  obtain ⟨_, A, n, c, l, e0, e1, e2, e3⟩ := h0.bytes he he' hc'
  obtain ⟨_, B, m, d, k, f0, f1, f2, f3⟩ := h1.bytes he he' hc'
  injection e0 with e0
  injection f0 with f0
  subst e0 f0
  exact ⟨A, n, c, l, B, m, d, k, by simp [absV, e1, f1], e3, e2, f3, f2⟩
end
theorem list2 {zs : List Int} (h : zs.length = 2) : ∃ a b, zs = [a, b] := by
  match zs, h with
  | [a, b], _ => exact ⟨a, b, rfl⟩
end Go.Ga

/- A slice of slices of bytes that a law is given. -/
namespace Go.Ga
open Go

/-- Slices of bytes in a row. -/
def RowB (nx : Nat) (gt : Nat → Option Blk) (A : Option Addr) (n : Nat) (ls : List (List UInt8)) : Prop := ls.length = n ∧ (∀ a, A = some a → a.spot = none ∨ a.spot = some 1) ∧ (0 < n → ∃ a ce ro, A = some a ∧ a.block < nx ∧ gt a.block = some (.cells ce ro) ∧ a.off + n ≤ ce.length ∧
  ∀ i, i < n → ∃ B m d, ce.getD (a.off + i) undef = .slice B m d ∧ m ≤ d ∧ Row nx gt 1 B m ((ls.getD i []).map u8V))
theorem RowB.keep {nx gt A n ls nx' gt'} (h : RowB nx gt A n ls) (h1 : nx ≤ nx') (h2 : ∀ p, p < nx → gt' p = gt p) : RowB nx' gt' A n ls := by
  refine ⟨h.1, h.2.1, fun h0 => ?_⟩
  obtain ⟨a, ce, ro, e1, e2, e3, e4, e5⟩ := h.2.2 h0
  refine ⟨a, ce, ro, e1, by omega, by rw [h2 _ e2, e3], e4, fun i hi => ?_⟩
  obtain ⟨B, m, d, f1, f2, f3⟩ := e5 i hi
  exact ⟨B, m, d, f1, f2, f3.keep h1 h2⟩

section
variable {H : Type} {enc : TypeId × Value → H} {P : Program} {w : World} {held : Bool} {t : TypeId}

theorem open_lbytes {e e' : TypeId} (ht : P.underlying t = some (.slice e)) (he : P.underlying e = some (.slice e')) (he' : P.underlying e' = some (.int .u8)) (hc : P.cellsOf e = 1) (hc' : P.cellsOf e' = 1) {r : Reach} {b0 : Nat} {v : Value} {d : DataW H} {ps : List MemPlace} (hval : Value.okWide P w r b0 t v) (hd : DataW.Trod enc P w 0 (fun _ => true) held t v d ps) :
    ∃ (A : Option Addr) (n c : Nat) (ls : List (List UInt8)), absV w v = .slice A n c ∧ RowB w.heap.size (m0 w).get A n ls ∧ n ≤ c := by
  obtain ⟨a, len, cap, rfl⟩ := WideShapes.okWide_slice ht hval
  obtain ⟨fuel, hf⟩ := hd
  obtain ⟨n, v, A, len', cap', l, _, h1, h2, h3, h4, h5, h6⟩ := Shp.slice ht (by omega) ⟨_, hf⟩
  have hv : v = .slice a len cap := by
    simp only [Value.cells] at h1
    injection h1 with h1
    exact h1.symm
  subst hv
  rw [hc, Nat.mul_one] at h4 h5
  have hB : ∀ i, i < len' → ∃ (B : Option Addr) (m d : Nat) (k : List UInt8), (l.map (absC w)).getD i undef = .slice B m d ∧ m ≤ d ∧ Row w.heap.size (m0 w).get 1 B m (k.map u8V) := fun i hi => by
    obtain ⟨v', B, m, d, k, e1, e2, e3, e4⟩ := (h6 i hi).bytes he he' hc'
    have e1' : l[i]'(by omega) = v' := by
      rw [hc, Nat.mul_one, take_one (by omega)] at e1
      simpa using e1
    refine ⟨B, m, d, k, ?_, e3, e4⟩
    rw [List.getD_eq_getElem?_getD, List.getElem?_map, List.getElem?_eq_getElem (show i < l.length by omega), e1']
    exact e2
  have hls : ∃ ls : List (List UInt8), ls.length = len' ∧ ∀ i, i < len' → ∃ (B : Option Addr) (m d : Nat), (l.map (absC w)).getD i undef = .slice B m d ∧ m ≤ d ∧ Row w.heap.size (m0 w).get 1 B m ((ls.getD i []).map u8V) := by
    have key : ∀ k, k ≤ len' → ∃ ls : List (List UInt8), ls.length = k ∧ ∀ i, i < k → ∃ (B : Option Addr) (m d : Nat), (l.map (absC w)).getD i undef = .slice B m d ∧ m ≤ d ∧ Row w.heap.size (m0 w).get 1 B m ((ls.getD i []).map u8V) := by
      intro k
      induction k with
      | zero => intro _; exact ⟨[], rfl, fun i hi => absurd hi (Nat.not_lt_zero i)⟩
      | succ k ih =>
        intro hk
        obtain ⟨ls, e1, e2⟩ := ih (by omega)
        obtain ⟨B, m, d, x, f1, f2, f3⟩ := hB k (by omega)
        refine ⟨ls ++ [x], by simp [e1], fun i hi => ?_⟩
        rcases Nat.lt_or_ge i k with h | h
        · obtain ⟨B, m, d, g1, g2, g3⟩ := e2 i h
          refine ⟨B, m, d, g1, g2, ?_⟩
          rw [List.getD_eq_getElem?_getD, List.getElem?_append_left (by omega), ← List.getD_eq_getElem?_getD]
          exact g3
        · have : i = k := by omega
          subst this
          refine ⟨B, m, d, f1, f2, ?_⟩
          rw [List.getD_eq_getElem?_getD, List.getElem?_append_right (by omega), e1, Nat.sub_self]
          exact f3
    exact key len' (Nat.le_refl _)
  obtain ⟨ls, e1, e2⟩ := hls
  refine ⟨A, len', cap', ls, h2, ⟨e1, fun a ha => h4.spot a ha, fun h0 => ?_⟩, h3⟩
  obtain ⟨a, ce, ro, g1, g2, g3, g4, g5⟩ := h4.cells h0
  refine ⟨a, ce, ro, g1, g2, g3, g4, fun i hi => ?_⟩
  rw [g5 i hi]
  exact e2 i hi
end
end Go.Ga

/- A key and a hash that a law is given. -/
namespace Go.Ga
open Go

section
variable {H : Type} {enc : TypeId × Value → H} {P : Program} {w : World} {held : Bool} {t : TypeId}

theorem open_hash {m : Nat} {e : TypeId} (ht : P.underlying t = some (.array m e)) (he : P.underlying e = some (.int .u8)) (hc : P.cellsOf e = 1) (hct : P.cellsOf t = m) {r : Reach} {b0 : Nat} {v : Value} {d : DataW H} {ps : List MemPlace} (hval : Value.okWide P w r b0 t v) (hd : DataW.Trod enc P w 0 (fun _ => true) held t v d ps) :
    ∃ l : List UInt8, absV w v = .agg (l.map u8V).toArray ∧ l.length = m := by
  obtain ⟨zs, rfl, hl, hw, _, _⟩ := open_arrI (k := .u8) ht he hc hct hval hd
  refine ⟨zs.map fun z => UInt8.ofNat z.toNat, ?_, by simp [hl]⟩
  rw [absV_arr, List.map_map]
  congr 2
  refine List.map_congr_left fun z hz => ?_
  obtain ⟨b1, b2⟩ := wf_u8 (hw z hz)
  simp only [Function.comp, u8V]
  rw [UInt8.toNat_ofNat']
  congr 1
  omega

/-- A structure of bytes and a word. -/
theorem open_key {fs : Array Field} {t0 t1 e : TypeId} (ht : P.underlying t = some (.struct fs)) (ht0 : P.underlying t0 = some (.slice e)) (he : P.underlying e = some (.int .u8)) (ht1 : P.underlying t1 = some (.int .u32)) (h0 : (fs[0]?).map (fun f => (f.type, f.offset)) = some (t0, 0)) (h1 : (fs[1]?).map (fun f => (f.type, f.offset)) = some (t1, 1))
    (hc : P.cellsOf e = 1) (hc0 : P.cellsOf t0 = 1) (hc1 : P.cellsOf t1 = 1) (hct : P.cellsOf t = 2)
    {r : Reach} {b0 : Nat} {v : Value} {d : DataW H} {ps : List MemPlace} (hval : Value.okWide P w r b0 t v) (hd : DataW.Trod enc P w 0 (fun _ => true) held t v d ps) :
    ∃ (A : Option Addr) (n c : Nat) (l : List UInt8) (E : Nat), absV w v = .agg #[.slice A n c, .int .u32 (E : Nat)] ∧ Row w.heap.size (m0 w).get 1 A n (l.map u8V) ∧ n ≤ c ∧ E < 4294967296 := by
  simp only [Value.okWide, ht] at hval
  obtain ⟨cs, rfl, hcs, _⟩ := hval
  obtain ⟨fuel, hf⟩ := hd
  obtain ⟨n, rfl, hl, h⟩ := Shp.struct ht ⟨_, hf⟩
  simp only [Option.map_eq_some_iff] at h0 h1
  obtain ⟨f0, e0, e0'⟩ := h0
  obtain ⟨f1, e1, e1'⟩ := h1
  injection e0' with a0 b0
  injection e1' with a1 b1
  have g0 := h 0 f0 e0
  have g1 := h 1 f1 e1
  simp only [Value.cells] at hl g0 g1
  rw [hct] at hl
  rw [a0, b0, hc0, take_one (by omega)] at g0
  rw [a1, b1, hc1, take_one (by omega)] at g1
  obtain ⟨_, A, n, c, l, q0, q1, q2, q3⟩ := g0.bytes ht0 he hc
  obtain ⟨z, z1, z2⟩ := g1.int ht1
  obtain ⟨b1, b2⟩ := wf_u32 z2
  injection q0 with q0
  injection z1 with z1
  refine ⟨A, n, c, l, z.toNat, ?_, q3, q2, by omega⟩
  have hcs2 : cs = #[cs.toList[0], cs.toList[1]] := by
    apply Array.ext'
    exact list_two hl (take_one (by omega)) (take_one (by omega))
  have hz : (z.toNat : Int) = z := by omega
  have i1 : absC w (.int .u32 z) = .int .u32 z := by simp [absC, goodV]
  rw [q0, z1] at hcs2
  rw [hcs2]
  simp [absV, q1, i1, hz]
end
end Go.Ga

/- An element that a law is given. -/
namespace Go.Ga
open Go

theorem list_three {cs : List Value} {a b c : Value} (hl : cs.length = 3) (h0 : (cs.drop 0).take 1 = [a]) (h1 : (cs.drop 1).take 1 = [b]) (h2 : (cs.drop 2).take 1 = [c]) : cs = [a, b, c] := by
  match cs, hl with
  | [x, y, z], _ =>
    simp at h0 h1 h2
    rw [h0, h1, h2]

section
variable {H : Type} {enc : TypeId × Value → H} {P : Program} {w : World} {held : Bool} {t : TypeId}

/-- The types of a node, as the program has them. -/
structure NodeT (P : Program) (t ti tb tk te : TypeId) : Prop where
  str : ∃ fs : Array Field, P.underlying t = some (.struct fs) ∧ (fs[0]?).map (fun f => (f.type, f.offset)) = some (ti, 0) ∧ (fs[1]?).map (fun f => (f.type, f.offset)) = some (tb, 1) ∧ (fs[2]?).map (fun f => (f.type, f.offset)) = some (tk, 2)
  int : P.underlying ti = some (.int .i64)
  bytes : P.underlying tb = some (.slice te)
  byte : P.underlying te = some (.int .u8)
  kids : P.underlying tk = some (.slice t)
  ct : P.cellsOf t = 3
  ci : P.cellsOf ti = 1
  cb : P.cellsOf tb = 1
  ce : P.cellsOf te = 1
  ck : P.cellsOf tk = 1

theorem Shp.nodes {f : Nat} {t ti tb tk te : TypeId} (hT : NodeT P t ti tb tk te) (hnode : ∀ cs, Shp enc P w held f t cs → ∃ (x : Fo.El) (B : Option Addr) (m d : Nat) (A : Option Addr) (n c : Nat) (ks : List Value), cs.map (absC w) = nodeL x.t B m d A n c ∧ NdR w.heap.size (m0 w).get x B m d A n c ks)
    {cs : List Value} {tk' : TypeId} (hk : P.underlying tk' = some (.slice t)) (h : Shp enc P w held (f + 1) tk' cs) :
    ∃ (v : Value) (A : Option Addr) (n c : Nat) (F : Fo) (ks : List Value), cs = [v] ∧ absC w v = .slice A n c ∧ n ≤ c ∧ n = F.len ∧ Row w.heap.size (m0 w).get 3 A (n * 3) ks ∧ FoR w.heap.size (m0 w).get F ks := by
  obtain ⟨n, v, A, len, cap, l, hf, rfl, h2, h3, h4, h5, h6⟩ := h.slice hk (by rw [hT.ct]; omega)
  injection hf with hf
  subst hf
  rw [hT.ct] at h4 h5 h6
  have key : ∀ i, i ≤ len → ∃ F : Fo, F.len = i ∧ FoR w.heap.size (m0 w).get F ((l.map (absC w)).take (i * 3)) := by
    intro i
    induction i with
    | zero => intro _; exact ⟨.nil, rfl, by rw [Nat.zero_mul]; rfl⟩
    | succ i ih =>
      intro hi
      obtain ⟨F, e1, e2⟩ := ih (by omega)
      obtain ⟨x, B, m, d, A', n', c', ks', g1, g2⟩ := hnode _ (h6 i (by omega))
      refine ⟨F.app x.f, by rw [Fo.len_app, e1]; rfl, ?_⟩
      have e : (l.map (absC w)).take ((i + 1) * 3) = (l.map (absC w)).take (i * 3) ++ nodeL x.t B m d A' n' c' := by
        rw [← g1, Nat.add_mul, Nat.one_mul, List.take_add, List.map_take, List.map_drop]
      rw [e]
      exact e2.app g2.one
  obtain ⟨F, e1, e2⟩ := key len (Nat.le_refl _)
  rw [List.take_of_length_le (by simp; omega)] at e2
  exact ⟨v, A, len, cap, F, _, rfl, h2, h3, e1.symm, h4, e2⟩

theorem Shp.node {t ti tb tk te : TypeId} (hT : NodeT P t ti tb tk te) : ∀ (f : Nat) (cs : List Value), Shp enc P w held f t cs →
    ∃ (x : Fo.El) (B : Option Addr) (m d : Nat) (A : Option Addr) (n c : Nat) (ks : List Value), cs.map (absC w) = nodeL x.t B m d A n c ∧ NdR w.heap.size (m0 w).get x B m d A n c ks := by
  intro f
  induction f using Nat.strongRecOn with
  | ind f ih =>
    intro cs h
    obtain ⟨fs, hs, h0, h1, h2⟩ := hT.str
    obtain ⟨k, rfl, hl, hfl⟩ := h.struct hs
    simp only [Option.map_eq_some_iff] at h0 h1 h2
    obtain ⟨f0, e0, e0'⟩ := h0
    obtain ⟨f1, e1, e1'⟩ := h1
    obtain ⟨f2, e2, e2'⟩ := h2
    injection e0' with a0 b0
    injection e1' with a1 b1
    injection e2' with a2 b2
    have g0 := hfl 0 f0 e0
    have g1 := hfl 1 f1 e1
    have g2 := hfl 2 f2 e2
    rw [hT.ct] at hl
    rw [a0, b0, hT.ci, take_one (by omega)] at g0
    rw [a1, b1, hT.cb, take_one (by omega)] at g1
    rw [a2, b2, hT.ck, take_one (by omega)] at g2
    obtain ⟨z, z1, z2⟩ := g0.int hT.int
    obtain ⟨vb, B, m, d, lb, q0, q1, q2, q3⟩ := g1.bytes hT.bytes hT.byte hT.ce
    cases k with
    | zero =>
      obtain ⟨y, hy⟩ := g2
      rcases DataW.trod_slice hT.kids hy with ⟨_, h⟩ | ⟨a, len, cap, elems, rest, n, h, _⟩
      · simp [DataW.trod] at hy
      · simp [DataW.trod] at hy
    | succ k =>
      obtain ⟨vk, A, n, c, F, ks, p0, p1, p2, p3, p4, p5⟩ := g2.nodes hT (ih k (by omega)) hT.kids
      injection z1 with z1
      injection q0 with q0
      injection p0 with p0
      refine ⟨⟨z, lb, F⟩, B, m, d, A, n, c, ks, ?_, ⟨wf_i64 z2, q3, q2, p4, p2, p3, p5⟩⟩
      have hcs : cs = [cs[0], cs[1], cs[2]] := list_three hl (take_one (by omega)) (take_one (by omega)) (take_one (by omega))
      rw [hcs, z1, q0, p0]
      simp only [List.map_cons, List.map_nil, q1, p1]
      simp [absC, goodV]

theorem open_node {t ti tb tk te : TypeId} (hT : NodeT P t ti tb tk te) {r : Reach} {b0 : Nat} {v : Value} {d : DataW H} {ps : List MemPlace} (hval : Value.okWide P w r b0 t v) (hd : DataW.Trod enc P w 0 (fun _ => true) held t v d ps) :
    ∃ (x : Fo.El) (B : Option Addr) (m d : Nat) (A : Option Addr) (n c : Nat) (ks : List Value), absV w v = nodeV x.t B m d A n c ∧ NdR w.heap.size (m0 w).get x B m d A n c ks := by
  obtain ⟨fs, hs, _⟩ := hT.str
  simp only [Value.okWide, hs] at hval
  obtain ⟨cs, rfl, hcs, _⟩ := hval
  obtain ⟨fuel, hf⟩ := hd
  obtain ⟨x, B, m, d, A, n, c, ks, h1, h2⟩ := Shp.node hT _ _ ⟨_, hf⟩
  refine ⟨x, B, m, d, A, n, c, ks, ?_, h2⟩
  simp only [Value.cells] at h1
  simp only [absV]
  congr 1
  apply Array.ext'
  simpa using h1

theorem open_nodes {t ti tb tk te : TypeId} (hT : NodeT P t ti tb tk te) {tk' : TypeId} (hk : P.underlying tk' = some (.slice t)) {r : Reach} {b0 : Nat} {v : Value} {d : DataW H} {ps : List MemPlace} (hval : Value.okWide P w r b0 tk' v) (hd : DataW.Trod enc P w 0 (fun _ => true) held tk' v d ps) :
    ∃ (A : Option Addr) (n c : Nat) (F : Fo) (ks : List Value), absV w v = .slice A n c ∧ n ≤ c ∧ n = F.len ∧ Row w.heap.size (m0 w).get 3 A (n * 3) ks ∧ FoR w.heap.size (m0 w).get F ks := by
  obtain ⟨a, len, cap, rfl⟩ := WideShapes.okWide_slice hk hval
  obtain ⟨fuel, hf⟩ := hd
  cases fuel with
  | zero => simp [DataW.trod] at hf
  | succ fuel =>
    obtain ⟨v, A, n, c, F, ks, h0, h1, h2, h3, h4, h5⟩ := Shp.nodes hT (Shp.node hT fuel) hk ⟨_, hf⟩
    have hv : v = .slice a len cap := by
      simp only [Value.cells] at h0
      injection h0 with h0
      exact h0.symm
    subst hv
    exact ⟨A, n, c, F, ks, h1, h2, h3, h4, h5⟩
end
end Go.Ga

/- The laws TlvWrites, TlvBack and TlvCut. -/
namespace Go.Ga
open Go Go.Proofs
set_option linter.unusedSimpArgs false
set_option linter.unusedVariables false
set_option maxRecDepth 100000
attribute [local irreducible] appendK

theorem BytesV.some {x : Nat} {g : Nat → Option Blk} {v : Value} {r : Except Nat (List UInt8)} (h : BytesV x g v r) : ∃ (l : List UInt8) (e : Nat) (A : Option Addr) (N : Nat), v = .tuple #[.slice A N N, .int .i64 (e : Nat)] ∧ l.length = N ∧ Row x g 1 A N (l.map u8V) ∧
    ((r = .ok l ∧ e = 0) ∨ (r = .error e ∧ l = [])) := by
  cases r with
  | error e => exact ⟨[], e, none, 0, h, rfl, .nil, .inr ⟨rfl, rfl⟩⟩
  | ok l =>
    obtain ⟨A, N, h1, h2, h3⟩ := h
    exact ⟨l, 0, A, N, h1, h2, h3, .inl ⟨rfl, rfl⟩⟩
theorem wr_err {x : Fo.El} {e : Nat} (h : Fo.wr x = .error e) : e = 2 ∨ e = 4 ∨ e = 5 := by
  unfold Fo.wr at h
  split at h
  · injection h with h; omega
  · split at h
    · injection h with h; omega
    · split at h
      · injection h with h; omega
      · cases h
theorem rd_err {l : List UInt8} {e : Nat} (h : Fo.rd l = .error e) : e ≠ 0 := by
  unfold Fo.rd at h
  split at h
  · injection h with h; omega
  · split at h
    · rename_i e' he
      injection h with h; subst h
      have := Fo.elem_errs he; omega
    · split at h
      · cases h
      · injection h with h; omega

def fieldsOf : Option TypeDesc → Array Field
  | some (.struct fs) => fs
  | _ => #[]
theorem nodeT : NodeT Try.prog 26 3 22 24 5 :=
  ⟨⟨fieldsOf (Try.prog.underlying 26), by kernel_rfl, by kernel_rfl, by kernel_rfl, by kernel_rfl⟩, by kernel_rfl, by kernel_rfl, by kernel_rfl, by kernel_rfl, by kernel_rfl, by kernel_rfl, by kernel_rfl, by kernel_rfl, by kernel_rfl⟩

section
variable {nx : Nat} {gt : Nat → Option Blk}


theorem fn_Writes {x : Fo.El} {B : Option Addr} {m d : Nat} {A : Option Addr} {n c : Nat} {ks : List Value} (h : NdR nx gt x B m d A n c ks) :
    Ct Try.prog 4 [nodeV x.t B m d A n c] nx gt fun v _ _ => v = .bool true := by
  refine Ct.of hmx r_lanyardlaw04_TlvWrites (by simp [c_lanyardlaw04_TlvWrites]) fun b hb => ?_
  have hF : ∀ q, q < nx → upd gt nx (some (.cells (nodeL x.t B m d A n c) false)) q = gt q := fun q hq => by simp only [upd_e]; rw [if_neg (by omega)]
  have hb0 : upd gt nx (some (.cells (nodeL x.t B m d A n c) false)) nx = some (.cells (nodeL x.t B m d A n c) false) := by simp only [upd_e, if_true]
  simp only [c_lanyardlaw04_TlvWrites, ↓gaW, ↓gaV, ↓gaC, ↓gaN, gaP, Nat.reduceEqDiff, Nat.reduceLeDiff, Nat.reduceAdd, Nat.reduceSub, Nat.reduceMul, Int.reduceLT, Int.reduceLE, Int.reduceEq, Int.reduceToNat, Int.reduceAdd, Int.reduceSub, Int.reduceMul, reduceCtorEq, ↓reduceIte, List.getD_cons_zero, List.getD_cons_succ, fillL, splice, List.take_zero, List.drop_zero, List.drop_succ_cons, List.take_succ_cons, List.drop_nil, List.take_nil, gaU]
  generalize upd gt nx (some (.cells (nodeL x.t B m d A n c) false)) = g0 at *
  refine callK_of ct_awake04 (fun v x1 g1 l1 k1 hC => ?_) (by omega)
  subst hC
  have F1 : ∀ p, p < nx → g1 p = gt p := fun p hp => by rw [k1 p (by omega), hF p hp]
  have hb1 : g1 nx = some (.cells (nodeL x.t B m d A n c) false) := by rw [k1 nx (by omega), hb0]
  simp only [↓gaW, ↓gaV, ↓gaC, ↓gaN, gaP, Nat.reduceEqDiff, Nat.reduceLeDiff, Nat.reduceAdd, Nat.reduceSub, Nat.reduceMul, Int.reduceLT, Int.reduceLE, Int.reduceEq, Int.reduceToNat, Int.reduceAdd, Int.reduceSub, Int.reduceMul, reduceCtorEq, ↓reduceIte, List.getD_cons_zero, List.getD_cons_succ, fillL, splice, List.take_zero, List.drop_zero, List.drop_succ_cons, List.take_succ_cons, List.drop_nil, List.take_nil, hb1]
  repeat refine And.intro (by omega) ?_
  refine callK_of (ct_Light (h.keep (x' := x1) (by omega) F1)) (fun v x2 g2 l2 k2 hC => ?_) (by omega)
  obtain ⟨ok, rfl, hok⟩ := hC
  have F2 : ∀ p, p < nx → g2 p = gt p := fun p hp => by rw [k2 p (by omega), F1 p hp]
  have hb2 : g2 nx = some (.cells (nodeL x.t B m d A n c) false) := by rw [k2 nx (by omega), hb1]
  cases ok with
  | false =>
    simp only [↓gaW, ↓gaV, ↓gaC, ↓gaN, gaP, Nat.reduceEqDiff, Nat.reduceLeDiff, Nat.reduceAdd, Nat.reduceSub, Nat.reduceMul, Int.reduceLT, Int.reduceLE, Int.reduceEq, Int.reduceToNat, Int.reduceAdd, Int.reduceSub, Int.reduceMul, reduceCtorEq, ↓reduceIte, gaE, implies_true, Nat.le_refl, Int.sub_zero, Nat.sub_zero, Int.le_refl, true_or, or_true, List.getD_cons_zero, List.getD_cons_succ, fillL, splice, List.take_zero, List.drop_zero, List.drop_succ_cons, List.take_succ_cons, List.drop_nil, List.take_nil, Bool.not_false]
    exact ⟨by omega, F2⟩
  | true =>
    have hw := hok rfl
    simp only [↓gaW, ↓gaV, ↓gaC, ↓gaN, gaP, Nat.reduceEqDiff, Nat.reduceLeDiff, Nat.reduceAdd, Nat.reduceSub, Nat.reduceMul, Int.reduceLT, Int.reduceLE, Int.reduceEq, Int.reduceToNat, Int.reduceAdd, Int.reduceSub, Int.reduceMul, reduceCtorEq, ↓reduceIte, List.getD_cons_zero, List.getD_cons_succ, fillL, splice, List.take_zero, List.drop_zero, List.drop_succ_cons, List.take_succ_cons, List.drop_nil, List.take_nil, Bool.not_true, hb2]
    repeat refine And.intro (by omega) ?_
    refine callK_of (ct_Write (x := x) (by omega) (h.keep (x' := x2) (by omega) F2)) (fun v x3 g3 l3 k3 hC => ?_) (by omega)
    obtain ⟨l, e, A3, N3, rfl, hl, r3, hy⟩ := hC.some
    have F3 : ∀ p, p < nx → g3 p = gt p := fun p hp => by rw [k3 p (by omega), F2 p hp]
    have hb3 : g3 nx = some (.cells (nodeL x.t B m d A n c) false) := by rw [k3 nx (by omega), hb2]
    simp only [↓gaW, ↓gaV, ↓gaC, ↓gaN, gaP, Nat.reduceEqDiff, Nat.reduceLeDiff, Nat.reduceAdd, Nat.reduceSub, Nat.reduceMul, Int.reduceLT, Int.reduceLE, Int.reduceEq, Int.reduceToNat, Int.reduceAdd, Int.reduceSub, Int.reduceMul, reduceCtorEq, ↓reduceIte, List.getD_cons_zero, List.getD_cons_succ, fillL, splice, List.take_zero, List.drop_zero, List.drop_succ_cons, List.take_succ_cons, List.drop_nil, List.take_nil, hb3]
    repeat refine And.intro (by omega) ?_
    refine callK_of (ct_rWrite (x := x) (by omega) (h.keep (x' := x3) (by omega) F3)) (fun v x4 g4 l4 k4 hC => ?_) (by omega)
    obtain ⟨l', e', A4, N4, rfl, hl', r4, hz⟩ := hC.some
    have F4 : ∀ p, p < nx → g4 p = gt p := fun p hp => by rw [k4 p (by omega), F3 p hp]
    have hb4 : g4 nx = some (.cells (nodeL x.t B m d A n c) false) := by rw [k4 nx (by omega), hb3]
    have hyz : l = l' ∧ e = e' := by
      rcases hy with ⟨h1, h2⟩ | ⟨h1, h2⟩ <;> rcases hz with ⟨h3, h4⟩ | ⟨h3, h4⟩ <;> rw [h1] at h3
      · injection h3 with h3; exact ⟨h3, by omega⟩
      · cases h3
      · cases h3
      · injection h3 with h3; exact ⟨by rw [h2, h4], h3⟩
    obtain ⟨rfl, rfl⟩ := hyz
    simp only [↓gaW, ↓gaV, ↓gaC, ↓gaN, gaP, Nat.reduceEqDiff, Nat.reduceLeDiff, Nat.reduceAdd, Nat.reduceSub, Nat.reduceMul, Int.reduceLT, Int.reduceLE, Int.reduceEq, Int.reduceToNat, Int.reduceAdd, Int.reduceSub, Int.reduceMul, reduceCtorEq, ↓reduceIte, List.getD_cons_zero, List.getD_cons_succ, fillL, splice, List.take_zero, List.drop_zero, List.drop_succ_cons, List.take_succ_cons, List.drop_nil, List.take_nil, hb4]
    repeat refine And.intro (by omega) ?_
    refine callK_of (ct_Size x (by omega) _ _ _ _ _ _ _ _ _ (h.keep (x' := x4) (by omega) F4)) (fun v x5 g5 l5 k5 hC => ?_) (by omega)
    subst hC
    have F5 : ∀ p, p < nx → g5 p = gt p := fun p hp => by rw [k5 p (by omega), F4 p hp]
    have hb5 : g5 nx = some (.cells (nodeL x.t B m d A n c) false) := by rw [k5 nx (by omega), hb4]
    simp only [↓gaW, ↓gaV, ↓gaC, ↓gaN, gaP, Nat.reduceEqDiff, Nat.reduceLeDiff, Nat.reduceAdd, Nat.reduceSub, Nat.reduceMul, Int.reduceLT, Int.reduceLE, Int.reduceEq, Int.reduceToNat, Int.reduceAdd, Int.reduceSub, Int.reduceMul, reduceCtorEq, ↓reduceIte, List.getD_cons_zero, List.getD_cons_succ, fillL, splice, List.take_zero, List.drop_zero, List.drop_succ_cons, List.take_succ_cons, List.drop_nil, List.take_nil, hb5]
    repeat refine And.intro (by omega) ?_
    refine callK_of (ct_rSize x (by omega) _ _ _ _ _ _ _ _ _ (h.keep (x' := x5) (by omega) F5)) (fun v x6 g6 l6 k6 hC => ?_) (by omega)
    subst hC
    have F6 : ∀ p, p < nx → g6 p = gt p := fun p hp => by rw [k6 p (by omega), F5 p hp]
    have e3 : rowOf ⟨x6, b, g6⟩ A3 N3 = some (l.map u8V) := ((((r3.keep l4 k4).keep l5 k5).keep l6 k6)).rowOf
    have e4 : rowOf ⟨x6, b, g6⟩ A4 N4 = some (l.map u8V) := ((((r4).keep l5 k5).keep l6 k6)).rowOf
    simp only [↓gaW, ↓gaV, ↓gaC, ↓gaN, gaP, Nat.reduceEqDiff, Nat.reduceLeDiff, Nat.reduceAdd, Nat.reduceSub, Nat.reduceMul, Int.reduceLT, Int.reduceLE, Int.reduceEq, Int.reduceToNat, Int.reduceAdd, Int.reduceSub, Int.reduceMul, reduceCtorEq, ↓reduceIte, List.getD_cons_zero, List.getD_cons_succ, fillL, splice, List.take_zero, List.drop_zero, List.drop_succ_cons, List.take_succ_cons, List.drop_nil, List.take_nil, gaE, implies_true, Nat.le_refl, Int.sub_zero, Nat.sub_zero, Int.le_refl, true_or, or_true, e3, e4, bytesOf_map, str_eq]
    repeat refine And.intro (by omega) ?_
    exact F6
end
end Go.Ga
