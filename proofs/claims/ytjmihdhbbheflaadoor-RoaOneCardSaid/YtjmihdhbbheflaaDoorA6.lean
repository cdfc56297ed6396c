/- Words and contracts of functions for the statement's proof. No condition. -/
import Derived.Test.YtjmihdhbbheflaaDoorA5
import Derived.ChangeArms
import Derived.OpenShut
import Derived.DataReads
set_option linter.all false

namespace Go.Ga
open Go Go.Proofs
set_option maxRecDepth 100000
def vpsL : List Vp → List Value
  | [] => []
  | v :: l => vpL v ++ vpsL l
structure VpR (nx : Nat) (gt : Nat → Option Blk) (A : Option Addr) (n : Nat) (l : List Vp) : Prop where
  row : Row nx gt 20 A (n * 20) (vpsL l)
  len : l.length = n
  wf : ∀ v ∈ l, v.wf
theorem VpR.keep {nx x : Nat} {gt g : Nat → Option Blk} {A : Option Addr} {n : Nat} {l : List Vp} (h : VpR nx gt A n l) (h1 : nx ≤ x) (h2 : ∀ p, p < nx → g p = gt p) : VpR x g A n l := ⟨h.row.keep h1 h2, h.len, h.wf⟩
theorem VpR.nil {nx : Nat} {gt : Nat → Option Blk} : VpR nx gt none 0 [] := ⟨.nil, rfl, fun _ h => nomatch h⟩
theorem vpsL_app (l k : List Vp) : vpsL (l ++ k) = vpsL l ++ vpsL k := by
  induction l with
  | nil => rfl
  | cons v l ih => rw [List.cons_append, vpsL, vpsL, ih, List.append_assoc]
theorem vpsL_at {l : List Vp} (h : ∀ v ∈ l, v.wf) : ∀ {i : Nat}, i < l.length → ((vpsL l).drop (i * 20)).take 20 = vpL (Vr.at' l i) := by
  induction l with
  | nil => intro i hi; cases hi
  | cons v l ih =>
    intro i hi
    have h1 := vpL_len (h v (by simp)).a
    cases i with
    | zero =>
      rw [Nat.zero_mul, List.drop_zero, vpsL, List.take_append_of_le_length (by omega), List.take_of_length_le (by omega)]
      rfl
    | succ i =>
      rw [vpsL, show (i + 1) * 20 = 20 + i * 20 by omega, ← h1, ← List.drop_drop, List.drop_left, h1, ih (fun x hx => h x (by simp [hx])) (by simpa using hi)]
      rfl
theorem VpR.wfAt {nx : Nat} {gt : Nat → Option Blk} {A : Option Addr} {n : Nat} {l : List Vp} (h : VpR nx gt A n l) {i : Nat} (hi : i < n) : (Vr.at' l i).wf := by
  have hl := h.len
  refine h.wf _ ?_
  unfold Vr.at'
  rw [List.getD_eq_getElem?_getD, List.getElem?_eq_getElem (by omega)]
  exact List.getElem_mem _
theorem VpR.at {nx : Nat} {gt : Nat → Option Blk} {A : Option Addr} {n : Nat} {l : List Vp} (h : VpR nx gt A n l) (hn : 0 < n) :
    ∃ (a : Addr) (cl : List Value) (ro : Bool), A = some a ∧ a.block < nx ∧ gt a.block = some (.cells cl ro) ∧ a.off + n * 20 ≤ cl.length ∧ (∀ i, i < n → (cl.drop (a.off + i * 20)).take 20 = vpL (Vr.at' l i)) ∧
      ∀ i j, i < n → j < 20 → cl.getD (a.off + i * 20 + j) undef = (vpL (Vr.at' l i)).getD j undef := by
  obtain ⟨a, cl, ro, rfl, e2, e3, e4, e5⟩ := h.row.cells (by omega)
  have hl := h.len
  have key : ∀ i, i < n → (cl.drop (a.off + i * 20)).take 20 = vpL (Vr.at' l i) := fun i hi => by
    rw [h.row.load rfl e3 (j := i * 20) (k := 20) (by omega) (by omega), vpsL_at h.wf (by omega)]
  refine ⟨a, cl, ro, rfl, e2, e3, e4, key, fun i j hi hj => ?_⟩
  rw [← key i hi, List.getD_eq_getElem?_getD, List.getD_eq_getElem?_getD, List.getElem?_take_of_lt hj, List.getElem?_drop]
section
variable {nx : Nat} {gt : Nat → Option Blk}
theorem ct_VRight {A : Option Addr} {n c : Nat} {l : List Vp} (hr : VpR nx gt A n l) (hc : n ≤ c) (hn : n < 1000000) : Ct Tryd.prog 14 [.slice A n c] nx gt fun r _ _ => r = .bool (Vr.right l) := by
  refine Ct.of hmx r_roa_Right (by simp [c_roa_Right]) fun b hb => ?_
  have hl := hr.len
  simp only [c_roa_Right, ↓gaW, ↓gaV, ↓gaC, ↓gaN, gaP, simprocAttr, go_mkMap, goQ_mapGet, go_mapPut]
  refine loop_of (fun j f m => ∃ i y g, j = n - i ∧ i ≤ n ∧ f 0 = .slice A n c ∧ f 3 = .map (some nx) ∧ f 7 = .slice A n c ∧ f 8 = .int .i64 (n : Nat) ∧ f 9 = .int .i64 (i : Nat) ∧ m = ⟨y, b, g⟩ ∧ nx + 1 ≤ y ∧ g nx = some (keysM (l.take i)) ∧ (∀ p, p < nx → g p = gt p) ∧ ∀ k, k < i → Vr.stepP l k = true) n ?_ ?_
  · exact ⟨0, _, _, rfl, by omega, (by first | (simp only [↓gaW, ↓gaV, ↓gaC, ↓gaN, gaP, simprocAttr]; done) | (simp only [↓gaW, ↓gaV, ↓gaC, ↓gaN, gaP, simprocAttr]; rfl)), (by first | (simp only [↓gaW, ↓gaV, ↓gaC, ↓gaN, gaP, simprocAttr]; done) | (simp only [↓gaW, ↓gaV, ↓gaC, ↓gaN, gaP, simprocAttr]; rfl)), (by first | (simp only [↓gaW, ↓gaV, ↓gaC, ↓gaN, gaP, simprocAttr]; done) | (simp only [↓gaW, ↓gaV, ↓gaC, ↓gaN, gaP, simprocAttr]; rfl)), (by first | (simp only [↓gaW, ↓gaV, ↓gaC, ↓gaN, gaP, simprocAttr]; done) | (simp only [↓gaW, ↓gaV, ↓gaC, ↓gaN, gaP, simprocAttr]; rfl)), (by first | (simp only [↓gaW, ↓gaV, ↓gaC, ↓gaN, gaP, simprocAttr]; done) | (simp only [↓gaW, ↓gaV, ↓gaC, ↓gaN, gaP, simprocAttr]; rfl)), rfl, Nat.le_refl _, by simp only [upd_e, if_true]; rfl, fun p hp => by simp only [upd_e]; rw [if_neg (by omega)], fun k hk => by omega⟩
  rintro j f m ⟨i, y, g, rfl, hi, h0, h3, h7, h8, h9, rfl, hy, hmap, hF, hst⟩
  simp only [↓gaW, ↓gaV, ↓gaC, ↓gaN, gaP, simprocAttr, h8, h9]
  refine condK_dec (fun hlt => ?_) fun hge => ?_
  · have hi' : i < n := by omega
    have hR := hr.keep (x := y) (by omega) hF
    obtain ⟨a, cl, ro, rfl, e2, e3, e4, e5, e6⟩ := hR.at (by omega)
    have hab : a.block < nx := by
      obtain ⟨a', _, _, ea, eb, _⟩ := hr.at (by omega)
      injection ea with ea; rw [ea]; exact eb
    have hwi := hR.wfAt hi'
    have hw0 := hR.wfAt (i := 0) (by omega)
    have c0 := e6 0 0 (by omega) (by omega)
    rw [vpL_0] at c0
    simp only [Nat.zero_mul, Nat.add_zero] at c0
    have no : (Vr.stepP l i = false) → Vr.right l = false := fun h => by
      rw [← Bool.not_eq_true]
      intro h'
      rw [Vr.right, ← Vr.steps] at h'
      simp only [Bool.and_eq_true, List.all_eq_true] at h'
      have := h'.1 i (List.mem_range.2 (by omega))
      rw [h] at this; cases this
    have hsp : ∀ z : List Value, z.length = 20 → splice z 0 (vpL (Vr.at' l i)) = vpL (Vr.at' l i) := fun z hz => by
      unfold splice
      rw [List.take_zero, List.nil_append, Nat.zero_add, List.drop_of_length_le (by rw [hz, vpL_len hwi.a]; omega), List.append_nil]
    have ht : (vpL (Vr.at' l i)).take 20 = vpL (Vr.at' l i) := List.take_of_length_le (by rw [vpL_len hwi.a]; omega)
    have hF0 : ∀ c0 c1 p, p < y → upd (upd g y c0) y c1 p = g p := fun c0 c1 p hp => by simp only [upd_e]; rw [if_neg (by omega), if_neg (by omega)]
    simp only [↓gaW, ↓gaV, ↓gaC, ↓gaN, gaP, simprocAttr, h0, h7, h9, e3, e5 i hi', hsp, vpL_len hwi.a, List.drop_zero, ht]
    repeat refine And.intro (by omega) ?_
    refine And.intro (vpL_cells _) ?_
    refine callQ_of (ct_One hwi) (fun v1 x1 g1 l1 k1 hC => ?_)
    subst hC
    have F1 : ∀ p, p < y → g1 p = g p := fun p hp => by rw [k1 p (by omega), hF0 _ _ p hp]
    have G1 : ∀ p, p < nx → g1 p = gt p := fun p hp => by rw [F1 p (by omega), hF p hp]
    have e31 : g1 a.block = some (.cells cl ro) := by rw [F1 _ e2, e3]
    have hm1 : g1 nx = some (keysM (l.take i)) := by rw [F1 nx (by omega), hmap]
    have hv1 : g1 y = some (.cells (vpL (Vr.at' l i)) false) := by rw [k1 y (by omega)]; simp only [upd_e, if_true]
    clear k1
    cases hone : Vr.one (Vr.at' l i) with
    | false =>
      have hno := no (by simp only [Vr.stepP, hone, Bool.false_and])
      simp only [↓gaW, ↓gaV, ↓gaC, ↓gaN, gaP, simprocAttr, gaE, hno]
      exact ⟨by omega, G1⟩
    | true =>
    have hks : ∀ x ∈ l.take i, x.a.length = 16 := fun x hx => (hr.wf x (List.mem_of_mem_take hx)).a
    simp only [↓gaW, ↓gaV, ↓gaC, ↓gaN, gaP, simprocAttr, h0, h3, h9, hv1, vpL_len hwi.a, List.drop_zero, ht, goQ_mapGet]
    refine getK_vp tPx tVp hwi.a hks hm1 ?_
    by_cases hmet : Vr.at' l i ∈ l.take i
    · have hno := no (by simp only [Vr.stepP]; rw [decide_eq_false (show ¬ (Vr.at' l i ∉ l.take i) from fun h => h hmet)]; simp)
      simp only [↓gaW, ↓gaV, ↓gaC, ↓gaN, gaP, simprocAttr, hmet, decide_true, gaE, hno]
      exact ⟨by omega, G1⟩
    by_cases has : ((Vr.at' l i).asn.toNat : Int) = ((Vr.at' l 0).asn.toNat : Int)
    case neg =>
      have hno := no (by simp only [Vr.stepP]; rw [decide_eq_false (p := (Vr.at' l i).asn = (Vr.at' l 0).asn) (fun h => has (by rw [h]))]; simp)
      simp only [↓gaW, ↓gaV, ↓gaC, ↓gaN, gaP, simprocAttr, h0, h3, h9, e31, c0, hv1, hmet, decide_false, vpL_len hwi.a, vpL_0, u32V, has, not_false_eq_true, decide_true]
      repeat refine And.intro (by omega) ?_
      simp only [↓gaW, ↓gaV, ↓gaC, ↓gaN, gaP, simprocAttr, gaE, hno]
      exact ⟨by omega, G1⟩
    have has' : (Vr.at' l i).asn = (Vr.at' l 0).asn := UInt32.toNat_inj.1 (by omega)
    have next : Vr.stepP l i = true → ∀ k, k < i + 1 → Vr.stepP l k = true := fun q k hk => by
      rcases Nat.lt_or_ge k i with h | h
      · exact hst k h
      · rw [show k = i by omega]; exact q
    have htk : l.take i ++ [Vr.at' l i] = l.take (i + 1) := by
      rw [List.take_add_one, List.getElem?_eq_getElem (by omega)]
      unfold Vr.at'
      rw [List.getD_eq_getElem?_getD, List.getElem?_eq_getElem (by omega)]
      rfl
    by_cases hi0 : i = 0
    · subst hi0
      simp only [↓gaW, ↓gaV, ↓gaC, ↓gaN, gaP, simprocAttr, h0, h3, h9, e31, c0, hv1, hmet, decide_false, vpL_len hwi.a, vpL_0, u32V, has, not_true_eq_false, decide_false]
      repeat refine And.intro (by omega) ?_
      simp only [↓gaW, ↓gaV, ↓gaC, ↓gaN, gaP, simprocAttr, h0, h3, h9, hv1, vpL_len hwi.a, List.drop_zero, ht, go_mapPut]
      refine putK_vp tPx tVp hwi.a hks hmet hm1 (by omega) ?_
      rw [htk]
      simp only [↓gaW, ↓gaV, ↓gaC, ↓gaN, gaP, simprocAttr, h0, h3, h7, h8, h9, loopK_n]
      exact ⟨n - 1, by omega, 1, x1, _, rfl, by omega, rfl, rfl, by omega, by simp only [upd_e, if_true], fun p hp => by simp only [upd_e]; rw [if_neg (by omega), G1 p hp], next (by simp only [Vr.stepP, hone, has', hmet, not_false_eq_true, decide_true, Bool.true_and, Bool.true_or])⟩
    · have hpos : (0 : Int) < (i : Int) := by omega
      have w1 : IntKind.i64.wrap ((i : Int) - 1) = ((i - 1 : Nat) : Int) := by rw [i64_w _ (by omega)]; omega
      have hwp := hR.wfAt (i := i - 1) (by omega)
      simp only [↓gaW, ↓gaV, ↓gaC, ↓gaN, gaP, simprocAttr, h0, h3, h9, e31, c0, hv1, hmet, decide_false, vpL_len hwi.a, vpL_0, u32V, has, not_true_eq_false, hpos, decide_true, w1, e5 i hi', e5 (i - 1) (by omega), List.drop_zero, ht]
      repeat refine And.intro (by omega) ?_
      refine callK_of (ct_VCmp hwp hwi) (fun v2 x2 g2 l2 k2 hC => ?_) (by omega)
      subst hC
      have G2 : ∀ p, p < nx → g2 p = gt p := fun p hp => by rw [k2 p (by omega), G1 p hp]
      have hm2 : g2 nx = some (keysM (l.take i)) := by rw [k2 nx (by omega), hm1]
      have hv2 : g2 y = some (.cells (vpL (Vr.at' l i)) false) := by rw [k2 y (by omega), hv1]
      by_cases hcm : 0 < Vr.cmp (Vr.at' l (i - 1)) (Vr.at' l i)
      · have hno := no (by simp only [Vr.stepP, hone, has', hmet, hi0, not_false_eq_true, decide_true, decide_false, Bool.true_and, Bool.false_or]; exact decide_eq_false (by omega))
        simp only [↓gaW, ↓gaV, ↓gaC, ↓gaN, gaP, simprocAttr, hcm, decide_true]
        simp only [↓gaW, ↓gaV, ↓gaC, ↓gaN, gaP, simprocAttr, gaE, hno]
        exact ⟨by omega, G2⟩
      · have hs := next (by simp only [Vr.stepP, hone, has', hmet, hi0, not_false_eq_true, decide_true, decide_false, Bool.true_and, Bool.false_or]; exact decide_eq_true (by omega))
        simp only [↓gaW, ↓gaV, ↓gaC, ↓gaN, gaP, simprocAttr, hcm, decide_false]
        simp only [↓gaW, ↓gaV, ↓gaC, ↓gaN, gaP, simprocAttr, h0, h3, h9, hv2, vpL_len hwi.a, List.drop_zero, ht, go_mapPut]
        refine putK_vp tPx tVp hwi.a hks hmet hm2 (by omega) ?_
        rw [htk]
        simp only [↓gaW, ↓gaV, ↓gaC, ↓gaN, gaP, simprocAttr, h0, h3, h7, h8, h9, i64_w ((i : Int) + 1) (by omega), loopK_n]
        exact ⟨n - (i + 1), by omega, i + 1, x2, _, rfl, by omega, rfl, rfl, by omega, by simp only [upd_e, if_true], fun p hp => by simp only [upd_e]; rw [if_neg (by omega), G2 p hp], hs⟩
  · have hin : i = n := by omega
    have hall : (List.range l.length).all (Vr.stepR l) = true := by rw [← Vr.steps]; exact List.all_eq_true.2 fun k hk => hst k (by have := List.mem_range.1 hk; omega)
    simp only [↓gaW, ↓gaV, ↓gaC, ↓gaN, gaP, simprocAttr, h0]
    by_cases h1 : (0 : Int) < (n : Int)
    · simp only [↓gaW, ↓gaV, ↓gaC, ↓gaN, gaP, simprocAttr, h1, decide_true, h0, gaE, Vr.right, hall, Bool.true_and]
      refine ⟨by omega, hF, ?_⟩
      rw [decide_eq_true (show 1 ≤ l.length by omega), Bool.true_and, hl]
      congr 1
      exact decide_eq_decide.2 (by omega)
    · simp only [↓gaW, ↓gaV, ↓gaC, ↓gaN, gaP, simprocAttr, h1, decide_false, h0, gaE, Vr.right, hall, Bool.true_and]
      refine ⟨by omega, hF, ?_⟩
      rw [decide_eq_false (show ¬ 1 ≤ l.length by omega), Bool.false_and]
end
end Go.Ga

namespace Go.Ga
open Go
def shC (τ : Nat → Nat) (k : Nat) : Value → Value
  | .pointer (some a) => if a.block < k then .pointer (some ⟨τ a.block, a.off, a.spot⟩) else botV
  | .slice (some a) n c => if a.block < k then .slice (some ⟨τ a.block, a.off, a.spot⟩) n c else if n = 0 ∧ c = 0 then .slice (some ⟨0, 0, none⟩) 0 0 else botV
  | .map (some b) => if b < k then .map (some (τ b)) else botV
  | .func _ _ _ => botV
  | .iface _ _ => botV
  | .agg _ => botV
  | .tuple cs => if cs.size = 0 then undef else botV
  | v => v
def shA (τ : Nat → Nat) (k : Nat) : Value → Value
  | .agg cs => .agg (cs.map (shC τ k))
  | v => shC τ k v
def shV (τ : Nat → Nat) (k : Nat) : Value → Value
  | .tuple cs => .tuple (cs.map (shA τ k))
  | v => shA τ k v
def shB (τ : Nat → Nat) (k : Nat) : Option Blk → Option Blk
  | some (.cells l ro) => some (.cells (l.map (shC τ k)) ro)
  | some (.map es) => some (.map (es.map fun p => (p.1, shV τ k p.2)))
  | none => none
theorem shC_und (τ : Nat → Nat) (k : Nat) : shC τ k undef = undef := rfl
theorem shA_und (τ : Nat → Nat) (k : Nat) : shA τ k undef = undef := rfl
theorem shV_und (τ : Nat → Nat) (k : Nat) : shV τ k undef = undef := by simp [shV, undef]
theorem shA_of {τ : Nat → Nat} {k : Nat} {v : Value} (h : ∀ cs, v ≠ .agg cs) : shA τ k v = shC τ k v := by
  cases v <;> first | rfl | exact absurd rfl (h _)
theorem shV_of {τ : Nat → Nat} {k : Nat} {v : Value} (h : ∀ cs, v ≠ .tuple cs) : shV τ k v = shA τ k v := by
  cases v <;> first | rfl | exact absurd rfl (h _)
theorem amap_getD (f : Value → Value) (h : f undef = undef) (cs : Array Value) (i : Nat) : (cs.map f).getD i undef = f (cs.getD i undef) := by
  simp only [Array.getD, Array.size_map]
  split
  · simp
  · exact h.symm
theorem lmap_getD (f : Value → Value) (h : f undef = undef) (l : List Value) (i : Nat) : (l.map f).getD i undef = f (l.getD i undef) := by
  rw [List.getD_eq_getElem?_getD, List.getD_eq_getElem?_getD, List.getElem?_map]
  cases l[i]? with
  | none => exact h.symm
  | some v => rfl
section
variable {r1 r2 : Ren} {τ : Nat → Nat} {k : Nat}
theorem shC_vr (hT : ∀ n l, r1 n = some l → n < k ∧ r2 (τ n) = some l) {v y : Value} (h : VR r1 v y) : VR r2 (shC τ k v) y := by
  cases h with
  | bool b => exact .bool b
  | int k n => exact .int k n
  | string s => exact .string s
  | und => exact .und
  | bot v => exact .bot _
  | pnil => exact .pnil
  | ptr hs h =>
    obtain ⟨hs1, l, hl, hat⟩ := h
    obtain ⟨h1, h2⟩ := hT _ _ hl
    simp only [shC, h1, if_true]
    exact .ptr hs ⟨hs1, l, h2, hat⟩
  | snil => exact .snil
  | slice hn h =>
    rename_i a a' n c c'
    by_cases hk : a.block < k
    · simp only [shC, hk, if_true]
      exact .slice hn (SR.ren (b' := a.block) (fun l hl => (hT _ _ hl).2) h)
    · simp only [shC, hk, if_false]
      have hc : c' = 0 := by
        rcases h.loc with h0 | ⟨_, l, hl, _⟩
        · exact h0
        · exact absurd (hT _ _ hl).1 hk
      subst hc
      have h1 := h.le
      rw [if_pos ⟨by omega, by omega⟩]
      have e1 : n = 0 := by omega
      have e2 : c = 0 := by omega
      rw [e1]
      exact .slice (Nat.le_refl _) ⟨Nat.le_refl _, .inl rfl, fun _ _ => .inl rfl, fun _ => rfl⟩
  | mnil => exact .mnil
  | map h =>
    obtain ⟨l, hl, hat⟩ := h
    obtain ⟨h1, h2⟩ := hT _ _ hl
    simp only [shC, h1, if_true]
    exact .map ⟨l, h2, hat⟩
  | func fn hs h => exact .bot _
  | nilFunc => exact .nilFunc
  | nilIface => exact .nilIface
  | iface t h => exact .bot _
  | agg hs h => exact .bot _
  | tuple hs h =>
    rename_i cs cs'
    simp only [shC]
    split
    · have e : cs' = #[] := Array.size_eq_zero_iff.1 (by omega)
      subst e
      exact .und
    · exact .bot _
theorem shA_vr (hT : ∀ n l, r1 n = some l → n < k ∧ r2 (τ n) = some l) {v y : Value} (h : VR r1 v y) : VR r2 (shA τ k v) y := by
  by_cases h0 : ∃ cs, v = .agg cs
  · obtain ⟨cs, rfl⟩ := h0
    cases h with
    | agg hs h =>
      refine .agg (by simpa using hs) fun i => ?_
      rw [amap_getD _ (shC_und τ k)]
      exact shC_vr hT (h i)
  · rw [shA_of fun cs e => h0 ⟨cs, e⟩]
    exact shC_vr hT h
theorem shV_vr (hT : ∀ n l, r1 n = some l → n < k ∧ r2 (τ n) = some l) {v y : Value} (h : VR r1 v y) : VR r2 (shV τ k v) y := by
  by_cases h0 : ∃ cs, v = .tuple cs
  · obtain ⟨cs, rfl⟩ := h0
    cases h with
    | tuple hs h =>
      refine .tuple (by simpa using hs) fun i => ?_
      rw [amap_getD _ (shA_und τ k)]
      exact shA_vr hT (h i)
    | und => exact (shV_und τ k).symm ▸ VR.und
  · rw [shV_of fun cs e => h0 ⟨cs, e⟩]
    exact shA_vr hT h
theorem shB_br (hT : ∀ n l, r1 n = some l → n < k ∧ r2 (τ n) = some l) {b : Blk} {o : Option Obj} {base csz : Nat} (h : BR r1 b o base csz) : ∃ b', shB τ k (some b) = some b' ∧ BR r2 b' o base csz := by
  cases b with
  | cells l ro =>
    obtain ⟨c, e, fr, e1, e2, e3, e4, e5⟩ := h
    refine ⟨_, rfl, c, e, fr, e1, by simpa using e2, e3, fun i hi => ?_, e5⟩
    rw [lmap_getD _ (shC_und τ k)]
    exact shC_vr hT (e4 i (by simpa using hi))
  | map es =>
    obtain ⟨c, q, e1, e2, e3, e4⟩ := h
    refine ⟨_, rfl, c, q, e1, by rw [e2, List.map_map]; rfl, fun p hp => ?_, fun i => ?_⟩
    · obtain ⟨q, hq, rfl⟩ := List.mem_map.1 hp
      exact e3 q hq
    · have : (List.map (fun x => x.2) (es.map fun p => (p.1, shV τ k p.2))) = (es.map (·.2)).map (shV τ k) := by rw [List.map_map, List.map_map]; rfl
      rw [this, lmap_getD _ (shV_und τ k)]
      exact shV_vr hT (e4 i)
variable {S : Nat → Nat → Prop} {τ' : Nat → Nat}
end
def tau (K x : Nat) (ι : Nat → Nat) (n : Nat) : Nat := if n < K then ι n else n - K + x
def shG (K k x : Nat) (ι : Nat → Nat) (gt G : Nat → Option Blk) (n : Nat) : Option Blk := if n < x then gt n else shB (tau K x ι) k (G (n - x + K))
theorem FnEv.shift {P : Program} {g : FuncId} {args args2 : List Value} {v : Value} {m' : Mem} {K x b : Nat} {gs gt : Nat → Option Blk} {ι : Nat → Nat} (h : FnEv P g args ⟨K, K, gs⟩ (.ret v) m') (hb : b ≤ x) (hι : ∀ n, n < K → ι n < x)
    (hinj : ∀ n n', n < K → n' < K → ι n = ι n' → n = n') (hg : ∀ n, n < K → gs n = gt (ι n) ∧ flatB (gs n) = true) (hl : args2.length = args.length) (ha : ∀ i, NV (fun a b => a < K ∧ b = ι a) (args.getD i undef) (args2.getD i undef)) :
    FnEv P g args2 ⟨x, b, gt⟩ (.ret (shV (tau K x ι) m'.next v)) ⟨x + (m'.next - K), b, shG K m'.next x ι gt m'.get⟩ := by
  obtain ⟨hfn, hext, hc⟩ := h
  have hnext : K ≤ m'.next := hext.next
  refine ⟨hfn, ⟨rfl, Nat.le_add_right _ _, fun n hn => if_pos (by simp only at hn; omega)⟩, fun r w args' hm hsz hva => ?_⟩
  let r0 : Ren := fun n => if n < K then r (ι n) else none
  have r0lo : ∀ n, n < K → r0 n = r (ι n) := fun n hn => by simp only [r0]; rw [if_pos hn]
  have r0no : ∀ n, K ≤ n → r0 n = none := fun n hn => by simp only [r0]; rw [if_neg (by omega)]
  have r0lt : ∀ n l, r0 n = some l → n < K := fun n l hn => by
    rcases Nat.lt_or_ge n K with h1 | h1
    · exact h1
    · rw [r0no n h1] at hn; cases hn
  have hm0 : MemRel r0 ⟨K, K, gs⟩ w := by
    refine ⟨Nat.le_refl _, fun n l hn => r0lt n l hn, fun n hn => ?_, fun n cb base csz hn => ?_, fun n n' cb b1 c1 b2 c2 h1 h2 => ?_⟩
    · have hK := r0lt n _ hn
      rw [r0lo n hK] at hn
      show gs n = none
      rw [(hg n hK).1]; exact hm.dead _ hn
    · have hK := r0lt n _ hn
      rw [r0lo n hK] at hn
      obtain ⟨bb, e1, e2⟩ := hm.live _ _ _ _ hn
      have e1' : gs n = some bb := (hg n hK).1.trans e1
      exact ⟨bb, e1', e2.flat (by rw [← e1']; exact (hg n hK).2)⟩
    · have k1 := r0lt n _ h1
      have k2 := r0lt n' _ h2
      rw [r0lo n k1] at h1
      rw [r0lo n' k2] at h2
      exact hinj n n' k1 k2 (hm.inj _ _ _ _ _ _ _ h1 h2)
  refine (hc r0 w args' hm0 (by rw [hsz, hl]) fun i => (ha i).vr (fun a c l hS hl => by obtain ⟨h1, rfl⟩ := hS; rw [r0lo a h1]; exact hl) (hva i)).mono fun e w' hw => ?_
  obtain ⟨r0', hres, hm', hf'⟩ := hw
  let r' : Ren := fun n => if n < x then r n else r0' (n - x + K)
  have r'lo : ∀ n, n < x → r' n = r n := fun n hn => by simp only [r']; rw [if_pos hn]
  have r'hi : ∀ n, x ≤ n → r' n = r0' (n - x + K) := fun n hn => by simp only [r']; rw [if_neg (by omega)]
  have hlow : ∀ n, n < K → r0' n = r0 n := fun n hn => hf'.lowR n hn
  have hT : ∀ n l, r0' n = some l → n < m'.next ∧ r' (tau K x ι n) = some l := fun n l hn => by
    refine ⟨hm'.born n l hn, ?_⟩
    unfold tau
    split
    · rename_i h1
      rw [r'lo _ (hι n h1), ← r0lo n h1, ← hlow n h1]; exact hn
    · rw [r'hi _ (by omega), show n - K + x - x + K = n by omega]; exact hn
  have hext' : Ext r r' := fun n l hn => .inl (by rw [r'lo n (hm.born n l hn)]; exact hn)
  have newer : ∀ n cb base csz, K ≤ n → r0' n = some (.at cb base csz) → w.heap.size ≤ cb := fun n cb base csz hn h => by
    rcases hf'.img n cb base csz h with h1 | h1 | ⟨n0, b0, c0, h1, h2⟩
    · have := r0lt n _ h1; omega
    · exact h1
    · have := r0lt n0 _ h2; simp only at h1; omega
  have heapOld : ∀ n cb base csz, r n = some (.at cb base csz) → w'.heap[cb]? = w.heap[cb]? := fun n cb base csz hn => by
    by_cases hex : ∃ j b1 c1, r0 j = some (.at cb b1 c1)
    · obtain ⟨j, b1, c1, hj⟩ := hex
      exact hf'.low j cb b1 c1 (r0lt j _ hj) hj
    · exact hf'.out cb (hm.lt hn) fun j b1 c1 hj => hex ⟨j, b1, c1, hj⟩
  refine ⟨r', ?_, ⟨by show b ≤ x + _; omega, fun n l hn => ?_, fun n hn => ?_, fun n cb base csz hn => ?_, fun n n' cb b1 c1 b2 c2 h1 h2 => ?_⟩, ⟨hf'.size, hf'.os, hf'.tape, hf'.output, fun cb hcb hno => ?_, fun n cb base csz hn hr => heapOld n cb base csz hr, fun n hn => r'lo n (by simp only at hn; omega), hext', fun n h1 h2 => ?_, fun n cb base csz hn => ?_⟩⟩
  · cases e with
    | returned v' => exact shV_vr hT hres
    | panicked ch => exact hres.elim
    | outgrown => exact hres.elim
  · show n < x + (m'.next - K)
    rcases Nat.lt_or_ge n x with h1 | h1
    · omega
    · rw [r'hi n h1] at hn
      have := hm'.born _ _ hn
      omega
  · show shG K m'.next x ι gt m'.get n = none
    unfold shG
    rcases Nat.lt_or_ge n x with h1 | h1
    · rw [if_pos h1]
      rw [r'lo n h1] at hn
      exact hm.dead n hn
    · rw [if_neg (by omega)]
      rw [r'hi n h1] at hn
      rw [hm'.dead _ hn]; rfl
  · show ∃ bb, shG K m'.next x ι gt m'.get n = some bb ∧ _
    unfold shG
    rcases Nat.lt_or_ge n x with h1 | h1
    · rw [if_pos h1]
      rw [r'lo n h1] at hn
      obtain ⟨bb, e1, e2⟩ := hm.live n cb base csz hn
      refine ⟨bb, e1, ?_⟩
      rw [heapOld n cb base csz hn]
      exact e2.mono hext'
    · rw [if_neg (by omega)]
      rw [r'hi n h1] at hn
      obtain ⟨bb, e1, e2⟩ := hm'.live _ cb base csz hn
      rw [e1]
      exact shB_br hT e2
  · rcases Nat.lt_or_ge n x with g1 | g1 <;> rcases Nat.lt_or_ge n' x with g2 | g2
    · rw [r'lo n g1] at h1; rw [r'lo n' g2] at h2
      exact hm.inj _ _ _ _ _ _ _ h1 h2
    · rw [r'lo n g1] at h1; rw [r'hi n' g2] at h2
      have := hm.lt h1; have := newer _ _ _ _ (by omega) h2; omega
    · rw [r'hi n g1] at h1; rw [r'lo n' g2] at h2
      have := hm.lt h2; have := newer _ _ _ _ (by omega) h1; omega
    · rw [r'hi n g1] at h1; rw [r'hi n' g2] at h2
      have := hm'.inj _ _ _ _ _ _ _ h1 h2
      omega
  · refine hf'.out cb hcb fun j b1 c1 hj => ?_
    have := r0lt j _ hj
    rw [r0lo j this] at hj
    exact hno _ _ _ hj
  · show x ≤ n
    rcases Nat.lt_or_ge n x with h3 | h3
    · rw [r'lo n h3] at h2; exact absurd h1 h2
    · exact h3
  · rcases Nat.lt_or_ge n x with h3 | h3
    · rw [r'lo n h3] at hn; exact .inl hn
    · rw [r'hi n h3] at hn
      exact .inr (.inl (newer _ _ _ _ (by omega) hn))
end Go.Ga

namespace Go.Ga
open Go Go.Proofs
set_option maxRecDepth 100000
def shS (τ : Nat → Nat) (k : Nat) : Option Addr → Option Addr
  | none => none
  | some a => if a.block < k then some ⟨τ a.block, a.off, a.spot⟩ else some ⟨0, 0, none⟩
theorem VR.slice_real {r : Ren} {m : Mem} {w : World} (hm : MemRel r m w) {A : Option Addr} {n c : Nat} {y : Value} (h : VR r (.slice A n c) y) : A = none ∨ (n = 0 ∧ c = 0) ∨ ∃ a, A = some a ∧ a.block < m.next := by
  cases h with
  | snil => exact .inl rfl
  | slice hn h =>
    rename_i a a' c'
    rcases h.loc with h0 | ⟨_, l, hl, _⟩
    · have := h.le
      exact .inr (.inl ⟨by omega, by omega⟩)
    · exact .inr (.inr ⟨a, rfl, hm.born _ _ hl⟩)
theorem shC_slice {τ : Nat → Nat} {k : Nat} {A : Option Addr} {n c : Nat} (h : A = none ∨ (n = 0 ∧ c = 0) ∨ ∃ a, A = some a ∧ a.block < k) : shC τ k (.slice A n c) = .slice (shS τ k A) n c := by
  cases A with
  | none => rfl
  | some a =>
    simp only [shC, shS]
    by_cases hk : a.block < k
    · simp only [hk, if_true]
    · rcases h with h | ⟨h1, h2⟩ | ⟨b, hb, h⟩
      · cases h
      · simp only [hk, if_false, h1, h2, and_self, if_true]
      · injection hb with hb; subst hb; exact absurd h hk
theorem RowL.shift {K k x : Nat} {ι : Nat → Nat} {gt G : Nat → Option Blk} {B : Option Addr} {N e : Nat} {l : List UInt8} (hK : K ≤ k) (h : RowL K k G e B N (l.map u8V)) : RowL x (x + (k - K)) (shG K k x ι gt G) e (shS (tau K x ι) k B) N (l.map u8V) := by
  refine ⟨⟨fun a ha => ?_, h.1.len, fun hN => ?_⟩, fun hN a ha => ?_⟩
  · cases B with
    | none => cases ha
    | some a0 =>
      simp only [shS] at ha
      split at ha
      · injection ha with ha; subst ha; exact h.1.spot a0 rfl
      · injection ha with ha; subst ha; exact .inl rfl
  · obtain ⟨a, c, ro, rfl, e2, e3, e4, e5⟩ := h.1.cells hN
    have hlo := h.2 hN a rfl
    simp only [shS, e2, if_true]
    have ht : tau K x ι a.block = a.block - K + x := by unfold tau; rw [if_neg (by omega)]
    refine ⟨_, c.map (shC (tau K x ι) k), ro, rfl, by simp only [ht]; omega, ?_, by simp only [List.length_map]; exact e4, fun i hi => ?_⟩
    · simp only [shG, ht]
      rw [if_neg (by omega), show a.block - K + x - x + K = a.block by omega, e3]
      rfl
    · simp only
      rw [lmap_getD _ (shC_und _ _), e5 i hi]
      have := h.1.len
      rw [getD_u8 (by simpa using (by omega : i < N) |> fun h' => by have := h.1.len; simp at this; omega)]
      rfl
  · obtain ⟨a0, c, ro, rfl, e2, e3, e4, e5⟩ := h.1.cells hN
    have hlo := h.2 hN a0 rfl
    simp only [shS, e2, if_true] at ha
    injection ha with ha; subst ha
    simp only [tau]
    rw [if_neg (by omega)]; omega
theorem NodeIs.shift {K k x : Nat} {ι : Nat → Nat} {gt G : Nat → Option Blk} {v y : Value} {E : Fo.El} {r : Ren} {m : Mem} {w : World} (hK : K ≤ k) (hE : E.k = .nil) (h : NodeIs K k G v E) (hm : MemRel r m w) (hk : m.next = k) (hv : VR r v y) :
    NodeIs x (x + (k - K)) (shG K k x ι gt G) (shV (tau K x ι) k v) E := by
  obtain ⟨B, n1, d1, A, n2, c2, ks, rfl, hN⟩ := h
  cases hv with
  | agg hs hc =>
    have h1 := hc 1
    have h2 := hc 2
    have q1 := (VR.slice_real hm (A := B) (n := n1) (c := d1) h1)
    have q2 := (VR.slice_real hm (A := A) (n := n2) (c := c2) h2)
    rw [hk] at q1 q2
    have e : shV (tau K x ι) k (nodeV E.t B n1 d1 A n2 c2) = nodeV E.t (shS (tau K x ι) k B) n1 d1 (shS (tau K x ι) k A) n2 c2 := by
      show Value.agg (#[Value.int .i64 E.t, .slice B n1 d1, .slice A n2 c2].map (shC (tau K x ι) k)) = _
      simp only [Array.map, nodeV]
      have : (#[Value.int .i64 E.t, .slice B n1 d1, .slice A n2 c2].map (shC (tau K x ι) k)) = #[shC (tau K x ι) k (.int .i64 E.t), shC (tau K x ι) k (.slice B n1 d1), shC (tau K x ι) k (.slice A n2 c2)] := by simp
      rw [← shC_slice q1, ← shC_slice q2]
      exact congrArg Value.agg this
    have hn0 : n2 = 0 := by have := hN.len; rw [hE] at this; exact this
    subst hn0
    have hks : ks = [] := by have := hN.kids; rw [hE] at this; exact this
    subst hks
    refine ⟨_, n1, d1, _, 0, c2, [], e, ⟨hN.tg, hN.body.shift hK, hN.md, ⟨⟨fun a ha => ?_, rfl, fun h => absurd h (by simp)⟩, fun h => absurd h (by simp)⟩, hN.nc, by rw [hE]; rfl, by rw [hE]; rfl⟩⟩
    cases A with
    | none => cases ha
    | some a0 =>
      simp only [shS] at ha
      split at ha
      · injection ha with ha; subst ha; exact hN.row.1.spot a0 rfl
      · injection ha with ha; subst ha; exact .inl rfl
end Go.Ga

namespace Go.Ga
open Go Go.Proofs
set_option maxRecDepth 100000
theorem Ct.mono {P : Program} {g : Nat} {args : List Value} {nx : Nat} {gt : Nat → Option Blk} {C C' : Value → Nat → (Nat → Option Blk) → Prop} (h : Ct P g args nx gt C) (hC : ∀ v x g, C v x g → C' v x g) : Ct P g args nx gt C' := fun b hb =>
  (h b hb).mono fun res m' _ hh => by
    obtain ⟨v, h1, h2, h3, h4, h5⟩ := hh
    exact ⟨v, h1, h2, h3, h4, hC _ _ _ h5⟩
noncomputable def intN (n : Nat) : Fo.El := open Classical in if h : ∃ y, intE n y then h.choose else ⟨0, [], .nil⟩
theorem intN_is {n : Nat} (hn : n < 18446744073709551616) : intE n (intN n) := by
  unfold intN
  rw [dif_pos (intE_ex hn)]
  exact (intE_ex hn).choose_spec
theorem ct_IntN {nx : Nat} {gt : Nat → Option Blk} {n : Nat} (hn : n < 18446744073709551616) : Ct Tryd.prog 21 [.int .u64 (n : Nat)] nx gt fun v x g => NodeIs nx x g v (intN n) :=
  (ct_Int hn).mono fun v x g ⟨y, h1, h2⟩ => by rw [intE_one (intN_is hn) h1]; exact h2
theorem keepStep {L : List Nat} {F f : Regs} {r : Nat} {v : Value} (h : ∀ i ∈ L, F i = f i) (hr : r ∉ L) : ∀ i ∈ L, putR F (some r) v i = f i := fun i hi => by
  simp only [putR]
  rw [if_neg fun e => hr (by rw [← e]; exact hi)]
  exact h i hi
def makeT1 : RC :=
  (.tree [
  ⟨(some 19), (.op (.mv (.t 7))), none⟩,
  ⟨(some 20), (.op (.mv (.t 7))), none⟩,
  ⟨(some 21), (.op (.fieldAddr 1 (.t 6))), none⟩,
  ⟨(some 22), (.op (.fieldAddr 0 (.t 21))), none⟩,
  ⟨(some 23), (.op (.load1 (.t 22))), none⟩,
  ⟨(some 24), (.call (.k (.func (.func 20) #[] #[])) [(.t 23)]), none⟩,
  ⟨(some 25), (.op (.fieldAddr 19 (.t 6))), none⟩,
  ⟨(some 26), (.op (.load1 (.t 25))), none⟩,
  ⟨(some 27), (.op (.toInt .u64 (.t 26))), none⟩,
  ⟨(some 28), (.call (.k (.func (.func 21) #[] #[])) [(.t 27)]), none⟩,
  ⟨(some 29), (.op (.ixAddr 3 (.t 19) (.k (.int .i64 0)))), none⟩,
  ⟨none, (.op (.store 3 (.t 29) (.t 24))), none⟩,
  ⟨(some 30), (.op (.ixAddr 3 (.t 20) (.k (.int .i64 2)))), none⟩,
  ⟨none, (.op (.store 3 (.t 30) (.t 28))), none⟩] d_roa_Make q_roa_Make)
def makeT2 : RC :=
  (.tree [
  ⟨(some 32), (.op (.mv (.t 7))), none⟩,
  ⟨(some 33), (.op (.fieldAddr 1 (.t 6))), none⟩,
  ⟨(some 34), (.op (.fieldAddr 1 (.t 33))), none⟩,
  ⟨(some 35), (.op (.fieldAddr 1 (.t 6))), none⟩,
  ⟨(some 36), (.op (.fieldAddr 17 (.t 35))), none⟩,
  ⟨(some 37), (.op (.load1 (.t 36))), none⟩,
  ⟨(some 38), (.op (.bin .add (.t 37) (.k (.int .i64 7)))), none⟩,
  ⟨(some 39), (.op (.bin .quo (.t 38) (.k (.int .i64 8)))), none⟩,
  ⟨(some 40), (.op (.slArr 16 1 (.t 34) none (some (.t 39)) none)), none⟩,
  ⟨(some 41), (.op (.fieldAddr 1 (.t 6))), none⟩,
  ⟨(some 42), (.op (.fieldAddr 17 (.t 41))), none⟩,
  ⟨(some 43), (.op (.load1 (.t 42))), none⟩,
  ⟨(some 44), (.call (.k (.func (.func 22) #[] #[])) [(.t 40), (.t 43)]), none⟩,
  ⟨(some 31), (.op (.mv (.t 44))), none⟩,
  ⟨(some 45), (.op (.extract (.t 31) 0)), none⟩,
  ⟨(some 46), (.op (.extract (.t 31) 1)), none⟩,
  ⟨(some 47), (.op (.ixAddr 3 (.t 32) (.k (.int .i64 1)))), none⟩,
  ⟨none, (.op (.store 3 (.t 47) (.t 45))), none⟩] d_roa_Make1 q_roa_Make1)
def kept (L : List Nat) (f : Regs) : Regs := fun i => if i ∈ L then f i else botV
theorem make_tree1 {x b y q : Nat} {g : Nat → Option Blk} {f : Regs} {v : Vp} {z : List Value} {Q : AEx → Regs → Mem → Prop} (hv : v.wf) (hmx : 0 ≤ v.mx) (hb : b ≤ q) (h6 : f 6 = .pointer (some ⟨y, 0, none⟩)) (h7 : f 7 = .slice (some ⟨q, 0, none⟩) 3 3) (hy : y < q) (hq : q < x)
    (hgy : g y = some (.cells (vpL v) false)) (hgq : g q = some (.cells z false)) (hz : z.length = 9)
    (hQ : ∀ x' g' t1 B1 m1 d1 A1 n1 c1 k1 t3 B3 m3 d3 A3 n3 c3 k3, x ≤ x' → (∀ p, p < x → p ≠ q → g' p = g p) → t1 = (boolE v.v6).t → t3 = (intN v.mx.toNat).t → g' q = some (.cells (nodeL t1 B1 m1 d1 A1 n1 c1 ++ ((z.drop 3).take 3 ++ nodeL t3 B3 m3 d3 A3 n3 c3)) false) →
      NdL x x' g' (boolE v.v6) B1 m1 d1 A1 n1 c1 k1 → NdL x x' g' (intN v.mx.toNat) B3 m3 d3 A3 n3 c3 k3 → Q .normal (kept [0, 4, 6, 7, 12, 13, 14] f) ⟨x', b, g'⟩) :
    RC.vc Tryd.prog makeT1 f ⟨x, b, g⟩ Q := by
  have hmxN : IntKind.u64.wrap v.mx = ((v.mx.toNat : Nat) : Int) := by have := hv.mx; rw [u64_w]; omega
  obtain ⟨res, M1, hC, hcall1⟩ := Fn.det (ct_Bool v.v6 (nx := x) (gt := g) b (by omega)) (by show b ≤ x; omega)
  obtain ⟨w1, rfl, e1, e2, e3, B1, m1, d1, A1, n1, c1, k1, rfl, N1⟩ := hC
  obtain ⟨x1, b1, g1⟩ := M1
  simp only at e1 e2 e3 N1
  subst e1
  obtain ⟨res, M2, hC, hcall2⟩ := Fn.det (ct_IntN (n := v.mx.toNat) (nx := x1) (gt := g1) (by have := hv.mx; omega) b1 (by omega)) (by show b1 ≤ x1; omega)
  obtain ⟨w2, rfl, f1, f2, f3, B3, m3, d3, A3, n3, c3, k3, rfl, N3⟩ := hC
  obtain ⟨x2, b2, g2⟩ := M2
  simp only at f1 f2 f3 N3
  subst f1
  have hgy2 : ∀ M : Mem, (M = ⟨x, b2, g⟩ ∨ M = ⟨x1, b2, g1⟩ ∨ M = ⟨x2, b2, g2⟩) → M.get y = some (.cells (vpL v) false) := fun M h => by
    rcases h with rfl | rfl | rfl
    · exact hgy
    · show g1 y = _; rw [e3 y (by omega), hgy]
    · show g2 y = _; rw [f3 y (by omega), e3 y (by omega), hgy]
  have hq2 : g2 q = some (.cells z false) := by rw [f3 q (by omega), e3 q (by omega), hgq]
  obtain ⟨g3, hg3⟩ : ∃ g, g = upd g2 q (some (.cells (splice z 0 (nodeL (boolE v.v6).t B1 m1 d1 A1 n1 c1)) false)) := ⟨_, rfl⟩
  obtain ⟨g4, hg4⟩ : ∃ g, g = upd g3 q (some (.cells (splice (splice z 0 (nodeL (boolE v.v6).t B1 m1 d1 A1 n1 c1)) 6 (nodeL (intN v.mx.toNat).t B3 m3 d3 A3 n3 c3)) false)) := ⟨_, rfl⟩
  have hq3 : g3 q = some (.cells (splice z 0 (nodeL (boolE v.v6).t B1 m1 d1 A1 n1 c1)) false) := by rw [hg3]; simp only [upd_e, if_true]
  have hy3 : g3 y = some (.cells (vpL v) false) := by rw [hg3]; simp only [upd_e]; rw [if_neg (by omega)]; exact hgy2 _ (.inr (.inr rfl))
  have hl1 : (splice z 0 (nodeL (boolE v.v6).t B1 m1 d1 A1 n1 c1)).length = 9 := by rw [length_splice (by simp [hz]), hz]
  have F4 : ∀ p, p ≠ q → g4 p = g2 p := fun p hp => by rw [hg4, hg3]; simp only [upd_e]; rw [if_neg hp, if_neg hp]
  unfold makeT1
  refine vc_tree_same ⟨kept [0, 4, 6, 7, 12, 13, 14] f, ⟨x2, b2, g4⟩, ?_, ⟨rfl, by show x ≤ x2; omega, fun p hp => ?_⟩, ?_⟩
  · refine hQ x2 g4 _ B1 m1 d1 A1 n1 c1 k1 _ B3 m3 d3 A3 n3 c3 k3 (by omega) (fun p hp hpq => by rw [F4 p hpq, f3 p (by omega), e3 p hp]) rfl rfl ?_ ?_ ?_
    · rw [hg4]; simp only [upd_e, if_true]
      congr 2
      match z, hz with
      | [z0, z1, z2, z3, z4, z5, z6, z7, z8], _ => rfl
    · exact (N1.keep (x' := x2) (g := g4) f2 fun p h1 h2 => by rw [F4 p (by omega), f3 p h2])
    · exact (N3.keep (x' := x2) (g := g4) (Nat.le_refl _) fun p h1 h2 => by rw [F4 p (by omega)]).wid e2
  · show g4 p = g p
    have hp' : p < b2 := hp
    rw [F4 p (by omega), f3 p (by omega), e3 p (by omega)]
  · refine tree_inv2 (fun S F mm => Held [(0, 19, .slice (some ⟨q, 0, none⟩) 3 3), (1, 20, .slice (some ⟨q, 0, none⟩) 3 3), (2, 21, .pointer (some ⟨y, 1, none⟩)), (3, 22, .pointer (some ⟨y, 1, none⟩)), (4, 23, .bool v.v6), (5, 24, nodeV (boolE v.v6).t B1 m1 d1 A1 n1 c1), (6, 25, .pointer (some ⟨y, 19, none⟩)), (7, 26, .int .i64 v.mx), (8, 27, .int .u64 (v.mx.toNat : Nat)), (9, 28, nodeV (intN v.mx.toNat).t B3 m3 d3 A3 n3 c3), (10, 29, .pointer (some ⟨q, 0, none⟩)), (12, 30, .pointer (some ⟨q, 6, none⟩))] S F ∧
        (∀ i ∈ [0, 4, 6, 7, 12, 13, 14], F i = f i) ∧ (S 9 = true → S 5 = true) ∧ (S 11 = true → S 9 = true) ∧ (S 13 = true → S 11 = true) ∧ mm = if S 13 then ⟨x2, b2, g4⟩ else if S 11 then ⟨x2, b2, g3⟩ else if S 9 then ⟨x2, b2, g2⟩ else if S 5 then ⟨x1, b2, g1⟩ else ⟨x, b2, g⟩) rfl ?_ ?_ _ _ _ _ (by rw [lefts_zero]) ?_
    · rintro S i F mm ⟨h1, hk, o1, o2, o3, hmm⟩ hi hSi hdeps
      have hbm : mm.get y = some (.cells (vpL v) false) := by
        rw [hmm]
        split
        · show g4 y = _
          rw [F4 y (by omega)]; exact hgy2 _ (.inr (.inr rfl))
        split
        · exact hy3
        · split
          · exact hgy2 _ (.inr (.inr rfl))
          · split
            · exact hgy2 _ (.inr (.inl rfl))
            · exact hgy2 _ (.inl rfl)
      have k6 : F 6 = .pointer (some ⟨y, 0, none⟩) := (hk 6 (by decide)).trans h6
      have k7 : F 7 = .slice (some ⟨q, 0, none⟩) 3 3 := (hk 7 (by decide)).trans h7
      have hi' : i < 14 := hi
      rcases i with _ | _ | _ | _ | _ | _ | _ | _ | _ | _ | _ | _ | _ | _ | i
      · refine ⟨_, rfl, fun K hK _ => ?_⟩
        simp only [↓gaW, ↓gaV, ↓gaC, ↓gaN, gaP, simprocAttr, k7]
        exact hK _ _ ⟨h1.step (by simp), keepStep hk (by decide), by simpa using o1, by simpa using o2, by simpa using o3, by simpa using hmm⟩
      · refine ⟨_, rfl, fun K hK _ => ?_⟩
        simp only [↓gaW, ↓gaV, ↓gaC, ↓gaN, gaP, simprocAttr, k7]
        exact hK _ _ ⟨h1.step (by simp), keepStep hk (by decide), by simpa using o1, by simpa using o2, by simpa using o3, by simpa using hmm⟩
      · refine ⟨_, rfl, fun K hK _ => ?_⟩
        simp only [↓gaW, ↓gaV, ↓gaC, ↓gaN, gaP, simprocAttr, k6]
        exact hK _ _ ⟨h1.step (by simp), keepStep hk (by decide), by simpa using o1, by simpa using o2, by simpa using o3, by simpa using hmm⟩
      · refine ⟨_, rfl, fun K hK _ => ?_⟩
        have q2 := h1.at 2 rfl (hdeps 2 (by decide))
        simp only at q2
        simp only [↓gaW, ↓gaV, ↓gaC, ↓gaN, gaP, simprocAttr, q2]
        exact hK _ _ ⟨h1.step (by simp), keepStep hk (by decide), by simpa using o1, by simpa using o2, by simpa using o3, by simpa using hmm⟩
      · refine ⟨_, rfl, fun K hK _ => ?_⟩
        have q2 := h1.at 3 rfl (hdeps 3 (by decide))
        simp only at q2
        simp only [↓gaW, ↓gaV, ↓gaC, ↓gaN, gaP, simprocAttr, q2, hbm, vpL_len hv.a, vpL_6]
        repeat refine And.intro (by omega) ?_
        exact hK _ _ ⟨h1.step (by simp), keepStep hk (by decide), by simpa using o1, by simpa using o2, by simpa using o3, by simpa using hmm⟩
      · refine ⟨_, rfl, fun K hK _ => ?_⟩
        have q2 := h1.at 4 rfl (hdeps 4 (by decide))
        simp only at q2
        have s9 : S 9 = false := by cases h : S 9 with | false => rfl | true => rw [o1 h] at hSi; cases hSi
        have s11 : S 11 = false := by cases h : S 11 with | false => rfl | true => rw [o2 h] at s9; cases s9
        have s13 : S 13 = false := by cases h : S 13 with | false => rfl | true => rw [o3 h] at s11; cases s11
        rw [hSi, s9, s11, s13] at hmm
        simp only [Bool.false_eq_true, if_false] at hmm
        subst hmm
        simp only [↓gaW, ↓gaV, ↓gaC, ↓gaN, gaP, simprocAttr, q2]
        refine callK_det hcall1 ?_
        simp only [↓gaW, ↓gaV, ↓gaC, ↓gaN, gaP, simprocAttr]
        exact hK _ _ ⟨h1.step (by simp), keepStep hk (by decide), by simp, by simpa using o2, by simpa using o3, by simp [s9, s11, s13]⟩
      · refine ⟨_, rfl, fun K hK _ => ?_⟩
        simp only [↓gaW, ↓gaV, ↓gaC, ↓gaN, gaP, simprocAttr, k6]
        exact hK _ _ ⟨h1.step (by simp), keepStep hk (by decide), by simpa using o1, by simpa using o2, by simpa using o3, by simpa using hmm⟩
      · refine ⟨_, rfl, fun K hK _ => ?_⟩
        have q2 := h1.at 6 rfl (hdeps 6 (by decide))
        simp only at q2
        simp only [↓gaW, ↓gaV, ↓gaC, ↓gaN, gaP, simprocAttr, q2, hbm, vpL_len hv.a, vpL_m hv.a]
        repeat refine And.intro (by omega) ?_
        exact hK _ _ ⟨h1.step (by simp), keepStep hk (by decide), by simpa using o1, by simpa using o2, by simpa using o3, by simpa using hmm⟩
      · refine ⟨_, rfl, fun K hK _ => ?_⟩
        have q2 := h1.at 7 rfl (hdeps 7 (by decide))
        simp only at q2
        simp only [↓gaW, ↓gaV, ↓gaC, ↓gaN, gaP, simprocAttr, q2, hmxN]
        exact hK _ _ ⟨h1.step (by simp), keepStep hk (by decide), by simpa using o1, by simpa using o2, by simpa using o3, by simpa using hmm⟩
      · refine ⟨_, rfl, fun K hK _ => ?_⟩
        have q2 := h1.at 8 rfl (hdeps 8 (by decide))
        simp only at q2
        have s5 := hdeps 5 (by decide)
        have s11 : S 11 = false := by cases h : S 11 with | false => rfl | true => rw [o2 h] at hSi; cases hSi
        have s13 : S 13 = false := by cases h : S 13 with | false => rfl | true => rw [o3 h] at s11; cases s11
        rw [hSi, s5, s11, s13] at hmm
        simp only [Bool.false_eq_true, if_false, if_true] at hmm
        subst hmm
        simp only [↓gaW, ↓gaV, ↓gaC, ↓gaN, gaP, simprocAttr, q2]
        refine callK_det hcall2 ?_
        simp only [↓gaW, ↓gaV, ↓gaC, ↓gaN, gaP, simprocAttr]
        exact hK _ _ ⟨h1.step (by simp), keepStep hk (by decide), by simp [s5], by simp, by simpa using o3, by simp [s11, s13]⟩
      · refine ⟨_, rfl, fun K hK _ => ?_⟩
        have q2 := h1.at 0 rfl (hdeps 0 (by decide))
        simp only at q2
        simp only [↓gaW, ↓gaV, ↓gaC, ↓gaN, gaP, simprocAttr, q2]
        repeat refine And.intro (by omega) ?_
        exact hK _ _ ⟨h1.step (by simp), keepStep hk (by decide), by simpa using o1, by simpa using o2, by simpa using o3, by simpa using hmm⟩
      · refine ⟨_, rfl, fun K hK _ => ?_⟩
        have q2 := h1.at 10 rfl (hdeps 10 (by decide))
        have q3 := h1.at 5 rfl (hdeps 5 (by decide))
        simp only at q2 q3
        have s9 := hdeps 9 (by decide)
        have s13 : S 13 = false := by cases h : S 13 with | false => rfl | true => rw [o3 h] at hSi; cases hSi
        rw [hSi, s9, s13] at hmm
        simp only [Bool.false_eq_true, if_false, if_true] at hmm
        subst hmm
        simp only [↓gaW, ↓gaV, ↓gaC, ↓gaN, gaP, simprocAttr, q2, q3, hq2, hz]
        repeat refine And.intro (by omega) ?_
        refine And.intro (node_cells _ _ _ _ _ _ _) ?_
        rw [← hg3]
        exact hK _ _ ⟨h1.nostep (by simp), hk, by simp [s9, hdeps 5 (by decide)], by simp [s9], by simp, by simp [s13]⟩
      · refine ⟨_, rfl, fun K hK _ => ?_⟩
        have q2 := h1.at 1 rfl (hdeps 1 (by decide))
        simp only at q2
        simp only [↓gaW, ↓gaV, ↓gaC, ↓gaN, gaP, simprocAttr, q2]
        repeat refine And.intro (by omega) ?_
        exact hK _ _ ⟨h1.step (by simp), keepStep hk (by decide), by simpa using o1, by simpa using o2, by simpa using o3, by simpa using hmm⟩
      · refine ⟨_, rfl, fun K hK _ => ?_⟩
        have q2 := h1.at 11 rfl (hdeps 12 (by decide))
        have q3 := h1.at 9 rfl (hdeps 9 (by decide))
        simp only at q2 q3
        have s11 := hdeps 11 (by decide)
        rw [hSi, s11] at hmm
        simp only [Bool.false_eq_true, if_false, if_true] at hmm
        subst hmm
        simp only [↓gaW, ↓gaV, ↓gaC, ↓gaN, gaP, simprocAttr, q2, q3, hq3, hl1]
        repeat refine And.intro (by omega) ?_
        refine And.intro (node_cells _ _ _ _ _ _ _) ?_
        rw [← hg4]
        exact hK _ _ ⟨h1.nostep (by simp), hk, by simpa using o1, by simpa using o2, by simp [s11], by simp⟩
      · omega
    · rintro S F mm ⟨h1, hk, o1, o2, o3, hmm⟩ hall
      have s13 := hall 13 (by decide)
      rw [s13] at hmm
      simp only [if_true] at hmm
      refine ⟨rfl, hmm, fun i => ?_⟩
      unfold kept
      split
      · exact .inl (hk i (by assumption)).symm
      · exact .inr rfl
    · exact ⟨fun p hp hs => by simp at hs, fun _ _ => rfl, by simp, by simp, by simp, by simp⟩
namespace Vr
def oct (len : Int) : Nat := ((len + 7) / 8).toNat
def bitE (v : Vp) : Fo.El := ⟨3, UInt8.ofNat (8 * (oct v.len : Int) - v.len).toNat :: v.a.take (oct v.len), .nil⟩
theorem low_small : ∀ k : Nat, k < 8 → ∀ x : Nat, x < 256 → (∀ j : Nat, j < 8 → k ≤ j → x / 2 ^ (7 - j) % 2 ≠ 1) → x % 2 ^ (8 - k) = 0 := by decide +kernel
theorem bits_ok {v : Vp} (ha : v.a.length = 16) (h : ok v.v6 v.a v.len = true) : bitsR (v.a.take (oct v.len)) v.len = .ok (bitE v) := by
  obtain ⟨h1, h2, h3⟩ := (ok_iff ha).1 h
  have hm := most_le v.v6
  have hk : ((oct v.len : Nat) : Int) = (v.len + 7) / 8 := by unfold oct; omega
  have hk16 : oct v.len ≤ 16 := by omega
  have hl : (v.a.take (oct v.len)).length = oct v.len := by rw [List.length_take, ha]; omega
  have hok : bitsOk (v.a.take (oct v.len)) v.len = true := by
    unfold bitsOk
    rw [hl]
    rw [decide_eq_true (show 0 ≤ v.len from h1), decide_eq_true (show v.len ≤ 8 * (oct v.len : Int) by omega), decide_eq_true (show 8 * (oct v.len : Int) - v.len ≤ 7 by omega)]
    simp only [Bool.true_and]
    refine decide_eq_true ?_
    by_cases h0 : oct v.len = 0
    · rw [h0]
      simp
    · have hg : (v.a.take (oct v.len)).getD (oct v.len - 1) 0 = v.a.getD (oct v.len - 1) 0 := by
        rw [List.getD_eq_getElem?_getD, List.getD_eq_getElem?_getD, List.getElem?_take_of_lt (by omega)]
      rw [hg]
      have hx := (v.a.getD (oct v.len - 1) 0).toNat_lt
      rcases Nat.lt_or_ge (v.len - 8 * ((oct v.len - 1 : Nat) : Int)).toNat 8 with h8 | h8
      · rw [show (8 * (oct v.len : Int) - v.len).toNat = 8 - (v.len - 8 * ((oct v.len - 1 : Nat) : Int)).toNat by omega]
        refine low_small _ h8 _ (by omega) fun j hj hkj => ?_
        have := h3 (8 * (oct v.len - 1) + j) (by omega) (by omega)
        unfold bit at this
        rw [show (8 * (oct v.len - 1) + j) / 8 = oct v.len - 1 by omega, show (8 * (oct v.len - 1) + j) % 8 = j by omega] at this
        exact this
      · rw [show (8 * (oct v.len : Int) - v.len).toNat = 0 by omega]
        simp [Nat.mod_one]
  unfold bitsR
  rw [if_pos hok, hl]
  rfl
end Vr
theorem Row.vpa {x q k : Nat} {g : Nat → Option Blk} {v : Vp} {ro : Bool} (ha : v.a.length = 16) (hk : k ≤ 16) (hq : q < x) (hg : g q = some (.cells (vpL v) ro)) : Row x g 1 (some ⟨q, 2, none⟩) k ((v.a.take k).map u8V) :=
  ⟨fun _ h => by injection h with h; subst h; exact .inl rfl, by simp [ha]; omega, fun _ => ⟨_, _, ro, rfl, hq, hg, by simp only [vpL_len ha]; omega, fun i hi => by
    rw [getD_u8 (by simp [ha]; omega)]
    have : (v.a.take k).getD i 0 = v.a.getD i 0 := by rw [List.getD_eq_getElem?_getD, List.getD_eq_getElem?_getD, List.getElem?_take_of_lt hi]
    rw [this]
    exact vpL_at ha (by omega)⟩⟩
theorem make_tree2 {x b y q : Nat} {g : Nat → Option Blk} {f : Regs} {v : Vp} {z : List Value} {Q : AEx → Regs → Mem → Prop} (hv : v.wf) (hok : Vr.ok v.v6 v.a v.len = true) (hb : b ≤ q) (h6 : f 6 = .pointer (some ⟨y, 0, none⟩)) (h7 : f 7 = .slice (some ⟨q, 0, none⟩) 3 3) (hy : y < q) (hq : q < x)
    (hgy : g y = some (.cells (vpL v) false)) (hgq : g q = some (.cells z false)) (hz : z.length = 9)
    (hQ : ∀ x' g' t1 B1 m1 d1 A1 n1 c1 k1, x ≤ x' → (∀ p, p < x → p ≠ q → g' p = g p) → t1 = (Vr.bitE v).t → g' q = some (.cells (z.take 3 ++ (nodeL t1 B1 m1 d1 A1 n1 c1 ++ z.drop 6)) false) →
      NdL x x' g' (Vr.bitE v) B1 m1 d1 A1 n1 c1 k1 → Q .normal (kept [0, 4, 6, 7, 12, 13, 14] f) ⟨x', b, g'⟩) :
    RC.vc Tryd.prog makeT2 f ⟨x, b, g⟩ Q := by
  obtain ⟨p1, p2, p3⟩ := (Vr.ok_iff hv.a).1 hok
  have hm := Vr.most_le v.v6
  have hk : ((Vr.oct v.len : Nat) : Int) = (v.len + 7) / 8 := by unfold Vr.oct; omega
  obtain ⟨k, ek⟩ : ∃ k, k = Vr.oct v.len := ⟨_, rfl⟩
  have hk16 : k ≤ 16 := by omega
  have w1 : IntKind.i64.wrap (v.len + 7) = v.len + 7 := i64_w _ (by omega)
  have w2 : (v.len + 7).tdiv 8 = (k : Int) := by rw [ek, hk, Int.tdiv_eq_ediv_of_nonneg (by omega)]
  have w3 : IntKind.i64.wrap (k : Int) = (k : Int) := i64_w _ (by omega)
  obtain ⟨res, M1, hC, hcall1⟩ := Fn.det (ct_Bits (many := v.len) (c := 16) (nx := x) (gt := g) (Row.vpa hv.a hk16 (by omega) hgy) (by omega) (by omega) (by omega) b (by omega)) (by show b ≤ x; omega)
  rw [ek, Vr.bits_ok hv.a hok] at hC
  obtain ⟨w1', rfl, e1, e2, e3, u, rfl, B1, m1, d1, A1, n1, c1, k1, rfl, N1⟩ := hC
  obtain ⟨x1, b1, g1⟩ := M1
  simp only at e1 e2 e3 N1
  subst e1
  have hq1 : g1 q = some (.cells z false) := by rw [e3 q (by omega), hgq]
  have hy1 : g1 y = some (.cells (vpL v) false) := by rw [e3 y (by omega), hgy]
  obtain ⟨g2, hg2⟩ : ∃ g, g = upd g1 q (some (.cells (splice z 3 (nodeL (Vr.bitE v).t B1 m1 d1 A1 n1 c1)) false)) := ⟨_, rfl⟩
  have F2 : ∀ p, p ≠ q → g2 p = g1 p := fun p hp => by rw [hg2]; simp only [upd_e]; rw [if_neg hp]
  unfold makeT2
  refine vc_tree_same ⟨kept [0, 4, 6, 7, 12, 13, 14] f, ⟨x1, b1, g2⟩, ?_, ⟨rfl, by show x ≤ x1; omega, fun p hp => ?_⟩, ?_⟩
  · refine hQ x1 g2 _ B1 m1 d1 A1 n1 c1 k1 (by omega) (fun p hp hpq => by rw [F2 p hpq, e3 p hp]) rfl ?_ ?_
    · rw [hg2]; simp only [upd_e, if_true]
      congr 2
      match z, hz with
      | [z0, z1, z2, z3, z4, z5, z6, z7, z8], _ => rfl
    · exact N1.keep (x' := x1) (g := g2) (Nat.le_refl _) fun p h1 h2 => by rw [F2 p (by omega)]
  · show g2 p = g p
    have hp' : p < b1 := hp
    rw [F2 p (by omega), e3 p (by omega)]
  · refine tree_inv2 (fun S F mm => Held [(0, 32, .slice (some ⟨q, 0, none⟩) 3 3), (1, 33, .pointer (some ⟨y, 1, none⟩)), (2, 34, .pointer (some ⟨y, 2, none⟩)), (3, 35, .pointer (some ⟨y, 1, none⟩)), (4, 36, .pointer (some ⟨y, 18, none⟩)), (5, 37, .int .i64 v.len), (6, 38, .int .i64 (v.len + 7)), (7, 39, .int .i64 (k : Nat)), (8, 40, .slice (some ⟨y, 2, none⟩) k 16), (9, 41, .pointer (some ⟨y, 1, none⟩)), (10, 42, .pointer (some ⟨y, 18, none⟩)), (11, 43, .int .i64 v.len), (12, 44, .tuple #[nodeV (Vr.bitE v).t B1 m1 d1 A1 n1 c1, .int .i64 0]), (13, 31, .tuple #[nodeV (Vr.bitE v).t B1 m1 d1 A1 n1 c1, .int .i64 0]), (14, 45, nodeV (Vr.bitE v).t B1 m1 d1 A1 n1 c1), (15, 46, .int .i64 0), (16, 47, .pointer (some ⟨q, 3, none⟩))] S F ∧
        (∀ i ∈ [0, 4, 6, 7, 12, 13, 14], F i = f i) ∧ (S 17 = true → S 12 = true) ∧ mm = if S 17 then ⟨x1, b1, g2⟩ else if S 12 then ⟨x1, b1, g1⟩ else ⟨x, b1, g⟩) rfl ?_ ?_ _ _ _ _ (by rw [lefts_zero]) ?_
    · rintro S i F mm ⟨h1, hk, o1, hmm⟩ hi hSi hdeps
      have hbm : mm.get y = some (.cells (vpL v) false) := by
        rw [hmm]
        split
        · show g2 y = _
          rw [F2 y (by omega)]; exact hy1
        split
        · exact hy1
        · exact hgy
      have k6 : F 6 = .pointer (some ⟨y, 0, none⟩) := (hk 6 (by decide)).trans h6
      have k7 : F 7 = .slice (some ⟨q, 0, none⟩) 3 3 := (hk 7 (by decide)).trans h7
      have hi' : i < 18 := hi
      rcases i with _ | _ | _ | _ | _ | _ | _ | _ | _ | _ | _ | _ | _ | _ | _ | _ | _ | _ | i
      · refine ⟨_, rfl, fun K hK _ => ?_⟩
        simp only [↓gaW, ↓gaV, ↓gaC, ↓gaN, gaP, simprocAttr, k7]
        exact hK _ _ ⟨h1.step (by simp), keepStep hk (by decide), by simpa using o1, by simpa using hmm⟩
      · refine ⟨_, rfl, fun K hK _ => ?_⟩
        simp only [↓gaW, ↓gaV, ↓gaC, ↓gaN, gaP, simprocAttr, k6]
        exact hK _ _ ⟨h1.step (by simp), keepStep hk (by decide), by simpa using o1, by simpa using hmm⟩
      · refine ⟨_, rfl, fun K hK _ => ?_⟩
        have q2 := h1.at 1 rfl (hdeps 1 (by decide))
        simp only at q2
        simp only [↓gaW, ↓gaV, ↓gaC, ↓gaN, gaP, simprocAttr, q2]
        exact hK _ _ ⟨h1.step (by simp), keepStep hk (by decide), by simpa using o1, by simpa using hmm⟩
      · refine ⟨_, rfl, fun K hK _ => ?_⟩
        simp only [↓gaW, ↓gaV, ↓gaC, ↓gaN, gaP, simprocAttr, k6]
        exact hK _ _ ⟨h1.step (by simp), keepStep hk (by decide), by simpa using o1, by simpa using hmm⟩
      · refine ⟨_, rfl, fun K hK _ => ?_⟩
        have q2 := h1.at 3 rfl (hdeps 3 (by decide))
        simp only at q2
        simp only [↓gaW, ↓gaV, ↓gaC, ↓gaN, gaP, simprocAttr, q2]
        exact hK _ _ ⟨h1.step (by simp), keepStep hk (by decide), by simpa using o1, by simpa using hmm⟩
      · refine ⟨_, rfl, fun K hK _ => ?_⟩
        have q2 := h1.at 4 rfl (hdeps 4 (by decide))
        simp only at q2
        simp only [↓gaW, ↓gaV, ↓gaC, ↓gaN, gaP, simprocAttr, q2, hbm, vpL_len hv.a, vpL_n hv.a]
        repeat refine And.intro (by omega) ?_
        exact hK _ _ ⟨h1.step (by simp), keepStep hk (by decide), by simpa using o1, by simpa using hmm⟩
      · refine ⟨_, rfl, fun K hK _ => ?_⟩
        have q2 := h1.at 5 rfl (hdeps 5 (by decide))
        simp only at q2
        simp only [↓gaW, ↓gaV, ↓gaC, ↓gaN, gaP, simprocAttr, q2, w1]
        exact hK _ _ ⟨h1.step (by simp), keepStep hk (by decide), by simpa using o1, by simpa using hmm⟩
      · refine ⟨_, rfl, fun K hK _ => ?_⟩
        have q2 := h1.at 6 rfl (hdeps 6 (by decide))
        simp only at q2
        simp only [↓gaW, ↓gaV, ↓gaC, ↓gaN, gaP, simprocAttr, q2, w2, w3]
        repeat refine And.intro (by omega) ?_
        exact hK _ _ ⟨h1.step (by simp), keepStep hk (by decide), by simpa using o1, by simpa using hmm⟩
      · refine ⟨_, rfl, fun K hK _ => ?_⟩
        have q2 := h1.at 7 rfl (hdeps 7 (by decide))
        have q3 := h1.at 2 rfl (hdeps 2 (by decide))
        simp only at q2 q3
        simp only [↓gaW, ↓gaV, ↓gaC, ↓gaN, gaP, simprocAttr, q2, q3, Int.sub_zero]
        repeat refine And.intro (by omega) ?_
        exact hK _ _ ⟨h1.step (by simp), keepStep hk (by decide), by simpa using o1, by simpa using hmm⟩
      · refine ⟨_, rfl, fun K hK _ => ?_⟩
        simp only [↓gaW, ↓gaV, ↓gaC, ↓gaN, gaP, simprocAttr, k6]
        exact hK _ _ ⟨h1.step (by simp), keepStep hk (by decide), by simpa using o1, by simpa using hmm⟩
      · refine ⟨_, rfl, fun K hK _ => ?_⟩
        have q2 := h1.at 9 rfl (hdeps 9 (by decide))
        simp only at q2
        simp only [↓gaW, ↓gaV, ↓gaC, ↓gaN, gaP, simprocAttr, q2]
        exact hK _ _ ⟨h1.step (by simp), keepStep hk (by decide), by simpa using o1, by simpa using hmm⟩
      · refine ⟨_, rfl, fun K hK _ => ?_⟩
        have q2 := h1.at 10 rfl (hdeps 10 (by decide))
        simp only at q2
        simp only [↓gaW, ↓gaV, ↓gaC, ↓gaN, gaP, simprocAttr, q2, hbm, vpL_len hv.a, vpL_n hv.a]
        repeat refine And.intro (by omega) ?_
        exact hK _ _ ⟨h1.step (by simp), keepStep hk (by decide), by simpa using o1, by simpa using hmm⟩
      · refine ⟨_, rfl, fun K hK _ => ?_⟩
        have q2 := h1.at 8 rfl (hdeps 8 (by decide))
        have q3 := h1.at 11 rfl (hdeps 11 (by decide))
        simp only at q2 q3
        have s17 : S 17 = false := by cases h : S 17 with | false => rfl | true => rw [o1 h] at hSi; cases hSi
        rw [hSi, s17] at hmm
        simp only [Bool.false_eq_true, if_false] at hmm
        subst hmm
        simp only [↓gaW, ↓gaV, ↓gaC, ↓gaN, gaP, simprocAttr, q2, q3]
        refine callK_det hcall1 ?_
        simp only [↓gaW, ↓gaV, ↓gaC, ↓gaN, gaP, simprocAttr]
        exact hK _ _ ⟨h1.step (by simp), keepStep hk (by decide), by simp, by simp [s17]⟩
      · refine ⟨_, rfl, fun K hK _ => ?_⟩
        have q2 := h1.at 12 rfl (hdeps 12 (by decide))
        simp only at q2
        simp only [↓gaW, ↓gaV, ↓gaC, ↓gaN, gaP, simprocAttr, q2]
        exact hK _ _ ⟨h1.step (by simp), keepStep hk (by decide), by simpa using o1, by simpa using hmm⟩
      · refine ⟨_, rfl, fun K hK _ => ?_⟩
        have q2 := h1.at 13 rfl (hdeps 13 (by decide))
        simp only at q2
        simp only [↓gaW, ↓gaV, ↓gaC, ↓gaN, gaP, simprocAttr, q2]
        repeat refine And.intro (by omega) ?_
        exact hK _ _ ⟨h1.step (by simp), keepStep hk (by decide), by simpa using o1, by simpa using hmm⟩
      · refine ⟨_, rfl, fun K hK _ => ?_⟩
        have q2 := h1.at 13 rfl (hdeps 13 (by decide))
        simp only at q2
        simp only [↓gaW, ↓gaV, ↓gaC, ↓gaN, gaP, simprocAttr, q2]
        repeat refine And.intro (by omega) ?_
        exact hK _ _ ⟨h1.step (by simp), keepStep hk (by decide), by simpa using o1, by simpa using hmm⟩
      · refine ⟨_, rfl, fun K hK _ => ?_⟩
        have q2 := h1.at 0 rfl (hdeps 0 (by decide))
        simp only at q2
        simp only [↓gaW, ↓gaV, ↓gaC, ↓gaN, gaP, simprocAttr, q2]
        repeat refine And.intro (by omega) ?_
        exact hK _ _ ⟨h1.step (by simp), keepStep hk (by decide), by simpa using o1, by simpa using hmm⟩
      · refine ⟨_, rfl, fun K hK _ => ?_⟩
        have q2 := h1.at 16 rfl (hdeps 16 (by decide))
        have q3 := h1.at 14 rfl (hdeps 14 (by decide))
        simp only at q2 q3
        have s12 := hdeps 12 (by decide)
        rw [hSi, s12] at hmm
        simp only [Bool.false_eq_true, if_false, if_true] at hmm
        subst hmm
        simp only [↓gaW, ↓gaV, ↓gaC, ↓gaN, gaP, simprocAttr, q2, q3, hq1, hz]
        repeat refine And.intro (by omega) ?_
        refine And.intro (node_cells _ _ _ _ _ _ _) ?_
        rw [← hg2]
        exact hK _ _ ⟨h1.nostep (by simp), hk, by simp [s12], by simp⟩
      · omega
    · rintro S F mm ⟨h1, hk, o1, hmm⟩ hall
      have s17 := hall 17 (by decide)
      rw [s17] at hmm
      simp only [if_true] at hmm
      refine ⟨rfl, hmm, fun i => ?_⟩
      unfold kept
      split
      · exact .inl (hk i (by assumption)).symm
      · exact .inr rfl
    · exact ⟨fun p hp hs => by simp at hs, fun _ _ => rfl, by simp, by simp⟩
end Go.Ga

namespace Go.Ga
open Go Go.Proofs
set_option maxRecDepth 100000
attribute [local irreducible] appendK
namespace Vr
noncomputable def entE (v : Vp) : Fo.El := ⟨48, [], (boolE v.v6).f.app ((bitE v).f.app (intN v.mx.toNat).f)⟩
noncomputable def listF : List Vp → Fo
  | [] => .nil
  | v :: l => (entE v).f.app (listF l)
noncomputable def inE (l : List Vp) : Fo.El := ⟨48, [], listF l⟩
noncomputable def roaE (l : List Vp) : Fo.El := ⟨48, [], (intN (at' l 0).asn.toNat).f.app (inE l).f⟩
noncomputable def makeR (l : List Vp) : Except Nat (List UInt8) := if right l then Fo.wr (roaE l) else .error 1
theorem listF_app (l k : List Vp) : listF (l ++ k) = (listF l).app (listF k) := by
  induction l with
  | nil => rfl
  | cons v l ih => rw [List.cons_append, listF, listF, ih, Fo.app_assoc]
theorem listF_len (l : List Vp) : (listF l).len = l.length := by
  induction l with
  | nil => rfl
  | cons v l ih => rw [listF, Fo.len_app, ih]; simp [Fo.El.f, Fo.len]; omega
theorem listF_take {l : List Vp} {i : Nat} (h : i < l.length) : listF (l.take (i + 1)) = (listF (l.take i)).app (entE (at' l i)).f := by
  have : l.take (i + 1) = l.take i ++ [at' l i] := by
    rw [List.take_add_one, List.getElem?_eq_getElem h]
    unfold at'
    rw [List.getD_eq_getElem?_getD, List.getElem?_eq_getElem h]
    rfl
  rw [this, listF_app]
  simp only [listF, Fo.app_nil]
theorem bool_ws (b : Bool) : (boolE b).f.ws = 2 := rfl
theorem bit_ws {v : Vp} (ha : v.a.length = 16) : (bitE v).f.ws ≤ 18 := by
  simp only [bitE, Fo.El.f, Fo.ws, List.length_cons, List.length_take]; omega
theorem ent_ws {v : Vp} (ha : v.a.length = 16) (hm : v.mx.toNat < 18446744073709551616) : (entE v).f.ws ≤ 40 := by
  have h1 := bool_ws v.v6; have h2 := bit_ws ha; have h3 := intE_ws (intN_is hm)
  have : (entE v).f.ws = 1 + ((boolE v.v6).f.app ((bitE v).f.app (intN v.mx.toNat).f)).ws := by simp only [entE, Fo.El.f, Fo.ws, List.length_nil]; omega
  rw [this, Fo.ws_app, Fo.ws_app]; omega
theorem list_ws {l : List Vp} (h : ∀ v ∈ l, v.a.length = 16 ∧ v.mx.toNat < 18446744073709551616) : (listF l).ws ≤ 40 * l.length := by
  induction l with
  | nil => simp [listF, Fo.ws]
  | cons v l ih =>
    have h1 := ent_ws (h v (by simp)).1 (h v (by simp)).2
    have h2 := ih fun x hx => h x (by simp [hx])
    rw [listF, Fo.ws_app, List.length_cons]; omega
theorem roa_ws {l : List Vp} (h : ∀ v ∈ l, v.a.length = 16 ∧ v.mx.toNat < 18446744073709551616) : (roaE l).f.ws ≤ 12 + 40 * l.length := by
  have h1 := list_ws h
  have h2 := intE_ws (intN_is (n := (at' l 0).asn.toNat) (by have := (at' l 0).asn.toNat_lt; omega))
  have e1 : (inE l).f.ws = 1 + (listF l).ws := by simp only [inE, Fo.El.f, Fo.ws, List.length_nil]; omega
  have : (roaE l).f.ws = 1 + ((intN (at' l 0).asn.toNat).f.app (inE l).f).ws := by simp only [roaE, Fo.El.f, Fo.ws, List.length_nil]; omega
  rw [this, Fo.ws_app, e1]; omega
theorem right_at {l : List Vp} (h : right l = true) {i : Nat} (hi : i < l.length) : one (at' l i) = true := by
  simp only [right, Bool.and_eq_true, List.all_eq_true] at h
  have := h.1 i (List.mem_range.2 hi)
  simp only [stepR, Bool.and_eq_true] at this
  exact this.1
theorem right_as {l : List Vp} (h : right l = true) {i : Nat} (hi : i < l.length) : (at' l i).asn = (at' l 0).asn := by
  simp only [right, Bool.and_eq_true, List.all_eq_true] at h
  have := h.1 i (List.mem_range.2 hi)
  simp only [stepR, Bool.and_eq_true, decide_eq_true_eq] at this
  exact this.2.1
theorem right_len {l : List Vp} (h : right l = true) : 1 ≤ l.length ∧ l.length ≤ 400 := by
  simp only [right, Bool.and_eq_true, decide_eq_true_eq] at h
  exact h.2
theorem one_ok {v : Vp} (h : one v = true) : ok v.v6 v.a v.len = true ∧ v.len ≤ v.mx ∧ v.mx ≤ most v.v6 := by
  simpa only [one, Bool.and_eq_true, decide_eq_true_eq] using h
end Vr
section
variable {nx : Nat} {gt : Nat → Option Blk}
theorem ct_Make {A : Option Addr} {n c : Nat} {l : List Vp} (hr : VpR nx gt A n l) (hc : n ≤ c) (hn : n < 1000000) : Ct Tryd.prog 9 [.slice A n c] nx gt fun r x g => BytesV x g r (Vr.makeR l) := by
  refine Ct.ofT hmx r_roa_Make (by simp [c_roa_Make]) fun b hb => ?_
  have hl := hr.len
  simp only [c_roa_Make, ↓gaW, ↓gaV, ↓gaC, ↓gaN, gaP, Nat.reduceEqDiff, Nat.reduceLeDiff, Nat.reduceAdd, Nat.reduceSub, Nat.reduceMul, Int.reduceLT, Int.reduceLE, Int.reduceEq, Int.reduceToNat, Int.reduceAdd, Int.reduceSub, Int.reduceMul, reduceCtorEq, ↓reduceIte]
  refine callK_of (ct_VRight hr hc hn) (fun v x1 g1 l1 k1 hC => ?_) (by omega)
  subst hC
  cases hR : Vr.right l with
  | false =>
    simp only [↓gaW, ↓gaV, ↓gaC, ↓gaN, gaP, Nat.reduceEqDiff, Nat.reduceLeDiff, Nat.reduceAdd, Nat.reduceSub, Nat.reduceMul, Int.reduceLT, Int.reduceLE, Int.reduceEq, Int.reduceToNat, Int.reduceAdd, Int.reduceSub, Int.reduceMul, reduceCtorEq, ↓reduceIte, gaE, Bool.not_false]
    refine ⟨l1, k1, ?_⟩
    unfold Vr.makeR
    rw [if_neg (by rw [hR]; simp)]
    rfl
  | true =>
  have hlen := Vr.right_len hR
  simp only [↓gaW, ↓gaV, ↓gaC, ↓gaN, gaP, Nat.reduceEqDiff, Nat.reduceLeDiff, Nat.reduceAdd, Nat.reduceSub, Nat.reduceMul, Int.reduceLT, Int.reduceLE, Int.reduceEq, Int.reduceToNat, Int.reduceAdd, Int.reduceSub, Int.reduceMul, reduceCtorEq, ↓reduceIte, List.getD_cons_zero, List.getD_cons_succ, fillL, splice, List.take_zero, List.drop_zero, List.drop_succ_cons, List.take_succ_cons, List.drop_nil, List.take_nil, Bool.not_true]
  repeat refine And.intro (by omega) ?_
  refine And.intro (node_cells _ _ _ _ _ _ _) ?_
  obtain ⟨g2, hg2⟩ : ∃ g, g = upd (upd g1 x1 (some (.cells [Value.int .i64 0, .slice none 0 0, .slice none 0 0] false))) x1 (some (.cells [Value.int .i64 48, .slice none 0 0, .slice none 0 0] false)) := ⟨_, rfl⟩
  have hp2 : g2 x1 = some (.cells (nodeL 48 none 0 0 none 0 0) false) := by rw [hg2]; simp only [upd_e, if_true]
  have F2 : ∀ p, p < nx → g2 p = gt p := fun p hp => by rw [hg2]; simp only [upd_e]; rw [if_neg (by omega), if_neg (by omega), k1 p hp]
  rw [← hg2]; clear hg2
  refine loop_of (fun j f mm => ∃ (i x hi9 : Nat) (g : Nat → Option Blk) (Ak : Option Addr) (cs : List Value), j = n - i ∧ i ≤ n ∧ f 0 = .slice A n c ∧ f 4 = .pointer (some ⟨x1, 0, none⟩) ∧ f 12 = .slice A n c ∧ f 13 = .int .i64 (n : Nat) ∧ f 14 = .int .i64 (i : Nat) ∧ mm = ⟨x, b, g⟩ ∧ x1 + 1 ≤ x ∧ (∀ p, p < nx → g p = gt p) ∧
      g x1 = some (.cells (nodeL 48 none 0 0 Ak i i) false) ∧ Own (x1 + 1) b x g 3 Ak i cs ∧ FoL (x1 + 1) hi9 g (Vr.listF (l.take i)) cs ∧ hi9 ≤ x ∧ (∀ a e, Ak = some a → a.spot = some e → hi9 ≤ a.block)) n ?_ ?_
  · exact ⟨0, x1 + 1, x1 + 1, g2, none, [], rfl, by omega, (by first | (simp only [↓gaW, ↓gaV, ↓gaC, ↓gaN, gaP, Nat.reduceEqDiff, Nat.reduceLeDiff, Nat.reduceAdd, Nat.reduceSub, Nat.reduceMul, Int.reduceLT, Int.reduceLE, Int.reduceEq, Int.reduceToNat, Int.reduceAdd, Int.reduceSub, Int.reduceMul, reduceCtorEq, ↓reduceIte]; done) | (simp only [↓gaW, ↓gaV, ↓gaC, ↓gaN, gaP, Nat.reduceEqDiff, Nat.reduceLeDiff, Nat.reduceAdd, Nat.reduceSub, Nat.reduceMul, Int.reduceLT, Int.reduceLE, Int.reduceEq, Int.reduceToNat, Int.reduceAdd, Int.reduceSub, Int.reduceMul, reduceCtorEq, ↓reduceIte]; rfl)), (by first | (simp only [↓gaW, ↓gaV, ↓gaC, ↓gaN, gaP, Nat.reduceEqDiff, Nat.reduceLeDiff, Nat.reduceAdd, Nat.reduceSub, Nat.reduceMul, Int.reduceLT, Int.reduceLE, Int.reduceEq, Int.reduceToNat, Int.reduceAdd, Int.reduceSub, Int.reduceMul, reduceCtorEq, ↓reduceIte]; done) | (simp only [↓gaW, ↓gaV, ↓gaC, ↓gaN, gaP, Nat.reduceEqDiff, Nat.reduceLeDiff, Nat.reduceAdd, Nat.reduceSub, Nat.reduceMul, Int.reduceLT, Int.reduceLE, Int.reduceEq, Int.reduceToNat, Int.reduceAdd, Int.reduceSub, Int.reduceMul, reduceCtorEq, ↓reduceIte]; rfl)), (by first | (simp only [↓gaW, ↓gaV, ↓gaC, ↓gaN, gaP, Nat.reduceEqDiff, Nat.reduceLeDiff, Nat.reduceAdd, Nat.reduceSub, Nat.reduceMul, Int.reduceLT, Int.reduceLE, Int.reduceEq, Int.reduceToNat, Int.reduceAdd, Int.reduceSub, Int.reduceMul, reduceCtorEq, ↓reduceIte]; done) | (simp only [↓gaW, ↓gaV, ↓gaC, ↓gaN, gaP, Nat.reduceEqDiff, Nat.reduceLeDiff, Nat.reduceAdd, Nat.reduceSub, Nat.reduceMul, Int.reduceLT, Int.reduceLE, Int.reduceEq, Int.reduceToNat, Int.reduceAdd, Int.reduceSub, Int.reduceMul, reduceCtorEq, ↓reduceIte]; rfl)), (by first | (simp only [↓gaW, ↓gaV, ↓gaC, ↓gaN, gaP, Nat.reduceEqDiff, Nat.reduceLeDiff, Nat.reduceAdd, Nat.reduceSub, Nat.reduceMul, Int.reduceLT, Int.reduceLE, Int.reduceEq, Int.reduceToNat, Int.reduceAdd, Int.reduceSub, Int.reduceMul, reduceCtorEq, ↓reduceIte]; done) | (simp only [↓gaW, ↓gaV, ↓gaC, ↓gaN, gaP, Nat.reduceEqDiff, Nat.reduceLeDiff, Nat.reduceAdd, Nat.reduceSub, Nat.reduceMul, Int.reduceLT, Int.reduceLE, Int.reduceEq, Int.reduceToNat, Int.reduceAdd, Int.reduceSub, Int.reduceMul, reduceCtorEq, ↓reduceIte]; rfl)), (by first | (simp only [↓gaW, ↓gaV, ↓gaC, ↓gaN, gaP, Nat.reduceEqDiff, Nat.reduceLeDiff, Nat.reduceAdd, Nat.reduceSub, Nat.reduceMul, Int.reduceLT, Int.reduceLE, Int.reduceEq, Int.reduceToNat, Int.reduceAdd, Int.reduceSub, Int.reduceMul, reduceCtorEq, ↓reduceIte]; done) | (simp only [↓gaW, ↓gaV, ↓gaC, ↓gaN, gaP, Nat.reduceEqDiff, Nat.reduceLeDiff, Nat.reduceAdd, Nat.reduceSub, Nat.reduceMul, Int.reduceLT, Int.reduceLE, Int.reduceEq, Int.reduceToNat, Int.reduceAdd, Int.reduceSub, Int.reduceMul, reduceCtorEq, ↓reduceIte]; rfl)), rfl, Nat.le_refl _, F2, hp2, .nil, rfl, Nat.le_refl _, fun _ _ h => nomatch h⟩
  rintro j f mm ⟨i, x, hi9, g, Ak, cs, rfl, hi, f0, f4, f12, f13, f14, rfl, hx, F, hp, hOwn, hFo, hhi, hAk⟩
  simp only [↓gaW, ↓gaV, ↓gaC, ↓gaN, gaP, Nat.reduceEqDiff, Nat.reduceLeDiff, Nat.reduceAdd, Nat.reduceSub, Nat.reduceMul, Int.reduceLT, Int.reduceLE, Int.reduceEq, Int.reduceToNat, Int.reduceAdd, Int.reduceSub, Int.reduceMul, reduceCtorEq, ↓reduceIte, f13, f14]
  refine condK_dec (fun hlt => ?_) fun hge => ?_
  · have hi' : i < n := by omega
    have hRr := hr.keep (x := x) (by omega) F
    obtain ⟨a, cl, ro, rfl, e2, e3, e4, e5, e6⟩ := hRr.at (by omega)
    have hwi := hRr.wfAt hi'
    obtain ⟨hok, hlm, hmm⟩ := Vr.one_ok (Vr.right_at hR (by omega : i < l.length))
    obtain ⟨p1, p2, p3⟩ := (Vr.ok_iff hwi.a).1 hok
    have hsp : ∀ z : List Value, z.length = 20 → splice z 0 (vpL (Vr.at' l i)) = vpL (Vr.at' l i) := fun z hz => by
      unfold splice
      rw [List.take_zero, List.nil_append, Nat.zero_add, List.drop_of_length_le (by rw [hz, vpL_len hwi.a]; omega), List.append_nil]
    simp only [↓gaW, ↓gaV, ↓gaC, ↓gaN, gaP, Nat.reduceEqDiff, Nat.reduceLeDiff, Nat.reduceAdd, Nat.reduceSub, Nat.reduceMul, Int.reduceLT, Int.reduceLE, Int.reduceEq, Int.reduceToNat, Int.reduceAdd, Int.reduceSub, Int.reduceMul, reduceCtorEq, ↓reduceIte, f12, f14, e3, e5 i hi', hsp, vpL_len hwi.a]
    repeat refine And.intro (by omega) ?_
    refine And.intro (vpL_cells _) ?_
    obtain ⟨z, hz⟩ : ∃ z, z = List.map (fun i => [Value.int IntKind.i64 0, Value.slice none 0 0, Value.slice none 0 0].getD (i % 3) undef) (List.range 9) := ⟨_, rfl⟩
    have hzl : z.length = 9 := by rw [hz]; rfl
    rw [← hz]
    obtain ⟨g3, hg3⟩ : ∃ g', g' = upd (upd (upd g x (some (Blk.cells [Value.int .u32 0, .bool false, .int .u8 0, .int .u8 0, .int .u8 0, .int .u8 0, .int .u8 0, .int .u8 0, .int .u8 0, .int .u8 0, .int .u8 0, .int .u8 0, .int .u8 0, .int .u8 0, .int .u8 0, .int .u8 0, .int .u8 0, .int .u8 0, .int .i64 0, .int .i64 0] false))) x (some (.cells (vpL (Vr.at' l i)) false))) (x + 1) (some (.cells z false)) := ⟨_, rfl⟩
    rw [← hg3]
    have hy3 : g3 x = some (.cells (vpL (Vr.at' l i)) false) := by rw [hg3]; simp only [upd_e]; rw [if_neg (by omega)]; simp only [if_true]
    have hq3 : g3 (x + 1) = some (.cells z false) := by rw [hg3]; simp only [upd_e, if_true]
    have F3 : ∀ p, p < x → g3 p = g p := fun p hp => by rw [hg3]; simp only [upd_e]; rw [if_neg (by omega), if_neg (by omega), if_neg (by omega)]
    clear hg3 hz
    refine make_tree1 (v := Vr.at' l i) (y := x) (q := x + 1) hwi (by omega) (by omega) (by first | (simp only [↓gaW, ↓gaV, ↓gaC, ↓gaN, gaP, Nat.reduceEqDiff, Nat.reduceLeDiff, Nat.reduceAdd, Nat.reduceSub, Nat.reduceMul, Int.reduceLT, Int.reduceLE, Int.reduceEq, Int.reduceToNat, Int.reduceAdd, Int.reduceSub, Int.reduceMul, reduceCtorEq, ↓reduceIte]; done) | (simp only [↓gaW, ↓gaV, ↓gaC, ↓gaN, gaP, Nat.reduceEqDiff, Nat.reduceLeDiff, Nat.reduceAdd, Nat.reduceSub, Nat.reduceMul, Int.reduceLT, Int.reduceLE, Int.reduceEq, Int.reduceToNat, Int.reduceAdd, Int.reduceSub, Int.reduceMul, reduceCtorEq, ↓reduceIte]; rfl)) (by first | (simp only [↓gaW, ↓gaV, ↓gaC, ↓gaN, gaP, Nat.reduceEqDiff, Nat.reduceLeDiff, Nat.reduceAdd, Nat.reduceSub, Nat.reduceMul, Int.reduceLT, Int.reduceLE, Int.reduceEq, Int.reduceToNat, Int.reduceAdd, Int.reduceSub, Int.reduceMul, reduceCtorEq, ↓reduceIte]; done) | (simp only [↓gaW, ↓gaV, ↓gaC, ↓gaN, gaP, Nat.reduceEqDiff, Nat.reduceLeDiff, Nat.reduceAdd, Nat.reduceSub, Nat.reduceMul, Int.reduceLT, Int.reduceLE, Int.reduceEq, Int.reduceToNat, Int.reduceAdd, Int.reduceSub, Int.reduceMul, reduceCtorEq, ↓reduceIte]; rfl)) (by omega) (by omega) hy3 hq3 hzl ?_
    intro x4 g4 t1 B1 m1 d1 A1 n1 c1' k1' t3 B3 m3 d3 A3 n3 c3 k3 l4 F4 et1 et3 hq4 N1 N3
    subst et1 et3
    have e4' : ∀ {L : List Nat} {F : Regs} {i : Nat}, i ∈ L → kept L F i = F i := fun h => if_pos h
    simp only [↓gaN, vc_seq]
    have hy4 : g4 x = some (.cells (vpL (Vr.at' l i)) false) := by rw [F4 x (by omega) (by omega), hy3]
    obtain ⟨z2, hz2⟩ : ∃ z2, z2 = nodeL (boolE (Vr.at' l i).v6).t B1 m1 d1 A1 n1 c1' ++ ((z.drop 3).take 3 ++ nodeL (intN (Vr.at' l i).mx.toNat).t B3 m3 d3 A3 n3 c3) := ⟨_, rfl⟩
    rw [← hz2] at hq4
    have hz2l : z2.length = 9 := by rw [hz2]; simp [hzl]
    refine make_tree2 (v := Vr.at' l i) (y := x) (q := x + 1) hwi hok (by omega) ((e4' (by decide)).trans (by first | (simp only [↓gaW, ↓gaV, ↓gaC, ↓gaN, gaP, Nat.reduceEqDiff, Nat.reduceLeDiff, Nat.reduceAdd, Nat.reduceSub, Nat.reduceMul, Int.reduceLT, Int.reduceLE, Int.reduceEq, Int.reduceToNat, Int.reduceAdd, Int.reduceSub, Int.reduceMul, reduceCtorEq, ↓reduceIte]; done) | (simp only [↓gaW, ↓gaV, ↓gaC, ↓gaN, gaP, Nat.reduceEqDiff, Nat.reduceLeDiff, Nat.reduceAdd, Nat.reduceSub, Nat.reduceMul, Int.reduceLT, Int.reduceLE, Int.reduceEq, Int.reduceToNat, Int.reduceAdd, Int.reduceSub, Int.reduceMul, reduceCtorEq, ↓reduceIte]; rfl))) ((e4' (by decide)).trans (by first | (simp only [↓gaW, ↓gaV, ↓gaC, ↓gaN, gaP, Nat.reduceEqDiff, Nat.reduceLeDiff, Nat.reduceAdd, Nat.reduceSub, Nat.reduceMul, Int.reduceLT, Int.reduceLE, Int.reduceEq, Int.reduceToNat, Int.reduceAdd, Int.reduceSub, Int.reduceMul, reduceCtorEq, ↓reduceIte]; done) | (simp only [↓gaW, ↓gaV, ↓gaC, ↓gaN, gaP, Nat.reduceEqDiff, Nat.reduceLeDiff, Nat.reduceAdd, Nat.reduceSub, Nat.reduceMul, Int.reduceLT, Int.reduceLE, Int.reduceEq, Int.reduceToNat, Int.reduceAdd, Int.reduceSub, Int.reduceMul, reduceCtorEq, ↓reduceIte]; rfl))) (by omega) (by omega) hy4 hq4 hz2l ?_
    intro x5 g5 t2 B2 m2 d2 A2 n2 c2 k2' l5 F5 et2 hq5 N2
    subst et2
    have hkk : z2.take 3 ++ (nodeL (Vr.bitE (Vr.at' l i)).t B2 m2 d2 A2 n2 c2 ++ z2.drop 6) = nodeL (boolE (Vr.at' l i).v6).t B1 m1 d1 A1 n1 c1' ++ (nodeL (Vr.bitE (Vr.at' l i)).t B2 m2 d2 A2 n2 c2 ++ nodeL (intN (Vr.at' l i).mx.toNat).t B3 m3 d3 A3 n3 c3) := by
      rw [hz2]
      match z, hzl with
      | [z0, z1, z2, z3, z4, z5, z6, z7, z8], _ => rfl
    rw [hkk] at hq5
    obtain ⟨F', hF'⟩ : ∃ F', F' = kept [0, 4, 6, 7, 12, 13, 14] (kept [0, 4, 6, 7, 12, 13, 14] (putR (putR (putR (putR (putR (putR f (some 15) (Value.bool (decide ((i : Int) < (n : Int))))) (some 16) (Value.pointer (some ⟨a.block, a.off + i * 20, none⟩))) (some 17) (Value.agg (vpL (Vr.at' l i)).toArray)) (some 6) (Value.pointer (some ⟨x, 0, none⟩))) (some 18) (Value.slice (some ⟨x + 1, 0, none⟩) 3 3)) (some 7) (Value.slice (some ⟨x + 1, 0, none⟩) 3 3))) := ⟨_, rfl⟩
    rw [← hF']
    have v0 : F' 0 = .slice (some a) n c := by rw [hF', e4' (by decide), e4' (by decide)]; simp only [↓gaW, ↓gaV, ↓gaC, ↓gaN, gaP, Nat.reduceEqDiff, Nat.reduceLeDiff, Nat.reduceAdd, Nat.reduceSub, Nat.reduceMul, Int.reduceLT, Int.reduceLE, Int.reduceEq, Int.reduceToNat, Int.reduceAdd, Int.reduceSub, Int.reduceMul, reduceCtorEq, ↓reduceIte, f0]
    have v4 : F' 4 = .pointer (some ⟨x1, 0, none⟩) := by rw [hF', e4' (by decide), e4' (by decide)]; simp only [↓gaW, ↓gaV, ↓gaC, ↓gaN, gaP, Nat.reduceEqDiff, Nat.reduceLeDiff, Nat.reduceAdd, Nat.reduceSub, Nat.reduceMul, Int.reduceLT, Int.reduceLE, Int.reduceEq, Int.reduceToNat, Int.reduceAdd, Int.reduceSub, Int.reduceMul, reduceCtorEq, ↓reduceIte, f4]
    have v7 : F' 7 = .slice (some ⟨x + 1, 0, none⟩) 3 3 := by rw [hF', e4' (by decide), e4' (by decide)]; simp only [↓gaW, ↓gaV, ↓gaC, ↓gaN, gaP, Nat.reduceEqDiff, Nat.reduceLeDiff, Nat.reduceAdd, Nat.reduceSub, Nat.reduceMul, Int.reduceLT, Int.reduceLE, Int.reduceEq, Int.reduceToNat, Int.reduceAdd, Int.reduceSub, Int.reduceMul, reduceCtorEq, ↓reduceIte]
    have v12 : F' 12 = .slice (some a) n c := by rw [hF', e4' (by decide), e4' (by decide)]; simp only [↓gaW, ↓gaV, ↓gaC, ↓gaN, gaP, Nat.reduceEqDiff, Nat.reduceLeDiff, Nat.reduceAdd, Nat.reduceSub, Nat.reduceMul, Int.reduceLT, Int.reduceLE, Int.reduceEq, Int.reduceToNat, Int.reduceAdd, Int.reduceSub, Int.reduceMul, reduceCtorEq, ↓reduceIte, f12]
    have v13 : F' 13 = .int .i64 (n : Nat) := by rw [hF', e4' (by decide), e4' (by decide)]; simp only [↓gaW, ↓gaV, ↓gaC, ↓gaN, gaP, Nat.reduceEqDiff, Nat.reduceLeDiff, Nat.reduceAdd, Nat.reduceSub, Nat.reduceMul, Int.reduceLT, Int.reduceLE, Int.reduceEq, Int.reduceToNat, Int.reduceAdd, Int.reduceSub, Int.reduceMul, reduceCtorEq, ↓reduceIte, f13]
    have v14 : F' 14 = .int .i64 (i : Nat) := by rw [hF', e4' (by decide), e4' (by decide)]; simp only [↓gaW, ↓gaV, ↓gaC, ↓gaN, gaP, Nat.reduceEqDiff, Nat.reduceLeDiff, Nat.reduceAdd, Nat.reduceSub, Nat.reduceMul, Int.reduceLT, Int.reduceLE, Int.reduceEq, Int.reduceToNat, Int.reduceAdd, Int.reduceSub, Int.reduceMul, reduceCtorEq, ↓reduceIte, f14]
    clear hF'
    have hp5 : g5 x1 = some (.cells (nodeL 48 none 0 0 Ak i i) false) := by rw [F5 x1 (by omega) (by omega), F4 x1 (by omega) (by omega), F3 x1 (by omega), hp]
    simp only [↓gaW, ↓gaV, ↓gaC, ↓gaN, gaP, Nat.reduceEqDiff, Nat.reduceLeDiff, Nat.reduceAdd, Nat.reduceSub, Nat.reduceMul, Int.reduceLT, Int.reduceLE, Int.reduceEq, Int.reduceToNat, Int.reduceAdd, Int.reduceSub, Int.reduceMul, reduceCtorEq, ↓reduceIte, List.getD_cons_zero, List.getD_cons_succ, fillL, splice, List.take_zero, List.drop_zero, List.drop_succ_cons, List.take_succ_cons, List.drop_nil, List.take_nil, v4, v7, hp5]
    refine And.intro (by omega) ?_
    have hblk := hOwn.blk
    obtain ⟨g6, hg6⟩ : ∃ g', g' = upd g5 x5 (some (.cells (nodeL 48 none 0 0 (some ⟨x + 1, 0, none⟩) 3 3) false)) := ⟨_, rfl⟩
    rw [← hg6]
    have G6 : ∀ p, p < x5 → g6 p = g5 p := fun p hp => by rw [hg6]; simp only [upd_e]; rw [if_neg (by omega)]
    have c6 : g6 x5 = some (.cells (nodeL 48 none 0 0 (some ⟨x + 1, 0, none⟩) 3 3) false) := by rw [hg6]; simp only [upd_e, if_true]
    have e6' : rowOf ⟨x5 + 1, b, g6⟩ (some ⟨x5, 0, none⟩) 3 = some (nodeL 48 none 0 0 (some ⟨x + 1, 0, none⟩) 3 3) := (Row.lit (e := 1) (by omega) c6 rfl).rowOf
    have hO6 : Own (x1 + 1) b (x5 + 1) g6 3 Ak i cs := hOwn.keep (by omega) fun p hp => by rw [G6 p (by omega), F5 p (by omega) (by omega), F4 p (by omega) (by omega), F3 p hp]
    have hcsl : cs.length = i * 3 := hOwn.1
    rw [e6']
    simp only [asO_e]
    refine grow_fresh (.inl hO6) (by omega) (by omega) rfl (node_cells _ _ _ _ _ _ _) (by omega) (by omega) fun g7 k7 c7 => ?_
    have hp7 : g7 x1 = some (.cells (nodeL 48 none 0 0 Ak i i) false) := by rw [k7 x1 (by omega) (fun a e ha hs => by have := hblk a e ha hs; omega), G6 x1 (by omega), hp5]
    simp only [↓gaW, ↓gaV, ↓gaC, ↓gaN, gaP, Nat.reduceEqDiff, Nat.reduceLeDiff, Nat.reduceAdd, Nat.reduceSub, Nat.reduceMul, Int.reduceLT, Int.reduceLE, Int.reduceEq, Int.reduceToNat, Int.reduceAdd, Int.reduceSub, Int.reduceMul, reduceCtorEq, ↓reduceIte, List.getD_cons_zero, List.getD_cons_succ, fillL, splice, List.take_zero, List.drop_zero, List.drop_succ_cons, List.take_succ_cons, List.drop_nil, List.take_nil, v14, hp7, i64_w ((i : Int) + 1) (by omega)]
    repeat refine And.intro (by omega) ?_
    refine And.intro (all1 rfl) ?_
    obtain ⟨g8, hg8⟩ : ∃ g', g' = upd g7 x1 (some (.cells [Value.int .i64 48, .slice none 0 0, .slice (some ⟨x5 + 1, 0, some 3⟩) (i + 1) (i + 1)] false)) := ⟨_, rfl⟩
    have G8 : ∀ p, p ≠ x1 → g8 p = g7 p := fun p hp => by rw [hg8]; simp only [upd_e]; rw [if_neg hp]
    have hp8 : g8 x1 = some (.cells (nodeL 48 none 0 0 (some ⟨x5 + 1, 0, some 3⟩) (i + 1) (i + 1)) false) := by rw [hg8]; simp only [upd_e, if_true]
    have low8 : ∀ p, p < x5 + 1 → p ≠ x1 → (∀ a e, Ak = some a → a.spot = some e → a.block ≠ p) → g8 p = g6 p := fun p h1 h2 h3 => by rw [G8 p h2, k7 p (by omega) h3]
    have new8 : ∀ p, x ≤ p → p < x5 + 1 → g8 p = g6 p := fun p h1 h2 => low8 p h2 (by omega) fun a e ha hs => by have := hblk a e ha hs; omega
    rw [← hg8]
    simp only [loopK_n]
    refine ⟨n - (i + 1), by omega, i + 1, x5 + 1 + 1, x5 + 1, g8, some ⟨x5 + 1, 0, some 3⟩, cs ++ nodeL 48 none 0 0 (some ⟨x + 1, 0, none⟩) 3 3, rfl, by omega, by simp only [↓gaW, ↓gaV, ↓gaC, ↓gaN, gaP, Nat.reduceEqDiff, Nat.reduceLeDiff, Nat.reduceAdd, Nat.reduceSub, Nat.reduceMul, Int.reduceLT, Int.reduceLE, Int.reduceEq, Int.reduceToNat, Int.reduceAdd, Int.reduceSub, Int.reduceMul, reduceCtorEq, ↓reduceIte, v0], by simp only [↓gaW, ↓gaV, ↓gaC, ↓gaN, gaP, Nat.reduceEqDiff, Nat.reduceLeDiff, Nat.reduceAdd, Nat.reduceSub, Nat.reduceMul, Int.reduceLT, Int.reduceLE, Int.reduceEq, Int.reduceToNat, Int.reduceAdd, Int.reduceSub, Int.reduceMul, reduceCtorEq, ↓reduceIte, v4], by simp only [↓gaW, ↓gaV, ↓gaC, ↓gaN, gaP, Nat.reduceEqDiff, Nat.reduceLeDiff, Nat.reduceAdd, Nat.reduceSub, Nat.reduceMul, Int.reduceLT, Int.reduceLE, Int.reduceEq, Int.reduceToNat, Int.reduceAdd, Int.reduceSub, Int.reduceMul, reduceCtorEq, ↓reduceIte, v12], by simp only [↓gaW, ↓gaV, ↓gaC, ↓gaN, gaP, Nat.reduceEqDiff, Nat.reduceLeDiff, Nat.reduceAdd, Nat.reduceSub, Nat.reduceMul, Int.reduceLT, Int.reduceLE, Int.reduceEq, Int.reduceToNat, Int.reduceAdd, Int.reduceSub, Int.reduceMul, reduceCtorEq, ↓reduceIte, v13], by simp only [↓gaW, ↓gaV, ↓gaC, ↓gaN, gaP, Nat.reduceEqDiff, Nat.reduceLeDiff, Nat.reduceAdd, Nat.reduceSub, Nat.reduceMul, Int.reduceLT, Int.reduceLE, Int.reduceEq, Int.reduceToNat, Int.reduceAdd, Int.reduceSub, Int.reduceMul, reduceCtorEq, ↓reduceIte]; rfl, rfl, by omega, fun p hp => ?_, hp8, ?_, ?_, by omega, fun a e ha hs => by injection ha with ha; subst ha; exact Nat.le_refl _⟩
    · rw [low8 p (by omega) (by omega) (fun a e ha hs => by have := hblk a e ha hs; omega), G6 p (by omega), F5 p (by omega) (by omega), F4 p (by omega) (by omega), F3 p (by omega), F p hp]
    · exact Own.of (by simp only [List.length_append, hcsl, List.length_cons, List.length_nil]; omega) (by omega) (by omega) (by omega) (by rw [G8 _ (by omega), c7])
    · rw [Vr.listF_take (by omega)]
      have hq8 : g8 (x + 1) = some (.cells (nodeL (boolE (Vr.at' l i).v6).t B1 m1 d1 A1 n1 c1' ++ (nodeL (Vr.bitE (Vr.at' l i)).t B2 m2 d2 A2 n2 c2 ++ nodeL (intN (Vr.at' l i).mx.toNat).t B3 m3 d3 A3 n3 c3)) false) := by rw [new8 _ (by omega) (by omega), G6 _ (by omega), hq5]
      have K1 := (N1.keep (x' := x5 + 1) (g := g8) (by omega) fun p h1 h2 => by rw [new8 p (by omega) (by omega), G6 p (by omega), F5 p (by omega) (by omega)]).wid (lo' := x1 + 1) (by omega)
      have K2 := (N2.keep (x' := x5 + 1) (g := g8) (by omega) fun p h1 h2 => by rw [new8 p (by omega) (by omega), G6 p (by omega)]).wid (lo' := x1 + 1) (by omega)
      have K3 := (N3.keep (x' := x5 + 1) (g := g8) (by omega) fun p h1 h2 => by rw [new8 p (by omega) (by omega), G6 p (by omega), F5 p (by omega) (by omega)]).wid (lo' := x1 + 1) (by omega)
      have hE : NdL (x1 + 1) (x5 + 1) g8 (Vr.entE (Vr.at' l i)) none 0 0 (some ⟨x + 1, 0, none⟩) 3 3 (nodeL (boolE (Vr.at' l i).v6).t B1 m1 d1 A1 n1 c1' ++ (nodeL (Vr.bitE (Vr.at' l i)).t B2 m2 d2 A2 n2 c2 ++ nodeL (intN (Vr.at' l i).mx.toNat).t B3 m3 d3 A3 n3 c3)) :=
        ⟨by simp [Vr.entE], .nil, Nat.le_refl _, ⟨Row.lit (by omega) hq8 rfl, fun _ a ha => by injection ha with ha; subst ha; simp only; omega⟩, Nat.le_refl _, rfl, FoL.app K1.one (FoL.app K2.one K3.one)⟩
      refine FoL.app (hFo.keep (by omega) fun p h1 h2 => ?_) hE.one
      rw [low8 p (by omega) (by omega) (fun a e ha hs => by have := hAk a e ha hs; omega), G6 p (by omega), F5 p (by omega) (by omega), F4 p (by omega) (by omega), F3 p (by omega)]
  · have hin : i = n := by omega
    subst hin
    have hRr := hr.keep (x := x) (by omega) F
    obtain ⟨a, cl, ro, rfl, e2, e3, e4, e5, e6⟩ := hRr.at (by omega)
    have c0 := e6 0 0 (by omega) (by omega)
    rw [vpL_0, u32V] at c0
    simp only [Nat.zero_mul, Nat.add_zero] at c0
    obtain ⟨w, hw⟩ : ∃ w, w = (Vr.at' l 0).asn.toNat := ⟨_, rfl⟩
    have hasl := (Vr.at' l 0).asn.toNat_lt
    rw [← hw] at c0 hasl
    have w1 : IntKind.u64.wrap ((w : Nat) : Int) = ((w : Nat) : Int) := by rw [u64_w]; omega
    simp only [↓gaW, ↓gaV, ↓gaC, ↓gaN, gaP, Nat.reduceEqDiff, Nat.reduceLeDiff, Nat.reduceAdd, Nat.reduceSub, Nat.reduceMul, Int.reduceLT, Int.reduceLE, Int.reduceEq, Int.reduceToNat, Int.reduceAdd, Int.reduceSub, Int.reduceMul, reduceCtorEq, ↓reduceIte, f0, f4, e3, c0, w1]
    repeat refine And.intro (by omega) ?_
    refine callQ_of (ct_IntN (n := w) (by omega)) (fun v x6 g6 l6 k6 hC => ?_)
    obtain ⟨B1, m1, d1, A1, n1, c1, k1', rfl, N1⟩ := hC
    have hp6 : g6 x1 = some (.cells (nodeL 48 none 0 0 Ak i i) false) := by rw [k6 x1 (by omega), hp]
    have F6 : ∀ p, p < nx → g6 p = gt p := fun p hp => by rw [k6 p (by omega), F p hp]
    simp only [↓gaW, ↓gaV, ↓gaC, ↓gaN, gaP, Nat.reduceEqDiff, Nat.reduceLeDiff, Nat.reduceAdd, Nat.reduceSub, Nat.reduceMul, Int.reduceLT, Int.reduceLE, Int.reduceEq, Int.reduceToNat, Int.reduceAdd, Int.reduceSub, Int.reduceMul, reduceCtorEq, ↓reduceIte, List.getD_cons_zero, List.getD_cons_succ, fillL, splice, List.take_zero, List.drop_zero, List.drop_succ_cons, List.take_succ_cons, List.drop_nil, List.take_nil, f0, f4, hp6]
    repeat refine And.intro (by omega) ?_
    have htake : l.take i = l := List.take_of_length_le (by omega)
    rw [htake] at hFo
    obtain ⟨g7, hg7⟩ : ∃ g', g' = upd g6 x6 (some (.cells (nodeL (intN w).t B1 m1 d1 A1 n1 c1 ++ nodeL 48 none 0 0 Ak i i) false)) := ⟨_, rfl⟩
    have hg7' : upd g6 x6 (some (Blk.cells [Value.int .i64 (intN w).t, .slice B1 m1 d1, .slice A1 n1 c1, .int .i64 48, .slice none 0 0, .slice Ak i i] false)) = g7 := hg7.symm
    rw [hg7']
    have G7 : ∀ p, p < x6 → g7 p = g6 p := fun p hp => by rw [hg7]; simp only [upd_e]; rw [if_neg (by omega)]
    have c7 : g7 x6 = some (.cells (nodeL (intN w).t B1 m1 d1 A1 n1 c1 ++ nodeL 48 none 0 0 Ak i i) false) := by rw [hg7]; simp only [upd_e, if_true]
    have hKN := (N1.r.keep (x' := x6 + 1) (g := g7) (by omega) G7)
    have hlo : ∀ p, p < x → g7 p = g p := fun p hp => by rw [G7 p (by omega), k6 p hp]
    have hIN : NdR (x6 + 1) g7 (Vr.inE l) none 0 0 Ak i i cs :=
      ⟨by simp [Vr.inE], .nil, Nat.le_refl _, hOwn.row.keep (by omega) hlo, Nat.le_refl _, by simp only [Vr.inE]; rw [Vr.listF_len, hl], (hFo.r.keep (by omega) fun p hp => hlo p (by omega))⟩
    have hE : NdR (x6 + 1) g7 (Vr.roaE l) none 0 0 (some ⟨x6, 0, none⟩) 2 2 (nodeL (intN w).t B1 m1 d1 A1 n1 c1 ++ nodeL 48 none 0 0 Ak i i) :=
      ⟨by simp [Vr.roaE], .nil, Nat.le_refl _, Row.lit (by omega) c7 rfl, Nat.le_refl _, rfl, by
        simp only [Vr.roaE]
        rw [← hw]
        exact FoR.app hKN.one hIN.one⟩
    have hws := Vr.roa_ws (l := l) fun v hv => ⟨(hr.wf v hv).a, by have := (hr.wf v hv).mx; omega⟩
    refine callQ_of (ct_Write (x := Vr.roaE l) (by omega) hE) (fun v x8 g8 l8 k8 hC => ?_)
    have F8 : ∀ p, p < nx → g8 p = gt p := fun p hp => by rw [k8 p (by omega), G7 p (by omega), F6 p hp]
    have hmk : Vr.makeR l = Fo.wr (Vr.roaE l) := by unfold Vr.makeR; rw [if_pos hR]
    rw [hmk]
    cases hwr : Fo.wr (Vr.roaE l) with
    | error e =>
      rw [hwr] at hC
      have hC : v = _ := hC
      subst hC
      simp only [↓gaW, ↓gaV, ↓gaC, ↓gaN, gaP, Nat.reduceEqDiff, Nat.reduceLeDiff, Nat.reduceAdd, Nat.reduceSub, Nat.reduceMul, Int.reduceLT, Int.reduceLE, Int.reduceEq, Int.reduceToNat, Int.reduceAdd, Int.reduceSub, Int.reduceMul, reduceCtorEq, ↓reduceIte, gaE]
      exact ⟨by omega, by omega, by omega, F8, rfl⟩
    | ok bs =>
      rw [hwr] at hC
      obtain ⟨A9, N9, rfl, q1, q2⟩ := hC
      simp only [↓gaW, ↓gaV, ↓gaC, ↓gaN, gaP, Nat.reduceEqDiff, Nat.reduceLeDiff, Nat.reduceAdd, Nat.reduceSub, Nat.reduceMul, Int.reduceLT, Int.reduceLE, Int.reduceEq, Int.reduceToNat, Int.reduceAdd, Int.reduceSub, Int.reduceMul, reduceCtorEq, ↓reduceIte, gaE]
      exact ⟨by omega, by omega, by omega, F8, A9, N9, rfl, q1, q2⟩
end
end Go.Ga

namespace Go.Ga
open Go Go.Proofs
set_option maxRecDepth 100000
def oneG (cells : List Value) (n : Nat) : Option Blk := if n = 0 then some (.cells cells false) else none
def makeT3 : RC :=
  (.tree [
  ⟨(some 25), (.op (.fieldAddr 1 (.t 6))), none⟩,
  ⟨(some 26), (.op (.fieldAddr 17 (.t 6))), none⟩,
  ⟨(some 27), (.op (.load1 (.t 26))), none⟩,
  ⟨(some 28), (.op (.bin .add (.t 27) (.k (.int .i64 7)))), none⟩,
  ⟨(some 29), (.op (.bin .quo (.t 28) (.k (.int .i64 8)))), none⟩,
  ⟨(some 30), (.op (.slArr 16 1 (.t 25) none (some (.t 29)) none)), none⟩,
  ⟨(some 31), (.op (.fieldAddr 17 (.t 6))), none⟩,
  ⟨(some 32), (.op (.load1 (.t 31))), none⟩,
  ⟨(some 33), (.call (.k (.func (.func 24) #[] #[])) [(.t 30), (.t 32)]), none⟩,
  ⟨(some 24), (.op (.mv (.t 33))), none⟩,
  ⟨(some 34), (.op (.extract (.t 24) 0)), none⟩,
  ⟨(some 35), (.op (.extract (.t 24) 1)), none⟩,
  ⟨(some 7), (.op (.new [(.int .i64 0), (.slice none 0 0), (.slice none 0 0)])), none⟩,
  ⟨none, (.op (.store 3 (.t 7) (.t 34))), none⟩,
  ⟨(some 8), (.op (.mv (.t 35))), none⟩] d_lanyardref18_Make q_lanyardref18_Make)
def t3vals (q x kk k : Nat) (len : Int) (uA uB : Value) (o : Bool) : List (Nat × Nat × Value) :=
  [(0, 25, .pointer (some ⟨q, 1, none⟩)), (1, 26, .pointer (some ⟨q, 17, none⟩)), (2, 27, .int .i64 len), (3, 28, .int .i64 (len + 7)), (4, 29, .int .i64 (k : Nat)), (5, 30, .slice (some ⟨q, 1, none⟩) k 16), (6, 31, .pointer (some ⟨q, 17, none⟩)), (7, 32, .int .i64 len),
   (8, 33, .tuple #[if o then uA else uB, .int .i64 0]), (9, 24, .tuple #[if o then uA else uB, .int .i64 0]), (10, 34, if o then uA else uB), (11, 35, .int .i64 0), (12, 7, .pointer (some ⟨if o then x + kk else x, 0, none⟩)), (14, 8, .int .i64 0)]
def t3mem (x kk : Nat) (g gA1 gA2 gA3 gB1 gB2 gB3 : Nat → Option Blk) (o s8 s12 s13 : Bool) : Mem :=
  if s13 then ⟨x + kk + 1, x, if o then gA3 else gB3⟩ else if s8 then (if s12 then ⟨x + kk + 1, x, if o then gA2 else gB2⟩ else ⟨x + kk, x, gA1⟩) else if s12 then ⟨x + 1, x, gB1⟩ else ⟨x, x, g⟩
theorem NV.node {S : Nat → Nat → Prop} {t : Int} {B B' A A' : Option Addr} {m d n c m' d' n' c' : Nat} (h : NV S (nodeV t B m d A n c) (nodeV t B' m' d' A' n' c')) : NB S (some (.cells (nodeL t B m d A n c) false)) (some (.cells (nodeL t B' m' d' A' n' c') false)) := by
  cases h with
  | same h => cases h
  | agg hs h =>
    refine ⟨rfl, rfl, fun i => ?_⟩
    have := h i
    rw [← toList_getD, ← toList_getD] at this
    exact this
end Go.Ga

namespace Go.Ga
open Go Go.Proofs
set_option maxRecDepth 100000
attribute [local irreducible] appendK
section
variable {nx : Nat} {gt : Nat → Option Blk}
end
end Go.Ga

namespace Go.Ga
open Go
namespace Vr
def kid : Fo → Nat → Fo.El
  | .nil, _ => ⟨0, [], .nil⟩
  | .cons t b k _, 0 => ⟨t, b, k⟩
  | .cons _ _ _ r, i + 1 => kid r i
theorem kid_app {pre post : Fo} {x : Fo.El} : kid (pre.app (.cons x.t x.b x.k post)) pre.len = x := by
  induction pre with
  | nil => rfl
  | cons t b k r _ ih => exact ih
def pad (a : List UInt8) : List UInt8 := (List.range 16).map fun i => a.getD i 0
theorem pad_len (a : List UInt8) : (pad a).length = 16 := by simp [pad]
theorem pad_at (a : List UInt8) {i : Nat} (h : i < 16) : (pad a).getD i 0 = a.getD i 0 := by simp [pad, List.getD_eq_getElem?_getD, h]
noncomputable def oneR (wa : UInt32) (x : Fo.El) : Option Vp :=
  open Classical in if x.t = 48 ∧ x.k.len = 3 ∧ (trueR (kid x.k 0)).2 = 0 ∧ (ofR (kid x.k 1)).2.2 = 0 ∧ (uintR (kid x.k 2)).2 = 0 ∧ (ofR (kid x.k 1)).1.length ≤ 16 ∧ (uintR (kid x.k 2)).1 ≤ 128
  then some ⟨wa, (trueR (kid x.k 0)).1, pad (ofR (kid x.k 1)).1, (ofR (kid x.k 1)).2.1, (uintR (kid x.k 2)).1⟩ else none
noncomputable def lenR (wa : UInt32) (x : Fo.El) : Option Vp :=
  if x.k.len = 3 then some ⟨wa, (trueR (kid x.k 0)).1, pad (ofR (kid x.k 1)).1, (ofR (kid x.k 1)).2.1, ((min (uintR (kid x.k 2)).1 1000 : Nat) : Int)⟩ else none
def goR (f : Fo.El → Option Vp) : Fo → Option (List Vp)
  | .nil => some []
  | .cons t b k r => match f ⟨t, b, k⟩ with
    | none => none
    | some v => (goR f r).map (v :: ·)
noncomputable def progR (b : List UInt8) : Except Nat (List Vp) := match Fo.rd b with
  | .error e => .error e
  | .ok n => open Classical in if n.t = 48 ∧ n.k.len = 2 ∧ (kid n.k 1).t = 48 ∧ (uintR (kid n.k 0)).2 = 0 ∧ (uintR (kid n.k 0)).1 < 4294967296 then
      match goR (oneR (UInt32.ofNat (uintR (kid n.k 0)).1)) (kid n.k 1).k with
      | none => .error 2
      | some l => if right l then .ok l else .error 2
    else .error 2
noncomputable def refR (b : List UInt8) : Except Nat (List Vp) := match Fo.rd b with
  | .error e => .error e
  | .ok n => if n.k.len = 2 then
      match goR (lenR (UInt32.ofNat (uintR (kid n.k 0)).1)) (kid n.k 1).k with
      | none => .error 2
      | some l => match makeR l with
        | .error _ => .error 2
        | .ok c => if c = b then .ok l else .error 2
    else .error 2
theorem true_bool (b : Bool) : trueR (boolE b) = (b, 0) := (trueR_is (boolE b) b (isT_bool b)).1 rfl
theorem uint_ok {x : Fo.El} (h : (uintR x).2 = 0) : x = intN (uintR x).1 ∧ (uintR x).1 < 18446744073709551616 := by
  unfold uintR at h ⊢
  split at h
  · rename_i h1
    rw [if_pos h1]
    exact ⟨intE_one h1.2 (intN_is h1.1), h1.1⟩
  · cases h
theorem uint_intN {n : Nat} (h : n < 18446744073709551616) : uintR (intN n) = (n, 0) := uint_int h (intN_is h)
theorem of_ok {x : Fo.El} (h : (ofR x).2.2 = 0) : bitsR (ofR x).1 (ofR x).2.1 = .ok x := by
  unfold ofR at h ⊢
  split at h
  · rename_i h1
    rw [if_pos h1]
    exact h1.2
  · cases h
theorem bits_in {l : List UInt8} {m : Int} {y : Fo.El} (h : bitsR l m = .ok y) : y = ⟨3, UInt8.ofNat (8 * (l.length : Int) - m).toNat :: l, .nil⟩ ∧ 0 ≤ m ∧ m ≤ 8 * (l.length : Int) ∧ 8 * (l.length : Int) - m ≤ 7 := by
  unfold bitsR at h
  split at h
  · rename_i hb
    injection h with h
    simp only [bitsOk, Bool.and_eq_true, decide_eq_true_eq] at hb
    exact ⟨h.symm, hb.1.1.1, hb.1.1.2, hb.1.2⟩
  · cases h
theorem of_bits {l : List UInt8} {m : Int} {y : Fo.El} (h : bitsR l m = .ok y) : ofR y = (l, m, 0) := by
  obtain ⟨hy, h1, h2, h3⟩ := bits_in h
  have b1 : y.b.tail = l := by rw [hy]; rfl
  have b2 : (((y.b.headD 0).toNat : Nat) : Int) = 8 * (l.length : Int) - m := by
    rw [hy]
    simp only [List.headD_cons]
    rw [UInt8.toNat_ofNat', Nat.mod_eq_of_lt (by omega)]; omega
  have b3 : y.b ≠ [] := by rw [hy]; simp
  unfold ofR
  rw [b1, b2, show 8 * (l.length : Int) - (8 * (l.length : Int) - m) = m by omega, if_pos ⟨b3, h⟩]
theorem three {F : Fo} (h : F.len = 3) : F = (kid F 0).f.app ((kid F 1).f.app (kid F 2).f) := by
  match F with
  | .cons t b k (.cons t1 b1 k1 (.cons t2 b2 k2 .nil)) => rfl
  | .nil => simp [Fo.len] at h
  | .cons _ _ _ .nil => simp [Fo.len] at h
  | .cons _ _ _ (.cons _ _ _ .nil) => simp [Fo.len] at h
  | .cons _ _ _ (.cons _ _ _ (.cons _ _ _ (.cons _ _ _ r))) => simp [Fo.len] at h
theorem two {F : Fo} (h : F.len = 2) : F = (kid F 0).f.app (kid F 1).f := by
  match F with
  | .cons t b k (.cons t1 b1 k1 .nil) => rfl
  | .nil => simp [Fo.len] at h
  | .cons _ _ _ .nil => simp [Fo.len] at h
  | .cons _ _ _ (.cons _ _ _ (.cons _ _ _ r)) => simp [Fo.len] at h
theorem pad_take {v : Vp} (ha : v.a.length = 16) (hok : ok v.v6 v.a v.len = true) : pad (v.a.take (oct v.len)) = v.a := by
  obtain ⟨p1, p2, p3⟩ := (ok_iff ha).1 hok
  have hm := most_le v.v6
  have hk : ((oct v.len : Nat) : Int) = (v.len + 7) / 8 := by unfold oct; omega
  refine List.ext_getElem (by rw [pad_len, ha]) fun i hi1 hi2 => ?_
  rw [pad_len] at hi1
  have e : ∀ (l : List UInt8) (h : i < l.length), l[i] = l.getD i 0 := fun l h => by simp [List.getD_eq_getElem?_getD, h]
  rw [e, e, pad_at _ hi1]
  rcases Nat.lt_or_ge i (oct v.len) with h | h
  · rw [List.getD_eq_getElem?_getD, List.getD_eq_getElem?_getD, List.getElem?_take_of_lt h]
  · have e0 : (v.a.take (oct v.len)).getD i 0 = 0 := by
      rw [List.getD_eq_getElem?_getD, List.getElem?_eq_none (by simp; omega)]; rfl
    rw [e0]
    have hx := (v.a.getD i 0).toNat_lt
    have := low_small 0 (by omega) (v.a.getD i 0).toNat (by omega) fun j hj _ => by
      have := p3 (8 * i + j) (by omega) (by omega)
      unfold bit at this
      rw [show (8 * i + j) / 8 = i by omega, show (8 * i + j) % 8 = j by omega] at this
      exact this
    have h0 : (v.a.getD i 0).toNat = 0 := by
      rw [Nat.sub_zero, Nat.mod_eq_of_lt (by omega)] at this; exact this
    exact (UInt8.toNat_inj.1 h0).symm
theorem kid_ent (v : Vp) : kid (entE v).k 0 = boolE v.v6 ∧ kid (entE v).k 1 = bitE v ∧ kid (entE v).k 2 = intN v.mx.toNat ∧ (entE v).k.len = 3 := ⟨rfl, rfl, rfl, rfl⟩
theorem ent_one {v : Vp} (ha : v.a.length = 16) (h1 : one v = true) : oneR v.asn (entE v) = some v ∧ lenR v.asn (entE v) = some v := by
  obtain ⟨hok, hl, hm⟩ := one_ok h1
  obtain ⟨p1, p2, p3⟩ := (ok_iff ha).1 hok
  have hml := most_le v.v6
  obtain ⟨k0, k1, k2, kl⟩ := kid_ent v
  have e0 := true_bool v.v6
  have e1 := of_bits (bits_ok ha hok)
  have e2 := uint_intN (n := v.mx.toNat) (by omega)
  have hpt := pad_take ha hok
  have hmx : ((v.mx.toNat : Nat) : Int) = v.mx := by omega
  constructor
  · unfold oneR
    rw [k0, k1, k2, kl, e0, e1, e2]
    rw [if_pos ⟨rfl, rfl, rfl, rfl, rfl, by simp only [List.length_take]; unfold oct; omega, by simp only; omega⟩]
    simp only [hpt, hmx]
  · unfold lenR
    rw [k0, k1, k2, kl, e0, e1, e2]
    rw [if_pos rfl]
    simp only [hpt, Nat.min_eq_left (show v.mx.toNat ≤ 1000 by omega), hmx]
theorem go_list {f : Fo.El → Option Vp} {l : List Vp} (h : ∀ v ∈ l, f (entE v) = some v) : goR f (listF l) = some l := by
  induction l with
  | nil => rfl
  | cons v l ih =>
    show goR f (.cons (entE v).t (entE v).b (entE v).k (listF l)) = _
    have : f ⟨(entE v).t, (entE v).b, (entE v).k⟩ = some v := h v (by simp)
    simp only [goR, this, ih fun x hx => h x (by simp [hx]), Option.map_some]
theorem right_mem {l : List Vp} (h : right l = true) : ∀ v ∈ l, one v = true ∧ v.asn = (at' l 0).asn := fun v hv => by
  obtain ⟨i, hi, rfl⟩ := List.mem_iff_getElem.1 hv
  have e : l[i] = at' l i := by simp [at', List.getD_eq_getElem?_getD, hi]
  rw [e]
  exact ⟨right_at h hi, right_as h hi⟩
theorem kid_roa (l : List Vp) : kid (roaE l).k 0 = intN (at' l 0).asn.toNat ∧ kid (roaE l).k 1 = inE l ∧ (roaE l).k.len = 2 := ⟨rfl, rfl, rfl⟩
theorem of_nat32 (a : UInt32) : UInt32.ofNat a.toNat = a := by simp
theorem prog_of {b : List UInt8} {l : List Vp} (ha : ∀ v ∈ l, v.a.length = 16) (hr : right l = true) (hn : Fo.rd b = .ok (roaE l)) : progR b = .ok l := by
  obtain ⟨k0, k1, kl⟩ := kid_roa l
  have hlt := (at' l 0).asn.toNat_lt
  have e0 := uint_intN (n := (at' l 0).asn.toNat) (by omega)
  unfold progR
  rw [hn]
  simp only
  rw [k0, k1, kl, e0]
  rw [if_pos ⟨rfl, rfl, rfl, rfl, by simp only; omega⟩]
  have hg : goR (oneR (UInt32.ofNat (at' l 0).asn.toNat)) (inE l).k = some l := go_list fun v hv => by
    obtain ⟨h1, h2⟩ := right_mem hr v hv
    rw [of_nat32, ← h2]
    exact (ent_one (ha v hv) h1).1
  simp only [hg, hr, if_true]
end Vr
end Go.Ga

namespace Go.Ga
open Go Go.Proofs
set_option maxRecDepth 100000
theorem NdR.kid {nx : Nat} {gt : Nat → Option Blk} {x : Fo.El} {B : Option Addr} {m d : Nat} {A : Option Addr} {n c : Nat} {ks : List Value} (h : NdR nx gt x B m d A n c ks) {i : Nat} (hi : i < n) :
    ∃ (B' : Option Addr) (m' d' : Nat) (A' : Option Addr) (n' c' : Nat) (ks' : List Value), NdR nx gt (Vr.kid x.k i) B' m' d' A' n' c' ks' ∧ (ks.drop (i * 3)).take 3 = nodeL (Vr.kid x.k i).t B' m' d' A' n' c' ∧ (Vr.kid x.k i).f.ws ≤ x.k.ws := by
  obtain ⟨y, pre, post, B', m', d', A', n', c', ks', e1, e2, e3, e4⟩ := h.kids.at (i := i) (by have := h.len; omega)
  have hk : Vr.kid x.k i = y := by rw [e1, ← e2]; exact Vr.kid_app
  rw [hk]
  exact ⟨B', m', d', A', n', c', ks', e3, e4, Fo.ws_in e1⟩
def vp0 : Vp := ⟨0, false, List.replicate 16 0, 0, 0⟩
theorem vp0_wf : vp0.wf := ⟨rfl, by decide, by decide⟩
theorem vp0_L : vpL vp0 = [.int .u32 0, .bool false, .int .u8 0, .int .u8 0, .int .u8 0, .int .u8 0, .int .u8 0, .int .u8 0, .int .u8 0, .int .u8 0, .int .u8 0, .int .u8 0, .int .u8 0, .int .u8 0, .int .u8 0, .int .u8 0, .int .u8 0, .int .u8 0, .int .i64 0, .int .i64 0] := rfl
def OneV (r : Value) : Option Vp → Prop
  | none => ∃ v, v.wf ∧ r = .tuple #[vpV v, .bool false]
  | some v => v.wf ∧ r = .tuple #[vpV v, .bool true]
theorem pad_eq {l : List UInt8} (h : l.length ≤ 16) : Vr.pad l = l ++ List.replicate (16 - l.length) 0 := by
  refine List.ext_getElem (by simp [Vr.pad_len]; omega) fun i h1 h2 => ?_
  rw [Vr.pad_len] at h1
  have e : ∀ (k : List UInt8) (h : i < k.length), k[i] = k.getD i 0 := fun k h => by simp [List.getD_eq_getElem?_getD, h]
  rw [e, e, Vr.pad_at _ h1]
  rw [List.getD_eq_getElem?_getD, List.getD_eq_getElem?_getD]
  rcases Nat.lt_or_ge i l.length with h3 | h3
  · rw [List.getElem?_append_left h3]
  · rw [List.getElem?_append_right h3, List.getElem?_eq_none h3, List.getElem?_replicate, if_pos (by omega)]; rfl
theorem splice_pad {wa : UInt32} {v6 : Bool} {l : List UInt8} {m t : Int} (h : l.length ≤ 16) : splice (vpL ⟨wa, v6, List.replicate 16 0, m, t⟩) 2 (l.map u8V) = vpL ⟨wa, v6, Vr.pad l, m, t⟩ := by
  rw [pad_eq h]
  simp only [vpL, pxL, splice, List.length_map, List.cons_append, List.take_succ_cons, List.take_zero, List.nil_append, Nat.add_comm 2, List.drop_succ_cons, List.map_append, List.append_assoc]
  rw [List.drop_append_of_le_length (by simp; omega)]
  rw [← List.map_drop, List.drop_replicate]
theorem vp0_u8 {i : Nat} {y : UInt8} {wa : UInt32} {v6 : Bool} {m t : Int} (h : (vpL vp0).getD i undef = u8V y) : (vpL ⟨wa, v6, List.replicate 16 0, m, t⟩).getD i undef = u8V y := by
  have hi : i < 20 ∨ 20 ≤ i := by omega
  rcases hi with hi | hi
  · have : i = 0 ∨ i = 1 ∨ i = 18 ∨ i = 19 ∨ (2 ≤ i ∧ i < 18) := by omega
    rcases this with rfl | rfl | rfl | rfl | ⟨h1, h2⟩
    · cases h
    · cases h
    · cases h
    · cases h
    · have a1 := vpL_at (v := vp0) rfl (i := i - 2) (by omega)
      have a2 := vpL_at (v := ⟨wa, v6, List.replicate 16 0, m, t⟩) (by simp) (i := i - 2) (by omega)
      rw [show 2 + (i - 2) = i by omega] at a1 a2
      rw [a2, ← h, a1]
      rfl
  · rw [List.getD_eq_getElem?_getD, List.getElem?_eq_none (by rw [vpL_len rfl]; exact hi)] at h
    cases h
section
variable {nx : Nat} {gt : Nat → Option Blk}
theorem ct_one {x : Fo.El} {B : Option Addr} {m d : Nat} {A : Option Addr} {n c : Nat} {ks : List Value} {wa : UInt32} (h : NdR nx gt x B m d A n c ks) (hxw : x.f.ws < 900000) :
    Ct Tryd.prog 30 [nodeV x.t B m d A n c, u32V wa] nx gt fun r _ _ => OneV r (Vr.oneR wa x) := by
  refine Ct.of hmx r_roa_one (by simp [c_roa_one]) fun b hb => ?_
  have hnn : (nx = nx + 1) = False := by simp
  have hn1 : (nx + 1 = nx) = False := by simp
  have xw : x.f.ws = 1 + x.b.length + x.k.ws := by simp only [Fo.El.f, Fo.ws]; omega
  have hkl := h.len
  have htz : (vpL vp0).take 20 = vpL vp0 := List.take_of_length_le (by rw [vpL_len vp0_wf.a]; omega)
  have hspz : splice (vpL vp0) 0 (vpL vp0) = vpL vp0 := rfl
  simp only [c_roa_one, ↓gaW, ↓gaV, ↓gaC, ↓gaN, gaP, Nat.reduceEqDiff, Nat.reduceLeDiff, Nat.reduceAdd, Nat.reduceSub, Nat.reduceMul, Int.reduceLT, Int.reduceLE, Int.reduceEq, Int.reduceToNat, Int.reduceAdd, Int.reduceSub, Int.reduceMul, reduceCtorEq, ↓reduceIte, List.getD_cons_zero, List.getD_cons_succ, fillL, splice, List.take_zero, List.drop_zero, List.drop_succ_cons, List.take_succ_cons, List.drop_nil, List.take_nil, gaU, hnn]
  refine And.intro (by omega) ?_
  rw [← vp0_L]
  obtain ⟨g3, hg3⟩ : ∃ g', g' = upd (upd gt nx (some (.cells [Value.int .i64 x.t, .slice B m d, .slice A n c] false))) (nx + 1) (some (.cells (vpL vp0) false)) := ⟨_, rfl⟩
  rw [← hg3]
  have hb3 : g3 nx = some (.cells (nodeL x.t B m d A n c) false) := by rw [hg3]; simp only [upd_e, hnn, if_false, if_true]
  have hz3 : g3 (nx + 1) = some (.cells (vpL vp0) false) := by rw [hg3]; simp only [upd_e, if_true]
  have H3 : ∀ p, p < nx → g3 p = gt p := fun p hp => by rw [hg3]; simp only [upd_e]; rw [if_neg (by omega), if_neg (by omega)]
  clear hg3
  by_cases ht : x.t = 48
  case neg =>
    have e : Vr.oneR wa x = none := by unfold Vr.oneR; rw [if_neg fun hc => ht hc.1]
    simp only [↓gaW, ↓gaV, ↓gaC, ↓gaN, gaP, Nat.reduceEqDiff, Nat.reduceLeDiff, Nat.reduceAdd, Nat.reduceSub, Nat.reduceMul, Int.reduceLT, Int.reduceLE, Int.reduceEq, Int.reduceToNat, Int.reduceAdd, Int.reduceSub, Int.reduceMul, reduceCtorEq, ↓reduceIte, ht, not_false_eq_true, decide_true, e]
    simp only [↓gaW, ↓gaV, ↓gaC, ↓gaN, gaP, Nat.reduceEqDiff, Nat.reduceLeDiff, Nat.reduceAdd, Nat.reduceSub, Nat.reduceMul, Int.reduceLT, Int.reduceLE, Int.reduceEq, Int.reduceToNat, Int.reduceAdd, Int.reduceSub, Int.reduceMul, reduceCtorEq, ↓reduceIte, hz3, vpL_len vp0_wf.a, List.drop_zero, htz, hspz]
    repeat refine And.intro (by omega) ?_
    refine And.intro (vpL_cells _) ?_
    rw [end_r, res_cN (q := nx + 1) (o := 0) (s := none) (c := vpL vp0) (ro := false) (by simp only [↓gaW, ↓gaV, ↓gaC, ↓gaN, gaP, Nat.reduceEqDiff, Nat.reduceLeDiff, Nat.reduceAdd, Nat.reduceSub, Nat.reduceMul, Int.reduceLT, Int.reduceLE, Int.reduceEq, Int.reduceToNat, Int.reduceAdd, Int.reduceSub, Int.reduceMul, reduceCtorEq, ↓reduceIte]) (by simp only [upd_e, if_true]) (by rw [vpL_len vp0_wf.a]; omega)]
    simp only [↓gaW, ↓gaV, ↓gaC, ↓gaN, gaP, Nat.reduceEqDiff, Nat.reduceLeDiff, Nat.reduceAdd, Nat.reduceSub, Nat.reduceMul, Int.reduceLT, Int.reduceLE, Int.reduceEq, Int.reduceToNat, Int.reduceAdd, Int.reduceSub, Int.reduceMul, reduceCtorEq, ↓reduceIte, res_t, res_nil, Option.map_some, asO_e, one2, List.drop_zero, htz]
    exact ⟨by omega, fun p hp => by rw [if_neg (by omega), H3 p hp], _, vp0_wf, rfl⟩
  by_cases hn : (n : Int) = 3
  case neg =>
    have e : Vr.oneR wa x = none := by unfold Vr.oneR; rw [if_neg fun hc => hn (by rw [hkl, hc.2.1]; rfl)]
    simp only [↓gaW, ↓gaV, ↓gaC, ↓gaN, gaP, Nat.reduceEqDiff, Nat.reduceLeDiff, Nat.reduceAdd, Nat.reduceSub, Nat.reduceMul, Int.reduceLT, Int.reduceLE, Int.reduceEq, Int.reduceToNat, Int.reduceAdd, Int.reduceSub, Int.reduceMul, reduceCtorEq, ↓reduceIte, List.getD_cons_zero, List.getD_cons_succ, ht, hb3, hn, not_true_eq_false, not_false_eq_true, decide_true, decide_false, e, nodeL]
    repeat refine And.intro (by omega) ?_
    simp only [↓gaW, ↓gaV, ↓gaC, ↓gaN, gaP, Nat.reduceEqDiff, Nat.reduceLeDiff, Nat.reduceAdd, Nat.reduceSub, Nat.reduceMul, Int.reduceLT, Int.reduceLE, Int.reduceEq, Int.reduceToNat, Int.reduceAdd, Int.reduceSub, Int.reduceMul, reduceCtorEq, ↓reduceIte, hz3, vpL_len vp0_wf.a, List.drop_zero, htz, hspz]
    repeat refine And.intro (by omega) ?_
    refine And.intro (vpL_cells _) ?_
    rw [end_r, res_cN (q := nx + 1) (o := 0) (s := none) (c := vpL vp0) (ro := false) (by simp only [↓gaW, ↓gaV, ↓gaC, ↓gaN, gaP, Nat.reduceEqDiff, Nat.reduceLeDiff, Nat.reduceAdd, Nat.reduceSub, Nat.reduceMul, Int.reduceLT, Int.reduceLE, Int.reduceEq, Int.reduceToNat, Int.reduceAdd, Int.reduceSub, Int.reduceMul, reduceCtorEq, ↓reduceIte]) (by simp only [upd_e, if_true]) (by rw [vpL_len vp0_wf.a]; omega)]
    simp only [↓gaW, ↓gaV, ↓gaC, ↓gaN, gaP, Nat.reduceEqDiff, Nat.reduceLeDiff, Nat.reduceAdd, Nat.reduceSub, Nat.reduceMul, Int.reduceLT, Int.reduceLE, Int.reduceEq, Int.reduceToNat, Int.reduceAdd, Int.reduceSub, Int.reduceMul, reduceCtorEq, ↓reduceIte, res_t, res_nil, Option.map_some, asO_e, one2, List.drop_zero, htz]
    exact ⟨by omega, fun p hp => by rw [if_neg (by omega), H3 p hp], _, vp0_wf, rfl⟩
  have hn3 : n = 3 := by omega
  subst hn3
  obtain ⟨a, cl, ro, rfl, r2, r3, r4, r5⟩ := h.row.cells (by omega)
  obtain ⟨B0, m0, d0, A0, n0, c0, ks0, N0, q0, ws0⟩ := h.kid (i := 0) (by omega)
  obtain ⟨B1, m1, d1, A1, n1, c1, ks1, N1, q1, ws1⟩ := h.kid (i := 1) (by omega)
  obtain ⟨B2, m2, d2, A2, n2, c2, ks2, N2, q2, ws2⟩ := h.kid (i := 2) (by omega)
  have t0 := (h.row.load rfl r3 (j := 0 * 3) (k := 3) (by omega) (by omega)).trans q0
  have t1 := (h.row.load rfl r3 (j := 1 * 3) (k := 3) (by omega) (by omega)).trans q1
  have t2 := (h.row.load rfl r3 (j := 2 * 3) (k := 3) (by omega) (by omega)).trans q2
  simp only [Nat.zero_mul, Nat.add_zero, Nat.one_mul, Nat.reduceMul] at t0 t1 t2
  have hcl3 : g3 a.block = some (.cells cl ro) := by rw [H3 _ r2, r3]
  have M0 := N0.keep (x' := nx + 1 + 1) (g := g3) (by omega) H3
  simp only [↓gaW, ↓gaV, ↓gaC, ↓gaN, gaP, Nat.reduceEqDiff, Nat.reduceLeDiff, Nat.reduceAdd, Nat.reduceSub, Nat.reduceMul, Int.reduceLT, Int.reduceLE, Int.reduceEq, Int.reduceToNat, Int.reduceAdd, Int.reduceSub, Int.reduceMul, reduceCtorEq, ↓reduceIte, List.getD_cons_zero, List.getD_cons_succ, fillL, splice, List.take_zero, List.drop_zero, List.drop_succ_cons, List.take_succ_cons, List.drop_nil, List.take_nil, ht, hb3, nodeL, not_true_eq_false, decide_true, decide_false, hcl3, t0]
  repeat refine And.intro (by omega) ?_
  refine callK_of (ct_True M0 (by omega)) (fun v x4 g4 l4 k4 hC => ?_) (by omega)
  subst hC
  have hb4 : g4 nx = some (.cells [Value.int .i64 x.t, .slice B m d, .slice (some a) 3 c] false) := by rw [k4 nx (by omega), hb3]
  have hz4 : g4 (nx + 1) = some (.cells (vpL vp0) false) := by rw [k4 (nx + 1) (by omega), hz3]
  have hcl4 : g4 a.block = some (.cells cl ro) := by rw [k4 _ (by omega), hcl3]
  have H4 : ∀ p, p < nx → g4 p = gt p := fun p hp => by rw [k4 p (by omega), H3 p hp]
  have M1 := N1.keep (x' := x4) (g := g4) (by omega) H4
  simp only [↓gaW, ↓gaV, ↓gaC, ↓gaN, gaP, Nat.reduceEqDiff, Nat.reduceLeDiff, Nat.reduceAdd, Nat.reduceSub, Nat.reduceMul, Int.reduceLT, Int.reduceLE, Int.reduceEq, Int.reduceToNat, Int.reduceAdd, Int.reduceSub, Int.reduceMul, reduceCtorEq, ↓reduceIte, List.getD_cons_zero, List.getD_cons_succ, fillL, splice, List.take_zero, List.drop_zero, List.drop_succ_cons, List.take_succ_cons, List.drop_nil, List.take_nil, hb4, hcl4, t1]
  repeat refine And.intro (by omega) ?_
  refine callK_of (ct_Of M1 (by omega)) (fun v x5 g5 l5 k5 hC => ?_) (by omega)
  obtain ⟨u, rfl, Au, nu, cu, rfl, hcu, hlu, ru⟩ := hC
  have hb5 : g5 nx = some (.cells [Value.int .i64 x.t, .slice B m d, .slice (some a) 3 c] false) := by rw [k5 nx (by omega), hb4]
  have hz5 : g5 (nx + 1) = some (.cells (vpL vp0) false) := by rw [k5 (nx + 1) (by omega), hz4]
  have hcl5 : g5 a.block = some (.cells cl ro) := by rw [k5 _ (by omega), hcl4]
  have H5 : ∀ p, p < nx → g5 p = gt p := fun p hp => by rw [k5 p (by omega), H4 p hp]
  have M2 := N2.keep (x' := x5) (g := g5) (by omega) H5
  simp only [↓gaW, ↓gaV, ↓gaC, ↓gaN, gaP, Nat.reduceEqDiff, Nat.reduceLeDiff, Nat.reduceAdd, Nat.reduceSub, Nat.reduceMul, Int.reduceLT, Int.reduceLE, Int.reduceEq, Int.reduceToNat, Int.reduceAdd, Int.reduceSub, Int.reduceMul, reduceCtorEq, ↓reduceIte, List.getD_cons_zero, List.getD_cons_succ, fillL, splice, List.take_zero, List.drop_zero, List.drop_succ_cons, List.take_succ_cons, List.drop_nil, List.take_nil, hb5, hcl5, t2]
  repeat refine And.intro (by omega) ?_
  refine callK_of (ct_Uint M2 (by omega)) (fun v x6 g6 l6 k6 hC => ?_) (by omega)
  subst hC
  have hz6 : g6 (nx + 1) = some (.cells (vpL vp0) false) := by rw [k6 (nx + 1) (by omega), hz5]
  have H6 : ∀ p, p < nx → g6 p = gt p := fun p hp => by rw [k6 p (by omega), H5 p hp]
  have ru6 := ru.keep (nx' := x6) (gt' := g6) l6 k6
  simp only [↓gaW, ↓gaV, ↓gaC, ↓gaN, gaP, Nat.reduceEqDiff, Nat.reduceLeDiff, Nat.reduceAdd, Nat.reduceSub, Nat.reduceMul, Int.reduceLT, Int.reduceLE, Int.reduceEq, Int.reduceToNat, Int.reduceAdd, Int.reduceSub, Int.reduceMul, reduceCtorEq, ↓reduceIte, List.getD_cons_zero, List.getD_cons_succ, fillL, splice, List.take_zero, List.drop_zero, List.drop_succ_cons, List.take_succ_cons, List.drop_nil, List.take_nil]
  repeat refine And.intro (by omega) ?_
  by_cases q3 : (((trueR (Vr.kid x.k 0)).2 : Nat) : Int) = 0
  case neg =>
    have e : Vr.oneR wa x = none := by unfold Vr.oneR; rw [if_neg fun hc => q3 (by rw [hc.2.2.1]; rfl)]
    simp only [↓gaW, ↓gaV, ↓gaC, ↓gaN, gaP, Nat.reduceEqDiff, Nat.reduceLeDiff, Nat.reduceAdd, Nat.reduceSub, Nat.reduceMul, Int.reduceLT, Int.reduceLE, Int.reduceEq, Int.reduceToNat, Int.reduceAdd, Int.reduceSub, Int.reduceMul, reduceCtorEq, ↓reduceIte, q3, not_false_eq_true, decide_true, e]
    simp only [↓gaW, ↓gaV, ↓gaC, ↓gaN, gaP, Nat.reduceEqDiff, Nat.reduceLeDiff, Nat.reduceAdd, Nat.reduceSub, Nat.reduceMul, Int.reduceLT, Int.reduceLE, Int.reduceEq, Int.reduceToNat, Int.reduceAdd, Int.reduceSub, Int.reduceMul, reduceCtorEq, ↓reduceIte, hz6, vpL_len vp0_wf.a, List.drop_zero, htz, hspz]
    repeat refine And.intro (by omega) ?_
    refine And.intro (vpL_cells _) ?_
    rw [end_r, res_cN (q := nx + 1) (o := 0) (s := none) (c := vpL vp0) (ro := false) (by simp only [↓gaW, ↓gaV, ↓gaC, ↓gaN, gaP, Nat.reduceEqDiff, Nat.reduceLeDiff, Nat.reduceAdd, Nat.reduceSub, Nat.reduceMul, Int.reduceLT, Int.reduceLE, Int.reduceEq, Int.reduceToNat, Int.reduceAdd, Int.reduceSub, Int.reduceMul, reduceCtorEq, ↓reduceIte]) (by simp only [upd_e, if_true]) (by rw [vpL_len vp0_wf.a]; omega)]
    simp only [↓gaW, ↓gaV, ↓gaC, ↓gaN, gaP, Nat.reduceEqDiff, Nat.reduceLeDiff, Nat.reduceAdd, Nat.reduceSub, Nat.reduceMul, Int.reduceLT, Int.reduceLE, Int.reduceEq, Int.reduceToNat, Int.reduceAdd, Int.reduceSub, Int.reduceMul, reduceCtorEq, ↓reduceIte, res_t, res_nil, Option.map_some, asO_e, one2, List.drop_zero, htz]
    exact ⟨by omega, fun p hp => by rw [if_neg (by omega), H6 p hp], _, vp0_wf, rfl⟩
  by_cases q4 : (((ofR (Vr.kid x.k 1)).2.2 : Nat) : Int) = 0
  case neg =>
    have e : Vr.oneR wa x = none := by unfold Vr.oneR; rw [if_neg fun hc => q4 (by rw [hc.2.2.2.1]; rfl)]
    simp only [↓gaW, ↓gaV, ↓gaC, ↓gaN, gaP, Nat.reduceEqDiff, Nat.reduceLeDiff, Nat.reduceAdd, Nat.reduceSub, Nat.reduceMul, Int.reduceLT, Int.reduceLE, Int.reduceEq, Int.reduceToNat, Int.reduceAdd, Int.reduceSub, Int.reduceMul, reduceCtorEq, ↓reduceIte, q3, q4, not_true_eq_false, decide_false, not_false_eq_true, decide_true, e]
    simp only [↓gaW, ↓gaV, ↓gaC, ↓gaN, gaP, Nat.reduceEqDiff, Nat.reduceLeDiff, Nat.reduceAdd, Nat.reduceSub, Nat.reduceMul, Int.reduceLT, Int.reduceLE, Int.reduceEq, Int.reduceToNat, Int.reduceAdd, Int.reduceSub, Int.reduceMul, reduceCtorEq, ↓reduceIte, hz6, vpL_len vp0_wf.a, List.drop_zero, htz, hspz]
    repeat refine And.intro (by omega) ?_
    refine And.intro (vpL_cells _) ?_
    rw [end_r, res_cN (q := nx + 1) (o := 0) (s := none) (c := vpL vp0) (ro := false) (by simp only [↓gaW, ↓gaV, ↓gaC, ↓gaN, gaP, Nat.reduceEqDiff, Nat.reduceLeDiff, Nat.reduceAdd, Nat.reduceSub, Nat.reduceMul, Int.reduceLT, Int.reduceLE, Int.reduceEq, Int.reduceToNat, Int.reduceAdd, Int.reduceSub, Int.reduceMul, reduceCtorEq, ↓reduceIte]) (by simp only [upd_e, if_true]) (by rw [vpL_len vp0_wf.a]; omega)]
    simp only [↓gaW, ↓gaV, ↓gaC, ↓gaN, gaP, Nat.reduceEqDiff, Nat.reduceLeDiff, Nat.reduceAdd, Nat.reduceSub, Nat.reduceMul, Int.reduceLT, Int.reduceLE, Int.reduceEq, Int.reduceToNat, Int.reduceAdd, Int.reduceSub, Int.reduceMul, reduceCtorEq, ↓reduceIte, res_t, res_nil, Option.map_some, asO_e, one2, List.drop_zero, htz]
    exact ⟨by omega, fun p hp => by rw [if_neg (by omega), H6 p hp], _, vp0_wf, rfl⟩
  by_cases q5 : (((uintR (Vr.kid x.k 2)).2 : Nat) : Int) = 0
  case neg =>
    have e : Vr.oneR wa x = none := by unfold Vr.oneR; rw [if_neg fun hc => q5 (by rw [hc.2.2.2.2.1]; rfl)]
    simp only [↓gaW, ↓gaV, ↓gaC, ↓gaN, gaP, Nat.reduceEqDiff, Nat.reduceLeDiff, Nat.reduceAdd, Nat.reduceSub, Nat.reduceMul, Int.reduceLT, Int.reduceLE, Int.reduceEq, Int.reduceToNat, Int.reduceAdd, Int.reduceSub, Int.reduceMul, reduceCtorEq, ↓reduceIte, q3, q4, q5, not_true_eq_false, decide_false, not_false_eq_true, decide_true, e]
    simp only [↓gaW, ↓gaV, ↓gaC, ↓gaN, gaP, Nat.reduceEqDiff, Nat.reduceLeDiff, Nat.reduceAdd, Nat.reduceSub, Nat.reduceMul, Int.reduceLT, Int.reduceLE, Int.reduceEq, Int.reduceToNat, Int.reduceAdd, Int.reduceSub, Int.reduceMul, reduceCtorEq, ↓reduceIte, hz6, vpL_len vp0_wf.a, List.drop_zero, htz, hspz]
    repeat refine And.intro (by omega) ?_
    refine And.intro (vpL_cells _) ?_
    rw [end_r, res_cN (q := nx + 1) (o := 0) (s := none) (c := vpL vp0) (ro := false) (by simp only [↓gaW, ↓gaV, ↓gaC, ↓gaN, gaP, Nat.reduceEqDiff, Nat.reduceLeDiff, Nat.reduceAdd, Nat.reduceSub, Nat.reduceMul, Int.reduceLT, Int.reduceLE, Int.reduceEq, Int.reduceToNat, Int.reduceAdd, Int.reduceSub, Int.reduceMul, reduceCtorEq, ↓reduceIte]) (by simp only [upd_e, if_true]) (by rw [vpL_len vp0_wf.a]; omega)]
    simp only [↓gaW, ↓gaV, ↓gaC, ↓gaN, gaP, Nat.reduceEqDiff, Nat.reduceLeDiff, Nat.reduceAdd, Nat.reduceSub, Nat.reduceMul, Int.reduceLT, Int.reduceLE, Int.reduceEq, Int.reduceToNat, Int.reduceAdd, Int.reduceSub, Int.reduceMul, reduceCtorEq, ↓reduceIte, res_t, res_nil, Option.map_some, asO_e, one2, List.drop_zero, htz]
    exact ⟨by omega, fun p hp => by rw [if_neg (by omega), H6 p hp], _, vp0_wf, rfl⟩
  by_cases q6 : (16 : Int) < ((nu : Nat) : Int)
  · have e : Vr.oneR wa x = none := by unfold Vr.oneR; rw [if_neg fun hc => by have := hc.2.2.2.2.2.1; omega]
    simp only [↓gaW, ↓gaV, ↓gaC, ↓gaN, gaP, Nat.reduceEqDiff, Nat.reduceLeDiff, Nat.reduceAdd, Nat.reduceSub, Nat.reduceMul, Int.reduceLT, Int.reduceLE, Int.reduceEq, Int.reduceToNat, Int.reduceAdd, Int.reduceSub, Int.reduceMul, reduceCtorEq, ↓reduceIte, q3, q4, q5, q6, not_true_eq_false, decide_false, decide_true, e]
    simp only [↓gaW, ↓gaV, ↓gaC, ↓gaN, gaP, Nat.reduceEqDiff, Nat.reduceLeDiff, Nat.reduceAdd, Nat.reduceSub, Nat.reduceMul, Int.reduceLT, Int.reduceLE, Int.reduceEq, Int.reduceToNat, Int.reduceAdd, Int.reduceSub, Int.reduceMul, reduceCtorEq, ↓reduceIte, hz6, vpL_len vp0_wf.a, List.drop_zero, htz, hspz]
    repeat refine And.intro (by omega) ?_
    refine And.intro (vpL_cells _) ?_
    rw [end_r, res_cN (q := nx + 1) (o := 0) (s := none) (c := vpL vp0) (ro := false) (by simp only [↓gaW, ↓gaV, ↓gaC, ↓gaN, gaP, Nat.reduceEqDiff, Nat.reduceLeDiff, Nat.reduceAdd, Nat.reduceSub, Nat.reduceMul, Int.reduceLT, Int.reduceLE, Int.reduceEq, Int.reduceToNat, Int.reduceAdd, Int.reduceSub, Int.reduceMul, reduceCtorEq, ↓reduceIte]) (by simp only [upd_e, if_true]) (by rw [vpL_len vp0_wf.a]; omega)]
    simp only [↓gaW, ↓gaV, ↓gaC, ↓gaN, gaP, Nat.reduceEqDiff, Nat.reduceLeDiff, Nat.reduceAdd, Nat.reduceSub, Nat.reduceMul, Int.reduceLT, Int.reduceLE, Int.reduceEq, Int.reduceToNat, Int.reduceAdd, Int.reduceSub, Int.reduceMul, reduceCtorEq, ↓reduceIte, res_t, res_nil, Option.map_some, asO_e, one2, List.drop_zero, htz]
    exact ⟨by omega, fun p hp => by rw [if_neg (by omega), H6 p hp], _, vp0_wf, rfl⟩
  by_cases q7 : (128 : Int) < (((uintR (Vr.kid x.k 2)).1 : Nat) : Int)
  · have e : Vr.oneR wa x = none := by unfold Vr.oneR; rw [if_neg fun hc => by have := hc.2.2.2.2.2.2; omega]
    simp only [↓gaW, ↓gaV, ↓gaC, ↓gaN, gaP, Nat.reduceEqDiff, Nat.reduceLeDiff, Nat.reduceAdd, Nat.reduceSub, Nat.reduceMul, Int.reduceLT, Int.reduceLE, Int.reduceEq, Int.reduceToNat, Int.reduceAdd, Int.reduceSub, Int.reduceMul, reduceCtorEq, ↓reduceIte, q3, q4, q5, q6, q7, not_true_eq_false, decide_false, decide_true, e]
    simp only [↓gaW, ↓gaV, ↓gaC, ↓gaN, gaP, Nat.reduceEqDiff, Nat.reduceLeDiff, Nat.reduceAdd, Nat.reduceSub, Nat.reduceMul, Int.reduceLT, Int.reduceLE, Int.reduceEq, Int.reduceToNat, Int.reduceAdd, Int.reduceSub, Int.reduceMul, reduceCtorEq, ↓reduceIte, hz6, vpL_len vp0_wf.a, List.drop_zero, htz, hspz]
    repeat refine And.intro (by omega) ?_
    refine And.intro (vpL_cells _) ?_
    rw [end_r, res_cN (q := nx + 1) (o := 0) (s := none) (c := vpL vp0) (ro := false) (by simp only [↓gaW, ↓gaV, ↓gaC, ↓gaN, gaP, Nat.reduceEqDiff, Nat.reduceLeDiff, Nat.reduceAdd, Nat.reduceSub, Nat.reduceMul, Int.reduceLT, Int.reduceLE, Int.reduceEq, Int.reduceToNat, Int.reduceAdd, Int.reduceSub, Int.reduceMul, reduceCtorEq, ↓reduceIte]) (by simp only [upd_e, if_true]) (by rw [vpL_len vp0_wf.a]; omega)]
    simp only [↓gaW, ↓gaV, ↓gaC, ↓gaN, gaP, Nat.reduceEqDiff, Nat.reduceLeDiff, Nat.reduceAdd, Nat.reduceSub, Nat.reduceMul, Int.reduceLT, Int.reduceLE, Int.reduceEq, Int.reduceToNat, Int.reduceAdd, Int.reduceSub, Int.reduceMul, reduceCtorEq, ↓reduceIte, res_t, res_nil, Option.map_some, asO_e, one2, List.drop_zero, htz]
    exact ⟨by omega, fun p hp => by rw [if_neg (by omega), H6 p hp], _, vp0_wf, rfl⟩
  obtain ⟨top, htop⟩ : ∃ top, top = (uintR (Vr.kid x.k 2)).1 := ⟨_, rfl⟩
  obtain ⟨many, hmany⟩ : ∃ many, many = (ofR (Vr.kid x.k 1)).2.1 := ⟨_, rfl⟩
  obtain ⟨v6, hv6⟩ : ∃ v6, v6 = (trueR (Vr.kid x.k 0)).1 := ⟨_, rfl⟩
  obtain ⟨l, hl⟩ : ∃ l, l = (ofR (Vr.kid x.k 1)).1 := ⟨_, rfl⟩
  rw [← htop] at q7
  rw [← hl] at hlu ru6
  have wt : IntKind.i64.wrap (top : Int) = (top : Int) := i64_w _ (by omega)
  obtain ⟨_, m0', m1', m2'⟩ := Vr.bits_in (Vr.of_ok (x := Vr.kid x.k 1) (by omega))
  rw [← hmany] at m0' m1' m2'
  rw [← hl] at m1' m2'
  have e : Vr.oneR wa x = some ⟨wa, v6, Vr.pad l, many, top⟩ := by
    unfold Vr.oneR
    rw [if_pos ⟨ht, by rw [← hkl], by omega, by omega, by omega, by rw [← hl]; omega, by rw [← htop]; omega⟩, hl, hmany, hv6, htop]
  have hvw : (⟨wa, v6, Vr.pad l, many, top⟩ : Vp).wf := ⟨Vr.pad_len _, by simp only; omega, by simp only; omega⟩
  rw [e]
  have hz6L := hz6
  rw [vp0_L] at hz6L
  have hlit : ([u32V wa, .bool v6, .int .u8 0, .int .u8 0, .int .u8 0, .int .u8 0, .int .u8 0, .int .u8 0, .int .u8 0, .int .u8 0, .int .u8 0, .int .u8 0, .int .u8 0, .int .u8 0, .int .u8 0, .int .u8 0, .int .u8 0, .int .u8 0, .int .i64 many, .int .i64 (top : Nat)] : List Value) = vpL ⟨wa, v6, List.replicate 16 0, many, top⟩ := rfl
  have hll : (vpL ⟨wa, v6, List.replicate 16 0, many, (top : Nat)⟩).length = 20 := vpL_len rfl
  have hdd : List.drop 20 ([.int .u32 0, .bool false, .int .u8 0, .int .u8 0, .int .u8 0, .int .u8 0, .int .u8 0, .int .u8 0, .int .u8 0, .int .u8 0, .int .u8 0, .int .u8 0, .int .u8 0, .int .u8 0, .int .u8 0, .int .u8 0, .int .u8 0, .int .u8 0, .int .i64 0, .int .i64 0] : List Value) = [] := rfl
  have hmin : nu.min 16 = nu := Nat.min_eq_left (by omega)
  simp only [↓gaW, ↓gaV, ↓gaC, ↓gaN, gaP, Nat.reduceEqDiff, Nat.reduceLeDiff, Nat.reduceAdd, Nat.reduceSub, Nat.reduceMul, Int.reduceLT, Int.reduceLE, Int.reduceEq, Int.reduceToNat, Int.reduceAdd, Int.reduceSub, Int.reduceMul, reduceCtorEq, ↓reduceIte, List.getD_cons_zero, List.getD_cons_succ, fillL, splice, List.take_zero, List.drop_zero, List.drop_succ_cons, List.take_succ_cons, List.drop_nil, List.take_nil, gaU, q3, q4, q5, q6, ← htop, ← hmany, ← hv6, q7, wt, not_true_eq_false, decide_false, decide_true, hz6L, vp0_L, hlit, hll, hdd, hmin]
  repeat refine And.intro (by omega) ?_
  refine And.intro (vpL_cells _) ?_
  obtain ⟨g7, hg7⟩ : ∃ g', g' = upd g6 (nx + 1) (some (.cells (vpL ⟨wa, v6, List.replicate 16 0, many, (top : Nat)⟩) false)) := ⟨_, rfl⟩
  rw [← hg7]
  have hz7 : g7 (nx + 1) = some (.cells (vpL ⟨wa, v6, List.replicate 16 0, many, (top : Nat)⟩) false) := by rw [hg7]; simp only [upd_e, if_true]
  have G7 : ∀ p, p ≠ nx + 1 → g7 p = g6 p := fun p hp => by rw [hg7]; simp only [upd_e]; rw [if_neg hp]
  have ru7 : Row x6 g7 1 Au nu (l.map u8V) := by
    refine ⟨ru6.spot, ru6.len, fun hN => ?_⟩
    obtain ⟨a', ce, ro', rfl, s2, s3, s4, s5⟩ := ru6.cells hN
    by_cases hab : a'.block = nx + 1
    · rw [hab, hz6] at s3
      injection s3 with s3; injection s3 with s31 s32
      subst s31
      refine ⟨a', _, false, rfl, s2, by rw [hab]; exact hz7, by rw [hll]; rw [vpL_len vp0_wf.a] at s4; exact s4, fun i hi => ?_⟩
      have := s5 i hi
      rw [getD_u8 (by omega)] at this ⊢
      exact vp0_u8 (y := l.getD i 0) this
    · exact ⟨a', ce, ro', rfl, s2, by rw [G7 _ hab]; exact s3, s4, s5⟩
  have e7 : rowOf ⟨x6, b, g7⟩ Au nu = some (l.map u8V) := ru7.rowOf
  rw [e7]
  simp only [asO_e]
  have hspl := splice_pad (wa := wa) (v6 := v6) (l := l) (m := many) (t := (top : Nat)) (by omega)
  have fin : ∀ (g8 : Nat → Option Blk) (F : Regs), F 4 = .pointer (some ⟨nx + 1, 0, none⟩) → F 5 = .bool true → g8 (nx + 1) = some (.cells (vpL ⟨wa, v6, Vr.pad l, many, (top : Nat)⟩) false) → (∀ p, p ≠ nx + 1 → g8 p = g6 p) →
      endK [RVar.cN 4 20, RVar.t 5] b nx gt (fun r x x_2 => OneV r (some ⟨wa, v6, Vr.pad l, many, (top : Nat)⟩)) .ret F ⟨x6, b, g8⟩ := fun g8 F f4 f5 hz8 G8 => by
    rw [end_r, res_cN (q := nx + 1) (o := 0) (s := none) (c := vpL ⟨wa, v6, Vr.pad l, many, (top : Nat)⟩) (ro := false) f4 hz8 (by rw [vpL_len hvw.a]; omega)]
    simp only [↓gaW, ↓gaV, ↓gaC, ↓gaN, gaP, Nat.reduceEqDiff, Nat.reduceLeDiff, Nat.reduceAdd, Nat.reduceSub, Nat.reduceMul, Int.reduceLT, Int.reduceLE, Int.reduceEq, Int.reduceToNat, Int.reduceAdd, Int.reduceSub, Int.reduceMul, reduceCtorEq, ↓reduceIte, res_t, res_nil, Option.map_some, asO_e, one2, List.drop_zero, f5]
    rw [List.take_of_length_le (by rw [vpL_len hvw.a]; omega)]
    exact ⟨by omega, fun p hp => by rw [G8 p (by omega), H6 p hp], hvw, rfl⟩
  have htk : (vpL ⟨wa, v6, Vr.pad l, many, (top : Nat)⟩).take 20 = vpL ⟨wa, v6, Vr.pad l, many, (top : Nat)⟩ := List.take_of_length_le (by rw [vpL_len hvw.a]; omega)
  have hsp20 : splice (vpL ⟨wa, v6, Vr.pad l, many, (top : Nat)⟩) 0 (vpL ⟨wa, v6, Vr.pad l, many, (top : Nat)⟩) = vpL ⟨wa, v6, Vr.pad l, many, (top : Nat)⟩ := by
    unfold splice
    rw [List.take_zero, List.nil_append, List.drop_of_length_le (by omega), List.append_nil]
  by_cases hn0 : nu = 0
  · subst hn0
    have hl0 : l = [] := List.eq_nil_of_length_eq_zero hlu
    rw [hl0, List.map_nil] at hspl
    have hsp0 : ∀ k : List Value, splice k 2 [] = k := fun k => by unfold splice; simp
    rw [hsp0, ← hl0] at hspl
    rw [hspl] at hz7
    simp only [↓gaW, ↓gaV, ↓gaC, ↓gaN, gaP, Nat.reduceEqDiff, Nat.reduceLeDiff, Nat.reduceAdd, Nat.reduceSub, Nat.reduceMul, Int.reduceLT, Int.reduceLE, Int.reduceEq, Int.reduceToNat, Int.reduceAdd, Int.reduceSub, Int.reduceMul, reduceCtorEq, ↓reduceIte, gaU, hz7, vpL_len hvw.a, htk, hsp20]
    repeat refine And.intro (by omega) ?_
    refine And.intro (vpL_cells _) ?_
    exact fin _ _ (by simp only [↓gaW, ↓gaV, ↓gaC, ↓gaN, gaP, Nat.reduceEqDiff, Nat.reduceLeDiff, Nat.reduceAdd, Nat.reduceSub, Nat.reduceMul, Int.reduceLT, Int.reduceLE, Int.reduceEq, Int.reduceToNat, Int.reduceAdd, Int.reduceSub, Int.reduceMul, reduceCtorEq, ↓reduceIte]) (by simp only [↓gaW, ↓gaV, ↓gaC, ↓gaN, gaP, Nat.reduceEqDiff, Nat.reduceLeDiff, Nat.reduceAdd, Nat.reduceSub, Nat.reduceMul, Int.reduceLT, Int.reduceLE, Int.reduceEq, Int.reduceToNat, Int.reduceAdd, Int.reduceSub, Int.reduceMul, reduceCtorEq, ↓reduceIte]) (by simp only [upd_e, if_true]) fun p hp => by simp only [upd_e]; rw [if_neg hp, G7 p hp]
  · rw [cpK_s hn0]
    simp only [↓gaW, ↓gaV, ↓gaC, ↓gaN, gaP, Nat.reduceEqDiff, Nat.reduceLeDiff, Nat.reduceAdd, Nat.reduceSub, Nat.reduceMul, Int.reduceLT, Int.reduceLE, Int.reduceEq, Int.reduceToNat, Int.reduceAdd, Int.reduceSub, Int.reduceMul, reduceCtorEq, ↓reduceIte, gaU, hz7, hspl, hll, List.length_map, vpL_len hvw.a, htk, hsp20]
    refine And.intro (by omega) (And.intro (by omega) (And.intro (all_u8 _) (And.intro (by omega) (And.intro (vpL_cells _) ?_))))
    exact fin _ _ (by simp only [↓gaW, ↓gaV, ↓gaC, ↓gaN, gaP, Nat.reduceEqDiff, Nat.reduceLeDiff, Nat.reduceAdd, Nat.reduceSub, Nat.reduceMul, Int.reduceLT, Int.reduceLE, Int.reduceEq, Int.reduceToNat, Int.reduceAdd, Int.reduceSub, Int.reduceMul, reduceCtorEq, ↓reduceIte]) (by simp only [↓gaW, ↓gaV, ↓gaC, ↓gaN, gaP, Nat.reduceEqDiff, Nat.reduceLeDiff, Nat.reduceAdd, Nat.reduceSub, Nat.reduceMul, Int.reduceLT, Int.reduceLE, Int.reduceEq, Int.reduceToNat, Int.reduceAdd, Int.reduceSub, Int.reduceMul, reduceCtorEq, ↓reduceIte]) (by simp only [upd_e, if_true]) fun p hp => by simp only [upd_e]; rw [if_neg hp, if_neg hp, G7 p hp]
end
end Go.Ga

namespace Go.Ga
open Go Go.Proofs
set_option maxRecDepth 100000
attribute [local irreducible] appendK
theorem Fo.ws_bs {f : Fo} (h : f.rs) : f.ws ≤ f.bs := by
  induction f with
  | nil => simp [Fo.ws, Fo.bs]
  | cons t b k r ih1 ih2 =>
    obtain ⟨⟨h1, h2, h3⟩, h4, h5⟩ := h
    have i1 := ih1 h4
    have i2 := ih2 h5
    simp only [Fo.ws, Fo.bs]
    cases hh : Fo.has t with
    | true =>
      have := Fo.hn_le k.bs
      rw [h2 hh]
      simp only [List.length_nil, if_true]; omega
    | false =>
      have := Fo.hn_le b.length
      rw [h3 hh]
      simp only [Fo.ws, Bool.false_eq_true, if_false]; omega
theorem Fo.rd_ws {l : List UInt8} {x : Fo.El} (h : Fo.rd l = .ok x) : x.f.ws ≤ 20000 ∧ -9223372036854775808 ≤ x.t ∧ x.f.rs := by
  obtain ⟨h1, h2, h3, h4⟩ := Fo.wr_ok (Fo.wr_rd h)
  have := Fo.ws_bs h1
  have h5 := h1.1.1
  unfold Fo.tag at h5
  exact ⟨by omega, by omega, h1⟩
namespace Vr
theorem goR_app {f : Fo.El → Option Vp} : ∀ {p q : Fo} {d : List Vp}, goR f p = some d → goR f (p.app q) = (goR f q).map (d ++ ·)
  | .nil, q, d, h => by
    simp only [goR, Option.some.injEq] at h
    subst h
    simp [Fo.app]
  | .cons t b k r, q, d, h => by
    simp only [goR, Fo.app] at h ⊢
    split at h
    · cases h
    · rename_i v hv
      cases hr : goR f r with
      | none => rw [hr] at h; cases h
      | some d' =>
        rw [hr] at h
        simp only [Option.map_some, Option.some.injEq] at h
        subst h
        rw [goR_app hr, Option.map_map]
        rfl
theorem goR_snoc {f : Fo.El → Option Vp} {p : Fo} {d : List Vp} {y : Fo.El} {v : Vp} (h : goR f p = some d) (hy : f y = some v) : goR f (p.app y.f) = some (d ++ [v]) := by
  rw [goR_app h]
  show (goR f (.cons y.t y.b y.k .nil)).map _ = _
  have : f ⟨y.t, y.b, y.k⟩ = some v := hy
  simp [goR, this]
theorem goR_none {f : Fo.El → Option Vp} {p q : Fo} {d : List Vp} {y : Fo.El} (h : goR f p = some d) (hy : f y = none) : goR f (p.app (.cons y.t y.b y.k q)) = none := by
  rw [goR_app h]
  have : f ⟨y.t, y.b, y.k⟩ = none := hy
  simp [goR, this]
end Vr
def ReadL (nx : Nat) (g : Nat → Option Blk) (v : Value) : Except Nat (List Vp) → Prop
  | .error e => v = .tuple #[.slice none 0 0, .int .i64 (e : Nat)]
  | .ok l => ∃ A N, v = .tuple #[.slice A N N, .int .i64 0] ∧ VpR nx g A N l
section
variable {nx : Nat} {gt : Nat → Option Blk}
theorem ct_RRead {A : Option Addr} {n c : Nat} {l : List UInt8} (hA : Row nx gt 1 A n (l.map u8V)) (hc : n ≤ c) (hn : n ≤ 1000000) : Ct Tryd.prog 11 [.slice A n c] nx gt fun r x g => ReadL x g r (Vr.progR l) := by
  refine Ct.of hmx r_roa_Read (by simp [c_roa_Read]) fun b hb => ?_
  simp only [c_roa_Read, ↓gaW, ↓gaV, ↓gaC, ↓gaN, gaP, Nat.reduceEqDiff, Nat.reduceLeDiff, Nat.reduceAdd, Nat.reduceSub, Nat.reduceMul, Int.reduceLT, Int.reduceLE, Int.reduceEq, Int.reduceToNat, Int.reduceAdd, Int.reduceSub, Int.reduceMul, reduceCtorEq, ↓reduceIte]
  refine callK_of (ct_Read hA hc hn) (fun v x1 g1 l1 k1 hC => ?_) (by omega)
  cases hrd : Fo.rd l with
  | error e =>
    rw [hrd] at hC
    have hC : v = _ := hC
    subst hC
    have e0 : e ≠ 0 := by
      rintro rfl
      unfold Fo.rd at hrd
      split at hrd
      · cases hrd
      · split at hrd
        · rename_i e' he
          injection hrd with hrd
          have := Fo.elem_errs he
          omega
        · split at hrd <;> cases hrd
    have e0i : ¬ ((e : Nat) : Int) = 0 := by omega
    have er : Vr.progR l = .error e := by unfold Vr.progR; rw [hrd]
    simp only [↓gaW, ↓gaV, ↓gaC, ↓gaN, gaP, Nat.reduceEqDiff, Nat.reduceLeDiff, Nat.reduceAdd, Nat.reduceSub, Nat.reduceMul, Int.reduceLT, Int.reduceLE, Int.reduceEq, Int.reduceToNat, Int.reduceAdd, Int.reduceSub, Int.reduceMul, reduceCtorEq, ↓reduceIte, List.getD_cons_zero, List.getD_cons_succ, fillL, splice, List.take_zero, List.drop_zero, List.drop_succ_cons, List.take_succ_cons, List.drop_nil, List.take_nil]
    repeat refine And.intro (by omega) ?_
    refine And.intro (node_cells _ _ _ _ _ _ _) ?_
    simp only [↓gaW, ↓gaV, ↓gaC, ↓gaN, gaP, Nat.reduceEqDiff, Nat.reduceLeDiff, Nat.reduceAdd, Nat.reduceSub, Nat.reduceMul, Int.reduceLT, Int.reduceLE, Int.reduceEq, Int.reduceToNat, Int.reduceAdd, Int.reduceSub, Int.reduceMul, reduceCtorEq, ↓reduceIte, e0i, not_false_eq_true, decide_true, gaE, er]
    exact ⟨by omega, fun p hp => by rw [if_neg (by omega), if_neg (by omega), k1 p hp], rfl⟩
  | ok y =>
  rw [hrd] at hC
  obtain ⟨B, m, d, A0, n0, c0, ks, rfl, N0⟩ := hC
  obtain ⟨hws, _, hrs⟩ := Fo.rd_ws hrd
  simp only [↓gaW, ↓gaV, ↓gaC, ↓gaN, gaP, Nat.reduceEqDiff, Nat.reduceLeDiff, Nat.reduceAdd, Nat.reduceSub, Nat.reduceMul, Int.reduceLT, Int.reduceLE, Int.reduceEq, Int.reduceToNat, Int.reduceAdd, Int.reduceSub, Int.reduceMul, reduceCtorEq, ↓reduceIte, List.getD_cons_zero, List.getD_cons_succ, fillL, splice, List.take_zero, List.drop_zero, List.drop_succ_cons, List.take_succ_cons, List.drop_nil, List.take_nil]
  repeat refine And.intro (by omega) ?_
  refine And.intro (node_cells _ _ _ _ _ _ _) ?_
  obtain ⟨g2, hg2⟩ : ∃ g', g' = upd (upd g1 x1 (some (.cells [Value.int .i64 0, .slice none 0 0, .slice none 0 0] false))) x1 (some (.cells (nodeL y.t B m d A0 n0 c0) false)) := ⟨_, rfl⟩
  have hb2 : g2 x1 = some (.cells (nodeL y.t B m d A0 n0 c0) false) := by rw [hg2]; simp only [upd_e, if_true]
  have G2 : ∀ p, p < x1 → g2 p = g1 p := fun p hp => by rw [hg2]; simp only [upd_e]; rw [if_neg (by omega), if_neg (by omega)]
  have F2 : ∀ p, p < nx → g2 p = gt p := fun p hp => by rw [G2 p (by omega), k1 p hp]
  have hgg : upd (upd g1 x1 (some (Blk.cells [Value.int .i64 0, .slice none 0 0, .slice none 0 0] false))) x1 (some (.cells [Value.int .i64 y.t, .slice B m d, .slice A0 n0 c0] false)) = g2 := hg2.symm
  simp only [↓gaW, ↓gaV, ↓gaC, ↓gaN, gaP, Nat.reduceEqDiff, Nat.reduceLeDiff, Nat.reduceAdd, Nat.reduceSub, Nat.reduceMul, Int.reduceLT, Int.reduceLE, Int.reduceEq, Int.reduceToNat, Int.reduceAdd, Int.reduceSub, Int.reduceMul, reduceCtorEq, ↓reduceIte, hgg, not_true_eq_false, decide_false]
  clear hg2 hgg
  have N2 := N0.keep (x' := x1 + 1) (g := g2) (by omega) G2
  refine And.intro (by omega) ?_
  have bad : ¬ (y.t = 48 ∧ y.k.len = 2 ∧ (Vr.kid y.k 1).t = 48 ∧ (uintR (Vr.kid y.k 0)).2 = 0 ∧ (uintR (Vr.kid y.k 0)).1 < 4294967296) → Vr.progR l = .error 2 := fun h => by
    unfold Vr.progR
    rw [hrd]
    simp only
    rw [if_neg h]
  have hkl := N0.len
  by_cases ht : y.t = 48
  case neg =>
    have er := bad fun h => ht h.1
    simp only [↓gaW, ↓gaV, ↓gaC, ↓gaN, gaP, Nat.reduceEqDiff, Nat.reduceLeDiff, Nat.reduceAdd, Nat.reduceSub, Nat.reduceMul, Int.reduceLT, Int.reduceLE, Int.reduceEq, Int.reduceToNat, Int.reduceAdd, Int.reduceSub, Int.reduceMul, reduceCtorEq, ↓reduceIte, ht, not_false_eq_true, decide_true, gaE, er]
    exact ⟨by omega, F2, rfl⟩
  by_cases hn2 : (n0 : Int) = 2
  case neg =>
    have er := bad fun h => hn2 (by rw [hkl, h.2.1]; rfl)
    simp only [↓gaW, ↓gaV, ↓gaC, ↓gaN, gaP, Nat.reduceEqDiff, Nat.reduceLeDiff, Nat.reduceAdd, Nat.reduceSub, Nat.reduceMul, Int.reduceLT, Int.reduceLE, Int.reduceEq, Int.reduceToNat, Int.reduceAdd, Int.reduceSub, Int.reduceMul, reduceCtorEq, ↓reduceIte, List.getD_cons_zero, List.getD_cons_succ, hb2, ht, hn2, not_true_eq_false, not_false_eq_true, decide_true, decide_false, gaE, er]
    refine And.intro (by omega) ?_
    refine And.intro (by omega) ?_
    refine And.intro F2 ?_
    repeat refine And.intro (by omega) ?_
    exact rfl
  have hn2' : n0 = 2 := by omega
  subst hn2'
  obtain ⟨a, cl, ro, rfl, r2, r3, r4, r5⟩ := N2.row.cells (by omega)
  obtain ⟨B3, m3, d3, A3, n3, c3, ks3, M0, q0, ws0⟩ := N2.kid (i := 0) (by omega)
  obtain ⟨B4, m4, d4, A4, n4, c4, ks4, M1, q1, ws1⟩ := N2.kid (i := 1) (by omega)
  have t0 := (N2.row.load rfl r3 (j := 0 * 3) (k := 3) (by omega) (by omega)).trans q0
  have t1 := (N2.row.load rfl r3 (j := 1 * 3) (k := 3) (by omega) (by omega)).trans q1
  simp only [Nat.zero_mul, Nat.add_zero, Nat.one_mul] at t0 t1
  have yw : y.f.ws = 1 + y.b.length + y.k.ws := by simp only [Fo.El.f, Fo.ws]; omega
  have cell : ∀ j v, j < 3 → (nodeL (Vr.kid y.k 1).t B4 m4 d4 A4 n4 c4).getD j undef = v → cl.getD (a.off + 3 + j) undef = v := fun j v hj h => by
    rw [← h, ← t1, List.getD_eq_getElem?_getD, List.getD_eq_getElem?_getD, List.getElem?_take_of_lt hj, List.getElem?_drop]
  have ct := cell 0 (.int .i64 (Vr.kid y.k 1).t) (by omega) rfl
  have ck := cell 2 (.slice A4 n4 c4) (by omega) rfl
  simp only [Nat.add_zero] at ct
  by_cases ht1 : (Vr.kid y.k 1).t = 48
  case neg =>
    have er := bad fun h => ht1 h.2.2.1
    simp only [↓gaW, ↓gaV, ↓gaC, ↓gaN, gaP, Nat.reduceEqDiff, Nat.reduceLeDiff, Nat.reduceAdd, Nat.reduceSub, Nat.reduceMul, Int.reduceLT, Int.reduceLE, Int.reduceEq, Int.reduceToNat, Int.reduceAdd, Int.reduceSub, Int.reduceMul, reduceCtorEq, ↓reduceIte, List.getD_cons_zero, List.getD_cons_succ, hb2, r3, ct, ht, ht1, not_true_eq_false, not_false_eq_true, decide_true, decide_false, gaE, er]
    repeat refine And.intro (by omega) ?_
    exact rfl
  simp only [↓gaW, ↓gaV, ↓gaC, ↓gaN, gaP, Nat.reduceEqDiff, Nat.reduceLeDiff, Nat.reduceAdd, Nat.reduceSub, Nat.reduceMul, Int.reduceLT, Int.reduceLE, Int.reduceEq, Int.reduceToNat, Int.reduceAdd, Int.reduceSub, Int.reduceMul, reduceCtorEq, ↓reduceIte, List.getD_cons_zero, List.getD_cons_succ, hb2, r3, ct, t0, ht, ht1, not_true_eq_false, decide_true, decide_false]
  repeat refine And.intro (by omega) ?_
  refine callK_of (ct_Uint M0 (by omega)) (fun v x5 g5 l5 k5 hC => ?_) (by omega)
  subst hC
  have F5 : ∀ p, p < nx → g5 p = gt p := fun p hp => by rw [k5 p (by omega), F2 p hp]
  have hb5 : g5 x1 = some (.cells (nodeL y.t B m d (some a) 2 c0) false) := by rw [k5 x1 (by omega), hb2]
  have r35 : g5 a.block = some (.cells cl ro) := by rw [k5 _ r2, r3]
  have M5 := M1.keep (x' := x5) (g := g5) l5 k5
  clear k5
  simp only [↓gaW, ↓gaV, ↓gaC, ↓gaN, gaP, Nat.reduceEqDiff, Nat.reduceLeDiff, Nat.reduceAdd, Nat.reduceSub, Nat.reduceMul, Int.reduceLT, Int.reduceLE, Int.reduceEq, Int.reduceToNat, Int.reduceAdd, Int.reduceSub, Int.reduceMul, reduceCtorEq, ↓reduceIte]
  repeat refine And.intro (by omega) ?_
  by_cases he : (((uintR (Vr.kid y.k 0)).2 : Nat) : Int) = 0
  case neg =>
    have er := bad fun h => he (by rw [h.2.2.2.1]; rfl)
    simp only [↓gaW, ↓gaV, ↓gaC, ↓gaN, gaP, Nat.reduceEqDiff, Nat.reduceLeDiff, Nat.reduceAdd, Nat.reduceSub, Nat.reduceMul, Int.reduceLT, Int.reduceLE, Int.reduceEq, Int.reduceToNat, Int.reduceAdd, Int.reduceSub, Int.reduceMul, reduceCtorEq, ↓reduceIte, he, not_false_eq_true, decide_true, gaE, er]
    exact ⟨by omega, F5, rfl⟩
  obtain ⟨w, hw⟩ : ∃ w, w = (uintR (Vr.kid y.k 0)).1 := ⟨_, rfl⟩
  have hwl : w < 18446744073709551616 := by rw [hw]; exact (Vr.uint_ok (by omega)).2
  have hsh : shrV .u64 (w : Int) 32 = ((w / 4294967296 : Nat) : Int) := shr_nat (k := .u64) w 32 (by decide)
  by_cases hbig : ((w / 4294967296 : Nat) : Int) = 0
  case neg =>
    have er := bad fun h => hbig (by have := h.2.2.2.2; rw [← hw] at this; omega)
    simp only [↓gaW, ↓gaV, ↓gaC, ↓gaN, gaP, Nat.reduceEqDiff, Nat.reduceLeDiff, Nat.reduceAdd, Nat.reduceSub, Nat.reduceMul, Int.reduceLT, Int.reduceLE, Int.reduceEq, Int.reduceToNat, Int.reduceAdd, Int.reduceSub, Int.reduceMul, reduceCtorEq, ↓reduceIte, he, ← hw, hsh, hbig, not_true_eq_false, decide_false, not_false_eq_true, decide_true, gaE, er]
    repeat refine And.intro (by omega) ?_
    exact rfl
  have hw32 : w < 4294967296 := by omega
  have eP : Vr.progR l = match Vr.goR (Vr.oneR (UInt32.ofNat w)) (Vr.kid y.k 1).k with
      | none => .error 2
      | some l => if Vr.right l then .ok l else .error 2 := by
    unfold Vr.progR
    rw [hrd]
    simp only
    rw [if_pos ⟨ht, by omega, ht1, by omega, by rw [← hw]; exact hw32⟩, ← hw]
    all_goals rfl
  simp only [↓gaW, ↓gaV, ↓gaC, ↓gaN, gaP, Nat.reduceEqDiff, Nat.reduceLeDiff, Nat.reduceAdd, Nat.reduceSub, Nat.reduceMul, Int.reduceLT, Int.reduceLE, Int.reduceEq, Int.reduceToNat, Int.reduceAdd, Int.reduceSub, Int.reduceMul, reduceCtorEq, ↓reduceIte, List.getD_cons_zero, List.getD_cons_succ, hb5, r35, ck, he, ← hw, hsh, hbig, not_true_eq_false, decide_false]
  repeat refine And.intro (by omega) ?_
  rw [eP]
  generalize hF : (Vr.kid y.k 1).k = Fk at *
  have hFk : FoR x5 g5 Fk ks4 := by rw [← hF]; exact M5.kids
  have hFl : n4 = Fk.len := by rw [← hF]; exact M5.len
  have hFw : Fk.ws ≤ 20000 := by
    have : (Vr.kid y.k 1).f.ws = 1 + (Vr.kid y.k 1).b.length + (Vr.kid y.k 1).k.ws := by simp only [Fo.El.f, Fo.ws]; omega
    rw [hF] at this; omega
  have hFn : n4 ≤ 20000 := by have := Fo.len_ws Fk; omega
  have hW : IntKind.u32.wrap (w : Int) = (w : Int) := by rw [u32_w]; omega
  have hW' : (Value.int .u32 (w : Nat)) = u32V (UInt32.ofNat w) := by
    rw [u32V, UInt32.toNat_ofNat', Nat.mod_eq_of_lt (by omega)]
  refine loop_of (fun j f mm => ∃ (i x : Nat) (g : Nat → Option Blk) (A7 : Option Addr) (l7 : List Vp) (pre post : Fo), j = n4 - i ∧ i ≤ n4 ∧ Fk = pre.app post ∧ pre.len = i ∧ Vr.goR (Vr.oneR (UInt32.ofNat w)) pre = some l7 ∧ l7.length = i ∧ (∀ v ∈ l7, v.wf) ∧
      f 6 = .int .u64 (w : Nat) ∧ f 7 = .slice A7 i i ∧ f 56 = .slice A4 n4 c4 ∧ f 57 = .int .i64 (n4 : Nat) ∧ f 58 = .int .i64 (i : Nat) ∧ mm = ⟨x, b, g⟩ ∧ x5 ≤ x ∧ (∀ p, p < x5 → g p = g5 p) ∧ Own x5 b x g 20 A7 i (vpsL l7)) n4 ?_ ?_
  · exact ⟨0, x5, g5, none, [], .nil, Fk, rfl, by omega, rfl, rfl, rfl, rfl, (fun _ h => nomatch h), (by first | (simp only [↓gaW, ↓gaV, ↓gaC, ↓gaN, gaP, Nat.reduceEqDiff, Nat.reduceLeDiff, Nat.reduceAdd, Nat.reduceSub, Nat.reduceMul, Int.reduceLT, Int.reduceLE, Int.reduceEq, Int.reduceToNat, Int.reduceAdd, Int.reduceSub, Int.reduceMul, reduceCtorEq, ↓reduceIte]; done) | (simp only [↓gaW, ↓gaV, ↓gaC, ↓gaN, gaP, Nat.reduceEqDiff, Nat.reduceLeDiff, Nat.reduceAdd, Nat.reduceSub, Nat.reduceMul, Int.reduceLT, Int.reduceLE, Int.reduceEq, Int.reduceToNat, Int.reduceAdd, Int.reduceSub, Int.reduceMul, reduceCtorEq, ↓reduceIte]; rfl)), (by first | (simp only [↓gaW, ↓gaV, ↓gaC, ↓gaN, gaP, Nat.reduceEqDiff, Nat.reduceLeDiff, Nat.reduceAdd, Nat.reduceSub, Nat.reduceMul, Int.reduceLT, Int.reduceLE, Int.reduceEq, Int.reduceToNat, Int.reduceAdd, Int.reduceSub, Int.reduceMul, reduceCtorEq, ↓reduceIte]; done) | (simp only [↓gaW, ↓gaV, ↓gaC, ↓gaN, gaP, Nat.reduceEqDiff, Nat.reduceLeDiff, Nat.reduceAdd, Nat.reduceSub, Nat.reduceMul, Int.reduceLT, Int.reduceLE, Int.reduceEq, Int.reduceToNat, Int.reduceAdd, Int.reduceSub, Int.reduceMul, reduceCtorEq, ↓reduceIte]; rfl)), (by first | (simp only [↓gaW, ↓gaV, ↓gaC, ↓gaN, gaP, Nat.reduceEqDiff, Nat.reduceLeDiff, Nat.reduceAdd, Nat.reduceSub, Nat.reduceMul, Int.reduceLT, Int.reduceLE, Int.reduceEq, Int.reduceToNat, Int.reduceAdd, Int.reduceSub, Int.reduceMul, reduceCtorEq, ↓reduceIte]; done) | (simp only [↓gaW, ↓gaV, ↓gaC, ↓gaN, gaP, Nat.reduceEqDiff, Nat.reduceLeDiff, Nat.reduceAdd, Nat.reduceSub, Nat.reduceMul, Int.reduceLT, Int.reduceLE, Int.reduceEq, Int.reduceToNat, Int.reduceAdd, Int.reduceSub, Int.reduceMul, reduceCtorEq, ↓reduceIte]; rfl)), (by first | (simp only [↓gaW, ↓gaV, ↓gaC, ↓gaN, gaP, Nat.reduceEqDiff, Nat.reduceLeDiff, Nat.reduceAdd, Nat.reduceSub, Nat.reduceMul, Int.reduceLT, Int.reduceLE, Int.reduceEq, Int.reduceToNat, Int.reduceAdd, Int.reduceSub, Int.reduceMul, reduceCtorEq, ↓reduceIte]; done) | (simp only [↓gaW, ↓gaV, ↓gaC, ↓gaN, gaP, Nat.reduceEqDiff, Nat.reduceLeDiff, Nat.reduceAdd, Nat.reduceSub, Nat.reduceMul, Int.reduceLT, Int.reduceLE, Int.reduceEq, Int.reduceToNat, Int.reduceAdd, Int.reduceSub, Int.reduceMul, reduceCtorEq, ↓reduceIte]; rfl)), (by first | (simp only [↓gaW, ↓gaV, ↓gaC, ↓gaN, gaP, Nat.reduceEqDiff, Nat.reduceLeDiff, Nat.reduceAdd, Nat.reduceSub, Nat.reduceMul, Int.reduceLT, Int.reduceLE, Int.reduceEq, Int.reduceToNat, Int.reduceAdd, Int.reduceSub, Int.reduceMul, reduceCtorEq, ↓reduceIte]; done) | (simp only [↓gaW, ↓gaV, ↓gaC, ↓gaN, gaP, Nat.reduceEqDiff, Nat.reduceLeDiff, Nat.reduceAdd, Nat.reduceSub, Nat.reduceMul, Int.reduceLT, Int.reduceLE, Int.reduceEq, Int.reduceToNat, Int.reduceAdd, Int.reduceSub, Int.reduceMul, reduceCtorEq, ↓reduceIte]; rfl)), rfl, Nat.le_refl _, fun _ _ => rfl, .nil⟩
  rintro j f mm ⟨i, x, g, A7, l7, pre, post, rfl, hi, eF, hpl, hgo, hll, hwf, f6, f7, f56, f57, f58, rfl, hx, F, hOwn⟩
  simp only [↓gaW, ↓gaV, ↓gaC, ↓gaN, gaP, Nat.reduceEqDiff, Nat.reduceLeDiff, Nat.reduceAdd, Nat.reduceSub, Nat.reduceMul, Int.reduceLT, Int.reduceLE, Int.reduceEq, Int.reduceToNat, Int.reduceAdd, Int.reduceSub, Int.reduceMul, reduceCtorEq, ↓reduceIte, f57, f58]
  refine condK_dec (fun hlt => ?_) fun hge => ?_
  · have hi' : i < n4 := by omega
    have Mx := M5.keep (x' := x) (g := g) hx F
    obtain ⟨a', cl', ro', rfl, s2, s3, s4, s5⟩ := Mx.row.cells (by omega)
    obtain ⟨z, pre', post', Bz, mz, dz, Az, nz, cz, kz, e1, e2, e3, e4⟩ := FoR.at (nx := x) (gt := g) (F := Fk) (cs := ks4) (i := i) (by rw [← hF]; exact Mx.kids) (by omega)
    have hpp : pre' = pre := (Fo.app_inj (e1.symm.trans eF) (by omega)).1
    subst hpp
    have tz := (Mx.row.load rfl s3 (j := i * 3) (k := 3) (by omega) (by omega)).trans e4
    have zw := Fo.ws_in e1
    have hz3 : ∀ (k : List Value) t B m d A n c, k.length = 3 → splice k 0 (nodeL t B m d A n c) = nodeL t B m d A n c := fun k t B m d A n c hk => by
      match k, hk with
      | [_, _, _], _ => rfl
    have hs3 : splice [Value.int .i64 0, .slice none 0 0, .slice none 0 0] 0 (nodeL z.t Bz mz dz Az nz cz) = nodeL z.t Bz mz dz Az nz cz := rfl
    have ht3 : (nodeL z.t Bz mz dz Az nz cz).take 3 = nodeL z.t Bz mz dz Az nz cz := rfl
    simp only [↓gaW, ↓gaV, ↓gaC, ↓gaN, gaP, Nat.reduceEqDiff, Nat.reduceLeDiff, Nat.reduceAdd, Nat.reduceSub, Nat.reduceMul, Int.reduceLT, Int.reduceLE, Int.reduceEq, Int.reduceToNat, Int.reduceAdd, Int.reduceSub, Int.reduceMul, reduceCtorEq, ↓reduceIte, f56, f58, s3, tz, hs3]
    repeat refine And.intro (by omega) ?_
    refine And.intro (node_cells _ _ _ _ _ _ _) ?_
    obtain ⟨g3, hg3⟩ : ∃ g', g' = upd (upd g x (some (.cells [Value.int .i64 0, .slice none 0 0, .slice none 0 0] false))) x (some (.cells (nodeL z.t Bz mz dz Az nz cz) false)) := ⟨_, rfl⟩
    have hp3 : g3 x = some (.cells (nodeL z.t Bz mz dz Az nz cz) false) := by rw [hg3]; simp only [upd_e, if_true]
    have F3 : ∀ p, p < x → g3 p = g p := fun p hp => by rw [hg3]; simp only [upd_e]; rw [if_neg (by omega), if_neg (by omega)]
    have hgg : upd (upd g x (some (Blk.cells [Value.int .i64 0, .slice none 0 0, .slice none 0 0] false))) x (some (.cells [Value.int .i64 z.t, .slice Bz mz dz, .slice Az nz cz] false)) = g3 := hg3.symm
    simp only [↓gaW, ↓gaV, ↓gaC, ↓gaN, gaP, Nat.reduceEqDiff, Nat.reduceLeDiff, Nat.reduceAdd, Nat.reduceSub, Nat.reduceMul, Int.reduceLT, Int.reduceLE, Int.reduceEq, Int.reduceToNat, Int.reduceAdd, Int.reduceSub, Int.reduceMul, reduceCtorEq, ↓reduceIte, hgg, hp3, f6, hW, hW', hs3, ht3, List.drop_zero]
    clear hg3 hgg
    repeat refine And.intro (by omega) ?_
    have e3' := e3.keep (x' := x + 1) (g := g3) (by omega) F3
    refine callK_of (ct_one (wa := UInt32.ofNat w) e3' (by omega)) (fun v x6 g6 l6 k6 hC => ?_) (by omega)
    obtain ⟨zr, hzr⟩ : ∃ zr : List Value, zr = [.int .u32 0, .bool false, .int .u8 0, .int .u8 0, .int .u8 0, .int .u8 0, .int .u8 0, .int .u8 0, .int .u8 0, .int .u8 0, .int .u8 0, .int .u8 0, .int .u8 0, .int .u8 0, .int .u8 0, .int .u8 0, .int .u8 0, .int .u8 0, .int .i64 0, .int .i64 0] := ⟨_, rfl⟩
    have hzl : zr.length = 20 := by rw [hzr]; rfl
    have hcv : ∀ v', cellsV (vpV v') = some (vpL v') := fun v' => rfl
    have hsp : ∀ v', v'.wf → splice zr 0 (vpL v') = vpL v' := fun v' hv => by
      unfold splice
      rw [List.take_zero, List.nil_append, Nat.zero_add, List.drop_of_length_le (by rw [hzl, vpL_len hv.a]; omega), List.append_nil]
    have hcl' : ∀ v', ∀ x ∈ vpL v', cellVal x = true := fun v' => vpL_cells v'
    have htk : ∀ v', v'.wf → (vpL v').take 20 = vpL v' := fun v' hv => List.take_of_length_le (by rw [vpL_len hv.a]; omega)
    cases ho : Vr.oneR (UInt32.ofNat w) z with
    | none =>
      rw [ho] at hC
      obtain ⟨v', hv', rfl⟩ := hC
      have eG : Vr.goR (Vr.oneR (UInt32.ofNat w)) Fk = none := by rw [e1]; exact Vr.goR_none hgo ho
      simp only [↓gaW, ↓gaV, ↓gaC, ↓gaN, gaP, Nat.reduceEqDiff, Nat.reduceLeDiff, Nat.reduceAdd, Nat.reduceSub, Nat.reduceMul, Int.reduceLT, Int.reduceLE, Int.reduceEq, Int.reduceToNat, Int.reduceAdd, Int.reduceSub, Int.reduceMul, reduceCtorEq, ↓reduceIte, eG, ← hzr, hcv, asO_e, hsp _ hv', vpL_len hv'.a]
      repeat refine And.intro (by omega) ?_
      refine And.intro (vpL_cells _) ?_
      simp only [↓gaW, ↓gaV, ↓gaC, ↓gaN, gaP, Nat.reduceEqDiff, Nat.reduceLeDiff, Nat.reduceAdd, Nat.reduceSub, Nat.reduceMul, Int.reduceLT, Int.reduceLE, Int.reduceEq, Int.reduceToNat, Int.reduceAdd, Int.reduceSub, Int.reduceMul, reduceCtorEq, ↓reduceIte, gaE]
      exact ⟨by omega, fun p hp => by rw [if_neg (by omega), if_neg (by omega), k6 p (by omega), F3 p (by omega), F p (by omega), F5 p hp], rfl⟩
    | some v' =>
      rw [ho] at hC
      obtain ⟨hv', rfl⟩ := hC
      simp only [↓gaW, ↓gaV, ↓gaC, ↓gaN, gaP, Nat.reduceEqDiff, Nat.reduceLeDiff, Nat.reduceAdd, Nat.reduceSub, Nat.reduceMul, Int.reduceLT, Int.reduceLE, Int.reduceEq, Int.reduceToNat, Int.reduceAdd, Int.reduceSub, Int.reduceMul, reduceCtorEq, ↓reduceIte, ← hzr, hcv, asO_e, hsp _ hv', vpL_len hv'.a]
      repeat refine And.intro (by omega) ?_
      refine And.intro (vpL_cells _) ?_
      have hlit : Row (x6 + 1 + 1) (upd (upd (upd g6 x6 (some (.cells zr false))) x6 (some (.cells (vpL v') false))) (x6 + 1) (some (.cells (vpL v') false))) 20 (some ⟨x6 + 1, 0, none⟩) 20 (vpL v') := Row.lit (ro := false) (by omega) (by simp only [upd_e, if_true]) (vpL_len hv'.a)
      simp only [↓gaW, ↓gaV, ↓gaC, ↓gaN, gaP, Nat.reduceEqDiff, Nat.reduceLeDiff, Nat.reduceAdd, Nat.reduceSub, Nat.reduceMul, Int.reduceLT, Int.reduceLE, Int.reduceEq, Int.reduceToNat, Int.reduceAdd, Int.reduceSub, Int.reduceMul, reduceCtorEq, ↓reduceIte, fillL, List.drop_zero, htk _ hv', hcv, hsp _ hv', f7, f58, asO_e]
      rw [if_pos ⟨vpL_len hv'.a, by omega⟩]
      simp only [asO_e, hlit.rowOf]
      obtain ⟨g7, hg7⟩ : ∃ g', g' = upd (upd (upd g6 x6 (some (.cells zr false))) x6 (some (.cells (vpL v') false))) (x6 + 1) (some (.cells (vpL v') false)) := ⟨_, rfl⟩
      have F7 : ∀ p, p < x → g7 p = g p := fun p hp => by rw [hg7]; simp only [upd_e]; rw [if_neg (by omega), if_neg (by omega), if_neg (by omega), k6 p (by omega), F3 p hp]
      rw [← hg7]
      clear hg7 hlit
      refine own_append (nx := x5) (hOwn.keep (x' := x6 + 1 + 1) (by omega) F7) (by omega) (by omega) (by omega) (by omega) (vpL_len hv'.a) (vpL_cells _) (by omega) (by omega) fun g8 F8 hOwn8 => ?_
      simp only [↓gaW, ↓gaV, ↓gaC, ↓gaN, gaP, Nat.reduceEqDiff, Nat.reduceLeDiff, Nat.reduceAdd, Nat.reduceSub, Nat.reduceMul, Int.reduceLT, Int.reduceLE, Int.reduceEq, Int.reduceToNat, Int.reduceAdd, Int.reduceSub, Int.reduceMul, reduceCtorEq, ↓reduceIte, loopK_n, i64_w ((i : Int) + 1) (by omega)]
      refine ⟨n4 - (i + 1), by omega, i + 1, x6 + 1 + 1 + 1, g8, some ⟨x6 + 1 + 1, 0, some 20⟩, l7 ++ [v'], pre'.app z.f, post', rfl, by omega, ?_, ?_, Vr.goR_snoc hgo ho, by simp [hll], ?_, ?_, ?_, ?_, ?_, ?_, rfl, by omega, fun p hp => by rw [F8 p hp, F7 p (by omega), F p hp], ?_⟩
      · rw [← Fo.app_one]; exact e1
      · rw [Fo.len_app, hpl]; rfl
      · intro u hu
        rcases List.mem_append.1 hu with h | h
        · exact hwf u h
        · rw [List.mem_singleton.1 h]; exact hv'
      · simp only [↓gaW, ↓gaV, ↓gaC, ↓gaN, gaP, Nat.reduceEqDiff, Nat.reduceLeDiff, Nat.reduceAdd, Nat.reduceSub, Nat.reduceMul, Int.reduceLT, Int.reduceLE, Int.reduceEq, Int.reduceToNat, Int.reduceAdd, Int.reduceSub, Int.reduceMul, reduceCtorEq, ↓reduceIte, f6]
      · rfl
      · simp only [↓gaW, ↓gaV, ↓gaC, ↓gaN, gaP, Nat.reduceEqDiff, Nat.reduceLeDiff, Nat.reduceAdd, Nat.reduceSub, Nat.reduceMul, Int.reduceLT, Int.reduceLE, Int.reduceEq, Int.reduceToNat, Int.reduceAdd, Int.reduceSub, Int.reduceMul, reduceCtorEq, ↓reduceIte, f56]
      · simp only [↓gaW, ↓gaV, ↓gaC, ↓gaN, gaP, Nat.reduceEqDiff, Nat.reduceLeDiff, Nat.reduceAdd, Nat.reduceSub, Nat.reduceMul, Int.reduceLT, Int.reduceLE, Int.reduceEq, Int.reduceToNat, Int.reduceAdd, Int.reduceSub, Int.reduceMul, reduceCtorEq, ↓reduceIte, f57]
      · rfl
      · rw [vpsL_app]
        simpa only [vpsL, List.append_nil] using hOwn8
  · have hin : i = n4 := by omega
    subst hin
    have hpF := (Fo.app_end eF (by omega)).1
    subst hpF
    simp only [↓gaW, ↓gaV, ↓gaC, ↓gaN, gaP, Nat.reduceEqDiff, Nat.reduceLeDiff, Nat.reduceAdd, Nat.reduceSub, Nat.reduceMul, Int.reduceLT, Int.reduceLE, Int.reduceEq, Int.reduceToNat, Int.reduceAdd, Int.reduceSub, Int.reduceMul, reduceCtorEq, ↓reduceIte, f7, hgo]
    refine callK_of (ct_VRight (l := l7) ⟨hOwn.row, hll, hwf⟩ (Nat.le_refl _) (by omega)) (fun v x6 g6 l6 k6 hC => ?_) (by omega)
    subst hC
    cases hR : Vr.right l7 with
    | false =>
      simp only [↓gaW, ↓gaV, ↓gaC, ↓gaN, gaP, Nat.reduceEqDiff, Nat.reduceLeDiff, Nat.reduceAdd, Nat.reduceSub, Nat.reduceMul, Int.reduceLT, Int.reduceLE, Int.reduceEq, Int.reduceToNat, Int.reduceAdd, Int.reduceSub, Int.reduceMul, reduceCtorEq, ↓reduceIte, gaE, Bool.not_false]
      exact ⟨by omega, fun p hp => by rw [k6 p (by omega), F p (by omega), F5 p hp], rfl⟩
    | true =>
      simp only [↓gaW, ↓gaV, ↓gaC, ↓gaN, gaP, Nat.reduceEqDiff, Nat.reduceLeDiff, Nat.reduceAdd, Nat.reduceSub, Nat.reduceMul, Int.reduceLT, Int.reduceLE, Int.reduceEq, Int.reduceToNat, Int.reduceAdd, Int.reduceSub, Int.reduceMul, reduceCtorEq, ↓reduceIte, gaE, Bool.not_true]
      exact ⟨by omega, fun p hp => by rw [k6 p (by omega), F p (by omega), F5 p hp], _, _, by rw [f7], ⟨hOwn.row.keep l6 k6, hll, hwf⟩⟩
end
end Go.Ga

namespace Go.Ga
open Go Go.Proofs
set_option maxRecDepth 100000
namespace Vr
def v0 : Vp := ⟨7, false, [10, 0, 0, 0, 0, 0, 0, 0, 0, 0, 0, 0, 0, 0, 0, 0], 8, 24⟩
theorem v0_wf : v0.wf := ⟨rfl, by decide, by decide⟩
theorem right_one (v : Vp) : right [v] = one v := by
  have e : at' [v] 0 = v := rfl
  unfold right
  simp [stepR, e]
theorem right_nil : right [] = false := rfl
theorem make_one {v : Vp} (hv : v.wf) (h1 : one v = true) : ∃ b, makeR [v] = .ok b ∧ Fo.rd b = .ok (roaE [v]) := by
  obtain ⟨hok, hl, hm⟩ := one_ok h1
  have hmx := hv.mx
  have hws := roa_ws (l := [v]) fun w hw => by
    rw [List.mem_singleton.1 hw]; exact ⟨hv.a, by omega⟩
  have hbs := Fo.bs_ws (roaE [v]).f
  simp only [List.length_singleton] at hws
  have lf : ∀ (t : Int) (l : List UInt8), 0 ≤ t → t < 31 → (Fo.El.f ⟨t, l, .nil⟩).rs ∧ (Fo.El.f ⟨t, l, .nil⟩).ds = 1 := fun t l h1 h2 => by
    have hh : Fo.has t = false := by unfold Fo.has; rw [decide_eq_false_iff_not]; omega
    exact ⟨⟨⟨(show Fo.tag t by unfold Fo.tag; omega), (fun h => by rw [show Fo.has (Fo.El.t ⟨t, l, .nil⟩) = false from hh] at h; cases h), fun _ => rfl⟩, trivial, trivial⟩, by simp [Fo.El.f, Fo.ds, hh]⟩
  have rI : ∀ n, n < 18446744073709551616 → (intN n).f.rs ∧ (intN n).f.ds = 1 := fun n hn => by
    obtain ⟨k, _, h⟩ := intN_is hn
    rw [h]
    exact lf _ _ (by omega) (by omega)
  have rB : (boolE v.v6).f.rs ∧ (boolE v.v6).f.ds = 1 := lf _ _ (by omega) (by omega)
  have rS : (bitE v).f.rs ∧ (bitE v).f.ds = 1 := lf _ _ (by omega) (by omega)
  have sq : ∀ f : Fo, f.rs → (Fo.El.f ⟨48, [], f⟩).rs ∧ (Fo.El.f ⟨48, [], f⟩).ds = f.ds + 1 := fun f hf =>
    ⟨⟨⟨(show Fo.tag 48 by unfold Fo.tag; omega), (fun _ => rfl), fun h => by cases h⟩, hf, trivial⟩, by simp [Fo.El.f, Fo.ds, show Fo.has 48 = true by decide]⟩
  obtain ⟨i1, i2⟩ := rI v.mx.toNat (by omega)
  obtain ⟨a1, a2⟩ := rI v.asn.toNat (by have := v.asn.toNat_lt; omega)
  obtain ⟨e1, e2⟩ := sq ((boolE v.v6).f.app ((bitE v).f.app (intN v.mx.toNat).f)) ((Fo.rs_app _ _).2 ⟨rB.1, (Fo.rs_app _ _).2 ⟨rS.1, i1⟩⟩)
  have e2' : (entE v).f.ds = 2 := by
    show (Fo.El.f ⟨48, [], _⟩).ds = _
    rw [e2, Fo.ds_app, Fo.ds_app, rB.2, rS.2, i2]; rfl
  have l1 : (listF [v]).rs ∧ (listF [v]).ds = 2 := by
    rw [show listF [v] = (entE v).f.app .nil from rfl, Fo.app_nil]
    exact ⟨e1, e2'⟩
  obtain ⟨s1, s2⟩ := sq (listF [v]) l1.1
  obtain ⟨t1, t2⟩ := sq ((intN v.asn.toNat).f.app (inE [v]).f) ((Fo.rs_app _ _).2 ⟨a1, s1⟩)
  have t2' : (roaE [v]).f.ds = 4 := by
    show (Fo.El.f ⟨48, [], _⟩).ds = _
    have : (inE [v]).f.ds = 3 := s2.trans (by rw [l1.2])
    rw [show (at' [v] 0).asn.toNat = v.asn.toNat from rfl, t2, Fo.ds_app, a2, this]; rfl
  have hw := Fo.wr_of (x := roaE [v]) t1 (by omega) (by omega)
  exact ⟨_, by unfold makeR; rw [right_one, h1, if_pos rfl]; exact hw, Fo.rd_wr hw⟩
theorem one_v0 : one v0 = true := by decide +kernel
end Vr
theorem VpR.lit {x q : Nat} {g : Nat → Option Blk} {ro : Bool} {v : Vp} (hv : v.wf) (hq : q < x) (hg : g q = some (.cells (vpL v) ro)) : VpR x g (some ⟨q, 0, none⟩) 1 [v] :=
  ⟨by
    have := Row.lit (e := 20) hq hg (vpL_len hv.a)
    simpa only [vpsL, List.append_nil, Nat.one_mul] using this, rfl, fun w hw => by rw [List.mem_singleton.1 hw]; exact hv⟩
end Go.Ga

namespace Go.Ga
open Go Go.Proofs
set_option maxRecDepth 100000
section
variable {nx : Nat} {gt : Nat → Option Blk}
theorem ct_awake : Ct Tryd.prog 8 [] nx gt fun r _ _ => r = .bool true := by
  refine Ct.of hmx r_lanyardlaw18_awake (by simp [c_lanyardlaw18_awake]) fun b hb => ?_
  obtain ⟨bs, hmk, hrd⟩ := Vr.make_one Vr.v0_wf Vr.one_v0
  have hpr : Vr.progR bs = .ok [Vr.v0] := Vr.prog_of (fun v hv => by rw [List.mem_singleton.1 hv]; rfl) (by rw [Vr.right_one]; exact Vr.one_v0) hrd
  have hf1 : ∀ F : Regs, fillL ([.int .u8 0, .int .u8 0, .int .u8 0, .int .u8 0, .int .u8 0, .int .u8 0, .int .u8 0, .int .u8 0, .int .u8 0, .int .u8 0, .int .u8 0, .int .u8 0, .int .u8 0, .int .u8 0, .int .u8 0, .int .u8 0] : List Value) F [(0, 1, .k (.int .u8 10))] = some (Vr.v0.a.map u8V) := fun F => rfl
  have hf2 : ∀ F : Regs, fillL ([.bool false, .int .u8 0, .int .u8 0, .int .u8 0, .int .u8 0, .int .u8 0, .int .u8 0, .int .u8 0, .int .u8 0, .int .u8 0, .int .u8 0, .int .u8 0, .int .u8 0, .int .u8 0, .int .u8 0, .int .u8 0, .int .u8 0, .int .i64 0] : List Value) (putR F (some 6) (.agg (Vr.v0.a.map u8V).toArray)) [(1, 16, .t 6), (17, 1, .k (.int .i64 8))] = some (pxL Vr.v0.v6 Vr.v0.a Vr.v0.len) := fun F => rfl
  have hf3 : ∀ F : Regs, fillL ([.int .u32 0, .bool false, .int .u8 0, .int .u8 0, .int .u8 0, .int .u8 0, .int .u8 0, .int .u8 0, .int .u8 0, .int .u8 0, .int .u8 0, .int .u8 0, .int .u8 0, .int .u8 0, .int .u8 0, .int .u8 0, .int .u8 0, .int .u8 0, .int .i64 0, .int .i64 0] : List Value) (putR F (some 7) (.agg (pxL Vr.v0.v6 Vr.v0.a Vr.v0.len).toArray)) [(0, 1, .k (.int .u32 7)), (1, 18, .t 7), (19, 1, .k (.int .i64 24))] = some (vpL Vr.v0) := fun F => rfl
  have hf4 : ∀ F : Regs, fillL ([.int .u32 0, .bool false, .int .u8 0, .int .u8 0, .int .u8 0, .int .u8 0, .int .u8 0, .int .u8 0, .int .u8 0, .int .u8 0, .int .u8 0, .int .u8 0, .int .u8 0, .int .u8 0, .int .u8 0, .int .u8 0, .int .u8 0, .int .u8 0, .int .i64 0, .int .i64 0] : List Value) (putR F (some 8) (.agg (vpL Vr.v0).toArray)) [(0, 20, .t 8)] = some (vpL Vr.v0) := fun F => rfl
  simp only [c_lanyardlaw18_awake, ↓gaW, ↓gaV, ↓gaC, ↓gaN, gaP, simprocAttr, hf1, hf2, hf3, hf4, asO_e]
  have hg1 : upd gt nx (some (.cells (vpL Vr.v0) false)) nx = some (.cells (vpL Vr.v0) false) := by simp only [upd_e, if_true]
  have F1 : ∀ p, p < nx → upd gt nx (some (.cells (vpL Vr.v0) false)) p = gt p := fun p hp => by simp only [upd_e]; rw [if_neg (by omega)]
  refine callK_of (ct_Make (l := [Vr.v0]) (VpR.lit Vr.v0_wf (by omega) hg1) (Nat.le_refl _) (by omega)) (fun v x2 g2 l2 k2 hC => ?_) (by omega)
  rw [hmk] at hC
  obtain ⟨A2, N2, rfl, hl2, r2⟩ := hC
  have F2 : ∀ p, p < nx → g2 p = gt p := fun p hp => by rw [k2 p (by omega), F1 p hp]
  have hN2 : N2 ≤ 1000000 := by
    have h1 := Fo.wr_ok (Fo.wr_rd hrd)
    have h2 := Fo.ly_bs h1.1
    rw [← hl2, h1.2.2.2, h2]; omega
  simp only [↓gaW, ↓gaV, ↓gaC, ↓gaN, gaP, simprocAttr, List.getD_cons_zero, List.getD_cons_succ, fillL, splice, List.take_zero, List.drop_zero, List.drop_succ_cons, List.take_succ_cons, List.drop_nil, List.take_nil]
  repeat refine And.intro (by omega) ?_
  refine callK_of (ct_RRead (l := bs) r2 (Nat.le_refl _) hN2) (fun v x3 g3 l3 k3 hC => ?_) (by omega)
  rw [hpr] at hC
  obtain ⟨A3, N3, rfl, r3⟩ := hC
  have F3 : ∀ p, p < nx → g3 p = gt p := fun p hp => by rw [k3 p (by omega), F2 p hp]
  obtain rfl : N3 = 1 := r3.len.symm
  obtain ⟨a, cl, ro, rfl, e2, e3, e4, e5, e6⟩ := r3.at (by omega)
  have c0 := e6 0 0 (by omega) (by omega)
  have c1 := e6 0 19 (by omega) (by omega)
  have c2 := e6 0 2 (by omega) (by omega)
  rw [show (vpL (Vr.at' [Vr.v0] 0)).getD 0 undef = .int .u32 7 from rfl] at c0
  rw [show (vpL (Vr.at' [Vr.v0] 0)).getD 19 undef = .int .i64 24 from rfl] at c1
  rw [show (vpL (Vr.at' [Vr.v0] 0)).getD 2 undef = .int .u8 10 from rfl] at c2
  simp only [Nat.zero_mul, Nat.add_zero] at c0 c1 c2
  simp only [↓gaW, ↓gaV, ↓gaC, ↓gaN, gaP, simprocAttr, List.getD_cons_zero, List.getD_cons_succ, fillL, splice, List.take_zero, List.drop_zero, List.drop_succ_cons, List.take_succ_cons, List.drop_nil, List.take_nil, gaE, e3, c0, c1, c2]
  repeat refine And.intro (by omega) ?_
  exact F3
end
end Go.Ga

namespace Go.Ga
open Go Go.Proofs
set_option maxRecDepth 100000
namespace Vr
theorem right_two {v w : Vp} (h : w.asn ≠ v.asn) : right [v, w] = false := by
  cases hr : right [v, w] with
  | false => rfl
  | true => exact absurd (right_as hr (i := 1) (by simp)) h
theorem right_dup (v : Vp) : right [v, v] = false := by
  cases hr : right [v, v] with
  | false => rfl
  | true =>
    simp only [right, Bool.and_eq_true, List.all_eq_true] at hr
    have h1 := hr.1 1 (List.mem_range.2 (by simp))
    simp only [stepR, Bool.and_eq_true, Bool.or_eq_true, decide_eq_true_eq] at h1
    have h2 := h1.2.2
    have e : cmp (at' [v, v] (1 - 1)) (at' [v, v] 1) = 0 := (ord_cmp.eq v v).2 rfl
    rw [e] at h2
    omega
def up (v : Vp) : Vp := ⟨v.asn + 1, v.v6, v.a, v.len, v.mx⟩
theorem up_ne (v : Vp) : (up v).asn ≠ v.asn := by
  show v.asn + 1 ≠ v.asn
  intro h
  have := congrArg UInt32.toNat h
  rw [UInt32.toNat_add] at this
  have := v.asn.toNat_lt
  have : (1 : UInt32).toNat = 1 := rfl
  omega
end Vr
theorem VpR.lit2 {x q : Nat} {g : Nat → Option Blk} {ro : Bool} {v w : Vp} (hv : v.wf) (hw : w.wf) (hq : q < x) (hg : g q = some (.cells (vpL v ++ vpL w) ro)) : VpR x g (some ⟨q, 0, none⟩) 2 [v, w] :=
  ⟨by
    have := Row.lit (e := 20) (N := 40) hq hg (by rw [List.length_append, vpL_len hv.a, vpL_len hw.a])
    simpa only [vpsL, List.append_nil] using this, rfl, fun u hu => by
      rcases List.mem_cons.1 hu with rfl | hu
      · exact hv
      · rw [List.mem_singleton.1 hu]; exact hw⟩
section
variable {nx : Nat} {gt : Nat → Option Blk}
theorem ct_RoaOne {v : Vp} (hv : v.wf) : Ct Tryd.prog 7 [vpV v] nx gt fun r _ _ => r = .bool true := by
  refine Ct.of hmx r_lanyardlaw18_RoaOne (by simp [c_lanyardlaw18_RoaOne]) fun b hb => ?_
  have hup : (Vr.up v).wf := ⟨hv.a, hv.len, hv.mx⟩
  have tv : (vpL v).take 20 = vpL v := List.take_of_length_le (by rw [vpL_len hv.a]; omega)
  have tw : (vpL (Vr.up v)).take 20 = vpL (Vr.up v) := List.take_of_length_le (by rw [vpL_len hup.a]; omega)
  have hspl : splice [.int .u32 0, .bool false, .int .u8 0, .int .u8 0, .int .u8 0, .int .u8 0, .int .u8 0, .int .u8 0, .int .u8 0, .int .u8 0, .int .u8 0, .int .u8 0, .int .u8 0, .int .u8 0, .int .u8 0, .int .u8 0, .int .u8 0, .int .u8 0, .int .i64 0, .int .i64 0] 0 (vpL v) = vpL v := by
    unfold splice
    rw [List.take_zero, List.nil_append, Nat.zero_add, List.drop_of_length_le (by rw [vpL_len hv.a]; simp), List.append_nil]
  have hup1 : splice (vpL v) 0 [.int .u32 ((v.asn + 1).toNat : Nat)] = vpL (Vr.up v) := rfl
  have was : IntKind.u32.wrap ((v.asn.toNat : Int) + 1) = (((v.asn + 1).toNat : Nat) : Int) := by
    rw [u32_w, UInt32.toNat_add, show (1 : UInt32).toNat = 1 from rfl]; omega
  have f1 : ∀ (F : Regs) (i : Nat), F i = vpV v → fillL [.int .u32 0, .bool false, .int .u8 0, .int .u8 0, .int .u8 0, .int .u8 0, .int .u8 0, .int .u8 0, .int .u8 0, .int .u8 0, .int .u8 0, .int .u8 0, .int .u8 0, .int .u8 0, .int .u8 0, .int .u8 0, .int .u8 0, .int .u8 0, .int .i64 0, .int .i64 0] F [(0, 20, .t i)] = some (vpL v) := fun F i h => by
    unfold fillL
    rw [show Rv.ev F (.t i) = F i from rfl, h, cv_vp]
    simp only
    rw [if_pos ⟨vpL_len hv.a, by simp⟩, hspl]
    rfl
  have f2 : ∀ (F : Regs) (i j : Nat) (w : Vp), w.wf → F i = vpV v → F j = vpV w → fillL [.int .u32 0, .bool false, .int .u8 0, .int .u8 0, .int .u8 0, .int .u8 0, .int .u8 0, .int .u8 0, .int .u8 0, .int .u8 0, .int .u8 0, .int .u8 0, .int .u8 0, .int .u8 0, .int .u8 0, .int .u8 0, .int .u8 0, .int .u8 0, .int .i64 0, .int .i64 0, .int .u32 0, .bool false, .int .u8 0, .int .u8 0, .int .u8 0, .int .u8 0, .int .u8 0, .int .u8 0, .int .u8 0, .int .u8 0, .int .u8 0, .int .u8 0, .int .u8 0, .int .u8 0, .int .u8 0, .int .u8 0, .int .u8 0, .int .u8 0, .int .i64 0, .int .i64 0] F [(0, 20, .t i), (20, 20, .t j)] = some (vpL v ++ vpL w) := fun F i j w hw h h' => by
    have e1 : splice [.int .u32 0, .bool false, .int .u8 0, .int .u8 0, .int .u8 0, .int .u8 0, .int .u8 0, .int .u8 0, .int .u8 0, .int .u8 0, .int .u8 0, .int .u8 0, .int .u8 0, .int .u8 0, .int .u8 0, .int .u8 0, .int .u8 0, .int .u8 0, .int .i64 0, .int .i64 0, .int .u32 0, .bool false, .int .u8 0, .int .u8 0, .int .u8 0, .int .u8 0, .int .u8 0, .int .u8 0, .int .u8 0, .int .u8 0, .int .u8 0, .int .u8 0, .int .u8 0, .int .u8 0, .int .u8 0, .int .u8 0, .int .u8 0, .int .u8 0, .int .i64 0, .int .i64 0] 0 (vpL v) = vpL v ++ [.int .u32 0, .bool false, .int .u8 0, .int .u8 0, .int .u8 0, .int .u8 0, .int .u8 0, .int .u8 0, .int .u8 0, .int .u8 0, .int .u8 0, .int .u8 0, .int .u8 0, .int .u8 0, .int .u8 0, .int .u8 0, .int .u8 0, .int .u8 0, .int .i64 0, .int .i64 0] := by
      unfold splice
      rw [List.take_zero, List.nil_append, Nat.zero_add, vpL_len hv.a]; rfl
    have e2 : splice (vpL v ++ [.int .u32 0, .bool false, .int .u8 0, .int .u8 0, .int .u8 0, .int .u8 0, .int .u8 0, .int .u8 0, .int .u8 0, .int .u8 0, .int .u8 0, .int .u8 0, .int .u8 0, .int .u8 0, .int .u8 0, .int .u8 0, .int .u8 0, .int .u8 0, .int .i64 0, .int .i64 0]) 20 (vpL w) = vpL v ++ vpL w := by
      unfold splice
      rw [List.take_append_of_le_length (by rw [vpL_len hv.a]; omega), tv, List.drop_of_length_le (by rw [List.length_append, vpL_len hv.a, vpL_len hw.a]; simp), List.append_nil]
    unfold fillL
    rw [show Rv.ev F (.t i) = F i from rfl, h, cv_vp]
    simp only
    rw [if_pos ⟨vpL_len hv.a, by simp⟩, e1]
    unfold fillL
    rw [show Rv.ev F (.t j) = F j from rfl, h', cv_vp]
    simp only
    rw [if_pos ⟨vpL_len hw.a, by rw [List.length_append, vpL_len hv.a]; simp⟩, e2]
    rfl
  simp only [c_lanyardlaw18_RoaOne, ↓gaW, ↓gaV, ↓gaC, ↓gaN, gaP, simprocAttr, cv_vp]
  obtain ⟨g2, hg2⟩ : ∃ g', g' = upd gt nx (some (.cells (vpL v) false)) := ⟨_, rfl⟩
  have ha2 : g2 nx = some (.cells (vpL v) false) := by rw [hg2]; simp only [upd_e, if_true]
  have F2 : ∀ p, p < nx → g2 p = gt p := fun p hp => by rw [hg2]; simp only [upd_e]; rw [if_neg (by omega)]
  simp only [← hg2]
  clear hg2
  refine callK_of ct_awake (fun r x3 g3 l3 k3 hC => ?_) (by omega)
  subst hC
  have ha3 : g3 nx = some (.cells (vpL v) false) := by rw [k3 nx (by omega), ha2]
  have F3 : ∀ p, p < nx → g3 p = gt p := fun p hp => by rw [k3 p (by omega), F2 p hp]
  have hnx : (nx = x3) = False := by simp; omega
  simp only [↓gaW, ↓gaV, ↓gaC, ↓gaN, gaP, simprocAttr, ha3, tv, List.drop_zero, vpL_len hv.a, hspl, hnx, vpL_0, u32V, was, hup1]
  repeat refine And.intro (by omega) ?_
  refine And.intro (vpL_cells _) ?_
  repeat refine And.intro (by omega) ?_
  refine And.intro (all1 rfl) ?_
  repeat refine And.intro (by omega) ?_
  obtain ⟨g4, hg4⟩ : ∃ g', g' = upd (upd (upd g3 x3 (some (.cells [.int .u32 0, .bool false, .int .u8 0, .int .u8 0, .int .u8 0, .int .u8 0, .int .u8 0, .int .u8 0, .int .u8 0, .int .u8 0, .int .u8 0, .int .u8 0, .int .u8 0, .int .u8 0, .int .u8 0, .int .u8 0, .int .u8 0, .int .u8 0, .int .i64 0, .int .i64 0] false))) x3 (some (.cells (vpL v) false))) x3 (some (.cells (vpL (Vr.up v)) false)) := ⟨_, rfl⟩
  have hb4 : g4 x3 = some (.cells (vpL (Vr.up v)) false) := by rw [hg4]; simp only [upd_e, if_true]
  have F4 : ∀ p, p < x3 → g4 p = g3 p := fun p hp => by rw [hg4]; simp only [upd_e]; rw [if_neg (by omega), if_neg (by omega), if_neg (by omega)]
  rw [← hg4]
  clear hg4
  refine callK_of (ct_One hv) (fun r x5 g5 l5 k5 hC => ?_) (by omega)
  subst hC
  have ha5 : g5 nx = some (.cells (vpL v) false) := by rw [k5 nx (by omega), F4 nx (by omega), ha3]
  have hb5 : g5 x3 = some (.cells (vpL (Vr.up v)) false) := by rw [k5 x3 (by omega), hb4]
  have F5 : ∀ p, p < nx → g5 p = gt p := fun p hp => by rw [k5 p (by omega), F4 p (by omega), F3 p hp]
  simp only [↓gaW, ↓gaV, ↓gaC, ↓gaN, gaP, simprocAttr, ha5, hb5, tv, List.drop_zero, vpL_len hv.a]
  repeat refine And.intro (by omega) ?_
  rw [f1 _ 17 (by first | (simp only [↓gaW, ↓gaV, ↓gaC, ↓gaN, gaP, simprocAttr]; done) | (simp only [↓gaW, ↓gaV, ↓gaC, ↓gaN, gaP, simprocAttr]; rfl))]
  simp only [asO_e]
  have one : ∀ (q x : Nat) (g : Nat → Option Blk) (cs : List Value), q < x → upd g q (some (.cells cs false)) q = some (.cells cs false) := fun q x g cs hq => by simp only [upd_e, if_true]
  refine callK_of (ct_Make (l := [v]) (VpR.lit hv (by omega) (one x5 (x5 + 1) _ _ (by omega))) (Nat.le_refl _) (by omega)) (fun r x6 g6 l6 k6 hC => ?_) (by omega)
  obtain ⟨s, E, rfl, hE⟩ : ∃ (s : Value) (E : Nat), r = .tuple #[s, .int .i64 (E : Nat)] ∧ (decide ((E : Int) = 0) == Vr.one v) = true := by
    cases h1 : Vr.one v with
    | false =>
      have : Vr.makeR [v] = .error 1 := by unfold Vr.makeR; rw [Vr.right_one, h1]; rfl
      rw [this] at hC
      exact ⟨_, 1, hC, rfl⟩
    | true =>
      obtain ⟨bs, h2, _⟩ := Vr.make_one hv h1
      rw [h2] at hC
      obtain ⟨A2, N2, rfl, _⟩ := hC
      exact ⟨_, 0, rfl, rfl⟩
  have ha6 : g6 nx = some (.cells (vpL v) false) := by rw [k6 nx (by omega)]; simp only [upd_e]; rw [if_neg (by omega), ha5]
  have hb6 : g6 x3 = some (.cells (vpL (Vr.up v)) false) := by rw [k6 x3 (by omega)]; simp only [upd_e]; rw [if_neg (by omega), hb5]
  have F6 : ∀ p, p < nx → g6 p = gt p := fun p hp => by rw [k6 p (by omega)]; simp only [upd_e]; rw [if_neg (by omega), F5 p hp]
  simp only [↓gaW, ↓gaV, ↓gaC, ↓gaN, gaP, simprocAttr, ha6, hb6, tv, List.drop_zero, vpL_len hv.a]
  repeat refine And.intro (by omega) ?_
  rw [f1 _ 24 (by first | (simp only [↓gaW, ↓gaV, ↓gaC, ↓gaN, gaP, simprocAttr]; done) | (simp only [↓gaW, ↓gaV, ↓gaC, ↓gaN, gaP, simprocAttr]; rfl))]
  simp only [asO_e]
  refine callK_of (ct_VRight (l := [v]) (VpR.lit hv (by omega) (one x6 (x6 + 1) _ _ (by omega))) (Nat.le_refl _) (by omega)) (fun r x7 g7 l7 k7 hC => ?_) (by omega)
  subst hC
  rw [Vr.right_one]
  have ha7 : g7 nx = some (.cells (vpL v) false) := by rw [k7 nx (by omega)]; simp only [upd_e]; rw [if_neg (by omega), ha6]
  have hb7 : g7 x3 = some (.cells (vpL (Vr.up v)) false) := by rw [k7 x3 (by omega)]; simp only [upd_e]; rw [if_neg (by omega), hb6]
  have F7 : ∀ p, p < nx → g7 p = gt p := fun p hp => by rw [k7 p (by omega)]; simp only [upd_e]; rw [if_neg (by omega), F6 p hp]
  simp only [↓gaW, ↓gaV, ↓gaC, ↓gaN, gaP, simprocAttr, beq_self_eq_true, hE, ha7, hb7, tv, tw, List.drop_zero, vpL_len hv.a, vpL_len hup.a]
  repeat refine And.intro (by omega) ?_
  rw [f2 _ 37 38 _ hup (by first | (simp only [↓gaW, ↓gaV, ↓gaC, ↓gaN, gaP, simprocAttr]; done) | (simp only [↓gaW, ↓gaV, ↓gaC, ↓gaN, gaP, simprocAttr]; rfl)) (by first | (simp only [↓gaW, ↓gaV, ↓gaC, ↓gaN, gaP, simprocAttr]; done) | (simp only [↓gaW, ↓gaV, ↓gaC, ↓gaN, gaP, simprocAttr]; rfl))]
  simp only [asO_e]
  refine callK_of (ct_VRight (l := [v, Vr.up v]) (VpR.lit2 hv hup (by omega) (one x7 (x7 + 1) _ _ (by omega))) (Nat.le_refl _) (by omega)) (fun r x8 g8 l8 k8 hC => ?_) (by omega)
  rw [Vr.right_two (Vr.up_ne v)] at hC
  subst hC
  have ha8 : g8 nx = some (.cells (vpL v) false) := by rw [k8 nx (by omega)]; simp only [upd_e]; rw [if_neg (by omega), ha7]
  have F8 : ∀ p, p < nx → g8 p = gt p := fun p hp => by rw [k8 p (by omega)]; simp only [upd_e]; rw [if_neg (by omega), F7 p hp]
  simp only [↓gaW, ↓gaV, ↓gaC, ↓gaN, gaP, simprocAttr, ha8, tv, tw, List.drop_zero, vpL_len hv.a, Bool.not_false, beq_self_eq_true]
  repeat refine And.intro (by omega) ?_
  rw [f2 _ 44 45 _ hv (by first | (simp only [↓gaW, ↓gaV, ↓gaC, ↓gaN, gaP, simprocAttr]; done) | (simp only [↓gaW, ↓gaV, ↓gaC, ↓gaN, gaP, simprocAttr]; rfl)) (by first | (simp only [↓gaW, ↓gaV, ↓gaC, ↓gaN, gaP, simprocAttr]; done) | (simp only [↓gaW, ↓gaV, ↓gaC, ↓gaN, gaP, simprocAttr]; rfl))]
  simp only [asO_e]
  refine callK_of (ct_VRight (l := [v, v]) (VpR.lit2 hv hv (by omega) (one x8 (x8 + 1) _ _ (by omega))) (Nat.le_refl _) (by omega)) (fun r x9 g9 l9 k9 hC => ?_) (by omega)
  rw [Vr.right_dup] at hC
  subst hC
  have F9 : ∀ p, p < nx → g9 p = gt p := fun p hp => by rw [k9 p (by omega)]; simp only [upd_e]; rw [if_neg (by omega), F8 p hp]
  simp only [↓gaW, ↓gaV, ↓gaC, ↓gaN, gaP, simprocAttr, Bool.not_false, beq_self_eq_true]
  refine callK_of (ct_VRight (l := []) (.nil) (Nat.le_refl _) (by omega)) (fun r x10 g10 l10 k10 hC => ?_) (by omega)
  rw [Vr.right_nil] at hC
  subst hC
  simp only [↓gaW, ↓gaV, ↓gaC, ↓gaN, gaP, simprocAttr, gaE, Bool.not_false, beq_self_eq_true]
  refine ⟨by omega, fun p hp => ?_⟩
  rw [k10 p (by omega), F9 p hp]
end
end Go.Ga

namespace Go.Ga
open Go
section
variable {P : Program} {H : Type} {enc : TypeId × Value → H} {w : World} {base : Nat} {sp : Nat → Bool} {held : Bool} {t e : TypeId} {n : Nat} {k : IntKind}
def intOf : Option Value → Int
  | some (.int _ z) => z
  | _ => 0
def arrD (k : IntKind) (zs : List Int) : DataW H := .agg (zs.map fun z => .lit (.int k z))
end
end Go.Ga

namespace Go.Ga
open Go
theorem wf_u32 {n : Int} (h : (Lit.int .u32 n).wf = true) : 0 ≤ n ∧ n ≤ 4294967295 := by
  have := (Lit.wf_int_iff _ _).1 h
  simpa [IntKind.min, IntKind.max, IntKind.signed, IntKind.bits] using this
end Go.Ga

namespace Go.Ga
open Go
section
variable {H : Type} {enc : TypeId × Value → H} {P : Program} {w : World} {held : Bool} {f : Nat} {t : TypeId} {cs : List Value}
def Shp (enc : TypeId × Value → H) (P : Program) (w : World) (held : Bool) (f : Nat) (t : TypeId) (cs : List Value) : Prop := ∃ x, DataW.trod enc P w 0 (fun _ => true) held f t cs = some x
theorem Shp.int {k : IntKind} (ht : P.underlying t = some (.int k)) (h : Shp enc P w held f t cs) : ∃ n, cs = [.int k n] ∧ (Lit.int k n).wf = true := by
  obtain ⟨x, hx⟩ := h
  obtain ⟨n, h1, _, h2⟩ := DataW.trod_int ht hx
  exact ⟨n, h1, h2⟩
theorem Shp.bool (ht : P.underlying t = some .bool) (h : Shp enc P w held f t cs) : ∃ b, cs = [.bool b] := by
  obtain ⟨x, hx⟩ := h
  obtain ⟨n, h1, _⟩ := DataW.trod_bool ht hx
  exact ⟨n, h1⟩
theorem Shp.string (ht : P.underlying t = some .string) (h : Shp enc P w held f t cs) : ∃ s : ByteArray, cs = [.string s] ∧ s.size ≤ maxLen := by
  obtain ⟨x, hx⟩ := h
  obtain ⟨n, h1, _, h2⟩ := DataW.trod_string ht hx
  exact ⟨n, h1, h2⟩
theorem Shp.struct {fs : Array Field} (ht : P.underlying t = some (.struct fs)) (h : Shp enc P w held f t cs) :
    ∃ n, f = n + 1 ∧ cs.length = P.cellsOf t ∧ ∀ (i : Nat) (fl : Field), fs[i]? = some fl → Shp enc P w held n fl.type ((cs.drop fl.offset).take (P.cellsOf fl.type)) := by
  obtain ⟨x, hx⟩ := h
  obtain ⟨xs, n, h1, _, h2, h3, h4⟩ := DataW.trod_struct ht hx
  refine ⟨n, h1, h2, fun i fl hi => ?_⟩
  have hlt : i < xs.length := by
    rw [h3]
    exact (Array.getElem?_eq_some_iff.1 hi).1
  exact ⟨xs[i], by rw [h4 i fl hi, List.getElem?_eq_getElem hlt]⟩
theorem Shp.array {m : Nat} {e : TypeId} (ht : P.underlying t = some (.array m e)) (h : Shp enc P w held f t cs) :
    ∃ n, f = n + 1 ∧ cs.length = P.cellsOf t ∧ ∀ i, i < m → Shp enc P w held n e ((cs.drop (i * P.cellsOf e)).take (P.cellsOf e)) := by
  obtain ⟨x, hx⟩ := h
  obtain ⟨xs, n, h1, _, h2, h3, h4⟩ := DataW.trod_array ht hx
  exact ⟨n, h1, h2, fun i hi => ⟨xs[i]'(by omega), by rw [h4 i hi, List.getElem?_eq_getElem (by omega)]⟩⟩
theorem cells_all {w : World} {a : Addr} {N : Nat} {g : Nat → Value} (hN : 0 < N) (h : ∀ i, i < N → w.cell? (a.add i) = some (g i)) :
    a.spot = none ∧ isCells w a.block = true ∧ a.block < w.heap.size ∧ ∃ ce : List Value, (m0 w).get a.block = some (.cells (ce.map (absC w)) true) ∧ a.off + N ≤ ce.length ∧ ∀ i, i < N → ce[a.off + i]? = some (g i) := by
  have c0 := h 0 hN
  have hx : a.add 0 = a := by simp [Addr.add]
  rw [hx] at c0
  unfold World.cell? at c0
  split at c0
  · rename_i ce el fr hb
    have hsp : a.spot = none := by
      by_cases h : a.spot.isSome
      · rw [if_pos h] at c0; cases c0
      · simpa using h
    have hlt : a.block < w.heap.size := by
      rcases Nat.lt_or_ge a.block w.heap.size with h | h
      · exact h
      · rw [Array.getElem?_eq_none h] at hb; cases hb
    have hcell : ∀ i, i < N → ce.toList[a.off + i]? = some (g i) := by
      intro i hi
      have := h i hi
      unfold World.cell? Addr.add at this
      by_cases h0 : i = 0
      · subst h0
        simp only [if_true, hb, hsp] at this
        simpa using this
      · simp only [if_neg h0, hb] at this
        simpa using this
    refine ⟨hsp, by simp [isCells, hb], hlt, ce.toList, by simp [m0, hb], ?_, hcell⟩
    have := hcell (N - 1) (by omega)
    rcases Nat.lt_or_ge (a.off + (N - 1)) ce.toList.length with h | h
    · omega
    · rw [List.getElem?_eq_none h] at this; cases this
  · cases c0
theorem add_addr {a : Addr} {i j : Nat} (_ : a.spot = none) : (a.add i).add j = a.add (i + j) := by
  unfold Addr.add
  by_cases h1 : i = 0 <;> by_cases h2 : j = 0 <;> simp [h1, h2, Nat.add_assoc]
theorem Shp.slice {e : TypeId} (ht : P.underlying t = some (.slice e)) (hc : 0 < P.cellsOf e) (h : Shp enc P w held f t cs) :
    ∃ n v A len cap, ∃ l : List Value, f = n + 1 ∧ cs = [v] ∧ absC w v = .slice A len cap ∧ len ≤ cap ∧ Row w.heap.size (m0 w).get (P.cellsOf e) A (len * P.cellsOf e) (l.map (absC w)) ∧ l.length = len * P.cellsOf e ∧
      ∀ i, i < len → Shp enc P w held n e ((l.drop (i * P.cellsOf e)).take (P.cellsOf e)) := by
  obtain ⟨x, hx⟩ := h
  rcases DataW.trod_slice ht hx with ⟨rfl, _⟩ | ⟨a, len, cap, elems, rest, n, rfl, rfl, _, _, hl, hm, he, hel, hsp, _⟩
  · cases f with
    | zero => simp [DataW.trod] at hx
    | succ n => exact ⟨n, _, none, 0, 0, [], rfl, rfl, rfl, Nat.le_refl _, by rw [Nat.zero_mul]; exact .nil, by simp, fun i hi => absurd hi (Nat.not_lt_zero i)⟩
  · obtain ⟨hr, hrest⟩ := hsp rfl
    have one : ∀ i, i < cap → ∃ cs', w.cells? 0 (a.add (i * P.cellsOf e)) (P.cellsOf e) = some cs' ∧ Shp enc P w held n e cs' := by
      intro i hi
      rcases Nat.lt_or_ge i len with h | h
      · have h1 := hel i h
        rw [List.getElem?_eq_getElem (by omega), Option.bind_eq_some_iff] at h1
        obtain ⟨cs', h1, h2⟩ := h1
        exact ⟨cs', h1, _, h2⟩
      · have h1 := hrest (i - len) (by omega)
        rw [List.getElem?_eq_getElem (by omega), Option.bind_eq_some_iff, show len + (i - len) = i by omega] at h1
        obtain ⟨cs', h1, h2⟩ := h1
        exact ⟨cs', h1, _, h2⟩
    rcases Nat.eq_zero_or_pos cap with h0 | h0
    · subst h0
      have : len = 0 := by omega
      subst this
      exact ⟨n, _, some ⟨a.block, a.off, none⟩, 0, 0, [], rfl, rfl, by simp [absC], Nat.le_refl _, ⟨fun a ha => by injection ha with ha; subst ha; exact .inl rfl, by simp, fun h => by rw [Nat.zero_mul] at h; exact absurd h (Nat.lt_irrefl 0)⟩, by simp, fun i hi => absurd hi (Nat.not_lt_zero i)⟩
    · obtain ⟨cs0, hc0, ht0⟩ := one 0 h0
      obtain ⟨_, hl0, hg0⟩ := World.cells?_some hc0
      have hx0 : a.add (0 * P.cellsOf e) = a := by simp [Addr.add]
      rw [hx0] at hg0
      have hspot : a.spot = none := by
        refine (cells_all (w := w) (a := a) (N := 1) (g := fun i => cs0.getD 0 undef) (by omega) fun i hi => ?_).1
        have : i = 0 := by omega
        subst this
        rw [hg0 0 hc, List.getD_eq_getElem?_getD, List.getElem?_eq_getElem (by omega)]
        rfl
      have hpos : 0 < cap * P.cellsOf e := Nat.mul_pos h0 hc
      have hall : ∀ j, j < cap * P.cellsOf e → ∃ v, w.cell? (a.add j) = some v := by
        intro j hj
        have hd := Nat.div_add_mod j (P.cellsOf e)
        have hm := Nat.mod_lt j hc
        obtain ⟨cs', h1, _⟩ := one (j / P.cellsOf e) ((Nat.div_lt_iff_lt_mul hc).2 hj)
        obtain ⟨_, h2, h3⟩ := World.cells?_some h1
        have h4 := h3 (j % P.cellsOf e) hm
        rw [add_addr hspot, show j / P.cellsOf e * P.cellsOf e + j % P.cellsOf e = j by rw [Nat.mul_comm]; exact hd, List.getElem?_eq_getElem (by omega)] at h4
        exact ⟨_, h4⟩
      obtain ⟨g, hg⟩ : ∃ g : Nat → Value, ∀ j, j < cap * P.cellsOf e → w.cell? (a.add j) = some (g j) := by
        refine ⟨fun j => (w.cell? (a.add j)).getD undef, fun j hj => ?_⟩
        obtain ⟨v, hv⟩ := hall j hj
        simp only [hv, Option.getD_some]
      obtain ⟨h1, h2, h3, ce, h4, h5, h6⟩ := cells_all hpos hg
      have hle : len * P.cellsOf e ≤ cap * P.cellsOf e := Nat.mul_le_mul_right _ hl
      refine ⟨n, _, some a, len, cap, (ce.drop a.off).take (len * P.cellsOf e), rfl, rfl, ?_, hl, ⟨fun a' ha => by injection ha with ha; subst ha; exact .inl h1, by simp; omega, fun _ => ⟨a, _, true, rfl, h3, h4, by simp; omega, fun i hi => ?_⟩⟩, by simp; omega, fun i hi => ?_⟩
      · obtain ⟨ab, ao, asp⟩ := a
        simp only at h1
        subst h1
        simp [absC, show cap ≠ 0 by omega, hl, h2]
      · rw [List.getD_eq_getElem?_getD, List.getD_eq_getElem?_getD, List.getElem?_map, List.getElem?_map, List.getElem?_take_of_lt hi, List.getElem?_drop]
      · obtain ⟨cs', e1, e2⟩ := one i (by omega)
        obtain ⟨_, e3, e4⟩ := World.cells?_some e1
        have hik : i * P.cellsOf e + P.cellsOf e ≤ len * P.cellsOf e := by
          have := Nat.mul_le_mul_right (P.cellsOf e) (show i + 1 ≤ len by omega)
          rw [Nat.add_mul, Nat.one_mul] at this
          exact this
        have : ((((ce.drop a.off).take (len * P.cellsOf e)).drop (i * P.cellsOf e)).take (P.cellsOf e)) = cs' := by
          refine List.ext_getElem? fun k => ?_
          rcases Nat.lt_or_ge k (P.cellsOf e) with hk | hk
          · rw [List.getElem?_take_of_lt hk, List.getElem?_drop, List.getElem?_take_of_lt (by omega), List.getElem?_drop, h6 _ (by omega), ← hg _ (by omega), ← add_addr h1, e4 k hk]
          · rw [List.getElem?_eq_none (by simp; omega), List.getElem?_eq_none (by omega)]
        rw [this]
        exact e2
theorem Shp.bytes {e : TypeId} (ht : P.underlying t = some (.slice e)) (he : P.underlying e = some (.int .u8)) (hc : P.cellsOf e = 1) (h : Shp enc P w held f t cs) :
    ∃ v A len cap, ∃ l : List UInt8, cs = [v] ∧ absC w v = .slice A len cap ∧ len ≤ cap ∧ Row w.heap.size (m0 w).get 1 A len (l.map u8V) := by
  obtain ⟨n, v, A, len, cap, l, rfl, h1, h2, h3, h4, h5, h6⟩ := h.slice ht (by omega)
  rw [hc, Nat.mul_one] at h4 h5
  refine ⟨v, A, len, cap, l.map fun v => UInt8.ofNat (intOf (some v)).toNat, h1, h2, h3, ?_⟩
  have : (l.map fun v => UInt8.ofNat (intOf (some v)).toNat).map u8V = l.map (absC w) := by
    rw [List.map_map]
    refine List.map_congr_left fun v hv => ?_
    obtain ⟨i, hi, rfl⟩ := List.getElem_of_mem hv
    obtain ⟨z, e1, e2⟩ := (h6 i (by omega)).int he
    have e1' : l[i] = .int .u8 z := by
      rw [hc, Nat.mul_one, List.drop_eq_getElem_cons hi] at e1
      simp only [List.take_succ_cons, List.take_zero, List.cons.injEq, and_true] at e1
      exact e1
    rw [e1']
    obtain ⟨b1, b2⟩ := wf_u8 e2
    simp only [Function.comp, intOf, u8V, absC, goodV, if_true]
    rw [UInt8.toNat_ofNat']
    congr 1
    omega
  rw [this]
  exact h4
theorem Shp.words {e : TypeId} (ht : P.underlying t = some (.slice e)) (he : P.underlying e = some (.int .u32)) (hc : P.cellsOf e = 1) (h : Shp enc P w held f t cs) :
    ∃ v A len cap, ∃ l : List UInt32, cs = [v] ∧ absC w v = .slice A len cap ∧ len ≤ cap ∧ Row w.heap.size (m0 w).get 1 A len (l.map u32V) := by
  obtain ⟨n, v, A, len, cap, l, rfl, h1, h2, h3, h4, h5, h6⟩ := h.slice ht (by omega)
  rw [hc, Nat.mul_one] at h4 h5
  refine ⟨v, A, len, cap, l.map fun v => UInt32.ofNat (intOf (some v)).toNat, h1, h2, h3, ?_⟩
  have : (l.map fun v => UInt32.ofNat (intOf (some v)).toNat).map u32V = l.map (absC w) := by
    rw [List.map_map]
    refine List.map_congr_left fun v hv => ?_
    obtain ⟨i, hi, rfl⟩ := List.getElem_of_mem hv
    obtain ⟨z, e1, e2⟩ := (h6 i (by omega)).int he
    have e1' : l[i] = .int .u32 z := by
      rw [hc, Nat.mul_one, List.drop_eq_getElem_cons hi] at e1
      simp only [List.take_succ_cons, List.take_zero, List.cons.injEq, and_true] at e1
      exact e1
    rw [e1']
    obtain ⟨b1, b2⟩ := wf_u32 e2
    simp only [Function.comp, intOf, u32V, absC, goodV, if_true]
    rw [UInt32.toNat_ofNat']
    congr 1
    omega
  rw [this]
  exact h4
theorem take_one {cs : List Value} {i : Nat} (h : i < cs.length) : (cs.drop i).take 1 = [cs[i]] := by
  rw [List.drop_eq_getElem_cons h]; rfl
end
end Go.Ga

namespace Go.Ga
open Go
def RowB (nx : Nat) (gt : Nat → Option Blk) (A : Option Addr) (n : Nat) (ls : List (List UInt8)) : Prop := ls.length = n ∧ (∀ a, A = some a → a.spot = none ∨ a.spot = some 1) ∧ (0 < n → ∃ a ce ro, A = some a ∧ a.block < nx ∧ gt a.block = some (.cells ce ro) ∧ a.off + n ≤ ce.length ∧
  ∀ i, i < n → ∃ B m d, ce.getD (a.off + i) undef = .slice B m d ∧ m ≤ d ∧ Row nx gt 1 B m ((ls.getD i []).map u8V))
theorem RowB.keep {nx gt A n ls nx' gt'} (h : RowB nx gt A n ls) (h1 : nx ≤ nx') (h2 : ∀ p, p < nx → gt' p = gt p) : RowB nx' gt' A n ls := by
  refine ⟨h.1, h.2.1, fun h0 => ?_⟩
  obtain ⟨a, ce, ro, e1, e2, e3, e4, e5⟩ := h.2.2 h0
  refine ⟨a, ce, ro, e1, by omega, by rw [h2 _ e2, e3], e4, fun i hi => ?_⟩
  obtain ⟨B, m, d, f1, f2, f3⟩ := e5 i hi
  exact ⟨B, m, d, f1, f2, f3.keep h1 h2⟩
section
variable {H : Type} {enc : TypeId × Value → H} {P : Program} {w : World} {held : Bool} {t : TypeId}
end
end Go.Ga

namespace Go.Ga
open Go
section
variable {H : Type} {enc : TypeId × Value → H} {P : Program} {w : World} {held : Bool} {t : TypeId}
end
end Go.Ga

namespace Go.Ga
open Go
theorem list_three {cs : List Value} {a b c : Value} (hl : cs.length = 3) (h0 : (cs.drop 0).take 1 = [a]) (h1 : (cs.drop 1).take 1 = [b]) (h2 : (cs.drop 2).take 1 = [c]) : cs = [a, b, c] := by
  match cs, hl with
  | [x, y, z], _ =>
    simp at h0 h1 h2
    rw [h0, h1, h2]
section
variable {H : Type} {enc : TypeId × Value → H} {P : Program} {w : World} {held : Bool} {t : TypeId}
structure NodeT (P : Program) (t ti tb tk te : TypeId) : Prop where
  str : ∃ fs : Array Field, P.underlying t = some (.struct fs) ∧ (fs[0]?).map (fun f => (f.type, f.offset)) = some (ti, 0) ∧ (fs[1]?).map (fun f => (f.type, f.offset)) = some (tb, 1) ∧ (fs[2]?).map (fun f => (f.type, f.offset)) = some (tk, 2)
  int : P.underlying ti = some (.int .i64)
  bytes : P.underlying tb = some (.slice te)
  byte : P.underlying te = some (.int .u8)
  kids : P.underlying tk = some (.slice t)
  ct : P.cellsOf t = 3
  ci : P.cellsOf ti = 1
  cb : P.cellsOf tb = 1
  ce : P.cellsOf te = 1
  ck : P.cellsOf tk = 1
theorem Shp.nodes {f : Nat} {t ti tb tk te : TypeId} (hT : NodeT P t ti tb tk te) (hnode : ∀ cs, Shp enc P w held f t cs → ∃ (x : Fo.El) (B : Option Addr) (m d : Nat) (A : Option Addr) (n c : Nat) (ks : List Value), cs.map (absC w) = nodeL x.t B m d A n c ∧ NdR w.heap.size (m0 w).get x B m d A n c ks)
    {cs : List Value} {tk' : TypeId} (hk : P.underlying tk' = some (.slice t)) (h : Shp enc P w held (f + 1) tk' cs) :
    ∃ (v : Value) (A : Option Addr) (n c : Nat) (F : Fo) (ks : List Value), cs = [v] ∧ absC w v = .slice A n c ∧ n ≤ c ∧ n = F.len ∧ Row w.heap.size (m0 w).get 3 A (n * 3) ks ∧ FoR w.heap.size (m0 w).get F ks := by
  obtain ⟨n, v, A, len, cap, l, hf, rfl, h2, h3, h4, h5, h6⟩ := h.slice hk (by rw [hT.ct]; omega)
  injection hf with hf
  subst hf
  rw [hT.ct] at h4 h5 h6
  have key : ∀ i, i ≤ len → ∃ F : Fo, F.len = i ∧ FoR w.heap.size (m0 w).get F ((l.map (absC w)).take (i * 3)) := by
    intro i
    induction i with
    | zero => intro _; exact ⟨.nil, rfl, by rw [Nat.zero_mul]; rfl⟩
    | succ i ih =>
      intro hi
      obtain ⟨F, e1, e2⟩ := ih (by omega)
      obtain ⟨x, B, m, d, A', n', c', ks', g1, g2⟩ := hnode _ (h6 i (by omega))
      refine ⟨F.app x.f, by rw [Fo.len_app, e1]; rfl, ?_⟩
      have e : (l.map (absC w)).take ((i + 1) * 3) = (l.map (absC w)).take (i * 3) ++ nodeL x.t B m d A' n' c' := by
        rw [← g1, Nat.add_mul, Nat.one_mul, List.take_add, List.map_take, List.map_drop]
      rw [e]
      exact e2.app g2.one
  obtain ⟨F, e1, e2⟩ := key len (Nat.le_refl _)
  rw [List.take_of_length_le (by simp; omega)] at e2
  exact ⟨v, A, len, cap, F, _, rfl, h2, h3, e1.symm, h4, e2⟩
theorem Shp.node {t ti tb tk te : TypeId} (hT : NodeT P t ti tb tk te) : ∀ (f : Nat) (cs : List Value), Shp enc P w held f t cs →
    ∃ (x : Fo.El) (B : Option Addr) (m d : Nat) (A : Option Addr) (n c : Nat) (ks : List Value), cs.map (absC w) = nodeL x.t B m d A n c ∧ NdR w.heap.size (m0 w).get x B m d A n c ks := by
  intro f
  induction f using Nat.strongRecOn with
  | ind f ih =>
    intro cs h
    obtain ⟨fs, hs, h0, h1, h2⟩ := hT.str
    obtain ⟨k, rfl, hl, hfl⟩ := h.struct hs
    simp only [Option.map_eq_some_iff] at h0 h1 h2
    obtain ⟨f0, e0, e0'⟩ := h0
    obtain ⟨f1, e1, e1'⟩ := h1
    obtain ⟨f2, e2, e2'⟩ := h2
    injection e0' with a0 b0
    injection e1' with a1 b1
    injection e2' with a2 b2
    have g0 := hfl 0 f0 e0
    have g1 := hfl 1 f1 e1
    have g2 := hfl 2 f2 e2
    rw [hT.ct] at hl
    rw [a0, b0, hT.ci, take_one (by omega)] at g0
    rw [a1, b1, hT.cb, take_one (by omega)] at g1
    rw [a2, b2, hT.ck, take_one (by omega)] at g2
    obtain ⟨z, z1, z2⟩ := g0.int hT.int
    obtain ⟨vb, B, m, d, lb, q0, q1, q2, q3⟩ := g1.bytes hT.bytes hT.byte hT.ce
    cases k with
    | zero =>
      obtain ⟨y, hy⟩ := g2
      rcases DataW.trod_slice hT.kids hy with ⟨_, h⟩ | ⟨a, len, cap, elems, rest, n, h, _⟩
      · simp [DataW.trod] at hy
      · simp [DataW.trod] at hy
    | succ k =>
      obtain ⟨vk, A, n, c, F, ks, p0, p1, p2, p3, p4, p5⟩ := g2.nodes hT (ih k (by omega)) hT.kids
      injection z1 with z1
      injection q0 with q0
      injection p0 with p0
      refine ⟨⟨z, lb, F⟩, B, m, d, A, n, c, ks, ?_, ⟨wf_i64 z2, q3, q2, p4, p2, p3, p5⟩⟩
      have hcs : cs = [cs[0], cs[1], cs[2]] := list_three hl (take_one (by omega)) (take_one (by omega)) (take_one (by omega))
      rw [hcs, z1, q0, p0]
      simp only [List.map_cons, List.map_nil, q1, p1]
      simp [absC, goodV]
end
end Go.Ga

namespace Go.Ga
open Go Go.Proofs
set_option maxRecDepth 100000
structure VrpC (P : Program) (tv tu tp ti tb ta te : TypeId) : Prop where
  cv : P.cellsOf tv = 20
  cu : P.cellsOf tu = 1
  cp : P.cellsOf tp = 18
  ci : P.cellsOf ti = 1
  cb : P.cellsOf tb = 1
  ca : P.cellsOf ta = 16
  ce : P.cellsOf te = 1
theorem vrpC : VrpC Tryd.prog 38 33 36 3 4 34 5 := ⟨by kernel_rfl, by kernel_rfl, by kernel_rfl, by kernel_rfl, by kernel_rfl, by kernel_rfl, by kernel_rfl⟩
section
variable {H : Type} {enc : TypeId × Value → H} {P : Program} {w : World} {held : Bool} {tv tu tp ti tb ta te : TypeId}
theorem one_cell {cs : List Value} {i : Nat} {v : Value} (h : (cs.drop i).take 1 = [v]) : cs[i]? = some v := by
  have : ((cs.drop i).take 1)[0]? = some v := by rw [h]; rfl
  rw [List.getElem?_take_of_lt (by omega), List.getElem?_drop] at this
  exact this
theorem flds3 {fs : Array Field} {a b c : TypeId × Nat} (h : fs.toList.map (fun f => (f.type, f.offset)) = [a, b, c]) :
    ∃ x y z, fs[0]? = some x ∧ fs[1]? = some y ∧ fs[2]? = some z ∧ (x.type, x.offset) = a ∧ (y.type, y.offset) = b ∧ (z.type, z.offset) = c := by
  obtain ⟨l⟩ := fs
  match l, h with
  | [x, y, z], h =>
    simp only [List.map_cons, List.map_nil, List.cons.injEq, and_true] at h
    exact ⟨x, y, z, rfl, rfl, rfl, h.1, h.2.1, h.2.2⟩
theorem Shp.arr16 {f : Nat} {cs : List Value} (ht : P.underlying ta = some (.array 16 te)) (he : P.underlying te = some (.int .u8)) (hc : P.cellsOf te = 1) (hct : P.cellsOf ta = 16) (h : Shp enc P w held f ta cs) : ∃ a : List UInt8, a.length = 16 ∧ cs = a.map u8V := by
  obtain ⟨n, rfl, hl, hx⟩ := h.array ht
  rw [hct] at hl
  have key : ∀ i, i < 16 → ∃ z : Int, cs[i]? = some (.int .u8 z) ∧ 0 ≤ z ∧ z ≤ 255 := fun i hi => by
    have := hx i hi
    rw [hc, Nat.mul_one] at this
    obtain ⟨z, h1, h2⟩ := this.int he
    exact ⟨z, one_cell h1, wf_u8 h2⟩
  refine ⟨(List.range 16).map fun i => UInt8.ofNat (intOf cs[i]?).toNat, by simp, ?_⟩
  refine List.ext_getElem? fun i => ?_
  rcases Nat.lt_or_ge i 16 with h | h
  · obtain ⟨z, h1, h2, h3⟩ := key i h
    rw [h1, List.map_map, List.getElem?_map, List.getElem?_range h]
    simp only [Option.map_some, Function.comp, h1, intOf, u8V]
    rw [UInt8.toNat_ofNat', Nat.mod_eq_of_lt (by omega)]
    congr 2; omega
  · rw [List.getElem?_eq_none (by omega), List.getElem?_eq_none (by simp; omega)]
theorem Shp.px {f : Nat} {cs : List Value} (T : PxT P tp tb ta te ti) (C : VrpC P tv tu tp ti tb ta te) (h : Shp enc P w held f tp cs) :
    ∃ (v6 : Bool) (a : List UInt8) (len : Int), a.length = 16 ∧ (-9223372036854775808 ≤ len ∧ len ≤ 9223372036854775807) ∧ cs = pxL v6 a len := by
  obtain ⟨fs, hs, hf, _⟩ := T.str
  obtain ⟨n, rfl, hl, hx⟩ := h.struct hs
  obtain ⟨x, y, z, e0, e1, e2, q0, q1, q2⟩ := flds3 hf
  injection q0 with a0 b0
  injection q1 with a1 b1
  injection q2 with a2 b2
  have g0 := hx 0 x e0
  have g1 := hx 1 y e1
  have g2 := hx 2 z e2
  rw [C.cp] at hl
  rw [a0, b0, C.cb] at g0
  rw [a1, b1, C.ca] at g1
  rw [a2, b2, C.ci] at g2
  obtain ⟨v6, r0⟩ := g0.bool T.bool
  obtain ⟨a, ha, r1⟩ := g1.arr16 T.arr T.byte C.ce C.ca
  obtain ⟨len, r2, r3⟩ := g2.int T.int
  refine ⟨v6, a, len, ha, wf_i64 r3, ?_⟩
  have c0 := one_cell r0
  have c2 := one_cell r2
  refine List.ext_getElem? fun i => ?_
  rcases Nat.lt_or_ge i 1 with h | h
  · obtain rfl : i = 0 := by omega
    rw [c0]; rfl
  · rcases Nat.lt_or_ge i 17 with h2 | h2
    · have : ((cs.drop 1).take 16)[i - 1]? = (a.map u8V)[i - 1]? := by rw [r1]
      rw [List.getElem?_take_of_lt (by omega), List.getElem?_drop, show 1 + (i - 1) = i by omega] at this
      rw [this, pxL, List.getElem?_cons, if_neg (by omega), List.getElem?_append_left (by simp [ha]; omega)]
    · rcases Nat.lt_or_ge i 18 with h3 | h3
      · obtain rfl : i = 17 := by omega
        rw [c2, pxL, List.getElem?_cons, if_neg (by omega), List.getElem?_append_right (by simp [ha])]
        simp [ha]
      · rw [List.getElem?_eq_none (by omega), List.getElem?_eq_none (by rw [pxL_len ha]; omega)]
theorem Shp.vrp {f : Nat} {cs : List Value} (T : PxT P tp tb ta te ti) (V : VpT P tv tu tp ti) (C : VrpC P tv tu tp ti tb ta te) (h : Shp enc P w held f tv cs) : ∃ v : Vp, v.wf ∧ cs = vpL v := by
  obtain ⟨fs, hs, hf, _⟩ := V.str
  obtain ⟨n, rfl, hl, hx⟩ := h.struct hs
  obtain ⟨x, y, z, e0, e1, e2, q0, q1, q2⟩ := flds3 hf
  injection q0 with a0 b0
  injection q1 with a1 b1
  injection q2 with a2 b2
  have g0 := hx 0 x e0
  have g1 := hx 1 y e1
  have g2 := hx 2 z e2
  rw [C.cv] at hl
  rw [a0, b0, C.cu] at g0
  rw [a1, b1, C.cp] at g1
  rw [a2, b2, C.ci] at g2
  obtain ⟨wa, r0, r4⟩ := g0.int V.u32
  obtain ⟨v6, a, len, ha, hlen, r1⟩ := g1.px T C
  obtain ⟨mx, r2, r3⟩ := g2.int V.int
  obtain ⟨s1, s2⟩ := wf_u32 r4
  have c0 := one_cell r0
  have c2 := one_cell r2
  refine ⟨⟨UInt32.ofNat wa.toNat, v6, a, len, mx⟩, ⟨ha, hlen, wf_i64 r3⟩, ?_⟩
  have hwa : u32V (UInt32.ofNat wa.toNat) = .int .u32 wa := by
    rw [u32V, UInt32.toNat_ofNat', Nat.mod_eq_of_lt (by omega)]
    congr 1; omega
  refine List.ext_getElem? fun i => ?_
  rw [vpL, hwa]
  rcases Nat.lt_or_ge i 1 with h | h
  · obtain rfl : i = 0 := by omega
    rw [c0]; rfl
  · rcases Nat.lt_or_ge i 19 with h2 | h2
    · have : ((cs.drop 1).take 18)[i - 1]? = (pxL v6 a len)[i - 1]? := by rw [r1]
      rw [List.getElem?_take_of_lt (by omega), List.getElem?_drop, show 1 + (i - 1) = i by omega] at this
      rw [this, List.getElem?_cons, if_neg (by omega), List.getElem?_append_left (by rw [pxL_len ha]; omega)]
    · rcases Nat.lt_or_ge i 20 with h3 | h3
      · obtain rfl : i = 19 := by omega
        rw [c2, List.getElem?_cons, if_neg (by omega), List.getElem?_append_right (by rw [pxL_len ha]; omega)]
        simp [pxL_len ha]
      · rw [List.getElem?_eq_none (by omega), List.getElem?_eq_none (by simp [pxL_len ha]; omega)]
theorem absC_vpL (v : Vp) : (vpL v).map (absC w) = vpL v := by
  have e : (v.a.map u8V).map (absC w) = v.a.map u8V := by
    rw [List.map_map]
    exact List.map_congr_left fun x _ => rfl
  simp only [vpL, pxL, List.map_cons, List.map_append, e, List.map_nil]
  rfl
theorem open_vrp (T : PxT P tp tb ta te ti) (V : VpT P tv tu tp ti) (C : VrpC P tv tu tp ti tb ta te) {r : Reach} {b0 : Nat} {v : Value} {d : DataW H} {ps : List MemPlace} (hval : Value.okWide P w r b0 tv v) (hd : DataW.Trod enc P w 0 (fun _ => true) held tv v d ps) :
    ∃ x : Vp, absV w v = vpV x ∧ x.wf := by
  obtain ⟨fs, hs, _⟩ := V.str
  simp only [Value.okWide, hs] at hval
  obtain ⟨cs, rfl, hcs, _⟩ := hval
  obtain ⟨fuel, hf⟩ := hd
  obtain ⟨x, h1, h2⟩ := Shp.vrp T V C ⟨_, hf⟩
  refine ⟨x, ?_, h1⟩
  simp only [Value.cells] at h2
  simp only [absV, vpV]
  congr 1
  apply Array.ext'
  rw [Array.toList_map, h2, absC_vpL]
end
end Go.Ga
