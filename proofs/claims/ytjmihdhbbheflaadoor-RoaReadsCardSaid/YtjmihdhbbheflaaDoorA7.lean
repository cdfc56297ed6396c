/- Words and contracts of functions for the statement's proof. No condition. -/
import Derived.Test.YtjmihdhbbheflaaDoorA6
import Derived.ChangeArms
import Derived.OpenShut
import Derived.DataReads
set_option linter.all false

namespace Go.Ga
open Go Go.Proofs
set_option maxRecDepth 100000
attribute [local irreducible] appendK
theorem ofR_many (x : Fo.El) : 0 ≤ (ofR x).2.1 ∧ (ofR x).2.1 ≤ 8 * ((ofR x).1.length : Int) ∧ (ofR x).1.length ≤ x.b.length := by
  unfold ofR
  split
  · rename_i h
    obtain ⟨_, h1, h2, _⟩ := Vr.bits_in h.2
    exact ⟨h1, h2, by simp⟩
  · exact ⟨by simp, by simp, by simp⟩
theorem splice_mx {wa : UInt32} {v6 : Bool} {a : List UInt8} {m t t' : Int} (ha : a.length = 16) : splice (vpL ⟨wa, v6, a, m, t⟩) 19 [.int .i64 t'] = vpL ⟨wa, v6, a, m, t'⟩ := by
  rw [splice_one (by rw [vpL_len ha]; omega)]
  simp only [vpL, pxL, List.cons_append, List.set_cons_succ, List.append_assoc]
  rw [List.set_append_right _ _ (by rw [List.length_map, ha]; omega), List.length_map, ha]
  rfl
section
variable {nx : Nat} {gt : Nat → Option Blk}
theorem ct_rRRead {A : Option Addr} {n c : Nat} {l : List UInt8} (hA : Row nx gt 1 A n (l.map u8V)) (hc : n ≤ c) (hn : n ≤ 1000000) : Ct Tryd.prog 12 [.slice A n c] nx gt fun r x g => ReadL x g r (Vr.refR l) := by
  refine Ct.of hmx r_lanyardref18_Read (by simp [c_lanyardref18_Read]) fun b hb => ?_
  simp only [c_lanyardref18_Read, ↓gaH, gaP, simprocAttr]
  refine callK_of (ct_rRead hA hc hn) (fun v x1 g1 l1 k1 hC => ?_) (by omega)
  cases hrd : Fo.rd l with
  | error e =>
    rw [hrd] at hC
    have hC : v = _ := hC
    subst hC
    have e0 : e ≠ 0 := by
      rintro rfl
      unfold Fo.rd at hrd
      split at hrd
      · cases hrd
      · split at hrd
        · rename_i e' he
          injection hrd with hrd
          have := Fo.elem_errs he
          omega
        · split at hrd <;> cases hrd
    have e0i : ¬ ((e : Nat) : Int) = 0 := by omega
    have er : Vr.refR l = .error e := by unfold Vr.refR; rw [hrd]
    simp only [↓gaH, gaP, simprocAttr, gaF, fillL, splice]
    repeat refine And.intro (by omega) ?_
    refine And.intro (node_cells _ _ _ _ _ _ _) ?_
    simp only [↓gaH, gaP, simprocAttr, e0i, not_false_eq_true, decide_true, gaE, er]
    exact ⟨by omega, fun p hp => by simp only [show ¬ p = x1 by omega, if_false, k1 p hp], rfl⟩
  | ok y =>
  rw [hrd] at hC
  obtain ⟨B, m, d, A0, n0, c0, ks, rfl, N0⟩ := hC
  obtain ⟨hws, _, hrs⟩ := Fo.rd_ws hrd
  simp only [↓gaH, gaP, simprocAttr, gaF, fillL, splice]
  repeat refine And.intro (by omega) ?_
  refine And.intro (node_cells _ _ _ _ _ _ _) ?_
  obtain ⟨g2, hg2⟩ : ∃ g', g' = upd (upd g1 x1 (some (.cells [Value.int .i64 0, .slice none 0 0, .slice none 0 0] false))) x1 (some (.cells (nodeL y.t B m d A0 n0 c0) false)) := ⟨_, rfl⟩
  have hb2 : g2 x1 = some (.cells (nodeL y.t B m d A0 n0 c0) false) := by rw [hg2]; simp only [upd_e, if_true]
  have G2 : ∀ p, p < x1 → g2 p = g1 p := fun p hp => by rw [hg2]; simp only [upd_e]; rw [if_neg (by omega), if_neg (by omega)]
  have F2 : ∀ p, p < nx → g2 p = gt p := fun p hp => by rw [G2 p (by omega), k1 p hp]
  have hgg : upd (upd g1 x1 (some (Blk.cells [Value.int .i64 0, .slice none 0 0, .slice none 0 0] false))) x1 (some (.cells [Value.int .i64 y.t, .slice B m d, .slice A0 n0 c0] false)) = g2 := hg2.symm
  simp only [hgg]
  clear hg2 hgg
  have N2 := N0.keep (x' := x1 + 1) (g := g2) (by omega) G2
  have bad : ¬ y.k.len = 2 → Vr.refR l = .error 2 := fun h => by
    unfold Vr.refR
    rw [hrd]
    simp only
    rw [if_neg h]
  have hkl := N0.len
  by_cases hn2 : (n0 : Int) = 2
  case neg =>
    have er := bad fun h => hn2 (by rw [hkl, h]; rfl)
    simp only [↓gaH, gaP, simprocAttr, hn2, not_false_eq_true, decide_true, gaE, er]
    exact ⟨by omega, F2, rfl⟩
  have hn2' : n0 = 2 := by omega
  subst hn2'
  obtain ⟨a, cl, ro, rfl, r2, r3, r4, r5⟩ := N2.row.cells (by omega)
  obtain ⟨B3, m3, d3, A3, n3, c3, ks3, M0, q0, ws0⟩ := N2.kid (i := 0) (by omega)
  obtain ⟨B4, m4, d4, A4, n4, c4, ks4, M1, q1, ws1⟩ := N2.kid (i := 1) (by omega)
  have t0 := (N2.row.load rfl r3 (j := 0 * 3) (k := 3) (by omega) (by omega)).trans q0
  have t1 := (N2.row.load rfl r3 (j := 1 * 3) (k := 3) (by omega) (by omega)).trans q1
  simp only [Nat.zero_mul, Nat.add_zero, Nat.one_mul] at t0 t1
  have yw : y.f.ws = 1 + y.b.length + y.k.ws := by simp only [Fo.El.f, Fo.ws]; omega
  have ck : cl.getD (a.off + 3 + 2) undef = .slice A4 n4 c4 := by
    have h : (nodeL (Vr.kid y.k 1).t B4 m4 d4 A4 n4 c4).getD 2 undef = .slice A4 n4 c4 := rfl
    rw [← h, ← t1, List.getD_eq_getElem?_getD, List.getD_eq_getElem?_getD, List.getElem?_take_of_lt (by omega), List.getElem?_drop]
  have ht3 : ∀ t B m d A n c, (nodeL t B m d A n c).take 3 = nodeL t B m d A n c := fun _ _ _ _ _ _ _ => rfl
  simp only [↓gaH, gaP, simprocAttr, List.getD_cons_zero, List.getD_cons_succ, hb2, r3, t0, not_true_eq_false, decide_false]
  repeat refine And.intro (by omega) ?_
  refine callK_of (ct_rUint M0 (by omega)) (fun v x5 g5 l5 k5 hC => ?_) (by omega)
  subst hC
  have F5 : ∀ p, p < nx → g5 p = gt p := fun p hp => by rw [k5 p (by omega), F2 p hp]
  have hb5 : g5 x1 = some (.cells (nodeL y.t B m d (some a) 2 c0) false) := by rw [k5 x1 (by omega), hb2]
  have r35 : g5 a.block = some (.cells cl ro) := by rw [k5 _ r2, r3]
  have M5 := M1.keep (x' := x5) (g := g5) l5 k5
  clear k5
  simp only [↓gaH, gaP, simprocAttr]
  obtain ⟨w, hw⟩ : ∃ w, w = (uintR (Vr.kid y.k 0)).1 := ⟨_, rfl⟩
  obtain ⟨we, hwe⟩ : ∃ we, we = (uintR (Vr.kid y.k 0)).2 := ⟨_, rfl⟩
  have eP : Vr.refR l = match Vr.goR (Vr.lenR (UInt32.ofNat w)) (Vr.kid y.k 1).k with
      | none => .error 2
      | some l' => match Vr.makeR l' with
        | .error _ => .error 2
        | .ok c => if c = l then .ok l' else .error 2 := by
    unfold Vr.refR
    rw [hrd]
    simp only
    rw [if_pos (by omega), ← hw]
    all_goals rfl
  rw [eP, ← hw, ← hwe]
  generalize hF : (Vr.kid y.k 1).k = Fk at *
  have hFk : FoR x5 g5 Fk ks4 := by rw [← hF]; exact M5.kids
  have hFl : n4 = Fk.len := by rw [← hF]; exact M5.len
  have hFw : Fk.ws ≤ 20000 := by
    have : (Vr.kid y.k 1).f.ws = 1 + (Vr.kid y.k 1).b.length + (Vr.kid y.k 1).k.ws := by simp only [Fo.El.f, Fo.ws]; omega
    rw [hF] at this; omega
  have hFn : n4 ≤ 20000 := by have := Fo.len_ws Fk; omega
  refine loop_of (fun j f mm => ∃ (i x : Nat) (g : Nat → Option Blk) (A7 : Option Addr) (l7 : List Vp) (pre post : Fo), j = n4 - i ∧ i ≤ n4 ∧ Fk = pre.app post ∧ pre.len = i ∧ Vr.goR (Vr.lenR (UInt32.ofNat w)) pre = some l7 ∧ l7.length = i ∧ (∀ v ∈ l7, v.wf) ∧
      f 0 = .slice A n c ∧ f 4 = .pointer (some ⟨x1, 0, none⟩) ∧ f 6 = .int .u64 (w : Nat) ∧ f 8 = .slice A7 i i ∧ f 9 = .int .i64 (i : Nat) ∧ mm = ⟨x, b, g⟩ ∧ x5 ≤ x ∧ (∀ p, p < x5 → g p = g5 p) ∧ Own x5 b x g 20 A7 i (vpsL l7)) n4 ?_ ?_
  · exact ⟨0, x5, g5, none, [], .nil, Fk, rfl, by omega, rfl, rfl, rfl, rfl, (fun _ h => nomatch h), (by simp only [↓gaH, gaP, simprocAttr]; try rfl), (by simp only [↓gaH, gaP, simprocAttr]; try rfl), (by simp only [↓gaH, gaP, simprocAttr]; try rfl), (by simp only [↓gaH, gaP, simprocAttr]; try rfl), (by simp only [↓gaH, gaP, simprocAttr]; try rfl), rfl, Nat.le_refl _, fun _ _ => rfl, .nil⟩
  rintro j f mm ⟨i, x, g, A7, l7, pre, post, rfl, hi, eF, hpl, hgo, hll, hwf, f0, f4, f6, f8, f9, rfl, hx, F, hOwn⟩
  have hb6 : g x1 = some (.cells (nodeL y.t B m d (some a) 2 c0) false) := by rw [F x1 (by omega), hb5]
  have r36 : g a.block = some (.cells cl ro) := by rw [F _ (by omega), r35]
  simp only [↓gaH, gaP, simprocAttr, List.getD_cons_zero, List.getD_cons_succ, hb6, r36, ck, f4, f9]
  repeat refine And.intro (by omega) ?_
  refine condK_dec (fun hlt => ?_) fun hge => ?_
  · have hi' : i < n4 := by omega
    have Mx := M5.keep (x' := x) (g := g) hx F
    obtain ⟨a', cl', ro', rfl, s2, s3, s4, s5⟩ := Mx.row.cells (by omega)
    obtain ⟨z, pre', post', Bz, mz, dz, Az, nz, cz, kz, e1, e2, e3, e4⟩ := FoR.at (nx := x) (gt := g) (F := Fk) (cs := ks4) (i := i) (by rw [← hF]; exact Mx.kids) (by omega)
    have hpp : pre' = pre := (Fo.app_inj (e1.symm.trans eF) (by omega)).1
    subst hpp
    have tz := (Mx.row.load rfl s3 (j := i * 3) (k := 3) (by omega) (by omega)).trans e4
    have zw := Fo.ws_in e1
    have zw' : z.f.ws = 1 + z.b.length + z.k.ws := by simp only [Fo.El.f, Fo.ws]; omega
    have zk : cl'.getD (a'.off + i * 3 + 2) undef = .slice Az nz cz := by
      have h : (nodeL z.t Bz mz dz Az nz cz).getD 2 undef = .slice Az nz cz := rfl
      rw [← h, ← tz, List.getD_eq_getElem?_getD, List.getD_eq_getElem?_getD, List.getElem?_take_of_lt (by omega), List.getElem?_drop]
    simp only [↓gaH, gaP, simprocAttr, List.getD_cons_zero, List.getD_cons_succ, hb6, r36, ck, f4, f9, s3, zk]
    repeat refine And.intro (by omega) ?_
    by_cases h3 : (nz : Int) = 3
    case neg =>
      have ho : Vr.lenR (UInt32.ofNat w) z = none := by unfold Vr.lenR; rw [if_neg fun h => h3 (by rw [e3.len, h]; rfl)]
      have eG : Vr.goR (Vr.lenR (UInt32.ofNat w)) Fk = none := by rw [e1]; exact Vr.goR_none hgo ho
      simp only [↓gaH, gaP, simprocAttr, h3, not_false_eq_true, decide_true, gaE, eG]
      exact ⟨by omega, fun p hp => by rw [F p (by omega), F5 p hp], rfl⟩
    obtain rfl : nz = 3 := by omega
    obtain ⟨W, hWd⟩ : ∃ W, W = UInt32.ofNat w := ⟨_, rfl⟩
    rw [← hWd]
    have hgoW : Vr.goR (Vr.lenR W) pre' = some l7 := by rw [hWd]; exact hgo
    have hWv : Value.int .u32 (IntKind.u32.wrap (w : Int)) = u32V W := by
      rw [u32V, hWd, UInt32.toNat_ofNat', u32_w]; rfl
    have hf : ∀ F : Regs, fillL ([.int .u32 0, .bool false, .int .u8 0, .int .u8 0, .int .u8 0, .int .u8 0, .int .u8 0, .int .u8 0, .int .u8 0, .int .u8 0, .int .u8 0, .int .u8 0, .int .u8 0, .int .u8 0, .int .u8 0, .int .u8 0, .int .u8 0, .int .u8 0, .int .i64 0, .int .i64 0] : List Value) (putR F (some 64) (u32V W)) [(0, 1, .t 64)] = some (vpL (vpZ W)) := fun F => rfl
    obtain ⟨zr, hzr⟩ : ∃ zr : List Value, zr = [.int .u32 0, .bool false, .int .u8 0, .int .u8 0, .int .u8 0, .int .u8 0, .int .u8 0, .int .u8 0, .int .u8 0, .int .u8 0, .int .u8 0, .int .u8 0, .int .u8 0, .int .u8 0, .int .u8 0, .int .u8 0, .int .u8 0, .int .u8 0, .int .i64 0, .int .i64 0] := ⟨_, rfl⟩
    have hzl : zr.length = 20 := by rw [hzr]; rfl
    rw [← hzr] at hf
    have hsp : ∀ v', v'.a.length = 16 → splice zr 0 (vpL v') = vpL v' := fun v' hv => by
      unfold splice
      rw [List.take_zero, List.nil_append, Nat.zero_add, List.drop_of_length_le (by rw [hzl, vpL_len hv]; omega), List.append_nil]
    obtain ⟨a3, cl3, ro3, rfl, u2, u3, u4, u5⟩ := e3.row.cells (by omega)
    obtain ⟨B0, m0', d0, A0', n0', c0', ks0, N0', p0, v0⟩ := e3.kid (i := 0) (by omega)
    obtain ⟨B1, m1', d1, A1', n1', c1', ks1, N1', p1, v1⟩ := e3.kid (i := 1) (by omega)
    obtain ⟨B2, m2', d2, A2', n2', c2', ks2, N2', p2, v2⟩ := e3.kid (i := 2) (by omega)
    have w0 := (e3.row.load rfl u3 (j := 0 * 3) (k := 3) (by omega) (by omega)).trans p0
    have w1 := (e3.row.load rfl u3 (j := 1 * 3) (k := 3) (by omega) (by omega)).trans p1
    have w2 := (e3.row.load rfl u3 (j := 2 * 3) (k := 3) (by omega) (by omega)).trans p2
    simp only [Nat.zero_mul, Nat.add_zero, Nat.one_mul, Nat.reduceMul] at w0 w1 w2
    have hx3 : (a3.block = x) = False := by simp; omega
    have hcz : cellsV (.agg (vpL (vpZ W)).toArray) = some (vpL (vpZ W)) := rfl
    simp only [↓gaH, gaP, simprocAttr, f6, not_true_eq_false, decide_false, hWv, ← hzr, hf, asO_e, hcz, hsp (vpZ W) rfl, vpL_len (show (vpZ W).a.length = 16 from rfl), hzl, hx3, u3, w0]
    repeat refine And.intro (by omega) ?_
    refine And.intro (vpL_cells _) ?_
    repeat refine And.intro (by omega) ?_
    obtain ⟨g8, hg8⟩ : ∃ g', g' = upd (upd g x (some (.cells zr false))) x (some (.cells (vpL (vpZ W)) false)) := ⟨_, rfl⟩
    have hy8 : g8 x = some (.cells (vpL (vpZ W)) false) := by rw [hg8]; simp only [upd_e, if_true]
    have F8 : ∀ p, p < x → g8 p = g p := fun p hp => by rw [hg8]; simp only [upd_e]; rw [if_neg (by omega), if_neg (by omega)]
    rw [← hg8]
    clear hg8
    have M0' := N0'.keep (x' := x + 1) (g := g8) (by omega) F8
    refine callK_of (ct_rTrue M0' (by omega)) (fun v x9 g9 l9 k9 hC => ?_) (by omega)
    subst hC
    have hy9 : g9 x = some (.cells (vpL (vpZ W)) false) := by rw [k9 x (by omega), hy8]
    have F9 : ∀ p, p < x → g9 p = g p := fun p hp => by rw [k9 p (by omega), F8 p hp]
    have u39 : g9 a3.block = some (.cells cl3 ro3) := by rw [F9 _ u2, u3]
    have M1' := N1'.keep (x' := x9) (g := g9) (by omega) F9
    simp only [↓gaH, gaP, simprocAttr, u39, w1]
    repeat refine And.intro (by omega) ?_
    refine callK_of (ct_rOf M1' (by omega)) (fun v x10 g10 l10 k10 hC => ?_) (by omega)
    obtain ⟨uu, rfl, Au, nu, cu, rfl, hcu, hlu, ru⟩ := hC
    have hy10 : g10 x = some (.cells (vpL (vpZ W)) false) := by rw [k10 x (by omega), hy9]
    have F10 : ∀ p, p < x → g10 p = g p := fun p hp => by rw [k10 p (by omega), F9 p hp]
    have u310 : g10 a3.block = some (.cells cl3 ro3) := by rw [F10 _ u2, u3]
    have M2' := N2'.keep (x' := x10) (g := g10) (by omega) F10
    simp only [↓gaH, gaP, simprocAttr, u310, w2]
    repeat refine And.intro (by omega) ?_
    refine callK_of (ct_rUint M2' (by omega)) (fun v x11 g11 l11 k11 hC => ?_) (by omega)
    subst hC
    have hy11 : g11 x = some (.cells (vpL (vpZ W)) false) := by rw [k11 x (by omega), hy10]
    have F11 : ∀ p, p < x → g11 p = g p := fun p hp => by rw [k11 p (by omega), F10 p hp]
    have ru11 := ru.keep (nx' := x11) (gt' := g11) l11 k11
    obtain ⟨v6, hv6⟩ : ∃ v6, v6 = (trueR (Vr.kid z.k 0)).1 := ⟨_, rfl⟩
    obtain ⟨many, hmany⟩ : ∃ many, many = (ofR (Vr.kid z.k 1)).2.1 := ⟨_, rfl⟩
    obtain ⟨tl, htl⟩ : ∃ tl, tl = (ofR (Vr.kid z.k 1)).1 := ⟨_, rfl⟩
    obtain ⟨top, htop⟩ : ∃ top, top = (uintR (Vr.kid z.k 2)).1 := ⟨_, rfl⟩
    rw [← htl] at ru11 hlu
    obtain ⟨z16, hz16⟩ : ∃ z16 : List UInt8, z16 = List.replicate 16 0 := ⟨_, rfl⟩
    have hs1 : splice (vpL (vpZ W)) 1 [.bool v6] = vpL ⟨W, v6, z16, 0, 0⟩ := by rw [hz16]; rfl
    have hs2 : splice (vpL ⟨W, v6, z16, 0, 0⟩) 18 [.int .i64 many] = vpL ⟨W, v6, z16, many, 0⟩ := by rw [hz16]; rfl
    have hl1 : (vpL ⟨W, v6, z16, 0, 0⟩).length = 20 := by rw [hz16]; rfl
    have hl0 : (vpL (vpZ W)).length = 20 := rfl
    simp only [↓gaH, gaP, simprocAttr, ← hv6, ← hmany, ← htop, hy11, hs1, hs2, hl1, hl0]
    repeat refine And.intro (by omega) ?_
    refine And.intro (all1 rfl) ?_
    repeat refine And.intro (by omega) ?_
    refine And.intro (all1 rfl) ?_
    obtain ⟨g12, hg12⟩ : ∃ g', g' = upd (upd g11 x (some (.cells (vpL ⟨W, v6, z16, 0, 0⟩) false))) x (some (.cells (vpL ⟨W, v6, z16, many, 0⟩) false)) := ⟨_, rfl⟩
    have hy12 : g12 x = some (.cells (vpL ⟨W, v6, Vr.pad (tl.take 0), many, 0⟩) false) := by rw [hg12]; simp only [upd_e, if_true]; rw [hz16]; rfl
    have F12 : ∀ p, p ≠ x → g12 p = g11 p := fun p hp => by rw [hg12]; simp only [upd_e]; rw [if_neg hp, if_neg hp]
    rw [← hg12]
    clear hg12
    refine loop_of (fun j f' mm => ∃ (k : Nat) (g' : Nat → Option Blk), j = 16 - k ∧ k ≤ 16 ∧ k ≤ nu ∧ f' 0 = .slice A n c ∧ f' 4 = .pointer (some ⟨x1, 0, none⟩) ∧ f' 6 = .int .u64 (w : Nat) ∧ f' 8 = .slice A7 i i ∧ f' 9 = .int .i64 (i : Nat) ∧ f' 11 = .pointer (some ⟨x, 0, none⟩) ∧ f' 14 = .slice Au nu cu ∧ f' 17 = .int .u64 (top : Nat) ∧ f' 19 = .int .i64 (k : Nat) ∧
      mm = ⟨x11, b, g'⟩ ∧ (∀ p, p ≠ x → g' p = g11 p) ∧ g' x = some (.cells (vpL ⟨W, v6, Vr.pad (tl.take k), many, 0⟩) false)) 16 ?_ ?_
    · exact ⟨0, g12, rfl, by omega, by omega, (by simp only [↓gaH, gaP, simprocAttr, f0]), (by simp only [↓gaH, gaP, simprocAttr, f4]), (by simp only [↓gaH, gaP, simprocAttr, f6]), (by simp only [↓gaH, gaP, simprocAttr, f8]), (by simp only [↓gaH, gaP, simprocAttr, f9]), (by simp only [↓gaH, gaP, simprocAttr]; try rfl), (by simp only [↓gaH, gaP, simprocAttr]; try rfl), (by simp only [↓gaH, gaP, simprocAttr]; try rfl), (by simp only [↓gaH, gaP, simprocAttr]; try rfl), rfl, F12, hy12⟩
    rintro j f' mm ⟨k, g', rfl, hk16, hknu, q0', q4, q6, q8, q9, q11, q14, q17, q19, rfl, F', hy'⟩
    obtain ⟨m1, m2, m3⟩ := ofR_many (Vr.kid z.k 1)
    rw [← hmany, ← htl] at m2
    rw [← hmany] at m1
    rw [← htl] at m3
    have kb : (Vr.kid z.k 1).b.length ≤ 20000 := by
      have : (Vr.kid z.k 1).f.ws = 1 + (Vr.kid z.k 1).b.length + (Vr.kid z.k 1).k.ws := by simp only [Fo.El.f, Fo.ws]; omega
      omega
    obtain ⟨v', hvd⟩ : ∃ v' : Vp, v' = ⟨W, v6, Vr.pad tl, many, ((min top 1000 : Nat) : Int)⟩ := ⟨_, rfl⟩
    have hvw : v'.wf := by rw [hvd]; exact ⟨Vr.pad_len _, by simp only; omega, by simp only; omega⟩
    have ho : Vr.lenR W z = some v' := by
      unfold Vr.lenR
      rw [if_pos e3.len.symm, hvd, hv6, hmany, htl, htop]
    have hmn : IntKind.i64.wrap (if (1000 : Int) < (top : Int) then 1000 else (top : Int)) = ((min top 1000 : Nat) : Int) := by
      rw [i64_w _ (by split <;> omega)]; split <;> omega
    have hsm : splice (vpL ⟨W, v6, Vr.pad tl, many, 0⟩) 19 [.int .i64 ((min top 1000 : Nat) : Int)] = vpL v' := by rw [hvd]; exact splice_mx (Vr.pad_len tl)
    have htk : (vpL v').take 20 = vpL v' := List.take_of_length_le (by rw [vpL_len hvw.a]; omega)
    have f1 : ∀ (F : Regs) (i : Nat), F i = vpV v' → fillL zr F [(0, 20, .t i)] = some (vpL v') := fun F i h => by
      unfold fillL
      rw [show Rv.ev F (.t i) = F i from rfl, h, cv_vp]
      simp only
      rw [if_pos ⟨vpL_len hvw.a, by omega⟩, hsp _ hvw.a]
      rfl
    simp only [↓gaH, gaP, simprocAttr, q14, q19]
    by_cases c1 : (k : Int) < (nu : Int)
    case neg =>
      simp only [↓gaH, gaP, simprocAttr, c1, decide_false]
      rw [pad_full tl (i := k) (by omega)] at hy'
      simp only [↓gaH, gaP, simprocAttr, q8, q9, q11, q17, hy', hmn, hsm, vpL_len (show (⟨W, v6, Vr.pad tl, many, 0⟩ : Vp).a.length = 16 from Vr.pad_len _), vpL_len hvw.a, List.drop_zero, htk]
      repeat refine And.intro (by omega) ?_
      refine And.intro (all1 rfl) ?_
      repeat refine And.intro (by omega) ?_
      rw [f1 _ 117 (by simp only [↓gaH, gaP, simprocAttr]; try rfl)]
      simp only [asO_e]
      obtain ⟨g14, hg14⟩ : ∃ g14, g14 = upd (upd g' x (some (.cells (vpL v') false))) x11 (some (.cells (vpL v') false)) := ⟨_, rfl⟩
      have hlit : Row (x11 + 1) g14 20 (some ⟨x11, 0, none⟩) 20 (vpL v') := Row.lit (ro := false) (by omega) (by rw [hg14]; simp only [upd_e, if_true]) (vpL_len hvw.a)
      have F14 : ∀ p, p < x → g14 p = g p := fun p hp => by rw [hg14]; simp only [upd_e]; rw [if_neg (by omega), if_neg (by omega), F' p (by omega), F11 p hp]
      rw [← hg14]
      clear hg14
      rw [hlit.rowOf]
      simp only [asO_e]
      refine own_append (nx := x5) (hOwn.keep (x' := x11 + 1) (by omega) F14) (by omega) (by omega) (by omega) (by omega) (vpL_len hvw.a) (vpL_cells _) (by omega) (by omega) fun g15 F15 hOwn15 => ?_
      simp only [↓gaH, gaP, simprocAttr, loopK_n, i64_w ((i : Int) + 1) (by omega), q9]
      refine ⟨n4 - (i + 1), by omega, i + 1, x11 + 1 + 1, g15, some ⟨x11 + 1, 0, some 20⟩, l7 ++ [v'], pre'.app z.f, post', rfl, by omega, ?_, ?_, Vr.goR_snoc hgoW ho, by simp [hll], ?_, by simp only [↓gaH, gaP, simprocAttr, q0'], by simp only [↓gaH, gaP, simprocAttr, q4], by simp only [↓gaH, gaP, simprocAttr, q6], ?_, ?_, rfl, by omega, fun p hp => by rw [F15 p hp, F14 p (by omega), F p hp], ?_⟩
      · rw [← Fo.app_one]; exact e1
      · rw [Fo.len_app, hpl]; rfl
      · intro u hu
        rcases List.mem_append.1 hu with h | h
        · exact hwf u h
        · rw [List.mem_singleton.1 h]; exact hvw
      · rfl
      · rfl
      · rw [vpsL_app]
        simpa only [vpsL, List.append_nil] using hOwn15
    by_cases c2 : (k : Int) < 16
    case neg =>
      simp only [↓gaH, gaP, simprocAttr, q19, c1, c2, decide_true, decide_false]
      rw [pad_full tl (i := k) (by omega)] at hy'
      simp only [↓gaH, gaP, simprocAttr, q8, q9, q11, q17, hy', hmn, hsm, vpL_len (show (⟨W, v6, Vr.pad tl, many, 0⟩ : Vp).a.length = 16 from Vr.pad_len _), vpL_len hvw.a, List.drop_zero, htk]
      repeat refine And.intro (by omega) ?_
      refine And.intro (all1 rfl) ?_
      repeat refine And.intro (by omega) ?_
      rw [f1 _ 117 (by simp only [↓gaH, gaP, simprocAttr]; try rfl)]
      simp only [asO_e]
      obtain ⟨g14, hg14⟩ : ∃ g14, g14 = upd (upd g' x (some (.cells (vpL v') false))) x11 (some (.cells (vpL v') false)) := ⟨_, rfl⟩
      have hlit : Row (x11 + 1) g14 20 (some ⟨x11, 0, none⟩) 20 (vpL v') := Row.lit (ro := false) (by omega) (by rw [hg14]; simp only [upd_e, if_true]) (vpL_len hvw.a)
      have F14 : ∀ p, p < x → g14 p = g p := fun p hp => by rw [hg14]; simp only [upd_e]; rw [if_neg (by omega), if_neg (by omega), F' p (by omega), F11 p hp]
      rw [← hg14]
      clear hg14
      rw [hlit.rowOf]
      simp only [asO_e]
      refine own_append (nx := x5) (hOwn.keep (x' := x11 + 1) (by omega) F14) (by omega) (by omega) (by omega) (by omega) (vpL_len hvw.a) (vpL_cells _) (by omega) (by omega) fun g15 F15 hOwn15 => ?_
      simp only [↓gaH, gaP, simprocAttr, loopK_n, i64_w ((i : Int) + 1) (by omega), q9]
      refine ⟨n4 - (i + 1), by omega, i + 1, x11 + 1 + 1, g15, some ⟨x11 + 1, 0, some 20⟩, l7 ++ [v'], pre'.app z.f, post', rfl, by omega, ?_, ?_, Vr.goR_snoc hgoW ho, by simp [hll], ?_, by simp only [↓gaH, gaP, simprocAttr, q0'], by simp only [↓gaH, gaP, simprocAttr, q4], by simp only [↓gaH, gaP, simprocAttr, q6], ?_, ?_, rfl, by omega, fun p hp => by rw [F15 p hp, F14 p (by omega), F p hp], ?_⟩
      · rw [← Fo.app_one]; exact e1
      · rw [Fo.len_app, hpl]; rfl
      · intro u hu
        rcases List.mem_append.1 hu with h | h
        · exact hwf u h
        · rw [List.mem_singleton.1 h]; exact hvw
      · rfl
      · rfl
      · rw [vpsL_app]
        simpa only [vpsL, List.append_nil] using hOwn15
    have row' := keepY (i := k) ru11 hlu hy11 F' hy'
    obtain ⟨au, ce, rou, rfl, t2, t3, t4, t5⟩ := row'.cells (by omega)
    have tk := t5 k (by omega)
    rw [getD_u8 (by omega)] at tk
    have hst : splice (vpL ⟨W, v6, Vr.pad (tl.take k), many, 0⟩) (2 + k) [.int .u8 ((tl.getD k 0).toNat : Nat)] = vpL ⟨W, v6, Vr.pad (tl.take (k + 1)), many, 0⟩ := splice_step (by omega) (by omega)
    simp only [↓gaH, gaP, simprocAttr, c1, c2, decide_true, q11, q14, q19, t3, tk, hy', hst, vpL_len (show (⟨W, v6, Vr.pad (tl.take k), many, 0⟩ : Vp).a.length = 16 from Vr.pad_len _)]
    refine And.intro (by omega) (And.intro (by omega) (And.intro (by omega) (And.intro (by omega) (And.intro (by omega) (And.intro (all1 rfl) ?_)))))
    refine ⟨16 - (k + 1), by omega, k + 1, upd g' x (some (.cells (vpL ⟨W, v6, Vr.pad (tl.take (k + 1)), many, 0⟩) false)), rfl, by omega, by omega, by simp only [↓gaH, gaP, simprocAttr, q0'], by simp only [↓gaH, gaP, simprocAttr, q4], by simp only [↓gaH, gaP, simprocAttr, q6], by simp only [↓gaH, gaP, simprocAttr, q8], by simp only [↓gaH, gaP, simprocAttr, q9], by simp only [↓gaH, gaP, simprocAttr, q11], by simp only [↓gaH, gaP, simprocAttr, q14], by simp only [↓gaH, gaP, simprocAttr, q17], ?_, ?_, ?_, ?_⟩
    · first | (simp only [↓gaH, gaP, simprocAttr, i64_w ((k : Int) + 1) (by omega)]; done) | (simp only [↓gaH, gaP, simprocAttr, i64_w ((k : Int) + 1) (by omega)]; rfl)
    · rfl
    · intro p hp; simp only [upd_e]; rw [if_neg hp, F' p hp]
    · simp only [upd_e, if_true]
  · have hin : i = n4 := by omega
    subst hin
    have hpF := (Fo.app_end eF (by omega)).1
    subst hpF
    simp only [↓gaH, gaP, simprocAttr, f8, hgo]
    refine callK_of (ct_rMake (l := l7) ⟨hOwn.row, hll, hwf⟩ (Nat.le_refl _) (by omega)) (fun v x6 g6 l6 k6 hC => ?_) (by omega)
    have F6 : ∀ p, p < nx → g6 p = gt p := fun p hp => by rw [k6 p (by omega), F p (by omega), F5 p hp]
    cases hM : Vr.makeR l7 with
    | error e =>
      rw [hM] at hC
      have hC : v = _ := hC
      subst hC
      have e0 : ¬ (e : Int) = 0 := by
        unfold Vr.makeR at hM
        split at hM
        · unfold Fo.wr at hM
          split at hM
          · injection hM with hM; omega
          · split at hM
            · injection hM with hM; omega
            · split at hM
              · injection hM with hM; omega
              · cases hM
        · injection hM with hM; omega
      simp only [↓gaH, gaP, simprocAttr, gaE, e0, not_false_eq_true, decide_true]
      exact ⟨by omega, F6, rfl⟩
    | ok c8 =>
      rw [hM] at hC
      obtain ⟨A8, N8, rfl, hl8, R8⟩ := hC
      have e8 : rowOf ⟨x6, b, g6⟩ A8 N8 = some (c8.map u8V) := R8.rowOf
      have eA : rowOf ⟨x6, b, g6⟩ A n = some (l.map u8V) := (hA.keep (nx' := x6) (by omega) F6).rowOf
      simp only [↓gaH, gaP, simprocAttr, f0, e8, eA, bytesOf_map, str_eq]
      by_cases hq : c8 = l
      · simp only [↓gaH, gaP, simprocAttr, gaE, hq, beq_self_eq_true, Bool.not_true]
        exact ⟨by omega, F6, _, _, by rw [f8], ⟨hOwn.row.keep l6 k6, hll, hwf⟩⟩
      · have hq' : (c8 == l) = false := by simpa using hq
        simp only [↓gaH, gaP, simprocAttr, gaE, hq, hq', Bool.not_false]
        exact ⟨by omega, F6, rfl⟩
end
end Go.Ga

namespace Go.Ga
open Go Go.Proofs
set_option maxRecDepth 100000
section
variable {nx : Nat} {gt : Nat → Option Blk}
theorem ct_RoaReads {A B : Option Addr} {n c k d : Nat} {l : List Vp} {s : List UInt8} (hr : VpR nx gt A n l) (hc : n ≤ c) (hB : Row nx gt 1 B k (s.map u8V)) (hd : k ≤ d) : Ct Tryd.prog 3 [.slice A n c, .slice B k d] nx gt fun r _ _ => r = .bool true := by
  refine Ct.of hmx r_lanyardlaw18_RoaReads (by simp [c_lanyardlaw18_RoaReads]) fun b hb => ?_
  have hl := hr.len
  simp only [c_lanyardlaw18_RoaReads, ↓gaH, gaP, simprocAttr]
  refine callK_of ct_awake (fun r x1 g1 l1 k1 hC => ?_) (by omega)
  subst hC
  by_cases hbig : (450 : Int) < (n : Int)
  · simp only [↓gaH, gaP, simprocAttr, gaE, hbig, decide_true]
    exact ⟨by omega, k1⟩
  by_cases hbig2 : (20000 : Int) < (k : Int)
  · simp only [↓gaH, gaP, simprocAttr, gaE, hbig, hbig2, decide_true, decide_false]
    exact ⟨by omega, k1⟩
  simp only [↓gaH, gaP, simprocAttr, hbig, hbig2, decide_false]
  refine callK_of (ct_Make (hr.keep l1 k1) hc (by omega)) (fun r x2 g2 l2 k2 hC => ?_) (by omega)
  obtain ⟨enc, e, A2, N2, rfl, hl2, R2, hE⟩ := hC.some
  have F2 : ∀ p, p < nx → g2 p = gt p := fun p hp => by rw [k2 p (by omega), k1 p hp]
  simp only [↓gaH, gaP, simprocAttr]
  repeat refine And.intro (by omega) ?_
  refine callK_of (ct_rMake (hr.keep (x := x2) (by omega) F2) hc (by omega)) (fun r x3 g3 l3 k3 hC => ?_) (by omega)
  obtain ⟨enc', e', A3, N3, rfl, hl3, R3, hE'⟩ := hC.some
  have hee : enc' = enc ∧ e' = e := by
    rcases hE with ⟨h1, h2⟩ | ⟨h1, h2⟩ <;> rcases hE' with ⟨h3, h4⟩ | ⟨h3, h4⟩ <;> rw [h1] at h3
    · injection h3 with h3; exact ⟨h3.symm, by omega⟩
    · cases h3
    · cases h3
    · injection h3 with h3; exact ⟨by rw [h2, h4], h3.symm⟩
  obtain ⟨rfl, rfl⟩ := hee
  have F3 : ∀ p, p < nx → g3 p = gt p := fun p hp => by rw [k3 p (by omega), F2 p hp]
  have R2' := R2.keep l3 k3
  simp only [↓gaH, gaP, simprocAttr]
  repeat refine And.intro (by omega) ?_
  refine callK_of (ct_RRead (l := s) (hB.keep (nx' := x3) (by omega) F3) hd (by omega)) (fun r x4 g4 l4 k4 hC => ?_) (by omega)
  obtain ⟨got, e4, A4, N4, rfl, r4, hR⟩ := hC.some
  have F4 : ∀ p, p < nx → g4 p = gt p := fun p hp => by rw [k4 p (by omega), F3 p hp]
  have R2' := R2'.keep l4 k4
  have R3' := R3.keep l4 k4
  simp only [↓gaH, gaP, simprocAttr]
  repeat refine And.intro (by omega) ?_
  refine callK_of (ct_rRRead (l := s) (hB.keep (nx' := x4) (by omega) F4) hd (by omega)) (fun r x5 g5 l5 k5 hC => ?_) (by omega)
  obtain ⟨got', e5, A5, N5, rfl, r5, hR'⟩ := hC.some
  have hgg : got' = got ∧ e5 = e4 := by
    rw [Vr.prog_ref] at hR
    rcases hR with ⟨h1, h2⟩ | ⟨h1, h2⟩ <;> rcases hR' with ⟨h3, h4⟩ | ⟨h3, h4⟩ <;> rw [h1] at h3
    · injection h3 with h3; exact ⟨h3.symm, by omega⟩
    · cases h3
    · cases h3
    · injection h3 with h3; exact ⟨by rw [h2, h4], h3.symm⟩
  obtain ⟨rfl, rfl⟩ := hgg
  have hlg : got'.length < 1000000 := by
    rcases hR with ⟨h1, h2⟩ | ⟨h1, h2⟩
    · have := (Vr.prog_make h1).2; omega
    · rw [h2]; simp
  have hN4 := r4.len
  have F5 : ∀ p, p < nx → g5 p = gt p := fun p hp => by rw [k5 p (by omega), F4 p hp]
  have R2' := R2'.keep l5 k5
  have R3' := R3'.keep l5 k5
  simp only [↓gaH, gaP, simprocAttr]
  repeat refine And.intro (by omega) ?_
  refine callK_of (ct_VSame (r4.keep l5 k5) (Nat.le_refl _) r5 (Nat.le_refl _) (by omega)) (fun r x6 g6 l6 k6 hC => ?_) (by omega)
  subst hC
  have F6 : ∀ p, p < nx → g6 p = gt p := fun p hp => by rw [k6 p (by omega), F5 p hp]
  have e2 : rowOf ⟨x6, b, g6⟩ A2 N2 = some (enc'.map u8V) := (R2'.keep l6 k6).rowOf
  have e3 : rowOf ⟨x6, b, g6⟩ A3 N3 = some (enc'.map u8V) := (R3'.keep l6 k6).rowOf
  simp only [↓gaH, gaP, simprocAttr, e2, e3, bytesOf_map, str_eq, beq_self_eq_true, decide_true]
  refine callK_of (ct_VRight (hr.keep (x := x6) (by omega) F6) hc (by omega)) (fun r x7 g7 l7 k7 hC => ?_) (by omega)
  subst hC
  have F7 : ∀ p, p < nx → g7 p = gt p := fun p hp => by rw [k7 p (by omega), F6 p hp]
  simp only [↓gaH, gaP, simprocAttr]
  refine callK_of (ct_rVRight (hr.keep (x := x7) (by omega) F7) hc (by omega)) (fun r x8 g8 l8 k8 hC => ?_) (by omega)
  subst hC
  simp only [↓gaH, gaP, simprocAttr, gaE, beq_self_eq_true]
  exact ⟨by omega, fun p hp => by rw [k8 p (by omega), F7 p hp]⟩
end
end Go.Ga

namespace Go.Ga
open Go
section
variable {P : Program} {H : Type} {enc : TypeId × Value → H} {w : World} {base : Nat} {sp : Nat → Bool} {held : Bool} {t e : TypeId} {n : Nat} {k : IntKind}
def intOf : Option Value → Int
  | some (.int _ z) => z
  | _ => 0
def arrD (k : IntKind) (zs : List Int) : DataW H := .agg (zs.map fun z => .lit (.int k z))
end
end Go.Ga

namespace Go.Ga
open Go
theorem wf_u32 {n : Int} (h : (Lit.int .u32 n).wf = true) : 0 ≤ n ∧ n ≤ 4294967295 := by
  have := (Lit.wf_int_iff _ _).1 h
  simpa [IntKind.min, IntKind.max, IntKind.signed, IntKind.bits] using this
end Go.Ga

namespace Go.Ga
open Go
section
variable {H : Type} {enc : TypeId × Value → H} {P : Program} {w : World} {held : Bool} {f : Nat} {t : TypeId} {cs : List Value}
def Shp (enc : TypeId × Value → H) (P : Program) (w : World) (held : Bool) (f : Nat) (t : TypeId) (cs : List Value) : Prop := ∃ x, DataW.trod enc P w 0 (fun _ => true) held f t cs = some x
theorem Shp.int {k : IntKind} (ht : P.underlying t = some (.int k)) (h : Shp enc P w held f t cs) : ∃ n, cs = [.int k n] ∧ (Lit.int k n).wf = true := by
  obtain ⟨x, hx⟩ := h
  obtain ⟨n, h1, _, h2⟩ := DataW.trod_int ht hx
  exact ⟨n, h1, h2⟩
theorem Shp.bool (ht : P.underlying t = some .bool) (h : Shp enc P w held f t cs) : ∃ b, cs = [.bool b] := by
  obtain ⟨x, hx⟩ := h
  obtain ⟨n, h1, _⟩ := DataW.trod_bool ht hx
  exact ⟨n, h1⟩
theorem Shp.string (ht : P.underlying t = some .string) (h : Shp enc P w held f t cs) : ∃ s : ByteArray, cs = [.string s] ∧ s.size ≤ maxLen := by
  obtain ⟨x, hx⟩ := h
  obtain ⟨n, h1, _, h2⟩ := DataW.trod_string ht hx
  exact ⟨n, h1, h2⟩
theorem Shp.struct {fs : Array Field} (ht : P.underlying t = some (.struct fs)) (h : Shp enc P w held f t cs) :
    ∃ n, f = n + 1 ∧ cs.length = P.cellsOf t ∧ ∀ (i : Nat) (fl : Field), fs[i]? = some fl → Shp enc P w held n fl.type ((cs.drop fl.offset).take (P.cellsOf fl.type)) := by
  obtain ⟨x, hx⟩ := h
  obtain ⟨xs, n, h1, _, h2, h3, h4⟩ := DataW.trod_struct ht hx
  refine ⟨n, h1, h2, fun i fl hi => ?_⟩
  have hlt : i < xs.length := by
    rw [h3]
    exact (Array.getElem?_eq_some_iff.1 hi).1
  exact ⟨xs[i], by rw [h4 i fl hi, List.getElem?_eq_getElem hlt]⟩
theorem Shp.array {m : Nat} {e : TypeId} (ht : P.underlying t = some (.array m e)) (h : Shp enc P w held f t cs) :
    ∃ n, f = n + 1 ∧ cs.length = P.cellsOf t ∧ ∀ i, i < m → Shp enc P w held n e ((cs.drop (i * P.cellsOf e)).take (P.cellsOf e)) := by
  obtain ⟨x, hx⟩ := h
  obtain ⟨xs, n, h1, _, h2, h3, h4⟩ := DataW.trod_array ht hx
  exact ⟨n, h1, h2, fun i hi => ⟨xs[i]'(by omega), by rw [h4 i hi, List.getElem?_eq_getElem (by omega)]⟩⟩
theorem cells_all {w : World} {a : Addr} {N : Nat} {g : Nat → Value} (hN : 0 < N) (h : ∀ i, i < N → w.cell? (a.add i) = some (g i)) :
    a.spot = none ∧ isCells w a.block = true ∧ a.block < w.heap.size ∧ ∃ ce : List Value, (m0 w).get a.block = some (.cells (ce.map (absC w)) true) ∧ a.off + N ≤ ce.length ∧ ∀ i, i < N → ce[a.off + i]? = some (g i) := by
  have c0 := h 0 hN
  have hx : a.add 0 = a := by simp [Addr.add]
  rw [hx] at c0
  unfold World.cell? at c0
  split at c0
  · rename_i ce el fr hb
    have hsp : a.spot = none := by
      by_cases h : a.spot.isSome
      · rw [if_pos h] at c0; cases c0
      · simpa using h
    have hlt : a.block < w.heap.size := by
      rcases Nat.lt_or_ge a.block w.heap.size with h | h
      · exact h
      · rw [Array.getElem?_eq_none h] at hb; cases hb
    have hcell : ∀ i, i < N → ce.toList[a.off + i]? = some (g i) := by
      intro i hi
      have := h i hi
      unfold World.cell? Addr.add at this
      by_cases h0 : i = 0
      · subst h0
        simp only [if_true, hb, hsp] at this
        simpa using this
      · simp only [if_neg h0, hb] at this
        simpa using this
    refine ⟨hsp, by simp [isCells, hb], hlt, ce.toList, by simp [m0, hb], ?_, hcell⟩
    have := hcell (N - 1) (by omega)
    rcases Nat.lt_or_ge (a.off + (N - 1)) ce.toList.length with h | h
    · omega
    · rw [List.getElem?_eq_none h] at this; cases this
  · cases c0
theorem add_addr {a : Addr} {i j : Nat} (_ : a.spot = none) : (a.add i).add j = a.add (i + j) := by
  unfold Addr.add
  by_cases h1 : i = 0 <;> by_cases h2 : j = 0 <;> simp [h1, h2, Nat.add_assoc]
theorem Shp.slice {e : TypeId} (ht : P.underlying t = some (.slice e)) (hc : 0 < P.cellsOf e) (h : Shp enc P w held f t cs) :
    ∃ n v A len cap, ∃ l : List Value, f = n + 1 ∧ cs = [v] ∧ absC w v = .slice A len cap ∧ len ≤ cap ∧ Row w.heap.size (m0 w).get (P.cellsOf e) A (len * P.cellsOf e) (l.map (absC w)) ∧ l.length = len * P.cellsOf e ∧
      ∀ i, i < len → Shp enc P w held n e ((l.drop (i * P.cellsOf e)).take (P.cellsOf e)) := by
  obtain ⟨x, hx⟩ := h
  rcases DataW.trod_slice ht hx with ⟨rfl, _⟩ | ⟨a, len, cap, elems, rest, n, rfl, rfl, _, _, hl, hm, he, hel, hsp, _⟩
  · cases f with
    | zero => simp [DataW.trod] at hx
    | succ n => exact ⟨n, _, none, 0, 0, [], rfl, rfl, rfl, Nat.le_refl _, by rw [Nat.zero_mul]; exact .nil, by simp, fun i hi => absurd hi (Nat.not_lt_zero i)⟩
  · obtain ⟨hr, hrest⟩ := hsp rfl
    have one : ∀ i, i < cap → ∃ cs', w.cells? 0 (a.add (i * P.cellsOf e)) (P.cellsOf e) = some cs' ∧ Shp enc P w held n e cs' := by
      intro i hi
      rcases Nat.lt_or_ge i len with h | h
      · have h1 := hel i h
        rw [List.getElem?_eq_getElem (by omega), Option.bind_eq_some_iff] at h1
        obtain ⟨cs', h1, h2⟩ := h1
        exact ⟨cs', h1, _, h2⟩
      · have h1 := hrest (i - len) (by omega)
        rw [List.getElem?_eq_getElem (by omega), Option.bind_eq_some_iff, show len + (i - len) = i by omega] at h1
        obtain ⟨cs', h1, h2⟩ := h1
        exact ⟨cs', h1, _, h2⟩
    rcases Nat.eq_zero_or_pos cap with h0 | h0
    · subst h0
      have : len = 0 := by omega
      subst this
      exact ⟨n, _, some ⟨a.block, a.off, none⟩, 0, 0, [], rfl, rfl, by simp [absC], Nat.le_refl _, ⟨fun a ha => by injection ha with ha; subst ha; exact .inl rfl, by simp, fun h => by rw [Nat.zero_mul] at h; exact absurd h (Nat.lt_irrefl 0)⟩, by simp, fun i hi => absurd hi (Nat.not_lt_zero i)⟩
    · obtain ⟨cs0, hc0, ht0⟩ := one 0 h0
      obtain ⟨_, hl0, hg0⟩ := World.cells?_some hc0
      have hx0 : a.add (0 * P.cellsOf e) = a := by simp [Addr.add]
      rw [hx0] at hg0
      have hspot : a.spot = none := by
        refine (cells_all (w := w) (a := a) (N := 1) (g := fun i => cs0.getD 0 undef) (by omega) fun i hi => ?_).1
        have : i = 0 := by omega
        subst this
        rw [hg0 0 hc, List.getD_eq_getElem?_getD, List.getElem?_eq_getElem (by omega)]
        rfl
      have hpos : 0 < cap * P.cellsOf e := Nat.mul_pos h0 hc
      have hall : ∀ j, j < cap * P.cellsOf e → ∃ v, w.cell? (a.add j) = some v := by
        intro j hj
        have hd := Nat.div_add_mod j (P.cellsOf e)
        have hm := Nat.mod_lt j hc
        obtain ⟨cs', h1, _⟩ := one (j / P.cellsOf e) ((Nat.div_lt_iff_lt_mul hc).2 hj)
        obtain ⟨_, h2, h3⟩ := World.cells?_some h1
        have h4 := h3 (j % P.cellsOf e) hm
        rw [add_addr hspot, show j / P.cellsOf e * P.cellsOf e + j % P.cellsOf e = j by rw [Nat.mul_comm]; exact hd, List.getElem?_eq_getElem (by omega)] at h4
        exact ⟨_, h4⟩
      obtain ⟨g, hg⟩ : ∃ g : Nat → Value, ∀ j, j < cap * P.cellsOf e → w.cell? (a.add j) = some (g j) := by
        refine ⟨fun j => (w.cell? (a.add j)).getD undef, fun j hj => ?_⟩
        obtain ⟨v, hv⟩ := hall j hj
        simp only [hv, Option.getD_some]
      obtain ⟨h1, h2, h3, ce, h4, h5, h6⟩ := cells_all hpos hg
      have hle : len * P.cellsOf e ≤ cap * P.cellsOf e := Nat.mul_le_mul_right _ hl
      refine ⟨n, _, some a, len, cap, (ce.drop a.off).take (len * P.cellsOf e), rfl, rfl, ?_, hl, ⟨fun a' ha => by injection ha with ha; subst ha; exact .inl h1, by simp; omega, fun _ => ⟨a, _, true, rfl, h3, h4, by simp; omega, fun i hi => ?_⟩⟩, by simp; omega, fun i hi => ?_⟩
      · obtain ⟨ab, ao, asp⟩ := a
        simp only at h1
        subst h1
        simp [absC, show cap ≠ 0 by omega, hl, h2]
      · rw [List.getD_eq_getElem?_getD, List.getD_eq_getElem?_getD, List.getElem?_map, List.getElem?_map, List.getElem?_take_of_lt hi, List.getElem?_drop]
      · obtain ⟨cs', e1, e2⟩ := one i (by omega)
        obtain ⟨_, e3, e4⟩ := World.cells?_some e1
        have hik : i * P.cellsOf e + P.cellsOf e ≤ len * P.cellsOf e := by
          have := Nat.mul_le_mul_right (P.cellsOf e) (show i + 1 ≤ len by omega)
          rw [Nat.add_mul, Nat.one_mul] at this
          exact this
        have : ((((ce.drop a.off).take (len * P.cellsOf e)).drop (i * P.cellsOf e)).take (P.cellsOf e)) = cs' := by
          refine List.ext_getElem? fun k => ?_
          rcases Nat.lt_or_ge k (P.cellsOf e) with hk | hk
          · rw [List.getElem?_take_of_lt hk, List.getElem?_drop, List.getElem?_take_of_lt (by omega), List.getElem?_drop, h6 _ (by omega), ← hg _ (by omega), ← add_addr h1, e4 k hk]
          · rw [List.getElem?_eq_none (by simp; omega), List.getElem?_eq_none (by omega)]
        rw [this]
        exact e2
theorem Shp.bytes {e : TypeId} (ht : P.underlying t = some (.slice e)) (he : P.underlying e = some (.int .u8)) (hc : P.cellsOf e = 1) (h : Shp enc P w held f t cs) :
    ∃ v A len cap, ∃ l : List UInt8, cs = [v] ∧ absC w v = .slice A len cap ∧ len ≤ cap ∧ Row w.heap.size (m0 w).get 1 A len (l.map u8V) := by
  obtain ⟨n, v, A, len, cap, l, rfl, h1, h2, h3, h4, h5, h6⟩ := h.slice ht (by omega)
  rw [hc, Nat.mul_one] at h4 h5
  refine ⟨v, A, len, cap, l.map fun v => UInt8.ofNat (intOf (some v)).toNat, h1, h2, h3, ?_⟩
  have : (l.map fun v => UInt8.ofNat (intOf (some v)).toNat).map u8V = l.map (absC w) := by
    rw [List.map_map]
    refine List.map_congr_left fun v hv => ?_
    obtain ⟨i, hi, rfl⟩ := List.getElem_of_mem hv
    obtain ⟨z, e1, e2⟩ := (h6 i (by omega)).int he
    have e1' : l[i] = .int .u8 z := by
      rw [hc, Nat.mul_one, List.drop_eq_getElem_cons hi] at e1
      simp only [List.take_succ_cons, List.take_zero, List.cons.injEq, and_true] at e1
      exact e1
    rw [e1']
    obtain ⟨b1, b2⟩ := wf_u8 e2
    simp only [Function.comp, intOf, u8V, absC, goodV, if_true]
    rw [UInt8.toNat_ofNat']
    congr 1
    omega
  rw [this]
  exact h4
theorem Shp.words {e : TypeId} (ht : P.underlying t = some (.slice e)) (he : P.underlying e = some (.int .u32)) (hc : P.cellsOf e = 1) (h : Shp enc P w held f t cs) :
    ∃ v A len cap, ∃ l : List UInt32, cs = [v] ∧ absC w v = .slice A len cap ∧ len ≤ cap ∧ Row w.heap.size (m0 w).get 1 A len (l.map u32V) := by
  obtain ⟨n, v, A, len, cap, l, rfl, h1, h2, h3, h4, h5, h6⟩ := h.slice ht (by omega)
  rw [hc, Nat.mul_one] at h4 h5
  refine ⟨v, A, len, cap, l.map fun v => UInt32.ofNat (intOf (some v)).toNat, h1, h2, h3, ?_⟩
  have : (l.map fun v => UInt32.ofNat (intOf (some v)).toNat).map u32V = l.map (absC w) := by
    rw [List.map_map]
    refine List.map_congr_left fun v hv => ?_
    obtain ⟨i, hi, rfl⟩ := List.getElem_of_mem hv
    obtain ⟨z, e1, e2⟩ := (h6 i (by omega)).int he
    have e1' : l[i] = .int .u32 z := by
      rw [hc, Nat.mul_one, List.drop_eq_getElem_cons hi] at e1
      simp only [List.take_succ_cons, List.take_zero, List.cons.injEq, and_true] at e1
      exact e1
    rw [e1']
    obtain ⟨b1, b2⟩ := wf_u32 e2
    simp only [Function.comp, intOf, u32V, absC, goodV, if_true]
    rw [UInt32.toNat_ofNat']
    congr 1
    omega
  rw [this]
  exact h4
theorem take_one {cs : List Value} {i : Nat} (h : i < cs.length) : (cs.drop i).take 1 = [cs[i]] := by
  rw [List.drop_eq_getElem_cons h]; rfl
end
end Go.Ga

namespace Go.Ga
open Go
def RowB (nx : Nat) (gt : Nat → Option Blk) (A : Option Addr) (n : Nat) (ls : List (List UInt8)) : Prop := ls.length = n ∧ (∀ a, A = some a → a.spot = none ∨ a.spot = some 1) ∧ (0 < n → ∃ a ce ro, A = some a ∧ a.block < nx ∧ gt a.block = some (.cells ce ro) ∧ a.off + n ≤ ce.length ∧
  ∀ i, i < n → ∃ B m d, ce.getD (a.off + i) undef = .slice B m d ∧ m ≤ d ∧ Row nx gt 1 B m ((ls.getD i []).map u8V))
theorem RowB.keep {nx gt A n ls nx' gt'} (h : RowB nx gt A n ls) (h1 : nx ≤ nx') (h2 : ∀ p, p < nx → gt' p = gt p) : RowB nx' gt' A n ls := by
  refine ⟨h.1, h.2.1, fun h0 => ?_⟩
  obtain ⟨a, ce, ro, e1, e2, e3, e4, e5⟩ := h.2.2 h0
  refine ⟨a, ce, ro, e1, by omega, by rw [h2 _ e2, e3], e4, fun i hi => ?_⟩
  obtain ⟨B, m, d, f1, f2, f3⟩ := e5 i hi
  exact ⟨B, m, d, f1, f2, f3.keep h1 h2⟩
section
variable {H : Type} {enc : TypeId × Value → H} {P : Program} {w : World} {held : Bool} {t : TypeId}
end
end Go.Ga

namespace Go.Ga
open Go
section
variable {H : Type} {enc : TypeId × Value → H} {P : Program} {w : World} {held : Bool} {t : TypeId}
end
end Go.Ga

namespace Go.Ga
open Go
theorem list_three {cs : List Value} {a b c : Value} (hl : cs.length = 3) (h0 : (cs.drop 0).take 1 = [a]) (h1 : (cs.drop 1).take 1 = [b]) (h2 : (cs.drop 2).take 1 = [c]) : cs = [a, b, c] := by
  match cs, hl with
  | [x, y, z], _ =>
    simp at h0 h1 h2
    rw [h0, h1, h2]
section
variable {H : Type} {enc : TypeId × Value → H} {P : Program} {w : World} {held : Bool} {t : TypeId}
structure NodeT (P : Program) (t ti tb tk te : TypeId) : Prop where
  str : ∃ fs : Array Field, P.underlying t = some (.struct fs) ∧ (fs[0]?).map (fun f => (f.type, f.offset)) = some (ti, 0) ∧ (fs[1]?).map (fun f => (f.type, f.offset)) = some (tb, 1) ∧ (fs[2]?).map (fun f => (f.type, f.offset)) = some (tk, 2)
  int : P.underlying ti = some (.int .i64)
  bytes : P.underlying tb = some (.slice te)
  byte : P.underlying te = some (.int .u8)
  kids : P.underlying tk = some (.slice t)
  ct : P.cellsOf t = 3
  ci : P.cellsOf ti = 1
  cb : P.cellsOf tb = 1
  ce : P.cellsOf te = 1
  ck : P.cellsOf tk = 1
theorem Shp.nodes {f : Nat} {t ti tb tk te : TypeId} (hT : NodeT P t ti tb tk te) (hnode : ∀ cs, Shp enc P w held f t cs → ∃ (x : Fo.El) (B : Option Addr) (m d : Nat) (A : Option Addr) (n c : Nat) (ks : List Value), cs.map (absC w) = nodeL x.t B m d A n c ∧ NdR w.heap.size (m0 w).get x B m d A n c ks)
    {cs : List Value} {tk' : TypeId} (hk : P.underlying tk' = some (.slice t)) (h : Shp enc P w held (f + 1) tk' cs) :
    ∃ (v : Value) (A : Option Addr) (n c : Nat) (F : Fo) (ks : List Value), cs = [v] ∧ absC w v = .slice A n c ∧ n ≤ c ∧ n = F.len ∧ Row w.heap.size (m0 w).get 3 A (n * 3) ks ∧ FoR w.heap.size (m0 w).get F ks := by
  obtain ⟨n, v, A, len, cap, l, hf, rfl, h2, h3, h4, h5, h6⟩ := h.slice hk (by rw [hT.ct]; omega)
  injection hf with hf
  subst hf
  rw [hT.ct] at h4 h5 h6
  have key : ∀ i, i ≤ len → ∃ F : Fo, F.len = i ∧ FoR w.heap.size (m0 w).get F ((l.map (absC w)).take (i * 3)) := by
    intro i
    induction i with
    | zero => intro _; exact ⟨.nil, rfl, by rw [Nat.zero_mul]; rfl⟩
    | succ i ih =>
      intro hi
      obtain ⟨F, e1, e2⟩ := ih (by omega)
      obtain ⟨x, B, m, d, A', n', c', ks', g1, g2⟩ := hnode _ (h6 i (by omega))
      refine ⟨F.app x.f, by rw [Fo.len_app, e1]; rfl, ?_⟩
      have e : (l.map (absC w)).take ((i + 1) * 3) = (l.map (absC w)).take (i * 3) ++ nodeL x.t B m d A' n' c' := by
        rw [← g1, Nat.add_mul, Nat.one_mul, List.take_add, List.map_take, List.map_drop]
      rw [e]
      exact e2.app g2.one
  obtain ⟨F, e1, e2⟩ := key len (Nat.le_refl _)
  rw [List.take_of_length_le (by simp; omega)] at e2
  exact ⟨v, A, len, cap, F, _, rfl, h2, h3, e1.symm, h4, e2⟩
theorem Shp.node {t ti tb tk te : TypeId} (hT : NodeT P t ti tb tk te) : ∀ (f : Nat) (cs : List Value), Shp enc P w held f t cs →
    ∃ (x : Fo.El) (B : Option Addr) (m d : Nat) (A : Option Addr) (n c : Nat) (ks : List Value), cs.map (absC w) = nodeL x.t B m d A n c ∧ NdR w.heap.size (m0 w).get x B m d A n c ks := by
  intro f
  induction f using Nat.strongRecOn with
  | ind f ih =>
    intro cs h
    obtain ⟨fs, hs, h0, h1, h2⟩ := hT.str
    obtain ⟨k, rfl, hl, hfl⟩ := h.struct hs
    simp only [Option.map_eq_some_iff] at h0 h1 h2
    obtain ⟨f0, e0, e0'⟩ := h0
    obtain ⟨f1, e1, e1'⟩ := h1
    obtain ⟨f2, e2, e2'⟩ := h2
    injection e0' with a0 b0
    injection e1' with a1 b1
    injection e2' with a2 b2
    have g0 := hfl 0 f0 e0
    have g1 := hfl 1 f1 e1
    have g2 := hfl 2 f2 e2
    rw [hT.ct] at hl
    rw [a0, b0, hT.ci, take_one (by omega)] at g0
    rw [a1, b1, hT.cb, take_one (by omega)] at g1
    rw [a2, b2, hT.ck, take_one (by omega)] at g2
    obtain ⟨z, z1, z2⟩ := g0.int hT.int
    obtain ⟨vb, B, m, d, lb, q0, q1, q2, q3⟩ := g1.bytes hT.bytes hT.byte hT.ce
    cases k with
    | zero =>
      obtain ⟨y, hy⟩ := g2
      rcases DataW.trod_slice hT.kids hy with ⟨_, h⟩ | ⟨a, len, cap, elems, rest, n, h, _⟩
      · simp [DataW.trod] at hy
      · simp [DataW.trod] at hy
    | succ k =>
      obtain ⟨vk, A, n, c, F, ks, p0, p1, p2, p3, p4, p5⟩ := g2.nodes hT (ih k (by omega)) hT.kids
      injection z1 with z1
      injection q0 with q0
      injection p0 with p0
      refine ⟨⟨z, lb, F⟩, B, m, d, A, n, c, ks, ?_, ⟨wf_i64 z2, q3, q2, p4, p2, p3, p5⟩⟩
      have hcs : cs = [cs[0], cs[1], cs[2]] := list_three hl (take_one (by omega)) (take_one (by omega)) (take_one (by omega))
      rw [hcs, z1, q0, p0]
      simp only [List.map_cons, List.map_nil, q1, p1]
      simp [absC, goodV]
end
end Go.Ga

namespace Go.Ga
open Go Go.Proofs
set_option maxRecDepth 100000
structure VrpC (P : Program) (tv tu tp ti tb ta te : TypeId) : Prop where
  cv : P.cellsOf tv = 20
  cu : P.cellsOf tu = 1
  cp : P.cellsOf tp = 18
  ci : P.cellsOf ti = 1
  cb : P.cellsOf tb = 1
  ca : P.cellsOf ta = 16
  ce : P.cellsOf te = 1
theorem vrpC : VrpC Tryd.prog 38 33 36 3 4 34 5 := ⟨by kernel_rfl, by kernel_rfl, by kernel_rfl, by kernel_rfl, by kernel_rfl, by kernel_rfl, by kernel_rfl⟩
section
variable {H : Type} {enc : TypeId × Value → H} {P : Program} {w : World} {held : Bool} {tv tu tp ti tb ta te : TypeId}
theorem one_cell {cs : List Value} {i : Nat} {v : Value} (h : (cs.drop i).take 1 = [v]) : cs[i]? = some v := by
  have : ((cs.drop i).take 1)[0]? = some v := by rw [h]; rfl
  rw [List.getElem?_take_of_lt (by omega), List.getElem?_drop] at this
  exact this
theorem flds3 {fs : Array Field} {a b c : TypeId × Nat} (h : fs.toList.map (fun f => (f.type, f.offset)) = [a, b, c]) :
    ∃ x y z, fs[0]? = some x ∧ fs[1]? = some y ∧ fs[2]? = some z ∧ (x.type, x.offset) = a ∧ (y.type, y.offset) = b ∧ (z.type, z.offset) = c := by
  obtain ⟨l⟩ := fs
  match l, h with
  | [x, y, z], h =>
    simp only [List.map_cons, List.map_nil, List.cons.injEq, and_true] at h
    exact ⟨x, y, z, rfl, rfl, rfl, h.1, h.2.1, h.2.2⟩
theorem Shp.arr16 {f : Nat} {cs : List Value} (ht : P.underlying ta = some (.array 16 te)) (he : P.underlying te = some (.int .u8)) (hc : P.cellsOf te = 1) (hct : P.cellsOf ta = 16) (h : Shp enc P w held f ta cs) : ∃ a : List UInt8, a.length = 16 ∧ cs = a.map u8V := by
  obtain ⟨n, rfl, hl, hx⟩ := h.array ht
  rw [hct] at hl
  have key : ∀ i, i < 16 → ∃ z : Int, cs[i]? = some (.int .u8 z) ∧ 0 ≤ z ∧ z ≤ 255 := fun i hi => by
    have := hx i hi
    rw [hc, Nat.mul_one] at this
    obtain ⟨z, h1, h2⟩ := this.int he
    exact ⟨z, one_cell h1, wf_u8 h2⟩
  refine ⟨(List.range 16).map fun i => UInt8.ofNat (intOf cs[i]?).toNat, by simp, ?_⟩
  refine List.ext_getElem? fun i => ?_
  rcases Nat.lt_or_ge i 16 with h | h
  · obtain ⟨z, h1, h2, h3⟩ := key i h
    rw [h1, List.map_map, List.getElem?_map, List.getElem?_range h]
    simp only [Option.map_some, Function.comp, h1, intOf, u8V]
    rw [UInt8.toNat_ofNat', Nat.mod_eq_of_lt (by omega)]
    congr 2; omega
  · rw [List.getElem?_eq_none (by omega), List.getElem?_eq_none (by simp; omega)]
theorem Shp.px {f : Nat} {cs : List Value} (T : PxT P tp tb ta te ti) (C : VrpC P tv tu tp ti tb ta te) (h : Shp enc P w held f tp cs) :
    ∃ (v6 : Bool) (a : List UInt8) (len : Int), a.length = 16 ∧ (-9223372036854775808 ≤ len ∧ len ≤ 9223372036854775807) ∧ cs = pxL v6 a len := by
  obtain ⟨fs, hs, hf, _⟩ := T.str
  obtain ⟨n, rfl, hl, hx⟩ := h.struct hs
  obtain ⟨x, y, z, e0, e1, e2, q0, q1, q2⟩ := flds3 hf
  injection q0 with a0 b0
  injection q1 with a1 b1
  injection q2 with a2 b2
  have g0 := hx 0 x e0
  have g1 := hx 1 y e1
  have g2 := hx 2 z e2
  rw [C.cp] at hl
  rw [a0, b0, C.cb] at g0
  rw [a1, b1, C.ca] at g1
  rw [a2, b2, C.ci] at g2
  obtain ⟨v6, r0⟩ := g0.bool T.bool
  obtain ⟨a, ha, r1⟩ := g1.arr16 T.arr T.byte C.ce C.ca
  obtain ⟨len, r2, r3⟩ := g2.int T.int
  refine ⟨v6, a, len, ha, wf_i64 r3, ?_⟩
  have c0 := one_cell r0
  have c2 := one_cell r2
  refine List.ext_getElem? fun i => ?_
  rcases Nat.lt_or_ge i 1 with h | h
  · obtain rfl : i = 0 := by omega
    rw [c0]; rfl
  · rcases Nat.lt_or_ge i 17 with h2 | h2
    · have : ((cs.drop 1).take 16)[i - 1]? = (a.map u8V)[i - 1]? := by rw [r1]
      rw [List.getElem?_take_of_lt (by omega), List.getElem?_drop, show 1 + (i - 1) = i by omega] at this
      rw [this, pxL, List.getElem?_cons, if_neg (by omega), List.getElem?_append_left (by simp [ha]; omega)]
    · rcases Nat.lt_or_ge i 18 with h3 | h3
      · obtain rfl : i = 17 := by omega
        rw [c2, pxL, List.getElem?_cons, if_neg (by omega), List.getElem?_append_right (by simp [ha])]
        simp [ha]
      · rw [List.getElem?_eq_none (by omega), List.getElem?_eq_none (by rw [pxL_len ha]; omega)]
theorem Shp.vrp {f : Nat} {cs : List Value} (T : PxT P tp tb ta te ti) (V : VpT P tv tu tp ti) (C : VrpC P tv tu tp ti tb ta te) (h : Shp enc P w held f tv cs) : ∃ v : Vp, v.wf ∧ cs = vpL v := by
  obtain ⟨fs, hs, hf, _⟩ := V.str
  obtain ⟨n, rfl, hl, hx⟩ := h.struct hs
  obtain ⟨x, y, z, e0, e1, e2, q0, q1, q2⟩ := flds3 hf
  injection q0 with a0 b0
  injection q1 with a1 b1
  injection q2 with a2 b2
  have g0 := hx 0 x e0
  have g1 := hx 1 y e1
  have g2 := hx 2 z e2
  rw [C.cv] at hl
  rw [a0, b0, C.cu] at g0
  rw [a1, b1, C.cp] at g1
  rw [a2, b2, C.ci] at g2
  obtain ⟨wa, r0, r4⟩ := g0.int V.u32
  obtain ⟨v6, a, len, ha, hlen, r1⟩ := g1.px T C
  obtain ⟨mx, r2, r3⟩ := g2.int V.int
  obtain ⟨s1, s2⟩ := wf_u32 r4
  have c0 := one_cell r0
  have c2 := one_cell r2
  refine ⟨⟨UInt32.ofNat wa.toNat, v6, a, len, mx⟩, ⟨ha, hlen, wf_i64 r3⟩, ?_⟩
  have hwa : u32V (UInt32.ofNat wa.toNat) = .int .u32 wa := by
    rw [u32V, UInt32.toNat_ofNat', Nat.mod_eq_of_lt (by omega)]
    congr 1; omega
  refine List.ext_getElem? fun i => ?_
  rw [vpL, hwa]
  rcases Nat.lt_or_ge i 1 with h | h
  · obtain rfl : i = 0 := by omega
    rw [c0]; rfl
  · rcases Nat.lt_or_ge i 19 with h2 | h2
    · have : ((cs.drop 1).take 18)[i - 1]? = (pxL v6 a len)[i - 1]? := by rw [r1]
      rw [List.getElem?_take_of_lt (by omega), List.getElem?_drop, show 1 + (i - 1) = i by omega] at this
      rw [this, List.getElem?_cons, if_neg (by omega), List.getElem?_append_left (by rw [pxL_len ha]; omega)]
    · rcases Nat.lt_or_ge i 20 with h3 | h3
      · obtain rfl : i = 19 := by omega
        rw [c2, List.getElem?_cons, if_neg (by omega), List.getElem?_append_right (by rw [pxL_len ha]; omega)]
        simp [pxL_len ha]
      · rw [List.getElem?_eq_none (by omega), List.getElem?_eq_none (by simp [pxL_len ha]; omega)]
theorem absC_vpL (v : Vp) : (vpL v).map (absC w) = vpL v := by
  have e : (v.a.map u8V).map (absC w) = v.a.map u8V := by
    rw [List.map_map]
    exact List.map_congr_left fun x _ => rfl
  simp only [vpL, pxL, List.map_cons, List.map_append, e, List.map_nil]
  rfl
theorem open_vrps (T : PxT P tp tb ta te ti) (V : VpT P tv tu tp ti) (C : VrpC P tv tu tp ti tb ta te) {tk : TypeId} (hk : P.underlying tk = some (.slice tv)) {r : Reach} {b0 : Nat} {v : Value} {d : DataW H} {ps : List MemPlace} (hval : Value.okWide P w r b0 tk v) (hd : DataW.Trod enc P w 0 (fun _ => true) held tk v d ps) :
    ∃ (A : Option Addr) (n c : Nat) (l : List Vp), absV w v = .slice A n c ∧ n ≤ c ∧ VpR w.heap.size (m0 w).get A n l := by
  obtain ⟨a, len, cap, rfl⟩ := WideShapes.okWide_slice hk hval
  obtain ⟨fuel, hf⟩ := hd
  obtain ⟨n, v, A, len', cap', l, rfl, h1, h2, h3, h4, h5, h6⟩ := Shp.slice hk (by rw [C.cv]; omega) ⟨_, hf⟩
  have hv : v = .slice a len cap := by
    simp only [Value.cells] at h1
    injection h1 with h1
    exact h1.symm
  subst hv
  rw [C.cv] at h4 h5 h6
  have key : ∀ i, i ≤ len' → ∃ L : List Vp, L.length = i ∧ (∀ x ∈ L, x.wf) ∧ l.take (i * 20) = vpsL L := by
    intro i
    induction i with
    | zero => intro _; exact ⟨[], rfl, (fun _ h => nomatch h), by simp [vpsL]⟩
    | succ i ih =>
      intro hi
      obtain ⟨L, e1, e2, e3⟩ := ih (by omega)
      obtain ⟨x, g1, g2⟩ := Shp.vrp T V C (h6 i (by omega))
      refine ⟨L ++ [x], by simp [e1], fun y hy => ?_, ?_⟩
      · rcases List.mem_append.1 hy with h | h
        · exact e2 y h
        · rw [List.mem_singleton.1 h]; exact g1
      · rw [Nat.add_mul, Nat.one_mul, List.take_add, e3, g2, vpsL_app]
        simp only [vpsL, List.append_nil]
  obtain ⟨L, e1, e2, e3⟩ := key len' (Nat.le_refl _)
  rw [List.take_of_length_le (by omega)] at e3
  have e4 : l.map (absC w) = vpsL L := by
    rw [e3]
    clear e1 e2 e3
    induction L with
    | nil => rfl
    | cons x L ih => rw [vpsL, List.map_append, absC_vpL, ih]
  rw [e4] at h4
  exact ⟨A, len', cap', L, h2, h3, ⟨h4, e1, e2⟩⟩
end
end Go.Ga
